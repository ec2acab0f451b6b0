/- Canonical runs: values and memories up to the names of blocks and the room behind slices. Over any program. -/
import Derived.Test.YticlaccbodpkeaaGreatDoorUa
import Derived.WalkKit
import Derived.ProofKit
import Derived.Lib.Hide
import Derived.RangeFuncRecord
import Derived.Laws.Append
import Derived.Laws.Entries
import Derived.Laws.StructEq
import Derived.ChangeKeysEq
import Derived.Laws.MakeOwn
import Derived.Deep.DeepAppendWide
import Derived.Lib.UnsafeStr
import Derived.Lib.Builder
import Derived.MapKept
import Derived.Laws.BytesArg
import Derived.Laws.RangeString
import Derived.Lib.OthersKept
import Derived.Lib.ConvBytes
import Derived.CallsIn
import Derived.OrdersIn
import Derived.RangeFuncNested
open Array renaming ext' → tv, getElem?_append_left → YU, getElem?_eq_getElem → sv, getElem?_eq_none → af3, getElem?_modify → YQ, getElem?_push → Ge, getElem?_setIfInBounds_ne → YR, getElem_modify → YW, getElem_toList → yp, length_toList → NY, range → Gk, toList_map → Sr
open Bool renaming and_eq_true → fV, false_eq_true → je, not_eq_true' → zT, not_false → NX, not_true → NW
open Go renaming Addr → cB, Code → iR, Deferred → zW, FuncId → aS, IntKind → qn, MapEntry → qp, Oper → dj, Operand → av, Program → aX, TypeDesc → oX, TypeId → aI, Value → ae, World → ay
open Go.Addr renaming add_lit → Gf
open Go.Builtin renaming append_ → Gl, firstCells → zV, nextslicecap → YV, zeroCells → DT
open Go.Call renaming operands → Je
open Go.Deferred renaming ofValue → Jl
open Go.Fence renaming wide → sB
open Go.Instr renaming checkKey → Jk, findNow → B5, keyThatStays → St, mapUpdate → Su, sureAddr → Gh
open Go.Lib renaming bytesCells → B8
open Go.MapKept renaming run_findKey → B6, run_getObj_map → B7, run_setObj_map → af2
open Go.Op renaming equal → yo, intArith → Jh, operands → sq
open Go.Region renaming wanted → N1
open Go.Result renaming andThen → uy, andThen_ok → cg
open Go.Sem renaming run → vS, run_bind → cA, run_pure → cR
open Go.World renaming cell? → DR, freeze → Gn, putObj_heap_other → Ss
open Int renaming le_refl → sw, toNat_natCast → fJ
open List renaming append_assoc → oY, drop_zero → gI, getElem?_append_left → qo, getElem?_append_right → su, getElem?_drop → pI, getElem?_eq_getElem → cj, getElem?_map → ka, getElem?_take → Jg, getElem_cons_zero → af1, length → tu, length_drop → lB, length_map → eR, length_take → kW, map_cons → c8, map_nil → iw, map_toArray → Gi, mem_cons_of_mem → jJ, mem_cons_self → lA, mem_of_getElem? → fD, pairwise_append → Sv, replicate → j8, size_toArray → jt, take_append_of_le_length → af0
open Nat renaming add_mul → qt, add_right_comm → Gg, le_refl → ai, le_succ_of_le → xc, le_trans → cy, lt_of_lt_of_le → cQ, mul_le_mul_right → zU, zero_add → ba
open Option renaming getD_some → tt, isSome_none → Sp, isSome_some → YT, map_eq_some_iff → nf, map_some → dC
open Pure renaming pure → kX
open UInt8 renaming ofNat → ar
set_option linter.unusedSimpArgs false
set_option linter.unusedVariables false
namespace Go.Proofs.YticlaccbodpkeaaGreatDoor
namespace Can
section
open Go Go.RowKit
inductive Kd where
 | ro | ex | gr
inductive aA where
 | od | dead
 | live (b:Nat×Nat) (sz n:Nat) (k:Kd)
 | obj (b:Nat)
 | loop (b:Nat)
inductive VR(β:Nat->aA):ae->ae->Prop where
 | undef (v':ae):VR β (.tuple #[]) v'
 | skip:VR β (.chan none) (.tuple #[])
 | bool (b:Bool):VR β (.bool b) (.bool b)
 | int (k:qn) (n:Int):VR β (.int k n) (.int k n)
 | float (k:FloatKind) (n:Nat):VR β (.float k n) (.float k n)
 | string (s:ByteArray):VR β (.string s) (.string s)
 | D5:VR β (.pointer none) (.pointer none)
 | ptr {l o:Nat} {b:Nat×Nat} {sz n:Nat} {k:Kd} (h:β l= .live b sz n k):VR β (.pointer (some ⟨l,o,none⟩)) (.pointer (some ⟨b.1,o+b.2,none⟩))
 | qA {l o:Nat} (a:cB) (h:β l= .dead):VR β (.pointer (some ⟨l,o,none⟩)) (.pointer (some a))
 | Af:VR β (.slice none 0 0) (.slice none 0 0)
 | sl {l o:Nat} {b:Nat×Nat} {sz n m c c':Nat} {k:Kd} (h:β l= .live b sz n k) (h1:m<=c) (h2:c<=c') (h3:c'<=maxLen) (h4:k≠ .ro->o+b.2+c'*sz<=n) (h5:k≠ .gr->c'=c) :
    VR β (.slice (some ⟨l,o,none⟩) m c) (.slice (some ⟨b.1,o+b.2,none⟩) m c')
 | xi (a:cB):VR β (.slice (some ⟨0,0,some 0⟩) 0 0) (.slice (some a) 0 0)
 | yy (a:cB) (c:Nat):VR β (.slice (some ⟨0,0,some 1⟩) 0 0) (.slice (some a) 0 c)
 | rq {l o m c c':Nat} (a:cB) (h:β l= .dead) (h2:c<=c'):VR β (.slice (some ⟨l,o,none⟩) m c) (.slice (some a) m c')
 | ru {l o:Nat} {b:Nat×Nat} {sz n:Nat} {k:Kd} (a:cB) (h:β l= .live b sz n k):VR β (.slice (some ⟨l,o,none⟩) 0 0) (.slice (some a) 0 0)
 | Od:VR β .nilFunc .nilFunc
 | fn (f:aS) {xa bs:Array ae} (h:xa.size=bs.size) (hi : ∀i (h1:i<xa.size) (h2:i<bs.size),VR β xa[i] bs[i]):VR β (.func (.func f) #[] xa) (.func (.func f) #[] bs)
 | GB {l b:Nat} (h:β l= .loop b):VR β (.func (.yield l) #[] #[]) (.func (.yield b) #[] #[])
 | Oe:VR β .nilIface .nilIface
 | iface (t:aI) {v v':ae} (h:VR β v v'):VR β (.iface t v) (.iface t v')
 | agg {xa bs:Array ae} (h:xa.size=bs.size) (hi : ∀i (h1:i<xa.size) (h2:i<bs.size),VR β xa[i] bs[i]):VR β (.agg xa) (.agg bs)
 | tuple {xa bs:Array ae} (h:xa.size=bs.size) (hi : ∀i (h1:i<xa.size) (h2:i<bs.size),VR β xa[i] bs[i]):VR β (.tuple xa) (.tuple bs)
 | Of:VR β (.map none) (.map none)
 | map {l b:Nat} (h:β l= .obj b):VR β (.map (some l)) (.map (some b))
 | iter {l b:Nat} (h:β l= .obj b):VR β (.chan (some l)) (.pointer (some ⟨b,0,none⟩))
def eS(β β':Nat->aA):Prop:=∀l,β' l=β l\/β l= .od\/(∃b sz n k,β l= .live b sz n k/\β' l= .dead)
theorem eS.refl(β:Nat->aA):eS β β:=λ_=> .inl rfl
theorem eS.trans{a b c:Nat->aA}(h:eS a b)(k:eS b c):eS a c:=λl=>by
 rcases h l with h | h | ⟨d,sz,n,e,h,h'⟩
 ·rcases k l with k | k | ⟨d,sz,n,e,k,k'⟩
  ·exact .inl (k.trans h)
  ·exact .inr (.inl (h▸k))
  exact .inr (.inr ⟨d,sz,n,e,h▸k,k'⟩)
 ·exact .inr (.inl h)
 rcases k l with k | k | ⟨g,f,n2,i,k,k'⟩
 ·exact .inr (.inr ⟨d,sz,n,e,h,k.trans h'⟩)
 ·rw[h'] at k;cases k
 rw[h'] at k;cases k
theorem VR.mono{β β':Nat->aA}(hx:eS β β'){v v':ae}(h:VR β v v'):VR β' v v':=by
 induction h with
 | undef v'=>exact .undef v'
 | skip=>exact .skip
 | bool b=>exact .bool b
 | int k n=>exact .int k n
 | float k n=>exact .float k n
 | string s=>exact .string s
 | D5=>exact .D5
 | @ptr l o b sz n k h=>
   rcases hx l with e | e | ⟨_,_,_,_,_,e⟩
   ·exact .ptr (e.trans h)
   ·rw[h] at e;cases e
   exact .qA _ e
 | @qA l o a h=>
   rcases hx l with e | e | ⟨_,_,_,_,e,_⟩
   ·exact .qA a (e.trans h)
   ·rw[h] at e;cases e
   rw[h] at e;cases e
 | Af=>exact .Af
 | @sl l o b sz n m c c' k h h1 h2 h3 h4 h5=>
   rcases hx l with e | e | ⟨_,_,_,_,_,e⟩
   ·exact .sl (e.trans h) h1 h2 h3 h4 h5
   ·rw[h] at e;cases e
   exact .rq _ e h2
 | xi a=>exact .xi a
 | yy a c=>exact .yy a c
 | @rq l o m c c' a h h2=>
   rcases hx l with e | e | ⟨_,_,_,_,e,_⟩
   ·exact .rq a (e.trans h) h2
   ·rw[h] at e;cases e
   rw[h] at e;cases e
 | @ru l o b sz n k a h=>
   rcases hx l with e | e | ⟨_,_,_,_,_,e⟩
   ·exact .ru a (e.trans h)
   ·rw[h] at e;cases e
   exact .rq a e (ai _)
 | Od=>exact .Od
 | fn f h hi d=>exact .fn f h d
 | @GB l b h=>
   rcases hx l with e | e | ⟨_,_,_,_,e,_⟩
   ·exact .GB (e.trans h)
   ·rw[h] at e;cases e
   rw[h] at e;cases e
 | Oe=>exact .Oe
 | iface t h d=>exact .iface t d
 | agg h hi d=>exact .agg h d
 | tuple h hi d=>exact .tuple h d
 | Of=>exact .Of
 | @map l b h=>
   rcases hx l with e | e | ⟨_,_,_,_,e,_⟩
   ·exact .map (e.trans h)
   ·rw[h] at e;cases e
   rw[h] at e;cases e
 | @iter l b h=>
   rcases hx l with e | e | ⟨_,_,_,_,e,_⟩
   ·exact .iter (e.trans h)
   ·rw[h] at e;cases e
   rw[h] at e;cases e
def aT (β:Nat->aA)(xa bs:List ae):Prop:=xa.length=bs.length/\∀(i:Nat) (v:ae),xa[i]? = some v->∃v',bs[i]? = some v'/\VR β v v'
theorem aT.mono{β β':Nat->aA}(hx:eS β β'){xa bs:List ae}(h:aT β xa bs):aT β' xa bs:=
 ⟨h.1,λi v hv=>let ⟨v',h1,h2⟩:=h.2 i v hv;⟨v',h1,h2.mono hx⟩⟩
theorem aT.nil(β:Nat->aA):aT β [] []:=⟨rfl,λi v h=>by simp at h⟩
theorem aT.cons{β:Nat->aA}{a b:ae}{xa bs:List ae}(h:VR β a b)(hs:aT β xa bs):aT β (a::xa) (b::bs):=by
 refine⟨by simp[hs.1],λi v hv=> ?_⟩;cases i with
 | zero=>simp at hv;subst hv;exact⟨b,rfl,h⟩
 | succ i=>simpa using hs.2 i v (by simpa using hv)
theorem aT.append{β:Nat->aA}{xa bs cs a:List ae}(h:aT β xa bs)(k:aT β cs a):aT β (xa++cs) (bs++a):=by
 refine⟨by simp[h.1,k.1],λi v hv=> ?_⟩;by_cases hi:i<xa.length
 ·rw[qo hi] at hv;obtain⟨v',h1,h2⟩:=h.2 i v hv;exact⟨v',by rw[qo (by have:=h.1;omega)];exact h1,h2⟩
 rw[su Om] at hv;obtain⟨v',h1,h2⟩:=k.2 _ v hv;exact⟨v',by rw[su (by have:=h.1;omega),<-h.1];exact h1,h2⟩
theorem aT.arr{β:Nat->aA}{xa bs:Array ae}:aT β xa.toList bs.toList↔xa.size=bs.size/\∀i (h1:i<xa.size) (h2:i<bs.size),VR β xa[i] bs[i]:=by
 constructor;·rintro⟨h1,h2⟩;refine⟨by simpa using h1,λi hi a=> ?_⟩;obtain⟨v',h3,h4⟩:=h2 i xa[i] (by simp[hi]);simp[a] at h3;rw[h3];exact h4
 rintro⟨h1,h2⟩;refine⟨by simpa using h1,λi v hv=> ?_⟩;obtain⟨hi,rfl⟩:=List.getElem?_eq_some_iff.1 hv;have b:i<xa.size:=by simpa using hi
 exact⟨bs[i]' Om,Sm,by simpa using h2 i b Om⟩
def isVal:ae->Bool
 | .tuple _=>false
 | .chan _=>false
 | _=>true
def a8:ae->Bool
 | .tuple _=>false
 | .agg _=>false
 | .chan _=>false
 | _=>true
theorem VR.cells{β:Nat->aA}{v v':ae}(h:VR β v v')(hv:isVal v=true):aT β v.cells.toList v'.cells.toList:=by
 cases h with
 | agg h hi=>exact aT.arr.2 ⟨h,hi⟩
 | undef=>cases hv
 | skip=>cases hv
 | tuple=>cases hv
 | bool b=>exact aT.cons (.bool b) (aT.nil β)
 | int k n=>exact aT.cons (.int k n) (aT.nil β)
 | float k n=>exact aT.cons (.float k n) (aT.nil β)
 | string s=>exact aT.cons (.string s) (aT.nil β)
 | D5=>exact aT.cons .D5 (aT.nil β)
 | ptr h=>exact aT.cons (.ptr h) (aT.nil β)
 | qA a h=>exact aT.cons (.qA a h) (aT.nil β)
 | Af=>exact aT.cons .Af (aT.nil β)
 | sl h h1 h2 h3 h4 h5=>exact aT.cons (.sl h h1 h2 h3 h4 h5) (aT.nil β)
 | xi a=>exact aT.cons (.xi a) (aT.nil β)
 | yy a c=>exact aT.cons (.yy a c) (aT.nil β)
 | rq a h h2=>exact aT.cons (.rq a h h2) (aT.nil β)
 | ru a h=>exact aT.cons (.ru a h) (aT.nil β)
 | Od=>exact aT.cons .Od (aT.nil β)
 | fn f h hi=>exact aT.cons (.fn f h hi) (aT.nil β)
 | GB h=>exact aT.cons (.GB h) (aT.nil β)
 | Oe=>exact aT.cons .Oe (aT.nil β)
 | iface t h=>exact aT.cons (.iface t h) (aT.nil β)
 | Of=>exact aT.cons .Of (aT.nil β)
 | map h=>exact aT.cons (.map h) (aT.nil β)
 | iter=>cases hv
theorem VR.a8{β:Nat->aA}{v v':ae}(h:VR β v v')(hv:a8 v=true):Can.a8 v'=true:=by
 cases h<;>first | rfl | cases hv
inductive dD where
 | od | dead
 | cells (cs:List ae) (e:aI) (k:Kd)
 | map (es:Array qp) (clock:Nat)
 | xj (s:ByteArray) (pos:Nat)
 | Ag (m:Nat)
 | fm (f:ByteArray->Option Int) (k:Nat)
 | loop (st:LoopState) (gv:Option (Option Nat)) (fr:Nat->ae) (key:Nat×Nat)
structure CH where
 nx:Nat
 ob:Nat->dD
def CH.set(H:CH)(l:Nat)(o:dD):CH:= { H with ob:=λk=>if k=l then o else H.ob k }
def CH.new(H:CH)(o:dD):CH:= { nx:=H.nx+1,ob:=λk=>if k=H.nx then o else H.ob k }
def dE (β:Nat->aA)(l:Nat)(e:aA):Nat->aA:=λk=>if k=l then e else β k
theorem eE{β:Nat->aA}{l:Nat}{e:aA}:dE β l e l=e:=by simp[dE]
theorem dT{β:Nat->aA}{l k:Nat}{e:aA}(h:k≠l):dE β l e k=β k:=by simp[dE,h]
def Ch (n:Nat)(fr:Nat×Nat):Prop:=fr.1=fr.2\/n<=fr.1
theorem Ch.no{n:Nat}{fr:Nat×Nat}(h:Ch n fr) : ∀i,i<n->(decide (fr.1<=i)&&decide (i<fr.2))=false:=λi hi=>by
 rcases h with h | h
 ·by_cases h2:fr.1<=i
  ·simp;omega
  simp[h2]
 have : ¬fr.1<=i:=by omega
 simp[this]
def Live (P:aX)(B:Nat)(β:Nat->aA)(w:ay)(b:Nat×Nat)(sz n:Nat)(k:Kd)(cs:List ae)(e:aI):Prop:=
 ∃(cs':Array ae) (e':aI) (fr:Nat×Nat),w.heap[b.1]? = some (.cells cs' e' fr)/\cs'.size=n/\cs.length+b.2<=n/\
  (∀(i:Nat) (v:ae),cs[i]? = some v->∃v',cs'[i+b.2]? = some v'/\VR β v v')/\(k≠ .ro->(P.info? e).map (·.size)=some sz)/\
  (k≠ .ro->e'=e/\B<=b.1/\Ch n fr)/\(k= .ro->b.1<B/\cs.length=n)/\(k= .ex->cs.length+b.2=n/\b.2=0)
def Js(β:Nat->aA)(w:ay)(b:Nat)(es:Array qp)(clock:Nat):Prop:=
 ∃a:Array qp,w.heap[b]? = some (.map a clock)/\a.size=es.size/\
  ∀i (h:i<es.size) (h':i<a.size),VR β es[i].key a[i].key/\VR β es[i].val a[i].val/\a[i].born=es[i].born
def Ci(w:ay)(b:Nat)(f:ByteArray->Option Int)(k:Nat):Prop:=
 ∃(es:Array qp) (clock:Nat),w.heap[b]? = some (.map es clock)/\(∀e∈es.toList,∃s n,e.key= .string s/\e.val= .int .i64 n/\s.size<=maxLen/\(Lit.int .i64 n).wf=true)/\es.toList.Pairwise (λx y=>x.key≠y.key)/\
  (∀e∈es.toList,∀s n,e.key= .string s->e.val= .int .i64 n->f s=some n)/\(∀s n,f s=some n->∃e∈es.toList,e.key= .string s/\e.val= .int .i64 n)/\
  es.size<=k/\k<=maxLen/\(∀e∈es.toList,e.born<clock)/\es.toList.Pairwise (λx y=>x.born≠y.born)
def mG:iR->List (Array Tmp×iR×iR)
 | .seq a b | .cond _ a b=>mG a++mG b
 | .block _ c | .loop c | .scope c=>mG c
 | .rangeFunc _ ps a b=>(ps,a,b)::(mG a++mG b)
 | _=> []
def keyOf(P:aX)(key:Nat×Nat):Option (Nat×Array Tmp×iR×iR):=
 match P.funcs[key.1]? with
 | some fn=>match fn.body with
   | some c=>((mG c)[key.2]?).map λx=>(fn.ntmps,x)
   | none=>none
 | none=>none
def SH:Option Nat->iR
 | none=> .ret
 | some i=> .exit i
def Jt(P:aX)(β:Nat->aA)(w:ay)(b:Nat)(st:LoopState)(gv:Option (Option Nat))(fr:Nat->ae)(key:Nat×Nat):Prop:=
 ∃(r:Loop) (N:Nat),w.heap[b]? = some (.loop r)/\r.state=st/\r.pending=gv.map SH/\keyOf P key=some (N,r.params,r.assign,r.body)/\N<=r.tmps.size/\∀t,VR β (fr t) (r.tmps.getD t undef)
def Cj(P:aX)(B:Nat)(β:Nat->aA)(w:ay):aA->dD->Prop
 | .od, .od=>True
 | .dead, .dead=>True
 | .live b sz n k, .cells cs e k'=>k=k'/\Live P B β w b sz n k cs e
 | .obj b, .map es clock=>B<=b/\Js β w b es clock
 | .obj b, .xj s pos=>B<=b/\w.heap[b]? = some (.stringIter s pos)
 | .obj b, .fm f k=>B<=b/\Ci w b f k
 | .obj b, .Ag m=>B<=b/\∃(c a last:Nat) (seen:Array Nat),β m= .obj c/\w.heap[b]? = some (.mapIter (some c) a seen last)
 | .loop b, .loop st gv fr key=>B<=b/\Jt P β w b st gv fr key
 | _,_=>False
def aA.owns:aA->Nat->Prop
 | .live b _ _ k,a=>k≠ .ro/\b.1=a
 | .obj b,a=>b=a
 | .loop b,a=>b=a
 | _,_=>False
def Og (β:Nat->aA):Prop:=∀l b sz n,β l= .live b sz n .ro->b=(l,0)
theorem Og.dE{β:Nat->aA}(h:Og β){l:Nat}{E:aA}(a : ∀b sz n,E≠ .live b sz n .ro):Og (dE β l E):=λk b sz n e=>by
 by_cases hk:k=l
 ·subst hk;rw[eE] at e;exact absurd e (a b sz n)
 rw[dT hk] at e;exact h k b sz n e
structure aP(P:aX)(B:Nat)(β:Nat->aA)(H:CH)(w:ay):Prop where
 iV : ∀l,Cj P B β w (β l) (H.ob l)
 nx : ∀l,H.nx<=l->H.ob l= .od
 inj : ∀l l' b,(β l).owns b->(β l').owns b->l=l'
 base:B<=w.heap.size
 ro:Og β
def Out (β:Nat->aA)(b:Nat):Prop:=∀l,¬(β l).owns b
structure cd(β:Nat->aA)(w:ay)(β':Nat->aA)(w':ay):Prop where
 os:w'.os=w.os
 tape:w'.tape=w.tape
 output:w'.output=w.output
 size:w.heap.size<=w'.heap.size
 dk : ∀b,b<w.heap.size->Out β b->w'.heap[b]? = w.heap[b]? /\Out β' b
 ext:eS β β'
theorem cd.refl(β:Nat->aA)(w:ay):cd β w β w:=⟨rfl,rfl,rfl,ai _,λ_ _ h=>⟨rfl,h⟩,eS.refl β⟩
theorem cd.trans{β β' β'':Nat->aA}{w w' a:ay}(h:cd β w β' w')(k:cd β' w' β'' a):cd β w β'' a:=
 ⟨k.os.trans h.os,k.tape.trans h.tape,k.output.trans h.output,cy h.size k.size,λb hb ho=>by
   obtain⟨h1,h2⟩:=h.dk b hb ho;obtain⟨c,d⟩:=k.dk b (cQ hb h.size) h2;exact⟨c.trans h1,d⟩,h.ext.trans k.ext⟩
theorem aP.od{P:aX}{B:Nat}{β:Nat->aA}{H:CH}{w:ay}(h:aP P B β H w):β H.nx= .od:=by
 have h1:=h.iV H.nx;rw[h.nx _ (ai _)] at h1;cases hb:β H.nx<;>rw[hb] at h1<;>first | rfl | exact h1.elim
theorem aP.live{P:aX}{B:Nat}{β:Nat->aA}{H:CH}{w:ay}(h:aP P B β H w){l:Nat}{b:Nat×Nat}{sz n:Nat}{k:Kd}(hl:β l= .live b sz n k) :
 ∃cs e,H.ob l= .cells cs e k/\Live P B β w b sz n k cs e:=by
 have h1:=h.iV l;rw[hl] at h1;cases ho:H.ob l with
 | cells cs e k'=>rw[ho] at h1;obtain⟨rfl,h2⟩:=h1;exact⟨cs,e,rfl,h2⟩
 | _=>rw[ho] at h1;exact h1.elim
theorem aP.cells{P:aX}{B:Nat}{β:Nat->aA}{H:CH}{w:ay}(h:aP P B β H w){l:Nat}{cs:List ae}{e:aI}{k:Kd}(ho:H.ob l= .cells cs e k) :
 ∃b sz n,β l= .live b sz n k/\Live P B β w b sz n k cs e:=by
 have h1:=h.iV l;rw[ho] at h1;cases hb:β l with
 | live b sz n k'=>rw[hb] at h1;obtain⟨rfl,h2⟩:=h1;exact⟨b,sz,n,rfl,h2⟩
 | _=>rw[hb] at h1;exact h1.elim
theorem Live.mono{P:aX}{B:Nat}{β β':Nat->aA}{w w':ay}{b:Nat×Nat}{sz n:Nat}{k:Kd}{cs:List ae}{e:aI}(h:Live P B β w b sz n k cs e)(hx:eS β β')(hw:w'.heap[b.1]? = w.heap[b.1]?) :
 Live P B β' w' b sz n k cs e:=by
 obtain⟨cs',e',fr,h1,h2,h3,h4,h5⟩:=h;exact⟨cs',e',fr,hw.trans h1,h2,h3,λi v hv=>let ⟨v',a,b⟩:=h4 i v hv;⟨v',a,b.mono hx⟩,h5⟩
theorem Js.mono{β β':Nat->aA}{w w':ay}{b:Nat}{es:Array qp}{c:Nat}(h:Js β w b es c)(hx:eS β β')(hw:w'.heap[b]? = w.heap[b]?):Js β' w' b es c:=by
 obtain⟨d,h1,h2,h3⟩:=h;exact⟨d,hw.trans h1,h2,λi hi e=>let ⟨a,b,c⟩:=h3 i hi e;⟨a.mono hx,b.mono hx,c⟩⟩
theorem Jt.mono{P:aX}{β β':Nat->aA}{w w':ay}{b:Nat}{st:LoopState}{gv:Option (Option Nat)}{fr:Nat->ae}{key:Nat×Nat}(h:Jt P β w b st gv fr key)(hx:eS β β')(hw:w'.heap[b]? = w.heap[b]?):Jt P β' w' b st gv fr key:=by
 obtain⟨r,N,h1,h2,h3,h4,h5,a⟩:=h;exact⟨r,N,hw.trans h1,h2,h3,h4,h5,λt=>(a t).mono hx⟩
theorem Cj.mono{P:aX}{B:Nat}{β β':Nat->aA}{w w':ay}{E:aA}{o:dD}(h:Cj P B β w E o)(hx:eS β β')(hw : ∀b,(∃z sz n k,E= .live (b,z) sz n k)\/E= .obj b\/E= .loop b->w'.heap[b]? = w.heap[b]?) :
 Cj P B β' w' E o:=by
 cases E<;>cases o<;>try exact h
 ·exact⟨h.1,h.2.mono hx (hw _ (.inl ⟨_,_,_,_,rfl⟩))⟩
 ·exact⟨h.1,h.2.mono hx (hw _ (.inr (.inl rfl)))⟩
 ·exact⟨h.1,(hw _ (.inr (.inl rfl))).trans h.2⟩
 ·obtain⟨h1,d,a,last,seen,h2,h3⟩:=h;refine⟨h1,d,a,last,seen,?_,(hw _ (.inr (.inl rfl))).trans h3⟩;rcases hx _ with g | g | ⟨_,_,_,_,g,_⟩
  ·exact g.trans h2
  ·rw[h2] at g;cases g
  rw[h2] at g;cases g
 ·obtain⟨h1,es,c,h2,h3⟩:=h;exact⟨h1,es,c,(hw _ (.inr (.inl rfl))).trans h2,h3⟩
 exact⟨h.1,h.2.mono hx (hw _ (.inr (.inr rfl)))⟩
theorem aP.load{P:aX}{B:Nat}{β:Nat->aA}{H:CH}{w:ay}(h:aP P B β H w){l o:Nat}{v':ae}{cs:List ae}{e:aI}{k:Kd}
 (hp:VR β (.pointer (some ⟨l,o,none⟩)) v') (ho:H.ob l= .cells cs e k) :
 ∃b z,v'= .pointer (some ⟨b,o+z,none⟩)/\∀(i:Nat) (v:ae),cs[i]? = some v->∃u,w.cell? ⟨b,i+z,none⟩=some u/\VR β v u:=by
 obtain⟨b,sz,n,hb,cs',e',fr,h1,h2,h3,h4,h5⟩:=h.cells ho;cases hp with
 | qA a hd=>rw[hb] at hd;cases hd
 | ptr hl=>
   rw[hb] at hl;cases hl;refine⟨b.1,b.2,rfl,λi v hv=> ?_⟩;obtain⟨u,hu,c⟩:=h4 i v hv;exact⟨u,by simp[DR,h1,hu],c⟩
theorem tE{P:aX}{B:Nat}{β:Nat->aA}{H:CH}{w:ay}(h:aP P B β H w){l b:Nat}(ho:(β l).owns b):B<=b/\b<w.heap.size:=by
 have h1:=h.iV l;cases hb:β l with
 | live g sz n k=>
   rw[hb] at ho;obtain⟨hk,rfl⟩:=ho;obtain⟨cs,e,_,cs',e',fr,h1,_,_,_,_,h5,_⟩:=h.live hb;exact⟨(h5 hk).2.1,(Array.getElem?_eq_some_iff.1 h1).1⟩
 | obj g=>
   rw[hb] at ho h1;cases ho;cases a:H.ob l with
   | map es c=>
     rw[a] at h1;obtain⟨i,h2,_⟩:=h1.2;exact⟨h1.1,(Array.getElem?_eq_some_iff.1 h2).1⟩
   | xj s pos=>
     rw[a] at h1;exact⟨h1.1,(Array.getElem?_eq_some_iff.1 h1.2).1⟩
   | fm f k=>
     rw[a] at h1;obtain⟨d,_,_,h3,_⟩:=h1;exact⟨d,(Array.getElem?_eq_some_iff.1 h3).1⟩
   | Ag m=>
     rw[a] at h1;obtain⟨d,_,_,_,_,_,h3⟩:=h1;exact⟨d,(Array.getElem?_eq_some_iff.1 h3).1⟩
   | _=>rw[a] at h1;exact h1.elim
 | loop g=>
   rw[hb] at ho h1;cases ho;cases a:H.ob l with
   | loop st gv fr key=>
     rw[a] at h1;obtain⟨r,N,h2,_⟩:=h1.2;exact⟨h1.1,(Array.getElem?_eq_some_iff.1 h2).1⟩
   | _=>rw[a] at h1;exact h1.elim
 | _=>rw[hb] at ho;exact ho.elim
theorem agq{P:aX}{B:Nat}{β:Nat->aA}{H:CH}{w:ay}(h:aP P B β H w){l:Nat}{b:Nat×Nat}{sz n:Nat}{k:Kd}(hb:β l= .live b sz n k):b.1<w.heap.size:=by
 obtain⟨cs,e,_,cs',e',fr,h1,_⟩:=h.live hb;exact(Array.getElem?_eq_some_iff.1 h1).1
theorem Za{P:aX}{B:Nat}{β:Nat->aA}{H:CH}{w:ay}(h:aP P B β H w){l b:Nat}(hb:β l= .obj b):b<w.heap.size:=
 (tE h (l:=l) (b:=b) (by rw[hb];rfl)).2
theorem Zb{P:aX}{B:Nat}{β:Nat->aA}{H:CH}{w:ay}(h:aP P B β H w){l b:Nat}(hb:β l= .loop b):b<w.heap.size:=
 (tE h (l:=l) (b:=b) (by rw[hb];rfl)).2
theorem Ck{P:aX}{B:Nat}{β:Nat->aA}{H:CH}{w:ay}(h:aP P B β H w){l b:Nat}(hb:(∃z sz n k,β l= .live (b,z) sz n k)\/β l= .obj b\/β l= .loop b):b<w.heap.size:=by
 rcases hb with ⟨z,sz,n,k,hb⟩ | hb | hb
 ·exact agq h hb
 ·exact Za h hb
 exact Zb h hb
theorem SI{P:aX}{B:Nat}{β:Nat->aA}{H:CH}{w:ay}(h:aP P B β H w){l l':Nat}{b:Nat×Nat}{sz n:Nat}{k:Kd}(hb:β l= .live b sz n k)(hk:k≠ .ro){a:Nat}
 (hl:(∃z sz n k,β l'= .live (a,z) sz n k)\/β l'= .obj a\/β l'= .loop a) (aB:l'≠l):a≠b.1:=by
 intro he;have ho:(β l).owns a:=by rw[hb];exact⟨hk,he.symm⟩
 have f:=(tE h ho).1;rcases hl with ⟨g,og,n',k',hl⟩ | hl | hl
 ·by_cases c:k'= .ro
  ·obtain⟨cs,e,_,cs',e',fr,_,_,_,_,_,_,d,_⟩:=h.live hl;have:a<B:=(d c).1;omega
  exact aB (h.inj _ _ a (by rw[hl];exact⟨c,rfl⟩) ho)
 ·exact aB (h.inj _ _ a (by rw[hl];rfl) ho)
 exact aB (h.inj _ _ a (by rw[hl];rfl) ho)
theorem aP.store{P:aX}{B:Nat}{β:Nat->aA}{H:CH}{w:ay}(h:aP P B β H w){l o:Nat}{b:Nat×Nat}{sz n:Nat}{cs:List ae}{e:aI}{k:Kd}(hb:β l= .live b sz n k)(ho:H.ob l= .cells cs e k)(hk:k≠ .ro)
 (y:o<cs.length) {u c:ae} (hu:VR β u c) :
 (∃x,w.cell? ⟨b.1,o+b.2,none⟩=some x)/\w.frozen? ⟨b.1,o+b.2,none⟩=false/\aP P B β (H.set l (.cells (cs.set o u) e k)) (w.setCell ⟨b.1,o+b.2,none⟩ c)/\cd β w β (w.setCell ⟨b.1,o+b.2,none⟩ c):=by
 obtain⟨z,A,f,cs',e',fr,h1,h2,h3,h4,h5,g,r,s⟩:=h.live hb;rw[ho] at f;cases f;have t:(w.setCell ⟨b.1,o+b.2,none⟩ c).heap[b.1]? = some (.cells (cs'.setIfInBounds (o+b.2) c) e' fr):=by
  simp[World.setCell,YQ,h1]
 have j : ∀d,d≠b.1->(w.setCell ⟨b.1,o+b.2,none⟩ c).heap[d]? = w.heap[d]? :=λd aB=>Below.heap_setCell _ _ _ _ aB;refine⟨⟨cs'[o+b.2]' Om,by simp[DR,h1]⟩,?_,⟨λl'=> ?_,λl' hl=> ?_,h.inj,by simpa using h.base,h.ro⟩,⟨rfl,rfl,rfl,Sm,λd m q=>⟨j d ?_,q⟩,eS.refl β⟩⟩;·have:=(g hk).2.2.no (o+b.2) Om;simp only[World.frozen?,h1];exact this
 ·by_cases hl:l'=l
  ·subst hl;simp only[CH.set,iT,hb];refine⟨rfl,cs'.setIfInBounds (o+b.2) c,e',fr,t,by simpa using h2,by simpa using h3,λi v hv=> ?_,h5,g,by simpa using r,by simpa using s⟩;by_cases hi:i=o
   ·subst hi;rw[List.getElem?_set_self Om] at hv;cases hv;exact⟨c,by simp[Array.getElem?_setIfInBounds_self];omega,hu⟩
   rw[List.getElem?_set_ne Om] at hv;obtain⟨v',a,b⟩:=h4 i v hv;exact⟨v',by rw[YR Om];exact a,b⟩
  simp only[CH.set,iN hl];exact(h.iV l').mono (eS.refl β) λd m=>j d (SI h hb hk m hl)
 ·have:l'≠l:=λe=>by subst e;rw[h.nx _ hl] at ho;cases ho
  simp only[CH.set,iN this];exact h.nx _ hl
 intro he;exact q l (by rw[hb];exact⟨hk,he.symm⟩)
theorem aP.alloc{P:aX}{B:Nat}{β:Nat->aA}{H:CH}{w:ay}(h:aP P B β H w){cs:List ae}{cs':Array ae}{e:aI}{sz:Nat}(k:Kd)(hk:k≠ .ro)(he:(P.info? e).map (·.size)=some sz)
 (hl:cs.length<=cs'.size) (hx:k= .ex->cs.length=cs'.size) (hc : ∀(i:Nat) (v:ae),cs[i]? = some v->∃v',cs'[i]? = some v'/\VR β v v')
 {fr:Nat×Nat} (m:Ch cs'.size fr) {w':ay} (hw:w'.heap=w.heap.push (.cells cs' e fr)) (n:w'.os=w.os) (o:w'.tape=w.tape) (f:w'.output=w.output) :
 aP P B (dE β H.nx (.live (w.heap.size,0) sz cs'.size k)) (H.new (.cells cs e k)) w'/\cd β w (dE β H.nx (.live (w.heap.size,0) sz cs'.size k)) w':=by
 have q:=h.od;have g:eS β (dE β H.nx (.live (w.heap.size,0) sz cs'.size k)):=λl=>by
  by_cases hl:l=H.nx
  ·subst hl;exact .inr (.inl q)
  exact .inl (dT hl)
 have c : ∀b,b<w.heap.size->w'.heap[b]? = w.heap[b]? :=λb hb=>by rw[hw,Ge,iN Om]
 have r:w'.heap[w.heap.size]? = some (.cells cs' e fr):=by rw[hw];simp
 have s:w'.heap.size=w.heap.size+1:=by rw[hw];simp
 refine⟨⟨λl=> ?_,λl hl=> ?_,λl l' b ho d=> ?_,by rw[s];exact xc h.base,h.ro.dE λ_ _ _ e=>(by cases e;exact hk rfl)⟩,⟨n,o,f,Om,λb hb f=>⟨c b hb,λl ho=> ?_⟩,g⟩⟩
 ·by_cases j:l=H.nx
  ·subst j;simp only[eE,CH.new,iT];exact⟨rfl,cs',e,fr,r,rfl,by simpa using hl,λi v hv=>let ⟨v',a,b⟩:=hc i v hv;⟨v',by simpa using a,b.mono g⟩,λ_=>he,λ_=>⟨rfl,h.base,m⟩,λe=>absurd e hk,λe=>⟨by simpa using hx e,rfl⟩⟩
  simp only[dT j,CH.new,iN j];refine(h.iV l).mono g λb hb=>c b ?_;exact Ck h hb
 ·have:l≠H.nx:=by simp[CH.new] at hl;omega
  simp only[CH.new,iN this];exact h.nx l (by simp[CH.new] at hl;omega)
 ·by_cases h1:l=H.nx<;>by_cases h2:l'=H.nx
  ·rw[h1,h2]
  ·subst h1;rw[eE] at ho;rw[dT h2] at d;have:=(tE h d).2;have:=ho.2;omega
  ·subst h2;rw[eE] at d;rw[dT h1] at ho;have:=(tE h ho).2;have:=d.2;omega
  rw[dT h1] at ho;rw[dT h2] at d;exact h.inj _ _ b ho d
 by_cases h1:l=H.nx
 ·subst h1;rw[eE] at ho;have:=ho.2;omega
 rw[dT h1] at ho;exact f l ho
end
section
open Go Go.RowKit
variable {P:aX} {B:Nat}
theorem aP.drew{β:Nat->aA}{H:CH}{w:ay}(h:aP P B β H w):aP P B β H w.drew/\cd β w β w.drew:=
 ⟨⟨λl=>(h.iV l).mono (eS.refl β) λb _=>rfl,h.nx,h.inj,h.base,h.ro⟩,⟨rfl,rfl,rfl,ai _,λ_ _ ho=>⟨rfl,ho⟩,eS.refl β⟩⟩
theorem aP.kill{β:Nat->aA}{H:CH}{w:ay}(h:aP P B β H w){l:Nat}{b:Nat×Nat}{sz n:Nat}{k:Kd}(hb:β l= .live b sz n k) :
 aP P B (dE β l .dead) (H.set l .dead) w/\cd β w (dE β l .dead) w:=by
 have c:eS β (dE β l .dead):=λl'=>by
  by_cases e:l'=l
  ·subst e;exact .inr (.inr ⟨b,sz,n,k,hb,eE⟩)
  exact .inl (dT e)
 refine⟨⟨λl'=> ?_,λl' hl=> ?_,λf g d h1 h2=> ?_,h.base,h.ro.dE λ_ _ _ e=>(by cases e)⟩,⟨rfl,rfl,rfl,ai _,λd j ho=>⟨rfl,λl' h1=> ?_⟩,c⟩⟩
 ·by_cases e:l'=l
  ·subst e;simp only[eE,CH.set,iT];trivial
  simp only[dT e,CH.set,iN e];exact(h.iV l').mono c λ_ _=>rfl
 ·have:l'≠l:=λe=>by
   subst e;obtain⟨cs,e,ho,_⟩:=h.live hb;rw[h.nx _ hl] at ho;cases ho
  simp only[CH.set,iN this];exact h.nx _ hl
 ·have a:f≠l:=λe=>by subst e;rw[eE] at h1;exact h1
  have i:g≠l:=λe=>by subst e;rw[eE] at h2;exact h2
  rw[dT a] at h1;rw[dT i] at h2;exact h.inj _ _ d h1 h2
 have a:l'≠l:=λe=>by subst e;rw[eE] at h1;exact h1
 rw[dT a] at h1;exact ho l' h1
theorem aP.pad{β:Nat->aA}{H:CH}{w:ay}(h:aP P B β H w){l:Nat}{b:Nat×Nat}{sz n:Nat}{cs:List ae}{e:aI}{k:Kd}(hb:β l= .live b sz n k)(ho:H.ob l= .cells cs e k)(m:Nat)(j:cs.length+b.2+m<=n) :
 aP P B β (H.set l (.cells (cs++j8 m undef) e k)) w:=by
 obtain⟨o,q,a,cs',e',fr,h1,h2,h3,h4,h5,d,c,f⟩:=h.live hb;rw[ho] at a;cases a;refine⟨λl'=> ?_,λl' hl=> ?_,h.inj,h.base,h.ro⟩
 ·by_cases hl:l'=l
  ·subst hl;simp only[CH.set,iT,hb];refine⟨rfl,cs',e',fr,h1,h2,Sq,λi v hv=> ?_,h5,d,λhk=>⟨(c hk).1,by have:=(c hk).2;simp;omega⟩,λhk=>by have:=f hk;simp;omega⟩;by_cases hi:i<cs.length
   ·rw[qo hi] at hv;exact h4 i v hv
   rw[su Om] at hv;obtain⟨g,hv⟩:=List.getElem?_eq_some_iff.1 hv;simp at g;have:v=undef:=by rw[<-hv];simp
   subst this;exact⟨cs'[i+b.2]' Om,Sm, .undef _⟩
  simp only[CH.set,iN hl];exact h.iV l'
 have:l'≠l:=λe=>by subst e;rw[h.nx _ hl] at ho;cases ho
 simp only[CH.set,iN this];exact h.nx _ hl
theorem aP.rename{β:Nat->aA}{H:CH}{w:ay}(h:aP P B β H w){l:Nat}{b:Nat×Nat}{sz n:Nat}{cs:List ae}{e:aI}{k:Kd}(hb:β l= .live b sz n k)(ho:H.ob l= .cells cs e k)(hk:k≠ .ro)(o j:Nat)(z:o<=cs.length) :
 aP P B (dE (dE β l .dead) H.nx (.live (b.1,o+b.2) sz n .gr)) ((H.set l .dead).new (.cells ((cs.drop o).take j) e .gr)) w/\cd β w (dE (dE β l .dead) H.nx (.live (b.1,o+b.2) sz n .gr)) w:=by
 obtain⟨h',m⟩:=h.kill hb;obtain⟨E,F,s,cs',e',fr,h1,h2,h3,h4,h5,t,G,I⟩:=h.live hb;rw[ho] at s;cases s;have u:=h'.od;have d:(H.set l .dead).nx=H.nx:=rfl;rw[d] at u;have aB:H.nx≠l:=λe=>by rw[<-e,h.nx _ (ai _)] at ho;cases ho
 have q:eS (dE β l .dead) (dE (dE β l .dead) H.nx (.live (b.1,o+b.2) sz n .gr)):=λl'=>by
  by_cases e:l'=H.nx
  ·subst e;exact .inr (.inl u)
  exact .inl (dT e)
 have x : ∀l',(dE β l .dead l').owns b.1->False:=λl' f=>by
  have c:l'≠l:=λe=>by subst e;rw[eE] at f;exact f
  rw[dT c] at f;exact c (h.inj _ _ b.1 f (by rw[hb];exact⟨hk,rfl⟩))
 refine⟨⟨λl'=> ?_,λl' hl=> ?_,λA C r g1 g2=> ?_,h.base,h'.ro.dE λ_ _ _ e=>(by cases e)⟩,⟨rfl,rfl,rfl,ai _,λr D y=>⟨rfl,λl' h1=> ?_⟩,m.ext.trans q⟩⟩
 ·by_cases c:l'=H.nx
  ·subst c;simp only[eE,CH.new,d,iT];exact⟨rfl,cs',e,fr,by rw[h1,(t hk).1],h2,Sq,(λi v hv=>by
    rw[Jg] at hv;split at hv;·rw[pI] at hv;obtain⟨v',a,b⟩:=h4 (o+i) v hv;exact⟨v',by rw[<-Nat.add_assoc,Nat.add_comm i o];exact a,(b.mono m.ext).mono q⟩
    cases hv),λ_=>h5 hk,λ_=>⟨rfl,(t hk).2⟩,λe=>(by cases e),λe=>(by cases e)⟩
  simp only[dT c,CH.new,d,iN c];exact(h'.iV l').mono q λ_ _=>rfl
 ·have c:l'≠H.nx:=by simp[CH.new,d] at hl;omega
  simp only[CH.new,d,iN c];exact h'.nx l' (by simp[CH.new,d] at hl⊢;omega)
 ·by_cases c:A=H.nx<;>by_cases g:C=H.nx
  ·rw[c,g]
  ·subst c;rw[eE] at g1;rw[dT g] at g2;rw[<-g1.2] at g2;exact(x _ g2).elim
  ·subst g;rw[eE] at g2;rw[dT c] at g1;rw[<-g2.2] at g1;exact(x _ g1).elim
  rw[dT c] at g1;rw[dT g] at g2;exact h'.inj _ _ r g1 g2
 by_cases c:l'=H.nx
 ·subst c;rw[eE] at h1;exact y l (by rw[hb];exact⟨hk,h1.2⟩)
 rw[dT c] at h1;exact(m.dk r D y).2 l' h1
def setCells(cs:List ae)(o:Nat)(us:List ae):List ae:=cs.take o++us++cs.drop (o+us.length)
theorem Oh{cs us:List ae}{o:Nat}(h:o+us.length<=cs.length):(setCells cs o us).length=cs.length:=by
 simp[setCells];omega
theorem Ze{cs us:List ae}{o:Nat}{u:ae}(h:o+(us.length+1)<=cs.length):setCells (cs.set o u) (o+1) us=setCells cs o (u::us):=by
 unfold setCells;rw[List.take_set,List.drop_set_of_lt Om];have:cs.take (o+1)=cs.take o++ [cs[o]' Om]:=by rw[List.take_succ_eq_append_getElem Om]
 rw[this,List.set_append_right _ _ Sq,kW];simp[show min o cs.length=o by omega];congr 1;omega
theorem CH.set_set(H:CH)(l:Nat)(a b:dD):(H.set l a).set l b=H.set l b:=by
 unfold CH.set;congr 1;funext k;by_cases e:k=l<;>simp[e]
theorem CH.agr{H:CH}{l:Nat}{a:dD}(h:H.ob l=a):H.set l a=H:=by
 unfold CH.set;cases H;congr 1;funext k
 by_cases e:k=l
 ·subst e;simp;exact h.symm
 simp[e]
theorem aP.Zf : ∀ {us us':List ae} {β:Nat->aA} {H:CH} {w:ay} (h:aP P B β H w) {l o:Nat} {b:Nat×Nat} {sz n:Nat} {cs:List ae} {e:aI} {k:Kd} (i:Nat) (hb:β l= .live b sz n k) (ho:H.ob l= .cells cs e k) (hk:k≠ .ro)
 (a:o+i+us.length<=cs.length) (hu:aT β us us') (hc : ∀u∈us,a8 u=true),
 ∃w',(storeCells ⟨b.1,o+b.2,none⟩ us' i).run P w= .ok () w'/\aP P B β (H.set l (.cells (setCells cs (o+i) us) e k)) w'/\cd β w β w'
 | [],us',β,H,w,h,l,o,b,sz,n,cs,e,k,i,hb,ho,hk,a,hu,hc=>by
   have:us'= []:=List.length_eq_zero_iff.1 (by simpa using hu.1.symm);subst this;refine⟨w,rfl,?_,cd.refl β w⟩;have:setCells cs (o+i) []=cs:=by simp[setCells]
   rw[this,CH.agr ho];exact h
 | u::us,us',β,H,w,h,l,o,b,sz,n,cs,e,k,i,hb,ho,hk,a,hu,hc=>by
   match us',hu with
   | [],hu=>exact absurd hu.1 Sm
   | u'::us',hu=>
     have d:VR β u u':=by
      obtain⟨v',h1,h2⟩:=hu.2 0 u rfl;simp at h1;subst h1;exact h2
     have f:aT β us us':=⟨by simpa using hu.1,λi v hv=>by simpa using hu.2 (i+1) v (by simpa using hv)⟩;have g:o+i+(us.length+1)<=cs.length:=by simpa using a
     obtain⟨⟨x,hx⟩,j,m,q⟩:=h.store (o:=o+i) hb ho hk Om d;obtain⟨w',r,c,s⟩:=aP.Zf m (us:=us) (us':=us') (o:=o) (cs:=cs.set (o+i) u) (e:=e) (i+1) hb (by simp[CH.set]) hk Sq f (λy t=>hc y (jJ _ t));have z:=d.a8 (hc u (lA ..));refine⟨w',?_,?_,q.trans s⟩
     ·simp only[storeCells];rw[Gf];rw[Gg];have A:(Go.store ⟨b.1,o+i+b.2,none⟩ u':Sem Unit).run P w= .ok () (w.setCell ⟨b.1,o+i+b.2,none⟩ u'):=by
       unfold Go.store;cases u'<;>first | (simp[vS,hx,j];done) | cases z
      simp only[cA,A,cg];exact r
     rw[CH.set_set] at c;rw[show o+(i+1)=(o+i)+1 by omega,Ze (by simpa using g)] at c;exact c
theorem aP.SO{us us':List ae}{β:Nat->aA}{H:CH}{w:ay}(h:aP P B β H w){l o:Nat}{b:Nat×Nat}{sz n:Nat}{cs:List ae}{e:aI}{k:Kd}(hb:β l= .live b sz n k)(ho:H.ob l= .cells cs e k)(hk:k≠ .ro)
 (a:o+us.length<=cs.length) (hu:aT β us us') (hc : ∀u∈us,a8 u=true) :
 ∃w',(storeCells ⟨b.1,o+b.2,none⟩ us').run P w= .ok () w'/\aP P B β (H.set l (.cells (setCells cs o us) e k)) w'/\cd β w β w':=
 h.Zf 0 hb ho hk a hu hc
theorem Live.reads{β:Nat->aA}{w:ay}{b:Nat×Nat}{sz n:Nat}{k:Kd}{cs:List ae}{e:aI}(h:Live P B β w b sz n k cs e)(o m:Nat)(d:o+m<=cs.length) :
 ∃us':List ae,aT β ((cs.drop o).take m) us'/\us'.length=m/\∀j v,us'[j]? = some v->w.cell? ((⟨b.1,o+b.2,none⟩:cB).add j)=some v:=by
 obtain⟨cs',e',fr,h1,h2,h3,h4,h5⟩:=h;refine⟨(cs'.toList.drop (o+b.2)).take m,⟨Sq,λi v hv=> ?_⟩,Sq,λj v c=> ?_⟩
 ·rw[Jg] at hv⊢;split at hv;·rename_i hi;rw[pI] at hv;obtain⟨v',a,b⟩:=h4 _ v hv;exact⟨v',by rw[iP hi,pI,Gg];simpa using a,b⟩
  cases hv
 rw[Gf];rw[Jg] at c;split at c
 ·rw[pI] at c;simp only[DR,h1];simpa using c
 cases c
end
section
open Go Go.RowKit
def lS:List Nat->List ae->List ae->Option Bool
 | [],[],[]=>some true
 | 0::ks, .int k a::xs, .int k' b::ys=>if k=k' then (lS ks xs ys).map (decide (a=b) && ·) else none
 | 1::ks, .string a::xs, .string b::ys=>(lS ks xs ys).map ((a==b) && ·)
 | 2::ks, .bool a::xs, .bool b::ys=>(lS ks xs ys).map ((a==b) && ·)
 | _,_,_=>none
theorem ags{ks:List Nat}{k k':qn}{a b:Int}{xs ys:List ae}:lS (0::ks) (.int k a::xs) (.int k' b::ys)=if k=k' then (lS ks xs ys).map (decide (a=b) && ·) else none:=by simp only[lS]
theorem agt{ks:List Nat}{a b:ByteArray}{xs ys:List ae}:lS (1::ks) (.string a::xs) (.string b::ys)=(lS ks xs ys).map ((a==b) && ·):=by simp only[lS]
theorem agu{ks:List Nat}{a b:Bool}{xs ys:List ae}:lS (2::ks) (.bool a::xs) (.bool b::ys)=(lS ks xs ys).map ((a==b) && ·):=by simp only[lS]
def bP:Sem ae->Option ae
 | .pure v=>some v
 | _=>none
theorem Oj{P:aX}{s:Sem ae}{v:ae}(h:bP s=some v)(w:ay):s.run P w= .ok v w:=by
 cases s<;>simp[bP] at h;subst h;rfl
inductive dY where
 | vX (x:av)
 | pick (c a b:av)
 | bin (op:BinOp) (x y:av)
 | D6 (neg:Bool) (x y:av)
 | yA (neg:Bool) (x y:av)
 | eqs (neg:Bool) (x y:av)
 | GC (neg g:Bool) (ks:List Nat) (x y:av)
 | un (op:UnOp) (x:av)
 | conv (k:qn) (x:av)
 | GD (x:av)
 | off (x:av) (d:Nat)
 | idx (x i:av) (sz:Nat)
 | Jw (x i:av) (n sz:Nat)
 | GF (x i:av)
 | ext (x:av) (i:Nat)
 | len (x:av)
 | lens (x:av)
 | D7 (x:av) (lo hi:Option av)
 | fn (f:aS) (dF:List av)
 | D8 (x:av)
 | Jx (x:av)
 | Ah (z:List ae) (ps:List (Nat×Nat×av))
 | kG (x:av) (d:Nat) (n:Option Nat)
 | Jy (x i:av) (n sz:Nat) (g:Bool)
 | mx (b:Bool) (x y:av)
def gT (ev:av->ae)(d:Nat):Option av->Option Int
 | none=>some d
 | some x=>match ev x with
   | .int _ n=>some n
   | _=>none
def tG(sz:Nat)(v:ae)(lo hi mx:Int)(full:Bool):Option ae:=
 match v with
 | .slice none 0 0=>if lo=0/\hi=0/\mx=0 then some (.slice none 0 0) else none
 | .slice (some ⟨l,o,none⟩) n c=>
   if 0<=lo/\lo<=hi/\hi<=mx/\mx<=c then
    if lo=mx then (if full then some (.slice (some ⟨0,0,some 0⟩) 0 0) else some (.slice (some ⟨l,o+lo.toNat*sz,none⟩) 0 0))
    else some (.slice (some ⟨l,o+lo.toNat*sz,none⟩) (hi-lo).toNat (mx-lo).toNat)
   else none
 | .slice (some ⟨_,_,some k⟩) 0 0=>if lo=0/\hi=0/\mx=0 then some (.slice (some ⟨0,0,some k⟩) 0 0) else none
 | _=>none
def vY:ae->Nat
 | .slice _ _ c=>c
 | _=>0
def Ai:ae->Nat
 | .slice _ n _=>n
 | .string s=>s.size
 | _=>0
def dv:List ae->List (Nat×Nat×ae)->Option (List ae)
 | z,[]=>some z
 | z,(o,s,v)::r=>if isVal v=true/\v.cells.size=s/\o+s<=z.length then dv (setCells z o v.cells.toList) r else none
def Aj:oX->Bool
 | .struct _ | .array _ _=>true
 | _=>false
def vZ(cs:List ae)(d:Nat):Option Nat->Option ae
 | none=>cs[d]?
 | some n=>if d+n<=cs.length then some (.agg ((cs.drop d).take n).toArray) else none
def pop (ev:av->ae):dY->Option ae
 | .vX x=>some (ev x)
 | .pick c a b=>match ev c with
   | .bool t=>some (if t then ev a else ev b)
   | _=>none
 | .bin op x y=>match ev x,ev y with
   | .int k a, .int k' b=>bP (binOp op 0 (.int k a) (.int k' b))
   | .string a, .string b=>bP (binOp op 0 (.string a) (.string b))
   | _,_=>none
 | .D6 neg x y=>match ev x,ev y with
   | .bool a, .bool b=>some (.bool (neg ^^ (a==b)))
   | _,_=>none
 | .yA neg x y=>match ev x,ev y with
   | .pointer a, .pointer none=>some (.bool (neg ^^ a.isNone))
   | .pointer none, .pointer b=>some (.bool (neg ^^ b.isNone))
   | _,_=>none
 | .eqs neg x y=>match ev x,ev y with
   | .slice a _ _, .slice none _ _=>some (.bool (neg ^^ a.isNone))
   | .slice none _ _, .slice b _ _=>some (.bool (neg ^^ b.isNone))
   | _,_=>none
 | .GC neg g ks x y=>if g=true then match ev x,ev y with
   | .agg xs, .agg ys=>(lS ks xs.toList ys.toList).map λr=> .bool (neg ^^ r)
   | _,_=>none
   else none
 | .un op x=>match ev x with
   | .int k n=>bP (Op.unary op (.int k n))
   | .bool b=>bP (Op.unary op (.bool b))
   | _=>none
 | .conv k x=>match ev x with
   | .int _ n=>some (.int k (k.wrap n))
   | _=>none
 | .GD x=>match ev x with
   | .string s=>some (.string s)
   | _=>none
 | .off x d=>match ev x with
   | .pointer (some ⟨l,o,none⟩)=>some (.pointer (some ⟨l,o+d,none⟩))
   | _=>none
 | .idx x i sz=>match ev x,ev i with
   | .slice (some ⟨l,o,none⟩) n _, .int _ j=>if 0<=j/\j<n then some (.pointer (some ⟨l,o+j.toNat*sz,none⟩)) else none
   | _,_=>none
 | .Jw x i n sz=>match ev x,ev i with
   | .pointer (some ⟨l,o,none⟩), .int _ j=>if 0<=j/\j<n then some (.pointer (some ⟨l,o+j.toNat*sz,none⟩)) else none
   | _,_=>none
 | .GF x i=>match ev x,ev i with
   | .string s, .int _ j=>if 0<=j then (s[j.toNat]?).map λb=> .int .u8 b.toNat else none
   | _,_=>none
 | .ext x i=>match ev x with
   | .tuple vs=>vs[i]?
   | _=>none
 | .len x=>match ev x with
   | .slice _ n _=>some (.int .i64 n)
   | _=>none
 | .lens x=>match ev x with
   | .string s=>some (.int .i64 s.size)
   | _=>none
 | .D7 x lo hi=>match ev x,gT ev 0 lo,gT ev (Ai (ev x)) hi with
   | .string s,some l,some h=>if 0<=l/\l<=h/\h<=s.size then some (.string (s.extract l.toNat h.toNat)) else none
   | _,_,_=>none
 | .fn f dF=>some (.func (.func f) #[] (dF.map ev).toArray)
 | .Jx x=>match ev x with
   | .slice none 0 0=>some (.pointer none)
   | .slice (some ⟨l,o,none⟩) _ c=>if c=0 then none else some (.pointer (some ⟨l,o,none⟩))
   | _=>none
 | .D8 x=>match ev x with
   | .pointer (some a)=>some (.pointer (some a))
   | _=>none
 | .Ah z ps=>(dv z (ps.map λ(o,s,x)=>(o,s,ev x))).map λcs=> .agg cs.toArray
 | .kG x d n=>match ev x with
   | .agg cs=>vZ cs.toList d n
   | _=>none
 | .Jy x i n sz g=>match ev x,ev i with
   | .agg cs, .int _ j=>if 0<=j/\j<n then vZ cs.toList (j.toNat*sz) (if g then some sz else none) else none
   | _,_=>none
 | .mx b x y=>match ev x,ev y with
   | .int k m, .int _ n=>some (.int k (if b then (if n>m then n else m) else (if n<m then n else m)))
   | _,_=>none
def jT(P:aX)(op:Op)(p:dY):Prop:=
 ∀(β:Nat->aA) (b a:av->ae) (o:dj) (v:ae),o.op=op->(∀x∈op.operands,VR β (b x) (a x))->pop b p=some v->
  ∃v',(∀w,(execOp a o).run P w= .ok (.value v') w)/\VR β v v'
theorem agv{P:aX}{x:av}:jT P (.move x) (.vX x):=fun β b a o v ho hv h=>by
 simp only[pop,Option.some.injEq] at h;subst h;exact⟨a x,λw=>by simp only[execOp,ho];rfl,hv x So⟩
theorem agw{P:aX}{x:av}:jT P (.assign x) (.vX x):=fun β b a o v ho hv h=>by
 simp only[pop,Option.some.injEq] at h;subst h;exact⟨a x,λw=>by simp only[execOp,ho];rfl,hv x So⟩
theorem agx{P:aX}{c a b:av}:jT P (.pick c a b) (.pick c a b):=fun β f d o v ho hv h=>by
 have hc:=hv c So;have ha:=hv a So;have hb:=hv b So;simp only[pop] at h;split at h
 ·rename_i t ht;rw[ht] at hc;cases e:d c<;>rw[e] at hc<;>cases hc;cases h;cases t;·exact⟨d b,λw=>by simp[execOp,ho,e,asBool],hb⟩
  exact⟨d a,λw=>by simp[execOp,ho,e,asBool],ha⟩
 cases h
theorem VR.uK{β:Nat->aA}{k:qn}{n:Int}{v':ae}(h:VR β (.int k n) v'):v'= .int k n:=by cases h;rfl
theorem VR.Ak{β:Nat->aA}{s:ByteArray}{v':ae}(h:VR β (.string s) v'):v'= .string s:=by cases h;rfl
theorem VR.GH{β:Nat->aA}{b:Bool}{v':ae}(h:VR β (.bool b) v'):v'= .bool b:=by cases h;rfl
theorem agy(op:BinOp)(t:aI)(k k':qn)(a b:Int):binOp op t (.int k a) (.int k' b)=binOp op 0 (.int k a) (.int k' b):=by cases op<;>rfl
theorem agz(op:BinOp)(t:aI)(a b:ByteArray):binOp op t (.string a) (.string b)=binOp op 0 (.string a) (.string b):=by cases op<;>rfl
theorem Zh{s:Sem ae}{v:ae}(h:bP s=some v):s= .pure v:=by
 cases s<;>simp[bP] at h;subst h;rfl
theorem Zi{op:BinOp}{x y v:ae}(hx:(∃k a k' b,x= .int k a/\y= .int k' b)\/∃a b,x= .string a/\y= .string b)(h:bP (binOp op 0 x y)=some v) : ∀β,VR β v v:=by
 intro β;rcases hx with ⟨k,a,k',b,rfl,rfl⟩ | ⟨a,b,rfl,rfl⟩
 ·have key : ∀s:Sem ae,bP s=some v->(s=Op.shift op k a k' b\/s=Jh op k a b\/s=Op.intDiv op k a b\/s=Op.intBits op k a b\/s=Op.intCmp op a b)->VR β v v:=by
   intro s hs hc;rcases hc with rfl | rfl | rfl | rfl | rfl
   ·unfold Op.shift at hs;split at hs;·cases hs
    cases op<;>simp[bP,kX,stuck] at hs<;>subst hs<;>exact .int _ _
   ·unfold Jh at hs;cases op<;>simp[bP,kX,stuck] at hs<;>subst hs<;>exact .int _ _
   ·unfold Op.intDiv at hs;split at hs;·cases hs
    cases op<;>simp[bP,kX,stuck] at hs<;>subst hs<;>exact .int _ _
   ·unfold Op.intBits at hs;cases op<;>simp[bP,kX,stuck] at hs<;>subst hs<;>exact .int _ _
   unfold Op.intCmp at hs;cases op<;>simp[bP,kX,stuck] at hs<;>subst hs<;>exact .bool _
  by_cases hk:k=k'
  ·subst hk;refine key _ h ?_;cases op<;>simp[binOp]
  cases op<;>simp[binOp,hk,bP,stuck] at h<;>(refine key _ h ?_;simp)
 have h':bP (Op.stringOp op a b)=some v:=by cases op<;>exact h
 unfold Op.stringOp at h';cases op<;>simp[bP,kX,stuck] at h';case add=>
  split at h'
  ·rename_i c;split at c;·cases c
   cases c;cases h';exact .string _
  cases h'
 all_goals (subst h';exact .bool _)
theorem agA{P:aX}{op:BinOp}{t u:aI}{x y:av}:jT P (.binOp op t x y u) (.bin op x y):=fun β g f o v ho hv h=>by
 have hx:=hv x So;have c:=hv y So;simp only[pop] at h;split at h
 ·rename_i k a k' b ha hb;rw[ha] at hx;rw[hb] at c;have ex:=hx.uK;have d:=c.uK;refine⟨v,λw=> ?_,Zi (.inl ⟨_,_,_,_,rfl,rfl⟩) h β⟩;have e:=Oj (P:=P) h w;simp only[execOp,ho,ex,d,cA];have hg:(eqGuard op t x y (.int k a) (.int k' b)).run P w= .ok () w:=by
   unfold eqGuard;cases op<;>rfl
  rw[hg,agy];simp only[cg,e,cR]
 ·rename_i a b ha hb;rw[ha] at hx;rw[hb] at c;have ex:=hx.Ak;have d:=c.Ak;refine⟨v,λw=> ?_,Zi (.inr ⟨_,_,rfl,rfl⟩) h β⟩;have e:=Oj (P:=P) h w;simp only[execOp,ho,ex,d,cA];have hg:(eqGuard op t x y (.string a) (.string b)).run P w= .ok () w:=by
   unfold eqGuard;cases op<;>rfl
  rw[hg,agz];simp only[cg,e,cR]
 cases h
theorem agC{P:aX}{op:UnOp}{t:aI}{x:av}:jT P (.unOp op t x) (.un op x):=fun β d c o v ho hv h=>by
 have hx:=hv x So;simp only[pop] at h;split at h
 ·rename_i k n ha;rw[ha] at hx;have ex:=hx.uK;have a:=λw=>Oj (P:=P) h w;refine⟨v,λw=>by simp only[execOp,ho,ex,cA,a,cg,cR],?_⟩;have hs:=Zh h;cases op<;>simp[Op.unary,Jh,Op.intBits,stuck,kX] at hs<;>(try subst hs)<;>first | exact .int _ _ | cases hs
 ·rename_i b ha;rw[ha] at hx;have ex:=hx.GH;have a:=λw=>Oj (P:=P) h w;refine⟨v,λw=>by simp only[execOp,ho,ex,cA,a,cg,cR],?_⟩;have hs:=Zh h;cases op<;>simp[Op.unary,stuck,kX] at hs<;>(try subst hs)<;>first | exact .bool _ | cases hs
 cases h
theorem run_equal_bool{P:aX}{t:aI}(ht:P.underlying t=some .bool)(a b:Bool)(w:ay):(yo t (.bool a) (.bool b)).run P w= .ok (a==b) w:=by
 unfold yo;obtain⟨d,hd⟩ : ∃d,Op.maxDepth=d+1:=⟨9999,rfl⟩;rw[hd];simp only[Op.equalIn,cA,run_underlying ht,cg,cR]
theorem GI{P:aX}{t e:aI}(ht:P.underlying t=some (.pointer e))(a:Option cB)(w:ay) :
 (yo t (.pointer a) (.pointer none)).run P w= .ok a.isNone w/\(yo t (.pointer none) (.pointer a)).run P w= .ok a.isNone w:=by
 unfold yo;obtain⟨d,hd⟩ : ∃d,Op.maxDepth=d+1:=⟨9999,rfl⟩;rw[hd];constructor<;>cases a<;>simp only[Op.equalIn,cA,run_underlying ht,cg,cR]<;>rfl
theorem Zj{P:aX}{t e:aI}(ht:P.underlying t=some (.slice e))(a:Option cB)(n c m q:Nat)(w:ay) :
 (yo t (.slice a n c) (.slice none m q)).run P w= .ok a.isNone w/\(yo t (.slice none m q) (.slice a n c)).run P w= .ok a.isNone w:=by
 unfold yo;obtain⟨d,hd⟩ : ∃d,Op.maxDepth=d+1:=⟨9999,rfl⟩;rw[hd];constructor<;>cases a<;>simp only[Op.equalIn,cA,run_underlying ht,cg,cR]<;>rfl
def oi (neg:Bool):BinOp:=if neg then .neq else .eql
theorem Zk{P:aX}{neg:Bool}{t u:aI}{x y:av}(ht:P.underlying t=some .bool):jT P (.binOp (oi neg) t x y u) (.D6 neg x y):=fun β f d o v ho hv h=>by
 have hx:=hv x So;have c:=hv y So;simp only[pop] at h;split at h
 ·rename_i a b ha hb;rw[ha] at hx;rw[hb] at c;have ex:=hx.GH;have e:=c.GH;cases h;refine⟨_,λw=> ?_, .bool _⟩;simp only[execOp,ho,ex,e,cA];have hg:(eqGuard (oi neg) t x y (.bool a) (.bool b)).run P w= .ok () w:=by
   unfold eqGuard oi;cases neg<;>rfl
  rw[hg];cases neg<;>simp only[oi,cg,binOp,cA,run_equal_bool ht,cR,iT,je,iF]<;>simp
 cases h
theorem D9{P:aX}{neg:Bool}{t u e:aI}{x y:av}(ht:P.underlying t=some (.pointer e)):jT P (.binOp (oi neg) t x y u) (.yA neg x y):=fun β k c o v ho hv h=>by
 have hx:=hv x So;have g:=hv y So;have hg : ∀(a b:Option cB) w,(eqGuard (oi neg) t x y (.pointer a) (.pointer b)).run P w= .ok () w:=λa b w=>by
  unfold eqGuard oi;cases neg<;>rfl
 have fin : ∀(a b:Option cB) (r:Bool),(∀w,(yo t (.pointer a) (.pointer b)).run P w= .ok r w)->c x= .pointer a->c y= .pointer b->∀w,(execOp c o).run P w= .ok (.value (.bool (neg ^^ r))) w:=by
  intro a b r i ex j w;simp only[execOp,ho,ex,j,cA,hg,cg];cases neg<;>simp only[oi,binOp,cA,i,cg,cR,iT,je,iF]<;>simp
 simp only[pop] at h;split at h
 ·rename_i a ha hb;rw[ha] at hx;rw[hb] at g;cases h;cases d:c y<;>rw[d] at g<;>cases g;cases f:c x<;>rw[f] at hx<;>cases hx;·exact⟨_,fin none none true (λw=>(GI ht _ w).1) f d, .bool _⟩
  ·exact⟨_,fin _ none false (λw=>(GI ht _ w).1) f d, .bool _⟩
  exact⟨_,fin _ none false (λw=>(GI ht _ w).1) f d, .bool _⟩
 ·rename_i b aB ha hb;rw[ha] at hx;rw[hb] at g;cases h;cases f:c x<;>rw[f] at hx<;>cases hx;cases d:c y<;>rw[d] at g<;>cases g;·exact⟨_,fin none none true (λw=>(GI ht _ w).2) f d, .bool _⟩
  ·exact⟨_,fin none _ false (λw=>(GI ht _ w).2) f d, .bool _⟩
  exact⟨_,fin none _ false (λw=>(GI ht _ w).2) f d, .bool _⟩
 cases h
theorem VR.Ea{β:Nat->aA}{a:Option cB}{n c:Nat}{v':ae}(h:VR β (.slice a n c) v') : ∃a' c',v'= .slice a' n c'/\a'.isNone=a.isNone:=by
 cases h<;>exact⟨_,_,rfl,rfl⟩
theorem Zm{P:aX}{neg:Bool}{t u e:aI}{x y:av}(ht:P.underlying t=some (.slice e)):jT P (.binOp (oi neg) t x y u) (.eqs neg x y):=fun β C d o v ho hv h=>by
 have hx:=hv x So;have j:=hv y So;have hg : ∀(a b:Option cB) n c m q w,(eqGuard (oi neg) t x y (.slice a n c) (.slice b m q)).run P w= .ok () w:=λa b n c m q w=>by
  unfold eqGuard oi;cases neg<;>rfl
 have fin : ∀(a b:Option cB) n c m q (r:Bool),(∀w,(yo t (.slice a n c) (.slice b m q)).run P w= .ok r w)->d x= .slice a n c->d y= .slice b m q->∀w,(execOp d o).run P w= .ok (.value (.bool (neg ^^ r))) w:=by
  intro a b n c m q r z ex A w;simp only[execOp,ho,ex,A,cA,hg,cg];cases neg<;>simp only[oi,binOp,cA,z,cg,cR,iT,je,iF]<;>simp
 simp only[pop] at h;split at h
 ·rename_i a n c m q ha hb;rw[ha] at hx;rw[hb] at j;cases h;obtain⟨f,c',k,hn⟩:=hx.Ea;obtain⟨g,i,l,s⟩:=j.Ea;have:g=none:=by cases g<;>simp_all
  subst this;exact⟨_,fin f none n c' m i _ (λw=>(Zj ht f n c' m i w).1) k l,by rw[hn];exact .bool _⟩
 ·rename_i n c a m q aB ha hb;rw[ha] at hx;rw[hb] at j;cases h;obtain⟨f,c',k,hn⟩:=hx.Ea;obtain⟨g,i,l,s⟩:=j.Ea;have:f=none:=by cases f<;>simp_all
  subst this;exact⟨_,fin none g n c' m i _ (λw=>(Zj ht g m i n c' w).2) k l,by rw[s];exact .bool _⟩
 cases h
theorem agD{P:aX}{s t:aI}{k:qn}{x:av}{d:oX}(hs:P.underlying s=some d)(ht:P.underlying t=some (.int k)):jT P (.convert s t x) (.conv k x):=fun β b a o v ho hv h=>by
 have hx:=hv x So;simp only[pop] at h;split at h;·rename_i k' n ha;rw[ha] at hx;cases h;refine⟨_,λw=> ?_, .int _ _⟩;simp only[execOp,ho,hx.uK,cA,convert,run_underlying hs,run_underlying ht,cg];rfl
 cases h
theorem agF{P:aX}{s t:aI}{x:av}(hs:P.underlying s=some .string)(ht:P.underlying t=some .string):jT P (.convert s t x) (.GD x):=fun β b a o v ho hv h=>by
 have hx:=hv x So;simp only[pop] at h;split at h;·rename_i n ha;rw[ha] at hx;cases h;refine⟨_,λw=> ?_, .string _⟩;simp only[execOp,ho,hx.Ak,cA,convert,run_underlying hs,run_underlying ht,cg];rfl
 cases h
theorem wb{P:aX}{t:aI}{sz:Nat}(h:(P.info? t).map (·.size)=some sz)(w:ay):(sizeOf t).run P w= .ok sz w:=by
 cases hi:P.info? t with
 | none=>simp[hi] at h
 | some i=>simp[hi] at h;simp[sizeOf,typeInfo,hi,h]
theorem agG{P:aX}{s:aI}{x:av}{f sz:Nat}{fs:Array Field}{kG:Field}(hs:P.underlying s=some (.struct fs))(e:fs[f]? = some kG)(hz:(P.info? kG.type).map (·.size)=some sz)(g:sz≠0) :
 jT P (.fieldAddr s x f) (.off x kG.offset):=fun β i b o v ho hv h=>by
 have hx:=hv x So;simp only[pop] at h;split at h
 ·rename_i l j ha;rw[ha] at hx;cases h;have d : ∀a:cB,b x= .pointer (some a)->∀w,(execOp b o).run P w= .ok (.value (.pointer (some (a.add kG.offset)))) w:=λa ha w=>by
   simp only[execOp,ho,ha,Instr.fieldAt,cA,run_underlying hs,cg,e,Gh,cR,fieldPlace,wb hz,iN g]
  cases c:b x<;>rw[c] at hx<;>cases hx;·rename_i hb;exact⟨_,d _ c,by rw[Gf,Gg];exact .ptr hb⟩
  rename_i hb;exact⟨_,d _ c, .qA _ hb⟩
 cases h
theorem agH{P:aX}{t e:aI}{x i:av}{sz:Nat}(ht:P.underlying t=some (.slice e))(hz:(P.info? e).map (·.size)=some sz):jT P (.indexAddr t x i) (.idx x i sz):=fun β m b o v ho hv h=>by
 have hx:=hv x So;have hi:=hv i So;simp only[pop] at h;split at h
 ·rename_i l q n c k j ha g;split at h
  ·rename_i hb;rw[ha] at hx;rw[g] at hi;cases h;have d : ∀(a:cB) c',b x= .slice (some a) n c'->∀w,(execOp b o).run P w= .ok (.value (.pointer (some (a.add (j.toNat*sz))))) w:=λa c' ha w=>by
    simp only[execOp,ho,ha,hi.uK,Instr.indexAt,asIntOf,cA,run_underlying ht,cg,cR,Sem.run_ite,iP hb,wb hz]
   generalize f:b x=r at hx;cases hx with
   | sl hl h1 h2 h3 h4 h5=>exact⟨_,d _ _ f,by rw[Gf,Gg];exact .ptr hl⟩
   | rq a hl _=>exact⟨_,d _ _ f, .qA _ hl⟩
   | ru a hl=>omega
  cases h
 cases h
theorem agI{P:aX}{t e:aI}{x i:av}{n sz:Nat}(ht:P.underlying t=some (.array n e))(hz:(P.info? e).map (·.size)=some sz):jT P (.indexAddr t x i) (.Jw x i n sz):=fun β g b o v ho hv h=>by
 have hx:=hv x So;have hi:=hv i So;simp only[pop] at h;split at h
 ·rename_i l m k j ha f;split at h
  ·rename_i hb;rw[ha] at hx;rw[f] at hi;cases h;have d : ∀(a:cB),b x= .pointer (some a)->∀w,(execOp b o).run P w= .ok (.value (.pointer (some (a.add (j.toNat*sz))))) w:=λa ha w=>by
    simp only[execOp,ho,ha,hi.uK,Instr.indexAt,asIntOf,cA,run_underlying ht,cg,cR,Gh,Sem.run_ite,iP hb,wb hz]
   cases c:b x<;>rw[c] at hx<;>cases hx;·rename_i hl;exact⟨_,d _ c,by rw[Gf,Gg];exact .ptr hl⟩
   rename_i hl;exact⟨_,d _ c, .qA _ hl⟩
  cases h
 cases h
theorem agJ{P:aX}{t:aI}{x i:av}(ht:P.underlying t=some .string):jT P (.index t x i) (.GF x i):=fun β e a o v ho hv h=>by
 have hx:=hv x So;have hi:=hv i So;simp only[pop] at h;split at h
 ·rename_i s k j ha c;rw[ha] at hx;rw[c] at hi;split at h
  ·rename_i d;cases hs:s[j.toNat]? with
   | none=>rw[hs] at h;cases h
   | some b=>
     rw[hs] at h;cases h;refine⟨_,λw=> ?_, .int _ _⟩;simp only[execOp,ho,hx.Ak,hi.uK,Instr.index,asIntOf,cA,run_underlying ht,cg,cR,iP d,hs]
  cases h
 cases h
theorem VR.agK{β:Nat->aA}{xa:Array ae}{v':ae}(h:VR β (.tuple xa) v'):xa= #[]\/∃bs,v'= .tuple bs/\xa.size=bs.size/\∀i (h1:i<xa.size) (h2:i<bs.size),VR β xa[i] bs[i]:=by
 cases h with
 | undef=>exact .inl rfl
 | tuple h hi=>exact .inr ⟨_,rfl,h,hi⟩
theorem agM{P:aX}{x:av}{i:Nat}:jT P (.extract x i) (.ext x i):=fun β c a o v ho hv h=>by
 have hx:=hv x So;simp only[pop] at h;split at h
 ·rename_i vs ha;rw[ha] at hx;rcases hx.agK with rfl | ⟨bs,b,hs,hi⟩
  ·simp at h
  obtain⟨h1,rfl⟩:=Array.getElem?_eq_some_iff.1 h;refine⟨_,λw=> ?_,hi i h1 Om⟩;simp only[execOp,ho,b,Instr.extract,sv (show i<bs.size by omega),cA,cR,cg]
 cases h
theorem agN{P:aX}{x:av}:jT P (.nilCheck x) (.D8 x):=fun β e b o v ho hv h=>by
 have hx:=hv x So;simp only[pop] at h;split at h
 ·rename_i a ha;rw[ha] at hx;cases h;obtain⟨c,d⟩ : ∃c,b x= .pointer (some c):=by
   generalize b x=f at hx;cases hx<;>exact⟨_,rfl⟩
  rw[d] at hx;exact⟨.pointer (some c),λw=>by simp only[execOp,ho,d];rfl,hx⟩
 cases h
theorem agO{P:aX}{t:aI}{x:av}:jT P (.call ⟨.builtin .unsafeSliceData,#[x],#[t]⟩) (.Jx x):=fun β j b o v ho hv h=>by
 have hx:=hv x S0;simp only[pop] at h;split at h
 ·rename_i ha;cases h;have d:b x= .slice none 0 0:=by
   generalize b x=e at hx;rw[ha] at hx;cases hx;rfl
  exact⟨.pointer none,λw=>by simp only[execOp,ho,resolve,cA,cR,cg,invoke,builtin,Gi,c8,iw,d,Lib.run_unsafeSliceData_nil], .D5⟩
 ·rename_i l f n c ha;split at h;·cases h
  rename_i hc;cases h;rw[ha] at hx;have d : ∃a c',b x= .slice (some a) n c'/\c'≠0/\VR β (.pointer (some ⟨l,f,none⟩)) (.pointer (some a)):=by
   generalize b x=e at hx;cases hx with
   | sl hl h1 h2=>exact⟨_,_,rfl,Om, .ptr hl⟩
   | rq a hl h2=>exact⟨_,_,rfl,Om, .qA _ hl⟩
   | ru a hl=>exact absurd rfl hc
  obtain⟨a,c',d,g,i⟩:=d;exact⟨_,λw=>by simp only[execOp,ho,resolve,cA,cR,cg,invoke,builtin,Gi,c8,iw,d,Lib.run_unsafeSliceData_row (hc:=g),cg],i⟩
 cases h
theorem agP{P:aX}{f:aS}{dF:Array av}:jT P (.makeFunc (.func f) #[] dF) (.fn f dF.toList):=fun β b a o v ho hv h=>by
 simp only[pop,Option.some.injEq] at h;subst h;refine⟨.func (.func f) #[] (dF.map a),λw=>by simp[execOp,ho,Instr.makeFunc], .fn f Sm λi h1 h2=> ?_⟩;simp only[List.getElem_toArray,List.getElem_map,yp,Array.getElem_map];exact hv _ So
def Jz(P:aX)(f:Field):Option Nat:=match P.underlying f.type with
 | some (.int _)=>some 0
 | some .string=>some 1
 | some .bool=>some 2
 | _=>none
def GJ(P:aX):Nat->List Field->Option (List Nat)
 | _,[]=>some []
 | i,f::fs=>if f.offset=i/\f.name≠ "_" then match Jz P f,GJ P (i+1) fs with
   | some k,some ks=>some (k::ks)
   | _,_=>none
   else none
@[irreducible] def JA {P:aX} (t:aI):List Nat:=match P.underlying t with
  | some (.struct fs)=>(GJ P 0 fs.toList).getD []
  | _=> []
@[irreducible] def Ok {P:aX} (t:aI):Bool:=match P.underlying t with
  | some (.struct fs)=>(GJ P 0 fs.toList).isSome&&(!P.stoodInHeld t && !P.eqGuardType P.depth t)
  | _=>false
theorem agQ{β:Nat->aA} : ∀ {ks:List Nat} {xs ys a b:List ae} {r:Bool},aT β xs a->aT β ys b->lS ks xs ys=some r->lS ks a b=some r:=by
 intro ks;induction ks with
 | nil=>
   intro xs ys a b r hx e h;cases xs with
   | nil=>
     cases ys with
     | nil=>
       have c:a= []:=List.length_eq_zero_iff.1 hx.1.symm;have d:b= []:=List.length_eq_zero_iff.1 e.1.symm;rw[c,d];exact h
     | cons y ys=>simp[lS] at h
   | cons x xs=>simp[lS] at h
 | cons k ks g=>
   intro xs ys a b r hx e h;cases xs with
   | nil=>cases k<;>simp[lS] at h
   | cons x xs=>
     cases ys with
     | nil=>unfold lS at h;split at h<;>simp_all
     | cons y ys=>
       cases a with
       | nil=>have:=hx.1;simp at this
       | cons x' a=>
         cases b with
         | nil=>have:=e.1;simp at this
         | cons p b=>
           obtain⟨q,m,a2⟩:=hx.2 0 x rfl;obtain⟨s,n,j⟩:=e.2 0 y rfl;simp at m n;subst m n;have tx:aT β xs a:=⟨by simpa using hx.1,λi v hv=>by simpa using hx.2 (i+1) v (by simpa using hv)⟩;have l:aT β ys b:=⟨by simpa using e.1,λi v hv=>by simpa using e.2 (i+1) v (by simpa using hv)⟩;unfold lS at h;split at h;·simp_all
           ·rename_i c d f;cases c;cases d;cases f;cases a2;cases j;split at h;·rename_i hk;rw[nf] at h;obtain⟨o,h1,h2⟩:=h;rw[ags,iP hk,g tx l h1];simp[h2]
            cases h
           ·rename_i c d f;cases c;cases d;cases f;cases a2;cases j;rw[nf] at h;obtain⟨o,h1,h2⟩:=h;rw[agt,g tx l h1];simp[h2]
           ·rename_i c d f;cases c;cases d;cases f;cases a2;cases j;rw[nf] at h;obtain⟨o,h1,h2⟩:=h;rw[agu,g tx l h1];simp[h2]
           cases h
theorem agR{P:aX}{w:ay}{d:Nat}{xs ys:Array ae} : ∀ {fs:List Field} {i:Nat} {ks:List Nat} {r:Bool},GJ P i fs=some ks->lS ks (xs.toList.drop i) (ys.toList.drop i)=some r->(Op.eqFields (d+1) xs ys fs).run P w= .ok r w:=by
 intro fs;induction fs with
 | nil=>
   intro i ks r c he;simp only[GJ,Option.some.injEq] at c;subst c;unfold lS at he;split at he<;>first | (cases he;rfl) | (cases he) | (rename_i h _ _;cases h)
 | cons f fs u=>
   intro i ks r c he;simp only[GJ] at c;split at c;case isFalse=>cases c
   rename_i hg;obtain⟨ho,x⟩:=hg;split at c;case h_2=>cases c
   rename_i k fg hk y;cases c;have g : ∀(m:Array ae) (v:ae) (tl:List ae),P.plainKey f.type=true->m.toList.drop i=v::tl->(part f.type m f.offset).run P w= .ok v w/\m.toList.drop (i+1)=tl:=λm v tl hp hz=>by
    have z:m.toList[i]? = some v:=by
     have:=congrArg (λl=>l[0]?) hz;simpa using this
    refine⟨run_part_plain w hp (by rw[ho];simpa using z),?_⟩;rw[<-List.drop_drop,hz];rfl
   have j:P.plainKey f.type=true:=by
    unfold Jz at hk;unfold Program.plainKey;split at hk<;>first | (rename_i e;rw[e]) | cases hk
   unfold lS at he;split at he;·rename_i h _ _;cases h
   ·rename_i C G a D I b E n o p;cases n;obtain⟨s,t1⟩:=g xs _ _ j o;obtain⟨t,t2⟩:=g ys _ _ j p;split at he;case isFalse=>cases he
    rename_i H;subst H;rw[nf] at he;obtain⟨F,h1,h2⟩:=he;have hu : ∃k',P.underlying f.type=some (.int k'):=by
     unfold Jz at hk;split at hk;·rename_i q e;exact⟨q,e⟩
     ·cases hk
     ·cases hk
     cases hk
    obtain⟨k',hu⟩:=hu;simp only[Op.eqFields,x,ne_eq,not_false_eq_true,iT,cA,s,t,cg,run_equalIn_int w d f.type G k' a b hu];rw[<-t1,<-t2] at h1;have:=u y h1;by_cases A:a=b
    ·subst A;simp only[beq_self_eq_true,NW,je,iF,this];simpa using h2
    have hb:(a==b)=false:=by simpa using A
    simp only[hb,NX,iT,cR];simp[A] at h2;rw[h2]
   ·rename_i C a D b E n o p;cases n;obtain⟨s,t1⟩:=g xs _ _ j o;obtain⟨t,t2⟩:=g ys _ _ j p;rw[nf] at he;obtain⟨F,h1,h2⟩:=he;have hu:P.underlying f.type=some .string:=by
     unfold Jz at hk;split at hk;·cases hk
     ·rename_i e;exact e
     ·cases hk
     cases hk
    simp only[Op.eqFields,x,ne_eq,not_false_eq_true,iT,cA,s,t,cg,run_equalIn_string w d f.type a b hu,<-beq_toListBytes];rw[<-t1,<-t2] at h1;have:=u y h1;cases hb:(a==b) with
    | true=>
      simp only[NW,je,iF,this];rw[hb] at h2;simpa using h2
    | false=>
      simp only[NX,iT,cR];rw[hb] at h2;simp at h2;rw[h2]
   ·rename_i C a D b E n o p;cases n;obtain⟨s,t1⟩:=g xs _ _ j o;obtain⟨t,t2⟩:=g ys _ _ j p;rw[nf] at he;obtain⟨F,h1,h2⟩:=he;have hu:P.underlying f.type=some .bool:=by
     unfold Jz at hk;split at hk;·cases hk
     ·cases hk
     ·rename_i e;exact e
     cases hk
    simp only[Op.eqFields,x,ne_eq,not_false_eq_true,iT,cA,s,t,cg,run_equalIn_bool' w d f.type a b hu];rw[<-t1,<-t2] at h1;have:=u y h1;cases hb:(a==b) with
    | true=>
      simp only[NW,je,iF,this];rw[hb] at h2;simpa using h2
    | false=>
      simp only[NX,iT,cR];rw[hb] at h2;simp at h2;rw[h2]
   cases he
theorem Zp{P:aX}{neg:Bool}{t u:aI}{x y:av}{fs:Array Field}(ht:P.underlying t=some (.struct fs)):jT P (.binOp (oi neg) t x y u) (.GC neg (@Ok P t) (@JA P t) x y):=fun β z a o v ho hv h=>by
 have hx:=hv x So;have b:=hv y So;simp only[pop] at h;split at h;case isFalse=>cases h
 rename_i hg;unfold Ok at hg;simp only[ht,fV,zT,Option.isSome_iff_exists] at hg;obtain⟨⟨ks,g⟩,hp,j⟩:=hg;have k : @JA P t=ks:=by unfold JA;simp only[ht,g,tt]
 rw[k] at h;split at h;case h_2=>cases h
 rename_i xs ys ha hb;rw[ha] at hx;rw[hb] at b;rw[nf] at h;obtain⟨r,h1,h2⟩:=h;subst h2;have i:P.fieldsOf t=fs:=by unfold Program.fieldsOf;rw[ht]
 generalize l:a x=A at hx;generalize c:a y=C at b;cases hx with
 | @agg _ e m n=>
   cases b with
   | @agg _ f q s=>
     have h3:=agQ (aT.arr.2 ⟨m,n⟩) (aT.arr.2 ⟨q,s⟩) h1;refine⟨.bool (neg ^^ r),λw=> ?_, .bool _⟩;have he:(Op.equalIn 10000 t (.agg e) (.agg f)).run P w= .ok r w:=by
      rw[run_equalIn_struct w 9999 t e f (by rw[i];exact ht) hp,i];exact agR (d:=9998) g (by simpa using h3)
     have hg:=run_eqGuard_agg w (oi neg) t x y e f j;simp only[execOp,ho,l,c,cA,hg,cg];cases neg;·simp only[oi,je,iF,run_eql_struct,he,cg,cR];simp
     simp only[oi,iT,run_neq_struct,he,cg,cR];simp
end
section
open Go Go.RowKit
variable {P:aX}
theorem Zq{ev':av->ae}{o:dj}{x:av}{t:aI}(ho:o.op= .call { callee:= .builtin .len,args:= #[x],argTypes:= #[t] }){v:ae}(w:ay)(h:(Builtin.len_ #[t] o.type #[ev' x]).run P w= .ok v w) :
 (execOp ev' o).run P w= .ok (.value v) w:=by
 simp only[execOp,ho,resolve,cA,cR,cg,invoke,builtin,Gi,c8,iw,h]
theorem agT{t e:aI}{x:av}(ht:P.underlying t=some (.slice e)):jT P (.call { callee:= .builtin .len,args:= #[x],argTypes:= #[t] }) (.len x):=fun β f b o v ho hv h=>by
 have hx:=hv x S0;simp only[pop] at h;split at h;·rename_i a n c ha;rw[ha] at hx;cases h;obtain⟨g,c',d,_⟩:=hx.Ea;refine⟨_,λw=>Zq ho w ?_, .int _ _⟩;simp[Builtin.len_,d,run_underlying ht,goInt]
 cases h
theorem agU{t:aI}{x:av}(ht:P.underlying t=some .string):jT P (.call { callee:= .builtin .len,args:= #[x],argTypes:= #[t] }) (.lens x):=fun β b a o v ho hv h=>by
 have hx:=hv x S0;simp only[pop] at h;split at h;·rename_i s ha;rw[ha] at hx;cases h;refine⟨_,λw=>Zq ho w ?_, .int _ _⟩;simp[Builtin.len_,hx.Ak,run_underlying ht,goInt]
 cases h
def Al (ev':av->ae)(d:Nat)(x:Option av)(n:Int):Prop:=(x=none/\n=d)\/∃y k,x=some y/\ev' y= .int k n
theorem tH{β:Nat->aA}{ev ev':av->ae}{d d':Nat}{x:Option av}{n:Int}(h:gT ev d x=some n)(hv : ∀y,x=some y->VR β (ev y) (ev' y))(hd:x=none->d'=d):Al ev' d' x n:=by
 cases x with
 | none=>simp[gT] at h;exact .inl ⟨rfl,by rw[hd rfl];exact h.symm⟩
 | some y=>
   simp only[gT] at h;split at h;·rename_i k m a;cases h;have:=hv y rfl;rw[a] at this;exact .inr ⟨y,k,rfl,this.uK⟩
   cases h
theorem agV{k:qn}{n:Int}{y:Nat}{code:BoundsCode}(a:0<=n)(h1:n<=y)(w:ay):(Instr.sliceBound (.int k n) y code).run P w= .ok n.toNat w:=by
 simp[Instr.sliceBound,asIntOf,a,h1]
theorem Zr{ev':av->ae}{b:Bool}{len cap:Nat}{lo hi mx:Option av}{l h m:Int}(hl:Al ev' 0 lo l)(hh:Al ev' len hi h)(a:Al ev' cap mx m)(c:mx.isSome=true->hi.isSome=true)
 (d:0<=l) (h1:l<=h) (h2:h<=m) (h3:m<=cap) (w:ay):(Instr.sliceBounds b len cap (lo.map ev') (hi.map ev') (mx.map ev')).run P w= .ok (l.toNat,h.toNat,m.toNat) w:=by
 unfold Instr.sliceBounds;rcases a with ⟨rfl,rfl⟩ | ⟨e,f,rfl,g⟩<;>rcases hh with ⟨rfl,rfl⟩ | ⟨i,j,rfl,k⟩<;>rcases hl with ⟨rfl,rfl⟩ | ⟨n,o,rfl,el⟩<;>
  simp only[Option.map_none,dC,cA,cR,cg,fJ, *]<;>
  first
  | rfl
  | (simp at c;done)
  | (repeat (first | rw[agV Om Om] | simp only[cg,cR,fJ] | rfl))
theorem agW{t:aI}{x:av}{lo hi:Option av}(ht:P.underlying t=some .string):jT P (.slice t x lo hi none) (.D7 x lo hi):=fun β j a o v ho hv h=>by
 have hx:=hv x So;simp only[pop] at h;split at h
 ·rename_i s l hh ha hl c;split at h;·rename_i hb;rw[ha] at hx;rw[ha] at c;cases h;have f:=tH (d':=0) hl (λy e=>hv y (by simp[sq,e])) (λ_=>rfl);have i:=tH (d':=s.size) c (λy e=>hv y (by simp[sq,e])) (λ_=>rfl);refine⟨_,λw=> ?_, .string _⟩;have b3:Al a s.size none (s.size:Int):= .inl ⟨rfl,rfl⟩;have d:=Zr (P:=P) (b:=false) (cap:=s.size) f i b3 Sm hb.1 hb.2.1 hb.2.2 (sw _) w;simp only[Option.map_none] at d;simp only[execOp,ho,hx.Ak,Instr.sliceAt,Instr.slice,cA,run_underlying ht,cg,Option.map_none,Sp,je,iF,d,cR]
  cases h
 cases h
theorem agX{t:aI}{d:oX}(h:P.underlying t=some d)(hd:Aj d=false)(w:ay):(isAgg t).run P w= .ok false w:=by
 unfold isAgg;simp only[cA,run_underlying h,cg];cases d<;>first | rfl | cases hd
theorem agY{t:aI}{d:oX}(h:P.underlying t=some d)(hd:Aj d=true)(w:ay):(isAgg t).run P w= .ok true w:=by
 unfold isAgg;simp only[cA,run_underlying h,cg];cases d<;>first | rfl | cases hd
theorem Zt{β:Nat->aA}{cs cs':Array ae}(c:cs.size=cs'.size)(hi : ∀i (h1:i<cs.size) (h2:i<cs'.size),VR β cs[i] cs'[i]){e:aI}{d n:Nat}{b:oX}{g:Bool}(he:P.underlying e=some b)(hg:Aj b=g)
 (hn:(P.info? e).map (·.size)=some n) {v:ae} (h:vZ cs.toList d (if g then some n else none)=some v) : ∃v',(∀w,(part e cs' d).run P w= .ok v' w)/\VR β v v':=by
 cases g with
 | false=>
   simp only[je,iF,vZ] at h;obtain⟨h1,h2⟩:=List.getElem?_eq_some_iff.1 h;have hd:d<cs'.size:=by
    have:d<cs.size:=by simpa using h1
    omega
   refine⟨cs'[d],λw=> ?_,?_⟩;·simp only[part,cA,agX he hg,cg,je,iF,sv hd,cR]
   rw[<-h2];simpa using hi d (by simpa using h1) hd
 | true=>
   simp only[iT,vZ] at h;split at h
   ·rename_i a;cases h;refine⟨.agg (cs'.extract d (d+n)),λw=> ?_, .agg ?_ λi h1 h2=> ?_⟩;·simp only[part,cA,agY he hg,cg,iT,wb hn,cR]
    ·have:d+n<=cs.size:=by simpa using a
     simp;omega
    simp only[jt,kW,lB,NY,Array.size_extract] at h1 h2;simp only[List.getElem_toArray,List.getElem_take,List.getElem_drop,yp,Array.getElem_extract];exact hi _ _ _
   cases h
theorem agZ{s:aI}{x:av}{f n:Nat}{fs:Array Field}{kG:Field}{b:oX}{g:Bool}(hs:P.underlying s=some (.struct fs))(c:fs[f]? = some kG)(he:P.underlying kG.type=some b)(hg:Aj b=g)
 (hn:(P.info? kG.type).map (·.size)=some n):jT P (.field s x f) (.kG x kG.offset (if g then some n else none)):=fun β j a o v ho hv h=>by
 have hx:=hv x So;simp only[pop] at h;split at h
 ·rename_i cs ha;rw[ha] at hx;obtain⟨bs,d,e,hi⟩ : ∃bs,a x= .agg bs/\cs.size=bs.size/\∀i (h1:i<cs.size) (h2:i<bs.size),VR β cs[i] bs[i]:=by
   generalize a x=q at hx;cases hx with
   | agg h hi=>exact⟨_,rfl,h,hi⟩
  obtain⟨v',h1,h2⟩:=Zt e hi he hg hn h;refine⟨v',λw=> ?_,h2⟩;simp only[execOp,ho,Instr.field,d,asAgg,cA,run_underlying hs,cg,c,cR,h1]
 cases h
theorem ag0{t e:aI}{x i:av}{n sz:Nat}{b:oX}{g:Bool}(ht:P.underlying t=some (.array n e))(he:P.underlying e=some b)(hg:Aj b=g)
 (hn:(P.info? e).map (·.size)=some sz):jT P (.index t x i) (.Jy x i n sz g):=fun β m a o v ho hv h=>by
 have hx:=hv x So;have hi:=hv i So;simp only[pop] at h;split at h
 ·rename_i cs k j ha c;rw[ha] at hx;rw[c] at hi;split at h
  ·rename_i hb;obtain⟨bs,d,f,l⟩ : ∃bs,a x= .agg bs/\cs.size=bs.size/\∀i (h1:i<cs.size) (h2:i<bs.size),VR β cs[i] bs[i]:=by
    generalize a x=q at hx;cases hx with
    | agg h hi=>exact⟨_,rfl,h,hi⟩
   obtain⟨v',h1,h2⟩:=Zt f l he hg hn h;refine⟨v',λw=> ?_,h2⟩;simp only[execOp,ho,d,hi.uK,Instr.index,asIntOf,cA,run_underlying ht,cg,cR,iP hb,wb hn,h1]
  cases h
 cases h
theorem Zu{b:Bool}{x y:av}{ts:Array aI}:jT P (.call { callee:= .builtin (if b then .max else .min),args:= #[x,y],argTypes:=ts }) (.mx b x y):=fun β d c o v ho hv h=>by
 have hx:=hv x S0;have a:=hv y S0;simp only[pop] at h;split at h
 ·rename_i k m k' n ha hb;rw[ha] at hx;rw[hb] at a;cases h;refine⟨_,λw=> ?_, .int _ _⟩;cases b<;>simp[execOp,ho,resolve,cA,cR,cg,invoke,builtin,hx.uK,a.uK,Builtin.max_,Builtin.min_,Builtin.max2,Builtin.min2]
 cases h
inductive iK where
 | ld (x:av)
 | kZ (n:Nat) (x:av)
 | Cl (e sz:Nat) (x:av) (lo hi mx:Option av)
 | b2s (x:av)
 | Cm (f:aI->Nat->Nat->Bool) (x:av)
 | Ed (neg:Bool) (x y:av)
 | GL (kk:Nat) (z:ae) (ok:Bool) (x i:av)
def Ee:Nat->ae->ae->Option Bool
 | 0, .int k a, .int k' b=>if k=k' then some (a==b) else none
 | 1, .string a, .string b=>some (a==b)
 | 2, .bool a, .bool b=>some (a==b)
 | _,_,_=>none
def uM(kk:Nat)(k:ae):List qp->Nat->Option (Option (Nat×ae))
 | [],_=>some none
 | e::es,i=>match Ee kk k e.key with
   | some true=>some (some (i,e.val))
   | some false=>uM kk k es (i+1)
   | none=>none
def uN (z:ae)(ok:Bool):Option (Option (Nat×ae))->Option ae
 | some (some (_,v))=>some (if ok then .tuple #[v, .bool true] else v)
 | some none=>some (if ok then .tuple #[z, .bool false] else z)
 | none=>none
def isKey:Nat->ae->Bool
 | 0, .int _ _=>true
 | 1, .string _=>true
 | 2, .bool _=>true
 | _,_=>false
def uO (kk:Nat)(z:ae)(ok:Bool)(k:ae)(o:dD):Option ae:=match o with
 | .map es _=>if isKey kk k=true then uN z ok (uM kk k es.toList 0) else none
 | .fm f _=>match kk,k with
   | 1, .string s=>uN z ok (some ((f s).map λn=>(0, .int .i64 n)))
   | _,_=>none
 | _=>none
def ri (H:CH)(e:aI):ae->Bool
 | .slice (some ⟨l,_,none⟩) _ _=>match H.ob l with
   | .cells _ e' .ro=>true
   | .cells _ e' _=>e'==e
   | _=>false
 | _=>true
def sI:List ae->Option (List UInt8)
 | []=>some []
 | .int .u8 n::r=>(sI r).map (ar n.toNat:: ·)
 | _::_=>none
def aD (H:CH)(ev:av->ae):iK->Option ae
 | .Ed neg x y=>match ev x,ev y with
   | .pointer a, .pointer none=>some (.bool (neg ^^ a.isNone))
   | .pointer none, .pointer b=>some (.bool (neg ^^ b.isNone))
   | .pointer (some ⟨l,o,none⟩), .pointer (some ⟨l',o',none⟩)=>match H.ob l with
     | .cells _ _ _=>if l=l' then some (.bool (neg ^^ (o==o'))) else none
     | _=>none
   | _,_=>none
 | .Cm f x=>match ev x with
   | .pointer none=>some (.pointer none)
   | .pointer (some ⟨l,o,none⟩)=>match H.ob l with
     | .cells cs e .ex=>if f e cs.length o=true then some (.pointer (some ⟨l,o,none⟩)) else none
     | _=>none
   | _=>none
 | .ld x=>match ev x with
   | .pointer (some ⟨l,o,none⟩)=>match H.ob l with
     | .cells cs _ _=>cs[o]?
     | _=>none
   | _=>none
 | .kZ n x=>match ev x with
   | .pointer (some ⟨l,o,none⟩)=>match H.ob l with
     | .cells cs _ _=>if o+n<=cs.length then some (.agg ((cs.drop o).take n).toArray) else none
     | _=>none
   | _=>none
 | .Cl e sz x lo hi mx=>match gT ev 0 lo,gT ev (Ai (ev x)) hi,gT ev (vY (ev x)) mx with
   | some l,some h,some m=>if ri H e (ev x)&&(mx.isNone||hi.isSome) then tG sz (ev x) l h m mx.isSome else none
   | _,_,_=>none
 | .b2s x=>match ev x with
   | .slice none 0 0=>some (.string .empty)
   | .slice (some ⟨l,o,none⟩) n _=>match H.ob l with
     | .cells cs _ _=>if o+n<=cs.length then (sI ((cs.drop o).take n)).map λbs=> .string ⟨bs.toArray⟩ else none
     | _=>none
   | .slice (some ⟨_,_,some _⟩) 0 _=>some (.string .empty)
   | _=>none
 | .GL kk z ok x i=>match ev x with
   | .map none=>if isKey kk (ev i)=true then uN z ok (some none) else none
   | .map (some l)=>uO kk z ok (ev i) (H.ob l)
   | _=>none
def Am(P:aX)(op:Op)(r:iK):Prop:=
 ∀(B:Nat) (β:Nat->aA) (H:CH) (w:ay) (b a:av->ae) (o:dj) (v:ae),o.op=op->(∀x∈op.operands,VR β (b x) (a x))->aP P B β H w->aD H b r=some v->
  ∃v',(execOp a o).run P w= .ok (.value v') w/\VR β v v'
theorem Zv{t:aI}{d:oX}(h:P.underlying t=some d)(hd:(match d with | .struct _ | .array _ _=>true | _=>false)=false)(w:ay):(isAgg t).run P w= .ok false w:=by
 simp only[isAgg,cA,run_underlying h,cg];cases d<;>first | rfl | cases hd
theorem ag1{t:aI}{d:oX}(h:P.underlying t=some d)(hd:(match d with | .struct _ | .array _ _=>true | _=>false)=true)(w:ay):(isAgg t).run P w= .ok true w:=by
 simp only[isAgg,cA,run_underlying h,cg];cases d<;>first | rfl | cases hd
theorem ag2{t:aI}{d:oX}{x:av}(h:P.underlying t=some d)(hd:(match d with | .struct _ | .array _ _=>true | _=>false)=false):Am P (.load t x) (.ld x):=λB β H w m c o v ho hv f a=>by
 have hx:=hv x So;simp only[aD] at a;split at a
 ·rename_i l n ha;split at a;·rename_i cs e k g;rw[ha] at hx;obtain⟨b,z,i,hc⟩:=f.load hx g;obtain⟨u,hu,j⟩:=hc _ _ a;refine⟨u,?_,j⟩;simp only[execOp,ho,i,Instr.loadAt,Gh,loadVar,cA,cR,cg,Zv h hd,je,iF];simp[Go.load,vS,hu]
  cases a
 cases a
theorem Zw{t:aI}{d:oX}{n:Nat}{x:av}(h:P.underlying t=some d)(hd:(match d with | .struct _ | .array _ _=>true | _=>false)=true)(hn:(P.info? t).map (·.size)=some n):Am P (.load t x) (.kZ n x):=λB β H w y f o v ho hv r c=>by
 have hx:=hv x So;simp only[aD] at c;split at c
 ·rename_i l g ha;split at c
  ·rename_i cs e k s;split at c
   ·rename_i i;cases c;rw[ha] at hx;obtain⟨b,sz,m,hb,u⟩:=r.cells s;have q:f x= .pointer (some ⟨b.1,g+b.2,none⟩):=by
     generalize q:f x=z at hx;cases hx with
     | ptr hl=>rw[hb] at hl;cases hl;rfl
     | qA a hl=>rw[hb] at hl;cases hl
    obtain⟨j,h1,h2,h3⟩:=u.reads g n i;refine⟨.agg j.toArray,?_, .agg Sq ?_⟩;·simp only[execOp,ho,q,Instr.loadAt,Gh,loadVar,cA,cR,cg,ag1 h hd,iT,wb hn];have:=run_loadCells_list (P:=P) w ⟨b.1,g+b.2,none⟩ j h3;rw[h2] at this;simp only[this,cg]
    have:=(aT.arr (xa:=((cs.drop g).take n).toArray) (bs:=j.toArray)).1 (by simpa using h1);exact this.2
   cases c
  cases c
 cases c
end
section
open Go Go.RowKit
variable {P:aX}
theorem GM{ev':av->ae}{o:dj}{t e sz:Nat}{x:av}{lo hi mx:Option av}(ho:o.op= .slice t x lo hi mx)(ht:P.underlying t=some (.slice e))(hz:(P.info? e).map (·.size)=some sz)
 {a:Option cB} {n c:Nat} (hx:ev' x= .slice a n c) {l h m:Int} (hl:Al ev' 0 lo l) (hh:Al ev' n hi h) (d:Al ev' c mx m) (f:mx.isSome=true->hi.isSome=true)
 (g:0<=l) (h1:l<=h) (h2:h<=m) (h3:m<=c) (w:ay) :
 (execOp ev' o).run P w= .ok (.value (.slice (if m.toNat=l.toNat then a else a.map (·.add (l.toNat*sz))) (h.toNat-l.toNat) (m.toNat-l.toNat))) w:=by
 have i:=Zr (P:=P) (b:=true) hl hh d f g h1 h2 h3 w;simp only[execOp,ho,hx,Instr.sliceAt,Instr.slice,cA,run_underlying ht,cg,i,wb hz,cR]
theorem ag3{t e sz:Nat}{x:av}{lo hi mx:Option av}(ht:P.underlying t=some (.slice e))(hz:(P.info? e).map (·.size)=some sz):Am P (.slice t x lo hi mx) (.Cl e sz x lo hi mx):=λB β H w S i o v ho hv O d=>by
 have hx:=hv x So;simp only[aD] at d;split at d
 ·rename_i l h m hl hh q;split at d
  ·rename_i r;obtain⟨r,cW⟩:=by simpa using r
   have C:mx.isSome=true->hi.isSome=true:=λg=>by cases mx<;>simp_all
   have vl:=λy (e:lo=some y)=>hv y (by simp[sq,e]);have s:=λy (e:hi=some y)=>hv y (by simp[sq,e]);have D:=λy (e:mx=some y)=>hv y (by simp[sq,e]);have bl:=tH (d':=0) hl vl (λ_=>rfl);generalize SW:S x=vx at *;generalize u:i x=U at *;cases hx with
   | Af=>
     simp only[tG] at d;split at d;·rename_i g;obtain⟨rfl,rfl,rfl⟩:=g;cases d;refine⟨_,GM ho ht hz u bl (tH hh s (λ_=>rfl)) (tH q D (λ_=>rfl)) C (sw _) (sw _) (sw _) Sm w,?_⟩;simp;exact .Af
     cases d
   | xi a=>
     simp only[tG] at d;split at d;·rename_i g;obtain⟨rfl,rfl,rfl⟩:=g;cases d;refine⟨_,GM ho ht hz u bl (tH hh s (λ_=>rfl)) (tH q D (λ_=>rfl)) C (sw _) (sw _) (sw _) Sm w,?_⟩;simp;exact .xi a
     cases d
   | yy a c=>
     simp only[tG] at d;split at d
     ·rename_i g;obtain⟨rfl,rfl,rfl⟩:=g;cases d;cases mx with
      | none=>
        refine⟨_,GM (m:=(c:Int)) ho ht hz u bl (tH hh s (λ_=>rfl)) (.inl ⟨rfl,rfl⟩) Sm (sw _) (sw _) Om Sm w,?_⟩;simp;split<;>exact .yy _ _
      | some y=>
        refine⟨_,GM (m:=0) ho ht hz u bl (tH hh s (λ_=>rfl)) (tH q D (λe=>(by cases e))) C (sw _) (sw _) Om Om w,?_⟩;simp;exact .yy _ _
     cases d
   | @rq l' I n c c' a hd h2=>
     have E:=O.iV l';rw[hd] at E;cases Q:H.ob l'<;>rw[Q] at E<;>try exact E.elim
     simp[ri,Q] at r
   | @ru l' I b f V k a hb=>
     simp only[tG] at d;split at d
     ·rename_i g;obtain⟨g0,g1,g2,g3⟩:=g;have F:l=0:=by omega
      have G:h=0:=by omega
      have R:m=0:=by omega
      subst F G R;rw[iP rfl] at d;have z:=GM (m:=0) ho ht hz u bl (tH hh s (λ_=>rfl)) (tH q D (λ_=>rfl)) C (sw _) (sw _) (sw _) Sm w;cases mx with
      | none=>
        simp only[Sp,je,iF] at d;cases d;refine⟨_,z,?_⟩;simp;exact .ru _ hb
      | some y=>
        simp only[YT,iT] at d;cases d;refine⟨_,z,?_⟩;simp;exact .xi _
     cases d
   | @sl l' I b f V n c c' k hb h1 h2 h3 h4 h5=>
     obtain⟨cs,j,E,W⟩:=O.live hb;have J:k≠ .ro->f=sz:=λhk=>by
      have he:j=e:=by
       simp only[ri,E] at r;cases k with
       | ro=>exact absurd rfl hk
       | ex=>simpa using r
       | gr=>simpa using r
      subst he;obtain⟨_,_,_,_,_,_,_,g,_⟩:=W;have g:=g hk;rw[hz] at g;exact(Option.some.inj g).symm
     simp only[tG] at d;split at d
     ·rename_i X;obtain⟨g0,g1,g2,g3⟩:=X;have Y:=tH (d':=n) hh s (λ_=>rfl);have key : ∀A:Int,Al i c' mx A->m<=A->A<=c'->∃v',(execOp i o).run P w= .ok (.value v') w/\v'=(.slice (if A.toNat=l.toNat then some ⟨b.1,I+b.2,none⟩ else some ⟨b.1,I+l.toNat*sz+b.2,none⟩) (h.toNat-l.toNat) (A.toNat-l.toNat)):=by
       intro A Z pd K;refine⟨_,GM ho ht hz u bl Y Z C g0 g1 Om K w,?_⟩;simp[Gf,Gg]
      cases mx with
      | none=>
        have L:m=c:=by simpa[gT,vY] using q.symm
        subst L;obtain⟨v',z,rfl⟩:=key c' (.inl ⟨rfl,rfl⟩) Om (sw _);refine⟨_,z,?_⟩;split at d
        ·rename_i M;simp only[Sp,je,iF] at d;cases d;have N:h.toNat-l.toNat=0:=by omega
         rw[N];by_cases dw:c'=l.toNat
         ·have Gv:((c':Int).toNat-l.toNat)=0:=by omega
          rw[Gv];split<;>exact .ru _ hb
         rw[iN Om];refine .sl hb (Nat.zero_le _) (Nat.zero_le _) Om (λg=> ?_) (λg=> ?_)
         ·have:=h4 g;have j:=J g;subst j;have G:l.toNat*f+(c'-l.toNat)*f=c'*f:=by rw[<-qt];congr 1;omega
          simp only[fJ];omega
         have:=h5 g;simp only[fJ];omega
        rename_i M;cases d;rw[iN Om];have F:(h-l).toNat=h.toNat-l.toNat:=by omega
        rw[F];have hle:l.toNat<=c':=by omega
        refine .sl hb Om Om (by simp only[fJ];omega) (λg=> ?_) (λg=> ?_)
        ·have:=h4 g;have j:=J g;subst j;have G:l.toNat*f+(c'-l.toNat)*f=c'*f:=by rw[<-qt];congr 1;omega
         simp only[fJ];omega
        have:=h5 g;simp only[fJ];omega
      | some y=>
        obtain⟨v',z,rfl⟩:=key m (tH q D (λe=>(by cases e))) (sw _) Om;refine⟨_,z,?_⟩;split at d
        ·rename_i M;simp only[YT,iT] at d;cases d;have N:h.toNat-l.toNat=0:=by omega
         have pe:m.toNat-l.toNat=0:=by omega
         rw[N,pe];split<;>exact .xi _
        rename_i M;cases d;rw[iN Om];have F:(h-l).toNat=h.toNat-l.toNat:=by omega
        have G:(m-l).toNat=m.toNat-l.toNat:=by omega
        rw[F,G];refine .sl hb Om (ai _) Om (λg=> ?_) (λg=>rfl);have:=h4 g;have j:=J g;subst j;have R:l.toNat*f+(m.toNat-l.toNat)*f=m.toNat*f:=by rw[<-qt];congr 1;omega
        have e4:m.toNat*f<=c'*f:=zU _ Om;omega
     cases d
   | _=>simp[tG] at d
  cases d
 cases d
end
section
open Go Go.RowKit
variable {P:aX}
theorem Zx(off:Nat) : ∀(vs:List ae) (i:Nat) (cells:Array ae),off+i+vs.length<=cells.size->
 ((vs.zipIdx i).foldl (λcs (x:ae×Nat)=>cs.setIfInBounds (off+x.2) x.1) cells).toList=setCells cells.toList (off+i) vs
 | [],i,cells,_=>by simp[setCells]
 | v::r,i,cells,h=>by
   simp only[List.zipIdx_cons,List.foldl_cons];rw[Zx off r (i+1) _ (by simp at h⊢;omega)];rw[Array.toList_setIfInBounds,show off+(i+1)=(off+i)+1 by omega,Ze (by simp at h⊢;omega)]
theorem aT.set{β:Nat->aA}{cs cs' us us':List ae}{o:Nat}(h:aT β cs cs')(hu:aT β us us'):aT β (setCells cs o us) (setCells cs' o us'):=by
 have take : ∀n,aT β (cs.take n) (cs'.take n):=λn=>⟨by simp[h.1],λi v hv=>by
  rw[Jg] at hv⊢;split at hv;·obtain⟨v',a,b⟩:=h.2 i v hv;exact⟨v',by simp[*],b⟩
  cases hv⟩
 have drop : ∀n,aT β (cs.drop n) (cs'.drop n):=λn=>⟨by simp[h.1],λi v hv=>by
  rw[pI] at hv⊢
  exact h.2 _ v hv⟩
 unfold setCells;rw[hu.1];exact aT.append (aT.append (take o) hu) (drop _)
theorem ag4{cs us:List ae}{o:Nat}(h:o+us.length<=cs.length):(setCells cs o us).length=cs.length:=Oh h
theorem Ol{β:Nat->aA}{ev ev':av->ae}{place:Nat->Option (Nat×Nat)} : ∀(ps:List (Nat×av)) (pl:List (Nat×Nat×av)) (z cs:List ae) (a:Array ae),
 pl=ps.filterMap (λp=>(place p.1).map λq=>(q.1,q.2,p.2))->(∀p∈ps,(place p.1).isSome=true)->(∀p∈ps,VR β (ev p.2) (ev' p.2))->aT β z a.toList->dv z (pl.map λ(o,s,x)=>(o,s,ev x))=some cs->
 ∃cs',Instr.fill place a (ps.map λ(i,x)=>(i,ev' x))=some cs'/\aT β cs cs'.toList
 | [],pl,z,cs,a,hp,_,_,hz,h=>by
   subst hp;simp[dv] at h;subst h;exact⟨a,rfl,hz⟩
 | (i,x)::ps,pl,z,cs,a,hp,hs,hv,hz,h=>by
   subst hp;have hi:=hs (i,x) (lA ..);obtain⟨⟨off,size⟩,b⟩:=Option.isSome_iff_exists.1 hi;simp only at b;simp only[List.filterMap_cons,b,dC,c8,dv] at h;split at h
   ·rename_i hg;obtain⟨g1,g2,g3⟩:=hg;have hx:=hv (i,x) (lA ..);have hc:=hx.cells g1;have c:(ev x).cells.size=(ev' x).cells.size:=by simpa using hc.1
    have d:z.length=a.size:=by simpa using hz.1
    obtain⟨cs',h1,h2⟩:=Ol (ev:=ev) (ev':=ev') (place:=place) ps _ (setCells z off (ev x).cells.toList) cs ((ev' x).cells.zipIdx.foldl (λcs (x:ae×Nat)=>cs.setIfInBounds (off+x.2) x.1) a) rfl
     (λp hp=>hs p (jJ _ hp)) (λp hp=>hv p (jJ _ hp)) (by
       have:=Zx off (ev' x).cells.toList 0 a Sq;rw[Nat.add_zero] at this;rw[<-Array.foldl_toList,Array.toList_zipIdx,this];exact hz.set hc) h
    refine⟨cs',?_,h2⟩;simp only[c8,Instr.fill,b];rw[iN Sq];exact h1
   cases h
theorem ag5{t:aI}{fs:Array Field}{z:List ae}{ps:Array (Nat×av)}(ht:P.underlying t=some (.struct fs))(hz:(P.info? t).bind (·.zero)=some (.agg z.toArray))(j : ∀β,aT β z z)
 (b:List Nat) (g:fs.toList.map (λf=>(P.info? f.type).map (·.size))=b.map some) (k : ∀p∈ps.toList,p.1<fs.size) :
 jT P (.build t ps) (.Ah z (ps.toList.filterMap λp=>((fs.toList.map (·.offset)).zip b)[p.1]?.map λq=>(q.1,q.2,p.2))):=fun β e c o v ho hv h=>by
 simp only[pop] at h;cases hb:dv z ((ps.toList.filterMap λp=>((fs.toList.map (·.offset)).zip b)[p.1]?.map λq=>(q.1,q.2,p.2)).map λ(o,s,x)=>(o,s,e x)) with
 | none=>rw[hb] at h;cases h
 | some cs=>
   rw[hb] at h;cases h;have d:b.length=fs.size:=by have:=congrArg tu g;simpa using this.symm
   have hplaces : ∀w:ay,(fs.mapM λf=>do pure (f.offset,<-sizeOf f.type):Sem (Array (Nat×Nat))).run P w= .ok ((fs.toList.map (·.offset)).zip b).toArray w:=by
    intro w;have key : ∀(l:List Field) (a:List Nat),l.map (λf=>(P.info? f.type).map (·.size))=a.map some->(l.mapM λf=>do pure (f.offset,<-sizeOf f.type):Sem (List (Nat×Nat))).run P w= .ok ((l.map (·.offset)).zip a) w:=by
     intro l;induction l with
     | nil=>intro a hs;cases a<;>simp_all
     | cons f l m=>
       intro a hs;cases a with
       | nil=>simp at hs
       | cons s a=>
         simp only[c8,List.cons.injEq] at hs;simp only[List.mapM_cons,cA,wb hs.1,cg,cR,m a hs.2,c8,List.zip_cons_cons]
    rw[Array.mapM_eq_mapM_toList];simp only[Sem.run_map,key _ _ g,cg]
   obtain⟨cs',h1,h2⟩:=Ol (β:=β) (ev:=e) (ev':=c) (place:=λi=>((fs.toList.map (·.offset)).zip b).toArray[i]?) ps.toList _ z cs z.toArray rfl
    (λp hp=>by have:=k p hp;simp[this,d]) (λp hp=>hv _ (by simp[sq];exact⟨p.1,by simpa using hp⟩)) (by simpa using j β) (by simpa using hb)
   refine⟨.agg cs',λw=> ?_, .agg ?_ ?_⟩
   ·cases hi:P.info? t with
    | none=>simp[hi] at hz
    | some inf=>
      have n:inf.zero=some (.agg z.toArray):=by simpa[hi] using hz
      simp only[execOp,ho,Instr.build,cA,zeroValue,typeInfo,vS,hi,cg,cR,n,run_underlying ht,hplaces,Sr,h1,Value.cells,program,Sem.run_pure']
   ·have:=h2.1;simpa using this
   have:=(aT.arr (xa:=cs.toArray) (bs:=cs')).1 (by simpa using h2);exact this.2
theorem ag6{t e n sz:aI}{z:List ae}{ps:Array (Nat×av)}(ht:P.underlying t=some (.array n e))(hn:(P.info? e).map (·.size)=some sz)(hz:(P.info? t).bind (·.zero)=some (.agg z.toArray))(c : ∀β,aT β z z) :
 jT P (.build t ps) (.Ah z (ps.toList.map λp=>(p.1*sz,sz,p.2))):=fun β b a o v ho hv h=>by
 simp only[pop] at h;cases hb:dv z ((ps.toList.map λp=>(p.1*sz,sz,p.2)).map λ(o,s,x)=>(o,s,b x)) with
 | none=>rw[hb] at h;cases h
 | some cs=>
   rw[hb] at h;cases h;obtain⟨cs',h1,h2⟩:=Ol (β:=β) (ev:=b) (ev':=a) (place:=λi=>some (i*sz,sz)) ps.toList (ps.toList.map λp=>(p.1*sz,sz,p.2)) z cs z.toArray (by simp[List.filterMap_eq_map'])
    (λp hp=>rfl) (λp hp=>hv _ (by simp[sq];exact⟨p.1,by simpa using hp⟩)) (by simpa using c β) hb
   refine⟨.agg cs',λw=> ?_, .agg ?_ ?_⟩
   ·cases hi:P.info? t with
    | none=>simp[hi] at hz
    | some inf=>
      have d:inf.zero=some (.agg z.toArray):=by simpa[hi] using hz
      simp only[execOp,ho,Instr.build,cA,zeroValue,typeInfo,vS,hi,cg,cR,d,run_underlying ht,wb hn,Sr,h1,Value.cells,program,Sem.run_pure']
   ·have:=h2.1;simpa using this
   have:=(aT.arr (xa:=cs.toArray) (bs:=cs')).1 (by simpa using h2);exact this.2
inductive AK where
 | ptr
 | sl (n c:Nat)
def db:AK->Nat->ae
 | .ptr,l=> .pointer (some ⟨l,0,none⟩)
 | .sl n c,l=> .slice (some ⟨l,0,none⟩) n c
def On (mk:AK)(b sz:Nat)(k:Kd)(size:Nat)(v':ae):Prop:=
 match mk with
 | .ptr=>v'= .pointer (some ⟨b,0,none⟩)
 | .sl n c=>∃c',v'= .slice (some ⟨b,0,none⟩) n c'/\n<=c/\c<=c'/\c'<=maxLen/\c'*sz<=size/\(k≠ .gr->c'=c)
inductive qC where
 | box (e:aI) (x:av)
 | new (e:aI) (z:List ae)
 | Ao (e sz n:Nat) (z:List ae) (ps:List (Nat×av))
 | cI (e sz bytes:Nat) (z:List ae) (l c:av)
def jU(z:List ae)(n:Nat):List ae:=(List.range n).map λi=>z.getD (i % z.length) undef
def cq (ev:av->ae):qC->Option (List ae×aI×Kd×AK)
 | .box e x=>if isVal (ev x) then some ((ev x).cells.toList,e, .ex, .ptr) else none
 | .new e z=>some (z,e, .ex, .ptr)
 | .Ao e sz n z ps=>if n*sz<=16777216/\n<=16777216 then (dv (jU z (n*sz)) (ps.map λ(i,x)=>(i*sz,sz,ev x))).map λcs=>(cs,e, .ex, .sl n n) else none
 | .cI e sz bytes z l c=>match ev l,ev c with
   | .int _ n, .int _ m=>if 0<=n/\n<=m/\(bytes:Int)*m<=281474976710656/\m<=9223372036854775807 then some (jU z (m.toNat*sz),e, .ex, .sl n.toNat m.toNat) else none
   | _,_=>none
def JC(P:aX)(op:Op)(r:qC):Prop:=
 ∀(β:Nat->aA) (b a:av->ae) (o:dj) (cs:List ae) (e:aI) (k:Kd) (mk:AK),o.op=op->(∀x∈op.operands,VR β (b x) (a x))->cq b r=some (cs,e,k,mk)->
  k≠ .ro/\∃sz,(P.info? e).map (·.size)=some sz/\∀w:ay,∃(cs':Array ae) (fr:Nat×Nat) (w':ay) (v':ae),(execOp a o).run P w= .ok (.value v') w'/\w'.heap=w.heap.push (.cells cs' e fr)/\w'.os=w.os/\w'.tape=w.tape/\w'.output=w.output/\
   cs.length<=cs'.size/\(k= .ex->cs.length=cs'.size)/\(∀(i:Nat) (v:ae),cs[i]? = some v->∃u,cs'[i]? = some u/\VR β v u)/\(Ch cs'.size fr)/\On mk w.heap.size sz k cs'.size v'
theorem Oo{β:Nat->aA}{cs:List ae}{cs':Array ae}(h:aT β cs cs'.toList):cs.length=cs'.size/\∀(i:Nat) (v:ae),cs[i]? = some v->∃u,cs'[i]? = some u/\VR β v u:=
 ⟨by simpa using h.1,λi v hv=>by obtain⟨u,a,b⟩:=h.2 i v hv;exact⟨u,by simpa using a,b⟩⟩
theorem ag7{e sz:aI}{x:av}(hz:(P.info? e).map (·.size)=some sz):JC P (.box e x) (.box e x):=fun β c a o cs d k mk ho hv h=>by
 have hx:=hv x So;simp only[cq] at h;split at h;·rename_i b;simp only[Option.some.injEq,Prod.mk.injEq] at h;obtain⟨rfl,rfl,rfl,rfl⟩:=h;obtain⟨h1,h2⟩:=Oo (hx.cells b);refine⟨Sm,sz,hz,λw=>⟨(a x).cells,(0,0),w.alloc (.cells (a x).cells e),_,?_,rfl,rfl,rfl,rfl,Om,λ_=>h1,h2, .inl rfl,rfl⟩⟩;simp[execOp,ho,Instr.box,newVar,newRow,newObj,vS]
 cases h
theorem ag8{e sz:aI}{z:ae}(hz:(P.info? e).map (·.size)=some sz)(a:(P.info? e).bind (·.zero)=some z)(b : ∀β,aT β z.cells.toList z.cells.toList):JC P (.alloc e) (.new e z.cells.toList):=fun β f c o cs g k mk ho hv h=>by
 simp only[cq,Option.some.injEq,Prod.mk.injEq] at h;obtain⟨rfl,rfl,rfl,rfl⟩:=h;obtain⟨h1,h2⟩:=Oo (b β);cases hi:P.info? e with
 | none=>simp[hi] at a
 | some inf=>
   have d:inf.zero=some z:=by simpa[hi] using a
   refine⟨Sm,sz,by rw[<-hi];exact hz,λw=>⟨z.cells,(0,0),w.alloc (.cells z.cells e),_,?_,rfl,rfl,rfl,rfl,Om,λ_=>h1,h2, .inl rfl,rfl⟩⟩;simp[execOp,ho,Instr.alloc,newVar,newRow,newObj,vS,zeroValue,typeInfo,hi,d,program]
theorem Zy{β:Nat->aA}{z:Array ae}(d : ∀β,aT β z.toList z.toList)(hz:0<z.size)(n:Nat):aT β (jU z.toList n) ((Gk n).map (z[· % z.size]!)).toList:=by
 refine⟨by simp[jU],λi v hv=> ?_⟩;unfold jU at hv;rw[ka] at hv;cases a:(List.range n)[i]? with
 | none=>rw[a] at hv;cases hv
 | some j=>
   rw[a] at hv;obtain⟨hi,rfl⟩:=List.getElem?_eq_some_iff.1 a;have e:i<n:=by simpa using hi
   simp only[dC,Option.some.injEq,List.getElem_range,NY] at hv;have b:i % z.size<z.size:=Nat.mod_lt _ hz;obtain⟨v',h1,h2⟩:=(d β).2 (i % z.size) z[i % z.size] Sm;have c:v=z[i % z.size]:=by rw[<-hv];simp[List.getD,b]
   refine⟨z[i % z.size],by simp[e,b],?_⟩;have:v'=z[i % z.size]:=by
    rw[Array.getElem?_toList,sv b] at h1;exact(Option.some.inj h1).symm
   rw[c];rw[this] at h2;exact h2
theorem ag9{t e sz n:aI}{z:ae}{ps:Array (Nat×av)}(ht:P.underlying t=some (.slice e))(hz:(P.info? e).map (·.size)=some sz)(m:(P.info? e).bind (·.zero)=some z)(r : ∀β,aT β z.cells.toList z.cells.toList)(u:0<z.cells.size) :
 JC P (.buildSlice t n ps) (.Ao e sz n z.cells.toList ps.toList):=fun β c a o cs E k mk ho hv h=>by
 simp only[cq] at h;split at h
 ·rename_i d;cases hb:dv (jU z.cells.toList (n*sz)) (ps.toList.map λ(i,x)=>(i*sz,sz,c x)) with
  | none=>rw[hb] at h;cases h
  | some y=>
    rw[hb] at h;simp only[dC,Option.some.injEq,Prod.mk.injEq] at h;obtain⟨rfl,rfl,rfl,rfl⟩:=h;have A:aT β (jU z.cells.toList (n*sz)) ((Gk (n*sz)).map (z.cells[· % z.cells.size]!)).toList:=Zy r u _;obtain⟨cs',h1,h2⟩:=Ol (β:=β) (ev:=c) (ev':=a) (place:=λi=>some (i*sz,sz)) ps.toList (ps.toList.map λp=>(p.1*sz,sz,p.2)) _ y _ Sm (λp hp=>rfl)
     (λp hp=>hv _ (by simp[sq];exact⟨p.1,by simpa using hp⟩)) A (by rw[List.map_map];exact hb)
    obtain⟨g1,g2⟩:=Oo h2;have b:cs'.size=n*sz:=by
     have key : ∀(pl:List (Nat×Nat×ae)) (z cs:List ae),dv z pl=some cs->cs.length=z.length:=by
      intro pl;induction pl with
      | nil=>intro z cs hh;simp[dv] at hh;rw[hh]
      | cons p pl C=>
        intro z cs hh;obtain⟨o,s,v⟩:=p;simp only[dv] at hh;split at hh;·rename_i g;rw[C _ _ hh,ag4 Sq]
        cases hh
     have:=key _ _ _ hb;rw[<-g1,this];simp[jU]
    cases hi:P.info? e with
    | none=>simp[hi] at m
    | some inf=>
      have D:inf.zero=some z:=by simpa[hi] using m
      have f:inf.size=sz:=by simpa[hi] using hz
      refine⟨Sm,sz,by simpa using f,λw=>⟨cs',(0,0),w.alloc (.cells cs' e),_,?_,rfl,rfl,rfl,rfl,Om,λ_=>g1,g2, .inl rfl,n,rfl,ai _,ai _,?_,by rw[b];exact ai _,λ_=>rfl⟩⟩
      ·have q : ¬(16777216<n*sz):=Nat.not_lt.2 d.1;by_cases j:n*sz=0
       ·have l:((Gk (n*sz)).map ((#[]:Array ae)[· % (#[]:Array ae).size]!))=((Gk (n*sz)).map (z.cells[· % z.cells.size]!)):=by rw[j];simp
        simp only[execOp,ho,Instr.buildSlice,cA,run_underlying ht,cg,sizeOf,typeInfo,program,vS,hi,cR,f];rw[iN (by simpa using q)];simp only[cA,cR,cg,iP j,l,Sr];rw[h1];rfl
       simp only[execOp,ho,Instr.buildSlice,cA,run_underlying ht,cg,sizeOf,typeInfo,program,vS,hi,cR,f];rw[iN (by simpa using q)];simp only[cA,cR,cg,iN j,zeroValue,typeInfo,program,vS,hi,D,Sr];rw[h1];rfl
      unfold maxLen;omega
 cases h
theorem ahb{t e sz bytes:Nat}{z:ae}{l c:av}(ht:P.underlying t=some (.slice e))(hz:(P.info? e).map (λi=>(i.size,i.bytes))=some (sz,bytes))(a:(P.info? e).bind (·.zero)=some z)(d : ∀β,aT β z.cells.toList z.cells.toList)(f:0<z.cells.size) :
 JC P (.makeSlice t l c) (.cI e sz bytes z.cells.toList l c):=fun β D g o cs E k mk ho hv h=>by
 have hl:=hv l So;have hc:=hv c So;simp only[cq] at h;split at h
 ·rename_i j n q m hn r;split at h
  ·rename_i hb;obtain⟨s,u,v,b3⟩:=hb;rw[hn] at hl;rw[r] at hc;simp only[Option.some.injEq,Prod.mk.injEq] at h;obtain⟨rfl,rfl,rfl,rfl⟩:=h;cases hi:P.info? e with
   | none=>simp[hi] at a
   | some inf=>
     have x:inf.zero=some z:=by simpa[hi] using a
     obtain⟨hs,y⟩:inf.size=sz/\inf.bytes=bytes:=by simpa[hi] using hz
     have A:aT β (jU z.cells.toList (m.toNat*sz)) ((Gk (m.toNat*sz)).map (z.cells[· % z.cells.size]!)).toList:=Zy d f _;obtain⟨g1,g2⟩:=Oo A;have C:((Gk (m.toNat*sz)).map (z.cells[· % z.cells.size]!)).size=m.toNat*sz:=by simp
     refine⟨Sm,sz,by simpa using hs,λw=>⟨(Gk (m.toNat*sz)).map (z.cells[· % z.cells.size]!),(0,0),w.alloc (.cells ((Gk (m.toNat*sz)).map (z.cells[· % z.cells.size]!)) e),_,?_,rfl,rfl,rfl,rfl,Om,λ_=>g1,g2, .inl rfl,m.toNat,rfl,Om,ai _,by unfold maxLen;omega,by rw[C];exact ai _,λ_=>rfl⟩⟩;have b:=run_make (P:=P) w t e inf z ht hi x j q n m s u (by rw[y];exact v) b3;rw[hs] at b;simp only[execOp,ho,hl.uK,hc.uK,cA,b,cg,cR];rfl
  cases h
 cases h
end
section
open Go Go.RowKit
variable {P:aX}
inductive iW where
 | st (n:Nat) (x v:av)
 | app (e sz bytes:Nat) (s x:av)
 | JD (sz:Nat) (d s:av)
 | JE
 | JG (kk:Nat) (x k v:av)
 | JH (x:av)
 | Aq (x:av)
 | JI (x:av)
 | JJ (x:av)
 | del (kk:Nat) (x k:av)
 | iX (x:av)
 | s2b (e bytes:Nat) (x:av)
 | JK (e:aI) (p n:av)
def Kd.bY:Kd->Bool
 | .ro=>true
 | _=>false
theorem Kd.JL{k:Kd}(h:k.bY=false):k≠ .ro:=λe=>by subst e;cases h
def Kd.jv:Kd->Bool
 | .ex=>true
 | _=>false
def iY (full:Bool)(H:CH)(l:Nat)(o:dD):CH:=if full then H.new o else (H.set l .dead).new o
def oj(H:CH)(sz:Nat):ae->Option (List ae×Nat)
 | .slice none 0 0=>some ([],0)
 | .slice (some ⟨_,_,some _⟩) 0 0=>some ([],0)
 | .slice (some ⟨l,o,none⟩) m _=>if m=0 then some ([],0) else match H.ob l with
   | .cells cs _ _=>if o+m*sz<=cs.length then some ((cs.drop o).take (m*sz),m) else none
   | _=>none
 | .string s=>if sz=1 then some (s.data.toList.map λb=> .int .u8 b.toNat,s.size) else none
 | _=>none
def yD (kk l:Nat)(k v:ae)(H:CH)(o:dD):Option (ae×CH):=match o with
 | .map es c=>if isKey kk k=true/\isVal v=true then match uM kk k es.toList 0 with
   | some (some (i,_))=>some (undef,H.set l (.map (es.modify i λe=> { e with key:=k,val:=v }) c))
   | some none=>some (undef,H.set l (.map (es.push { key:=k,val:=v,born:=c }) (c+1)))
   | none=>none
   else none
 | .fm f c=>match kk,k,v with
   | 1, .string s, .int .i64 n=>if s.size<=maxLen/\(Lit.int .i64 n).wf=true/\c+1<=maxLen then some (undef,H.set l (.fm (λt=>if t=s then some n else f t) (c+1))) else none
   | _,_,_=>none
 | _=>none
def GP (l:Nat)(H:CH)(o:dD):Option (ae×CH):=match o with
 | .xj s p=>if p<s.size then some (.tuple #[.bool true, .int .i64 p, .int .i32 (Utf8.decode s p).1],H.set l (.xj s (p+(Utf8.decode s p).2))) else some (.tuple #[.bool false],H)
 | _=>none
def Zz (l:Nat)(H:CH)(o:dD):Option (ae×CH):=match o with
 | .map _ _=>some (.chan (some H.nx),H.new (.Ag l))
 | _=>none
def ZA (H:CH)(o:dD):Option (ae×CH):=match o with
 | .Ag m=>match H.ob m with
   | .map es _=>if es.size=0 then some (.tuple #[.bool false],H) else none
   | _=>none
 | _=>none
def ZB (kk l:Nat)(k:ae)(H:CH)(o:dD):Option (ae×CH):=match o with
 | .map es c=>if isKey kk k=true then match uM kk k es.toList 0 with
   | some none=>some (.tuple #[],H.set l (.map es c))
   | _=>none
   else none
 | _=>none
def ZC (H:CH)(v:ae):Option (ae×CH):=match v with
 | .slice (some ⟨l,o,none⟩) n c=>match H.ob l with
   | .cells _ _ k=>if k.bY=false/\n≠0 then some (.slice (some ⟨l,o,none⟩) n c,H) else none
   | _=>none
 | _=>none
def JM:List ae->Option (List UInt8)
 | []=>some []
 | .int .u8 n::r=>if 0<=n/\n<256 then (JM r).map (ar n.toNat:: ·) else none
 | _::_=>none
def ZD (e:aI)(H:CH)(p n:ae):Option (ae×CH):=match p,n with
 | .pointer none, .int .i64 0=>some (.string .empty,H)
 | .pointer (some ⟨l,o,none⟩), .int .i64 m=>if m=0 then some (.string .empty,H) else match H.ob l with
   | .cells cs e' k=>if k.bY=false/\e'=e/\0<=m/\o+m.toNat<=cs.length/\m<=9223372036854775807 then match JM ((cs.drop o).take m.toNat) with
     | some bs=>some (.string ⟨bs.toArray⟩,H.set l .dead)
     | none=>none
     else none
   | _=>none
 | _,_=>none
def bq (H:CH)(ev:av->ae):iW->Option (ae×CH)
 | .st n x v=>match ev x with
   | .pointer (some ⟨l,o,none⟩)=>match H.ob l with
     | .cells cs e k=>if k.bY=false/\isVal (ev v)=true/\(ev v).cells.size=n/\o+n<=cs.length/\(ev v).cells.toList.all a8=true then some (undef,H.set l (.cells (setCells cs o (ev v).cells.toList) e k)) else none
     | _=>none
   | _=>none
 | .app e sz bytes s x=>match oj H sz (ev x) with
   | some (xs,m)=>match ev s with
     | .slice none 0 0=>if m=0 then some (.slice none 0 0,H) else if xs.all a8=true/\m*bytes<=140737488355328/\m<=maxLen then some (.slice (some ⟨H.nx,0,none⟩) m m,H.new (.cells xs e .gr)) else none
     | .slice (some ⟨a,b,some 0⟩) 0 0=>if m=0 then some (.slice (some ⟨a,b,some 0⟩) 0 0,H) else if xs.all a8=true/\m*bytes<=140737488355328/\m<=maxLen then some (.slice (some ⟨H.nx,0,none⟩) m m,H.new (.cells xs e .gr)) else none
     | .slice (some ⟨l,o,none⟩) n c=>match H.ob l with
       | .cells cs e' k=>
         if m=0 then some (.slice (some ⟨l,o,none⟩) n c,H)
         else if o=0/\e'=e/\k.bY=false/\n*sz<=cs.length/\xs.all a8=true/\(n+m)*bytes<=140737488355328/\n+m<=maxLen then
          some (.slice (some ⟨H.nx,0,none⟩) (n+m) (n+m),iY (k.jv&&decide (c<n+m)) H l (.cells (cs.take (n*sz)++xs) e .gr))
         else if k.jv=true/\c<n+m/\e'=e/\o+n*sz<=cs.length/\xs.all a8=true/\(n+m)*bytes<=140737488355328/\n+m<=maxLen then
          some (.slice (some ⟨H.nx,0,none⟩) (n+m) (n+m),H.new (.cells ((cs.drop o).take (n*sz)++xs) e .gr))
         else if (k.jv&&decide (c<n+m))=false/\e'=e/\k.bY=false/\o+n*sz<=cs.length/\xs.all a8=true/\(n+m+(n+m) / 4+192)*bytes<=281474976710656/\n+m<=maxLen then
          some (.slice (some ⟨H.nx,0,none⟩) (n+m) (n+m),(H.set l .dead).new (.cells ((cs.drop o).take (n*sz)++xs) e .gr))
         else none
       | _=>none
     | _=>none
   | none=>none
 | .JD sz d s=>match ev d,oj H sz (ev s) with
   | .slice a n c,some (xs,m)=>if n=0\/m=0 then some (.int .i64 0,H) else match a with
     | some ⟨l,o,none⟩=>match H.ob l with
       | .cells cs e k=>if k.bY=false/\o+(min m n)*sz<=cs.length/\xs.all a8=true then some (.int .i64 (min m n:Nat),H.set l (.cells (setCells cs o (xs.take ((min m n)*sz))) e k)) else none
       | _=>none
     | _=>none
   | _,_=>none
 | .JE=>some (.map (some H.nx),H.new (.map #[] 0))
 | .JG kk x k v=>match ev x with
   | .map (some l)=>yD kk l (ev k) (ev v) H (H.ob l)
   | _=>none
 | .JH x=>match ev x with
   | .string s=>some (.chan (some H.nx),H.new (.xj s 0))
   | _=>none
 | .Aq x=>match ev x with
   | .chan (some l)=>GP l H (H.ob l)
   | _=>none
 | .iX x=>ZC H (ev x)
 | .JK e p n=>ZD e H (ev p) (ev n)
 | .JI x=>match ev x with
   | .map (some l)=>Zz l H (H.ob l)
   | _=>none
 | .JJ x=>match ev x with
   | .chan (some l)=>ZA H (H.ob l)
   | _=>none
 | .del kk x k=>match ev x with
   | .map (some l)=>ZB kk l (ev k) H (H.ob l)
   | _=>none
 | .s2b e bytes x=>match ev x with
   | .string s=>if s.size<=maxLen then some (.slice (some ⟨H.nx,0,none⟩) s.size s.size,H.new (.cells (s.data.toList.map λb=> .int .u8 b.toNat) e .gr)) else none
   | _=>none
def tJ(P:aX)(op:Op)(r:iW):Prop:=
 ∀(B:Nat) (β:Nat->aA) (H:CH) (w:ay) (b a:av->ae) (o:dj) (v:ae) (H':CH),o.op=op->(∀x∈op.operands,VR β (b x) (a x))->aP P B β H w->bq H b r=some (v,H')->
  ∃(β':Nat->aA) (w':ay) (v':ae) (n:Next),(execOp a o).run P w= .ok n w'/\(n= .value v'\/n= .skip/\v'=undef)/\VR β' v v'/\aP P B β' H' w'/\cd β w β' w'
theorem ahc{t n:Nat}{x v:av}(hz:(P.info? t).map (·.size)=some n):tJ P (.store t x v) (.st n x v):=λB β H w f d o u H' ho hv g c=>by
 have hx:=hv x So;have hu:=hv v So;simp only[bq] at c;split at c
 ·rename_i l i ha;split at c
  ·rename_i cs e k j;split at c
   ·rename_i hg;obtain⟨g1,g2,g3,g4,g5⟩:=hg;cases c;rw[ha] at hx;obtain⟨b,sz,m,hb,z⟩:=g.cells j;have q:d x= .pointer (some ⟨b.1,i+b.2,none⟩):=by
     generalize q:d x=A at hx;cases hx with
     | ptr hl=>rw[hb] at hl;cases hl;rfl
     | qA a hl=>rw[hb] at hl;cases hl
    have hc:=hu.cells g2;have hl:(f v).cells.size=(d v).cells.size:=by simpa using hc.1
    obtain⟨w',r,s,y⟩:=g.SO hb j (Kd.JL g1) (o:=i) (us:=(f v).cells.toList) (by simpa[g3] using g4) hc (List.all_eq_true.1 g5);refine⟨β,w',undef, .skip,?_, .inr ⟨rfl,rfl⟩, .undef _,s,y⟩;simp only[execOp,ho,q,Instr.storeAt,Gh,storeVar,cA,cR,cg,wb hz,Sem.run_ite];rw[iN Om];simp only[r,cg,cR]
   cases c
  cases c
 cases c
theorem ZE{B:Nat}{β:Nat->aA}{H:CH}{w:ay}(y:aP P B β H w){sz:Nat}{v v':ae}(hv:VR β v v'){xs:List ae}{m:Nat}(h:oj H sz v=some (xs,m)) :
 (∀d:ay,(Builtin.lenOf v').run P d= .ok m d)/\xs.length=m*sz/\∃t,aT β xs t/\∀d:ay,(∀a,d.cell? a=w.cell? a)->∀j,j<=m->(zV sz j v').run P d= .ok (t.take (j*sz)).toArray d:=by
 unfold oj at h;split at h
 ·cases h;cases hv;refine⟨λ_=>rfl,Sm,[],aT.nil β,λd _ j f=> ?_⟩;obtain rfl:j=0:=by omega
  simp[zV]
 ·cases h;cases hv<;>refine⟨λ_=>rfl,Sm,[],aT.nil β,λd _ j f=> ?_⟩<;>(obtain rfl:j=0:=by omega)<;>simp[zV,loadCells,loadCellsFrom]
 ·rename_i l o m0 c;split at h
  ·rename_i z;subst z;cases h;obtain⟨x,c',rfl,hn⟩:=hv.Ea;refine⟨λ_=>rfl,Sm,[],aT.nil β,λd _ j f=> ?_⟩;obtain rfl:j=0:=by omega
   cases x with
   | none=>simp at hn
   | some x=>simp[zV,loadCells,loadCellsFrom]
  rename_i g;split at h
  ·rename_i cs e k A;split at h
   ·rename_i n;cases h;obtain⟨b,G,I,hb,C⟩:=y.cells A;have q : ∃c',v'= .slice (some ⟨b.1,o+b.2,none⟩) m c':=by
     cases hv with
     | sl hl _ _ _ _ _=>rw[hb] at hl;cases hl;exact⟨_,rfl⟩
     | rq a hl _=>rw[hb] at hl;cases hl
     | ru a hl=>exact absurd rfl g
    obtain⟨c',rfl⟩:=q;obtain⟨r,h1,h2,h3⟩:=C.reads o (m*sz) n;refine⟨λ_=>rfl,Sq,r,h1,λd D j f=> ?_⟩;have E:(r.take (j*sz)).length=j*sz:=by
     have:j*sz<=m*sz:=zU _ f;simp;omega
    refine run_firstCells_some d sz j ⟨b.1,o+b.2,none⟩ m c' (r.take (j*sz)) E λi u hi=> ?_;rw[Jg] at hi;split at hi;·rw[D];exact h3 i u hi
    cases hi
   cases h
  cases h
 ·rename_i s;split at h;rotate_left
  ·cases h
  rename_i F;cases h;subst F;have:=hv.Ak;subst this;refine⟨λ_=>rfl,by simp only[eR,Nat.mul_one];rfl,_,⟨rfl,λi v hv=>⟨v,hv,?_⟩⟩,λd _ j f=> ?_⟩
  ·rw[ka] at hv;cases hb:s.data.toList[i]? with
   | none=>rw[hb] at hv;cases hv
   | some b=>rw[hb] at hv;cases hv;exact .int _ _
  simp only[zV,cR,Nat.mul_one];congr 1
  apply tv;simp only[Sr,ByteArray.data_extract,Array.toList_extract,List.extract_eq_take_drop,gI,Nat.sub_zero,List.map_take]
 cases h
theorem ZF{α:Type}{l:List α}{n:Nat}(h:l.length=n):l.take n=l:=List.take_of_length_le Om
theorem aP.ahd{B:Nat}{β:Nat->aA}{H:CH}{w:ay}(i:aP P B β H w){l:Nat}{b:Nat×Nat}{sz a:Nat}{cs:List ae}{e:aI}{k:Kd}(hb:β l= .live b sz a k)(j:H.ob l= .cells cs e k)(hk:k≠ .ro){o p:Nat}{xs m:List ae}
 (hp:o+p<=cs.length) (z:o+p+b.2+xs.length<=a) (hx:aT β xs m) (hc : ∀u∈xs,a8 u=true) :
 ∃w',(storeCells ⟨b.1,o+p+b.2,none⟩ m).run P w= .ok () w'/\aP P B (dE (dE β l .dead) H.nx (.live (b.1,o+b.2) sz a .gr)) ((H.set l .dead).new (.cells ((cs.drop o).take p++xs) e .gr)) w'/\cd β w (dE (dE β l .dead) H.nx (.live (b.1,o+b.2) sz a .gr)) w':=by
 obtain⟨A,C,n,s⟩:=i.live hb;rw[j] at n;cases n;have q:cs.length+b.2<=a:=by obtain⟨_,_,_,_,_,g,_⟩:=s;exact g
 have c:=i.pad hb j (o+p+xs.length-cs.length) Om;have t:(H.set l (.cells (cs++j8 (o+p+xs.length-cs.length) undef) e k)).ob l= .cells (cs++j8 (o+p+xs.length-cs.length) undef) e k:=by simp[CH.set]
 obtain⟨w',v,r,x⟩:=c.SO hb t hk (o:=o+p) Sq hx hc;rw[CH.set_set] at r;have d:(H.set l (.cells (setCells (cs++j8 (o+p+xs.length-cs.length) undef) (o+p) xs) e k)).ob l= .cells (setCells (cs++j8 (o+p+xs.length-cs.length) undef) (o+p) xs) e k:=by simp[CH.set]
 obtain⟨f,y⟩:=r.rename hb d hk o (p+xs.length) (by rw[Oh Sq];simp;omega);refine⟨w',v,?_,x.trans y⟩;rw[CH.set_set] at f;have:((setCells (cs++j8 (o+p+xs.length-cs.length) undef) (o+p) xs).drop o).take (p+xs.length)=(cs.drop o).take p++xs:=by
  unfold setCells;rw[af0 hp,oY,List.drop_append_of_le_length Sq,<-oY,af0 Sq,ZF Sq,List.drop_take];simp
 rw[this] at f;exact f
theorem aP.ZG{B:Nat}{β:Nat->aA}{H:CH}{w:ay}(a:aP P B β H w){e:aI}{sz:Nat}(he:(P.info? e).map (·.size)=some sz){xs:List ae}{cs':Array ae}(hl:xs.length<=cs'.size)
 (hc : ∀(i:Nat) (v:ae),xs[i]? = some v->∃v',cs'[i]? = some v'/\VR β v v') :
 aP P B (dE β H.nx (.live (w.heap.size,0) sz cs'.size .gr)) (H.new (.cells xs e .gr)) (w.drew.alloc (.cells cs' e))/\cd β w (dE β H.nx (.live (w.heap.size,0) sz cs'.size .gr)) (w.drew.alloc (.cells cs' e)):=by
 obtain⟨h1,h2⟩:=a.drew;obtain⟨h3,h4⟩:=h1.alloc .gr Sm he hl Sm hc (fr:=(0,0)) (.inl rfl) (w':=w.drew.alloc (.cells cs' e)) rfl rfl rfl rfl;exact⟨h3,h2.trans h4⟩
theorem ZH{β:Nat->aA}{xs c:List ae}(h:aT β xs c)(r:Array ae):xs.length<=(c.toArray++r).size/\∀(i:Nat) (v:ae),xs[i]? = some v->∃v',(c.toArray++r)[i]? = some v'/\VR β v v':=by
 refine⟨by simp[h.1],λi v hv=> ?_⟩;obtain⟨v',a,b⟩:=h.2 i v hv;have hi:i<c.length:=(List.getElem?_eq_some_iff.1 a).1;exact⟨v',by rw[YU (by simpa using hi)];simpa using a,b⟩
theorem ZI{t tx ty e:aI}{i0:TypeInfo}(ht:P.underlying t=some (.slice e))(ot:P.underlying tx=some (.slice e)\/P.underlying tx=some .string)(hi:P.info? e=some i0)
 {a:Option cB} {n c m:Nat} {x':ae} {w w':ay} (b : ∀f:ay,(Builtin.lenOf x').run P f= .ok m f) (hn:n+m<=c) {news:List ae} (g:(zV i0.size m x').run P w= .ok news.toArray w)
 (d:match a with | none=>w'=w | some a=>(storeCells (a.add (n*i0.size)) news).run P w= .ok () w') :
 (Gl #[t,tx] ty #[.slice a n c,x']).run P w= .ok (.slice a (n+m) c) w':=by
 cases a with
 | none=>
   simp only at d;subst d;rcases ot with ot | ot<;>simp[Gl,run_underlying ht,run_underlying ot,sizeOf,typeInfo,hi,b,hn,g]
 | some a=>
   simp only at d;rcases ot with ot | ot<;>simp[Gl,run_underlying ht,run_underlying ot,sizeOf,typeInfo,hi,b,hn,g,d]
theorem ZJ{t tx ty e:aI}{i0:TypeInfo}{z:ae}(ht:P.underlying t=some (.slice e))(ot:P.underlying tx=some (.slice e)\/P.underlying tx=some .string)(hi:P.info? e=some i0)(hz:i0.zero=some z)
 {a:Option cB} {n c m:Nat} {x':ae} {w:ay} (b : ∀f:ay,(Builtin.lenOf x').run P f= .ok m f) (hn:c<n+m) {g news:List ae} (hs:(zV i0.size n (.slice a n c)).run P w.drew= .ok g.toArray w.drew)
 (h:(zV i0.size m x').run P w.drew= .ok news.toArray w.drew) (i:n+m<=9223372036854775807) (j:YV (n+m) c*i0.bytes<=281474976710656) :
 (Gl #[t,tx] ty #[.slice a n c,x']).run P w= .ok (.slice (some ⟨w.heap.size,0,none⟩) (n+m) (grownCap w (n+m) c e))
   (w.drew.alloc (.cells (g.toArray++news.toArray++DT z.cells (grownCap w (n+m) c e-(n+m))) e)):=by
 have k : ¬(n+m<=c):=by omega
 have l : ¬(9223372036854775807<((n:Int)+(m:Int))):=by omega
 have d : ¬(281474976710656<YV (n+m) c*i0.bytes):=by omega
 rcases ot with ot | ot<;>simp[Gl,run_underlying ht,run_underlying ot,sizeOf,typeInfo,zeroValue,hi,hz,b,k,l,d,Question.forced,hs,h,newRow,grownCap]<;>(congr 2;apply tv;simp[oY])
theorem S5(w:ay)(lD a:Nat)(e:aI)(h:lD<=9223372036854775807):lD<=grownCap w lD a e/\grownCap w lD a e<=maxLen:=by
 have:=Nat.mod_lt (w.tape w.drawn (.appendCap lD a e)) (show 0<2 ^ 63-lD by omega);show lD<=lD+w.tape w.drawn (.appendCap lD a e) % (2 ^ 63-lD)/\lD+w.tape w.drawn (.appendCap lD a e) % (2 ^ 63-lD)<=9223372036854775807;constructor<;>omega
theorem ZL{t tx e sz bytes:aI}{z:ae}{s x:av}(ht:P.underlying t=some (.slice e))(ot:P.underlying tx=some (.slice e)\/P.underlying tx=some .string)(hi:(P.info? e).map (λi=>(i.zero,i.size,i.bytes))=some (some z,sz,bytes))(ZM:z.cells.size=sz)(h0:0<sz) :
 tJ P (.call { callee:= .builtin .append,args:= #[s,x],argTypes:= #[t,tx] }) (.app e sz bytes s x):=λB β H w ev f o v H' ho hv G j=>by
 have hs:=hv s S0;have hx:=hv x S0;obtain⟨i0,U,Gv,M,JP⟩:=info_parts hi;have xq:(P.info? e).map (·.size)=some sz:=by simp[U,M]
 have I : ∀(u:ae) (w':ay),(Gl #[t,tx] o.type #[f s,f x]).run P w= .ok u w'->(execOp f o).run P w= .ok (.value u) w':=λu w' h=>by
  simp only[execOp,ho,resolve,cA,cR,cg,invoke,builtin,Gi,c8,iw,h]
 simp only[bq] at j;split at j;rotate_left
 ·cases j
 rename_i xs m JQ;obtain⟨D,xr,F,N,Eg⟩:=ZE G hx JQ;have GQ : ∀V:ay,(∀a,V.cell? a=w.cell? a)->(zV sz m (f x)).run P V= .ok F.toArray V:=λV h2=>by
  have:=Eg V h2 m (ai _);rwa [ZF (by rw[<-N.1,xr])] at this
 have fresh : ∀(E:Option cB),f s= .slice E 0 0->m≠0->xs.all a8=true->(∀J,J<m->YV m J*bytes<=281474976710656)->m<=maxLen->
  ∃(β':Nat->aA) (w':ay) (v':ae),(Gl #[t,tx] o.type #[f s,f x]).run P w= .ok v' w'/\VR β' (.slice (some ⟨H.nx,0,none⟩) m m) v'/\aP P B β' (H.new (.cells xs e .gr)) w'/\cd β w β' w'/\∀l',l'≠H.nx->β' l'=β l':=by
  intro E r A iH Oq cW;have Ef:m<=9223372036854775807:=cW;have h0f:(zV i0.size 0 (.slice E 0 0)).run P w.drew= .ok ([]:List ae).toArray w.drew:=by
   cases E<;>simp[zV,loadCells,loadCellsFrom]
  have K:=ZJ (P:=P) (ty:=o.type) ht ot U Gv (a:=E) (n:=0) (c:=0) D Om h0f (by rw[M];exact GQ w.drew (λ_=>rfl)) Om (by rw[JP];simpa using Oq 0 Om);rw[r];simp only[ba] at K;obtain⟨g1,g2⟩:=S5 w m 0 e Ef;obtain⟨q1,q2⟩:=ZH N (DT z.cells (grownCap w m 0 e-m));have O:([]:List ae).toArray++F.toArray++DT z.cells (grownCap w m 0 e-m)=F.toArray++DT z.cells (grownCap w m 0 e-m):=by simp
  rw[O] at K;obtain⟨Q,R⟩:=G.ZG xq q1 q2;refine⟨_,_,_,K,?_,Q,R,λl' h=>dT h⟩;refine .sl (b:=(w.heap.size,0)) (o:=0) eE (ai _) g1 g2 (λ_=> ?_) (λg=>absurd rfl g);have S6:F.length=m*sz:=by rw[<-N.1,xr]
  simp only[Array.size_append,jt,size_zeroCells,S6,ZM];rw[<-qt];simp;exact zU _ Om
 have empty : ∀(E:Option cB) (n c':Nat),f s= .slice E n c'->n<=c'->m=0->(Gl #[t,tx] o.type #[f s,f x]).run P w= .ok (f s) w:=by
  intro E n c' r dt A;subst A;have GR:F= []:=List.length_eq_zero_iff.1 (by rw[<-N.1,xr];simp);have:=ZI (P:=P) (ty:=o.type) (w':=w) ht ot U (a:=E) (n:=n) (c:=c') (m:=0) (x':=f x) D Om (news:= []) (by rw[M];have:=GQ w (λ_=>rfl);rwa [GR] at this) (by cases E<;>first | rfl | (simp[storeCells]));rw[r];simpa using this
 split at j
 ·rename_i W;rw[W] at hs;have r:f s= .slice none 0 0:=by generalize f s=q at hs;cases hs;rfl
  split at j;·rename_i A;cases j;exact⟨β,w,_,_,I _ _ (empty _ _ _ r (ai _) A), .inl rfl,hs,G,cd.refl β w⟩
  rename_i A;split at j;·rename_i g;cases j;obtain⟨β',w',v',a,b,c,d,_⟩:=fresh _ r A g.1 (λJ h=>growslice_fits h g.2.1) g.2.2;exact⟨β',w',v',_,I _ _ a, .inl rfl,b,c,d⟩
  cases j
 ·rename_i aa bb W;rw[W] at hs;obtain⟨E,r⟩ : ∃E,f s= .slice E 0 0:=by generalize f s=q at hs;cases hs;exact⟨_,rfl⟩
  split at j;·rename_i A;cases j;exact⟨β,w,_,_,I _ _ (empty _ _ _ r (ai _) A), .inl rfl,hs,G,cd.refl β w⟩
  rename_i A;split at j;·rename_i g;cases j;obtain⟨β',w',v',a,b,c,d,_⟩:=fresh _ r A g.1 (λJ h=>growslice_fits h g.2.1) g.2.2;exact⟨β',w',v',_,I _ _ a, .inl rfl,b,c,d⟩
  cases j
 ·rename_i l C n c W;rw[W] at hs;split at j
  ·rename_i cs e' k T;obtain⟨b,y,L,hb,lT⟩:=G.cells T;have ZN:(∃c',f s= .slice (some ⟨b.1,C+b.2,none⟩) n c'/\n<=c'/\c'<=maxLen/\(k≠ .ro->C+b.2+c'*y<=L)/\c<=c'/\(k≠ .gr->c'=c))\/(n=0/\c=0/\∃a,f s= .slice (some a) 0 0):=by
    generalize f s=q at hs;cases hs with
    | sl hl h1 h2 h3 h4 h5=>rw[hb] at hl;cases hl;exact .inl ⟨_,rfl,Om,h3,h4,h2,h5⟩
    | rq a hl _=>rw[hb] at hl;cases hl
    | ru a hl=>exact .inr ⟨rfl,rfl,a,rfl⟩
   split at j
   ·rename_i A;cases j;rcases ZN with ⟨c',r,q1,_⟩ | ⟨rfl,rfl,a,r⟩
    ·exact⟨β,w,_,_,I _ _ (empty _ _ _ r q1 A), .inl rfl,hs,G,cd.refl β w⟩
    exact⟨β,w,_,_,I _ _ (empty _ _ _ r (ai _) A), .inl rfl,hs,G,cd.refl β w⟩
   rename_i A;have core:e'=e->k.bY=false->C+n*sz<=cs.length->xs.all a8=true->(∀J,J<n+m->YV (n+m) J*bytes<=281474976710656)->n+m<=maxLen->
    ∃(β':Nat->aA) (w':ay) (v':ae) (L:Next),(execOp f o).run P w= .ok L w'/\(L= .value v'\/L= .skip/\v'=undef)/\VR β' (.slice (some ⟨H.nx,0,none⟩) (n+m) (n+m)) v'/\aP P B β' (iY (k.jv&&decide (c<n+m)) H l (.cells ((cs.drop C).take (n*sz)++xs) e .gr)) w'/\cd β w β' w':=by
    intro g1 g2 g3 g4 g5 g6;subst g1;have ahh : ∀ys:List ae,l≠H.nx->(H.new (.cells ys e' .gr)).set l .dead=(H.set l .dead).new (.cells ys e' .gr):=λys aB=>by
     unfold CH.set CH.new;simp only[CH.mk.injEq,true_and];funext k
     by_cases X:k=l
     ·subst X;simp[aB]
     simp[X]
    have ZO:l≠H.nx:=λe=>by rw[e,G.nx _ (ai _)] at T;cases T
    rcases ZN with ⟨c',r,q1,q2,q3,q4,q5⟩ | ⟨rfl,rfl,a,r⟩
    rotate_left
    ·obtain⟨β',w',v',f1,f2,f3,f4,f5⟩:=fresh _ r A g4 (by simpa using g5) (by simpa using g6);have Ou:(cs.drop C).take (0*sz)++xs=xs:=by simp
     rw[Ou];simp only[ba];have fO:β' l= .live b y L k:=(f5 l ZO).trans hb;cases Y:(k.jv&&decide (0<m)) with
     | false=>
       obtain⟨Z,pM⟩:=f3.kill fO;rw[ahh _ ZO] at Z;simp only[iY,je,iF];exact⟨_,w',v',_,I _ _ f1, .inl rfl,f2.mono pM.ext,Z,f4.trans pM⟩
     | true=>
       simp only[iY,iT];exact⟨_,w',v',_,I _ _ f1, .inl rfl,f2,f3,f4⟩
    have S7:=Kd.JL g2;have ahi:y=sz:=by
     obtain⟨_,_,_,_,_,_,_,q,_⟩:=lT;have q:=q S7;rw[xq] at q;exact(Option.some.inj q).symm
    subst ahi;have q3':=q3 S7;have iH:=List.all_eq_true.1 g4;by_cases Ot:n+m<=c'
    ·have Y:(k.jv&&decide (c<n+m))=false:=by
      cases k with
      | ex=>have:=q5 Sm;simp[Kd.jv];omega
      | _=>rfl
     have hle:(n+m)*y<=c'*y:=zU _ Ot;simp only[iY,Y,je,iF];rw[qt] at hle;obtain⟨w',aW,Q,R⟩:=G.ahd hb T S7 (o:=C) (p:=n*y) g3 Om N iH;have K:=ZI (P:=P) (ty:=o.type) (w:=w) (w':=w') ht ot U (a:=some ⟨b.1,C+b.2,none⟩) (n:=n) (c:=c') (m:=m) (x':=f x) D Ot (news:=F) (by rw[M];exact GQ w (λ_=>rfl)) (by simp only[Gf,M];rw[Gg];exact aW);refine⟨_,w',_,_,I _ _ (by rw[r];exact K), .inl rfl,?_,Q,R⟩;have:=VR.sl (β:=dE (dE β l .dead) H.nx (.live (b.1,C+b.2) y L .gr)) (l:=H.nx) (b:=(b.1,C+b.2)) (o:=0) eE (ai (n+m)) Ot q2 (λ_=>by simpa using q3') (λg=>absurd rfl g);simpa only[ba] using this
    obtain⟨S,u1,u2,u3⟩:=lT.reads C (n*y) g3;have rD:=run_firstCells_some (P:=P) w.drew i0.size n ⟨b.1,C+b.2,none⟩ n c' S (by rw[M];exact u2) (by simpa using u3);have K:=ZJ (P:=P) (ty:=o.type) (w:=w) ht ot U Gv (a:=some ⟨b.1,C+b.2,none⟩) (n:=n) (c:=c') (m:=m) (x':=f x) D Om rD (by rw[M];exact GQ w.drew (λ_=>rfl)) g6 (by rw[JP];exact g5 _ Om);have ahj:aT β ((cs.drop C).take (n*y)++xs) (S++F):=u1.append N;obtain⟨p1,p2⟩:=ZH ahj (DT z.cells (grownCap w (n+m) c' e'-(n+m)));have O:(S++F).toArray++DT z.cells (grownCap w (n+m) c' e'-(n+m))=S.toArray++F.toArray++DT z.cells (grownCap w (n+m) c' e'-(n+m)):=by simp
    obtain⟨Q,R⟩:=G.ZG xq p1 p2;rw[O] at Q R;have aB:l≠H.nx:=λe=>by rw[e,G.nx _ (ai _)] at T;cases T
    have fE:dE β H.nx (aA.live (w.heap.size,0) y (S.toArray++F.toArray++DT z.cells (grownCap w (n+m) c' e'-(n+m))).size .gr) l= .live b y L k:=by rw[dT aB];exact hb
    obtain⟨Z,pM⟩:=Q.kill fE;obtain⟨r1,r2⟩:=S5 w (n+m) c' e' g6;have ahk:(H.new (.cells ((cs.drop C).take (n*y)++xs) e' .gr)).set l .dead=(H.set l .dead).new (.cells ((cs.drop C).take (n*y)++xs) e' .gr):=by
     unfold CH.set CH.new;simp only[CH.mk.injEq,true_and];funext k
     by_cases X:k=l
     ·subst X;simp[aB]
     simp[X]
    rw[ahk] at Z;have ZP:0+grownCap w (n+m) c' e'*y<=(S.toArray++F.toArray++DT z.cells (grownCap w (n+m) c' e'-(n+m))).size:=by
     have S6:F.length=m*y:=by rw[<-N.1,xr]
     have JV:S.length=n*y:=u2;simp only[Array.size_append,jt,size_zeroCells,S6,JV,ZM];rw[<-qt,<-qt];simp;exact zU _ Om
    cases Y:(k.jv&&decide (c<n+m)) with
    | false=>
      simp only[iY,je,iF];refine⟨_,_,_,_,I _ _ (by rw[r];exact K), .inl rfl,?_,Z,R.trans pM⟩;exact .sl (b:=(w.heap.size,0)) (o:=0) (by rw[dT aB.symm];exact eE) (ai _) r1 r2 (λ_=>ZP) (λg=>absurd rfl g)
    | true=>
      simp only[iY,iT];refine⟨_,_,_,_,I _ _ (by rw[r];exact K), .inl rfl,?_,Q,R⟩;exact .sl (b:=(w.heap.size,0)) (o:=0) eE (ai _) r1 r2 (λ_=>ZP) (λg=>absurd rfl g)
   split at j
   ·rename_i g;obtain⟨g0,g1,g2,g3,g4,g5,g6⟩:=g;cases j;subst g0;have:=core g1 g2 Om g4 (λJ h=>growslice_fits h g5) g6;simpa only[gI] using this
   rename_i wg;split at j
   ·rename_i g;obtain⟨g2,g0,g1,g3,g4,g5,g6⟩:=g;cases j;have ahl:k.bY=false:=by cases k<;>first | rfl | cases g2
    have:=core g1 ahl g3 g4 (λJ h=>growslice_fits h g5) g6;rw[g2,decide_eq_true g0] at this;exact this
   rename_i Ov;split at j;·rename_i g;obtain⟨Y,g1,g2,g3,g4,g5,g6⟩:=g;cases j;have:=core g1 g2 g3 g4 (λJ h=>growslice_fits_wide h g5) g6;rw[Y] at this;exact this
   cases j
  cases j
 cases j
theorem aT.take{β:Nat->aA}{cs cs':List ae}(h:aT β cs cs')(n:Nat):aT β (cs.take n) (cs'.take n):=
 ⟨by simp[h.1],λi v hv=>by
   rw[Jg] at hv⊢;split at hv;·obtain⟨v',a,b⟩:=h.2 i v hv;exact⟨v',by simp[*],b⟩
   cases hv⟩
theorem ahm{t tx e sz:aI}{d s:av}(ht:P.underlying t=some (.slice e))(hz:(P.info? e).map (·.size)=some sz) :
 tJ P (.call { callee:= .builtin .copy,args:= #[d,s],argTypes:= #[t,tx] }) (.JD sz d s):=λB β H w R i o v H' ho hv x f=>by
 have hd:=hv d S0;have hs:=hv s S0;have z : ∀(u:ae) (w':ay),(Builtin.copy_ #[t,tx] o.type #[i d,i s]).run P w= .ok u w'->(execOp i o).run P w= .ok (.value u) w':=λu w' h=>by
  simp only[execOp,ho,resolve,cA,cR,cg,invoke,builtin,Gi,c8,iw,h]
 simp only[bq] at f;split at f;rotate_left
 ·cases f
 rename_i a n c xs m y I;obtain⟨j,S,J,K,L⟩:=ZE x hs I;rw[y] at hd;obtain⟨q,c',A,T⟩:=hd.Ea;have run : ∀w',(match q with | none=>w'=w | some q=>(storeCells q (J.take (min m n*sz))).run P w= .ok () w')->(Builtin.copy_ #[t,tx] o.type #[i d,i s]).run P w= .ok (.int .i64 (min m n:Nat)) w':=by
  intro w' r;have C:=L w (λ_=>rfl) (min m n) (Nat.min_le_left _ _);rw[A];cases q with
  | none=>
    simp only at r;subst r;simp[Builtin.copy_,run_underlying ht,j,wb hz,goInt,C]
  | some q=>
    simp only at r;simp[Builtin.copy_,run_underlying ht,j,wb hz,goInt,C,r]
 split at f
 ·rename_i D;cases f;have E:min m n=0:=by omega
  have:=run w (by cases q<;>simp[E,storeCells]);rw[E] at this;exact⟨β,w,_,_,z _ _ this, .inl rfl, .int _ _,x,cd.refl β w⟩
 rename_i D;split at f
 ·rename_i l F;split at f
  ·rename_i cs e' k G;split at f
   ·rename_i g;obtain⟨g1,g2,g3⟩:=g;cases f;obtain⟨b,U,V,hb,W⟩:=x.cells G;have M:q=some ⟨b.1,F+b.2,none⟩:=by
     rw[A] at hd;cases hd with
     | sl hl _ _ _ _ _=>rw[hb] at hl;cases hl;rfl
     | rq a hl _=>rw[hb] at hl;cases hl
     | ru a hl=>exact absurd (.inl rfl) D
    subst M;have N:(xs.take (min m n*sz)).length=min m n*sz:=by
     have:min m n*sz<=m*sz:=zU _ (Nat.min_le_left _ _);simp;omega
    obtain⟨w',r,O,Q⟩:=x.SO hb G (Kd.JL g1) (o:=F) (us:=xs.take (min m n*sz)) (by rw[N];exact g2) (K.take _) (λu hu=>List.all_eq_true.1 g3 u (List.mem_of_mem_take hu));exact⟨β,w',_,_,z _ _ (run w' r), .inl rfl, .int _ _,O,Q⟩
   cases f
  cases f
 cases f
end
section
open Go Go.RowKit
variable {P:aX}
def wj:oX->Option Nat
 | .int _=>some 0
 | .string=>some 1
 | .bool=>some 2
 | _=>none
theorem aP.newObj{B:Nat}{β:Nat->aA}{H:CH}{w:ay}(h:aP P B β H w){o:dD}{o':Obj}(j : ∀β' w',β'=dE β H.nx (.obj w.heap.size)->w'.heap[w.heap.size]? = some o'->Cj P B β' w' (.obj w.heap.size) o) :
 aP P B (dE β H.nx (.obj w.heap.size)) (H.new o) (w.alloc o')/\cd β w (dE β H.nx (.obj w.heap.size)) (w.alloc o'):=by
 have k:=h.od;have i:eS β (dE β H.nx (.obj w.heap.size)):=λl=>by
  by_cases hl:l=H.nx
  ·subst hl;exact .inr (.inl k)
  exact .inl (dT hl)
 have a : ∀b,b<w.heap.size->(w.alloc o').heap[b]? = w.heap[b]? :=λb hb=>by
  show(w.heap.push _)[b]? = _;rw[Ge,iN Om]
 have m:=World.alloc_heap_new w o';refine⟨⟨λl=> ?_,λl hl=> ?_,λl l' b ho d=> ?_,by simpa using xc h.base,h.ro.dE λ_ _ _ e=>(by cases e)⟩,⟨rfl,rfl,rfl,Sm,λb hb n=>⟨a b hb,λl ho=> ?_⟩,i⟩⟩
 ·by_cases g:l=H.nx
  ·subst g;simp only[eE,CH.new,iT];exact j _ _ rfl m
  simp only[dT g,CH.new,iN g];exact(h.iV l).mono i λb hb=>a b (Ck h hb)
 ·have:l≠H.nx:=by simp[CH.new] at hl;omega
  simp only[CH.new,iN this];exact h.nx l (by simp[CH.new] at hl;omega)
 ·by_cases c:l=H.nx<;>by_cases f:l'=H.nx
  ·rw[c,f]
  ·subst c;rw[eE] at ho;rw[dT f] at d;have:=(tE h d).2;have:w.heap.size=b:=ho;omega
  ·subst f;rw[eE] at d;rw[dT c] at ho;have:=(tE h ho).2;have:w.heap.size=b:=d;omega
  rw[dT c] at ho;rw[dT f] at d;exact h.inj _ _ b ho d
 by_cases c:l=H.nx
 ·subst c;rw[eE] at ho;have:w.heap.size=b:=ho;omega
 rw[dT c] at ho;exact n l ho
theorem aP.setObj{B:Nat}{β:Nat->aA}{H:CH}{w:ay}(h:aP P B β H w){l b:Nat}(hl:β l= .obj b){o1:Obj}(h1:w.heap[b]? = some o1)(hc:(∀cs e f,o1≠ .cells cs e f)/\∀r,o1≠ .loop r){o:dD}{o':Obj}(i : ∀w',w'.heap[b]? = some o'->Cj P B β w' (.obj b) o) :
 aP P B β (H.set l o) (w.putObj b o')/\cd β w β (w.putObj b o'):=by
 have j:=Za h hl;have a : ∀k,k≠b->(w.putObj b o').heap[k]? = w.heap[k]? :=λk hk=>Ss hk;refine⟨⟨λl'=> ?_,λl' c=> ?_,h.inj,by simpa using h.base,h.ro⟩,⟨rfl,rfl,rfl,Sm,λk hk d=>⟨a k ?_,d⟩,eS.refl β⟩⟩
 ·by_cases e:l'=l
  ·subst e;simp only[CH.set,iT,hl];exact i _ (World.putObj_heap_same j)
  simp only[CH.set,iN e];refine(h.iV l').mono (eS.refl β) λk hk=>a k ?_;rintro rfl;rcases hk with ⟨z,sz,n,kd,hk⟩ | hk | hk
  ·obtain⟨cs,e,_,cs',e',iX,g,_⟩:=h.live hk;rw[h1] at g;cases g;exact hc.1 _ _ _ rfl
  ·exact e (h.inj _ _ k (by rw[hk];rfl) (by rw[hl];rfl))
  exact e (h.inj _ _ k (by rw[hk];rfl) (by rw[hl];rfl))
 ·have:l'≠l:=λe=>by
   subst e;have:=h.iV l';rw[hl,h.nx _ c] at this;exact this
  simp only[CH.set,iN this];exact h.nx _ c
 rintro rfl;exact d l (by rw[hl];rfl)
theorem aP.GV{B:Nat}{β:Nat->aA}{H:CH}{w:ay}(h:aP P B β H w){l:Nat}{es:Array qp}{c:Nat}(ho:H.ob l= .map es c) : ∃b,β l= .obj b/\B<=b/\Js β w b es c:=by
 have h1:=h.iV l;rw[ho] at h1;cases hb:β l with
 | obj b=>rw[hb] at h1;exact⟨b,rfl,h1.1,h1.2⟩
 | _=>rw[hb] at h1;exact h1.elim
theorem aP.ahn{B:Nat}{β:Nat->aA}{H:CH}{w:ay}(h:aP P B β H w){l:Nat}{s:ByteArray}{p:Nat}(ho:H.ob l= .xj s p) : ∃b,β l= .obj b/\B<=b/\w.heap[b]? = some (.stringIter s p):=by
 have h1:=h.iV l;rw[ho] at h1;cases hb:β l with
 | obj b=>rw[hb] at h1;exact⟨b,rfl,h1.1,h1.2⟩
 | _=>rw[hb] at h1;exact h1.elim
theorem Co{β:Nat->aA}{kk:Nat}{v v':ae}(hv:VR β v v')(h:isKey kk v=true):v'=v:=by
 unfold isKey at h;split at h;·cases hv;rfl
 ·cases hv;rfl
 ·cases hv;rfl
 cases h
theorem ZR{kk:Nat}{a b:ae}{r:Bool}(h:Ee kk a b=some r):isKey kk b=true:=by
 unfold Ee at h;split at h<;>first | rfl | cases h
theorem S9{kk:Nat}{d:oX}(hd:wj d=some kk){a b:ae}{r:Bool}(h:Ee kk a b=some r):Instr.sameNow d a b=some r/\(r=true->a=b):=by
 cases d<;>simp only[wj,Option.some.injEq,reduceCtorEq] at hd<;>subst hd<;>cases a<;>cases b<;>simp only[Ee,reduceCtorEq,Option.some.injEq] at h;·subst h;exact⟨rfl,λe=>by rw[eq_of_beq e]⟩
 ·split at h;·rename_i e;subst e;cases h;exact⟨by simp[Instr.sameNow],λe=>by rw[eq_of_beq e]⟩
  cases h
 subst h;refine⟨rfl,λe=> ?_⟩;rw[(Go.MapKept.bytes_beq _ _).1 e]
theorem JX{β:Nat->aA}{kk:Nat}{d:oX}(hd:wj d=some kk){k:ae} : ∀ {es a:List qp} {i:Nat} {r:Option (Nat×ae)},es.length=a.length->
 (∀j (h:j<es.length) (h':j<a.length),VR β es[j].key a[j].key/\VR β es[j].val a[j].val)->uM kk k es i=some r->
 (r=none/\B5 d k a i=some none)\/∃j v v',r=some (i+j,v)/\B5 d k a i=some (some (i+j,v'))/\VR β v v'/\(∃e,a[j]? = some e/\e.key=k)
 | [],[],i,r,_,_,h=>by simp only[uM,Option.some.injEq] at h;exact .inl ⟨h.symm,rfl⟩
 | [],_::_,_,_,hl,_,_=>absurd hl Sm
 | _::_,[],_,_,hl,_,_=>absurd hl Sm
 | e::es,e'::a,i,r,hl,f,h=>by
   have c:=f 0 Sm Sm;simp only[af1] at c;simp only[uM] at h;split at h;·rename_i hs;cases h;have hk:=Co c.1 (ZR hs);obtain⟨b,s2⟩:=S9 hd hs;rw[<-hk] at b;exact .inr ⟨0,_,e'.val,rfl,by simp[B5,b],c.2,e',rfl,by rw[hk];exact(s2 rfl).symm⟩
   ·rename_i hs;have hk:=Co c.1 (ZR hs);obtain⟨b,_⟩:=S9 hd hs;rw[<-hk] at b;rcases JX hd (by simpa using hl) (λj q g=>by have:=f (j+1) (by simpa using q) (by simpa using g);simp only[List.getElem_cons_succ] at this;exact this) h with ⟨h1,h2⟩ | ⟨j,v,v',h1,h2,h3,l,h4,h5⟩
    ·exact .inl ⟨h1,by simp[B5,b,h2]⟩
    exact .inr ⟨j+1,v,v',by rw[h1];congr 2;omega,by simp only[B5,b];rw[h2];congr 3;omega,h3,l,by simpa using h4,h5⟩
   cases h
theorem GW{a:aI}{d:oX}{kk:Nat}(hd:P.underlying a=some d)(hk:wj d=some kk)(e:Bool)(n:Nat)(v:ae)(w:ay):(Jk e (n+1) a v).run P w= .ok () w:=by
 unfold Jk;simp only[cA,run_underlying hd,uy];cases d<;>simp only[wj] at hk<;>first | (cases hk;done) | rfl
theorem ZS{kk:Nat}{k:ae}(h:isKey kk k=true)(w:ay):(St k k).run P w= .ok k w:=by
 unfold isKey at h;split at h;·simp[St,Instr.sameBits,cR]
 ·simp[St,Instr.sameBits,cR,(Go.MapKept.bytes_beq _ _).2 rfl]
 ·simp[St,Instr.sameBits,cR]
 cases h
theorem S'{β:Nat->aA}{es a:Array qp}(hs:a.size=es.size)(h : ∀i (h:i<es.size) (h':i<a.size),VR β es[i].key a[i].key/\VR β es[i].val a[i].val/\a[i].born=es[i].born) :
 es.toList.length=a.toList.length/\∀j (q:j<es.toList.length) (b:j<a.toList.length),VR β es.toList[j].key a.toList[j].key/\VR β es.toList[j].val a.toList[j].val:=
 ⟨by simpa using hs.symm,λj q b=>by
   have:=h j (by simpa using q) (by simpa using b);simp only[yp];exact⟨this.1,this.2.1⟩⟩
theorem Ta{d:oX}(hd:wj d=some 1)(s:ByteArray) : ∀(es:List qp) (i:Nat),(∀e∈es,∃s n,e.key= .string s/\e.val= .int .i64 n)->
 ((∀e∈es,e.key≠ .string s)/\B5 d (.string s) es i=some none)\/∃j e,es[j]? = some e/\e.key= .string s/\B5 d (.string s) es i=some (some (i+j,e.val))
 | [],i,_=> .inl ⟨λe he=>(by cases he),rfl⟩
 | a::es,i,h=>by
   obtain⟨f,n,h1,h2⟩:=h a (lA ..);obtain⟨c,s2⟩:=S9 hd (a:= .string s) (b:= .string f) (r:=s==f) (by simp[Ee]);rw[<-h1] at c;cases hs:(s==f) with
   | true=>
     rw[hs] at c;refine .inr ⟨0,a,rfl,?_,by simp[B5,c]⟩;rw[h1];exact(s2 hs).symm
   | false=>
     rw[hs] at c;have aB:a.key≠ .string s:=λe=>by
      rw[h1] at e;cases e;rw[(Go.MapKept.bytes_beq _ _).2 rfl] at hs;cases hs
     rcases Ta hd s es (i+1) λe he=>h e (jJ _ he) with ⟨g1,g2⟩ | ⟨j,e,g1,g2,g3⟩
     ·refine .inl ⟨λe he=> ?_,by simp[B5,c,g2]⟩;rcases List.mem_cons.1 he with rfl | he
      ·exact aB
      exact g1 e he
     exact .inr ⟨j+1,e,by simpa using g1,g2,by simp only[B5,c];rw[g3];congr 3;omega⟩
theorem aP.Tb{B:Nat}{β:Nat->aA}{H:CH}{w:ay}(h:aP P B β H w){l:Nat}{f:ByteArray->Option Int}{k:Nat}(ho:H.ob l= .fm f k) : ∃b,β l= .obj b/\B<=b/\Ci w b f k:=by
 have h1:=h.iV l;rw[ho] at h1;cases hb:β l with
 | obj b=>rw[hb] at h1;exact⟨b,rfl,h1.1,h1.2⟩
 | _=>rw[hb] at h1;exact h1.elim
theorem aho{t F N:aI}{d:oX}{kk:Nat}{z:ae}{ok:Bool}{x i:av}{inf:TypeInfo}(ht:P.underlying t=some (.map F N))(hd:P.underlying F=some d)(hk:wj d=some kk)(hi:P.info? N=some inf)(hz:inf.zero=some z)(T : ∀β,VR β z z) :
 Am P (.lookup t x i ok) (.GL kk z ok x i):=λB β H w O m o v ho hv U g=>by
 have hx:=hv x So;have V:=hv i So;have G:(zeroValue N).run P w= .ok z w:=by simp[zeroValue,typeInfo,hi,hz]
 have fin : ∀(r:Option (Nat×ae)) (u:ae) (q:Option ae),uN z ok (some r)=some u->(r=none/\q=none\/∃j a E,r=some (j,a)/\q=some E/\VR β a E)->
  ∃y,y=(if ok then .tuple #[q.getD z, .bool q.isSome] else q.getD z)/\VR β u y:=λr u q hl Y=>by
  refine⟨_,rfl,?_⟩;rcases Y with ⟨rfl,rfl⟩ | ⟨j,a,E,rfl,rfl,ha⟩
  ·simp only[uN,Option.some.injEq] at hl;subst hl;cases ok;·exact T β
   exact .tuple rfl λi h1 h2=>by
    match i,h1 with
    | 0,_=>exact T β
    | 1,_=>exact .bool _
  simp only[uN,Option.some.injEq] at hl;subst hl;cases ok;·exact ha
  exact .tuple rfl λi h1 h2=>by
   match i,h1 with
   | 0,_=>exact ha
   | 1,_=>exact .bool _
 simp only[aD] at g;split at g
 ·rename_i Q;split at g
  ·rw[Q] at hx;have A:m x= .map none:=by generalize m x=q at hx;cases hx;rfl
   obtain⟨y,e,hu⟩:=fin none v none g (.inl ⟨rfl,rfl⟩);refine⟨y,?_,hu⟩;have C:=GW (P:=P) hd hk true 9999 (m i) w;have R:(Instr.findKey F (m i) ([]:List qp)).run P w= .ok none w:=B6 hd rfl;subst e;cases ok<;>simp[execOp,ho,A,Instr.lookup,run_underlying ht,C,R,G,uy]
  cases g
 ·rename_i l Q;rw[Q] at hx;cases I:H.ob l with
  | map es c=>
    rw[I] at g;simp only[uO] at g;split at g
    ·rename_i L;obtain⟨b,hb,Z,cC,h1,h2,h3⟩:=U.GV I;have A:m x= .map (some b):=by generalize m x=q at hx;cases hx with | map h=>rw[hb] at h;cases h;rfl
     have J:=Co V L;obtain⟨q1,q2⟩:=S' h2 h3;cases K:uM kk (O i) es.toList 0 with
     | none=>rw[K] at g;cases g
     | some r=>
       rw[K] at g;have C : ∀D,(Jk D 10000 F (O i)).run P w= .ok () w:=λD=>GW (P:=P) hd hk D 9999 (O i) w;rcases JX (β:=β) hk q1 q2 K with ⟨g1,g2⟩ | ⟨j,a,E,g1,g2,g3,g4⟩
       ·obtain⟨y,e,hu⟩:=fin r v none g (.inl ⟨g1,rfl⟩);refine⟨y,?_,hu⟩;subst e;cases ok<;>simp[execOp,ho,A,J,Instr.lookup,run_underlying ht,C,B7 h1,B6 hd g2,G,uy]
       obtain⟨y,e,hu⟩:=fin r v (some E) g (.inr ⟨_,a,E,g1,rfl,g3⟩);refine⟨y,?_,hu⟩;subst e;cases ok<;>simp[execOp,ho,A,J,Instr.lookup,run_underlying ht,C,B7 h1,B6 hd g2,G,uy]
    cases g
  | fm f k=>
    rw[I] at g;simp only[uO] at g;split at g
    ·rename_i s L;obtain⟨b,hb,Z,es,c,h1,h2,h3,h4,h5,h6,h7,h8,h9⟩:=U.Tb I;have A:m x= .map (some b):=by generalize m x=q at hx;cases hx with | map h=>rw[hb] at h;cases h;rfl
     have J:m i= .string s:=by
      have:=Co (kk:=1) V (by rw[L];rfl);rw[this,L]
     have C : ∀D,(Jk D 10000 F (.string s)).run P w= .ok () w:=λD=>GW (P:=P) hd hk D 9999 _ w;rcases Ta hk s es.toList 0 (λe he=>let ⟨s,n,a,b,_⟩:=h2 e he;⟨s,n,a,b⟩) with ⟨g1,g2⟩ | ⟨j,e,g1,g2,g3⟩
     ·have S:f s=none:=by
       cases K:f s with
       | none=>rfl
       | some n=>obtain⟨e,he,M,_⟩:=h5 s n K;exact absurd M (g1 e he)
      rw[S] at g;obtain⟨y,e,hu⟩:=fin none v none g (.inl ⟨rfl,rfl⟩);refine⟨y,?_,hu⟩;subst e;cases ok<;>simp[execOp,ho,A,J,Instr.lookup,run_underlying ht,C,B7 h1,B6 hd g2,G,uy]
     have W:e∈es.toList:=fD g1;obtain⟨s',n,M,X,_⟩:=h2 e W;rw[g2] at M;cases M;have S:=h4 e W s n g2 X;rw[S] at g;obtain⟨y,e',hu⟩:=fin (some (0, .int .i64 n)) v (some (.int .i64 n)) g (.inr ⟨_,_,_,rfl,rfl, .int _ _⟩);rw[X] at g3;refine⟨y,?_,hu⟩;subst e';cases ok<;>simp[execOp,ho,A,J,Instr.lookup,run_underlying ht,C,B7 h1,B6 hd g3,G,uy]
    cases g
  | _=>rw[I] at g;cases g
 cases g
theorem ahp{t:aI}{r:Option av}(c:r=none):tJ P (.makeMap t r) .JE:=λB β H w e d o v H' ho hv a b=>by
 subst c;simp only[bq,Option.some.injEq,Prod.mk.injEq] at b;obtain⟨rfl,rfl⟩:=b;obtain⟨h1,h2⟩:=a.newObj (o:= .map #[] 0) (o':= .map #[] 0) fun β' w' _ hw=>⟨a.base,#[],hw,rfl,λi h=>absurd h Sm⟩;exact⟨_,_, .map (some w.heap.size),_,by simp[execOp,ho,Instr.makeMap], .inl rfl, .map eE,h1,h2⟩
theorem ahq{β:Nat->aA}{es a:Array qp}(hs:a.size=es.size)(h : ∀i (h:i<es.size) (h':i<a.size),VR β es[i].key a[i].key/\VR β es[i].val a[i].val/\a[i].born=es[i].born){k k' v v':ae}(hk:VR β k k')(hv:VR β v v')(j:Nat) :
 (a.modify j λe=> { e with key:=k',val:=v' }).size=(es.modify j λe=> { e with key:=k,val:=v }).size/\∀i (h:i<(es.modify j λe=> { e with key:=k,val:=v }).size) (h':i<(a.modify j λe=> { e with key:=k',val:=v' }).size),
   VR β (es.modify j λe=> { e with key:=k,val:=v })[i].key (a.modify j λe=> { e with key:=k',val:=v' })[i].key/\VR β (es.modify j λe=> { e with key:=k,val:=v })[i].val (a.modify j λe=> { e with key:=k',val:=v' })[i].val/\(a.modify j λe=> { e with key:=k',val:=v' })[i].born=(es.modify j λe=> { e with key:=k,val:=v })[i].born:=by
 refine⟨by simpa using hs,λi h1 h2=> ?_⟩;have b:i<es.size:=by simpa using h1
 have c:i<a.size:=by simpa using h2
 simp only[YW];by_cases e:j=i
 ·simp only[e,iT];exact⟨hk,hv,(h i b c).2.2⟩
 simp only[e,iF];exact h i b c
theorem map_push{β:Nat->aA}{es b:Array qp}(hs:b.size=es.size)(h : ∀i (h:i<es.size) (h':i<b.size),VR β es[i].key b[i].key/\VR β es[i].val b[i].val/\b[i].born=es[i].born){a a':qp}(hk:VR β a.key a'.key)(hv:VR β a.val a'.val)(hb:a'.born=a.born) :
 (b.push a').size=(es.push a).size/\∀i (h:i<(es.push a).size) (h':i<(b.push a').size),VR β (es.push a)[i].key (b.push a')[i].key/\VR β (es.push a)[i].val (b.push a')[i].val/\(b.push a')[i].born=(es.push a)[i].born:=by
 refine⟨by simpa using hs,λi h1 h2=> ?_⟩;simp only[Array.getElem_push];by_cases e:i<es.size
 ·have e':i<b.size:=by omega
  simp only[e,e',dif_pos];exact h i e e'
 have e' : ¬i<b.size:=by omega
 simp only[e,e',dif_neg,not_false_eq_true];exact⟨hk,hv,hb⟩
theorem ZV{t W et:aI}{d:oX}{kk:Nat}{x k u:av}{op:Op}(bC:op= .mapUpdate t x k u\/op= .insert t x k u)(ht:P.underlying t=some (.map W et))(hd:P.underlying W=some d)(hk:wj d=some kk):tJ P op (.JG kk x k u):=λB β H w z m o v H' ho hv L y=>by
 have Td:op.operands= #[x,k,u]:=by rcases bC with rfl | rfl<;>rfl
 have X:execOp m o=(do Su t (m x) (m k) (m u);pure .skip):=by rcases bC with rfl | rfl<;>simp only[execOp,ho]<;>rfl
 have hx:=hv x (by simp[Td]);have Y:=hv k (by simp[Td]);have hu:=hv u (by simp[Td]);simp only[bq] at y;split at y
 ·rename_i l jV;rw[jV] at hx;cases O:H.ob l with
  | map es c=>
    rw[O] at y;simp only[yD] at y;split at y
    ·rename_i g;obtain⟨b,hb,Q,M,h1,h2,h3⟩:=L.GV O;have R:m x= .map (some b):=by generalize m x=q at hx;cases hx with | map h=>rw[hb] at h;cases h;rfl
     have G:=Co Y g.1;obtain⟨N,Z⟩:=S' h2 h3;have S : ∀I,(Jk I 10000 W (z k)).run P w= .ok () w:=λI=>GW (P:=P) hd hk I 9999 (z k) w;have hc:(∀cs e f,Obj.map M c≠ .cells cs e f)/\∀r,Obj.map M c≠ .loop r:=⟨λ_ _ _ e=>(nomatch e),λ_ e=>(nomatch e)⟩;have T : ∀F:Obj,(setObj b F).run P w= .ok () (w.putObj b F):=λF=>af2 F h1;split at y
     ·rename_i j a A;cases y;rcases JX (β:=β) hk N Z A with ⟨g1,_⟩ | ⟨U,a0,a',g1,g2,g3,C,g4,g5⟩
      ·cases g1
      cases g1;rw[ba] at *;obtain⟨m1,m2⟩:=ahq h2 h3 (G▸Y:VR β (z k) (z k)) hu U;obtain⟨J,s2⟩:=L.setObj hb h1 hc (o:= .map (es.modify U λe=> { e with key:=z k,val:=z u }) c) (o':= .map (M.modify U λe=> { e with key:=z k,val:=m u }) c) λw' hw=>⟨Q,_,hw,m1,m2⟩;refine⟨β,_,undef, .skip,?_, .inr ⟨rfl,rfl⟩, .undef _,J,s2⟩;have At:((M[U]?).map (·.key)).getD (z k)=z k:=by
       have:M[U]? = some C:=by simpa using g4
       rw[this];exact g5
      rw[X];simp[R,G,Su,run_underlying ht,S,B7 h1,B6 hd g2,At,ZS g.1,T,uy]
     ·rename_i A;cases y;rcases JX (β:=β) hk N Z A with ⟨_,g2⟩ | ⟨_,_,_,g1,_⟩
      ·obtain⟨m1,m2⟩:=map_push h2 h3 (a:= { key:=z k,val:=z u,born:=c }) (a':= { key:=z k,val:=m u,born:=c }) (G▸Y:VR β (z k) (z k)) hu rfl;obtain⟨J,s2⟩:=L.setObj hb h1 hc (o:= .map (es.push { key:=z k,val:=z u,born:=c }) (c+1)) (o':= .map (M.push { key:=z k,val:=m u,born:=c }) (c+1)) λw' hw=>⟨Q,_,hw,m1,m2⟩;refine⟨β,_,undef, .skip,?_, .inr ⟨rfl,rfl⟩, .undef _,J,s2⟩;rw[X];simp[R,G,Su,run_underlying ht,S,B7 h1,B6 hd g2,T,uy]
      cases g1
     cases y
    cases y
  | fm f nz=>
    rw[O] at y;simp only[yD] at y;split at y
    ·rename_i s n gz ZW;split at y;case isFalse=>cases y
     rename_i g;obtain⟨gs,gw,gc⟩:=g;cases y;obtain⟨b,hb,Q,es,c,h1,h2,h3,h4,h5,h6,h7,h8,h9⟩:=L.Tb O;have R:m x= .map (some b):=by generalize m x=q at hx;cases hx with | map h=>rw[hb] at h;cases h;rfl
     have G:m k= .string s:=by
      have:=Co (kk:=1) Y (by rw[gz];rfl);rw[this,gz]
     have JZ:m u= .int .i64 n:=by
      have:=Co (kk:=0) hu (by rw[ZW];rfl);rw[this,ZW]
     have S : ∀I,(Jk I 10000 W (.string s)).run P w= .ok () w:=λI=>GW (P:=P) hd hk I 9999 _ w;have hc:(∀cs e f,Obj.map es c≠ .cells cs e f)/\∀r,Obj.map es c≠ .loop r:=⟨λ_ _ _ e=>(nomatch e),λ_ e=>(nomatch e)⟩;have T : ∀F:Obj,(setObj b F).run P w= .ok () (w.putObj b F):=λF=>af2 F h1;have ahr:(St (.string s) (.string s)).run P w= .ok (.string s) w:=ZS (kk:=1) rfl w;rcases Ta hk s es.toList 0 (λe he=>let ⟨s,n,a,b,_⟩:=h2 e he;⟨s,n,a,b⟩) with ⟨g1,g2⟩ | ⟨j,e,g1,g2,g3⟩
     ·have D : ∀e,e∈(es.push { key:= .string s,val:= .int .i64 n,born:=c }).toList↔e∈es.toList\/e= { key:= .string s,val:= .int .i64 n,born:=c }:=λe=>by simp
      have Ei : ∀w':ay,w'.heap[b]? = some (.map (es.push { key:= .string s,val:= .int .i64 n,born:=c }) (c+1))->Ci w' b (λt=>if t=s then some n else f t) (nz+1):=λw' hw=>by
       refine⟨_,_,hw,λe he=> ?_,?_,λe he E n' C K=> ?_,λE n' A=> ?_,?_,gc,λe he=> ?_,?_⟩
       ·rcases(D e).1 he with he | rfl
        ·exact h2 e he
        exact⟨_,_,rfl,rfl,gs,gw⟩
       ·rw[Array.toList_push,Sv];refine⟨h3,List.pairwise_singleton ..,λa ha b hb=> ?_⟩;rw[List.mem_singleton.1 hb];exact g1 a ha
       ·rcases(D e).1 he with he | rfl
        ·have aB:E≠s:=λh=>g1 e he (by rw[C,h]);simp only[aB,iF];exact h4 e he E n' C K
        cases C;cases K;simp
       ·by_cases hs:E=s
        ·subst hs;simp only[iT,Option.some.injEq] at A;subst A;exact⟨_,(D _).2 (.inr rfl),rfl,rfl⟩
        simp only[hs,iF] at A;obtain⟨e,he,C,K⟩:=h5 E n' A;exact⟨e,(D _).2 (.inl he),C,K⟩
       ·simp;omega
       ·rcases(D e).1 he with he | rfl
        ·exact Nat.lt_succ_of_lt (h8 e he)
        exact Nat.lt_succ_self _
       rw[Array.toList_push,Sv];refine⟨h9,List.pairwise_singleton ..,λa ha b hb=> ?_⟩;rw[List.mem_singleton.1 hb];exactλh=>by have:=h8 a ha;simp at h;omega
      obtain⟨J,s2⟩:=L.setObj hb h1 hc (o:= .fm (λt=>if t=s then some n else f t) (nz+1)) (o':= .map (es.push { key:= .string s,val:= .int .i64 n,born:=c }) (c+1)) λw' hw=>⟨Q,Ei w' hw⟩;refine⟨β,_,undef, .skip,?_, .inr ⟨rfl,rfl⟩, .undef _,J,s2⟩;rw[X];simp[R,G,JZ,Su,run_underlying ht,S,B7 h1,B6 hd g2,T,uy]
     have V:j<es.size:=by
      have:=(List.getElem?_eq_some_iff.1 g1).1;simpa using this
     have Oy:es[j]=e:=by
      have:=(List.getElem?_eq_some_iff.1 g1).2;simpa using this
     have fq : ∀i (h:i<es.size),(es.modify j λe=> { e with key:= .string s,val:= .int .i64 n })[i]'(by simpa using h)=if j=i then { es[i] with key:= .string s,val:= .int .i64 n } else es[i]:=λi h=>by
      simp only[YW]
     have D : ∀e',e'∈(es.modify j λe=> { e with key:= .string s,val:= .int .i64 n }).toList↔(∃i,∃h:i<es.size,i≠j/\es[i]=e')\/e'= { es[j] with key:= .string s,val:= .int .i64 n }:=λe'=>by
      rw[Array.mem_toList_iff,Array.mem_iff_getElem];constructor
      ·rintro⟨i,hi,h⟩;have qB:i<es.size:=by simpa using hi
       rw[fq i qB] at h;by_cases e:j=i
       ·subst e;rw[iP rfl] at h;exact .inr h.symm
       rw[iN e] at h;exact .inl ⟨i,qB,λh=>e h.symm,h⟩
      rintro(⟨i,hi,aB,h⟩ | h);·exact⟨i,by simpa using hi,by rw[fq i hi,iN (λe=>aB e.symm)];exact h⟩
      exact⟨j,by simpa using V,by rw[fq j V,iP rfl];exact h.symm⟩
     have Te : ∀i (h:i<es.size),i≠j->es[i].key≠ .string s:=λi h aB hk=>by
      have hp:=List.pairwise_iff_getElem.1 h3;rcases Nat.lt_or_gt_of_ne aB with aU | aU
      ·exact hp i j (by simpa using h) (by simpa using V) aU (by simp only[yp];rw[hk,Oy,g2])
      exact hp j i (by simpa using V) (by simpa using h) aU (by simp only[yp];rw[hk,Oy,g2])
     have Ei : ∀w':ay,w'.heap[b]? = some (.map (es.modify j λe=> { e with key:= .string s,val:= .int .i64 n }) c)->Ci w' b (λt=>if t=s then some n else f t) (nz+1):=λw' hw=>by
      refine⟨_,_,hw,λe he=> ?_,?_,λe he E n' C K=> ?_,λE n' A=> ?_,?_,gc,λe he=> ?_,?_⟩
      ·rcases(D e).1 he with ⟨i,hi,_,rfl⟩ | rfl
       ·exact h2 _ Sm
       exact⟨_,_,rfl,rfl,gs,gw⟩
      ·rw[List.pairwise_iff_getElem];intro a b ha hO sH;have yE:a<es.size:=by simpa using ha
       have fE:b<es.size:=by simpa using hO
       simp only[yp,YW];by_cases ea:j=a<;>by_cases eb:j=b
       ·omega
       ·simp only[ea,iT,eb,iF];rw[iN Om];exactλh=>Te b fE (λh=>eb h.symm) h.symm
       ·simp only[eb,iT,ea,iF];rw[iN Om];exact Te a yE Om
       simp only[ea,eb,iF];have hp:=List.pairwise_iff_getElem.1 h3 a b (by simpa using yE) (by simpa using fE) sH;simpa only[yp] using hp
      ·rcases(D e).1 he with ⟨i,hi,aB,rfl⟩ | rfl
       ·have hs:E≠s:=λh=>Te i hi aB (by rw[C,h]);simp only[hs,iF];exact h4 _ Sm E n' C K
       cases C;cases K;simp
      ·by_cases hs:E=s
       ·subst hs;simp only[iT,Option.some.injEq] at A;subst A;exact⟨_,(D _).2 (.inr rfl),rfl,rfl⟩
       simp only[hs,iF] at A;obtain⟨e',Tf,N,Z⟩:=h5 E n' A;obtain⟨i,hi,Ec⟩:=List.getElem_of_mem Tf;have qB:i<es.size:=by simpa using hi
       have Tg:es[i]=e':=by simpa using Ec
       refine⟨e',(D _).2 (.inl ⟨i,qB,λh=> ?_,Tg⟩),N,Z⟩;subst h;rw[Oy] at Tg;subst Tg;rw[g2] at N;cases N;exact hs rfl
      ·simp;omega
      ·rcases(D e).1 he with ⟨i,hi,_,rfl⟩ | rfl
       ·exact h8 _ Sm
       exact h8 es[j] Sm
      rw[List.pairwise_iff_getElem];intro a b ha hO sH;have yE:a<es.size:=by simpa using ha
      have fE:b<es.size:=by simpa using hO
      have hp:=List.pairwise_iff_getElem.1 h9 a b (by simpa using yE) (by simpa using fE) sH;simp only[yp] at hp;simp only[yp,YW];split<;>split<;>exact hp
     obtain⟨J,s2⟩:=L.setObj hb h1 hc (o:= .fm (λt=>if t=s then some n else f t) (nz+1)) (o':= .map (es.modify j λe=> { e with key:= .string s,val:= .int .i64 n }) c) λw' hw=>⟨Q,Ei w' hw⟩;refine⟨β,_,undef, .skip,?_, .inr ⟨rfl,rfl⟩, .undef _,J,s2⟩;have At:((es[j]?).map (·.key)).getD (.string s)= .string s:=by
      rw[sv V,Oy];exact g2
     rw[ba] at g3;rw[X];simp[R,G,JZ,Su,run_underlying ht,S,B7 h1,B6 hd g3,At,ahr,T,uy]
    cases y
  | _=>rw[O] at y;cases y
 cases y
theorem aP.ahs{B:Nat}{β:Nat->aA}{H:CH}{w:ay}(h:aP P B β H w){l m:Nat}(ho:H.ob l= .Ag m) : ∃b,β l= .obj b/\B<=b/\∃(c a last:Nat) (seen:Array Nat),β m= .obj c/\w.heap[b]? = some (.mapIter (some c) a seen last):=by
 have h1:=h.iV l;rw[ho] at h1;cases hb:β l with
 | obj b=>rw[hb] at h1;exact⟨b,rfl,h1.1,h1.2⟩
 | _=>rw[hb] at h1;exact h1.elim
theorem aht{t i j:aI}{x:av}(ht:P.underlying t=some (.map i j)):tJ P (.range t x) (.JI x):=λB β H w n d o v H' ho hv f a=>by
 have hx:=hv x So;simp only[bq] at a;split at a
 ·rename_i l k;rw[k] at hx;cases g:H.ob l with
  | map es c=>
    rw[g] at a;simp only[Zz,Option.some.injEq,Prod.mk.injEq] at a;obtain⟨rfl,rfl⟩:=a;obtain⟨b,hb,r,s,h1,h2,h3⟩:=f.GV g;have m:d x= .map (some b):=by generalize d x=q at hx;cases hx with | map h=>rw[hb] at h;cases h;rfl
    have aB:l≠H.nx:=λe=>by
     have:=f.nx H.nx (ai _);rw[<-e,g] at this;cases this
    obtain⟨g1,g2⟩:=f.newObj (o:= .Ag l) (o':= .mapIter (some b) c #[] c) fun β' w' e hw=>⟨f.base,b,c,c,#[],by rw[e,dT aB];exact hb,hw⟩;exact⟨_,_, .pointer (some ⟨w.heap.size,0,none⟩),_,by simp[execOp,ho,m,Instr.range,run_underlying ht,B7 h1], .inl rfl, .iter eE,g1,g2⟩
  | _=>rw[g] at a;cases a
 cases a
theorem ahu{x:av}:tJ P (.next x false) (.JJ x):=λB β H w A d o v H' ho hv e a=>by
 have hx:=hv x So;simp only[bq] at a;split at a
 ·rename_i l n;rw[n] at hx;cases f:H.ob l with
  | Ag m=>
    rw[f] at a;simp only[ZA] at a;obtain⟨b,hb,C,D,g,last,seen,r,h1⟩:=e.ahs f;have s:d x= .pointer (some ⟨b,0,none⟩):=by generalize d x=q at hx;cases hx with | iter h=>rw[hb] at h;cases h;rfl
    cases j:H.ob m with
    | map es c=>
      rw[j] at a;simp only at a;split at a
      ·rename_i t;cases a;obtain⟨E,k,_,u,y,z,_⟩:=e.GV j;rw[r] at k;cases k;have he:u= #[]:=Array.eq_empty_of_size_eq_zero (z.trans t);subst he;refine⟨β,w, .tuple #[.bool false],_,?_, .inl rfl, .tuple rfl λi g1 g2=> ?_,e,cd.refl β w⟩;·simp[execOp,ho,s,Instr.next,getObj,vS,h1,y,choose,Question.forced,cA,uy]
       match i,g1 with
       | 0,_=>exact .bool _
      cases a
    | _=>rw[j] at a;cases a
  | _=>rw[f] at a;cases a
 cases a
theorem ahv{t tk n D:aI}{d:oX}{kk:Nat}{x k:av}(ht:P.underlying t=some (.map n D))(hd:P.underlying n=some d)(hk:wj d=some kk):tJ P (.call { callee:= .builtin .delete,args:= #[x,k],argTypes:= #[t,tk] }) (.del kk x k):=λB β H w A j o v H' ho hv C a=>by
 have hx:=hv x S0;have E:=hv k S0;have F : ∀(u:ae) (w':ay),(Builtin.delete_ #[t,tk] o.type #[j x,j k]).run P w= .ok u w'->(execOp j o).run P w= .ok (.value u) w':=λu w' h=>by
  simp only[execOp,ho,resolve,cA,cR,cg,invoke,builtin,Gi,c8,iw,h]
 simp only[bq] at a;split at a
 ·rename_i l G;rw[G] at hx;cases s:H.ob l with
  | map es c=>
    rw[s] at a;simp only[ZB] at a;split at a
    ·rename_i g;obtain⟨b,hb,I,y,h1,h2,h3⟩:=C.GV s;have J:j x= .map (some b):=by generalize j x=q at hx;cases hx with | map h=>rw[hb] at h;cases h;rfl
     have K:=Co E g;obtain⟨L,M⟩:=S' h2 h3;have N : ∀z,(Jk z 10000 n (A k)).run P w= .ok () w:=λz=>GW (P:=P) hd hk z 9999 (A k) w;have hc:(∀cs e f,Obj.map y c≠ .cells cs e f)/\∀r,Obj.map y c≠ .loop r:=⟨λ_ _ _ e=>(nomatch e),λ_ e=>(nomatch e)⟩;have O : ∀m:Obj,(setObj b m).run P w= .ok () (w.putObj b m):=λm=>af2 m h1;split at a
     ·rename_i Q;cases a;rcases JX (β:=β) hk L M Q with ⟨_,g2⟩ | ⟨_,_,_,g1,_⟩
      ·obtain⟨R,s2⟩:=C.setObj hb h1 hc (o:= .map es c) (o':= .map y c) λw' hw=>⟨I,_,hw,h2,h3⟩;refine⟨β,_, .tuple #[], .value (.tuple #[]),F _ _ ?_, .inl rfl, .tuple rfl λi g1 g2=>(by simp at g1),R,s2⟩;simp[Builtin.delete_,J,K,run_underlying ht,N,B7 h1,B6 hd g2,O,uy]
      cases g1
     cases a
    cases a
  | _=>rw[s] at a;cases a
 cases a
theorem ahw{t:aI}{x:av}(ht:P.underlying t=some .string):tJ P (.range t x) (.JH x):=λB β H w f c o v H' ho hv b a=>by
 have hx:=hv x So;simp only[bq] at a;split at a
 ·rename_i s d;rw[d] at hx;have e:=hx.Ak;cases a;obtain⟨h1,h2⟩:=b.newObj (o:= .xj s 0) (o':= .stringIter s 0) fun β' w' _ hw=>⟨b.base,hw⟩;exact⟨_,_, .pointer (some ⟨w.heap.size,0,none⟩),_,by simp[execOp,ho,e,Instr.range,run_underlying ht], .inl rfl, .iter eE,h1,h2⟩
 cases a
theorem ahx{x:av}:tJ P (.next x true) (.Aq x):=λB β H w u c o v H' ho hv d a=>by
 have hx:=hv x So;simp only[bq] at a;split at a
 ·rename_i l m;rw[m] at hx;cases g:H.ob l with
  | xj s p=>
    rw[g] at a;simp only[GP] at a;obtain⟨b,hb,n,h1⟩:=d.ahn g;have k:c x= .pointer (some ⟨b,0,none⟩):=by generalize c x=q at hx;cases hx with | iter h=>rw[hb] at h;cases h;rfl
    have hc:(∀cs e f,Obj.stringIter s p≠ .cells cs e f)/\∀r,Obj.stringIter s p≠ .loop r:=⟨λ_ _ _ e=>(nomatch e),λ_ e=>(nomatch e)⟩;split at a
    ·rename_i j;cases a;obtain⟨t,s2⟩:=d.setObj hb h1 hc (o:= .xj s (p+(Utf8.decode s p).2)) (o':= .stringIter s (p+(Utf8.decode s p).2)) λw' hw=>⟨n,hw⟩;refine⟨β,_, .tuple #[.bool true, .int .i64 p, .int .i32 (Utf8.decode s p).1],_,?_, .inl rfl, .tuple rfl λi g1 g2=> ?_,t,s2⟩;·simp only[execOp,ho,k];have:=Lib.run_next_any_at (P:=P) w b s p o.type h1 j;simp only[cA,this,cg,cR];rfl
     match i,g1 with
     | 0,_=>exact .bool _
     | 1,_=>exact .int _ _
     | 2,_=>exact .int _ _
    rename_i j;cases a;refine⟨β,w, .tuple #[.bool false],_,?_, .inl rfl, .tuple rfl λi g1 g2=> ?_,d,cd.refl β w⟩;·simp only[execOp,ho,k];have:=Lib.run_next_end_at (P:=P) w b s p o.type h1 j;simp only[cA,this,cg,cR]
    match i,g1 with
    | 0,_=>exact .bool _
  | _=>rw[g] at a;cases a
 cases a
theorem ahy(w:ay)(e:aI)(s:ByteArray):(Lib.bytesWorld w e s).heap=w.drew.heap.push (.cells (B8 w e s) e ((B8 w e s).size,(B8 w e s).size+1)):=by
 apply Array.ext_getElem?;intro j;have hd:w.drew.heap=w.heap:=rfl;rw[hd,Ge];by_cases h:j=w.heap.size
 ·rw[h,Lib.bytesWorld_at_new,iP rfl]
 rw[iN h];by_cases h2:j<w.heap.size
 ·exact Lib.bytesWorld_at_old w e s j h2
 rw[af3 (by rw[Lib.bytesWorld_size];omega),af3 Om]
theorem ahz{src dst e bytes:aI}{x:av}(hs:P.underlying src=some .string)(hd:P.underlying dst=some (.slice e))(he:P.underlying e=some (.int .u8))(hi:(P.info? e).map (·.size)=some 1):tJ P (.convert src dst x) (.s2b e bytes x):=λB β H w m c o v H' ho hv d a=>by
 have hx:=hv x So;simp only[bq] at a;split at a
 ·rename_i s f;rw[f] at hx;have j:=hx.Ak;split at a
  ·rename_i n;cases a;obtain⟨g1,g2⟩:=S5 w s.size 0 e (by have:maxLen=9223372036854775807:=rfl;omega);have k:(B8 w e s).size=grownCap w s.size 0 e:=by simp[B8];have:s.data.size=s.size:=rfl;omega
   obtain⟨h1,h2⟩:=d.drew;obtain⟨h3,h4⟩:=h1.alloc (cs:=s.data.toList.map λb=> .int .u8 b.toNat) (cs':=B8 w e s) (e:=e) .gr Sm hi (by simp[B8]) Sm (λi v hv=>by
    have l:i<s.data.size:=by have:=(List.getElem?_eq_some_iff.1 hv).1;simpa using this
    refine⟨v,?_,?_⟩
    ·unfold B8;rw[YU (by simpa using l)];simp only[ka,Array.getElem?_toList] at hv;simpa using hv
    simp only[ka,nf] at hv;obtain⟨b,_,rfl⟩:=hv;exact .int _ _) (fr:=((B8 w e s).size,(B8 w e s).size+1)) (.inr (ai _)) (w':=Lib.bytesWorld w e s) (ahy w e s) rfl rfl rfl
   refine⟨_,_, .slice (some ⟨w.heap.size,0,none⟩) s.size (grownCap w s.size 0 e),_,?_, .inl rfl,?_,h3,h2.trans h4⟩;·simp only[execOp,ho,j];have:=Lib.run_convert_string_bytes (P:=P) w src dst e s hs hd he;simp only[cA,this,cg,cR]
   exact .sl (b:=(w.heap.size,0)) (o:=0) eE (ai _) g1 g2 (λ_=>by rw[k];simp) (λg=>absurd rfl g)
  cases a
 cases a
theorem ZX : ∀ {l:List ae} {bs:List UInt8},sI l=some bs->∃xs:List Int,l=xs.map (.int .u8)/\bs=xs.map λn=>ar n.toNat
 | [],bs,h=>by simp only[sI,Option.some.injEq] at h;exact⟨[],rfl,h.symm⟩
 | v::l,bs,h=>by
   cases v with
   | int k n=>
     cases k<;>simp only[sI,reduceCtorEq] at h;cases hb:sI l with
     | none=>rw[hb] at h;cases h
     | some a=>
       rw[hb] at h;cases h;obtain⟨xs,rfl,rfl⟩:=ZX hb;exact⟨n::xs,rfl,rfl⟩
   | _=>simp only[sI,reduceCtorEq] at h
theorem ahA{src dst e:aI}{x:av}(hs:P.underlying src=some (.slice e))(hd:P.underlying dst=some .string)(he:P.underlying e=some (.int .u8)):Am P (.convert src dst x) (.b2s x):=λB β H w N d o v ho hv F f=>by
 have hx:=hv x So;have hex : ∀u w',(convert src dst (d x)).run P w= .ok u w'->(execOp d o).run P w= .ok (.value u) w':=λu w' h=>by simp only[execOp,ho,cA,h,cg,cR]
 have C : ∀(a:cB) (c:Nat),(convert src dst (.slice (some a) 0 c)).run P w= .ok (.string .empty) w:=λa c=>by
  rw[run_convert_bytes_string w src dst e _ 0 c hs he hd];have:=run_bytesToString (P:=P) w a 0 c [] (by simp[loadCells,loadCellsFrom]);simpa using this
 simp only[aD] at f;split at f
 ·rename_i r;cases f;rw[r] at hx;have g:d x= .slice none 0 0:=by generalize d x=q at hx;cases hx;rfl
  exact⟨_,hex _ _ (by rw[g];exact run_convert_bytes_nil w src e hs he 0 0 dst hd), .string _⟩
 ·rename_i l s n c r;rw[r] at hx;split at f
  ·rename_i cs O k G;split at f
   ·rename_i t;obtain⟨b,sz,m,hb,I⟩:=F.cells G;obtain⟨D,h1,h2,h3⟩:=I.reads s n t;cases y:sI ((cs.drop s).take n) with
    | none=>rw[y] at f;cases f
    | some bs=>
      rw[y] at f;cases f;obtain⟨xs,E,rfl⟩:=ZX y;have J:D=xs.map (.int .u8):=by
       rw[E] at h1;refine List.ext_getElem? λi=> ?_;cases hi:(xs.map (Value.int .u8))[i]? with
       | none=>
         have:=h1.1;rw[List.getElem?_eq_none_iff] at hi⊢;omega
       | some u=>
         obtain⟨Q,K,L⟩:=h1.2 i u hi;rw[K];simp only[ka,nf] at hi;obtain⟨z,_,rfl⟩:=hi;cases L;rfl
      have j:xs.length=n:=by
       have:=congrArg tu E;simp at this;omega
      have A:(⟨(xs.map λn=>ar n.toNat).toArray⟩:ByteArray)=strOfNums xs:=rfl;show ∃v',(execOp d o).run P w= .ok (.value v') w/\VR β (.string ⟨(xs.map λn=>ar n.toNat).toArray⟩) v';rw[A];by_cases hn:n=0
      ·subst hn;have g : ∃a c',d x= .slice (some a) 0 c':=by
        generalize d x=q at hx;cases hx with
        | sl=>exact⟨_,_,rfl⟩
        | rq=>exact⟨_,_,rfl⟩
        | ru=>exact⟨_,_,rfl⟩
       obtain⟨a,c',g⟩:=g;have:xs= []:=List.length_eq_zero_iff.1 j;subst this;exact⟨_,hex _ _ (by rw[g];exact C a c'), .string _⟩
      have g : ∃c',d x= .slice (some ⟨b.1,s+b.2,none⟩) n c':=by
       generalize d x=q at hx;cases hx with
       | sl hl=>rw[hb] at hl;cases hl;exact⟨_,rfl⟩
       | rq a hl=>rw[hb] at hl;cases hl
       | ru=>exact absurd rfl hn
      obtain⟨c',g⟩:=g;refine⟨_,hex _ _ ?_, .string _⟩;rw[g];refine run_convert_bytes_arg w src e hs he b.1 (s+b.2) n c' xs j (λi hi=> ?_) dst hd;have M:D[i]? = some (.int .u8 (xs.getD i 0)):=by
       rw[J,ka,cj Om,List.getD_eq_getElem?_getD,cj Om];rfl
      have:=h3 i _ M;simpa[Gf] using this
   cases f
  cases f
 ·rename_i R a2 a3 c r;cases f;rw[r] at hx;have g : ∃a c',d x= .slice (some a) 0 c':=by
   generalize d x=q at hx;cases hx<;>exact⟨_,_,rfl⟩
  obtain⟨a,c',g⟩:=g;exact⟨_,hex _ _ (by rw[g];exact C a c'), .string _⟩
 cases f
theorem aP.freeze{B:Nat}{β:Nat->aA}{H:CH}{w:ay}(h:aP P B β H w){l:Nat}{b:Nat×Nat}{sz n:Nat}{k:Kd}(hb:β l= .live b sz n k)(hk:k≠ .ro) :
 aP P B β H (w.freeze ⟨b.1,n,none⟩ 1)/\cd β w β (w.freeze ⟨b.1,n,none⟩ 1):=by
 obtain⟨cs,e,o,cs',e',fr,h1,h2,h3,h4,h5,c,p,q⟩:=h.live hb;have f : ∀a,a≠b.1->(w.freeze ⟨b.1,n,none⟩ 1).heap[a]? = w.heap[a]? :=λa aB=>by
  simp[Gn,YQ,Ne.symm aB]
 have d : ∃fr',Ch n fr'/\(w.freeze ⟨b.1,n,none⟩ 1).heap[b.1]? = some (.cells cs' e' fr'):=by
  obtain⟨lo,hi⟩:=fr;refine⟨if lo==hi then (n,n+1) else (min lo n,max hi (n+1)),?_,by simp[Gn,YQ,h1]⟩;split;·exact .inr (ai _)
  rename_i aB;rcases(c hk).2.2 with g | g
  ·exact absurd (by simpa using g) aB
  exact .inr (by simp only;omega)
 obtain⟨fr',r,d⟩:=d;have i:(w.freeze ⟨b.1,n,none⟩ 1).heap.size=w.heap.size:=by simp[Gn]
 refine⟨⟨λl'=> ?_,h.nx,h.inj,by rw[i];exact h.base,h.ro⟩,⟨rfl,rfl,rfl,by rw[i];exact ai _,λa j m=>⟨f a ?_,m⟩,eS.refl β⟩⟩
 ·by_cases el:l'=l
  ·subst el;have:=h.iV l';rw[hb,o] at this⊢;refine⟨this.1,cs',e',fr',d,h2,h3,h4,h5,λg=>⟨(c g).1,(c g).2.1,r⟩,p,q⟩
  exact(h.iV l').mono (eS.refl β) λa j=>f a (SI h hb hk j el)
 rintro rfl;exact m l (by rw[hb];exact⟨hk,rfl⟩)
theorem ahC{t e:aI}{x:av}(ht:P.underlying t=some (.slice e))(he:P.underlying e=some (.int .u8)):tJ P (.convert t t x) (.iX x):=λB β H w G f o v H' ho hv i d=>by
 have hx:=hv x So;simp only[bq,ZC] at d;split at d
 ·rename_i l I n c j;rw[j] at hx;split at d
  ·rename_i cs J k r;split at d
   ·rename_i g;cases d;have hk:=Kd.JL g.1;obtain⟨b,sz,m,hb,s⟩:=i.cells r;obtain⟨cs',e',fr,g1,g2,_⟩:=s;obtain⟨u,s2⟩:=i.freeze hb hk;have y:w.shape? b.1=some (e',m):=by simp[World.shape?,g1,g2]
    generalize z:f x=q at hx;cases hx with
    | @sl _ _ K _ _ _ _ c' _ hl A C D E F=>
      rw[hb] at hl;cases hl;refine⟨β,w.freeze ⟨b.1,m,none⟩ 1,_,_,?_, .inl rfl, .sl hb A C D E F,u,s2⟩;simp[execOp,ho,z,convert,run_underlying ht,run_underlying he,markStringish,y,uy]
    | rq a hl=>rw[hb] at hl;cases hl
    | ru a hl=>exact absurd rfl g.2
   cases d
  cases d
 cases d
theorem ahD{e:aI}(hc:P.cellsOf e=1){count o n:Nat}(hn:o+n<=count):liesAt P P.depth e count o e n=true:=by
 have hd:P.depth=(2*(P.types.size+Made.depth)+1)+1:=rfl;rw[hd];simp only[liesAt,Bool.or_eq_true];left;rw[hd];simp[rowAt,hc,hn,sameLayout];omega
theorem ahE(w:ay)(a it ty e:aI)(hp:P.underlying a=some (.pointer e))(hc:P.cellsOf e=1)(g o cells:Nat)(d:w.shape? g=some (e,cells))(l:List UInt8)(f:l≠ [])(hn:o+l.length<=cells)(h:l.length<=9223372036854775807)
 (i : ∀j x,l[j]? = some x->w.cell? ((⟨g,o,none⟩:cB).add j)=some (.int .u8 x.toNat)) :
 (Builtin.unsafeString_ #[a,it] ty #[.pointer (some ⟨g,o,none⟩), .int .i64 l.length]).run P w= .ok (.string ⟨l.toArray⟩) (w.freeze ⟨g,o,none⟩ l.length):=by
 have hl:l.length≠0:=by simpa using f
 have k:=Lib.run_loadBytes (P:=P) w l ⟨g,o,none⟩ .empty i;have b:=ahD (P:=P) hc (count:=cells / P.cellsOf e) (o:=o) (n:=l.length) (by rw[hc];simpa using hn);have m : ¬(9223372036854775807:Int)<(l.length:Int):=by omega
 have p:Builtin.unsafeString_ #[a,it] ty #[.pointer (some ⟨g,o,none⟩), .int .i64 l.length] =
  (do
    let n <-asInt (.int .i64 l.length)
    if n<0 then runtimePanic (.error "unsafe.String: len out of range")
    if n>IntKind.i64.max then unsupported (.unsafePointer "String: a length above the largest int")
    if n=0 then pure (.string .empty)
    else if <-variablesAt ⟨g,o,none⟩ (<-elemOf a) n.toNat then do
     let s <-loadBytes ⟨g,o,none⟩ .empty n.toNat
     freeze ⟨g,o,none⟩ n.toNat
     pure (.string s)
    else unsupported (.unsafePointer "String: not so many bytes at ptr")):=rfl
 rw[p];have q:IntKind.i64.max=9223372036854775807:=rfl;have c : ¬(l.length:Int)<0:=by omega
 simp[asInt,asIntOf,q,m,c,hl,variablesAt,d,elemOf,run_underlying hp,b,k]
theorem aP.ahH{B:Nat}{β:Nat->aA}{H:CH}{w:ay}(h:aP P B β H w){l:Nat}{b:Nat×Nat}{sz n:Nat}{k:Kd}(hb:β l= .live b sz n k)(hk:k≠ .ro)(o m:Nat) :
 aP P B (dE β l .dead) (H.set l .dead) (w.freeze ⟨b.1,o,none⟩ m)/\cd β w (dE β l .dead) (w.freeze ⟨b.1,o,none⟩ m):=by
 obtain⟨c,e⟩:=h.kill hb;have f : ∀a,a≠b.1->(w.freeze ⟨b.1,o,none⟩ m).heap[a]? = w.heap[a]? :=λa aB=>by
  simp only[Gn];split;·rfl
  simp[YQ,Ne.symm aB]
 have g:(w.freeze ⟨b.1,o,none⟩ m).heap.size=w.heap.size:=by
  simp only[Gn];split;·rfl
  simp
 refine⟨⟨λl'=> ?_,c.nx,c.inj,by rw[g];exact h.base,c.ro⟩,⟨(by simp only[Gn];split<;>rfl),(by simp only[Gn];split<;>rfl),(by simp only[Gn];split<;>rfl),by rw[g];exact ai _,λa d i=>⟨f a ?_,(e.dk a d i).2⟩,e.ext⟩⟩
 ·by_cases el:l'=l
  ·subst el;simp only[eE,CH.set,iT];trivial
  have:=c.iV l';simp only[dT el,CH.set,iN el] at this⊢
  refine this.mono (eS.refl _) λa d=>f a (SI h hb hk d el)
 rintro rfl;exact i l (by rw[hb];exact⟨hk,rfl⟩)
def ZZ:aI->Nat->Nat->Bool:=λ_ n o=>Nat.blt o n
@[irreducible] def Th {P:aX} (u:aI):aI->Nat->Nat->Bool:=λe n o=>liesAt P P.depth e (n / P.cellsOf e) o u 1
theorem ahI{src dst t:aI}{j:TypeInfo}{x:av}(hs:P.underlying src=some (.pointer t))(hd:P.underlying dst=some .unsafePointer)(ht:P.info? t=some j)(i:j.size≠0):Am P (.convert src dst x) (.Cm ZZ x):=λB β H w y c o v ho hv k d=>by
 have hx:=hv x So;simp only[aD] at d;split at d
 ·rename_i ha;cases d;have g:c x= .pointer none:=by
   generalize c x=n at hx;rw[ha] at hx;cases hx;rfl
  exact⟨.pointer none,by simp[execOp,ho,g,convert,run_underlying hs,run_underlying hd,Conv.unsafePointer], .D5⟩
 ·rename_i l f ha;split at d
  ·rename_i cs e q;split at d
   ·rename_i r;cases d;rw[ha] at hx;obtain⟨b,sz,m,hb,s⟩:=k.cells q;obtain⟨cs',e',fr,g1,g2,g3,_⟩:=s;have u:w.shape? b.1=some (e',m):=by simp[World.shape?,g1,g2]
    have g:c x= .pointer (some ⟨b.1,f+b.2,none⟩):=by
     generalize c x=n at hx;cases hx with
     | ptr hl=>rw[hb] at hl;cases hl;rfl
     | qA a hl=>rw[hb] at hl;cases hl
    have z:f<cs.length:=Nat.le_of_ble_eq_true r;refine⟨_,?_, .ptr hb⟩;have:=Lib.run_to_unsafe w ⟨b.1,f+b.2,none⟩ hs hd ht i u (by show f+b.2<m;omega);simp only[execOp,ho,g];simp[this]
   cases d
  cases d
 cases d
theorem ahJ{src dst u:aI}{j:TypeInfo}{x:av}(hs:P.underlying src=some .unsafePointer)(hd:P.underlying dst=some (.pointer u))(hu:P.info? u=some j):Am P (.convert src dst x) (.Cm (Th (P:=P) u) x):=λB β H w y c o v ho hv k d=>by
 have hx:=hv x So;simp only[aD] at d;split at d
 ·rename_i ha;cases d;have f:c x= .pointer none:=by
   generalize c x=n at hx;rw[ha] at hx;cases hx;rfl
  exact⟨.pointer none,by simp[execOp,ho,f,convert,run_underlying hs,run_underlying hd,Conv.unsafePointer], .D5⟩
 ·rename_i l g ha;split at d
  ·rename_i cs e q;split at d
   ·rename_i i;unfold Th at i;cases d;rw[ha] at hx;obtain⟨b,sz,m,hb,r⟩:=k.cells q;obtain⟨cs',e',fr,g1,g2,g3,g4,g5,g6,g7,g8⟩:=r;obtain⟨z,s⟩:=g8 rfl;obtain⟨rfl,_⟩:=g6 Sm;have t:w.shape? b.1=some (e',cs.length):=by simp[World.shape?,g1,g2];omega
    have f:c x= .pointer (some ⟨b.1,g+b.2,none⟩):=by
     generalize c x=n at hx;cases hx with
     | ptr hl=>rw[hb] at hl;cases hl;rfl
     | qA a hl=>rw[hb] at hl;cases hl
    refine⟨_,?_, .ptr hb⟩;have:=Lib.run_from_unsafe w ⟨b.1,g+b.2,none⟩ hs hd hu t (by show liesAt P P.depth e' (cs.length / P.cellsOf e') (g+b.2) u 1=true;rw[s];exact i);simp only[execOp,ho,f];simp[this]
   cases d
  cases d
 cases d
theorem ahK{t e:aI}{j:TypeInfo}(ht:P.underlying t=some (.pointer e))(hi:P.info? e=some j)(c:j.size≠0)(a b:cB)(f:a.block=b.block)(w:ay) :
 (yo t (.pointer (some a)) (.pointer (some b))).run P w= .ok (a==b) w:=by
 unfold yo;obtain⟨d,hd⟩ : ∃d,Op.maxDepth=d+1:=⟨9999,rfl⟩;rw[hd];simp[Op.equalIn,run_underlying ht,sizeOf,typeInfo,hi,c,sameAddr,f]
theorem Z0{neg:Bool}{t u e:aI}{j:TypeInfo}{x y:av}(ht:P.underlying t=some (.pointer e))(hi:P.info? e=some j)(z:j.size≠0):Am P (.binOp (oi neg) t x y u) (.Ed neg x y):=λB β H w s c o v ho hv A h=>by
 have hp:=D9 (P:=P) (neg:=neg) (u:=u) (x:=x) (y:=y) ht;simp only[aD] at h;split at h;·rename_i a ha hb;obtain⟨v',i,n⟩:=hp β s c o v ho hv (by simp only[pop,ha,hb];exact h);exact⟨v',i w,n⟩
 ·rename_i b aB ha hb;obtain⟨v',i,n⟩:=hp β s c o v ho hv (by
   simp only[pop,ha,hb];cases b with
   | none=>simpa using h
   | some b=>simpa using h)
  exact⟨v',i w,n⟩
 ·rename_i l d l' f ha hb;split at h
  ·rename_i cs I k C;split at h
   ·rename_i D;subst D;cases h;have hx:=hv x So;have r:=hv y So;rw[ha] at hx;rw[hb] at r;obtain⟨b,sz,m,g,J⟩:=A.cells C;have ex:c x= .pointer (some ⟨b.1,d+b.2,none⟩):=by
     generalize c x=q at hx;cases hx with
     | ptr hl=>rw[g] at hl;cases hl;rfl
     | qA a hl=>rw[g] at hl;cases hl
    have E:c y= .pointer (some ⟨b.1,f+b.2,none⟩):=by
     generalize c y=q at r;cases r with
     | ptr hl=>rw[g] at hl;cases hl;rfl
     | qA a hl=>rw[g] at hl;cases hl
    have hg:(eqGuard (oi neg) t x y (.pointer (some ⟨b.1,d+b.2,none⟩)) (.pointer (some ⟨b.1,f+b.2,none⟩))).run P w= .ok () w:=by
     unfold eqGuard oi;cases neg<;>rfl
    have F:=ahK (P:=P) ht hi z ⟨b.1,d+b.2,none⟩ ⟨b.1,f+b.2,none⟩ rfl w;have G:((⟨b.1,d+b.2,none⟩:cB)==⟨b.1,f+b.2,none⟩)=(d==f):=by
     by_cases e:d=f
     ·subst e;simp
     have:(d==f)=false:=by simpa using e
     rw[this];simp only[beq_eq_false_iff_ne,ne_eq,Addr.mk.injEq,true_and,and_true];omega
    refine⟨_,?_, .bool _⟩;simp only[execOp,ho,ex,E,cA,hg,cg];cases neg<;>simp only[oi,binOp,cA,F,G,cg,cR,iT,je,iF]<;>simp
   cases h
  cases h
 cases h
theorem Z3 : ∀ {l:List ae} {bs:List UInt8},JM l=some bs->l=bs.map λx=> .int .u8 x.toNat
 | [],bs,h=>by cases h;rfl
 | v::r,bs,h=>by
   unfold JM at h;split at h;·rename_i e;cases e
   ·rename_i n b e;cases e;split at h
    ·rename_i hn;cases a:JM r with
     | none=>rw[a] at h;cases h
     | some l'=>
       rw[a] at h;cases h;rw[Z3 a,c8];congr 2
       have:(ar n.toNat).toNat=n.toNat:=by
        show n.toNat % 256=n.toNat;omega
       rw[this];omega
    cases h
   cases h
theorem ahL{j it e:aI}{p n:av}(hp:P.underlying j=some (.pointer e))(hc:P.cellsOf e=1):tJ P (.call ⟨.builtin .unsafeString,#[p,n],#[j,it]⟩) (.JK e p n):=λB β H w S c o v H' ho hv s d=>by
 have hx:=hv p S0;have hn:=hv n S0;have y : ∀(u:ae) (w':ay),(Builtin.unsafeString_ #[j,it] o.type #[c p,c n]).run P w= .ok u w'->(execOp c o).run P w= .ok (.value u) w':=λu w' h=>by
  simp only[execOp,ho,resolve,cA,cR,cg,invoke,builtin,Gi,c8,iw,h]
 simp only[bq,ZD] at d;split at d
 ·rename_i ha hb;cases d;rw[ha] at hx;rw[hb] at hn;have r:c p= .pointer none:=by
   generalize c p=q at hx;cases hx;rfl
  have t:c n= .int .i64 0:=by
   generalize c n=q at hn;cases hn;rfl
  exact⟨β,w,_,_,y _ _ (by rw[r,t];exact Lib.run_unsafeString_none w j it o.type none), .inl rfl, .string _,s,cd.refl _ _⟩
 ·rename_i l g m ha hb;rw[ha] at hx;rw[hb] at hn;have t:c n= .int .i64 m:=by
   generalize c n=q at hn;cases hn;rfl
  split at d
  ·rename_i A;subst A;cases d;obtain⟨a,r⟩ : ∃a,c p= .pointer (some a):=by
    generalize c p=q at hx;cases hx<;>exact⟨_,rfl⟩
   exact⟨β,w,_,_,y _ _ (by rw[r,t];exact Lib.run_unsafeString_none w j it o.type (some a)), .inl rfl, .string _,s,cd.refl _ _⟩
  rename_i A;split at d
  ·rename_i cs T k F;split at d
   ·rename_i hg;obtain⟨h1,rfl,h2,h3,h4⟩:=hg;split at d
    ·rename_i bs G;cases d;have hk:=Kd.JL h1;obtain⟨b,sz,C,z,I⟩:=s.cells F;obtain⟨cs',e',fr,g1,g2,g3,g4,g5,g6,g7,g8⟩:=I;obtain⟨rfl,_⟩:=g6 hk;have J:w.shape? b.1=some (e',C):=by simp[World.shape?,g1,g2]
     have r:c p= .pointer (some ⟨b.1,g+b.2,none⟩):=by
      generalize c p=q at hx;cases hx with
      | ptr hl=>rw[z] at hl;cases hl;rfl
      | qA a hl=>rw[z] at hl;cases hl
     have D:=Z3 G;have f:bs.length=m.toNat:=by
      have:=congrArg tu D;rw[eR,kW,lB] at this;omega
     obtain⟨K,s2⟩:=s.ahH z hk (g+b.2) bs.length;refine⟨_,_,_,_,y _ _ ?_, .inl rfl, .string _,K,s2⟩;rw[r,t];have L:m=(bs.length:Int):=by rw[f];omega
     rw[L];refine ahE w j it o.type e' hp hc b.1 (g+b.2) C J bs (λe=>by rw[e] at f;simp at f;omega) Om Om λi x E=> ?_;have U:=(List.getElem?_eq_some_iff.1 E).1;have M:cs[g+i]? = some (.int .u8 x.toNat):=by
      have h5:=congrArg (λl=>l[i]?) D;simp only[List.getElem?_take_of_lt (show i<m.toNat by omega),pI,ka,E,dC] at h5;exact h5
     obtain⟨v',N,O⟩:=g4 _ _ M;cases O;have Q:(⟨b.1,g+b.2,none⟩:cB).add i=⟨b.1,g+b.2+i,none⟩:=by
      simp only[Addr.add];split;·rename_i R;subst R;rfl
      rfl
     rw[Q];simp only[DR,g1];rw[show g+b.2+i=g+i+b.2 by omega];simpa using N
    cases d
   cases d
  cases d
 cases d
end
section
open Go Go.RowKit
variable {P:aX} {B:Nat}
inductive gB where
 | p (x:dY)
 | l (x:iK)
 | a (x:qC)
 | w (x:iW)
 | call (f:aS) (args:List av)
 | pg (g:av) (args:List av)
structure Item where
 dst:Option Nat
 op:gB
 guard:Option (Nat×Bool)
abbrev Fr:=Nat->ae
def aJ (fr:Fr):av->ae
 | .tmp t=>fr t
 | .const v=>v
 | .global g=> .pointer (some ⟨g,0,none⟩)
 | .func f=> .func (.func f) #[] #[]
def bO (fr:Fr):Option Nat->ae->Fr
 | none,_=>fr
 | some d,v=>λt=>if t=d then v else fr t
structure Hd where
 call:aS->List ae->CH->Option (ae×CH)
 round:Nat->List ae->CH->Option (ae×CH)
def kg:ae:= .chan none
def eA (h:Hd)(fr:Fr)(H:CH):gB->Option (ae×CH)
 | .p x=>(pop (aJ fr) x).map λv=>(v,H)
 | .l x=>(aD H (aJ fr) x).map λv=>(v,H)
 | .a x=>(cq (aJ fr) x).map λ(cs,e,k,mk)=>(db mk H.nx,H.new (.cells cs e k))
 | .w x=>bq H (aJ fr) x
 | .call f args=>h.call f (args.map (aJ fr)) H
 | .pg g args=>match aJ fr g with
   | .func (.func f) _ dF=>h.call f (args.map (aJ fr)++dF.toList) H
   | .func (.yield l) _ _=>h.round l (args.map (aJ fr)) H
   | _=>none
def eG(fr:Fr):Option (Nat×Bool)->Option Bool
 | none=>some true
 | some (s,b)=>match fr s with
   | .bool c=>some (c==b)
   | .chan none=>some false
   | _=>none
def cX(h:Hd)(it:Item)(fr:Fr)(H:CH):Option (Fr×CH):=
 match eG fr it.guard with
 | some true=>(eA h fr H it.op).map λ(v,H')=>(bO fr it.dst v,H')
 | some false=>some (bO fr it.dst kg,H)
 | none=>none
def FR (β:Nat->aA)(N:Nat)(fr:Fr)(a:Act):Prop:=N<=a.tmps.size/\∀t,VR β (fr t) (a.tmps.getD t undef)
theorem FR.mono{β β':Nat->aA}{N:Nat}{fr:Fr}{a:Act}(h:FR β N fr a)(hx:eS β β'):FR β' N fr a:=⟨h.1,λt=>(h.2 t).mono hx⟩
theorem FR.put{β:Nat->aA}{N:Nat}{fr:Fr}{a:Act}(h:FR β N fr a){d:Option Nat}(hd : ∀x,d=some x->x<N){v v':ae}(hv:VR β v v'):FR β N (bO fr d v) (a.put d v'):=by
 cases d with
 | none=>exact h
 | some x=>
   have hx:=hd x rfl;refine⟨by simpa[Act.put] using h.1,λt=> ?_⟩;simp only[bO,Act.put];by_cases e:t=x
   ·subst e;have:t<a.tmps.size:=cQ hx h.1;simp[this];exact hv
   simp only[iN e];have:=h.2 t;simpa[YR (show x≠t fromλg=>e g.symm)] using this
def Em:ae->Bool
 | .bool _ | .int _ _ | .float _ _ | .string _ | .pointer none | .slice none 0 0 | .nilFunc | .nilIface | .map none=>true
 | _=>false
def En:List ae->Bool:=λl=>l.all Em
def wk:ae->Bool
 | .agg cs=>En cs.toList
 | v=>Em v
theorem Z4{v:ae}(h:Em v=true)(β:Nat->aA):VR β v v:=by
 unfold Em at h;split at h<;>first | (constructor;done) | cases h
theorem G1{l:List ae}(h:En l=true)(β:Nat->aA):aT β l l:=
 ⟨rfl,λi v hv=>⟨v,hv,Z4 (List.all_eq_true.1 h v (fD hv)) β⟩⟩
theorem J2{v:ae}(h:wk v=true)(β:Nat->aA):VR β v v:=by
 unfold wk at h;split at h;·rename_i cs;exact .agg rfl (aT.arr.1 (G1 (l:=cs.toList) h β)).2
 exact Z4 h β
def Cq:av->Bool
 | .tmp _=>true
 | .const v=>wk v
 | .func _=>true
 | .global _=>false
theorem G2{β:Nat->aA}{N:Nat}{fr:Fr}{a:Act}(h:FR β N fr a){x:av}(hx:Cq x=true):VR β (aJ fr x) (a.eval x):=by
 cases x with
 | tmp t=>exact h.2 t
 | const v=>exact J2 hx β
 | func f=>exact .fn f rfl λi h1 h2=>absurd h1 Sm
 | global g=>cases hx
def pP(P:aX)(f:aS):Bool:=
 match P.funcs[f]? with
 | some fn=>fn.body.isSome && !(fn.name== "runtime.NumGoroutine")
 | none=>false
theorem J3{f:aS}(h:pP P f=true)(args:Array ae)(w:ay):(callFunc f args).run P w= .ok (.enter f args) w:=by
 unfold pP at h;split at h
 ·rename_i fn a;simp only[fV,zT] at h;have hb:fn.body.isNone=false:=by cases b:fn.body<;>simp_all
  have hn : ¬(fn.name= "runtime.NumGoroutine"):=by simpa using h.2
  unfold callFunc;simp only[cA,program,vS,cg,a];rw[iN (by simpa using hn),iN (by simp[hb])];rfl
 cases h
def Fn (ro:Option Nat):Fence:= { sB with round:=ro }
theorem Oz{ro:Option Nat}{n:Nat}{f:aS}{args:Array ae}{w:ay}{R:Ending->ay->Prop}(h:CallsIn sB 0 P f args w R):CallsIn (Fn ro) n P f args w R:=
 ⟨trivial,λcs _=>h.2 cs (room_wide _)⟩
theorem ahM{ro:Option Nat}{n:Nat}{l:Nat}{f:aS}{tmps:Array ae}{lg body:iR}{w:ay}{R:Ending->ay->Prop}(h:RoundIn sB 0 P l f tmps lg body w R):RoundIn (Fn ro) n P l f tmps lg body w R:=
 ⟨trivial,λc cs _=>h.2 c cs (room_wide _)⟩
def J4(args:List ae):Bool:=args.all wk
theorem ahN{args:List ae}(h:J4 args=true)(β:Nat->aA):aT β args args:=
 ⟨rfl,λi v hv=>⟨v,hv,J2 (List.all_eq_true.1 h v (fD hv)) β⟩⟩
theorem Z5{v v':ae}(h:Em v=true){β:Nat->aA}(a:VR β v v'):v'=v:=by
 unfold Em at h;split at h<;>first | (cases a;rfl) | cases h
theorem Z6{v v':ae}(h:wk v=true){β:Nat->aA}(a:VR β v v'):v'=v:=by
 unfold wk at h;split at h
 ·rename_i cs;cases a with
  | agg hs hi=>
    congr 1
    refine Array.ext (hs.symm) λi h1 h2=> ?_;exact Z5 (List.all_eq_true.1 h _ Sm) (hi i h2 h1)
 exact Z5 h a
theorem Tk{args a:List ae}(h:J4 args=true){β:Nat->aA}(b:aT β args a):a=args:=by
 refine List.ext_getElem b.1.symm λi h1 h2=> ?_;obtain⟨v',c,d⟩:=b.2 i args[i] (by simp[h2]);rw[cj h1] at c;cases c;exact Z6 (List.all_eq_true.1 h _ Sm) d
def Tm:ae->Bool
 | .func .. =>false
 | _=>true
theorem ahO{v:ae}(h:wk v=true):Tm v=true:=by
 cases v<;>first | rfl | simp[wk,Em] at h
def OA(P:aX)(f:aS)(args:List ae)(v:ae):Prop:=args.all Tm=true/\∀(β:Nat->aA) (a:List ae),aT β args a->∃v',VR β v v'/\∀w,(callFunc f a.toArray).run P w= .ok (.value v') w
theorem ahP{P:aX}{f:aS}{args:List ae}{v:ae}(ha:J4 args=true)(hv:wk v=true)(h : ∀w,(callFunc f args.toArray).run P w= .ok (.value v) w):OA P f args v:=⟨List.all_eq_true.2 λx hx=>ahO (List.all_eq_true.1 ha x hx),fun β b a=>
 ⟨v,J2 hv β,λw=>by rw[Tk ha a];exact h w⟩⟩
def HS (P:aX)(B:Nat)(h:Hd):Prop:=(∀f args H v H',h.call f args H=some (v,H')->(pP P f=true/\∀β w (a:List ae),aP P B β H w->aT β args a->
 CallsIn sB 0 P f a.toArray w λe w'=>∃v' β',e= .returned v'/\VR β' v v'/\aP P B β' H' w'/\cd β w β' w')\/(OA P f args v/\H'=H))/\
 ∀l args H v H',h.round l args H=some (v,H')->∀β w b (a:List ae),aP P B β H w->β l= .loop b->aT β args a->
 ∃fn tmps lg body,(Instr.yield b a.toArray).run P w= .ok (.round b fn tmps lg body) w/\RoundIn sB 0 P b fn tmps lg body w λe w'=>∃v' β',e= .returned v'/\VR β' v v'/\aP P B β' H' w'/\cd β w β' w'
inductive Ax(P:aX)(op:Op):gB->Prop where
 | p {x:dY} (h:jT P op x):Ax P op (.p x)
 | l {x:iK} (h:Am P op x):Ax P op (.l x)
 | a {x:qC} (h:JC P op x):Ax P op (.a x)
 | w {x:iW} (h:tJ P op x):Ax P op (.w x)
 | call {f:aS} {args:Array av} {ts:Array aI} (h:op= .call { callee:= .value (.func f),args,argTypes:=ts }):Ax P op (.call f args.toList)
 | pg {g:av} {args:Array av} {ts:Array aI} (h:op= .call { callee:= .value g,args,argTypes:=ts }):Ax P op (.pg g args.toList)
structure yF(P:aX)(N:Nat)(ops:Array dj)(o:dj)(it:Item):Prop where
 dst:it.dst=o.dst
 lt : ∀d,o.dst=some d->d<N
 op:Ax P o.op it.op
 bD : ∀x∈o.op.operands,Cq x=true
 nodefer : ∀c,o.op≠ .defer c
 guard:(o.guard=none/\it.guard=none)\/∃j b s,o.guard=some (j,b)/\it.guard=some (s,b)/\(ops[j]?).bind (·.dst)=some s/\s<N
theorem J5{β:Nat->aA}{N:Nat}{fr:Fr}{a:Act}{ops:Array dj}{o:dj}{it:Item}(g:yF P N ops o it)(e:FR β N fr a){b:Bool}(h:eG fr it.guard=some b):N1 o (yielded ops a.tmps)=b:=by
 rcases g.guard with ⟨g1,g2⟩ | ⟨j,c,s,g1,g2,g3,g4⟩
 ·rw[g2] at h;simp only[eG,Option.some.injEq] at h;simp[N1,g1,<-h]
 rw[g2] at h;have f:s<a.tmps.size:=cQ g4 e.1;have hv:=e.2 s;simp only[eG] at h;simp only[N1,g1,yielded,g3,Option.bind_some];rw[Array.getD_eq_getD_getElem?,sv f,tt] at hv;rw[sv f];split at h
 ·rename_i q d;rw[d] at hv;rw[hv.GH];simp only[Option.some.injEq] at h;rw[<-h];cases q<;>cases c<;>rfl
 ·rename_i d;rw[d] at hv;have:a.tmps[s]= .tuple #[]:=by generalize a.tmps[s]=q at hv;cases hv;rfl
  rw[this];simp only[Option.some.injEq] at h;rw[<-h];rfl
 cases h
theorem Tn{h:Hd}(hh:HS P B h){ro:Option Nat}{N:Nat}{ops:Array dj}{o:dj}{it:Item}(j:yF P N ops o it){β:Nat->aA}{fr fr':Fr}{H H':CH}{a:Act}{w:ay}(y:aP P B β H w)(s:FR β N fr a)
 (hw:eG fr it.guard=some true) (F:(eA h fr H it.op).map (λ(x:ae×CH)=>(bO fr it.dst x.1,x.2))=some (fr',H')) {K:Act->ay->Prop} {Q:Exit->Act->ay->Prop}
 (z : ∀β' w' v',aP P B β' H' w'->cd β w β' w'->FR β' N fr' (a.put o.dst v')->K (a.put o.dst v') w'):o.wpIn (Fn ro) 0 P a w K Q:=by
 refine⟨λf _=>trivial,?_⟩;rw[show(Fn ro).round=ro from rfl,Oper.semAt_eq ro _ _ j.nodefer];cases d:eA h fr H it.op with
 | none=>rw[d] at F;cases F
 | some r=>
   obtain⟨v,H1⟩:=r;rw[d] at F;simp only[dC,Option.some.injEq,Prod.mk.injEq] at F;obtain⟨rfl,rfl⟩:=F;have hv : ∀x∈o.op.operands,VR β (aJ fr x) (a.eval x):=λx hx=>G2 s (j.bD x hx);have hd : ∀x,it.dst=some x->x<N:=λx hx=>j.lt x (by rw[<-j.dst];exact hx);have hrel : ∀args:List av,(∀x∈args,VR β (aJ fr x) (a.eval x))->aT β (args.map (aJ fr)) (args.map a.eval):=by
    intro args C;refine⟨Sm,λi u hu=> ?_⟩;rw[ka] at hu⊢
    cases hx:args[i]? with
    | none=>rw[hx] at hu;cases hu
    | some x=>rw[hx] at hu;cases hu;exact⟨_,rfl,C x (fD hx)⟩
   have T:=j.op;generalize OB:it.op=io at T d;cases T with
   | p hp=>
     rename_i x;simp only[eA] at d;cases t:pop (aJ fr) x with
     | none=>rw[t] at d;cases d
     | some u=>
       rw[t] at d;cases d;obtain⟨v',m,J⟩:=hp β _ _ o v rfl hv t;rw[m w];exact z β w _ y (cd.refl β w) (by rw[<-j.dst];exact s.put hd J)
   | l hl=>
     rename_i x;simp only[eA] at d;cases t:aD H (aJ fr) x with
     | none=>rw[t] at d;cases d
     | some u=>
       rw[t] at d;cases d;obtain⟨v',m,J⟩:=hl B β H w _ _ o v rfl hv y t;rw[m];exact z β w _ y (cd.refl β w) (by rw[<-j.dst];exact s.put hd J)
   | a ha=>
     rename_i x;simp only[eA] at d;cases t:cq (aJ fr) x with
     | none=>rw[t] at d;cases d
     | some u=>
       obtain⟨cs,e,k,mk⟩:=u;rw[t] at d;cases d;obtain⟨hk,sz,G,m⟩:=ha β _ _ o cs e k mk rfl hv t;obtain⟨cs',iX,w',v',h1,h2,h3,h4,h5,X,Y,Z,h9,L⟩:=m w;obtain⟨kF,U⟩:=y.alloc k hk G X Y Z h9 h2 h3 h4 h5;rw[h1];refine z _ w' _ kF U ?_;rw[<-j.dst];refine(s.mono U.ext).put hd ?_;cases mk with
       | ptr=>simp only[On] at L;subst L;exact .ptr eE
       | sl n c=>
         obtain⟨c',rfl,q1,q2,q3,q4,q5⟩:=L;exact .sl eE q1 q2 q3 (λ_=>by simpa using q4) q5
   | w J7=>
     rename_i x;obtain⟨β',w',v',n,h1,h2,h3,h4,h5⟩:=J7 B β H w _ _ o v _ rfl hv y d;rw[h1];rcases h2 with rfl | ⟨rfl,rfl⟩
     ·exact z β' w' _ h4 h5 (by rw[<-j.dst];exact(s.mono h5.ext).put hd h3)
     exact z β' w' _ h4 h5 (by rw[<-j.dst];exact(s.mono h5.ext).put hd h3)
   | call he=>
     rename_i f args ts;simp only[eA] at d;have C:aT β (args.toList.map (aJ fr)) (args.toList.map a.eval):=hrel _ λx hx=>hv x (by rw[he];simp[sq,Je];exact .inr (by simpa using hx));rcases hh.1 _ _ _ _ _ d with ⟨hc,M⟩ | ⟨hx,rfl⟩
     case inr=>
      obtain⟨v',O,R⟩:=hx.2 β _ C;have m:(execOp a.eval o).run P w= .ok (.value v') w:=by
       simp only[execOp,he,resolve,Act.eval,Jl,cA,cR,cg,invoke];have:=R w;have D:(args.toList.map a.eval).toArray=args.map a.eval:=by apply tv;simp
       rw[D] at this;simpa using this
      rw[m];exact z β w _ y (cd.refl β w) (by rw[<-j.dst];exact s.put hd O)
     have m:(execOp a.eval o).run P w= .ok (.enter f (args.map a.eval)) w:=by
      simp only[execOp,he,resolve,Act.eval,Jl,cA,cR,cg,invoke];rw[J3 hc];simp
     rw[m];refine⟨λh=>absurd h (by simp[Fn,sB]),Oz ?_⟩;have:=M β w _ y C;have D:(args.toList.map a.eval).toArray=args.map a.eval:=by apply tv;simp
     rw[D] at this;refine this.mono ?_;rintro e w' ⟨v',β',rfl,g1,g2,g3⟩;exact z β' w' _ g2 g3 (by rw[<-j.dst];exact(s.mono g3.ext).put hd g1)
   | pg he=>
     rename_i g args ts;simp only[eA] at d;split at d
     ·rename_i f S dF hg;have E:=hv g (by rw[he];simp[sq,Je]);rw[hg] at E;obtain⟨A,I,G,V⟩ : ∃A,a.eval g= .func (.func f) #[] A/\dF.size=A.size/\∀i (h1:i<dF.size) (h2:i<A.size),VR β dF[i] A[i]:=by
       generalize a.eval g=q at E;cases E with
       | fn _ h hi=>exact⟨_,rfl,h,hi⟩
      have C:aT β (args.toList.map (aJ fr)) (args.toList.map a.eval):=hrel _ λx hx=>hv x (by rw[he];simp[sq,Je];exact .inr (by simpa using hx));rcases hh.1 _ _ _ _ _ d with ⟨hc,M⟩ | ⟨hx,rfl⟩
      case inr=>
       obtain⟨v',O,R⟩:=hx.2 β _ (C.append (aT.arr.2 ⟨G,V⟩));have m:(execOp a.eval o).run P w= .ok (.value v') w:=by
        simp only[execOp,he,resolve,I,Jl,cA,cR,cg,invoke];have:=R w;have D:(args.toList.map a.eval++A.toList).toArray=args.map a.eval++A:=by apply tv;simp
        rw[D] at this;simpa using this
       rw[m];exact z β w _ y (cd.refl β w) (by rw[<-j.dst];exact s.put hd O)
      have m:(execOp a.eval o).run P w= .ok (.enter f (args.map a.eval++A)) w:=by
       simp only[execOp,he,resolve,I,Jl,cA,cR,cg,invoke];rw[J3 hc];simp
      rw[m];refine⟨λh=>absurd h (by simp[Fn,sB]),Oz ?_⟩;have:=M β w _ y (C.append (aT.arr.2 ⟨G,V⟩));have D:(args.toList.map a.eval++A.toList).toArray=args.map a.eval++A:=by apply tv;simp
      rw[D] at this;refine this.mono ?_;rintro e w' ⟨v',β',rfl,g1,g2,g3⟩;exact z β' w' _ g2 g3 (by rw[<-j.dst];exact(s.mono g3.ext).put hd g1)
     ·rename_i l S dF hg;have E:=hv g (by rw[he];simp[sq,Je]);rw[hg] at E;obtain⟨b,I,Ej⟩ : ∃b,a.eval g= .func (.yield b) #[] #[]/\β l= .loop b:=by
       generalize a.eval g=q at E;cases E with
       | GB h=>exact⟨_,rfl,h⟩
      have C:aT β (args.toList.map (aJ fr)) (args.toList.map a.eval):=hrel _ λx hx=>hv x (by rw[he];simp[sq,Je];exact .inr (by simpa using hx));obtain⟨fn,tmps,lg,body,W,jw⟩:=hh.2 _ _ _ _ _ d β w b _ y Ej C;have D:(args.toList.map a.eval).toArray=args.map a.eval:=by apply tv;simp
      rw[D] at W;have m:(execOp a.eval o).run P w= .ok (.round b fn tmps lg body) w:=by
       simp only[execOp,he,resolve,I,Jl,cA,cR,cg,invoke,Array.empty_append];exact W
      rw[m];refine⟨λh=>absurd h (by simp[Fn,sB]),ahM ?_⟩;refine jw.mono ?_;rintro e w' ⟨v',β',rfl,g1,g2,g3⟩;exact z β' w' _ g2 g3 (by rw[<-j.dst];exact(s.mono g3.ext).put hd g1)
     cases d
end
section
open Go Go.RowKit
variable {P:aX} {B:Nat}
def dP (h:Hd):List Item->Fr->CH->Option (Fr×CH)
 | [],fr,H=>some (fr,H)
 | it::r,fr,H=>match cX h it fr H with
   | some (fr',H')=>dP h r fr' H'
   | none=>none
structure jB where
 af:List Item
 nB:List (Item×Nat)
 yG:Option (List Item)
inductive bQ where
 | skip
 | mI (af:List Item)
 | mJ (d:jB)
 | seq (a b:bQ)
 | cond (c:av) (a b:bQ)
 | block (id:Nat) (c:bQ)
 | loop (c:bQ)
 | exit (id:Nat)
 | ret
 | sN (g:av) (key:Nat×Nat)
 | bad
inductive bp where
 | normal
 | exit (id:Nat)
 | ret
def bp.OD:bp->Exit
 | .normal=> .normal
 | .exit i=> .exit i
 | .ret=> .ret
abbrev G3:=Option (bp×Fr×CH)
def pQ:Nat->(Fr->CH->G3)->Fr->CH->G3
 | 0,_,_,_=>none
 | n+1,f,fr,H=>match f fr H with
   | some (.normal,fr',H')=>pQ n f fr' H'
   | r=>r
def bT:gB->Bool
 | .w _ | .call _ _ | .pg _ _=>true
 | _=>false
def cH (h:Hd):List Item->Fr->CH->Option (Fr×CH×List CH)
 | [],fr,H=>some (fr,H,[])
 | it::r,fr,H=>match cX h it fr H with
   | some (fr',H')=>(cH h r fr' H').map λ(f,K,l)=>(f,K,if bT it.op then H'::l else l)
   | none=>none
def wq(fr:Fr)(G:CH)(it:Item):Prop:=
 eG fr it.guard=some false\/∃x d,it.op= .l x/\it.dst=some d/\aD G (aJ fr) x=some (fr d)
def OE:Option (Option Nat)->bp
 | none=> .normal
 | some none=> .ret
 | some (some i)=> .exit i
open Classical in
noncomputable def uP(h:Hd)(d:jB)(fr:Fr)(H:CH):Option (Fr×CH):=
 match cH h d.af fr H with
 | some (fr',H',l)=>if ∀p∈d.nB,∃G,(H::l)[p.2]? = some G/\wq fr' G p.1 then some (fr',H') else none
 | none=>none
noncomputable def bE(h:Hd)(n:Nat):bQ->Fr->CH->G3
 | .skip,fr,H=>some (.normal,fr,H)
 | .mI af,fr,H=>(dP h af fr H).map λ(f,K)=>(.normal,f,K)
 | .mJ d,fr,H=>(uP h d fr H).map λ(f,K)=>(.normal,f,K)
 | .seq a b,fr,H=>match bE h n a fr H with
   | some (.normal,fr',H')=>bE h n b fr' H'
   | r=>r
 | .cond c a b,fr,H=>match aJ fr c with
   | .bool true=>bE h n a fr H
   | .bool false=>bE h n b fr H
   | _=>none
 | .block id c,fr,H=>match bE h n c fr H with
   | some (.exit i,fr',H')=>if i=id then some (.normal,fr',H') else some (.exit i,fr',H')
   | r=>r
 | .loop c,fr,H=>pQ n (bE h n c) fr H
 | .exit id,fr,H=>some (.exit id,fr,H)
 | .ret,fr,H=>some (.ret,fr,H)
 | .bad,_,_=>none
 | .sN g key,fr,H=>match aJ fr g with
   | .func (.func f) _ dF=>match h.call f (.func (.yield H.nx) #[] #[]::dF.toList) (H.new (.loop .ready none fr key)) with
     | some (_,e)=>match e.ob H.nx with
       | .loop st gv fr' j=>if st= .busy then none else some (OE gv,fr,e.set H.nx (.loop .exhausted gv fr' j))
       | _=>none
     | none=>none
   | _=>none
def Eo (P:aX)(N:Nat)(ops:Array dj)(d:jB):Prop:=
 ∀(B:Nat) (h:Hd) (ro:Option Nat) (β:Nat->aA) (fr fr':Fr) (H H':CH) (a:Act) (w:ay) (id:Nat) (Q:Exit->Act->ay->Prop),HS P B h->aP P B β H w->FR β N fr a->uP h d fr H=some (fr',H')->
  (∀β' w' b,aP P B β' H' w'->cd β w β' w'->FR β' N fr' b->b.defers=a.defers->Q .normal b w')->(Code.region id ops true).wpIn (Fn ro) 0 P Q a w
def qD:gB->Bool
 | .p _ | .l _=>true
 | _=>false
def mK (it:Item):Item:=match it.op with
 | .a (.new _ _)=>⟨it.dst, .p (.vX (.const undef)),it.guard⟩
 | _=>it
def Z7 (P:aX)(B:Nat)(f:aS)(args:List ae)(H:CH)(v:ae)(H':CH):Prop:=pP P f=true/\∀β w (a:List ae),aP P B β H w->aT β args a->
 CallsIn sB 0 P f a.toArray w λe w'=>∃v' β',e= .panicked [{ v:=v',recovered:=false }]/\VR β' v v'/\aP P B β' H' w'/\cd β w β' w'
def Er (P:aX)(N:Nat)(ops:Array dj)(d:jB):Prop:=
 ∀Zl,d.yG=some Zl->∀(B:Nat) (h:Hd) (ro:Option Nat) (β:Nat->aA) (fr am:Fr) (H H1 H':CH) (v:ae) (A:List Item) (k:Item) (R:List Item) (f:aS) (args:List av) (a:Act) (w:ay) (id:Nat) (Q:Exit->Act->ay->Prop),
  HS P B h->aP P B β H w->FR β N fr a->d.af=A++k::R->(∀x∈A,qD x.op=true)->k.op= .call f args->dP h A fr H=some (am,H1)->(∃r,dP h Zl am H1=some r)->eG am k.guard=some true->Z7 P B f (args.map (aJ am)) H1 v H'->
  (∀β' w' b v',aP P B β' H' w'->cd β w β' w'->VR β' v v'->b.defers=a.defers->(∀t,(∀x∈d.af,x.dst≠some t)->VR β' (fr t) (b.tmps.getD t undef))->Q (.panic [{ v:=v',recovered:=false }]) b w')->(Code.region id ops true).wpIn (Fn ro) 0 P Q a w
inductive lh(P:aX)(N:Nat):iR->bQ->Prop where
 | skip:lh P N .skip .skip
 | label {l:Nat}:lh P N (.label l) .skip
 | mI {id:Nat} {ops:Array dj} {af:List Item} (hl:af.length=ops.size) (h : ∀i (h1:i<af.length) (h2:i<ops.size),yF P N ops ops[i] af[i]):lh P N (.region id ops false) (.mI af)
 | mJ {id:Nat} {ops:Array dj} {d:jB} (h:Eo P N ops d/\Er P N ops d):lh P N (.region id ops true) (.mJ d)
 | seq {a b:iR} {ra rb:bQ} (ha:lh P N a ra) (hb:lh P N b rb):lh P N (.seq a b) (.seq ra rb)
 | cond {c:av} {a b:iR} {ra rb:bQ} (hc:Cq c=true) (ha:lh P N a ra) (hb:lh P N b rb):lh P N (.cond c a b) (.cond c ra rb)
 | block {id:Nat} {c:iR} {rc:bQ} (h:lh P N c rc):lh P N (.block id c) (.block id rc)
 | loop {c:iR} {rc:bQ} (h:lh P N c rc):lh P N (.loop c) (.loop rc)
 | exit {id:Nat}:lh P N (.exit id) (.exit id)
 | ret:lh P N .ret .ret
 | bad {c:iR}:lh P N c .bad
 | scope {c:iR} {rc:bQ} (h:lh P N c rc):lh P N (.scope c) rc
 | sN {g:av} {ps:Array Tmp} {ca cb:iR} {key:Nat×Nat} (hg:Cq g=true) (hk:keyOf P key=some (N,ps,ca,cb)):lh P N (.rangeFunc g ps ca cb) (.sN g key)
def Z8 (D:Nat):zW:= { target:= .collected D,args:= #[] }
def DM (D0:List zW)(B1:Nat)(β:Nat->aA)(w:ay)(a:Act):Prop:=
 ∃ms:List Nat,a.defers=ms.map Z8++D0/\ms.Nodup/\∀D∈ms,B1<=D/\w.heap[D]? = some (.deferred (some []))/\Out β D
theorem DM.ou{D0:List zW}{B1:Nat}{β β':Nat->aA}{w w':ay}{a a':Act}(h:DM D0 B1 β w a)(e:cd β w β' w')(hd:a'.defers=a.defers):DM D0 B1 β' w' a':=by
 obtain⟨ms,h1,h2,h3⟩:=h;refine⟨ms,hd.trans h1,h2,λD b=> ?_⟩;obtain⟨g1,g2,g3⟩:=h3 D b;obtain⟨c,d⟩:=e.dk D (Array.getElem?_eq_some_iff.1 g2).1 g3;exact⟨g1,c.trans g2,d⟩
theorem DM.none{D0:List zW}{B1:Nat}{β:Nat->aA}{w:ay}{a:Act}(h:a.defers=D0):DM D0 B1 β w a:=⟨[],h,List.nodup_nil,λD b=>by cases b⟩
def J8 (β:Nat->aA)(ro:Option Nat):Prop:=∀b,ro=some b->∃l,β l= .loop b
theorem J8.ou{β β':Nat->aA}{ro:Option Nat}(h:J8 β ro)(e:eS β β'):J8 β' ro:=λb hb=>by
 obtain⟨l,hl⟩:=h b hb;rcases e l with g | g | ⟨_,_,_,_,g,_⟩
 ·exact⟨l,g.trans hl⟩
 ·rw[hl] at g;cases g
 rw[hl] at g;cases g
theorem aP.loop{β:Nat->aA}{H:CH}{w:ay}(h:aP P B β H w){l b:Nat}(hl:β l= .loop b) : ∃st gv fr key,H.ob l= .loop st gv fr key/\B<=b/\Jt P β w b st gv fr key:=by
 have h1:=h.iV l;rw[hl] at h1;cases ho:H.ob l with
 | loop st gv fr key=>rw[ho] at h1;exact⟨_,_,_,_,rfl,h1.1,h1.2⟩
 | _=>rw[ho] at h1;exact h1.elim
theorem aP.ahQ{β:Nat->aA}{H:CH}{w:ay}(h:aP P B β H w)(o:Obj):aP P B β H (w.alloc o)/\cd β w β (w.alloc o):=by
 have a : ∀b,b<w.heap.size->(w.alloc o).heap[b]? = w.heap[b]? :=λb hb=>by
  show(w.heap.push o)[b]? = _;rw[Ge,iN Om]
 exact⟨⟨λl=>(h.iV l).mono (eS.refl β) λb hb=>a b (Ck h hb),h.nx,h.inj,by simpa using xc h.base,h.ro⟩,⟨rfl,rfl,rfl,Sm,λb hb ho=>⟨a b hb,ho⟩,eS.refl β⟩⟩
theorem aP.Z9{β:Nat->aA}{H:CH}{w:ay}(h:aP P B β H w){r:Loop}{N:Nat}{fr:Nat->ae}{key:Nat×Nat}(h1:r.state= .ready)(h2:r.pending=none)(h3:keyOf P key=some (N,r.params,r.assign,r.body))(h4:N<=r.tmps.size)(h5 : ∀t,VR β (fr t) (r.tmps.getD t undef)) :
 aP P B (dE β H.nx (.loop w.heap.size)) (H.new (.loop .ready none fr key)) (w.alloc (.loop r))/\cd β w (dE β H.nx (.loop w.heap.size)) (w.alloc (.loop r)):=by
 have j:=h.od;have g:eS β (dE β H.nx (.loop w.heap.size)):=λl=>by
  by_cases hl:l=H.nx
  ·subst hl;exact .inr (.inl j)
  exact .inl (dT hl)
 have a : ∀b,b<w.heap.size->(w.alloc (.loop r)).heap[b]? = w.heap[b]? :=λb hb=>by
  show(w.heap.push _)[b]? = _;rw[Ge,iN Om]
 have k:=World.alloc_heap_new w (.loop r);refine⟨⟨λl=> ?_,λl hl=> ?_,λl l' b ho d=> ?_,by simpa using xc h.base,h.ro.dE λ_ _ _ e=>(by cases e)⟩,⟨rfl,rfl,rfl,Sm,λb hb m=>⟨a b hb,λl ho=> ?_⟩,g⟩⟩
 ·by_cases i:l=H.nx
  ·subst i;simp only[eE,CH.new,iT];exact⟨h.base,r,N,k,h1,by rw[h2];rfl,h3,h4,λt=>(h5 t).mono g⟩
  simp only[dT i,CH.new,iN i];exact(h.iV l).mono g λb hb=>a b (Ck h hb)
 ·have:l≠H.nx:=by simp[CH.new] at hl;omega
  simp only[CH.new,iN this];exact h.nx l (by simp[CH.new] at hl;omega)
 ·by_cases c:l=H.nx<;>by_cases f:l'=H.nx
  ·rw[c,f]
  ·subst c;rw[eE] at ho;rw[dT f] at d;have:=(tE h d).2;have:w.heap.size=b:=ho;omega
  ·subst f;rw[eE] at d;rw[dT c] at ho;have:=(tE h ho).2;have:w.heap.size=b:=d;omega
  rw[dT c] at ho;rw[dT f] at d;exact h.inj _ _ b ho d
 by_cases c:l=H.nx
 ·subst c;rw[eE] at ho;have:w.heap.size=b:=ho;omega
 rw[dT c] at ho;exact m l ho
theorem aP.To{β:Nat->aA}{H:CH}{w:ay}(h:aP P B β H w){l b:Nat}(hl:β l= .loop b){st:LoopState}{gv:Option (Option Nat)}{fr:Nat->ae}{key:Nat×Nat}{r:Loop}{N:Nat}(h1:r.state=st)(h2:r.pending=gv.map SH)(h3:keyOf P key=some (N,r.params,r.assign,r.body))
 (h4:N<=r.tmps.size) (h5 : ∀t,VR β (fr t) (r.tmps.getD t undef)):aP P B β (H.set l (.loop st gv fr key)) (w.putObj b (.loop r))/\cd β w β (w.putObj b (.loop r)):=by
 have j:=Zb h hl;have m:B<=b:=(tE h (l:=l) (b:=b) (by rw[hl];rfl)).1;have f : ∀k,k≠b->(w.putObj b (.loop r)).heap[k]? = w.heap[k]? :=λk hk=>Ss hk;refine⟨⟨λl'=> ?_,λl' g=> ?_,h.inj,by simpa using h.base,h.ro⟩,⟨rfl,rfl,rfl,Sm,λk hk i=>⟨f k ?_,i⟩,eS.refl β⟩⟩
 ·by_cases e:l'=l
  ·subst e;simp only[CH.set,iT,hl];exact⟨m,r,N,World.putObj_heap_same j,h1,h2,h3,h4,h5⟩
  simp only[CH.set,iN e];refine(h.iV l').mono (eS.refl β) λk hk=>f k ?_;rintro rfl;obtain⟨_,_,_,_,_,_,q⟩:=h.loop hl;obtain⟨o,_,d,_⟩:=q;rcases hk with ⟨z,sz,n,kd,hk⟩ | hk | hk
  ·obtain⟨cs,e,_,cs',e',iX,a,_⟩:=h.live hk;rw[d] at a;cases a
  ·have:=h.iV l';rw[hk] at this;cases ho:H.ob l' with
   | map es c=>rw[ho] at this;obtain⟨_,s,a,_⟩:=this;rw[d] at a;cases a
   | xj u v=>rw[ho] at this;have a:=this.2;rw[d] at a;cases a
   | fm x kk=>rw[ho] at this;obtain⟨_,_,_,a,_⟩:=this;rw[d] at a;cases a
   | Ag y=>rw[ho] at this;obtain⟨_,_,_,_,_,_,a⟩:=this;rw[d] at a;cases a
   | _=>rw[ho] at this;exact this.elim
  exact e (h.inj _ _ k (by rw[hk];rfl) (by rw[hl];rfl))
 ·have:l'≠l:=λe=>by
   subst e;obtain⟨_,_,_,_,ho,_⟩:=h.loop hl;rw[h.nx _ g] at ho;cases ho
  simp only[CH.set,iN this];exact h.nx _ g
 rintro rfl;exact i l (by rw[hl];rfl)
theorem ahR{g:av}{a:Act}{f:aS}{dF:Array ae}(hg:a.eval g= .func (.func f) #[] dF)(hc:pP P f=true)(l:Nat)(w:ay) :
 (resolve a.eval (rangeCall g l) 0).run P w= .ok { target:= .fn (.func f) dF,args:= #[.func (.yield l) #[] #[]] } w/\
 (invoke (.fn (.func f) dF) #[.func (.yield l) #[] #[]]).run P w= .ok (.enter f (#[.func (.yield l) #[] #[]]++dF)) w:=by
 refine⟨?_,?_⟩;·simp only[resolve,rangeCall,hg,Jl,Gi,c8,iw,Array.empty_append];rfl
 simp only[invoke];exact J3 hc _ _
theorem Z'{h:Hd}(hh:HS P B h){ro:Option Nat}{N:Nat}{ops:Array dj}{Q:Exit->Act->ay->Prop} : ∀(l:List Nat) (af:List Item) (β:Nat->aA) (fr fr':Fr) (H H':CH) (a:Act) (w:ay),
 af.length=l.length->(∀k (h1:k<af.length) (h2:k<l.length),∃o,ops[l[k]]? = some o/\yF P N ops o af[k])->aP P B β H w->FR β N fr a->dP h af fr H=some (fr',H')->
 (∀β' w' a',aP P B β' H' w'->cd β w β' w'->FR β' N fr' a'->a'.defers=a.defers->Q .normal a' w')->wpOpsIn (Fn ro) 0 P ops Q l a w
 | [],af,β,fr,fr',H,H',a,w,hl,_,j,f,c,m=>by
   have:af= []:=List.length_eq_zero_iff.1 (by simpa using hl);subst this;simp only[dP,Option.some.injEq,Prod.mk.injEq] at c;obtain⟨rfl,rfl⟩:=c;exact m β w a j (cd.refl β w) f rfl
 | i::l,af,β,fr,fr',H,H',a,w,hl,v,j,f,c,m=>by
   match af,hl with
   | [],hl=>simp at hl
   | it::af,hl=>
     obtain⟨o,ho,hit⟩:=v 0 Sm Sm;simp only[af1] at ho hit;have y : ∀(β1:Nat->aA) (am:Fr) (H1:CH) (g:Act) (d:ay),aP P B β1 H1 d->cd β w β1 d->FR β1 N am g->g.defers=a.defers->dP h af am H1=some (fr',H')->wpOpsIn (Fn ro) 0 P ops Q l g d:=by
      intro β1 am H1 g d n q z A C;refine Z' hh l af β1 am fr' H1 H' g d (by simpa using hl) (λk h1 h2=> ?_) n z C fun β' w' a' s t u D=>m β' w' a' s (q.trans t) u (D.trans A);have:=v (k+1) (by simpa using h1) (by simpa using h2);simpa using this
     simp only[dP] at c;simp only[wpOpsIn,ho];cases e:cX h it fr H with
     | none=>rw[e] at c;cases c
     | some r=>
       obtain⟨am,H1⟩:=r;rw[e] at c;simp only at c;cases hw:eG fr it.guard with
       | none=>simp[cX,hw] at e
       | some b=>
         rw[J5 hit f hw];cases b with
         | true=>
           simp only[iT];simp only[cX,hw] at e;exact Tn hh hit j f hw e fun β1 d E s t u=>y β1 am H1 _ d s t u (by cases o.dst<;>rfl) c
         | false=>
           simp only[je,iF];simp only[cX,hw,Option.some.injEq,Prod.mk.injEq] at e;obtain⟨rfl,rfl⟩:=e;refine⟨λ_ _=>trivial,y β _ _ _ w j (cd.refl β w) ?_ (by cases o.dst<;>rfl) c⟩;rw[<-hit.dst];exact f.put (λx hx=>hit.lt x (by rw[<-hit.dst];exact hx)) .skip
theorem J9{p:Nat->Prop}(h : ∃n,p n) : ∃n,p n/\∀m,p m->n<=m:=by
 obtain⟨n,hn⟩:=h;induction n using Nat.strongRecOn with
 | _ n a=>
   by_cases g : ∃m,m<n/\p m
   ·obtain⟨m,h1,h2⟩:=g;exact a m h1 h2
   refine⟨n,hn,λm b=> ?_⟩;by_cases c:m<n
   ·exact absurd ⟨m,c,b⟩ g
   omega
noncomputable def OH{p:Nat->Prop}(h : ∃n,p n):Nat:=Classical.choose (J9 h)
theorem ahS{p:Nat->Prop}(h : ∃n,p n):p (OH h):=(Classical.choose_spec (J9 h)).1
theorem ahT{p:Nat->Prop}(h : ∃n,p n){m:Nat}(a:p m):OH h<=m:=(Classical.choose_spec (J9 h)).2 m a
theorem G4{b:Frame}{a:Act}{k:List Go.Item}{cs:List Frame}{w:ay}{c:iR}:step P (lone (b.atR a (.code (.scope c)::k)) cs w)= .next (lone (b.atR a (.code c:: .inScope c::k)) cs w):=
 step_lone_go (by simp[stepG,stepG.exec,Frame.atR])
theorem ahU{b:Frame}{a:Act}{k:List Go.Item}{cs:List Frame}{w:ay}{c:iR}:step P (lone (b.atR a (.inScope c::k)) cs w)= .next (lone (b.atR a k) cs w):=
 step_lone_go (by simp[stepG,stepG.exec,Frame.atR])
theorem ahV{F:Fence}{n:Nat}{c:iR}{Q:Exit->Act->ay->Prop}{a:Act}{w:ay}(h:c.wpIn F n P (λe a w=>(∀l,e≠ .goto l)/\Q e a w) a w):(Code.scope c).wpIn F n P Q a w:=by
 intro b k cs p hb m;have d:(lone (b.atR a (.code (.scope c)::k)) cs w).fenced P F:=fenced_calm hb m rfl;obtain⟨e,g,i,⟨o,j⟩,f⟩:=h b (.inScope c::k) cs p hb m;cases e with
 | normal=>exact⟨.normal,g,i,j, .head d G4 (StepsIn.trans f (.one (fenced_calm hb m rfl) ahU))⟩
 | exit id=>
   have hx:exitTo id (.inScope c::k)=exitTo id k:=by simp[exitTo]
   exact⟨.exit id,g,i,j,λk' hk=> .head d G4 (f.1 k' (by rw[hx];exact hk)),
    λq hk=>let ⟨r,h1,h2⟩:=f.2 q (by rw[hx];exact hk);⟨r,h1, .head d G4 h2⟩⟩
 | goto l=>exact absurd rfl (o l)
 | ret=>exact⟨_,g,i,j, .of_steps (.one d G4) f⟩
 | panic s=>exact⟨_,g,i,j, .of_steps (.one d G4) f⟩
 | outgrown=>exact⟨_,g,i,j, .of_steps (.one d G4) f⟩
theorem Tp{h:Hd}(hh:HS P B h){n:Nat}{ro:Option Nat}{N B1:Nat}{D0:List zW}{c:iR}{r:bQ}(bX:lh P N c r) : ∀(β:Nat->aA) (fr fr':Fr) (H H':CH) (a:Act) (w:ay) (x:bp) (Q:Exit->Act->ay->Prop),
 aP P B β H w->FR β N fr a->J8 β ro->DM D0 B1 β w a->B1<=w.heap.size->bE h n r fr H=some (x,fr',H')->
 (∀β' w' a',aP P B β' H' w'->cd β w β' w'->FR β' N fr' a'->DM D0 B1 β' w' a'->Q x.OD a' w')->c.wpIn (Fn ro) 0 P Q a w:=by
 induction bX with
 | bad=>
   intro β fr fr' H H' a w x Q t o y u z b s;simp[bE] at b
 | scope hc O=>
   intro β fr fr' H H' a w x Q t o y u z b s;exact ahV (O β fr fr' H H' a w x _ t o y u z b fun β' w' a' C v E F=>⟨λl e=>(by cases x<;>cases e),s β' w' a' C v E F⟩)
 | skip=>
   intro β fr fr' H H' a w x Q t o y u z b s;simp only[bE,Option.some.injEq,Prod.mk.injEq] at b;obtain⟨rfl,rfl,rfl⟩:=b;exact wpIn_skip (s β w a t (cd.refl β w) o u)
 | label=>
   intro β fr fr' H H' a w x Q t o y u z b s;simp only[bE,Option.some.injEq,Prod.mk.injEq] at b;obtain⟨rfl,rfl,rfl⟩:=b;exact wpIn_label (s β w a t (cd.refl β w) o u)
 | exit=>
   intro β fr fr' H H' a w x Q t o y u z b s;simp only[bE,Option.some.injEq,Prod.mk.injEq] at b;obtain⟨rfl,rfl,rfl⟩:=b;exact wpIn_exit (s β w a t (cd.refl β w) o u)
 | ret=>
   intro β fr fr' H H' a w x Q t o y u z b s;simp only[bE,Option.some.injEq,Prod.mk.injEq] at b;obtain⟨rfl,rfl,rfl⟩:=b;exact wpIn_ret (s β w a t (cd.refl β w) o u)
 | @mI id ops af hl hi=>
   intro β fr fr' H H' a w x Q t o y u z b s;simp only[bE] at b;cases A:dP h af fr H with
   | none=>rw[A] at b;cases b
   | some q=>
     obtain⟨am,H1⟩:=q;rw[A] at b;simp only[dC,Option.some.injEq,Prod.mk.injEq] at b;obtain⟨rfl,rfl,rfl⟩:=b;refine wpIn_region (Z' hh _ af β fr _ H _ a w (by simpa using hl) (λk h1 h2=> ?_) t o A fun β' w' a' C v E F=>s β' w' a' C v E (u.ou v F));have hk:k<ops.size:=by omega
     exact⟨ops[k],by simp[hk],hi k h1 hk⟩
 | @mJ id ops d hd=>
   intro β fr fr' H H' a w x Q t o y u z b s;simp only[bE] at b;cases A:uP h d fr H with
   | none=>rw[A] at b;cases b
   | some q=>
     obtain⟨am,H1⟩:=q;rw[A] at b;simp only[dC,Option.some.injEq,Prod.mk.injEq] at b;obtain⟨rfl,rfl,rfl⟩:=b;exact hd.1 B h ro β fr _ H _ a w id Q hh t o A fun β' w' a' C v E F=>s β' w' a' C v E (u.ou v F)
 | @seq ca cb ra rb ha hb W X=>
   intro β fr fr' H H' a w x Q t o y u z b s;simp only[bE] at b;cases A:bE h n ra fr H with
   | none=>rw[A] at b;cases b
   | some q=>
     obtain⟨G,am,H1⟩:=q;rw[A] at b;refine wpIn_seq (W β fr am H H1 a w G _ t o y u z A fun β' w' a' C v E F=> ?_);cases G with
     | normal=>exact X β' am fr' H1 H' a' w' x Q C E (y.ou v.ext) F (cy z v.size) b fun β2 w2 a2 Y Z T p4=>s β2 w2 a2 Y (v.trans Z) T p4
     | exit i=>
       simp only[Option.some.injEq,Prod.mk.injEq] at b;obtain⟨rfl,rfl,rfl⟩:=b;exact s β' w' a' C v E F
     | ret=>
       simp only[Option.some.injEq,Prod.mk.injEq] at b;obtain⟨rfl,rfl,rfl⟩:=b;exact s β' w' a' C v E F
 | @cond c ca cb ra rb hc ha hb W X=>
   intro β fr fr' H H' a w x Q t o y u z b s;simp only[bE] at b;have hv:=G2 o hc;split at b;·rename_i e;rw[e] at hv;exact wpIn_cond_true hv.GH (W β fr fr' H H' a w x Q t o y u z b s)
   ·rename_i e;rw[e] at hv;exact wpIn_cond_false hv.GH (X β fr fr' H H' a w x Q t o y u z b s)
   cases b
 | @block id c rc hc O=>
   intro β fr fr' H H' a w x Q t o y u z b s;simp only[bE] at b;cases A:bE h n rc fr H with
   | none=>rw[A] at b;cases b
   | some q=>
     obtain⟨G,am,H1⟩:=q;rw[A] at b;refine wpIn_block (O β fr am H H1 a w G _ t o y u z A fun β' w' a' C v E F=> ?_);cases G with
     | normal=>
       simp only[Option.some.injEq,Prod.mk.injEq] at b;obtain⟨rfl,rfl,rfl⟩:=b;exact s β' w' a' C v E F
     | exit i=>
       simp only at b;split at b;·rename_i e;simp only[Option.some.injEq,Prod.mk.injEq] at b;obtain⟨rfl,rfl,rfl⟩:=b;simp only[bp.OD,Exit.inBlock,iP e];exact s β' w' a' C v E F
       rename_i e;simp only[Option.some.injEq,Prod.mk.injEq] at b;obtain⟨rfl,rfl,rfl⟩:=b;simp only[bp.OD,Exit.inBlock,iN e];exact s β' w' a' C v E F
     | ret=>
       simp only[Option.some.injEq,Prod.mk.injEq] at b;obtain⟨rfl,rfl,rfl⟩:=b;exact s β' w' a' C v E F
 | @loop c rc hc O=>
   intro β0 fP fr' H0 H' a0 w0 x Q hS0 wu y u z U s;simp only[bE] at U;let J:Nat->Act->ay->Prop:=λm a w=>∃β fr H,aP P B β H w/\cd β0 w0 β w/\FR β N fr a/\DM D0 B1 β w a/\pQ m (bE h n rc) fr H=some (x,fr',H')
   classical
   refine wpIn_loop (λa w=>∃m,J m a w) (λa w=>if g : ∃m,J m a w then OH g else 0) ⟨n,β0,fP,H0,hS0,cd.refl β0 w0,wu,u,U⟩ λa w hI=> ?_;have R:=ahS hI;rw[dif_pos hI];generalize hm:OH hI=m at R;obtain⟨β,fr,H,t,S,o,hd,b⟩:=R;cases m with
   | zero=>simp[pQ] at b
   | succ m=>
     simp only[pQ] at b;cases A:bE h n rc fr H with
     | none=>rw[A] at b;cases b
     | some q=>
       obtain⟨G,am,H1⟩:=q;rw[A] at b;refine O β fr am H H1 a w G _ t o (y.ou S.ext) hd (cy z S.size) A fun β' w' a' C v E F=> ?_;cases G with
       | normal=>
         simp only at b;have o9:J m a' w':=⟨β',am,H1,C,S.trans v,E,F,b⟩;have hex : ∃m,J m a' w':=⟨m,o9⟩;refine⟨hex,?_⟩;rw[dif_pos hex];have:=ahT hex o9;omega
       | exit i=>
         simp only[Option.some.injEq,Prod.mk.injEq] at b;obtain⟨rfl,rfl,rfl⟩:=b;exact s β' w' a' C (S.trans v) E F
       | ret=>
         simp only[Option.some.injEq,Prod.mk.injEq] at b;obtain⟨rfl,rfl,rfl⟩:=b;exact s β' w' a' C (S.trans v) E F
 | @sN g ps ca cb key hg hk=>
   intro β fr fr' H H' a w x Q t o y u z b s;simp only[bE] at b;split at b
   ·rename_i f fst dF Ay;split at b
    ·rename_i v2 H2 iZ;obtain⟨hc,Tq⟩:pP P f=true/\_:=(hh.1 _ _ _ _ _ iZ).resolve_right λhx=>by
      have:=hx.1.1;simp[Tm] at this
     obtain⟨K,Az,eN,OC⟩ : ∃K,a.eval g= .func (.func f) #[] K/\dF.size=K.size/\∀i (h1:i<dF.size) (h2:i<K.size),VR β dF[i] K[i]:=by
      have:=G2 o hg;rw[Ay] at this;generalize a.eval g=q at this;cases this with
      | fn _ h hi=>exact⟨_,rfl,h,hi⟩
     split at b
     ·rename_i st gv bt ahW kK;split at b;·cases b
      rename_i aW;simp only[Option.some.injEq,Prod.mk.injEq] at b;obtain⟨rfl,rfl,rfl⟩:=b;have enter : ∀fn:aS,∃(l:Nat) (mark:List zW) (I : ay),(Instr.enterLoop fn a.tmps ps ca cb ro).run P w= .ok (l,mark) I /\aP P B (dE β H.nx (.loop l)) (H.new (.loop .ready none fr key)) I /\cd β w (dE β H.nx (.loop l)) I /\
       ∀a':Act,a'.defers=mark++a.defers->DM D0 B1 (dE β H.nx (.loop l)) I a':=by
       intro fn;cases ahX:ro with
       | none=>
         obtain⟨s1,M⟩:=t.ahQ (.deferred (some []));obtain⟨s2,L⟩:=s1.Z9 (r:= { state:= .ready,pending:=none,fn,tmps:=a.tmps,params:=ps,assign:=ca,body:=cb,defers:=w.heap.size }) (N:=N) (fr:=fr) (key:=key) rfl rfl hk o.1 o.2;have hs:(w.alloc (.deferred (some []))).heap.size=w.heap.size+1:=by simp
         rw[hs] at s2 L;refine⟨_,_,_,run_enterLoop_outer fn a.tmps ps ca cb,s2,M.trans L,λa' yE=> ?_⟩;obtain⟨ms,m1,m2,m3⟩:=u;refine⟨w.heap.size::ms,by rw[yE,m1];rfl,List.nodup_cons.2 ⟨λhm=> ?_,m2⟩,λD hD=> ?_⟩;·have:=(Array.getElem?_eq_some_iff.1 (m3 _ hm).2.1).1;omega
         rcases List.mem_cons.1 hD with rfl | hD
         ·refine⟨z,?_,λl ho=> ?_⟩;·have hn:=World.alloc_heap_new w (.deferred (some []));rw[<-hn];exact Below.heap_alloc _ _ _ Sm
          by_cases hl:l=H.nx
          ·subst hl;rw[eE] at ho;have:w.heap.size+1=w.heap.size:=ho;omega
          rw[dT hl] at ho;have:=(tE t ho).2;omega
         obtain⟨g1,g2,g3⟩:=m3 D hD;obtain⟨k1,k2⟩:=(M.trans L).dk D (Array.getElem?_eq_some_iff.1 g2).1 g3;exact⟨g1,k1.trans g2,k2⟩
       | some b0=>
         obtain⟨l0,wv⟩:=y b0 ahX;obtain⟨_,_,_,_,_,_,r0,_,U,_⟩:=t.loop wv;obtain⟨s2,L⟩:=t.Z9 (r:= { state:= .ready,pending:=none,fn,tmps:=a.tmps,params:=ps,assign:=ca,body:=cb,defers:=r0.defers }) (N:=N) (fr:=fr) (key:=key) rfl rfl hk o.1 o.2;exact⟨_,_,_,run_enterLoop_inner U fn a.tmps ps ca cb,s2,L,λa' yE=>u.ou L (by simpa using yE)⟩
      refine wpIn_rangeFunc λfn _=> ?_;obtain⟨l,mark,I,G6,s1,M,ahY⟩:=enter fn;obtain⟨G,x2⟩:=ahR Az hc l I;refine⟨l,mark,I,_,I,f,_,I,G6,G,λ_ _=>trivial,x2,λh=>absurd h (by simp[Fn,sB]),Oz ?_⟩;have ni:aT (dE β H.nx (.loop l)) (.func (.yield H.nx) #[] #[]::dF.toList) (.func (.yield l) #[] #[]::K.toList):=
       aT.cons (.GB eE) ((aT.arr.2 ⟨eN,OC⟩).mono M.ext)
      have:=Tq _ I _ s1 ni;have L:(Value.func (.yield l) #[] #[]::K.toList).toArray= #[.func (.yield l) #[] #[]]++K:=by apply tv;simp
      rw[L] at this;refine this.mono ?_;rintro e w3 ⟨v',β3,rfl,g1,g2,g3⟩;have dR:β3 H.nx= .loop l:=by
       rcases g3.ext H.nx with q | q | ⟨_,_,_,_,q,_⟩
       ·rw[q,eE]
       ·rw[eE] at q;cases q
       rw[eE] at q;cases q
      obtain⟨st3,aq',tK,ara,rG,_,r3,N3,Y,Z,T,p4,p5,p6⟩:=g2.loop dR;rw[kK] at rG;cases rG;have Cr:=run_endLoop (P:=P) Y (by rw[Z];exact aW);obtain⟨s4,V⟩:=g2.To dR (st:= .exhausted) (gv:=gv) (fr:=bt) (key:=ahW) (r:= { r3 with state:= .exhausted }) (N:=N3) rfl T p4 p5 p6;generalize w3.putObj l (.loop { r3 with state:= .exhausted })=w4 at Cr s4 V;have rH:Q (OE gv).OD { a with defers:=mark++a.defers } w4:=
       s _ _ _ s4 (M.trans (g3.trans V)) (FR.mono (a:= { a with defers:=mark++a.defers }) o ((M.trans (g3.trans V)).ext)) ((ahY { a with defers:=mark++a.defers } rfl).ou (g3.trans V) rfl)
      refine⟨r3.pending,_,Cr,?_⟩;rw[T];cases gv with
      | none=>exact rH
      | some j=>
        cases j with
        | none=>exact wpIn_ret rH
        | some i=>exact wpIn_exit rH
     cases b
    cases b
   cases b
end
end Can
end Go.Proofs.YticlaccbodpkeaaGreatDoor
