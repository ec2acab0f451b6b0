/- Canonical runs: values and memories up to the names of blocks and the room behind slices. Over any program. -/
import Derived.Test.YtdfgkcoenagaaaaGreatWa
import Derived.WalkKit
import Derived.ProofKit
import Derived.Lib.Hide
import Derived.RangeFuncRecord
import Derived.Laws.Append
import Derived.Laws.Entries
import Derived.Laws.StructEq
import Derived.ChangeKeysEq
import Derived.Laws.MakeOwn
import Derived.Deep.DeepAppendWide
import Derived.Lib.UnsafeStr
import Derived.Lib.Builder
import Derived.MapKept
import Derived.Laws.BytesArg
import Derived.Laws.RangeString
import Derived.Lib.OthersKept
import Derived.Lib.ConvBytes
import Derived.CallsIn
import Derived.OrdersIn
import Derived.RangeFuncNested
open Array renaming ext' → qY, getElem?_append_left → T0, getElem?_eq_getElem → sm, getElem?_eq_none → ac0, getElem?_modify → TU, getElem?_push → C1, getElem?_setIfInBounds_ne → TV, getElem_toList → Jn, length_toList → Jo, range → Da, toList_map → NK
open Bool renaming and_eq_true → eZ, false_eq_true → aM, not_eq_true' → xo, not_false → FN
open Go renaming Addr → ej, Code → fT, Deferred → uk, FuncId → bk, IntKind → oT, MapEntry → pC, Oper → cu, Operand → au, Program → aZ, TypeDesc → nV, TypeId → aH, Value → ae, World → ar
open Go.Addr renaming add_lit → C5
open Go.Builtin renaming append_ → Dd, firstCells → xr, nextslicecap → T1, zeroCells → AR
open Go.Call renaming operands → CZ
open Go.Deferred renaming ofValue → Df
open Go.Fence renaming wide → gZ
open Go.Instr renaming checkKey → NM, keyThatStays → T4, sureAddr → C7
open Go.Lib renaming bytesCells → zn
open Go.MapKept renaming bytes_beq → T3, run_findKey → Jq, run_getObj_map → Jr
open Go.Op renaming equal → vU, intArith → FM, operands → pB
open Go.Region renaming wanted → Js
open Go.Result renaming andThen → xu, andThen_ok → bY
open Go.Sem renaming run → tv, run_bind → cg, run_pure → cO
open Go.Utf8 renaming decode → Db
open Go.World renaming cell? → C0, freeze → De, putObj_heap_other → AS
open Int renaming le_refl → pD, toNat_natCast → xq
open List renaming append_assoc → aG, drop_zero → sn, getElem?_append_left → ui, getElem?_append_right → tu, getElem?_drop → sk, getElem?_eq_getElem → dx, getElem?_map → kF, getElem?_take → mU, getElem_cons_zero → NL, length → l7, length_drop → iH, length_map → kZ, length_take → nU, map_cons → dq, map_nil → lF, map_toArray → C8, mem_cons_of_mem → kD, mem_cons_self → ny, mem_of_getElem? → sq, replicate → kY, size_toArray → NJ, take_append_of_le_length → TY
open Nat renaming add_mul → oU, add_right_comm → C6, le_refl → ag, le_succ_of_le → xn, le_trans → cM, lt_of_lt_of_le → ek, mul_le_mul_right → C9, zero_add → iZ
open Option renaming getD_some → qp, map_eq_some_iff → jX, map_some → fo
open Pure renaming pure → kE
open UInt8 renaming ofNat → al
set_option linter.unusedSimpArgs false
set_option linter.unusedVariables false
namespace Go.Proofs.YtdfgkcoenagaaaaGreat
namespace Can
section
open Go Go.RowKit
inductive Kd where
 | ro | ex | gr
inductive aC where
 | oV | dead
 | live (b:Nat×Nat) (sz n:Nat) (k:Kd)
 | obj (b:Nat)
 | loop (b:Nat)
inductive VR(β:Nat->aC):ae->ae->Prop where
 | undef (v':ae):VR β (.tuple #[]) v'
 | skip:VR β (.chan none) (.tuple #[])
 | bool (b:Bool):VR β (.bool b) (.bool b)
 | int (k:oT) (n:Int):VR β (.int k n) (.int k n)
 | float (k:FloatKind) (n:Nat):VR β (.float k n) (.float k n)
 | string (s:ByteArray):VR β (.string s) (.string s)
 | A4:VR β (.pointer none) (.pointer none)
 | ptr {l o:Nat} {b:Nat×Nat} {sz n:Nat} {k:Kd} (h:β l= .live b sz n k):VR β (.pointer (some ⟨l,o,none⟩)) (.pointer (some ⟨b.1,o+b.2,none⟩))
 | oW {l o:Nat} (a:ej) (h:β l= .dead):VR β (.pointer (some ⟨l,o,none⟩)) (.pointer (some a))
 | zw:VR β (.slice none 0 0) (.slice none 0 0)
 | sl {l o:Nat} {b:Nat×Nat} {sz n m c c':Nat} {k:Kd} (h:β l= .live b sz n k) (h1:m<=c) (h2:c<=c') (h3:c'<=maxLen) (h4:k≠ .ro->o+b.2+c'*sz<=n) (h5:k≠ .gr->c'=c) :
    VR β (.slice (some ⟨l,o,none⟩) m c) (.slice (some ⟨b.1,o+b.2,none⟩) m c')
 | v9 (a:ej):VR β (.slice (some ⟨0,0,some 0⟩) 0 0) (.slice (some a) 0 0)
 | xH (a:ej) (c:Nat):VR β (.slice (some ⟨0,0,some 1⟩) 0 0) (.slice (some a) 0 c)
 | qv {l o m c c':Nat} (a:ej) (h:β l= .dead) (h2:c<=c'):VR β (.slice (some ⟨l,o,none⟩) m c) (.slice (some a) m c')
 | qw {l o:Nat} {b:Nat×Nat} {sz n:Nat} {k:Kd} (a:ej) (h:β l= .live b sz n k):VR β (.slice (some ⟨l,o,none⟩) 0 0) (.slice (some a) 0 0)
 | JE:VR β .nilFunc .nilFunc
 | fn (f:bk) {xa bs:Array ae} (h:xa.size=bs.size) (hi : ∀i (h1:i<xa.size) (h2:i<bs.size),VR β xa[i] bs[i]):VR β (.func (.func f) #[] xa) (.func (.func f) #[] bs)
 | xI {l b:Nat} (h:β l= .loop b):VR β (.func (.yield l) #[] #[]) (.func (.yield b) #[] #[])
 | JF:VR β .nilIface .nilIface
 | iface (t:aH) {v v':ae} (h:VR β v v'):VR β (.iface t v) (.iface t v')
 | agg {xa bs:Array ae} (h:xa.size=bs.size) (hi : ∀i (h1:i<xa.size) (h2:i<bs.size),VR β xa[i] bs[i]):VR β (.agg xa) (.agg bs)
 | tuple {xa bs:Array ae} (h:xa.size=bs.size) (hi : ∀i (h1:i<xa.size) (h2:i<bs.size),VR β xa[i] bs[i]):VR β (.tuple xa) (.tuple bs)
 | JG:VR β (.map none) (.map none)
 | map {l b:Nat} (h:β l= .obj b):VR β (.map (some l)) (.map (some b))
 | iter {l b:Nat} (h:β l= .obj b):VR β (.chan (some l)) (.pointer (some ⟨b,0,none⟩))
def eU(β β':Nat->aC):Prop:=∀l,β' l=β l\/β l= .oV\/(∃b sz n k,β l= .live b sz n k/\β' l= .dead)
theorem eU.refl(β:Nat->aC):eU β β:=λ_=> .inl rfl
theorem eU.trans{a b c:Nat->aC}(h:eU a b)(k:eU b c):eU a c:=λl=>by
 rcases h l with h | h | ⟨d,sz,n,k1,h,h'⟩
 ·rcases k l with k | k | ⟨d,sz,n,k1,k,k'⟩
  ·exact .inl (k.trans h)
  ·exact .inr (.inl (h▸k))
  exact .inr (.inr ⟨d,sz,n,k1,h▸k,k'⟩)
 ·exact .inr (.inl h)
 rcases k l with k | k | ⟨f,e,n2,g,k,k'⟩
 ·exact .inr (.inr ⟨d,sz,n,k1,h,k.trans h'⟩)
 ·rw[h'] at k;cases k
 rw[h'] at k;cases k
theorem VR.mono{β β':Nat->aC}(hx:eU β β'){v v':ae}(h:VR β v v'):VR β' v v':=by
 induction h with
 | undef v'=>exact .undef v'
 | skip=>exact .skip
 | bool b=>exact .bool b
 | int k n=>exact .int k n
 | float k n=>exact .float k n
 | string s=>exact .string s
 | A4=>exact .A4
 | @ptr l o b sz n k h=>
   rcases hx l with e | e | ⟨_,_,_,_,_,e⟩
   ·exact .ptr (e.trans h)
   ·rw[h] at e;cases e
   exact .oW _ e
 | @oW l o a h=>
   rcases hx l with e | e | ⟨_,_,_,_,e,_⟩
   ·exact .oW a (e.trans h)
   ·rw[h] at e;cases e
   rw[h] at e;cases e
 | zw=>exact .zw
 | @sl l o b sz n m c c' k h h1 h2 h3 h4 h5=>
   rcases hx l with e | e | ⟨_,_,_,_,_,e⟩
   ·exact .sl (e.trans h) h1 h2 h3 h4 h5
   ·rw[h] at e;cases e
   exact .qv _ e h2
 | v9 a=>exact .v9 a
 | xH a c=>exact .xH a c
 | @qv l o m c c' a h h2=>
   rcases hx l with e | e | ⟨_,_,_,_,e,_⟩
   ·exact .qv a (e.trans h) h2
   ·rw[h] at e;cases e
   rw[h] at e;cases e
 | @qw l o b sz n k a h=>
   rcases hx l with e | e | ⟨_,_,_,_,_,e⟩
   ·exact .qw a (e.trans h)
   ·rw[h] at e;cases e
   exact .qv a e (ag _)
 | JE=>exact .JE
 | fn f h hi d=>exact .fn f h d
 | @xI l b h=>
   rcases hx l with e | e | ⟨_,_,_,_,e,_⟩
   ·exact .xI (e.trans h)
   ·rw[h] at e;cases e
   rw[h] at e;cases e
 | JF=>exact .JF
 | iface t h d=>exact .iface t d
 | agg h hi d=>exact .agg h d
 | tuple h hi d=>exact .tuple h d
 | JG=>exact .JG
 | @map l b h=>
   rcases hx l with e | e | ⟨_,_,_,_,e,_⟩
   ·exact .map (e.trans h)
   ·rw[h] at e;cases e
   rw[h] at e;cases e
 | @iter l b h=>
   rcases hx l with e | e | ⟨_,_,_,_,e,_⟩
   ·exact .iter (e.trans h)
   ·rw[h] at e;cases e
   rw[h] at e;cases e
def aW (β:Nat->aC)(xa bs:List ae):Prop:=xa.length=bs.length/\∀(i:Nat) (v:ae),xa[i]? = some v->∃v',bs[i]? = some v'/\VR β v v'
theorem aW.mono{β β':Nat->aC}(hx:eU β β'){xa bs:List ae}(h:aW β xa bs):aW β' xa bs:=
 ⟨h.1,λi v hv=>let ⟨v',h1,h2⟩:=h.2 i v hv;⟨v',h1,h2.mono hx⟩⟩
theorem aW.nil(β:Nat->aC):aW β [] []:=⟨rfl,λi v h=>by simp at h⟩
theorem aW.cons{β:Nat->aC}{a b:ae}{xa bs:List ae}(h:VR β a b)(hs:aW β xa bs):aW β (a::xa) (b::bs):=by
 refine⟨by simp[hs.1],λi v hv=> ?_⟩;cases i with
 | zero=>simp at hv;subst hv;exact⟨b,rfl,h⟩
 | succ i=>simpa using hs.2 i v (by simpa using hv)
theorem aW.append{β:Nat->aC}{xa bs cs ds:List ae}(h:aW β xa bs)(k:aW β cs ds):aW β (xa++cs) (bs++ds):=by
 refine⟨by simp[h.1,k.1],λi v hv=> ?_⟩;by_cases hi:i<xa.length
 ·rw[ui hi] at hv;obtain⟨v',h1,h2⟩:=h.2 i v hv;exact⟨v',by rw[ui (by have:=h.1;omega)];exact h1,h2⟩
 rw[tu Om] at hv;obtain⟨v',h1,h2⟩:=k.2 _ v hv;exact⟨v',by rw[tu (by have:=h.1;omega),<-h.1];exact h1,h2⟩
theorem aW.arr{β:Nat->aC}{xa bs:Array ae}:aW β xa.toList bs.toList↔xa.size=bs.size/\∀i (h1:i<xa.size) (h2:i<bs.size),VR β xa[i] bs[i]:=by
 constructor;·rintro⟨h1,h2⟩;refine⟨by simpa using h1,λi hi a=> ?_⟩;obtain⟨v',h3,h4⟩:=h2 i xa[i] (by simp[hi]);simp[a] at h3;rw[h3];exact h4
 rintro⟨h1,h2⟩;refine⟨by simpa using h1,λi v hv=> ?_⟩;obtain⟨hi,rfl⟩:=List.getElem?_eq_some_iff.1 hv;have b:i<xa.size:=by simpa using hi
 exact⟨bs[i]' Om,s0,by simpa using h2 i b Om⟩
def isVal:ae->Bool
 | .tuple _=>false
 | .chan _=>false
 | _=>true
def ci:ae->Bool
 | .tuple _=>false
 | .agg _=>false
 | .chan _=>false
 | _=>true
theorem VR.cells{β:Nat->aC}{v v':ae}(h:VR β v v')(hv:isVal v=true):aW β v.cells.toList v'.cells.toList:=by
 cases h with
 | agg h hi=>exact aW.arr.2 ⟨h,hi⟩
 | undef=>cases hv
 | skip=>cases hv
 | tuple=>cases hv
 | bool b=>exact aW.cons (.bool b) (aW.nil β)
 | int k n=>exact aW.cons (.int k n) (aW.nil β)
 | float k n=>exact aW.cons (.float k n) (aW.nil β)
 | string s=>exact aW.cons (.string s) (aW.nil β)
 | A4=>exact aW.cons .A4 (aW.nil β)
 | ptr h=>exact aW.cons (.ptr h) (aW.nil β)
 | oW a h=>exact aW.cons (.oW a h) (aW.nil β)
 | zw=>exact aW.cons .zw (aW.nil β)
 | sl h h1 h2 h3 h4 h5=>exact aW.cons (.sl h h1 h2 h3 h4 h5) (aW.nil β)
 | v9 a=>exact aW.cons (.v9 a) (aW.nil β)
 | xH a c=>exact aW.cons (.xH a c) (aW.nil β)
 | qv a h h2=>exact aW.cons (.qv a h h2) (aW.nil β)
 | qw a h=>exact aW.cons (.qw a h) (aW.nil β)
 | JE=>exact aW.cons .JE (aW.nil β)
 | fn f h hi=>exact aW.cons (.fn f h hi) (aW.nil β)
 | xI h=>exact aW.cons (.xI h) (aW.nil β)
 | JF=>exact aW.cons .JF (aW.nil β)
 | iface t h=>exact aW.cons (.iface t h) (aW.nil β)
 | JG=>exact aW.cons .JG (aW.nil β)
 | map h=>exact aW.cons (.map h) (aW.nil β)
 | iter=>cases hv
theorem VR.ci{β:Nat->aC}{v v':ae}(h:VR β v v')(hv:ci v=true):Can.ci v'=true:=by
 cases h<;>first | rfl | cases hv
inductive dr where
 | oV | dead
 | cells (cs:List ae) (e:aH) (k:Kd)
 | map (es:Array pC) (clock:Nat)
 | qx (s:ByteArray) (pos:Nat)
 | xJ (m:Nat)
 | loop (st:LoopState) (gP:Option (Option Nat)) (fr:Nat->ae) (key:Nat×Nat)
structure CH where
 nx:Nat
 ob:Nat->dr
def CH.set(H:CH)(l:Nat)(o:dr):CH:= { H with ob:=λk=>if k=l then o else H.ob k }
def CH.new(H:CH)(o:dr):CH:= { nx:=H.nx+1,ob:=λk=>if k=H.nx then o else H.ob k }
def dS (β:Nat->aC)(l:Nat)(e:aC):Nat->aC:=λk=>if k=l then e else β k
theorem fb{β:Nat->aC}{l:Nat}{e:aC}:dS β l e l=e:=by simp[dS]
theorem eD{β:Nat->aC}{l k:Nat}{e:aC}(h:k≠l):dS β l e k=β k:=by simp[dS,h]
def zx (n:Nat)(fr:Nat×Nat):Prop:=fr.1=fr.2\/n<=fr.1
theorem zx.no{n:Nat}{fr:Nat×Nat}(h:zx n fr) : ∀i,i<n->(decide (fr.1<=i)&&decide (i<fr.2))=false:=λi hi=>by
 rcases h with h | h
 ·by_cases h2:fr.1<=i
  ·simp;omega
  simp[h2]
 have : ¬fr.1<=i:=by omega
 simp[this]
def Live (P:aZ)(B:Nat)(β:Nat->aC)(w:ar)(b:Nat×Nat)(sz n:Nat)(k:Kd)(cs:List ae)(e:aH):Prop:=
 ∃(cs':Array ae) (e':aH) (fr:Nat×Nat),w.heap[b.1]? = some (.cells cs' e' fr)/\cs'.size=n/\cs.length+b.2<=n/\
  (∀(i:Nat) (v:ae),cs[i]? = some v->∃v',cs'[i+b.2]? = some v'/\VR β v v')/\(k≠ .ro->(P.info? e).map (·.size)=some sz)/\
  (k≠ .ro->e'=e/\B<=b.1/\zx n fr)/\(k= .ro->b.1<B)/\(k= .ex->cs.length+b.2=n/\b.2=0)
def FV(β:Nat->aC)(w:ar)(b:Nat)(es:Array pC)(clock:Nat):Prop:=
 ∃a:Array pC,w.heap[b]? = some (.map a clock)/\a.size=es.size/\
  ∀i (h:i<es.size) (h':i<a.size),VR β es[i].key a[i].key/\VR β es[i].val a[i].val/\a[i].born=es[i].born
def l9:fT->List (Array Tmp×fT×fT)
 | .seq a b | .cond _ a b=>l9 a++l9 b
 | .block _ c | .loop c | .scope c=>l9 c
 | .rangeFunc _ ps a b=>(ps,a,b)::(l9 a++l9 b)
 | _=> []
def keyOf(P:aZ)(key:Nat×Nat):Option (Nat×Array Tmp×fT×fT):=
 match P.funcs[key.1]? with
 | some fn=>match fn.body with
   | some c=>((l9 c)[key.2]?).map λx=>(fn.ntmps,x)
   | none=>none
 | none=>none
def N1:Option Nat->fT
 | none=> .ret
 | some i=> .exit i
def FW(P:aZ)(β:Nat->aC)(w:ar)(b:Nat)(st:LoopState)(gP:Option (Option Nat))(fr:Nat->ae)(key:Nat×Nat):Prop:=
 ∃(r:Loop) (N:Nat),w.heap[b]? = some (.loop r)/\r.state=st/\r.pending=gP.map N1/\keyOf P key=some (N,r.params,r.assign,r.body)/\N<=r.tmps.size/\∀t,VR β (fr t) (r.tmps.getD t undef)
def Do(P:aZ)(B:Nat)(β:Nat->aC)(w:ar):aC->dr->Prop
 | .oV, .oV=>True
 | .dead, .dead=>True
 | .live b sz n k, .cells cs e k'=>k=k'/\Live P B β w b sz n k cs e
 | .obj b, .map es clock=>B<=b/\FV β w b es clock
 | .obj b, .qx s pos=>B<=b/\w.heap[b]? = some (.stringIter s pos)
 | .obj b, .xJ m=>B<=b/\∃(b' a last:Nat) (seen:Array Nat),β m= .obj b'/\w.heap[b]? = some (.mapIter (some b') a seen last)
 | .loop b, .loop st gP fr key=>B<=b/\FW P β w b st gP fr key
 | _,_=>False
def aC.owns:aC->Nat->Prop
 | .live b _ _ k,b'=>k≠ .ro/\b.1=b'
 | .obj b,b'=>b=b'
 | .loop b,b'=>b=b'
 | _,_=>False
structure aN(P:aZ)(B:Nat)(β:Nat->aC)(H:CH)(w:ar):Prop where
 iK : ∀l,Do P B β w (β l) (H.ob l)
 nx : ∀l,H.nx<=l->H.ob l= .oV
 inj : ∀l l' b,(β l).owns b->(β l').owns b->l=l'
 base:B<=w.heap.size
def Out (β:Nat->aC)(b:Nat):Prop:=∀l,¬(β l).owns b
structure bD(β:Nat->aC)(w:ar)(β':Nat->aC)(w':ar):Prop where
 os:w'.os=w.os
 tape:w'.tape=w.tape
 output:w'.output=w.output
 size:w.heap.size<=w'.heap.size
 cY : ∀b,b<w.heap.size->Out β b->w'.heap[b]? = w.heap[b]? /\Out β' b
 ext:eU β β'
theorem bD.refl(β:Nat->aC)(w:ar):bD β w β w:=⟨rfl,rfl,rfl,ag _,λ_ _ h=>⟨rfl,h⟩,eU.refl β⟩
theorem bD.trans{β β' β'':Nat->aC}{w w' a:ar}(h:bD β w β' w')(k:bD β' w' β'' a):bD β w β'' a:=
 ⟨k.os.trans h.os,k.tape.trans h.tape,k.output.trans h.output,cM h.size k.size,λb hb ho=>by
   obtain⟨h1,h2⟩:=h.cY b hb ho;obtain⟨k1,c⟩:=k.cY b (ek hb h.size) h2;exact⟨k1.trans h1,c⟩,h.ext.trans k.ext⟩
theorem aN.oV{P:aZ}{B:Nat}{β:Nat->aC}{H:CH}{w:ar}(h:aN P B β H w):β H.nx= .oV:=by
 have h1:=h.iK H.nx;rw[h.nx _ (ag _)] at h1;cases hb:β H.nx<;>rw[hb] at h1<;>first | rfl | exact h1.elim
theorem aN.live{P:aZ}{B:Nat}{β:Nat->aC}{H:CH}{w:ar}(h:aN P B β H w){l:Nat}{b:Nat×Nat}{sz n:Nat}{k:Kd}(hl:β l= .live b sz n k) :
 ∃cs e,H.ob l= .cells cs e k/\Live P B β w b sz n k cs e:=by
 have h1:=h.iK l;rw[hl] at h1;cases ho:H.ob l with
 | cells cs e k'=>rw[ho] at h1;obtain⟨rfl,h2⟩:=h1;exact⟨cs,e,rfl,h2⟩
 | _=>rw[ho] at h1;exact h1.elim
theorem aN.cells{P:aZ}{B:Nat}{β:Nat->aC}{H:CH}{w:ar}(h:aN P B β H w){l:Nat}{cs:List ae}{e:aH}{k:Kd}(ho:H.ob l= .cells cs e k) :
 ∃b sz n,β l= .live b sz n k/\Live P B β w b sz n k cs e:=by
 have h1:=h.iK l;rw[ho] at h1;cases hb:β l with
 | live b sz n k'=>rw[hb] at h1;obtain⟨rfl,h2⟩:=h1;exact⟨b,sz,n,rfl,h2⟩
 | _=>rw[hb] at h1;exact h1.elim
theorem Live.mono{P:aZ}{B:Nat}{β β':Nat->aC}{w w':ar}{b:Nat×Nat}{sz n:Nat}{k:Kd}{cs:List ae}{e:aH}(h:Live P B β w b sz n k cs e)(hx:eU β β')(hw:w'.heap[b.1]? = w.heap[b.1]?) :
 Live P B β' w' b sz n k cs e:=by
 obtain⟨cs',e',fr,h1,h2,h3,h4,h5⟩:=h;exact⟨cs',e',fr,hw.trans h1,h2,h3,λi v hv=>let ⟨v',a,b⟩:=h4 i v hv;⟨v',a,b.mono hx⟩,h5⟩
theorem FV.mono{β β':Nat->aC}{w w':ar}{b:Nat}{es:Array pC}{c:Nat}(h:FV β w b es c)(hx:eU β β')(hw:w'.heap[b]? = w.heap[b]?):FV β' w' b es c:=by
 obtain⟨d,h1,h2,h3⟩:=h;exact⟨d,hw.trans h1,h2,λi hi e=>let ⟨a,b,c⟩:=h3 i hi e;⟨a.mono hx,b.mono hx,c⟩⟩
theorem FW.mono{P:aZ}{β β':Nat->aC}{w w':ar}{b:Nat}{st:LoopState}{gP:Option (Option Nat)}{fr:Nat->ae}{key:Nat×Nat}(h:FW P β w b st gP fr key)(hx:eU β β')(hw:w'.heap[b]? = w.heap[b]?):FW P β' w' b st gP fr key:=by
 obtain⟨r,N,h1,h2,h3,h4,h5,a⟩:=h;exact⟨r,N,hw.trans h1,h2,h3,h4,h5,λt=>(a t).mono hx⟩
theorem Do.mono{P:aZ}{B:Nat}{β β':Nat->aC}{w w':ar}{E:aC}{o:dr}(h:Do P B β w E o)(hx:eU β β')(hw : ∀b,(∃z sz n k,E= .live (b,z) sz n k)\/E= .obj b\/E= .loop b->w'.heap[b]? = w.heap[b]?) :
 Do P B β' w' E o:=by
 cases E<;>cases o<;>try exact h
 ·exact⟨h.1,h.2.mono hx (hw _ (.inl ⟨_,_,_,_,rfl⟩))⟩
 ·exact⟨h.1,h.2.mono hx (hw _ (.inr (.inl rfl)))⟩
 ·exact⟨h.1,(hw _ (.inr (.inl rfl))).trans h.2⟩
 ·obtain⟨h1,b',a,last,seen,h2,h3⟩:=h;refine⟨h1,b',a,last,seen,?_,(hw _ (.inr (.inl rfl))).trans h3⟩;rcases hx _ with g | g | ⟨_,_,_,_,g,_⟩
  ·exact g.trans h2
  ·rw[h2] at g;cases g
  rw[h2] at g;cases g
 exact⟨h.1,h.2.mono hx (hw _ (.inr (.inr rfl)))⟩
theorem aN.load{P:aZ}{B:Nat}{β:Nat->aC}{H:CH}{w:ar}(h:aN P B β H w){l o:Nat}{v':ae}{cs:List ae}{e:aH}{k:Kd}
 (hp:VR β (.pointer (some ⟨l,o,none⟩)) v') (ho:H.ob l= .cells cs e k) :
 ∃b z,v'= .pointer (some ⟨b,o+z,none⟩)/\∀(i:Nat) (v:ae),cs[i]? = some v->∃u,w.cell? ⟨b,i+z,none⟩=some u/\VR β v u:=by
 obtain⟨b,sz,n,hb,cs',e',fr,h1,h2,h3,h4,h5⟩:=h.cells ho;cases hp with
 | oW a hd=>rw[hb] at hd;cases hd
 | ptr hl=>
   rw[hb] at hl;cases hl;refine⟨b.1,b.2,rfl,λi v hv=> ?_⟩;obtain⟨u,hu,c⟩:=h4 i v hv;exact⟨u,by simp[C0,h1,hu],c⟩
theorem tC{P:aZ}{B:Nat}{β:Nat->aC}{H:CH}{w:ar}(h:aN P B β H w){l b:Nat}(ho:(β l).owns b):B<=b/\b<w.heap.size:=by
 have h1:=h.iK l;cases hb:β l with
 | live b' sz n k=>
   rw[hb] at ho;obtain⟨hk,rfl⟩:=ho;obtain⟨cs,e,_,cs',e',fr,h1,_,_,_,_,h5,_⟩:=h.live hb;exact⟨(h5 hk).2.1,(Array.getElem?_eq_some_iff.1 h1).1⟩
 | obj b'=>
   rw[hb] at ho h1;cases ho;cases a:H.ob l with
   | map es c=>
     rw[a] at h1;obtain⟨f,h2,_⟩:=h1.2;exact⟨h1.1,(Array.getElem?_eq_some_iff.1 h2).1⟩
   | qx s pos=>
     rw[a] at h1;exact⟨h1.1,(Array.getElem?_eq_some_iff.1 h1.2).1⟩
   | xJ m=>
     rw[a] at h1;obtain⟨d,_,_,_,_,_,h3⟩:=h1;exact⟨d,(Array.getElem?_eq_some_iff.1 h3).1⟩
   | _=>rw[a] at h1;exact h1.elim
 | loop b'=>
   rw[hb] at ho h1;cases ho;cases a:H.ob l with
   | loop st gP fr key=>
     rw[a] at h1;obtain⟨r,N,h2,_⟩:=h1.2;exact⟨h1.1,(Array.getElem?_eq_some_iff.1 h2).1⟩
   | _=>rw[a] at h1;exact h1.elim
 | _=>rw[hb] at ho;exact ho.elim
theorem adp{P:aZ}{B:Nat}{β:Nat->aC}{H:CH}{w:ar}(h:aN P B β H w){l:Nat}{b:Nat×Nat}{sz n:Nat}{k:Kd}(hb:β l= .live b sz n k):b.1<w.heap.size:=by
 obtain⟨cs,e,_,cs',e',fr,h1,_⟩:=h.live hb;exact(Array.getElem?_eq_some_iff.1 h1).1
theorem Uh{P:aZ}{B:Nat}{β:Nat->aC}{H:CH}{w:ar}(h:aN P B β H w){l b:Nat}(hb:β l= .obj b):b<w.heap.size:=
 (tC h (l:=l) (b:=b) (by rw[hb];rfl)).2
theorem Ui{P:aZ}{B:Nat}{β:Nat->aC}{H:CH}{w:ar}(h:aN P B β H w){l b:Nat}(hb:β l= .loop b):b<w.heap.size:=
 (tC h (l:=l) (b:=b) (by rw[hb];rfl)).2
theorem Dq{P:aZ}{B:Nat}{β:Nat->aC}{H:CH}{w:ar}(h:aN P B β H w){l b:Nat}(hb:(∃z sz n k,β l= .live (b,z) sz n k)\/β l= .obj b\/β l= .loop b):b<w.heap.size:=by
 rcases hb with ⟨z,sz,n,k,hb⟩ | hb | hb
 ·exact adp h hb
 ·exact Uh h hb
 exact Ui h hb
theorem N2{P:aZ}{B:Nat}{β:Nat->aC}{H:CH}{w:ar}(h:aN P B β H w){l l':Nat}{b:Nat×Nat}{sz n:Nat}{k:Kd}(hb:β l= .live b sz n k)(hk:k≠ .ro){b':Nat}
 (hl:(∃z sz n k,β l'= .live (b',z) sz n k)\/β l'= .obj b'\/β l'= .loop b') (av:l'≠l):b'≠b.1:=by
 intro he;have ho:(β l).owns b':=by rw[hb];exact⟨hk,he.symm⟩
 have d:=(tC h ho).1;rcases hl with ⟨f,m5,n',k',hl⟩ | hl | hl
 ·by_cases a:k'= .ro
  ·obtain⟨cs,e,_,cs',e',fr,_,_,_,_,_,_,c,_⟩:=h.live hl;have:b'<B:=c a;omega
  exact av (h.inj _ _ b' (by rw[hl];exact⟨a,rfl⟩) ho)
 ·exact av (h.inj _ _ b' (by rw[hl];rfl) ho)
 exact av (h.inj _ _ b' (by rw[hl];rfl) ho)
theorem aN.store{P:aZ}{B:Nat}{β:Nat->aC}{H:CH}{w:ar}(h:aN P B β H w){l o:Nat}{b:Nat×Nat}{sz n:Nat}{cs:List ae}{e:aH}{k:Kd}(hb:β l= .live b sz n k)(ho:H.ob l= .cells cs e k)(hk:k≠ .ro)
 (t:o<cs.length) {u c:ae} (hu:VR β u c) :
 (∃x,w.cell? ⟨b.1,o+b.2,none⟩=some x)/\w.frozen? ⟨b.1,o+b.2,none⟩=false/\aN P B β (H.set l (.cells (cs.set o u) e k)) (w.setCell ⟨b.1,o+b.2,none⟩ c)/\bD β w β (w.setCell ⟨b.1,o+b.2,none⟩ c):=by
 obtain⟨y,z,d,cs',e',fr,h1,h2,h3,h4,h5,f,q,r⟩:=h.live hb;rw[ho] at d;cases d;have s:(w.setCell ⟨b.1,o+b.2,none⟩ c).heap[b.1]? = some (.cells (cs'.setIfInBounds (o+b.2) c) e' fr):=by
  simp[World.setCell,TU,h1]
 have g : ∀b',b'≠b.1->(w.setCell ⟨b.1,o+b.2,none⟩ c).heap[b']? = w.heap[b']? :=λb' av=>Below.heap_setCell _ _ _ _ av;refine⟨⟨cs'[o+b.2]' Om,by simp[C0,h1]⟩,?_,⟨λl'=> ?_,λl' hl=> ?_,h.inj,by simpa using h.base⟩,⟨rfl,rfl,rfl,s0,λb' j m=>⟨g b' ?_,m⟩,eU.refl β⟩⟩;·have:=(f hk).2.2.no (o+b.2) Om;simp only[World.frozen?,h1];exact this
 ·by_cases hl:l'=l
  ·subst hl;simp only[CH.set,iT,hb];refine⟨rfl,cs'.setIfInBounds (o+b.2) c,e',fr,s,by simpa using h2,by simpa using h3,λi v hv=> ?_,h5,f,q,by simpa using r⟩;by_cases hi:i=o
   ·subst hi;rw[List.getElem?_set_self Om] at hv;cases hv;exact⟨c,by simp[Array.getElem?_setIfInBounds_self];omega,hu⟩
   rw[List.getElem?_set_ne Om] at hv;obtain⟨v',a,b⟩:=h4 i v hv;exact⟨v',by rw[TV Om];exact a,b⟩
  simp only[CH.set,iN hl];exact(h.iK l').mono (eU.refl β) λb' j=>g b' (N2 h hb hk j hl)
 ·have:l'≠l:=λe=>by subst e;rw[h.nx _ hl] at ho;cases ho
  simp only[CH.set,iN this];exact h.nx _ hl
 intro he;exact m l (by rw[hb];exact⟨hk,he.symm⟩)
theorem aN.alloc{P:aZ}{B:Nat}{β:Nat->aC}{H:CH}{w:ar}(h:aN P B β H w){cs:List ae}{cs':Array ae}{e:aH}{sz:Nat}(k:Kd)(hk:k≠ .ro)(he:(P.info? e).map (·.size)=some sz)
 (hl:cs.length<=cs'.size) (hx:k= .ex->cs.length=cs'.size) (hc : ∀(i:Nat) (v:ae),cs[i]? = some v->∃v',cs'[i]? = some v'/\VR β v v')
 {fr:Nat×Nat} (m:zx cs'.size fr) {w':ar} (hw:w'.heap=w.heap.push (.cells cs' e fr)) (n:w'.os=w.os) (o:w'.tape=w.tape) (f:w'.output=w.output) :
 aN P B (dS β H.nx (.live (w.heap.size,0) sz cs'.size k)) (H.new (.cells cs e k)) w'/\bD β w (dS β H.nx (.live (w.heap.size,0) sz cs'.size k)) w':=by
 have q:=h.oV;have g:eU β (dS β H.nx (.live (w.heap.size,0) sz cs'.size k)):=λl=>by
  by_cases hl:l=H.nx
  ·subst hl;exact .inr (.inl q)
  exact .inl (eD hl)
 have c : ∀b,b<w.heap.size->w'.heap[b]? = w.heap[b]? :=λb hb=>by rw[hw,C1,iN Om]
 have r:w'.heap[w.heap.size]? = some (.cells cs' e fr):=by rw[hw];simp
 have s:w'.heap.size=w.heap.size+1:=by rw[hw];simp
 refine⟨⟨λl=> ?_,λl hl=> ?_,λl l' b ho d=> ?_,by rw[s];exact xn h.base⟩,⟨n,o,f,Om,λb hb f=>⟨c b hb,λl ho=> ?_⟩,g⟩⟩
 ·by_cases j:l=H.nx
  ·subst j;simp only[fb,CH.new,iT];exact⟨rfl,cs',e,fr,r,rfl,by simpa using hl,λi v hv=>let ⟨v',a,b⟩:=hc i v hv;⟨v',by simpa using a,b.mono g⟩,λ_=>he,λ_=>⟨rfl,h.base,m⟩,λe=>absurd e hk,λe=>⟨by simpa using hx e,rfl⟩⟩
  simp only[eD j,CH.new,iN j];refine(h.iK l).mono g λb hb=>c b ?_;exact Dq h hb
 ·have:l≠H.nx:=by simp[CH.new] at hl;omega
  simp only[CH.new,iN this];exact h.nx l (by simp[CH.new] at hl;omega)
 ·by_cases h1:l=H.nx<;>by_cases h2:l'=H.nx
  ·rw[h1,h2]
  ·subst h1;rw[fb] at ho;rw[eD h2] at d;have:=(tC h d).2;have:=ho.2;omega
  ·subst h2;rw[fb] at d;rw[eD h1] at ho;have:=(tC h ho).2;have:=d.2;omega
  rw[eD h1] at ho;rw[eD h2] at d;exact h.inj _ _ b ho d
 by_cases h1:l=H.nx
 ·subst h1;rw[fb] at ho;have:=ho.2;omega
 rw[eD h1] at ho;exact f l ho
end
section
open Go Go.RowKit
variable {P:aZ} {B:Nat}
theorem aN.drew{β:Nat->aC}{H:CH}{w:ar}(h:aN P B β H w):aN P B β H w.drew/\bD β w β w.drew:=
 ⟨⟨λl=>(h.iK l).mono (eU.refl β) λb _=>rfl,h.nx,h.inj,h.base⟩,⟨rfl,rfl,rfl,ag _,λ_ _ ho=>⟨rfl,ho⟩,eU.refl β⟩⟩
theorem aN.kill{β:Nat->aC}{H:CH}{w:ar}(h:aN P B β H w){l:Nat}{b:Nat×Nat}{sz n:Nat}{k:Kd}(hb:β l= .live b sz n k) :
 aN P B (dS β l .dead) (H.set l .dead) w/\bD β w (dS β l .dead) w:=by
 have c:eU β (dS β l .dead):=λl'=>by
  by_cases e:l'=l
  ·subst e;exact .inr (.inr ⟨b,sz,n,k,hb,fb⟩)
  exact .inl (eD e)
 refine⟨⟨λl'=> ?_,λl' hl=> ?_,λd f b' h1 h2=> ?_,h.base⟩,⟨rfl,rfl,rfl,ag _,λb' i ho=>⟨rfl,λl' h1=> ?_⟩,c⟩⟩
 ·by_cases e:l'=l
  ·subst e;simp only[fb,CH.set,iT];trivial
  simp only[eD e,CH.set,iN e];exact(h.iK l').mono c λ_ _=>rfl
 ·have:l'≠l:=λe=>by
   subst e;obtain⟨cs,e,ho,_⟩:=h.live hb;rw[h.nx _ hl] at ho;cases ho
  simp only[CH.set,iN this];exact h.nx _ hl
 ·have a:d≠l:=λe=>by subst e;rw[fb] at h1;exact h1
  have g:f≠l:=λe=>by subst e;rw[fb] at h2;exact h2
  rw[eD a] at h1;rw[eD g] at h2;exact h.inj _ _ b' h1 h2
 have a:l'≠l:=λe=>by subst e;rw[fb] at h1;exact h1
 rw[eD a] at h1;exact ho l' h1
theorem aN.pad{β:Nat->aC}{H:CH}{w:ar}(h:aN P B β H w){l:Nat}{b:Nat×Nat}{sz n:Nat}{cs:List ae}{e:aH}{k:Kd}(hb:β l= .live b sz n k)(ho:H.ob l= .cells cs e k)(m:Nat)(j:cs.length+b.2+m<=n) :
 aN P B β (H.set l (.cells (cs++kY m undef) e k)) w:=by
 obtain⟨o,q,a,cs',e',fr,h1,h2,h3,h4,h5,c,d,f⟩:=h.live hb;rw[ho] at a;cases a;refine⟨λl'=> ?_,λl' hl=> ?_,h.inj,h.base⟩
 ·by_cases hl:l'=l
  ·subst hl;simp only[CH.set,iT,hb];refine⟨rfl,cs',e',fr,h1,h2,Sq,λi v hv=> ?_,h5,c,d,λhk=>by have:=f hk;simp;omega⟩;by_cases hi:i<cs.length
   ·rw[ui hi] at hv;exact h4 i v hv
   rw[tu Om] at hv;obtain⟨g,hv⟩:=List.getElem?_eq_some_iff.1 hv;simp at g;have:v=undef:=by rw[<-hv];simp
   subst this;exact⟨cs'[i+b.2]' Om,s0, .undef _⟩
  simp only[CH.set,iN hl];exact h.iK l'
 have:l'≠l:=λe=>by subst e;rw[h.nx _ hl] at ho;cases ho
 simp only[CH.set,iN this];exact h.nx _ hl
theorem aN.rename{β:Nat->aC}{H:CH}{w:ar}(h:aN P B β H w){l:Nat}{b:Nat×Nat}{sz n:Nat}{cs:List ae}{e:aH}{k:Kd}(hb:β l= .live b sz n k)(ho:H.ob l= .cells cs e k)(hk:k≠ .ro)(o j:Nat)(A:o<=cs.length) :
 aN P B (dS (dS β l .dead) H.nx (.live (b.1,o+b.2) sz n .gr)) ((H.set l .dead).new (.cells ((cs.drop o).take j) e .gr)) w/\bD β w (dS (dS β l .dead) H.nx (.live (b.1,o+b.2) sz n .gr)) w:=by
 obtain⟨h',r⟩:=h.kill hb;obtain⟨F,G,t,cs',e',fr,h1,h2,h3,h4,h5,u,I,J⟩:=h.live hb;rw[ho] at t;cases t;have x:=h'.oV;have g:(H.set l .dead).nx=H.nx:=rfl;rw[g] at x;have av:H.nx≠l:=λe=>by rw[<-e,h.nx _ (ag _)] at ho;cases ho
 have s:eU (dS β l .dead) (dS (dS β l .dead) H.nx (.live (b.1,o+b.2) sz n .gr)):=λl'=>by
  by_cases e:l'=H.nx
  ·subst e;exact .inr (.inl x)
  exact .inl (eD e)
 have y : ∀l',(dS β l .dead l').owns b.1->False:=λl' m=>by
  have c:l'≠l:=λe=>by subst e;rw[fb] at m;exact m
  rw[eD c] at m;exact c (h.inj _ _ b.1 m (by rw[hb];exact⟨hk,rfl⟩))
 refine⟨⟨λl'=> ?_,λl' hl=> ?_,λC D b' d f=> ?_,h.base⟩,⟨rfl,rfl,rfl,ag _,λb' E z=>⟨rfl,λl' h1=> ?_⟩,r.ext.trans s⟩⟩
 ·by_cases c:l'=H.nx
  ·subst c;simp only[fb,CH.new,g,iT];exact⟨rfl,cs',e,fr,by rw[h1,(u hk).1],h2,Sq,(λi v hv=>by
    rw[mU] at hv;split at hv;·rw[sk] at hv;obtain⟨v',a,b⟩:=h4 (o+i) v hv;exact⟨v',by rw[<-Nat.add_assoc,Nat.add_comm i o];exact a,(b.mono r.ext).mono s⟩
    cases hv),λ_=>h5 hk,λ_=>⟨rfl,(u hk).2⟩,λe=>(by cases e),λe=>(by cases e)⟩
  simp only[eD c,CH.new,g,iN c];exact(h'.iK l').mono s λ_ _=>rfl
 ·have c:l'≠H.nx:=by simp[CH.new,g] at hl;omega
  simp only[CH.new,g,iN c];exact h'.nx l' (by simp[CH.new,g] at hl⊢;omega)
 ·by_cases c:C=H.nx<;>by_cases q:D=H.nx
  ·rw[c,q]
  ·subst c;rw[fb] at d;rw[eD q] at f;rw[<-d.2] at f;exact(y _ f).elim
  ·subst q;rw[fb] at f;rw[eD c] at d;rw[<-f.2] at d;exact(y _ d).elim
  rw[eD c] at d;rw[eD q] at f;exact h'.inj _ _ b' d f
 by_cases c:l'=H.nx
 ·subst c;rw[fb] at h1;exact z l (by rw[hb];exact⟨hk,h1.2⟩)
 rw[eD c] at h1;exact(r.cY b' E z).2 l' h1
def setCells(cs:List ae)(o:Nat)(us:List ae):List ae:=cs.take o++us++cs.drop (o+us.length)
theorem JI{cs us:List ae}{o:Nat}(h:o+us.length<=cs.length):(setCells cs o us).length=cs.length:=by
 simp[setCells];omega
theorem Ul{cs us:List ae}{o:Nat}{u:ae}(h:o+(us.length+1)<=cs.length):setCells (cs.set o u) (o+1) us=setCells cs o (u::us):=by
 unfold setCells;rw[List.take_set,List.drop_set_of_lt Om];have:cs.take (o+1)=cs.take o++ [cs[o]' Om]:=by rw[List.take_succ_eq_append_getElem Om]
 rw[this,List.set_append_right _ _ Sq,nU];simp[show min o cs.length=o by omega];congr 1;omega
theorem CH.set_set(H:CH)(l:Nat)(a b:dr):(H.set l a).set l b=H.set l b:=by
 unfold CH.set;congr 1;funext k;by_cases e:k=l<;>simp[e]
theorem CH.adq{H:CH}{l:Nat}{a:dr}(h:H.ob l=a):H.set l a=H:=by
 unfold CH.set;cases H;congr 1;funext k
 by_cases e:k=l
 ·subst e;simp;exact h.symm
 simp[e]
theorem aN.Um : ∀ {us us':List ae} {β:Nat->aC} {H:CH} {w:ar} (h:aN P B β H w) {l o:Nat} {b:Nat×Nat} {sz n:Nat} {cs:List ae} {e:aH} {k:Kd} (i:Nat) (hb:β l= .live b sz n k) (ho:H.ob l= .cells cs e k) (hk:k≠ .ro)
 (a:o+i+us.length<=cs.length) (hu:aW β us us') (hc : ∀u∈us,ci u=true),
 ∃w',(storeCells ⟨b.1,o+b.2,none⟩ us' i).run P w= .ok () w'/\aN P B β (H.set l (.cells (setCells cs (o+i) us) e k)) w'/\bD β w β w'
 | [],us',β,H,w,h,l,o,b,sz,n,cs,e,k,i,hb,ho,hk,a,hu,hc=>by
   have:us'= []:=List.length_eq_zero_iff.1 (by simpa using hu.1.symm);subst this;refine⟨w,rfl,?_,bD.refl β w⟩;have:setCells cs (o+i) []=cs:=by simp[setCells]
   rw[this,CH.adq ho];exact h
 | u::us,us',β,H,w,h,l,o,b,sz,n,cs,e,k,i,hb,ho,hk,a,hu,hc=>by
   match us',hu with
   | [],hu=>exact absurd hu.1 s0
   | u'::us',hu=>
     have d:VR β u u':=by
      obtain⟨v',h1,h2⟩:=hu.2 0 u rfl;simp at h1;subst h1;exact h2
     have f:aW β us us':=⟨by simpa using hu.1,λi v hv=>by simpa using hu.2 (i+1) v (by simpa using hv)⟩;have g:o+i+(us.length+1)<=cs.length:=by simpa using a
     obtain⟨⟨x,hx⟩,j,m,q⟩:=h.store (o:=o+i) hb ho hk Om d;obtain⟨w',r,c,s⟩:=aN.Um m (us:=us) (us':=us') (o:=o) (cs:=cs.set (o+i) u) (e:=e) (i+1) hb (by simp[CH.set]) hk Sq f (λy t=>hc y (kD _ t));have z:=d.ci (hc u (ny ..));refine⟨w',?_,?_,q.trans s⟩
     ·simp only[storeCells];rw[C5];rw[C6];have A:(Go.store ⟨b.1,o+i+b.2,none⟩ u':Sem Unit).run P w= .ok () (w.setCell ⟨b.1,o+i+b.2,none⟩ u'):=by
       unfold Go.store;cases u'<;>first | (simp[tv,hx,j];done) | cases z
      simp only[cg,A,bY];exact r
     rw[CH.set_set] at c;rw[show o+(i+1)=(o+i)+1 by omega,Ul (by simpa using g)] at c;exact c
theorem aN.N7{us us':List ae}{β:Nat->aC}{H:CH}{w:ar}(h:aN P B β H w){l o:Nat}{b:Nat×Nat}{sz n:Nat}{cs:List ae}{e:aH}{k:Kd}(hb:β l= .live b sz n k)(ho:H.ob l= .cells cs e k)(hk:k≠ .ro)
 (a:o+us.length<=cs.length) (hu:aW β us us') (hc : ∀u∈us,ci u=true) :
 ∃w',(storeCells ⟨b.1,o+b.2,none⟩ us').run P w= .ok () w'/\aN P B β (H.set l (.cells (setCells cs o us) e k)) w'/\bD β w β w':=
 h.Um 0 hb ho hk a hu hc
theorem Live.reads{β:Nat->aC}{w:ar}{b:Nat×Nat}{sz n:Nat}{k:Kd}{cs:List ae}{e:aH}(h:Live P B β w b sz n k cs e)(o m:Nat)(d:o+m<=cs.length) :
 ∃us':List ae,aW β ((cs.drop o).take m) us'/\us'.length=m/\∀j v,us'[j]? = some v->w.cell? ((⟨b.1,o+b.2,none⟩:ej).add j)=some v:=by
 obtain⟨cs',e',fr,h1,h2,h3,h4,h5⟩:=h;refine⟨(cs'.toList.drop (o+b.2)).take m,⟨Sq,λi v hv=> ?_⟩,Sq,λj v c=> ?_⟩
 ·rw[mU] at hv⊢;split at hv;·rename_i hi;rw[sk] at hv;obtain⟨v',a,b⟩:=h4 _ v hv;exact⟨v',by rw[iP hi,sk,C6];simpa using a,b⟩
  cases hv
 rw[C5];rw[mU] at c;split at c
 ·rw[sk] at c;simp only[C0,h1];simpa using c
 cases c
end
section
open Go Go.RowKit
def lI:List Nat->List ae->List ae->Option Bool
 | [],[],[]=>some true
 | 0::ks, .int k a::xs, .int k' b::ys=>if k=k' then (lI ks xs ys).map (decide (a=b) && ·) else none
 | 1::ks, .string a::xs, .string b::ys=>(lI ks xs ys).map ((a==b) && ·)
 | 2::ks, .bool a::xs, .bool b::ys=>(lI ks xs ys).map ((a==b) && ·)
 | _,_,_=>none
theorem adr{ks:List Nat}{k k':oT}{a b:Int}{xs ys:List ae}:lI (0::ks) (.int k a::xs) (.int k' b::ys)=if k=k' then (lI ks xs ys).map (decide (a=b) && ·) else none:=by simp only[lI]
theorem ads{ks:List Nat}{a b:ByteArray}{xs ys:List ae}:lI (1::ks) (.string a::xs) (.string b::ys)=(lI ks xs ys).map ((a==b) && ·):=by simp only[lI]
theorem adt{ks:List Nat}{a b:Bool}{xs ys:List ae}:lI (2::ks) (.bool a::xs) (.bool b::ys)=(lI ks xs ys).map ((a==b) && ·):=by simp only[lI]
def cr:Sem ae->Option ae
 | .pure v=>some v
 | _=>none
theorem JJ{P:aZ}{s:Sem ae}{v:ae}(h:cr s=some v)(w:ar):s.run P w= .ok v w:=by
 cases s<;>simp[cr] at h;subst h;rfl
inductive dN where
 | tD (x:au)
 | pick (c a b:au)
 | bin (op:BinOp) (x y:au)
 | A6 (neg:Bool) (x y:au)
 | wg (neg:Bool) (x y:au)
 | eqs (neg:Bool) (x y:au)
 | Ds (neg g:Bool) (ks:List Nat) (x y:au)
 | un (op:UnOp) (x:au)
 | conv (k:oT) (x:au)
 | Dt (x:au)
 | off (x:au) (d:Nat)
 | idx (x i:au) (sz:Nat)
 | F1 (x i:au) (n sz:Nat)
 | Du (x i:au)
 | ext (x:au) (i:Nat)
 | len (x:au)
 | lens (x:au)
 | A7 (x:au) (lo hi:Option au)
 | fn (f:bk) (dL:List au)
 | A8 (x:au)
 | F2 (x:au)
 | xL (z:List ae) (ps:List (Nat×Nat×au))
 | j0 (x:au) (d:Nat) (n:Option Nat)
 | F3 (x i:au) (n sz:Nat) (g:Bool)
 | mx (b:Bool) (x y:au)
def eJ (ev:au->ae)(d:Nat):Option au->Option Int
 | none=>some d
 | some x=>match ev x with
   | .int _ n=>some n
   | _=>none
def sA(sz:Nat)(v:ae)(lo hi mx:Int)(full:Bool):Option ae:=
 match v with
 | .slice none 0 0=>if lo=0/\hi=0/\mx=0 then some (.slice none 0 0) else none
 | .slice (some ⟨l,o,none⟩) n c=>
   if 0<=lo/\lo<=hi/\hi<=mx/\mx<=c then
    if lo=mx then (if full then some (.slice (some ⟨0,0,some 0⟩) 0 0) else some (.slice (some ⟨l,o+lo.toNat*sz,none⟩) 0 0))
    else some (.slice (some ⟨l,o+lo.toNat*sz,none⟩) (hi-lo).toNat (mx-lo).toNat)
   else none
 | .slice (some ⟨_,_,some k⟩) 0 0=>if lo=0/\hi=0/\mx=0 then some (.slice (some ⟨0,0,some k⟩) 0 0) else none
 | _=>none
def wi:ae->Nat
 | .slice _ _ c=>c
 | _=>0
def xM:ae->Nat
 | .slice _ n _=>n
 | .string s=>s.size
 | _=>0
def j8:List ae->List (Nat×Nat×ae)->Option (List ae)
 | z,[]=>some z
 | z,(o,s,v)::r=>if isVal v=true/\v.cells.size=s/\o+s<=z.length then j8 (setCells z o v.cells.toList) r else none
def xN:nV->Bool
 | .struct _ | .array _ _=>true
 | _=>false
def uq(cs:List ae)(d:Nat):Option Nat->Option ae
 | none=>cs[d]?
 | some n=>if d+n<=cs.length then some (.agg ((cs.drop d).take n).toArray) else none
def pop (ev:au->ae):dN->Option ae
 | .tD x=>some (ev x)
 | .pick c a b=>match ev c with
   | .bool t=>some (if t then ev a else ev b)
   | _=>none
 | .bin op x y=>match ev x,ev y with
   | .int k a, .int k' b=>cr (binOp op 0 (.int k a) (.int k' b))
   | .string a, .string b=>cr (binOp op 0 (.string a) (.string b))
   | _,_=>none
 | .A6 neg x y=>match ev x,ev y with
   | .bool a, .bool b=>some (.bool (neg ^^ (a==b)))
   | _,_=>none
 | .wg neg x y=>match ev x,ev y with
   | .pointer a, .pointer none=>some (.bool (neg ^^ a.isNone))
   | .pointer none, .pointer b=>some (.bool (neg ^^ b.isNone))
   | _,_=>none
 | .eqs neg x y=>match ev x,ev y with
   | .slice a _ _, .slice none _ _=>some (.bool (neg ^^ a.isNone))
   | .slice none _ _, .slice b _ _=>some (.bool (neg ^^ b.isNone))
   | _,_=>none
 | .Ds neg g ks x y=>if g=true then match ev x,ev y with
   | .agg xs, .agg ys=>(lI ks xs.toList ys.toList).map λr=> .bool (neg ^^ r)
   | _,_=>none
   else none
 | .un op x=>match ev x with
   | .int k n=>cr (Op.unary op (.int k n))
   | .bool b=>cr (Op.unary op (.bool b))
   | _=>none
 | .conv k x=>match ev x with
   | .int _ n=>some (.int k (k.wrap n))
   | _=>none
 | .Dt x=>match ev x with
   | .string s=>some (.string s)
   | _=>none
 | .off x d=>match ev x with
   | .pointer (some ⟨l,o,none⟩)=>some (.pointer (some ⟨l,o+d,none⟩))
   | _=>none
 | .idx x i sz=>match ev x,ev i with
   | .slice (some ⟨l,o,none⟩) n _, .int _ j=>if 0<=j/\j<n then some (.pointer (some ⟨l,o+j.toNat*sz,none⟩)) else none
   | _,_=>none
 | .F1 x i n sz=>match ev x,ev i with
   | .pointer (some ⟨l,o,none⟩), .int _ j=>if 0<=j/\j<n then some (.pointer (some ⟨l,o+j.toNat*sz,none⟩)) else none
   | _,_=>none
 | .Du x i=>match ev x,ev i with
   | .string s, .int _ j=>if 0<=j then (s[j.toNat]?).map λb=> .int .u8 b.toNat else none
   | _,_=>none
 | .ext x i=>match ev x with
   | .tuple vs=>vs[i]?
   | _=>none
 | .len x=>match ev x with
   | .slice _ n _=>some (.int .i64 n)
   | _=>none
 | .lens x=>match ev x with
   | .string s=>some (.int .i64 s.size)
   | _=>none
 | .A7 x lo hi=>match ev x,eJ ev 0 lo,eJ ev (xM (ev x)) hi with
   | .string s,some l,some h=>if 0<=l/\l<=h/\h<=s.size then some (.string (s.extract l.toNat h.toNat)) else none
   | _,_,_=>none
 | .fn f dL=>some (.func (.func f) #[] (dL.map ev).toArray)
 | .F2 x=>match ev x with
   | .slice none 0 0=>some (.pointer none)
   | .slice (some ⟨l,o,none⟩) _ c=>if c=0 then none else some (.pointer (some ⟨l,o,none⟩))
   | _=>none
 | .A8 x=>match ev x with
   | .pointer (some a)=>some (.pointer (some a))
   | _=>none
 | .xL z ps=>(j8 z (ps.map λ(o,s,x)=>(o,s,ev x))).map λcs=> .agg cs.toArray
 | .j0 x d n=>match ev x with
   | .agg cs=>uq cs.toList d n
   | _=>none
 | .F3 x i n sz g=>match ev x,ev i with
   | .agg cs, .int _ j=>if 0<=j/\j<n then uq cs.toList (j.toNat*sz) (if g then some sz else none) else none
   | _,_=>none
 | .mx b x y=>match ev x,ev y with
   | .int k m, .int _ n=>some (.int k (if b then (if n>m then n else m) else (if n<m then n else m)))
   | _,_=>none
def jx(P:aZ)(op:Op)(p:dN):Prop:=
 ∀(β:Nat->aC) (b a:au->ae) (o:cu) (v:ae),o.op=op->(∀x∈op.operands,VR β (b x) (a x))->pop b p=some v->
  ∃v',(∀w,(execOp a o).run P w= .ok (.value v') w)/\VR β v v'
theorem adu{P:aZ}{x:au}:jx P (.move x) (.tD x):=fun β b a o v ho hv h=>by
 simp only[pop,Option.some.injEq] at h;subst h;exact⟨a x,λw=>by simp only[execOp,ho];rfl,hv x So⟩
theorem adw{P:aZ}{x:au}:jx P (.assign x) (.tD x):=fun β b a o v ho hv h=>by
 simp only[pop,Option.some.injEq] at h;subst h;exact⟨a x,λw=>by simp only[execOp,ho];rfl,hv x So⟩
theorem adx{P:aZ}{c a b:au}:jx P (.pick c a b) (.pick c a b):=fun β f d o v ho hv h=>by
 have hc:=hv c So;have ha:=hv a So;have hb:=hv b So;simp only[pop] at h;split at h
 ·rename_i t ht;rw[ht] at hc;cases e:d c<;>rw[e] at hc<;>cases hc;cases h;cases t;·exact⟨d b,λw=>by simp[execOp,ho,e,asBool],hb⟩
  exact⟨d a,λw=>by simp[execOp,ho,e,asBool],ha⟩
 cases h
theorem VR.sB{β:Nat->aC}{k:oT}{n:Int}{v':ae}(h:VR β (.int k n) v'):v'= .int k n:=by cases h;rfl
theorem VR.xO{β:Nat->aC}{s:ByteArray}{v':ae}(h:VR β (.string s) v'):v'= .string s:=by cases h;rfl
theorem VR.xQ{β:Nat->aC}{b:Bool}{v':ae}(h:VR β (.bool b) v'):v'= .bool b:=by cases h;rfl
theorem ady(op:BinOp)(t:aH)(k k':oT)(a b:Int):binOp op t (.int k a) (.int k' b)=binOp op 0 (.int k a) (.int k' b):=by cases op<;>rfl
theorem adz(op:BinOp)(t:aH)(a b:ByteArray):binOp op t (.string a) (.string b)=binOp op 0 (.string a) (.string b):=by cases op<;>rfl
theorem Uo{s:Sem ae}{v:ae}(h:cr s=some v):s= .pure v:=by
 cases s<;>simp[cr] at h;subst h;rfl
theorem Up{op:BinOp}{x y v:ae}(hx:(∃k a k' b,x= .int k a/\y= .int k' b)\/∃a b,x= .string a/\y= .string b)(h:cr (binOp op 0 x y)=some v) : ∀β,VR β v v:=by
 intro β;rcases hx with ⟨k,a,k',b,rfl,rfl⟩ | ⟨a,b,rfl,rfl⟩
 ·have key : ∀s:Sem ae,cr s=some v->(s=Op.shift op k a k' b\/s=FM op k a b\/s=Op.intDiv op k a b\/s=Op.intBits op k a b\/s=Op.intCmp op a b)->VR β v v:=by
   intro s hs hc;rcases hc with rfl | rfl | rfl | rfl | rfl
   ·unfold Op.shift at hs;split at hs;·cases hs
    cases op<;>simp[cr,kE,stuck] at hs<;>subst hs<;>exact .int _ _
   ·unfold FM at hs;cases op<;>simp[cr,kE,stuck] at hs<;>subst hs<;>exact .int _ _
   ·unfold Op.intDiv at hs;split at hs;·cases hs
    cases op<;>simp[cr,kE,stuck] at hs<;>subst hs<;>exact .int _ _
   ·unfold Op.intBits at hs;cases op<;>simp[cr,kE,stuck] at hs<;>subst hs<;>exact .int _ _
   unfold Op.intCmp at hs;cases op<;>simp[cr,kE,stuck] at hs<;>subst hs<;>exact .bool _
  by_cases hk:k=k'
  ·subst hk;refine key _ h ?_;cases op<;>simp[binOp]
  cases op<;>simp[binOp,hk,cr,stuck] at h<;>(refine key _ h ?_;simp)
 have h':cr (Op.stringOp op a b)=some v:=by cases op<;>exact h
 unfold Op.stringOp at h';cases op<;>simp[cr,kE,stuck] at h';case add=>
  split at h'
  ·rename_i c;split at c;·cases c
   cases c;cases h';exact .string _
  cases h'
 all_goals (subst h';exact .bool _)
theorem adA{P:aZ}{op:BinOp}{t u:aH}{x y:au}:jx P (.binOp op t x y u) (.bin op x y):=fun β g f o v ho hv h=>by
 have hx:=hv x So;have c:=hv y So;simp only[pop] at h;split at h
 ·rename_i k a k' b ha hb;rw[ha] at hx;rw[hb] at c;have ex:=hx.sB;have d:=c.sB;refine⟨v,λw=> ?_,Up (.inl ⟨_,_,_,_,rfl,rfl⟩) h β⟩;have e:=JJ (P:=P) h w;simp only[execOp,ho,ex,d,cg];have hg:(eqGuard op t x y (.int k a) (.int k' b)).run P w= .ok () w:=by
   unfold eqGuard;cases op<;>rfl
  rw[hg,ady];simp only[bY,e,cO]
 ·rename_i a b ha hb;rw[ha] at hx;rw[hb] at c;have ex:=hx.xO;have d:=c.xO;refine⟨v,λw=> ?_,Up (.inr ⟨_,_,rfl,rfl⟩) h β⟩;have e:=JJ (P:=P) h w;simp only[execOp,ho,ex,d,cg];have hg:(eqGuard op t x y (.string a) (.string b)).run P w= .ok () w:=by
   unfold eqGuard;cases op<;>rfl
  rw[hg,adz];simp only[bY,e,cO]
 cases h
theorem adB{P:aZ}{op:UnOp}{t:aH}{x:au}:jx P (.unOp op t x) (.un op x):=fun β d c o v ho hv h=>by
 have hx:=hv x So;simp only[pop] at h;split at h
 ·rename_i k n ha;rw[ha] at hx;have ex:=hx.sB;have a:=λw=>JJ (P:=P) h w;refine⟨v,λw=>by simp only[execOp,ho,ex,cg,a,bY,cO],?_⟩;have hs:=Uo h;cases op<;>simp[Op.unary,FM,Op.intBits,stuck,kE] at hs<;>(try subst hs)<;>first | exact .int _ _ | cases hs
 ·rename_i b ha;rw[ha] at hx;have ex:=hx.xQ;have a:=λw=>JJ (P:=P) h w;refine⟨v,λw=>by simp only[execOp,ho,ex,cg,a,bY,cO],?_⟩;have hs:=Uo h;cases op<;>simp[Op.unary,stuck,kE] at hs<;>(try subst hs)<;>first | exact .bool _ | cases hs
 cases h
theorem run_equal_bool{P:aZ}{t:aH}(ht:P.underlying t=some .bool)(a b:Bool)(w:ar):(vU t (.bool a) (.bool b)).run P w= .ok (a==b) w:=by
 unfold vU;obtain⟨d,hd⟩ : ∃d,Op.maxDepth=d+1:=⟨9999,rfl⟩;rw[hd];simp only[Op.equalIn,cg,run_underlying ht,bY,cO]
theorem Dv{P:aZ}{t e:aH}(ht:P.underlying t=some (.pointer e))(a:Option ej)(w:ar) :
 (vU t (.pointer a) (.pointer none)).run P w= .ok a.isNone w/\(vU t (.pointer none) (.pointer a)).run P w= .ok a.isNone w:=by
 unfold vU;obtain⟨d,hd⟩ : ∃d,Op.maxDepth=d+1:=⟨9999,rfl⟩;rw[hd];constructor<;>cases a<;>simp only[Op.equalIn,cg,run_underlying ht,bY,cO]<;>rfl
theorem Uq{P:aZ}{t e:aH}(ht:P.underlying t=some (.slice e))(a:Option ej)(n c m q:Nat)(w:ar) :
 (vU t (.slice a n c) (.slice none m q)).run P w= .ok a.isNone w/\(vU t (.slice none m q) (.slice a n c)).run P w= .ok a.isNone w:=by
 unfold vU;obtain⟨d,hd⟩ : ∃d,Op.maxDepth=d+1:=⟨9999,rfl⟩;rw[hd];constructor<;>cases a<;>simp only[Op.equalIn,cg,run_underlying ht,bY,cO]<;>rfl
def m8 (neg:Bool):BinOp:=if neg then .neq else .eql
theorem Ur{P:aZ}{neg:Bool}{t u:aH}{x y:au}(ht:P.underlying t=some .bool):jx P (.binOp (m8 neg) t x y u) (.A6 neg x y):=fun β f d o v ho hv h=>by
 have hx:=hv x So;have c:=hv y So;simp only[pop] at h;split at h
 ·rename_i a b ha hb;rw[ha] at hx;rw[hb] at c;have ex:=hx.xQ;have e:=c.xQ;cases h;refine⟨_,λw=> ?_, .bool _⟩;simp only[execOp,ho,ex,e,cg];have hg:(eqGuard (m8 neg) t x y (.bool a) (.bool b)).run P w= .ok () w:=by
   unfold eqGuard m8;cases neg<;>rfl
  rw[hg];cases neg<;>simp only[m8,bY,binOp,cg,run_equal_bool ht,cO,iT,aM,iF]<;>simp
 cases h
theorem A9{P:aZ}{neg:Bool}{t u e:aH}{x y:au}(ht:P.underlying t=some (.pointer e)):jx P (.binOp (m8 neg) t x y u) (.wg neg x y):=fun β k c o v ho hv h=>by
 have hx:=hv x So;have g:=hv y So;have hg : ∀(a b:Option ej) w,(eqGuard (m8 neg) t x y (.pointer a) (.pointer b)).run P w= .ok () w:=λa b w=>by
  unfold eqGuard m8;cases neg<;>rfl
 have fin : ∀(a b:Option ej) (r:Bool),(∀w,(vU t (.pointer a) (.pointer b)).run P w= .ok r w)->c x= .pointer a->c y= .pointer b->∀w,(execOp c o).run P w= .ok (.value (.bool (neg ^^ r))) w:=by
  intro a b r i ex j w;simp only[execOp,ho,ex,j,cg,hg,bY];cases neg<;>simp only[m8,binOp,cg,i,bY,cO,iT,aM,iF]<;>simp
 simp only[pop] at h;split at h
 ·rename_i a ha hb;rw[ha] at hx;rw[hb] at g;cases h;cases d:c y<;>rw[d] at g<;>cases g;cases f:c x<;>rw[f] at hx<;>cases hx;·exact⟨_,fin none none true (λw=>(Dv ht _ w).1) f d, .bool _⟩
  ·exact⟨_,fin _ none false (λw=>(Dv ht _ w).1) f d, .bool _⟩
  exact⟨_,fin _ none false (λw=>(Dv ht _ w).1) f d, .bool _⟩
 ·rename_i b av ha hb;rw[ha] at hx;rw[hb] at g;cases h;cases f:c x<;>rw[f] at hx<;>cases hx;cases d:c y<;>rw[d] at g<;>cases g;·exact⟨_,fin none none true (λw=>(Dv ht _ w).2) f d, .bool _⟩
  ·exact⟨_,fin none _ false (λw=>(Dv ht _ w).2) f d, .bool _⟩
  exact⟨_,fin none _ false (λw=>(Dv ht _ w).2) f d, .bool _⟩
 cases h
theorem VR.Ba{β:Nat->aC}{a:Option ej}{n c:Nat}{v':ae}(h:VR β (.slice a n c) v') : ∃a' c',v'= .slice a' n c'/\a'.isNone=a.isNone:=by
 cases h<;>exact⟨_,_,rfl,rfl⟩
theorem Us{P:aZ}{neg:Bool}{t u e:aH}{x y:au}(ht:P.underlying t=some (.slice e)):jx P (.binOp (m8 neg) t x y u) (.eqs neg x y):=fun β A d o v ho hv h=>by
 have hx:=hv x So;have i:=hv y So;have hg : ∀(a b:Option ej) n c m q w,(eqGuard (m8 neg) t x y (.slice a n c) (.slice b m q)).run P w= .ok () w:=λa b n c m q w=>by
  unfold eqGuard m8;cases neg<;>rfl
 have fin : ∀(a b:Option ej) n c m q (r:Bool),(∀w,(vU t (.slice a n c) (.slice b m q)).run P w= .ok r w)->d x= .slice a n c->d y= .slice b m q->∀w,(execOp d o).run P w= .ok (.value (.bool (neg ^^ r))) w:=by
  intro a b n c m q r s ex z w;simp only[execOp,ho,ex,z,cg,hg,bY];cases neg<;>simp only[m8,binOp,cg,s,bY,cO,iT,aM,iF]<;>simp
 simp only[pop] at h;split at h
 ·rename_i a n c m q ha hb;rw[ha] at hx;rw[hb] at i;cases h;obtain⟨f,c',j,hn⟩:=hx.Ba;obtain⟨b',g,k,l⟩:=i.Ba;have:b'=none:=by cases b'<;>simp_all
  subst this;exact⟨_,fin f none n c' m g _ (λw=>(Uq ht f n c' m g w).1) j k,by rw[hn];exact .bool _⟩
 ·rename_i n c a m q av ha hb;rw[ha] at hx;rw[hb] at i;cases h;obtain⟨f,c',j,hn⟩:=hx.Ba;obtain⟨b',g,k,l⟩:=i.Ba;have:f=none:=by cases f<;>simp_all
  subst this;exact⟨_,fin none b' n c' m g _ (λw=>(Uq ht b' m g n c' w).2) j k,by rw[l];exact .bool _⟩
 cases h
theorem adC{P:aZ}{s t:aH}{k:oT}{x:au}{d:nV}(hs:P.underlying s=some d)(ht:P.underlying t=some (.int k)):jx P (.convert s t x) (.conv k x):=fun β b a o v ho hv h=>by
 have hx:=hv x So;simp only[pop] at h;split at h;·rename_i k' n ha;rw[ha] at hx;cases h;refine⟨_,λw=> ?_, .int _ _⟩;simp only[execOp,ho,hx.sB,cg,convert,run_underlying hs,run_underlying ht,bY];rfl
 cases h
theorem adD{P:aZ}{s t:aH}{x:au}(hs:P.underlying s=some .string)(ht:P.underlying t=some .string):jx P (.convert s t x) (.Dt x):=fun β b a o v ho hv h=>by
 have hx:=hv x So;simp only[pop] at h;split at h;·rename_i n ha;rw[ha] at hx;cases h;refine⟨_,λw=> ?_, .string _⟩;simp only[execOp,ho,hx.xO,cg,convert,run_underlying hs,run_underlying ht,bY];rfl
 cases h
theorem tE{P:aZ}{t:aH}{sz:Nat}(h:(P.info? t).map (·.size)=some sz)(w:ar):(sizeOf t).run P w= .ok sz w:=by
 cases hi:P.info? t with
 | none=>simp[hi] at h
 | some i=>simp[hi] at h;simp[sizeOf,typeInfo,hi,h]
theorem adE{P:aZ}{s:aH}{x:au}{f sz:Nat}{fs:Array Field}{j0:Field}(hs:P.underlying s=some (.struct fs))(e:fs[f]? = some j0)(hz:(P.info? j0.type).map (·.size)=some sz)(g:sz≠0) :
 jx P (.fieldAddr s x f) (.off x j0.offset):=fun β i b o v ho hv h=>by
 have hx:=hv x So;simp only[pop] at h;split at h
 ·rename_i l j ha;rw[ha] at hx;cases h;have d : ∀a:ej,b x= .pointer (some a)->∀w,(execOp b o).run P w= .ok (.value (.pointer (some (a.add j0.offset)))) w:=λa ha w=>by
   simp only[execOp,ho,ha,Instr.fieldAt,cg,run_underlying hs,bY,e,C7,cO,fieldPlace,tE hz,iN g]
  cases c:b x<;>rw[c] at hx<;>cases hx;·rename_i hb;exact⟨_,d _ c,by rw[C5,C6];exact .ptr hb⟩
  rename_i hb;exact⟨_,d _ c, .oW _ hb⟩
 cases h
theorem adF{P:aZ}{t e:aH}{x i:au}{sz:Nat}(ht:P.underlying t=some (.slice e))(hz:(P.info? e).map (·.size)=some sz):jx P (.indexAddr t x i) (.idx x i sz):=fun β m b o v ho hv h=>by
 have hx:=hv x So;have hi:=hv i So;simp only[pop] at h;split at h
 ·rename_i l q n c k j ha g;split at h
  ·rename_i hb;rw[ha] at hx;rw[g] at hi;cases h;have d : ∀(a:ej) c',b x= .slice (some a) n c'->∀w,(execOp b o).run P w= .ok (.value (.pointer (some (a.add (j.toNat*sz))))) w:=λa c' ha w=>by
    simp only[execOp,ho,ha,hi.sB,Instr.indexAt,asIntOf,cg,run_underlying ht,bY,cO,Sem.run_ite,iP hb,tE hz]
   generalize f:b x=r at hx;cases hx with
   | sl hl h1 h2 h3 h4 h5=>exact⟨_,d _ _ f,by rw[C5,C6];exact .ptr hl⟩
   | qv a hl _=>exact⟨_,d _ _ f, .oW _ hl⟩
   | qw a hl=>omega
  cases h
 cases h
theorem adG{P:aZ}{t e:aH}{x i:au}{n sz:Nat}(ht:P.underlying t=some (.array n e))(hz:(P.info? e).map (·.size)=some sz):jx P (.indexAddr t x i) (.F1 x i n sz):=fun β g b o v ho hv h=>by
 have hx:=hv x So;have hi:=hv i So;simp only[pop] at h;split at h
 ·rename_i l m k j ha f;split at h
  ·rename_i hb;rw[ha] at hx;rw[f] at hi;cases h;have d : ∀(a:ej),b x= .pointer (some a)->∀w,(execOp b o).run P w= .ok (.value (.pointer (some (a.add (j.toNat*sz))))) w:=λa ha w=>by
    simp only[execOp,ho,ha,hi.sB,Instr.indexAt,asIntOf,cg,run_underlying ht,bY,cO,C7,Sem.run_ite,iP hb,tE hz]
   cases c:b x<;>rw[c] at hx<;>cases hx;·rename_i hl;exact⟨_,d _ c,by rw[C5,C6];exact .ptr hl⟩
   rename_i hl;exact⟨_,d _ c, .oW _ hl⟩
  cases h
 cases h
theorem adH{P:aZ}{t:aH}{x i:au}(ht:P.underlying t=some .string):jx P (.index t x i) (.Du x i):=fun β e a o v ho hv h=>by
 have hx:=hv x So;have hi:=hv i So;simp only[pop] at h;split at h
 ·rename_i s k j ha c;rw[ha] at hx;rw[c] at hi;split at h
  ·rename_i d;cases hs:s[j.toNat]? with
   | none=>rw[hs] at h;cases h
   | some b=>
     rw[hs] at h;cases h;refine⟨_,λw=> ?_, .int _ _⟩;simp only[execOp,ho,hx.xO,hi.sB,Instr.index,asIntOf,cg,run_underlying ht,bY,cO,iP d,hs]
  cases h
 cases h
theorem VR.adI{β:Nat->aC}{xa:Array ae}{v':ae}(h:VR β (.tuple xa) v'):xa= #[]\/∃bs,v'= .tuple bs/\xa.size=bs.size/\∀i (h1:i<xa.size) (h2:i<bs.size),VR β xa[i] bs[i]:=by
 cases h with
 | undef=>exact .inl rfl
 | tuple h hi=>exact .inr ⟨_,rfl,h,hi⟩
theorem adJ{P:aZ}{x:au}{i:Nat}:jx P (.extract x i) (.ext x i):=fun β c a o v ho hv h=>by
 have hx:=hv x So;simp only[pop] at h;split at h
 ·rename_i vs ha;rw[ha] at hx;rcases hx.adI with rfl | ⟨bs,b,hs,hi⟩
  ·simp at h
  obtain⟨h1,rfl⟩:=Array.getElem?_eq_some_iff.1 h;refine⟨_,λw=> ?_,hi i h1 Om⟩;simp only[execOp,ho,b,Instr.extract,sm (show i<bs.size by omega),cg,cO,bY]
 cases h
theorem adK{P:aZ}{x:au}:jx P (.nilCheck x) (.A8 x):=fun β e b o v ho hv h=>by
 have hx:=hv x So;simp only[pop] at h;split at h
 ·rename_i a ha;rw[ha] at hx;cases h;obtain⟨c,d⟩ : ∃c,b x= .pointer (some c):=by
   generalize b x=f at hx;cases hx<;>exact⟨_,rfl⟩
  rw[d] at hx;exact⟨.pointer (some c),λw=>by simp only[execOp,ho,d];rfl,hx⟩
 cases h
theorem adL{P:aZ}{t:aH}{x:au}:jx P (.call ⟨.builtin .unsafeSliceData,#[x],#[t]⟩) (.F2 x):=fun β j b o v ho hv h=>by
 have hx:=hv x S0;simp only[pop] at h;split at h
 ·rename_i ha;cases h;have d:b x= .slice none 0 0:=by
   generalize b x=f at hx;rw[ha] at hx;cases hx;rfl
  exact⟨.pointer none,λw=>by simp only[execOp,ho,resolve,cg,cO,bY,invoke,builtin,C8,dq,lF,d,Lib.run_unsafeSliceData_nil], .A4⟩
 ·rename_i l g n c ha;split at h;·cases h
  rename_i hc;cases h;rw[ha] at hx;have d : ∃a c',b x= .slice (some a) n c'/\c'≠0/\VR β (.pointer (some ⟨l,g,none⟩)) (.pointer (some a)):=by
   generalize b x=f at hx;cases hx with
   | sl hl h1 h2=>exact⟨_,_,rfl,Om, .ptr hl⟩
   | qv a hl h2=>exact⟨_,_,rfl,Om, .oW _ hl⟩
   | qw a hl=>exact absurd rfl hc
  obtain⟨a,c',d,e,i⟩:=d;exact⟨_,λw=>by simp only[execOp,ho,resolve,cg,cO,bY,invoke,builtin,C8,dq,lF,d,Lib.run_unsafeSliceData_row (hc:=e),bY],i⟩
 cases h
theorem adM{P:aZ}{f:bk}{dL:Array au}:jx P (.makeFunc (.func f) #[] dL) (.fn f dL.toList):=fun β b a o v ho hv h=>by
 simp only[pop,Option.some.injEq] at h;subst h;refine⟨.func (.func f) #[] (dL.map a),λw=>by simp[execOp,ho,Instr.makeFunc], .fn f s0 λi h1 h2=> ?_⟩;simp only[List.getElem_toArray,List.getElem_map,Jn,Array.getElem_map];exact hv _ So
def F4(P:aZ)(f:Field):Option Nat:=match P.underlying f.type with
 | some (.int _)=>some 0
 | some .string=>some 1
 | some .bool=>some 2
 | _=>none
def Dw(P:aZ):Nat->List Field->Option (List Nat)
 | _,[]=>some []
 | i,f::fs=>if f.offset=i/\f.name≠ "_" then match F4 P f,Dw P (i+1) fs with
   | some k,some ks=>some (k::ks)
   | _,_=>none
   else none
@[irreducible] def F5 {P:aZ} (t:aH):List Nat:=match P.underlying t with
  | some (.struct fs)=>(Dw P 0 fs.toList).getD []
  | _=> []
@[irreducible] def JK {P:aZ} (t:aH):Bool:=match P.underlying t with
  | some (.struct fs)=>(Dw P 0 fs.toList).isSome&&(!P.stoodInHeld t && !P.eqGuardType P.depth t)
  | _=>false
theorem adN{β:Nat->aC} : ∀ {ks:List Nat} {xs ys a b:List ae} {r:Bool},aW β xs a->aW β ys b->lI ks xs ys=some r->lI ks a b=some r:=by
 intro ks;induction ks with
 | nil=>
   intro xs ys a b r hx e h;cases xs with
   | nil=>
     cases ys with
     | nil=>
       have c:a= []:=List.length_eq_zero_iff.1 hx.1.symm;have d:b= []:=List.length_eq_zero_iff.1 e.1.symm;rw[c,d];exact h
     | cons y ys=>simp[lI] at h
   | cons x xs=>simp[lI] at h
 | cons k ks g=>
   intro xs ys a b r hx e h;cases xs with
   | nil=>cases k<;>simp[lI] at h
   | cons x xs=>
     cases ys with
     | nil=>unfold lI at h;split at h<;>simp_all
     | cons y ys=>
       cases a with
       | nil=>have:=hx.1;simp at this
       | cons x' a=>
         cases b with
         | nil=>have:=e.1;simp at this
         | cons q b=>
           obtain⟨s,n,j⟩:=hx.2 0 x rfl;obtain⟨t,o,l⟩:=e.2 0 y rfl;simp at n o;subst n o;have tx:aW β xs a:=⟨by simpa using hx.1,λi v hv=>by simpa using hx.2 (i+1) v (by simpa using hv)⟩;have m:aW β ys b:=⟨by simpa using e.1,λi v hv=>by simpa using e.2 (i+1) v (by simpa using hv)⟩;unfold lI at h;split at h;·simp_all
           ·rename_i c d f;cases c;cases d;cases f;cases j;cases l;split at h;·rename_i hk;rw[jX] at h;obtain⟨p,h1,h2⟩:=h;rw[adr,iP hk,g tx m h1];simp[h2]
            cases h
           ·rename_i c d f;cases c;cases d;cases f;cases j;cases l;rw[jX] at h;obtain⟨p,h1,h2⟩:=h;rw[ads,g tx m h1];simp[h2]
           ·rename_i c d f;cases c;cases d;cases f;cases j;cases l;rw[jX] at h;obtain⟨p,h1,h2⟩:=h;rw[adt,g tx m h1];simp[h2]
           cases h
theorem adO{P:aZ}{w:ar}{d:Nat}{xs ys:Array ae} : ∀ {fs:List Field} {i:Nat} {ks:List Nat} {r:Bool},Dw P i fs=some ks->lI ks (xs.toList.drop i) (ys.toList.drop i)=some r->(Op.eqFields (d+1) xs ys fs).run P w= .ok r w:=by
 intro fs;induction fs with
 | nil=>
   intro i ks r c he;simp only[Dw,Option.some.injEq] at c;subst c;unfold lI at he;split at he<;>first | (cases he;rfl) | (cases he) | (rename_i h _ _;cases h)
 | cons f fs u=>
   intro i ks r c he;simp only[Dw] at c;split at c;case isFalse=>cases c
   rename_i hg;obtain⟨ho,x⟩:=hg;split at c;case h_2=>cases c
   rename_i k db hk y;cases c;have g : ∀(m:Array ae) (v:ae) (tl:List ae),P.plainKey f.type=true->m.toList.drop i=v::tl->(part f.type m f.offset).run P w= .ok v w/\m.toList.drop (i+1)=tl:=λm v tl hp hz=>by
    have G:m.toList[i]? = some v:=by
     have:=congrArg (λl=>l[0]?) hz;simpa using this
    refine⟨run_part_plain w hp (by rw[ho];simpa using G),?_⟩;rw[<-List.drop_drop,hz];rfl
   have j:P.plainKey f.type=true:=by
    unfold F4 at hk;unfold Program.plainKey;split at hk<;>first | (rename_i e;rw[e]) | cases hk
   unfold lI at he;split at he;·rename_i h _ _;cases h
   ·rename_i C k1 a D H b E n o p;cases n;obtain⟨s,t1⟩:=g xs _ _ j o;obtain⟨t,t2⟩:=g ys _ _ j p;split at he;case isFalse=>cases he
    rename_i z;subst z;rw[jX] at he;obtain⟨F,h1,h2⟩:=he;have hu : ∃k',P.underlying f.type=some (.int k'):=by
     unfold F4 at hk;split at hk;·rename_i q e;exact⟨q,e⟩
     ·cases hk
     ·cases hk
     cases hk
    obtain⟨k',hu⟩:=hu;simp only[Op.eqFields,x,ne_eq,not_false_eq_true,iT,cg,s,t,bY,run_equalIn_int w d f.type k1 k' a b hu];rw[<-t1,<-t2] at h1;have:=u y h1;by_cases A:a=b
    ·subst A;simp only[beq_self_eq_true,Bool.not_true,aM,iF,this];simpa using h2
    have hb:(a==b)=false:=by simpa using A
    simp only[hb,FN,iT,cO];simp[A] at h2;rw[h2]
   ·rename_i C a D b E n o p;cases n;obtain⟨s,t1⟩:=g xs _ _ j o;obtain⟨t,t2⟩:=g ys _ _ j p;rw[jX] at he;obtain⟨F,h1,h2⟩:=he;have hu:P.underlying f.type=some .string:=by
     unfold F4 at hk;split at hk;·cases hk
     ·rename_i e;exact e
     ·cases hk
     cases hk
    simp only[Op.eqFields,x,ne_eq,not_false_eq_true,iT,cg,s,t,bY,run_equalIn_string w d f.type a b hu,<-beq_toListBytes];rw[<-t1,<-t2] at h1;have:=u y h1;cases hb:(a==b) with
    | true=>
      simp only[Bool.not_true,aM,iF,this];rw[hb] at h2;simpa using h2
    | false=>
      simp only[FN,iT,cO];rw[hb] at h2;simp at h2;rw[h2]
   ·rename_i C a D b E n o p;cases n;obtain⟨s,t1⟩:=g xs _ _ j o;obtain⟨t,t2⟩:=g ys _ _ j p;rw[jX] at he;obtain⟨F,h1,h2⟩:=he;have hu:P.underlying f.type=some .bool:=by
     unfold F4 at hk;split at hk;·cases hk
     ·cases hk
     ·rename_i e;exact e
     cases hk
    simp only[Op.eqFields,x,ne_eq,not_false_eq_true,iT,cg,s,t,bY,run_equalIn_bool' w d f.type a b hu];rw[<-t1,<-t2] at h1;have:=u y h1;cases hb:(a==b) with
    | true=>
      simp only[Bool.not_true,aM,iF,this];rw[hb] at h2;simpa using h2
    | false=>
      simp only[FN,iT,cO];rw[hb] at h2;simp at h2;rw[h2]
   cases he
theorem Uv{P:aZ}{neg:Bool}{t u:aH}{x y:au}{fs:Array Field}(ht:P.underlying t=some (.struct fs)):jx P (.binOp (m8 neg) t x y u) (.Ds neg (@JK P t) (@F5 P t) x y):=fun β q a o v ho hv h=>by
 have hx:=hv x So;have b:=hv y So;simp only[pop] at h;split at h;case isFalse=>cases h
 rename_i hg;unfold JK at hg;simp only[ht,eZ,xo,Option.isSome_iff_exists] at hg;obtain⟨⟨ks,g⟩,hp,j⟩:=hg;have br : @F5 P t=ks:=by unfold F5;simp only[ht,g,qp]
 rw[br] at h;split at h;case h_2=>cases h
 rename_i xs ys ha hb;rw[ha] at hx;rw[hb] at b;rw[jX] at h;obtain⟨r,h1,h2⟩:=h;subst h2;have i:P.fieldsOf t=fs:=by unfold Program.fieldsOf;rw[ht]
 generalize k:a x=s at hx;generalize c:a y=z at b;cases hx with
 | @agg _ e l m=>
   cases b with
   | @agg _ f sy n=>
     have h3:=adN (aW.arr.2 ⟨l,m⟩) (aW.arr.2 ⟨sy,n⟩) h1;refine⟨.bool (neg ^^ r),λw=> ?_, .bool _⟩;have he:(Op.equalIn 10000 t (.agg e) (.agg f)).run P w= .ok r w:=by
      rw[run_equalIn_struct w 9999 t e f (by rw[i];exact ht) hp,i];exact adO (d:=9998) g (by simpa using h3)
     have hg:=run_eqGuard_agg w (m8 neg) t x y e f j;simp only[execOp,ho,k,c,cg,hg,bY];cases neg;·simp only[m8,aM,iF,run_eql_struct,he,bY,cO];simp
     simp only[m8,iT,run_neq_struct,he,bY,cO];simp
end
section
open Go Go.RowKit
variable {P:aZ}
theorem Uw{ev':au->ae}{o:cu}{x:au}{t:aH}(ho:o.op= .call { callee:= .builtin .len,args:= #[x],argTypes:= #[t] }){v:ae}(w:ar)(h:(Builtin.len_ #[t] o.type #[ev' x]).run P w= .ok v w) :
 (execOp ev' o).run P w= .ok (.value v) w:=by
 simp only[execOp,ho,resolve,cg,cO,bY,invoke,builtin,C8,dq,lF,h]
theorem adP{t e:aH}{x:au}(ht:P.underlying t=some (.slice e)):jx P (.call { callee:= .builtin .len,args:= #[x],argTypes:= #[t] }) (.len x):=fun β f b o v ho hv h=>by
 have hx:=hv x S0;simp only[pop] at h;split at h;·rename_i a n c ha;rw[ha] at hx;cases h;obtain⟨g,c',d,_⟩:=hx.Ba;refine⟨_,λw=>Uw ho w ?_, .int _ _⟩;simp[Builtin.len_,d,run_underlying ht,goInt]
 cases h
theorem adQ{t:aH}{x:au}(ht:P.underlying t=some .string):jx P (.call { callee:= .builtin .len,args:= #[x],argTypes:= #[t] }) (.lens x):=fun β b a o v ho hv h=>by
 have hx:=hv x S0;simp only[pop] at h;split at h;·rename_i s ha;rw[ha] at hx;cases h;refine⟨_,λw=>Uw ho w ?_, .int _ _⟩;simp[Builtin.len_,hx.xO,run_underlying ht,goInt]
 cases h
def xR (ev':au->ae)(d:Nat)(x:Option au)(n:Int):Prop:=(x=none/\n=d)\/∃y k,x=some y/\ev' y= .int k n
theorem rj{β:Nat->aC}{ev ev':au->ae}{d d':Nat}{x:Option au}{n:Int}(h:eJ ev d x=some n)(hv : ∀y,x=some y->VR β (ev y) (ev' y))(hd:x=none->d'=d):xR ev' d' x n:=by
 cases x with
 | none=>simp[eJ] at h;exact .inl ⟨rfl,by rw[hd rfl];exact h.symm⟩
 | some y=>
   simp only[eJ] at h;split at h;·rename_i k m a;cases h;have:=hv y rfl;rw[a] at this;exact .inr ⟨y,k,rfl,this.sB⟩
   cases h
theorem adR{k:oT}{n:Int}{y:Nat}{code:BoundsCode}(a:0<=n)(h1:n<=y)(w:ar):(Instr.sliceBound (.int k n) y code).run P w= .ok n.toNat w:=by
 simp[Instr.sliceBound,asIntOf,a,h1]
theorem Ux{ev':au->ae}{b:Bool}{len cap:Nat}{lo hi mx:Option au}{l h m:Int}(hl:xR ev' 0 lo l)(hh:xR ev' len hi h)(a:xR ev' cap mx m)(c:mx.isSome=true->hi.isSome=true)
 (d:0<=l) (h1:l<=h) (h2:h<=m) (h3:m<=cap) (w:ar):(Instr.sliceBounds b len cap (lo.map ev') (hi.map ev') (mx.map ev')).run P w= .ok (l.toNat,h.toNat,m.toNat) w:=by
 unfold Instr.sliceBounds;rcases a with ⟨rfl,rfl⟩ | ⟨e,f,rfl,g⟩<;>rcases hh with ⟨rfl,rfl⟩ | ⟨i,j,rfl,k⟩<;>rcases hl with ⟨rfl,rfl⟩ | ⟨n,o,rfl,el⟩<;>
  simp only[Option.map_none,fo,cg,cO,bY,xq, *]<;>
  first
  | rfl
  | (simp at c;done)
  | (repeat (first | rw[adR Om Om] | simp only[bY,cO,xq] | rfl))
theorem adS{t:aH}{x:au}{lo hi:Option au}(ht:P.underlying t=some .string):jx P (.slice t x lo hi none) (.A7 x lo hi):=fun β k a o v ho hv h=>by
 have hx:=hv x So;simp only[pop] at h;split at h
 ·rename_i s l hh ha hl c;split at h;·rename_i hb;rw[ha] at hx;rw[ha] at c;cases h;have f:=rj (d':=0) hl (λy e=>hv y (by simp[pB,e])) (λ_=>rfl);have i:=rj (d':=s.size) c (λy e=>hv y (by simp[pB,e])) (λ_=>rfl);refine⟨_,λw=> ?_, .string _⟩;have j:xR a s.size none (s.size:Int):= .inl ⟨rfl,rfl⟩;have d:=Ux (P:=P) (b:=false) (cap:=s.size) f i j s0 hb.1 hb.2.1 hb.2.2 (pD _) w;simp only[Option.map_none] at d;simp only[execOp,ho,hx.xO,Instr.sliceAt,Instr.slice,cg,run_underlying ht,bY,Option.map_none,Option.isSome_none,aM,iF,d,cO]
  cases h
 cases h
theorem adT{t:aH}{d:nV}(h:P.underlying t=some d)(hd:xN d=false)(w:ar):(isAgg t).run P w= .ok false w:=by
 unfold isAgg;simp only[cg,run_underlying h,bY];cases d<;>first | rfl | cases hd
theorem adU{t:aH}{d:nV}(h:P.underlying t=some d)(hd:xN d=true)(w:ar):(isAgg t).run P w= .ok true w:=by
 unfold isAgg;simp only[cg,run_underlying h,bY];cases d<;>first | rfl | cases hd
theorem Uz{β:Nat->aC}{cs cs':Array ae}(c:cs.size=cs'.size)(hi : ∀i (h1:i<cs.size) (h2:i<cs'.size),VR β cs[i] cs'[i]){e:aH}{d n:Nat}{b:nV}{g:Bool}(he:P.underlying e=some b)(hg:xN b=g)
 (hn:(P.info? e).map (·.size)=some n) {v:ae} (h:uq cs.toList d (if g then some n else none)=some v) : ∃v',(∀w,(part e cs' d).run P w= .ok v' w)/\VR β v v':=by
 cases g with
 | false=>
   simp only[aM,iF,uq] at h;obtain⟨h1,h2⟩:=List.getElem?_eq_some_iff.1 h;have hd:d<cs'.size:=by
    have:d<cs.size:=by simpa using h1
    omega
   refine⟨cs'[d],λw=> ?_,?_⟩;·simp only[part,cg,adT he hg,bY,aM,iF,sm hd,cO]
   rw[<-h2];simpa using hi d (by simpa using h1) hd
 | true=>
   simp only[iT,uq] at h;split at h
   ·rename_i a;cases h;refine⟨.agg (cs'.extract d (d+n)),λw=> ?_, .agg ?_ λi h1 h2=> ?_⟩;·simp only[part,cg,adU he hg,bY,iT,tE hn,cO]
    ·have:d+n<=cs.size:=by simpa using a
     simp;omega
    simp only[NJ,nU,iH,Jo,Array.size_extract] at h1 h2;simp only[List.getElem_toArray,List.getElem_take,List.getElem_drop,Jn,Array.getElem_extract];exact hi _ _ _
   cases h
theorem adV{s:aH}{x:au}{f n:Nat}{fs:Array Field}{j0:Field}{b:nV}{g:Bool}(hs:P.underlying s=some (.struct fs))(c:fs[f]? = some j0)(he:P.underlying j0.type=some b)(hg:xN b=g)
 (hn:(P.info? j0.type).map (·.size)=some n):jx P (.field s x f) (.j0 x j0.offset (if g then some n else none)):=fun β j a o v ho hv h=>by
 have hx:=hv x So;simp only[pop] at h;split at h
 ·rename_i cs ha;rw[ha] at hx;obtain⟨bs,d,e,hi⟩ : ∃bs,a x= .agg bs/\cs.size=bs.size/\∀i (h1:i<cs.size) (h2:i<bs.size),VR β cs[i] bs[i]:=by
   generalize a x=q at hx;cases hx with
   | agg h hi=>exact⟨_,rfl,h,hi⟩
  obtain⟨v',h1,h2⟩:=Uz e hi he hg hn h;refine⟨v',λw=> ?_,h2⟩;simp only[execOp,ho,Instr.field,d,asAgg,cg,run_underlying hs,bY,c,cO,h1]
 cases h
theorem adW{t e:aH}{x i:au}{n sz:Nat}{c:nV}{g:Bool}(ht:P.underlying t=some (.array n e))(he:P.underlying e=some c)(hg:xN c=g)
 (hn:(P.info? e).map (·.size)=some sz):jx P (.index t x i) (.F3 x i n sz g):=fun β m a o v ho hv h=>by
 have hx:=hv x So;have hi:=hv i So;simp only[pop] at h;split at h
 ·rename_i cs k j ha d;rw[ha] at hx;rw[d] at hi;split at h
  ·rename_i hb;obtain⟨bs,f,l,b⟩ : ∃bs,a x= .agg bs/\cs.size=bs.size/\∀i (h1:i<cs.size) (h2:i<bs.size),VR β cs[i] bs[i]:=by
    generalize a x=q at hx;cases hx with
    | agg h hi=>exact⟨_,rfl,h,hi⟩
   obtain⟨v',h1,h2⟩:=Uz l b he hg hn h;refine⟨v',λw=> ?_,h2⟩;simp only[execOp,ho,f,hi.sB,Instr.index,asIntOf,cg,run_underlying ht,bY,cO,iP hb,tE hn,h1]
  cases h
 cases h
theorem UA{b:Bool}{x y:au}{ts:Array aH}:jx P (.call { callee:= .builtin (if b then .max else .min),args:= #[x,y],argTypes:=ts }) (.mx b x y):=fun β d c o v ho hv h=>by
 have hx:=hv x S0;have a:=hv y S0;simp only[pop] at h;split at h
 ·rename_i k m k' n ha hb;rw[ha] at hx;rw[hb] at a;cases h;refine⟨_,λw=> ?_, .int _ _⟩;cases b<;>simp[execOp,ho,resolve,cg,cO,bY,invoke,builtin,hx.sB,a.sB,Builtin.max_,Builtin.min_,Builtin.max2,Builtin.min2]
 cases h
inductive gU where
 | ld (x:au)
 | j9 (n:Nat) (x:au)
 | pI (e sz:Nat) (x:au) (lo hi mx:Option au)
 | b2s (x:au)
 | zy (f:aH->Nat->Nat->Bool) (x:au)
 | Bb (neg:Bool) (x y:au)
 | Dz (kk:Nat) (z:ae) (ok:Bool) (x i:au)
def DA:Nat->ae->ae->Option Bool
 | 0, .int k a, .int k' b=>if k=k' then some (a==b) else none
 | 1, .string a, .string b=>some (a==b)
 | 2, .bool a, .bool b=>some (a==b)
 | _,_,_=>none
def oc(kk:Nat)(k:ae):List pC->Nat->Option (Option (Nat×ae))
 | [],_=>some none
 | e::es,i=>match DA kk k e.key with
   | some true=>some (some (i,e.val))
   | some false=>oc kk k es (i+1)
   | none=>none
def xT (z:ae)(ok:Bool):Option (Option (Nat×ae))->Option ae
 | some (some (_,v))=>some (if ok then .tuple #[v, .bool true] else v)
 | some none=>some (if ok then .tuple #[z, .bool false] else z)
 | none=>none
def isKey:Nat->ae->Bool
 | 0, .int _ _=>true
 | 1, .string _=>true
 | 2, .bool _=>true
 | _,_=>false
def DB (kk:Nat)(z:ae)(ok:Bool)(k:ae)(o:dr):Option ae:=match o with
 | .map es _=>if isKey kk k=true then xT z ok (oc kk k es.toList 0) else none
 | _=>none
def pF (H:CH)(e:aH):ae->Bool
 | .slice (some ⟨l,_,none⟩) _ _=>match H.ob l with
   | .cells _ e' .ro=>true
   | .cells _ e' _=>e'==e
   | _=>false
 | _=>true
def rm:List ae->Option (List UInt8)
 | []=>some []
 | .int .u8 n::r=>(rm r).map (al n.toNat:: ·)
 | _::_=>none
def bg (H:CH)(ev:au->ae):gU->Option ae
 | .Bb neg x y=>match ev x,ev y with
   | .pointer a, .pointer none=>some (.bool (neg ^^ a.isNone))
   | .pointer none, .pointer b=>some (.bool (neg ^^ b.isNone))
   | .pointer (some ⟨l,o,none⟩), .pointer (some ⟨l',o',none⟩)=>match H.ob l with
     | .cells _ _ _=>if l=l' then some (.bool (neg ^^ (o==o'))) else none
     | _=>none
   | _,_=>none
 | .zy f x=>match ev x with
   | .pointer none=>some (.pointer none)
   | .pointer (some ⟨l,o,none⟩)=>match H.ob l with
     | .cells cs e .ex=>if f e cs.length o=true then some (.pointer (some ⟨l,o,none⟩)) else none
     | _=>none
   | _=>none
 | .ld x=>match ev x with
   | .pointer (some ⟨l,o,none⟩)=>match H.ob l with
     | .cells cs _ _=>cs[o]?
     | _=>none
   | _=>none
 | .j9 n x=>match ev x with
   | .pointer (some ⟨l,o,none⟩)=>match H.ob l with
     | .cells cs _ _=>if o+n<=cs.length then some (.agg ((cs.drop o).take n).toArray) else none
     | _=>none
   | _=>none
 | .pI e sz x lo hi mx=>match eJ ev 0 lo,eJ ev (xM (ev x)) hi,eJ ev (wi (ev x)) mx with
   | some l,some h,some m=>if pF H e (ev x)&&(mx.isNone||hi.isSome) then sA sz (ev x) l h m mx.isSome else none
   | _,_,_=>none
 | .b2s x=>match ev x with
   | .slice none 0 0=>some (.string .empty)
   | .slice (some ⟨l,o,none⟩) n _=>match H.ob l with
     | .cells cs _ _=>if o+n<=cs.length then (rm ((cs.drop o).take n)).map λbs=> .string ⟨bs.toArray⟩ else none
     | _=>none
   | .slice (some ⟨_,_,some _⟩) 0 _=>some (.string .empty)
   | _=>none
 | .Dz kk z ok x i=>match ev x with
   | .map none=>if isKey kk (ev i)=true then xT z ok (some none) else none
   | .map (some l)=>DB kk z ok (ev i) (H.ob l)
   | _=>none
def xU(P:aZ)(op:Op)(r:gU):Prop:=
 ∀(B:Nat) (β:Nat->aC) (H:CH) (w:ar) (b a:au->ae) (o:cu) (v:ae),o.op=op->(∀x∈op.operands,VR β (b x) (a x))->aN P B β H w->bg H b r=some v->
  ∃v',(execOp a o).run P w= .ok (.value v') w/\VR β v v'
theorem UB{t:aH}{d:nV}(h:P.underlying t=some d)(hd:(match d with | .struct _ | .array _ _=>true | _=>false)=false)(w:ar):(isAgg t).run P w= .ok false w:=by
 simp only[isAgg,cg,run_underlying h,bY];cases d<;>first | rfl | cases hd
theorem adX{t:aH}{d:nV}(h:P.underlying t=some d)(hd:(match d with | .struct _ | .array _ _=>true | _=>false)=true)(w:ar):(isAgg t).run P w= .ok true w:=by
 simp only[isAgg,cg,run_underlying h,bY];cases d<;>first | rfl | cases hd
theorem adY{t:aH}{d:nV}{x:au}(h:P.underlying t=some d)(hd:(match d with | .struct _ | .array _ _=>true | _=>false)=false):xU P (.load t x) (.ld x):=λB β H w m c o v ho hv f a=>by
 have hx:=hv x So;simp only[bg] at a;split at a
 ·rename_i l n ha;split at a;·rename_i cs e k g;rw[ha] at hx;obtain⟨b,z,i,hc⟩:=f.load hx g;obtain⟨u,hu,j⟩:=hc _ _ a;refine⟨u,?_,j⟩;simp only[execOp,ho,i,Instr.loadAt,C7,loadVar,cg,cO,bY,UB h hd,aM,iF];simp[Go.load,tv,hu]
  cases a
 cases a
theorem UC{t:aH}{d:nV}{n:Nat}{x:au}(h:P.underlying t=some d)(hd:(match d with | .struct _ | .array _ _=>true | _=>false)=true)(hn:(P.info? t).map (·.size)=some n):xU P (.load t x) (.j9 n x):=λB β H w y f o v ho hv r c=>by
 have hx:=hv x So;simp only[bg] at c;split at c
 ·rename_i l g ha;split at c
  ·rename_i cs e k s;split at c
   ·rename_i i;cases c;rw[ha] at hx;obtain⟨b,sz,m,hb,u⟩:=r.cells s;have q:f x= .pointer (some ⟨b.1,g+b.2,none⟩):=by
     generalize q:f x=z at hx;cases hx with
     | ptr hl=>rw[hb] at hl;cases hl;rfl
     | oW a hl=>rw[hb] at hl;cases hl
    obtain⟨j,h1,h2,h3⟩:=u.reads g n i;refine⟨.agg j.toArray,?_, .agg Sq ?_⟩;·simp only[execOp,ho,q,Instr.loadAt,C7,loadVar,cg,cO,bY,adX h hd,iT,tE hn];have:=run_loadCells_list (P:=P) w ⟨b.1,g+b.2,none⟩ j h3;rw[h2] at this;simp only[this,bY]
    have:=(aW.arr (xa:=((cs.drop g).take n).toArray) (bs:=j.toArray)).1 (by simpa using h1);exact this.2
   cases c
  cases c
 cases c
end
section
open Go Go.RowKit
variable {P:aZ}
theorem DE{ev':au->ae}{o:cu}{t e sz:Nat}{x:au}{lo hi mx:Option au}(ho:o.op= .slice t x lo hi mx)(ht:P.underlying t=some (.slice e))(hz:(P.info? e).map (·.size)=some sz)
 {a:Option ej} {n c:Nat} (hx:ev' x= .slice a n c) {l h m:Int} (hl:xR ev' 0 lo l) (hh:xR ev' n hi h) (d:xR ev' c mx m) (f:mx.isSome=true->hi.isSome=true)
 (g:0<=l) (h1:l<=h) (h2:h<=m) (h3:m<=c) (w:ar) :
 (execOp ev' o).run P w= .ok (.value (.slice (if m.toNat=l.toNat then a else a.map (·.add (l.toNat*sz))) (h.toNat-l.toNat) (m.toNat-l.toNat))) w:=by
 have i:=Ux (P:=P) (b:=true) hl hh d f g h1 h2 h3 w;simp only[execOp,ho,hx,Instr.sliceAt,Instr.slice,cg,run_underlying ht,bY,i,tE hz,cO]
theorem adZ{t e sz:Nat}{x:au}{lo hi mx:Option au}(ht:P.underlying t=some (.slice e))(hz:(P.info? e).map (·.size)=some sz):xU P (.slice t x lo hi mx) (.pI e sz x lo hi mx):=λB β H w T i o v ho hv N d=>by
 have hx:=hv x So;simp only[bg] at d;split at d
 ·rename_i l h m hl hh q;split at d
  ·rename_i r;obtain⟨r,kG⟩:=by simpa using r
   have C:mx.isSome=true->hi.isSome=true:=λg=>by cases mx<;>simp_all
   have U:=λy (e:lo=some y)=>hv y (by simp[pB,e]);have s:=λy (e:hi=some y)=>hv y (by simp[pB,e]);have D:=λy (e:mx=some y)=>hv y (by simp[pB,e]);have bl:=rj (d':=0) hl U (λ_=>rfl);generalize rp:T x=vx at *;generalize u:i x=W at *;cases hx with
   | zw=>
     simp only[sA] at d;split at d;·rename_i g;obtain⟨rfl,rfl,rfl⟩:=g;cases d;refine⟨_,DE ho ht hz u bl (rj hh s (λ_=>rfl)) (rj q D (λ_=>rfl)) C (pD _) (pD _) (pD _) s0 w,?_⟩;simp;exact .zw
     cases d
   | v9 a=>
     simp only[sA] at d;split at d;·rename_i g;obtain⟨rfl,rfl,rfl⟩:=g;cases d;refine⟨_,DE ho ht hz u bl (rj hh s (λ_=>rfl)) (rj q D (λ_=>rfl)) C (pD _) (pD _) (pD _) s0 w,?_⟩;simp;exact .v9 a
     cases d
   | xH a c=>
     simp only[sA] at d;split at d
     ·rename_i g;obtain⟨rfl,rfl,rfl⟩:=g;cases d;cases mx with
      | none=>
        refine⟨_,DE (m:=(c:Int)) ho ht hz u bl (rj hh s (λ_=>rfl)) (.inl ⟨rfl,rfl⟩) s0 (pD _) (pD _) Om s0 w,?_⟩;simp;split<;>exact .xH _ _
      | some y=>
        refine⟨_,DE (m:=0) ho ht hz u bl (rj hh s (λ_=>rfl)) (rj q D (λe=>(by cases e))) C (pD _) (pD _) Om Om w,?_⟩;simp;exact .xH _ _
     cases d
   | @qv l' I n c c' a hd h2=>
     have E:=N.iK l';rw[hd] at E;cases O:H.ob l'<;>rw[O] at E<;>try exact E.elim
     simp[pF,O] at r
   | @qw l' I b f X k a hb=>
     simp only[sA] at d;split at d
     ·rename_i g;obtain⟨Q,R,Y,Z⟩:=g;have F:l=0:=by omega
      have G:h=0:=by omega
      have S:m=0:=by omega
      subst F G S;rw[iP rfl] at d;have z:=DE (m:=0) ho ht hz u bl (rj hh s (λ_=>rfl)) (rj q D (λ_=>rfl)) C (pD _) (pD _) (pD _) s0 w;cases mx with
      | none=>
        simp only[Option.isSome_none,aM,iF] at d;cases d;refine⟨_,z,?_⟩;simp;exact .qw _ hb
      | some y=>
        simp only[Option.isSome_some,iT] at d;cases d;refine⟨_,z,?_⟩;simp;exact .v9 _
     cases d
   | @sl l' I b f X n c c' k hb h1 h2 h3 h4 h5=>
     obtain⟨cs,j,E,lJ⟩:=N.live hb;have J:k≠ .ro->f=sz:=λhk=>by
      have he:j=e:=by
       simp only[pF,E] at r;cases k with
       | ro=>exact absurd rfl hk
       | ex=>simpa using r
       | gr=>simpa using r
      subst he;obtain⟨_,_,_,_,_,_,_,g,_⟩:=lJ;have g:=g hk;rw[hz] at g;exact(Option.some.inj g).symm
     simp only[sA] at d;split at d
     ·rename_i od;obtain⟨Q,R,Y,Z⟩:=od;have bh:=rj (d':=n) hh s (λ_=>rfl);have key : ∀A:Int,xR i c' mx A->m<=A->A<=c'->∃v',(execOp i o).run P w= .ok (.value v') w/\v'=(.slice (if A.toNat=l.toNat then some ⟨b.1,I+b.2,none⟩ else some ⟨b.1,I+l.toNat*sz+b.2,none⟩) (h.toNat-l.toNat) (A.toNat-l.toNat)):=by
       intro A bm DF m9;refine⟨_,DE ho ht hz u bl bh bm C Q R Om m9 w,?_⟩;simp[C5,C6]
      cases mx with
      | none=>
        have K:m=c:=by simpa[eJ,wi] using q.symm
        subst K;obtain⟨v',z,rfl⟩:=key c' (.inl ⟨rfl,rfl⟩) Om (pD _);refine⟨_,z,?_⟩;split at d
        ·rename_i L;simp only[Option.isSome_none,aM,iF] at d;cases d;have M:h.toNat-l.toNat=0:=by omega
         rw[M];by_cases mD:c'=l.toNat
         ·have Dm:((c':Int).toNat-l.toNat)=0:=by omega
          rw[Dm];split<;>exact .qw _ hb
         rw[iN Om];refine .sl hb (Nat.zero_le _) (Nat.zero_le _) Om (λg=> ?_) (λg=> ?_)
         ·have:=h4 g;have j:=J g;subst j;have G:l.toNat*f+(c'-l.toNat)*f=c'*f:=by rw[<-oU];congr 1;omega
          simp only[xq];omega
         have:=h5 g;simp only[xq];omega
        rename_i L;cases d;rw[iN Om];have F:(h-l).toNat=h.toNat-l.toNat:=by omega
        rw[F];have hle:l.toNat<=c':=by omega
        refine .sl hb Om Om (by simp only[xq];omega) (λg=> ?_) (λg=> ?_)
        ·have:=h4 g;have j:=J g;subst j;have G:l.toNat*f+(c'-l.toNat)*f=c'*f:=by rw[<-oU];congr 1;omega
         simp only[xq];omega
        have:=h5 g;simp only[xq];omega
      | some y=>
        obtain⟨v',z,rfl⟩:=key m (rj q D (λe=>(by cases e))) (pD _) Om;refine⟨_,z,?_⟩;split at d
        ·rename_i L;simp only[Option.isSome_some,iT] at d;cases d;have M:h.toNat-l.toNat=0:=by omega
         have mE:m.toNat-l.toNat=0:=by omega
         rw[M,mE];split<;>exact .v9 _
        rename_i L;cases d;rw[iN Om];have F:(h-l).toNat=h.toNat-l.toNat:=by omega
        have G:(m-l).toNat=m.toNat-l.toNat:=by omega
        rw[F,G];refine .sl hb Om (ag _) Om (λg=> ?_) (λg=>rfl);have:=h4 g;have j:=J g;subst j;have S:l.toNat*f+(m.toNat-l.toNat)*f=m.toNat*f:=by rw[<-oU];congr 1;omega
        have e4:m.toNat*f<=c'*f:=C9 _ Om;omega
     cases d
   | _=>simp[sA] at d
  cases d
 cases d
end
section
open Go Go.RowKit
variable {P:aZ}
theorem UD(off:Nat) : ∀(vs:List ae) (i:Nat) (cells:Array ae),off+i+vs.length<=cells.size->
 ((vs.zipIdx i).foldl (λcs (x:ae×Nat)=>cs.setIfInBounds (off+x.2) x.1) cells).toList=setCells cells.toList (off+i) vs
 | [],i,cells,_=>by simp[setCells]
 | v::r,i,cells,h=>by
   simp only[List.zipIdx_cons,List.foldl_cons];rw[UD off r (i+1) _ (by simp at h⊢;omega)];rw[Array.toList_setIfInBounds,show off+(i+1)=(off+i)+1 by omega,Ul (by simp at h⊢;omega)]
theorem aW.set{β:Nat->aC}{cs cs' us us':List ae}{o:Nat}(h:aW β cs cs')(hu:aW β us us'):aW β (setCells cs o us) (setCells cs' o us'):=by
 have take : ∀n,aW β (cs.take n) (cs'.take n):=λn=>⟨by simp[h.1],λi v hv=>by
  rw[mU] at hv⊢;split at hv;·obtain⟨v',a,b⟩:=h.2 i v hv;exact⟨v',by simp[*],b⟩
  cases hv⟩
 have drop : ∀n,aW β (cs.drop n) (cs'.drop n):=λn=>⟨by simp[h.1],λi v hv=>by
  rw[sk] at hv⊢
  exact h.2 _ v hv⟩
 unfold setCells;rw[hu.1];exact aW.append (aW.append (take o) hu) (drop _)
theorem ad0{cs us:List ae}{o:Nat}(h:o+us.length<=cs.length):(setCells cs o us).length=cs.length:=JI h
theorem JL{β:Nat->aC}{ev ev':au->ae}{place:Nat->Option (Nat×Nat)} : ∀(ps:List (Nat×au)) (pl:List (Nat×Nat×au)) (z cs:List ae) (a:Array ae),
 pl=ps.filterMap (λp=>(place p.1).map λq=>(q.1,q.2,p.2))->(∀p∈ps,(place p.1).isSome=true)->(∀p∈ps,VR β (ev p.2) (ev' p.2))->aW β z a.toList->j8 z (pl.map λ(o,s,x)=>(o,s,ev x))=some cs->
 ∃cs',Instr.fill place a (ps.map λ(i,x)=>(i,ev' x))=some cs'/\aW β cs cs'.toList
 | [],pl,z,cs,a,hp,_,_,hz,h=>by
   subst hp;simp[j8] at h;subst h;exact⟨a,rfl,hz⟩
 | (i,x)::ps,pl,z,cs,a,hp,hs,hv,hz,h=>by
   subst hp;have hi:=hs (i,x) (ny ..);obtain⟨⟨off,size⟩,b⟩:=Option.isSome_iff_exists.1 hi;simp only at b;simp only[List.filterMap_cons,b,fo,dq,j8] at h;split at h
   ·rename_i hg;obtain⟨c,d,e⟩:=hg;have hx:=hv (i,x) (ny ..);have hc:=hx.cells c;have f:(ev x).cells.size=(ev' x).cells.size:=by simpa using hc.1
    have g:z.length=a.size:=by simpa using hz.1
    obtain⟨cs',h1,h2⟩:=JL (ev:=ev) (ev':=ev') (place:=place) ps _ (setCells z off (ev x).cells.toList) cs ((ev' x).cells.zipIdx.foldl (λcs (x:ae×Nat)=>cs.setIfInBounds (off+x.2) x.1) a) rfl
     (λp hp=>hs p (kD _ hp)) (λp hp=>hv p (kD _ hp)) (by
       have:=UD off (ev' x).cells.toList 0 a Sq;rw[Nat.add_zero] at this;rw[<-Array.foldl_toList,Array.toList_zipIdx,this];exact hz.set hc) h
    refine⟨cs',?_,h2⟩;simp only[dq,Instr.fill,b];rw[iN Sq];exact h1
   cases h
theorem ad1{t:aH}{fs:Array Field}{z:List ae}{ps:Array (Nat×au)}(ht:P.underlying t=some (.struct fs))(hz:(P.info? t).bind (·.zero)=some (.agg z.toArray))(j : ∀β,aW β z z)
 (b:List Nat) (g:fs.toList.map (λf=>(P.info? f.type).map (·.size))=b.map some) (k : ∀p∈ps.toList,p.1<fs.size) :
 jx P (.build t ps) (.xL z (ps.toList.filterMap λp=>((fs.toList.map (·.offset)).zip b)[p.1]?.map λq=>(q.1,q.2,p.2))):=fun β e c o v ho hv h=>by
 simp only[pop] at h;cases hb:j8 z ((ps.toList.filterMap λp=>((fs.toList.map (·.offset)).zip b)[p.1]?.map λq=>(q.1,q.2,p.2)).map λ(o,s,x)=>(o,s,e x)) with
 | none=>rw[hb] at h;cases h
 | some cs=>
   rw[hb] at h;cases h;have d:b.length=fs.size:=by have:=congrArg l7 g;simpa using this.symm
   have hplaces : ∀w:ar,(fs.mapM λf=>do pure (f.offset,<-sizeOf f.type):Sem (Array (Nat×Nat))).run P w= .ok ((fs.toList.map (·.offset)).zip b).toArray w:=by
    intro w;have key : ∀(l:List Field) (a:List Nat),l.map (λf=>(P.info? f.type).map (·.size))=a.map some->(l.mapM λf=>do pure (f.offset,<-sizeOf f.type):Sem (List (Nat×Nat))).run P w= .ok ((l.map (·.offset)).zip a) w:=by
     intro l;induction l with
     | nil=>intro a hs;cases a<;>simp_all
     | cons f l m=>
       intro a hs;cases a with
       | nil=>simp at hs
       | cons s a=>
         simp only[dq,List.cons.injEq] at hs;simp only[List.mapM_cons,cg,tE hs.1,bY,cO,m a hs.2,dq,List.zip_cons_cons]
    rw[Array.mapM_eq_mapM_toList];simp only[Sem.run_map,key _ _ g,bY]
   obtain⟨cs',h1,h2⟩:=JL (β:=β) (ev:=e) (ev':=c) (place:=λi=>((fs.toList.map (·.offset)).zip b).toArray[i]?) ps.toList _ z cs z.toArray rfl
    (λp hp=>by have:=k p hp;simp[this,d]) (λp hp=>hv _ (by simp[pB];exact⟨p.1,by simpa using hp⟩)) (by simpa using j β) (by simpa using hb)
   refine⟨.agg cs',λw=> ?_, .agg ?_ ?_⟩
   ·cases hi:P.info? t with
    | none=>simp[hi] at hz
    | some inf=>
      have n:inf.zero=some (.agg z.toArray):=by simpa[hi] using hz
      simp only[execOp,ho,Instr.build,cg,zeroValue,typeInfo,tv,hi,bY,cO,n,run_underlying ht,hplaces,NK,h1,Value.cells,program,Sem.run_pure']
   ·have:=h2.1;simpa using this
   have:=(aW.arr (xa:=cs.toArray) (bs:=cs')).1 (by simpa using h2);exact this.2
theorem ad2{t e n sz:aH}{z:List ae}{ps:Array (Nat×au)}(ht:P.underlying t=some (.array n e))(hn:(P.info? e).map (·.size)=some sz)(hz:(P.info? t).bind (·.zero)=some (.agg z.toArray))(c : ∀β,aW β z z) :
 jx P (.build t ps) (.xL z (ps.toList.map λp=>(p.1*sz,sz,p.2))):=fun β b a o v ho hv h=>by
 simp only[pop] at h;cases hb:j8 z ((ps.toList.map λp=>(p.1*sz,sz,p.2)).map λ(o,s,x)=>(o,s,b x)) with
 | none=>rw[hb] at h;cases h
 | some cs=>
   rw[hb] at h;cases h;obtain⟨cs',h1,h2⟩:=JL (β:=β) (ev:=b) (ev':=a) (place:=λi=>some (i*sz,sz)) ps.toList (ps.toList.map λp=>(p.1*sz,sz,p.2)) z cs z.toArray (by simp[List.filterMap_eq_map'])
    (λp hp=>rfl) (λp hp=>hv _ (by simp[pB];exact⟨p.1,by simpa using hp⟩)) (by simpa using c β) hb
   refine⟨.agg cs',λw=> ?_, .agg ?_ ?_⟩
   ·cases hi:P.info? t with
    | none=>simp[hi] at hz
    | some inf=>
      have d:inf.zero=some (.agg z.toArray):=by simpa[hi] using hz
      simp only[execOp,ho,Instr.build,cg,zeroValue,typeInfo,tv,hi,bY,cO,d,run_underlying ht,tE hn,NK,h1,Value.cells,program,Sem.run_pure']
   ·have:=h2.1;simpa using this
   have:=(aW.arr (xa:=cs.toArray) (bs:=cs')).1 (by simpa using h2);exact this.2
inductive AK where
 | ptr
 | sl (n c:Nat)
def kH:AK->Nat->ae
 | .ptr,l=> .pointer (some ⟨l,0,none⟩)
 | .sl n c,l=> .slice (some ⟨l,0,none⟩) n c
def JN (mk:AK)(b sz:Nat)(k:Kd)(size:Nat)(v':ae):Prop:=
 match mk with
 | .ptr=>v'= .pointer (some ⟨b,0,none⟩)
 | .sl n c=>∃c',v'= .slice (some ⟨b,0,none⟩) n c'/\n<=c/\c<=c'/\c'<=maxLen/\c'*sz<=size/\(k≠ .gr->c'=c)
inductive oX where
 | box (e:aH) (x:au)
 | new (e:aH) (z:List ae)
 | xW (e sz n:Nat) (z:List ae) (ps:List (Nat×au))
 | F7 (e sz bytes:Nat) (z:List ae) (l c:au)
def mF(z:List ae)(n:Nat):List ae:=(List.range n).map λi=>z.getD (i % z.length) undef
def fV (ev:au->ae):oX->Option (List ae×aH×Kd×AK)
 | .box e x=>if isVal (ev x) then some ((ev x).cells.toList,e, .ex, .ptr) else none
 | .new e z=>some (z,e, .ex, .ptr)
 | .xW e sz n z ps=>if n*sz<=16777216/\n<=16777216 then (j8 (mF z (n*sz)) (ps.map λ(i,x)=>(i*sz,sz,ev x))).map λcs=>(cs,e, .ex, .sl n n) else none
 | .F7 e sz bytes z l c=>match ev l,ev c with
   | .int _ n, .int _ m=>if 0<=n/\n<=m/\(bytes:Int)*m<=281474976710656/\m<=9223372036854775807 then some (mF z (m.toNat*sz),e, .ex, .sl n.toNat m.toNat) else none
   | _,_=>none
def F8(P:aZ)(op:Op)(r:oX):Prop:=
 ∀(β:Nat->aC) (b a:au->ae) (o:cu) (cs:List ae) (e:aH) (k:Kd) (mk:AK),o.op=op->(∀x∈op.operands,VR β (b x) (a x))->fV b r=some (cs,e,k,mk)->
  k≠ .ro/\∃sz,(P.info? e).map (·.size)=some sz/\∀w:ar,∃(cs':Array ae) (fr:Nat×Nat) (w':ar) (v':ae),(execOp a o).run P w= .ok (.value v') w'/\w'.heap=w.heap.push (.cells cs' e fr)/\w'.os=w.os/\w'.tape=w.tape/\w'.output=w.output/\
   cs.length<=cs'.size/\(k= .ex->cs.length=cs'.size)/\(∀(i:Nat) (v:ae),cs[i]? = some v->∃u,cs'[i]? = some u/\VR β v u)/\(zx cs'.size fr)/\JN mk w.heap.size sz k cs'.size v'
theorem JO{β:Nat->aC}{cs:List ae}{cs':Array ae}(h:aW β cs cs'.toList):cs.length=cs'.size/\∀(i:Nat) (v:ae),cs[i]? = some v->∃u,cs'[i]? = some u/\VR β v u:=
 ⟨by simpa using h.1,λi v hv=>by obtain⟨u,a,b⟩:=h.2 i v hv;exact⟨u,by simpa using a,b⟩⟩
theorem ad3{e sz:aH}{x:au}(hz:(P.info? e).map (·.size)=some sz):F8 P (.box e x) (.box e x):=fun β c a o cs d k mk ho hv h=>by
 have hx:=hv x So;simp only[fV] at h;split at h;·rename_i b;simp only[Option.some.injEq,Prod.mk.injEq] at h;obtain⟨rfl,rfl,rfl,rfl⟩:=h;obtain⟨h1,h2⟩:=JO (hx.cells b);refine⟨s0,sz,hz,λw=>⟨(a x).cells,(0,0),w.alloc (.cells (a x).cells e),_,?_,rfl,rfl,rfl,rfl,Om,λ_=>h1,h2, .inl rfl,rfl⟩⟩;simp[execOp,ho,Instr.box,newVar,newRow,newObj,tv]
 cases h
theorem ad4{e sz:aH}{z:ae}(hz:(P.info? e).map (·.size)=some sz)(a:(P.info? e).bind (·.zero)=some z)(b : ∀β,aW β z.cells.toList z.cells.toList):F8 P (.alloc e) (.new e z.cells.toList):=fun β f c o cs g k mk ho hv h=>by
 simp only[fV,Option.some.injEq,Prod.mk.injEq] at h;obtain⟨rfl,rfl,rfl,rfl⟩:=h;obtain⟨h1,h2⟩:=JO (b β);cases hi:P.info? e with
 | none=>simp[hi] at a
 | some inf=>
   have d:inf.zero=some z:=by simpa[hi] using a
   refine⟨s0,sz,by rw[<-hi];exact hz,λw=>⟨z.cells,(0,0),w.alloc (.cells z.cells e),_,?_,rfl,rfl,rfl,rfl,Om,λ_=>h1,h2, .inl rfl,rfl⟩⟩;simp[execOp,ho,Instr.alloc,newVar,newRow,newObj,tv,zeroValue,typeInfo,hi,d,program]
theorem UE{β:Nat->aC}{z:Array ae}(c : ∀β,aW β z.toList z.toList)(hz:0<z.size)(n:Nat):aW β (mF z.toList n) ((Da n).map (z[· % z.size]!)).toList:=by
 refine⟨by simp[mF],λi v hv=> ?_⟩;unfold mF at hv;rw[kF] at hv;cases a:(List.range n)[i]? with
 | none=>rw[a] at hv;cases hv
 | some j=>
   rw[a] at hv;obtain⟨hi,rfl⟩:=List.getElem?_eq_some_iff.1 a;have d:i<n:=by simpa using hi
   simp only[fo,Option.some.injEq,List.getElem_range,Jo] at hv;have b:i % z.size<z.size:=Nat.mod_lt _ hz;obtain⟨v',h1,h2⟩:=(c β).2 (i % z.size) z[i % z.size] s0;have e:v=z[i % z.size]:=by rw[<-hv];simp[List.getD,b]
   refine⟨z[i % z.size],by simp[d,b],?_⟩;have:v'=z[i % z.size]:=by
    rw[Array.getElem?_toList,sm b] at h1;exact(Option.some.inj h1).symm
   rw[e];rw[this] at h2;exact h2
theorem ad5{t e sz n:aH}{z:ae}{ps:Array (Nat×au)}(ht:P.underlying t=some (.slice e))(hz:(P.info? e).map (·.size)=some sz)(m:(P.info? e).bind (·.zero)=some z)(u : ∀β,aW β z.cells.toList z.cells.toList)(y:0<z.cells.size) :
 F8 P (.buildSlice t n ps) (.xW e sz n z.cells.toList ps.toList):=fun β c a o cs G k mk ho hv h=>by
 simp only[fV] at h;split at h
 ·rename_i d;cases hb:j8 (mF z.cells.toList (n*sz)) (ps.toList.map λ(i,x)=>(i*sz,sz,c x)) with
  | none=>rw[hb] at h;cases h
  | some A=>
    rw[hb] at h;simp only[fo,Option.some.injEq,Prod.mk.injEq] at h;obtain⟨rfl,rfl,rfl,rfl⟩:=h;have C:aW β (mF z.cells.toList (n*sz)) ((Da (n*sz)).map (z.cells[· % z.cells.size]!)).toList:=UE u y _;obtain⟨cs',h1,h2⟩:=JL (β:=β) (ev:=c) (ev':=a) (place:=λi=>some (i*sz,sz)) ps.toList (ps.toList.map λp=>(p.1*sz,sz,p.2)) _ A _ s0 (λp hp=>rfl)
     (λp hp=>hv _ (by simp[pB];exact⟨p.1,by simpa using hp⟩)) C (by rw[List.map_map];exact hb)
    obtain⟨q,D⟩:=JO h2;have b:cs'.size=n*sz:=by
     have key : ∀(pl:List (Nat×Nat×ae)) (z cs:List ae),j8 z pl=some cs->cs.length=z.length:=by
      intro pl;induction pl with
      | nil=>intro z cs hh;simp[j8] at hh;rw[hh]
      | cons p pl E=>
        intro z cs hh;obtain⟨o,s,v⟩:=p;simp only[j8] at hh;split at hh;·rename_i g;rw[E _ _ hh,ad0 Sq]
        cases hh
     have:=key _ _ _ hb;rw[<-q,this];simp[mF]
    cases hi:P.info? e with
    | none=>simp[hi] at m
    | some inf=>
      have F:inf.zero=some z:=by simpa[hi] using m
      have f:inf.size=sz:=by simpa[hi] using hz
      refine⟨s0,sz,by simpa using f,λw=>⟨cs',(0,0),w.alloc (.cells cs' e),_,?_,rfl,rfl,rfl,rfl,Om,λ_=>q,D, .inl rfl,n,rfl,ag _,ag _,?_,by rw[b];exact ag _,λ_=>rfl⟩⟩
      ·have r : ¬(16777216<n*sz):=Nat.not_lt.2 d.1;by_cases j:n*sz=0
       ·have l:((Da (n*sz)).map ((#[]:Array ae)[· % (#[]:Array ae).size]!))=((Da (n*sz)).map (z.cells[· % z.cells.size]!)):=by rw[j];simp
        simp only[execOp,ho,Instr.buildSlice,cg,run_underlying ht,bY,sizeOf,typeInfo,program,tv,hi,cO,f];rw[iN (by simpa using r)];simp only[cg,cO,bY,iP j,l,NK];rw[h1];rfl
       simp only[execOp,ho,Instr.buildSlice,cg,run_underlying ht,bY,sizeOf,typeInfo,program,tv,hi,cO,f];rw[iN (by simpa using r)];simp only[cg,cO,bY,iN j,zeroValue,typeInfo,program,tv,hi,F,NK];rw[h1];rfl
      unfold maxLen;omega
 cases h
theorem ad8{t e sz bytes:Nat}{z:ae}{l c:au}(ht:P.underlying t=some (.slice e))(hz:(P.info? e).map (λi=>(i.size,i.bytes))=some (sz,bytes))(a:(P.info? e).bind (·.zero)=some z)(d : ∀β,aW β z.cells.toList z.cells.toList)(f:0<z.cells.size) :
 F8 P (.makeSlice t l c) (.F7 e sz bytes z.cells.toList l c):=fun β G g o cs H k mk ho hv h=>by
 have hl:=hv l So;have hc:=hv c So;simp only[fV] at h;split at h
 ·rename_i j n q m hn r;split at h
  ·rename_i hb;obtain⟨s,u,v,x⟩:=hb;rw[hn] at hl;rw[r] at hc;simp only[Option.some.injEq,Prod.mk.injEq] at h;obtain⟨rfl,rfl,rfl,rfl⟩:=h;cases hi:P.info? e with
   | none=>simp[hi] at a
   | some inf=>
     have y:inf.zero=some z:=by simpa[hi] using a
     obtain⟨hs,A⟩:inf.size=sz/\inf.bytes=bytes:=by simpa[hi] using hz
     have C:aW β (mF z.cells.toList (m.toNat*sz)) ((Da (m.toNat*sz)).map (z.cells[· % z.cells.size]!)).toList:=UE d f _;obtain⟨D,E⟩:=JO C;have F:((Da (m.toNat*sz)).map (z.cells[· % z.cells.size]!)).size=m.toNat*sz:=by simp
     refine⟨s0,sz,by simpa using hs,λw=>⟨(Da (m.toNat*sz)).map (z.cells[· % z.cells.size]!),(0,0),w.alloc (.cells ((Da (m.toNat*sz)).map (z.cells[· % z.cells.size]!)) e),_,?_,rfl,rfl,rfl,rfl,Om,λ_=>D,E, .inl rfl,m.toNat,rfl,Om,ag _,by unfold maxLen;omega,by rw[F];exact ag _,λ_=>rfl⟩⟩;have b:=run_make (P:=P) w t e inf z ht hi y j q n m s u (by rw[A];exact v) x;rw[hs] at b;simp only[execOp,ho,hl.sB,hc.sB,cg,b,bY,cO];rfl
  cases h
 cases h
end
section
open Go Go.RowKit
variable {P:aZ}
inductive hO where
 | st (n:Nat) (x v:au)
 | app (e sz bytes:Nat) (s x:au)
 | F9 (sz:Nat) (d s:au)
 | F'
 | Gb (kk:Nat) (x k v:au)
 | Gc (x:au)
 | cU (x:au)
 | Ge (x:au)
 | Gf (x:au)
 | del (kk:Nat) (x k:au)
 | hU (x:au)
 | s2b (e bytes:Nat) (x:au)
 | Gg (e:aH) (p n:au)
def Kd.eM:Kd->Bool
 | .ro=>true
 | _=>false
theorem Kd.Gh{k:Kd}(h:k.eM=false):k≠ .ro:=λe=>by subst e;cases h
def Kd.kI:Kd->Bool
 | .ex=>true
 | _=>false
def mG (full:Bool)(H:CH)(l:Nat)(o:dr):CH:=if full then H.new o else (H.set l .dead).new o
def pJ(H:CH)(sz:Nat):ae->Option (List ae×Nat)
 | .slice none 0 0=>some ([],0)
 | .slice (some ⟨_,_,some _⟩) 0 0=>some ([],0)
 | .slice (some ⟨l,o,none⟩) m _=>if m=0 then some ([],0) else match H.ob l with
   | .cells cs _ _=>if o+m*sz<=cs.length then some ((cs.drop o).take (m*sz),m) else none
   | _=>none
 | .string s=>if sz=1 then some (s.data.toList.map λb=> .int .u8 b.toNat,s.size) else none
 | _=>none
def xY (kk l:Nat)(k v:ae)(H:CH)(o:dr):Option (ae×CH):=match o with
 | .map es c=>if isKey kk k=true/\isVal v=true then match oc kk k es.toList 0 with
   | some (some (i,_))=>some (undef,H.set l (.map (es.modify i λe=> { e with key:=k,val:=v }) c))
   | some none=>some (undef,H.set l (.map (es.push { key:=k,val:=v,born:=c }) (c+1)))
   | none=>none
   else none
 | _=>none
def DG (l:Nat)(H:CH)(o:dr):Option (ae×CH):=match o with
 | .qx s p=>if p<s.size then some (.tuple #[.bool true, .int .i64 p, .int .i32 (Db s p).1],H.set l (.qx s (p+(Db s p).2))) else some (.tuple #[.bool false],H)
 | _=>none
def UF (l:Nat)(H:CH)(o:dr):Option (ae×CH):=match o with
 | .map _ _=>some (.chan (some H.nx),H.new (.xJ l))
 | _=>none
def UG (H:CH)(o:dr):Option (ae×CH):=match o with
 | .xJ m=>match H.ob m with
   | .map es _=>if es.size=0 then some (.tuple #[.bool false],H) else none
   | _=>none
 | _=>none
def UH (kk l:Nat)(k:ae)(H:CH)(o:dr):Option (ae×CH):=match o with
 | .map es c=>if isKey kk k=true then match oc kk k es.toList 0 with
   | some none=>some (.tuple #[],H.set l (.map es c))
   | _=>none
   else none
 | _=>none
def Od (H:CH)(v:ae):Option (ae×CH):=match v with
 | .slice (some ⟨l,o,none⟩) n c=>match H.ob l with
   | .cells _ _ k=>if k.eM=false/\n≠0 then some (.slice (some ⟨l,o,none⟩) n c,H) else none
   | _=>none
 | _=>none
def Bf:List ae->Option (List UInt8)
 | []=>some []
 | .int .u8 n::r=>if 0<=n/\n<256 then (Bf r).map (al n.toNat:: ·) else none
 | _::_=>none
def Gi (e:aH)(H:CH)(p n:ae):Option (ae×CH):=match p,n with
 | .pointer none, .int .i64 0=>some (.string .empty,H)
 | .pointer (some ⟨l,o,none⟩), .int .i64 m=>if m=0 then some (.string .empty,H) else match H.ob l with
   | .cells cs e' k=>if k.eM=false/\e'=e/\0<=m/\o+m.toNat<=cs.length/\m<=9223372036854775807 then match Bf ((cs.drop o).take m.toNat) with
     | some bs=>some (.string ⟨bs.toArray⟩,H.set l .dead)
     | none=>none
     else none
   | _=>none
 | _,_=>none
def cy (H:CH)(ev:au->ae):hO->Option (ae×CH)
 | .st n x v=>match ev x with
   | .pointer (some ⟨l,o,none⟩)=>match H.ob l with
     | .cells cs e k=>if k.eM=false/\isVal (ev v)=true/\(ev v).cells.size=n/\o+n<=cs.length/\(ev v).cells.toList.all ci=true then some (undef,H.set l (.cells (setCells cs o (ev v).cells.toList) e k)) else none
     | _=>none
   | _=>none
 | .app e sz bytes s x=>match pJ H sz (ev x) with
   | some (xs,m)=>match ev s with
     | .slice none 0 0=>if m=0 then some (.slice none 0 0,H) else if xs.all ci=true/\m*bytes<=140737488355328/\m<=maxLen then some (.slice (some ⟨H.nx,0,none⟩) m m,H.new (.cells xs e .gr)) else none
     | .slice (some ⟨a,b,some 0⟩) 0 0=>if m=0 then some (.slice (some ⟨a,b,some 0⟩) 0 0,H) else if xs.all ci=true/\m*bytes<=140737488355328/\m<=maxLen then some (.slice (some ⟨H.nx,0,none⟩) m m,H.new (.cells xs e .gr)) else none
     | .slice (some ⟨l,o,none⟩) n c=>match H.ob l with
       | .cells cs e' k=>
         if m=0 then some (.slice (some ⟨l,o,none⟩) n c,H)
         else if o=0/\e'=e/\k.eM=false/\n*sz<=cs.length/\xs.all ci=true/\(n+m)*bytes<=140737488355328/\n+m<=maxLen then
          some (.slice (some ⟨H.nx,0,none⟩) (n+m) (n+m),mG (k.kI&&decide (c<n+m)) H l (.cells (cs.take (n*sz)++xs) e .gr))
         else if k.kI=true/\c<n+m/\e'=e/\o+n*sz<=cs.length/\xs.all ci=true/\(n+m)*bytes<=140737488355328/\n+m<=maxLen then
          some (.slice (some ⟨H.nx,0,none⟩) (n+m) (n+m),H.new (.cells ((cs.drop o).take (n*sz)++xs) e .gr))
         else if (k.kI&&decide (c<n+m))=false/\e'=e/\k.eM=false/\o+n*sz<=cs.length/\xs.all ci=true/\(n+m+(n+m) / 4+192)*bytes<=281474976710656/\n+m<=maxLen then
          some (.slice (some ⟨H.nx,0,none⟩) (n+m) (n+m),(H.set l .dead).new (.cells ((cs.drop o).take (n*sz)++xs) e .gr))
         else none
       | _=>none
     | _=>none
   | none=>none
 | .F9 sz d s=>match ev d,pJ H sz (ev s) with
   | .slice a n c,some (xs,m)=>if n=0\/m=0 then some (.int .i64 0,H) else match a with
     | some ⟨l,o,none⟩=>match H.ob l with
       | .cells cs e k=>if k.eM=false/\o+(min m n)*sz<=cs.length/\xs.all ci=true then some (.int .i64 (min m n:Nat),H.set l (.cells (setCells cs o (xs.take ((min m n)*sz))) e k)) else none
       | _=>none
     | _=>none
   | _,_=>none
 | .F'=>some (.map (some H.nx),H.new (.map #[] 0))
 | .Gb kk x k v=>match ev x with
   | .map (some l)=>xY kk l (ev k) (ev v) H (H.ob l)
   | _=>none
 | .Gc x=>match ev x with
   | .string s=>some (.chan (some H.nx),H.new (.qx s 0))
   | _=>none
 | .cU x=>match ev x with
   | .chan (some l)=>DG l H (H.ob l)
   | _=>none
 | .hU x=>Od H (ev x)
 | .Gg e p n=>Gi e H (ev p) (ev n)
 | .Ge x=>match ev x with
   | .map (some l)=>UF l H (H.ob l)
   | _=>none
 | .Gf x=>match ev x with
   | .chan (some l)=>UG H (H.ob l)
   | _=>none
 | .del kk x k=>match ev x with
   | .map (some l)=>UH kk l (ev k) H (H.ob l)
   | _=>none
 | .s2b e bytes x=>match ev x with
   | .string s=>if s.size<=maxLen then some (.slice (some ⟨H.nx,0,none⟩) s.size s.size,H.new (.cells (s.data.toList.map λb=> .int .u8 b.toNat) e .gr)) else none
   | _=>none
def rq(P:aZ)(op:Op)(r:hO):Prop:=
 ∀(B:Nat) (β:Nat->aC) (H:CH) (w:ar) (b a:au->ae) (o:cu) (v:ae) (H':CH),o.op=op->(∀x∈op.operands,VR β (b x) (a x))->aN P B β H w->cy H b r=some (v,H')->
  ∃(β':Nat->aC) (w':ar) (v':ae) (n:Next),(execOp a o).run P w= .ok n w'/\(n= .value v'\/n= .skip/\v'=undef)/\VR β' v v'/\aN P B β' H' w'/\bD β w β' w'
theorem ad9{t n:Nat}{x v:au}(hz:(P.info? t).map (·.size)=some n):rq P (.store t x v) (.st n x v):=λB β H w f d o u H' ho hv g c=>by
 have hx:=hv x So;have hu:=hv v So;simp only[cy] at c;split at c
 ·rename_i l i ha;split at c
  ·rename_i cs e k j;split at c
   ·rename_i hg;obtain⟨r,s,y,z,A⟩:=hg;cases c;rw[ha] at hx;obtain⟨b,sz,m,hb,F⟩:=g.cells j;have q:d x= .pointer (some ⟨b.1,i+b.2,none⟩):=by
     generalize q:d x=G at hx;cases hx with
     | ptr hl=>rw[hb] at hl;cases hl;rfl
     | oW a hl=>rw[hb] at hl;cases hl
    have hc:=hu.cells s;have hl:(f v).cells.size=(d v).cells.size:=by simpa using hc.1
    obtain⟨w',C,D,E⟩:=g.N7 hb j (Kd.Gh r) (o:=i) (us:=(f v).cells.toList) (by simpa[y] using z) hc (List.all_eq_true.1 A);refine⟨β,w',undef, .skip,?_, .inr ⟨rfl,rfl⟩, .undef _,D,E⟩;simp only[execOp,ho,q,Instr.storeAt,C7,storeVar,cg,cO,bY,tE hz,Sem.run_ite];rw[iN Om];simp only[C,bY,cO]
   cases c
  cases c
 cases c
theorem UI{B:Nat}{β:Nat->aC}{H:CH}{w:ar}(y:aN P B β H w){sz:Nat}{v v':ae}(hv:VR β v v'){xs:List ae}{m:Nat}(h:pJ H sz v=some (xs,m)) :
 (∀d:ar,(Builtin.lenOf v').run P d= .ok m d)/\xs.length=m*sz/\∃t,aW β xs t/\∀d:ar,(∀a,d.cell? a=w.cell? a)->∀j,j<=m->(xr sz j v').run P d= .ok (t.take (j*sz)).toArray d:=by
 unfold pJ at h;split at h
 ·cases h;cases hv;refine⟨λ_=>rfl,s0,[],aW.nil β,λd _ j f=> ?_⟩;obtain rfl:j=0:=by omega
  simp[xr]
 ·cases h;cases hv<;>refine⟨λ_=>rfl,s0,[],aW.nil β,λd _ j f=> ?_⟩<;>(obtain rfl:j=0:=by omega)<;>simp[xr,loadCells,loadCellsFrom]
 ·rename_i l o G c;split at h
  ·rename_i z;subst z;cases h;obtain⟨x,c',rfl,hn⟩:=hv.Ba;refine⟨λ_=>rfl,s0,[],aW.nil β,λd _ j f=> ?_⟩;obtain rfl:j=0:=by omega
   cases x with
   | none=>simp at hn
   | some x=>simp[xr,loadCells,loadCellsFrom]
  rename_i g;split at h
  ·rename_i cs e k A;split at h
   ·rename_i n;cases h;obtain⟨b,I,J,hb,C⟩:=y.cells A;have q : ∃c',v'= .slice (some ⟨b.1,o+b.2,none⟩) m c':=by
     cases hv with
     | sl hl _ _ _ _ _=>rw[hb] at hl;cases hl;exact⟨_,rfl⟩
     | qv a hl _=>rw[hb] at hl;cases hl
     | qw a hl=>exact absurd rfl g
    obtain⟨c',rfl⟩:=q;obtain⟨r,h1,h2,h3⟩:=C.reads o (m*sz) n;refine⟨λ_=>rfl,Sq,r,h1,λd D j f=> ?_⟩;have E:(r.take (j*sz)).length=j*sz:=by
     have:j*sz<=m*sz:=C9 _ f;simp;omega
    refine run_firstCells_some d sz j ⟨b.1,o+b.2,none⟩ m c' (r.take (j*sz)) E λi u hi=> ?_;rw[mU] at hi;split at hi;·rw[D];exact h3 i u hi
    cases hi
   cases h
  cases h
 ·rename_i s;split at h;rotate_left
  ·cases h
  rename_i F;cases h;subst F;have:=hv.xO;subst this;refine⟨λ_=>rfl,by simp only[kZ,Nat.mul_one];rfl,_,⟨rfl,λi v hv=>⟨v,hv,?_⟩⟩,λd _ j f=> ?_⟩
  ·rw[kF] at hv;cases hb:s.data.toList[i]? with
   | none=>rw[hb] at hv;cases hv
   | some b=>rw[hb] at hv;cases hv;exact .int _ _
  simp only[xr,cO,Nat.mul_one];congr 1
  apply qY;simp only[NK,ByteArray.data_extract,Array.toList_extract,List.extract_eq_take_drop,sn,Nat.sub_zero,List.map_take]
 cases h
theorem UJ{α:Type}{l:List α}{n:Nat}(h:l.length=n):l.take n=l:=List.take_of_length_le Om
theorem aN.ad'{B:Nat}{β:Nat->aC}{H:CH}{w:ar}(f:aN P B β H w){l:Nat}{b:Nat×Nat}{sz a:Nat}{cs:List ae}{e:aH}{k:Kd}(hb:β l= .live b sz a k)(i:H.ob l= .cells cs e k)(hk:k≠ .ro){o p:Nat}{xs j:List ae}
 (hp:o+p<=cs.length) (z:o+p+b.2+xs.length<=a) (hx:aW β xs j) (hc : ∀u∈xs,ci u=true) :
 ∃w',(storeCells ⟨b.1,o+p+b.2,none⟩ j).run P w= .ok () w'/\aN P B (dS (dS β l .dead) H.nx (.live (b.1,o+b.2) sz a .gr)) ((H.set l .dead).new (.cells ((cs.drop o).take p++xs) e .gr)) w'/\bD β w (dS (dS β l .dead) H.nx (.live (b.1,o+b.2) sz a .gr)) w':=by
 obtain⟨A,C,m,r⟩:=f.live hb;rw[i] at m;cases m;have n:cs.length+b.2<=a:=by obtain⟨_,_,_,_,_,g,_⟩:=r;exact g
 have c:=f.pad hb i (o+p+xs.length-cs.length) Om;have s:(H.set l (.cells (cs++kY (o+p+xs.length-cs.length) undef) e k)).ob l= .cells (cs++kY (o+p+xs.length-cs.length) undef) e k:=by simp[CH.set]
 obtain⟨w',t,q,v⟩:=c.N7 hb s hk (o:=o+p) Sq hx hc;rw[CH.set_set] at q;have x:(H.set l (.cells (setCells (cs++kY (o+p+xs.length-cs.length) undef) (o+p) xs) e k)).ob l= .cells (setCells (cs++kY (o+p+xs.length-cs.length) undef) (o+p) xs) e k:=by simp[CH.set]
 obtain⟨d,y⟩:=q.rename hb x hk o (p+xs.length) (by rw[JI Sq];simp;omega);refine⟨w',t,?_,v.trans y⟩;rw[CH.set_set] at d;have:((setCells (cs++kY (o+p+xs.length-cs.length) undef) (o+p) xs).drop o).take (p+xs.length)=(cs.drop o).take p++xs:=by
  unfold setCells;rw[TY hp,aG,List.drop_append_of_le_length Sq,<-aG,TY Sq,UJ Sq,List.drop_take];simp
 rw[this] at d;exact d
theorem aN.UK{B:Nat}{β:Nat->aC}{H:CH}{w:ar}(a:aN P B β H w){e:aH}{sz:Nat}(he:(P.info? e).map (·.size)=some sz){xs:List ae}{cs':Array ae}(hl:xs.length<=cs'.size)
 (hc : ∀(i:Nat) (v:ae),xs[i]? = some v->∃v',cs'[i]? = some v'/\VR β v v') :
 aN P B (dS β H.nx (.live (w.heap.size,0) sz cs'.size .gr)) (H.new (.cells xs e .gr)) (w.drew.alloc (.cells cs' e))/\bD β w (dS β H.nx (.live (w.heap.size,0) sz cs'.size .gr)) (w.drew.alloc (.cells cs' e)):=by
 obtain⟨h1,h2⟩:=a.drew;obtain⟨h3,h4⟩:=h1.alloc .gr s0 he hl s0 hc (fr:=(0,0)) (.inl rfl) (w':=w.drew.alloc (.cells cs' e)) rfl rfl rfl rfl;exact⟨h3,h2.trans h4⟩
theorem UL{β:Nat->aC}{xs c:List ae}(h:aW β xs c)(r:Array ae):xs.length<=(c.toArray++r).size/\∀(i:Nat) (v:ae),xs[i]? = some v->∃v',(c.toArray++r)[i]? = some v'/\VR β v v':=by
 refine⟨by simp[h.1],λi v hv=> ?_⟩;obtain⟨v',a,b⟩:=h.2 i v hv;have hi:i<c.length:=(List.getElem?_eq_some_iff.1 a).1;exact⟨v',by rw[T0 (by simpa using hi)];simpa using a,b⟩
theorem UM{t tx ty e:aH}{i0:TypeInfo}(ht:P.underlying t=some (.slice e))(na:P.underlying tx=some (.slice e)\/P.underlying tx=some .string)(hi:P.info? e=some i0)
 {a:Option ej} {n c m:Nat} {x':ae} {w w':ar} (b : ∀f:ar,(Builtin.lenOf x').run P f= .ok m f) (hn:n+m<=c) {news:List ae} (g:(xr i0.size m x').run P w= .ok news.toArray w)
 (d:match a with | none=>w'=w | some a=>(storeCells (a.add (n*i0.size)) news).run P w= .ok () w') :
 (Dd #[t,tx] ty #[.slice a n c,x']).run P w= .ok (.slice a (n+m) c) w':=by
 cases a with
 | none=>
   simp only at d;subst d;rcases na with na | na<;>simp[Dd,run_underlying ht,run_underlying na,sizeOf,typeInfo,hi,b,hn,g]
 | some a=>
   simp only at d;rcases na with na | na<;>simp[Dd,run_underlying ht,run_underlying na,sizeOf,typeInfo,hi,b,hn,g,d]
theorem UN{t tx ty e:aH}{i0:TypeInfo}{z:ae}(ht:P.underlying t=some (.slice e))(na:P.underlying tx=some (.slice e)\/P.underlying tx=some .string)(hi:P.info? e=some i0)(hz:i0.zero=some z)
 {a:Option ej} {n c m:Nat} {x':ae} {w:ar} (b : ∀f:ar,(Builtin.lenOf x').run P f= .ok m f) (hn:c<n+m) {g news:List ae} (hs:(xr i0.size n (.slice a n c)).run P w.drew= .ok g.toArray w.drew)
 (h:(xr i0.size m x').run P w.drew= .ok news.toArray w.drew) (i:n+m<=9223372036854775807) (j:T1 (n+m) c*i0.bytes<=281474976710656) :
 (Dd #[t,tx] ty #[.slice a n c,x']).run P w= .ok (.slice (some ⟨w.heap.size,0,none⟩) (n+m) (grownCap w (n+m) c e))
   (w.drew.alloc (.cells (g.toArray++news.toArray++AR z.cells (grownCap w (n+m) c e-(n+m))) e)):=by
 have k : ¬(n+m<=c):=by omega
 have l : ¬(9223372036854775807<((n:Int)+(m:Int))):=by omega
 have d : ¬(281474976710656<T1 (n+m) c*i0.bytes):=by omega
 rcases na with na | na<;>simp[Dd,run_underlying ht,run_underlying na,sizeOf,typeInfo,zeroValue,hi,hz,b,k,l,d,Question.forced,hs,h,newRow,grownCap]<;>(congr 2;apply qY;simp[aG])
theorem Og(w:ar)(a b:Nat)(e:aH)(h:a<=9223372036854775807):a<=grownCap w a b e/\grownCap w a b e<=maxLen:=by
 have:=Nat.mod_lt (w.tape w.drawn (.appendCap a b e)) (show 0<2 ^ 63-a by omega);show a<=a+w.tape w.drawn (.appendCap a b e) % (2 ^ 63-a)/\a+w.tape w.drawn (.appendCap a b e) % (2 ^ 63-a)<=9223372036854775807;constructor<;>omega
theorem UP{t tx e sz bytes:aH}{z:ae}{s x:au}(ht:P.underlying t=some (.slice e))(na:P.underlying tx=some (.slice e)\/P.underlying tx=some .string)(hi:(P.info? e).map (λi=>(i.zero,i.size,i.bytes))=some (some z,sz,bytes))(UQ:z.cells.size=sz)(h0:0<sz) :
 rq P (.call { callee:= .builtin .append,args:= #[s,x],argTypes:= #[t,tx] }) (.app e sz bytes s x):=λB β H w ev f o v H' ho hv G j=>by
 have hs:=hv s S0;have hx:=hv x S0;obtain⟨i0,Gk,Dm,S,wl⟩:=info_parts hi;have uv:(P.info? e).map (·.size)=some sz:=by simp[Gk,S]
 have I : ∀(u:ae) (w':ar),(Dd #[t,tx] o.type #[f s,f x]).run P w= .ok u w'->(execOp f o).run P w= .ok (.value u) w':=λu w' h=>by
  simp only[execOp,ho,resolve,cg,cO,bY,invoke,builtin,C8,dq,lF,h]
 simp only[cy] at j;split at j;rotate_left
 ·cases j
 rename_i xs m Oh;obtain⟨D,zB,F,T,Oi⟩:=UI G hx Oh;have DI : ∀w2:ar,(∀a,w2.cell? a=w.cell? a)->(xr sz m (f x)).run P w2= .ok F.toArray w2:=λw2 h2=>by
  have:=Oi w2 h2 m (ag _);rwa [UJ (by rw[<-T.1,zB])] at this
 have fresh : ∀(E:Option ej),f s= .slice E 0 0->m≠0->xs.all ci=true->(∀J,J<m->T1 m J*bytes<=281474976710656)->m<=maxLen->
  ∃(β':Nat->aC) (w':ar) (v':ae),(Dd #[t,tx] o.type #[f s,f x]).run P w= .ok v' w'/\VR β' (.slice (some ⟨H.nx,0,none⟩) m m) v'/\aN P B β' (H.new (.cells xs e .gr)) w'/\bD β w β' w'/\∀l',l'≠H.nx->β' l'=β l':=by
  intro E r A kb JP kG;have Bc:m<=9223372036854775807:=kG;have h0f:(xr i0.size 0 (.slice E 0 0)).run P w.drew= .ok ([]:List ae).toArray w.drew:=by
   cases E<;>simp[xr,loadCells,loadCellsFrom]
  have N:=UN (P:=P) (ty:=o.type) ht na Gk Dm (a:=E) (n:=0) (c:=0) D Om h0f (by rw[S];exact DI w.drew (λ_=>rfl)) Om (by rw[wl];simpa using JP 0 Om);rw[r];simp only[iZ] at N;obtain⟨L,K⟩:=Og w m 0 e Bc;obtain⟨q1,q2⟩:=UL T (AR z.cells (grownCap w m 0 e-m));have U:([]:List ae).toArray++F.toArray++AR z.cells (grownCap w m 0 e-m)=F.toArray++AR z.cells (grownCap w m 0 e-m):=by simp
  rw[U] at N;obtain⟨V,W⟩:=G.UK uv q1 q2;refine⟨_,_,_,N,?_,V,W,λl' h=>eD h⟩;refine .sl (b:=(w.heap.size,0)) (o:=0) fb (ag _) L K (λ_=> ?_) (λg=>absurd rfl g);have Oj:F.length=m*sz:=by rw[<-T.1,zB]
  simp only[Array.size_append,NJ,size_zeroCells,Oj,UQ];rw[<-oU];simp;exact C9 _ Om
 have empty : ∀(E:Option ej) (n c':Nat),f s= .slice E n c'->n<=c'->m=0->(Dd #[t,tx] o.type #[f s,f x]).run P w= .ok (f s) w:=by
  intro E n c' r JC A;subst A;have iw:F= []:=List.length_eq_zero_iff.1 (by rw[<-T.1,zB];simp);have:=UM (P:=P) (ty:=o.type) (w':=w) ht na Gk (a:=E) (n:=n) (c:=c') (m:=0) (x':=f x) D Om (news:= []) (by rw[S];have:=DI w (λ_=>rfl);rwa [iw] at this) (by cases E<;>first | rfl | (simp[storeCells]));rw[r];simpa using this
 split at j
 ·rename_i gQ;rw[gQ] at hs;have r:f s= .slice none 0 0:=by generalize f s=q at hs;cases hs;rfl
  split at j;·rename_i A;cases j;exact⟨β,w,_,_,I _ _ (empty _ _ _ r (ag _) A), .inl rfl,hs,G,bD.refl β w⟩
  rename_i A;split at j;·rename_i g;cases j;obtain⟨β',w',v',a,b,c,d,_⟩:=fresh _ r A g.1 (λJ h=>growslice_fits h g.2.1) g.2.2;exact⟨β',w',v',_,I _ _ a, .inl rfl,b,c,d⟩
  cases j
 ·rename_i aa bb gQ;rw[gQ] at hs;obtain⟨E,r⟩ : ∃E,f s= .slice E 0 0:=by generalize f s=q at hs;cases hs;exact⟨_,rfl⟩
  split at j;·rename_i A;cases j;exact⟨β,w,_,_,I _ _ (empty _ _ _ r (ag _) A), .inl rfl,hs,G,bD.refl β w⟩
  rename_i A;split at j;·rename_i g;cases j;obtain⟨β',w',v',a,b,c,d,_⟩:=fresh _ r A g.1 (λJ h=>growslice_fits h g.2.1) g.2.2;exact⟨β',w',v',_,I _ _ a, .inl rfl,b,c,d⟩
  cases j
 ·rename_i l C n c gQ;rw[gQ] at hs;split at j
  ·rename_i cs e' k Z;obtain⟨b,y,O,hb,lJ⟩:=G.cells Z;have UR:(∃c',f s= .slice (some ⟨b.1,C+b.2,none⟩) n c'/\n<=c'/\c'<=maxLen/\(k≠ .ro->C+b.2+c'*y<=O)/\c<=c'/\(k≠ .gr->c'=c))\/(n=0/\c=0/\∃a,f s= .slice (some a) 0 0):=by
    generalize f s=q at hs;cases hs with
    | sl hl h1 h2 h3 h4 h5=>rw[hb] at hl;cases hl;exact .inl ⟨_,rfl,Om,h3,h4,h2,h5⟩
    | qv a hl _=>rw[hb] at hl;cases hl
    | qw a hl=>exact .inr ⟨rfl,rfl,a,rfl⟩
   split at j
   ·rename_i A;cases j;rcases UR with ⟨c',r,q1,_⟩ | ⟨rfl,rfl,a,r⟩
    ·exact⟨β,w,_,_,I _ _ (empty _ _ _ r q1 A), .inl rfl,hs,G,bD.refl β w⟩
    exact⟨β,w,_,_,I _ _ (empty _ _ _ r (ag _) A), .inl rfl,hs,G,bD.refl β w⟩
   rename_i A;have core:e'=e->k.eM=false->C+n*sz<=cs.length->xs.all ci=true->(∀J,J<n+m->T1 (n+m) J*bytes<=281474976710656)->n+m<=maxLen->
    ∃(β':Nat->aC) (w':ar) (v':ae) (O:Next),(execOp f o).run P w= .ok O w'/\(O= .value v'\/O= .skip/\v'=undef)/\VR β' (.slice (some ⟨H.nx,0,none⟩) (n+m) (n+m)) v'/\aN P B β' (mG (k.kI&&decide (c<n+m)) H l (.cells ((cs.drop C).take (n*sz)++xs) e .gr)) w'/\bD β w β' w':=by
    intro L K X Q R M;subst L;have aec : ∀ys:List ae,l≠H.nx->(H.new (.cells ys e' .gr)).set l .dead=(H.set l .dead).new (.cells ys e' .gr):=λys av=>by
     unfold CH.set CH.new;simp only[CH.mk.injEq,true_and];funext k
     by_cases e1:k=l
     ·subst e1;simp[av]
     simp[e1]
    have US:l≠H.nx:=λe=>by rw[e,G.nx _ (ag _)] at Z;cases Z
    rcases UR with ⟨c',r,q1,q2,q3,q4,q5⟩ | ⟨rfl,rfl,a,r⟩
    rotate_left
    ·obtain⟨β',w',v',f1,f2,f3,f4,f5⟩:=fresh _ r A Q (by simpa using R) (by simpa using M);have JS:(cs.drop C).take (0*sz)++xs=xs:=by simp
     rw[JS];simp only[iZ];have kf:β' l= .live b y O k:=(f5 l US).trans hb;cases Gl:(k.kI&&decide (0<m)) with
     | false=>
       obtain⟨nF,lf⟩:=f3.kill kf;rw[aec _ US] at nF;simp only[mG,aM,iF];exact⟨_,w',v',_,I _ _ f1, .inl rfl,f2.mono lf.ext,nF,f4.trans lf⟩
     | true=>
       simp only[mG,iT];exact⟨_,w',v',_,I _ _ f1, .inl rfl,f2,f3,f4⟩
    have Ok:=Kd.Gh K;have aed:y=sz:=by
     obtain⟨_,_,_,_,_,_,_,q,_⟩:=lJ;have q:=q Ok;rw[uv] at q;exact(Option.some.inj q).symm
    subst aed;have q3':=q3 Ok;have kb:=List.all_eq_true.1 Q;by_cases JQ:n+m<=c'
    ·have Gl:(k.kI&&decide (c<n+m))=false:=by
      cases k with
      | ex=>have:=q5 s0;simp[Kd.kI];omega
      | _=>rfl
     have hle:(n+m)*y<=c'*y:=C9 _ JQ;simp only[mG,Gl,aM,iF];rw[oU] at hle;obtain⟨w',cx,V,W⟩:=G.ad' hb Z Ok (o:=C) (p:=n*y) X Om T kb;have N:=UM (P:=P) (ty:=o.type) (w:=w) (w':=w') ht na Gk (a:=some ⟨b.1,C+b.2,none⟩) (n:=n) (c:=c') (m:=m) (x':=f x) D JQ (news:=F) (by rw[S];exact DI w (λ_=>rfl)) (by simp only[C5,S];rw[C6];exact cx);refine⟨_,w',_,_,I _ _ (by rw[r];exact N), .inl rfl,?_,V,W⟩;have:=VR.sl (β:=dS (dS β l .dead) H.nx (.live (b.1,C+b.2) y O .gr)) (l:=H.nx) (b:=(b.1,C+b.2)) (o:=0) fb (ag (n+m)) JQ q2 (λ_=>by simpa using q3') (λg=>absurd rfl g);simpa only[iZ] using this
    obtain⟨Y,u1,u2,u3⟩:=lJ.reads C (n*y) X;have ri:=run_firstCells_some (P:=P) w.drew i0.size n ⟨b.1,C+b.2,none⟩ n c' Y (by rw[S];exact u2) (by simpa using u3);have N:=UN (P:=P) (ty:=o.type) (w:=w) ht na Gk Dm (a:=some ⟨b.1,C+b.2,none⟩) (n:=n) (c:=c') (m:=m) (x':=f x) D Om ri (by rw[S];exact DI w.drew (λ_=>rfl)) M (by rw[wl];exact R _ Om);have aee:aW β ((cs.drop C).take (n*y)++xs) (Y++F):=u1.append T;obtain⟨p1,p2⟩:=UL aee (AR z.cells (grownCap w (n+m) c' e'-(n+m)));have U:(Y++F).toArray++AR z.cells (grownCap w (n+m) c' e'-(n+m))=Y.toArray++F.toArray++AR z.cells (grownCap w (n+m) c' e'-(n+m)):=by simp
    obtain⟨V,W⟩:=G.UK uv p1 p2;rw[U] at V W;have av:l≠H.nx:=λe=>by rw[e,G.nx _ (ag _)] at Z;cases Z
    have cj:dS β H.nx (aC.live (w.heap.size,0) y (Y.toArray++F.toArray++AR z.cells (grownCap w (n+m) c' e'-(n+m))).size .gr) l= .live b y O k:=by rw[eD av];exact hb
    obtain⟨nF,lf⟩:=V.kill cj;obtain⟨r1,r2⟩:=Og w (n+m) c' e' M;have aef:(H.new (.cells ((cs.drop C).take (n*y)++xs) e' .gr)).set l .dead=(H.set l .dead).new (.cells ((cs.drop C).take (n*y)++xs) e' .gr):=by
     unfold CH.set CH.new;simp only[CH.mk.injEq,true_and];funext k
     by_cases e1:k=l
     ·subst e1;simp[av]
     simp[e1]
    rw[aef] at nF;have UT:0+grownCap w (n+m) c' e'*y<=(Y.toArray++F.toArray++AR z.cells (grownCap w (n+m) c' e'-(n+m))).size:=by
     have Oj:F.length=m*y:=by rw[<-T.1,zB]
     have zC:Y.length=n*y:=u2;simp only[Array.size_append,NJ,size_zeroCells,Oj,zC,UQ];rw[<-oU,<-oU];simp;exact C9 _ Om
    cases Gl:(k.kI&&decide (c<n+m)) with
    | false=>
      simp only[mG,aM,iF];refine⟨_,_,_,_,I _ _ (by rw[r];exact N), .inl rfl,?_,nF,W.trans lf⟩;exact .sl (b:=(w.heap.size,0)) (o:=0) (by rw[eD av.symm];exact fb) (ag _) r1 r2 (λ_=>UT) (λg=>absurd rfl g)
    | true=>
      simp only[mG,iT];refine⟨_,_,_,_,I _ _ (by rw[r];exact N), .inl rfl,?_,V,W⟩;exact .sl (b:=(w.heap.size,0)) (o:=0) fb (ag _) r1 r2 (λ_=>UT) (λg=>absurd rfl g)
   split at j
   ·rename_i g;obtain⟨g0,L,K,X,Q,R,M⟩:=g;cases j;subst g0;have:=core L K Om Q (λJ h=>growslice_fits h R) M;simpa only[sn] using this
   rename_i hg1;split at j
   ·rename_i g;obtain⟨K,g0,L,X,Q,R,M⟩:=g;cases j;have aeg:k.eM=false:=by cases k<;>first | rfl | cases K
    have:=core L aeg X Q (λJ h=>growslice_fits h R) M;rw[K,decide_eq_true g0] at this;exact this
   rename_i jJ;split at j;·rename_i g;obtain⟨Gl,L,K,X,Q,R,M⟩:=g;cases j;have:=core L K X Q (λJ h=>growslice_fits_wide h R) M;rw[Gl] at this;exact this
   cases j
  cases j
 cases j
theorem aW.take{β:Nat->aC}{cs cs':List ae}(h:aW β cs cs')(n:Nat):aW β (cs.take n) (cs'.take n):=
 ⟨by simp[h.1],λi v hv=>by
   rw[mU] at hv⊢;split at hv;·obtain⟨v',a,b⟩:=h.2 i v hv;exact⟨v',by simp[*],b⟩
   cases hv⟩
theorem aeh{t tx e sz:aH}{d s:au}(ht:P.underlying t=some (.slice e))(hz:(P.info? e).map (·.size)=some sz) :
 rq P (.call { callee:= .builtin .copy,args:= #[d,s],argTypes:= #[t,tx] }) (.F9 sz d s):=λB β H w V i o v H' ho hv x f=>by
 have hd:=hv d S0;have hs:=hv s S0;have z : ∀(u:ae) (w':ar),(Builtin.copy_ #[t,tx] o.type #[i d,i s]).run P w= .ok u w'->(execOp i o).run P w= .ok (.value u) w':=λu w' h=>by
  simp only[execOp,ho,resolve,cg,cO,bY,invoke,builtin,C8,dq,lF,h]
 simp only[cy] at f;split at f;rotate_left
 ·cases f
 rename_i a n c xs m y I;obtain⟨j,W,J,K,L⟩:=UI x hs I;rw[y] at hd;obtain⟨q,c',A,M⟩:=hd.Ba;have run : ∀w',(match q with | none=>w'=w | some q=>(storeCells q (J.take (min m n*sz))).run P w= .ok () w')->(Builtin.copy_ #[t,tx] o.type #[i d,i s]).run P w= .ok (.int .i64 (min m n:Nat)) w':=by
  intro w' r;have C:=L w (λ_=>rfl) (min m n) (Nat.min_le_left _ _);rw[A];cases q with
  | none=>
    simp only at r;subst r;simp[Builtin.copy_,run_underlying ht,j,tE hz,goInt,C]
  | some q=>
    simp only at r;simp[Builtin.copy_,run_underlying ht,j,tE hz,goInt,C,r]
 split at f
 ·rename_i D;cases f;have E:min m n=0:=by omega
  have:=run w (by cases q<;>simp[E,storeCells]);rw[E] at this;exact⟨β,w,_,_,z _ _ this, .inl rfl, .int _ _,x,bD.refl β w⟩
 rename_i D;split at f
 ·rename_i l F;split at f
  ·rename_i cs e' k G;split at f
   ·rename_i g;obtain⟨N,O,Q⟩:=g;cases f;obtain⟨b,X,Y,hb,Z⟩:=x.cells G;have R:q=some ⟨b.1,F+b.2,none⟩:=by
     rw[A] at hd;cases hd with
     | sl hl _ _ _ _ _=>rw[hb] at hl;cases hl;rfl
     | qv a hl _=>rw[hb] at hl;cases hl
     | qw a hl=>exact absurd (.inl rfl) D
    subst R;have S:(xs.take (min m n*sz)).length=min m n*sz:=by
     have:min m n*sz<=m*sz:=C9 _ (Nat.min_le_left _ _);simp;omega
    obtain⟨w',r,T,U⟩:=x.N7 hb G (Kd.Gh N) (o:=F) (us:=xs.take (min m n*sz)) (by rw[S];exact O) (K.take _) (λu hu=>List.all_eq_true.1 Q u (List.mem_of_mem_take hu));exact⟨β,w',_,_,z _ _ (run w' r), .inl rfl, .int _ _,T,U⟩
   cases f
  cases f
 cases f
end
section
open Go Go.RowKit
variable {P:aZ}
def uw:nV->Option Nat
 | .int _=>some 0
 | .string=>some 1
 | .bool=>some 2
 | _=>none
theorem aN.newObj{B:Nat}{β:Nat->aC}{H:CH}{w:ar}(h:aN P B β H w){o:dr}{o':Obj}(i : ∀β' w',β'=dS β H.nx (.obj w.heap.size)->w'.heap[w.heap.size]? = some o'->Do P B β' w' (.obj w.heap.size) o) :
 aN P B (dS β H.nx (.obj w.heap.size)) (H.new o) (w.alloc o')/\bD β w (dS β H.nx (.obj w.heap.size)) (w.alloc o'):=by
 have j:=h.oV;have g:eU β (dS β H.nx (.obj w.heap.size)):=λl=>by
  by_cases hl:l=H.nx
  ·subst hl;exact .inr (.inl j)
  exact .inl (eD hl)
 have a : ∀b,b<w.heap.size->(w.alloc o').heap[b]? = w.heap[b]? :=λb hb=>by
  show(w.heap.push _)[b]? = _;rw[C1,iN Om]
 have k:=World.alloc_heap_new w o';refine⟨⟨λl=> ?_,λl hl=> ?_,λl l' b ho d=> ?_,by simpa using xn h.base⟩,⟨rfl,rfl,rfl,s0,λb hb m=>⟨a b hb,λl ho=> ?_⟩,g⟩⟩
 ·by_cases f:l=H.nx
  ·subst f;simp only[fb,CH.new,iT];exact i _ _ rfl k
  simp only[eD f,CH.new,iN f];exact(h.iK l).mono g λb hb=>a b (Dq h hb)
 ·have:l≠H.nx:=by simp[CH.new] at hl;omega
  simp only[CH.new,iN this];exact h.nx l (by simp[CH.new] at hl;omega)
 ·by_cases c:l=H.nx<;>by_cases e:l'=H.nx
  ·rw[c,e]
  ·subst c;rw[fb] at ho;rw[eD e] at d;have:=(tC h d).2;have:w.heap.size=b:=ho;omega
  ·subst e;rw[fb] at d;rw[eD c] at ho;have:=(tC h ho).2;have:w.heap.size=b:=d;omega
  rw[eD c] at ho;rw[eD e] at d;exact h.inj _ _ b ho d
 by_cases c:l=H.nx
 ·subst c;rw[fb] at ho;have:w.heap.size=b:=ho;omega
 rw[eD c] at ho;exact m l ho
theorem aN.setObj{B:Nat}{β:Nat->aC}{H:CH}{w:ar}(h:aN P B β H w){l b:Nat}(hl:β l= .obj b){o1:Obj}(h1:w.heap[b]? = some o1)(hc:(∀cs e f,o1≠ .cells cs e f)/\∀r,o1≠ .loop r){o:dr}{o':Obj}(i : ∀w',w'.heap[b]? = some o'->Do P B β w' (.obj b) o) :
 aN P B β (H.set l o) (w.putObj b o')/\bD β w β (w.putObj b o'):=by
 have j:=Uh h hl;have a : ∀k,k≠b->(w.putObj b o').heap[k]? = w.heap[k]? :=λk hk=>AS hk;refine⟨⟨λl'=> ?_,λl' c=> ?_,h.inj,by simpa using h.base⟩,⟨rfl,rfl,rfl,s0,λk hk d=>⟨a k ?_,d⟩,eU.refl β⟩⟩
 ·by_cases e:l'=l
  ·subst e;simp only[CH.set,iT,hl];exact i _ (World.putObj_heap_same j)
  simp only[CH.set,iN e];refine(h.iK l').mono (eU.refl β) λk hk=>a k ?_;rintro rfl;rcases hk with ⟨z,sz,n,kd,hk⟩ | hk | hk
  ·obtain⟨cs,e,_,cs',e',hU,g,_⟩:=h.live hk;rw[h1] at g;cases g;exact hc.1 _ _ _ rfl
  ·exact e (h.inj _ _ k (by rw[hk];rfl) (by rw[hl];rfl))
  exact e (h.inj _ _ k (by rw[hk];rfl) (by rw[hl];rfl))
 ·have:l'≠l:=λe=>by
   subst e;have:=h.iK l';rw[hl,h.nx _ c] at this;exact this
  simp only[CH.set,iN this];exact h.nx _ c
 rintro rfl;exact d l (by rw[hl];rfl)
theorem aN.Gm{B:Nat}{β:Nat->aC}{H:CH}{w:ar}(h:aN P B β H w){l:Nat}{es:Array pC}{c:Nat}(ho:H.ob l= .map es c) : ∃b,β l= .obj b/\B<=b/\FV β w b es c:=by
 have h1:=h.iK l;rw[ho] at h1;cases hb:β l with
 | obj b=>rw[hb] at h1;exact⟨b,rfl,h1.1,h1.2⟩
 | _=>rw[hb] at h1;exact h1.elim
theorem aN.aei{B:Nat}{β:Nat->aC}{H:CH}{w:ar}(h:aN P B β H w){l:Nat}{s:ByteArray}{p:Nat}(ho:H.ob l= .qx s p) : ∃b,β l= .obj b/\B<=b/\w.heap[b]? = some (.stringIter s p):=by
 have h1:=h.iK l;rw[ho] at h1;cases hb:β l with
 | obj b=>rw[hb] at h1;exact⟨b,rfl,h1.1,h1.2⟩
 | _=>rw[hb] at h1;exact h1.elim
theorem Gn{β:Nat->aC}{kk:Nat}{v v':ae}(hv:VR β v v')(h:isKey kk v=true):v'=v:=by
 unfold isKey at h;split at h;·cases hv;rfl
 ·cases hv;rfl
 ·cases hv;rfl
 cases h
theorem UU{kk:Nat}{a b:ae}{r:Bool}(h:DA kk a b=some r):isKey kk b=true:=by
 unfold DA at h;split at h<;>first | rfl | cases h
theorem UV{kk:Nat}{d:nV}(hd:uw d=some kk){a b:ae}{r:Bool}(h:DA kk a b=some r):Instr.sameNow d a b=some r/\(r=true->a=b):=by
 cases d<;>simp only[uw,Option.some.injEq,reduceCtorEq] at hd<;>subst hd<;>cases a<;>cases b<;>simp only[DA,reduceCtorEq,Option.some.injEq] at h;·subst h;exact⟨rfl,λe=>by rw[eq_of_beq e]⟩
 ·split at h;·rename_i e;subst e;cases h;exact⟨by simp[Instr.sameNow],λe=>by rw[eq_of_beq e]⟩
  cases h
 subst h;refine⟨rfl,λe=> ?_⟩;rw[(T3 _ _).1 e]
theorem Gp{β:Nat->aC}{kk:Nat}{d:nV}(hd:uw d=some kk){k:ae} : ∀ {es a:List pC} {i:Nat} {r:Option (Nat×ae)},es.length=a.length->
 (∀j (h:j<es.length) (h':j<a.length),VR β es[j].key a[j].key/\VR β es[j].val a[j].val)->oc kk k es i=some r->
 (r=none/\Instr.findNow d k a i=some none)\/∃j v v',r=some (i+j,v)/\Instr.findNow d k a i=some (some (i+j,v'))/\VR β v v'/\(∃e,a[j]? = some e/\e.key=k)
 | [],[],i,r,_,_,h=>by simp only[oc,Option.some.injEq] at h;exact .inl ⟨h.symm,rfl⟩
 | [],_::_,_,_,hl,_,_=>absurd hl s0
 | _::_,[],_,_,hl,_,_=>absurd hl s0
 | e::es,e'::a,i,r,hl,f,h=>by
   have c:=f 0 s0 s0;simp only[NL] at c;simp only[oc] at h;split at h;·rename_i hs;cases h;have hk:=Gn c.1 (UU hs);obtain⟨b,s2⟩:=UV hd hs;rw[<-hk] at b;exact .inr ⟨0,_,e'.val,rfl,by simp[Instr.findNow,b],c.2,e',rfl,by rw[hk];exact(s2 rfl).symm⟩
   ·rename_i hs;have hk:=Gn c.1 (UU hs);obtain⟨b,_⟩:=UV hd hs;rw[<-hk] at b;rcases Gp hd (by simpa using hl) (λj q g=>by have:=f (j+1) (by simpa using q) (by simpa using g);simp only[List.getElem_cons_succ] at this;exact this) h with ⟨h1,h2⟩ | ⟨j,v,v',h1,h2,h3,l,h4,h5⟩
    ·exact .inl ⟨h1,by simp[Instr.findNow,b,h2]⟩
    exact .inr ⟨j+1,v,v',by rw[h1];congr 2;omega,by simp only[Instr.findNow,b];rw[h2];congr 3;omega,h3,l,by simpa using h4,h5⟩
   cases h
theorem JU{a:aH}{d:nV}{kk:Nat}(hd:P.underlying a=some d)(hk:uw d=some kk)(e:Bool)(n:Nat)(v:ae)(w:ar):(NM e (n+1) a v).run P w= .ok () w:=by
 unfold NM;simp only[cg,run_underlying hd,xu];cases d<;>simp only[uw] at hk<;>first | (cases hk;done) | rfl
theorem aej{kk:Nat}{k:ae}(h:isKey kk k=true)(w:ar):(T4 k k).run P w= .ok k w:=by
 unfold isKey at h;split at h;·simp[T4,Instr.sameBits,cO]
 ·simp[T4,Instr.sameBits,cO,(T3 _ _).2 rfl]
 ·simp[T4,Instr.sameBits,cO]
 cases h
theorem Ol{β:Nat->aC}{es a:Array pC}(hs:a.size=es.size)(h : ∀i (h:i<es.size) (h':i<a.size),VR β es[i].key a[i].key/\VR β es[i].val a[i].val/\a[i].born=es[i].born) :
 es.toList.length=a.toList.length/\∀j (q:j<es.toList.length) (b:j<a.toList.length),VR β es.toList[j].key a.toList[j].key/\VR β es.toList[j].val a.toList[j].val:=
 ⟨by simpa using hs.symm,λj q b=>by
   have:=h j (by simpa using q) (by simpa using b);simp only[Jn];exact⟨this.1,this.2.1⟩⟩
theorem aek{t n A:aH}{d:nV}{kk:Nat}{z:ae}{ok:Bool}{x i:au}{inf:TypeInfo}(ht:P.underlying t=some (.map n A))(hd:P.underlying n=some d)(hk:uw d=some kk)(hi:P.info? A=some inf)(hz:inf.zero=some z)(M : ∀β,VR β z z) :
 xU P (.lookup t x i ok) (.Dz kk z ok x i):=λB β H w C g o v ho hv O f=>by
 have hx:=hv x So;have Q:=hv i So;have D:(zeroValue A).run P w= .ok z w:=by simp[zeroValue,typeInfo,hi,hz]
 have fin : ∀(r:Option (Nat×ae)) (u:ae) (q:Option ae),xT z ok (some r)=some u->(r=none/\q=none\/∃j a m,r=some (j,a)/\q=some m/\VR β a m)->
  ∃k,k=(if ok then .tuple #[q.getD z, .bool q.isSome] else q.getD z)/\VR β u k:=λr u q hl R=>by
  refine⟨_,rfl,?_⟩;rcases R with ⟨rfl,rfl⟩ | ⟨j,a,m,rfl,rfl,ha⟩
  ·simp only[xT,Option.some.injEq] at hl;subst hl;cases ok;·exact M β
   exact .tuple rfl λi h1 h2=>by
    match i,h1 with
    | 0,_=>exact M β
    | 1,_=>exact .bool _
  simp only[xT,Option.some.injEq] at hl;subst hl;cases ok;·exact ha
  exact .tuple rfl λi h1 h2=>by
   match i,h1 with
   | 0,_=>exact ha
   | 1,_=>exact .bool _
 simp only[bg] at f;split at f
 ·rename_i E;split at f
  ·rw[E] at hx;have s:g x= .map none:=by generalize g x=q at hx;cases hx;rfl
   obtain⟨k,e,hu⟩:=fin none v none f (.inl ⟨rfl,rfl⟩);refine⟨k,?_,hu⟩;have y:=JU (P:=P) hd hk true 9999 (g i) w;have F:(Instr.findKey n (g i) ([]:List pC)).run P w= .ok none w:=Jq hd rfl;subst e;cases ok<;>simp[execOp,ho,s,Instr.lookup,run_underlying ht,y,F,D,xu]
  cases f
 ·rename_i l E;rw[E] at hx;cases G:H.ob l with
  | map es c=>
    rw[G] at f;simp only[DB] at f;split at f
    ·rename_i S;obtain⟨b,hb,W,X,h1,h2,h3⟩:=O.Gm G;have s:g x= .map (some b):=by generalize g x=q at hx;cases hx with | map h=>rw[hb] at h;cases h;rfl
     have N:=Gn Q S;obtain⟨T,U⟩:=Ol h2 h3;cases I:oc kk (C i) es.toList 0 with
     | none=>rw[I] at f;cases f
     | some r=>
       rw[I] at f;have y : ∀J,(NM J 10000 n (C i)).run P w= .ok () w:=λJ=>JU (P:=P) hd hk J 9999 (C i) w;rcases Gp (β:=β) hk T U I with ⟨K,L⟩ | ⟨j,a,m,K,L,V,Y⟩
       ·obtain⟨k,e,hu⟩:=fin r v none f (.inl ⟨K,rfl⟩);refine⟨k,?_,hu⟩;subst e;cases ok<;>simp[execOp,ho,s,N,Instr.lookup,run_underlying ht,y,Jr h1,Jq hd L,D,xu]
       obtain⟨k,e,hu⟩:=fin r v (some m) f (.inr ⟨_,a,m,K,rfl,V⟩);refine⟨k,?_,hu⟩;subst e;cases ok<;>simp[execOp,ho,s,N,Instr.lookup,run_underlying ht,y,Jr h1,Jq hd L,D,xu]
    cases f
  | _=>rw[G] at f;cases f
 cases f
theorem ael{t:aH}{r:Option au}(c:r=none):rq P (.makeMap t r) .F':=λB β H w e d o v H' ho hv a b=>by
 subst c;simp only[cy,Option.some.injEq,Prod.mk.injEq] at b;obtain⟨rfl,rfl⟩:=b;obtain⟨h1,h2⟩:=a.newObj (o:= .map #[] 0) (o':= .map #[] 0) fun β' w' _ hw=>⟨a.base,#[],hw,rfl,λi h=>absurd h s0⟩;exact⟨_,_, .map (some w.heap.size),_,by simp[execOp,ho,Instr.makeMap], .inl rfl, .map fb,h1,h2⟩
theorem aem{β:Nat->aC}{es a:Array pC}(hs:a.size=es.size)(h : ∀i (h:i<es.size) (h':i<a.size),VR β es[i].key a[i].key/\VR β es[i].val a[i].val/\a[i].born=es[i].born){k k' v v':ae}(hk:VR β k k')(hv:VR β v v')(j:Nat) :
 (a.modify j λe=> { e with key:=k',val:=v' }).size=(es.modify j λe=> { e with key:=k,val:=v }).size/\∀i (h:i<(es.modify j λe=> { e with key:=k,val:=v }).size) (h':i<(a.modify j λe=> { e with key:=k',val:=v' }).size),
   VR β (es.modify j λe=> { e with key:=k,val:=v })[i].key (a.modify j λe=> { e with key:=k',val:=v' })[i].key/\VR β (es.modify j λe=> { e with key:=k,val:=v })[i].val (a.modify j λe=> { e with key:=k',val:=v' })[i].val/\(a.modify j λe=> { e with key:=k',val:=v' })[i].born=(es.modify j λe=> { e with key:=k,val:=v })[i].born:=by
 refine⟨by simpa using hs,λi h1 h2=> ?_⟩;have b:i<es.size:=by simpa using h1
 have c:i<a.size:=by simpa using h2
 simp only[Array.getElem_modify];by_cases e:j=i
 ·simp only[e,iT];exact⟨hk,hv,(h i b c).2.2⟩
 simp only[e,iF];exact h i b c
theorem map_push{β:Nat->aC}{es b:Array pC}(hs:b.size=es.size)(h : ∀i (h:i<es.size) (h':i<b.size),VR β es[i].key b[i].key/\VR β es[i].val b[i].val/\b[i].born=es[i].born){a a':pC}(hk:VR β a.key a'.key)(hv:VR β a.val a'.val)(hb:a'.born=a.born) :
 (b.push a').size=(es.push a).size/\∀i (h:i<(es.push a).size) (h':i<(b.push a').size),VR β (es.push a)[i].key (b.push a')[i].key/\VR β (es.push a)[i].val (b.push a')[i].val/\(b.push a')[i].born=(es.push a)[i].born:=by
 refine⟨by simpa using hs,λi h1 h2=> ?_⟩;simp only[Array.getElem_push];by_cases e:i<es.size
 ·have e':i<b.size:=by omega
  simp only[e,e',dif_pos];exact h i e e'
 have e' : ¬i<b.size:=by omega
 simp only[e,e',dif_neg,not_false_eq_true];exact⟨hk,hv,hb⟩
theorem UY{t A X:aH}{d:nV}{kk:Nat}{x k u:au}{op:Op}(O:op= .mapUpdate t x k u\/op= .insert t x k u)(ht:P.underlying t=some (.map A X))(hd:P.underlying A=some d)(hk:uw d=some kk):rq P op (.Gb kk x k u):=λB β H w m i o v H' ho hv C n=>by
 have D:op.operands= #[x,k,u]:=by rcases O with rfl | rfl<;>rfl
 have Q:execOp i o=(do Instr.mapUpdate t (i x) (i k) (i u);pure .skip):=by rcases O with rfl | rfl<;>simp only[execOp,ho]<;>rfl
 have hx:=hv x (by simp[D]);have E:=hv k (by simp[D]);have hu:=hv u (by simp[D]);simp only[cy] at n;split at n
 ·rename_i l Y;rw[Y] at hx;cases F:H.ob l with
  | map es c=>
    rw[F] at n;simp only[xY] at n;split at n
    ·rename_i g;obtain⟨b,hb,R,p,h1,h2,h3⟩:=C.Gm F;have S:i x= .map (some b):=by generalize i x=q at hx;cases hx with | map h=>rw[hb] at h;cases h;rfl
     have z:=Gn E g.1;obtain⟨T,U⟩:=Ol h2 h3;have V : ∀G,(NM G 10000 A (m k)).run P w= .ok () w:=λG=>JU (P:=P) hd hk G 9999 (m k) w;have hc:(∀cs e f,Obj.map p c≠ .cells cs e f)/\∀r,Obj.map p c≠ .loop r:=⟨λ_ _ _ e=>(nomatch e),λ_ e=>(nomatch e)⟩;have W : ∀o2:Obj,(setObj b o2).run P w= .ok () (w.putObj b o2):=λo2=>Go.MapKept.run_setObj_map o2 h1;split at n
     ·rename_i j a I;cases n;rcases Gp (β:=β) hk T U I with ⟨s,_⟩ | ⟨y,a0,Z,s,J,g3,e1,g4,g5⟩
      ·cases s
      cases s;rw[iZ] at *;obtain⟨K,L⟩:=aem h2 h3 (z▸E:VR β (m k) (m k)) hu y;obtain⟨M,s2⟩:=C.setObj hb h1 hc (o:= .map (es.modify y λe=> { e with key:=m k,val:=m u }) c) (o':= .map (p.modify y λe=> { e with key:=m k,val:=i u }) c) λw' hw=>⟨R,_,hw,K,L⟩;refine⟨β,_,undef, .skip,?_, .inr ⟨rfl,rfl⟩, .undef _,M,s2⟩;have N:((p[y]?).map (·.key)).getD (m k)=m k:=by
       have:p[y]? = some e1:=by simpa using g4
       rw[this];exact g5
      rw[Q];simp[S,z,Instr.mapUpdate,run_underlying ht,V,Jr h1,Jq hd J,N,aej g.1,W,xu]
     ·rename_i I;cases n;rcases Gp (β:=β) hk T U I with ⟨_,J⟩ | ⟨_,_,_,s,_⟩
      ·obtain⟨K,L⟩:=map_push h2 h3 (a:= { key:=m k,val:=m u,born:=c }) (a':= { key:=m k,val:=i u,born:=c }) (z▸E:VR β (m k) (m k)) hu rfl;obtain⟨M,s2⟩:=C.setObj hb h1 hc (o:= .map (es.push { key:=m k,val:=m u,born:=c }) (c+1)) (o':= .map (p.push { key:=m k,val:=i u,born:=c }) (c+1)) λw' hw=>⟨R,_,hw,K,L⟩;refine⟨β,_,undef, .skip,?_, .inr ⟨rfl,rfl⟩, .undef _,M,s2⟩;rw[Q];simp[S,z,Instr.mapUpdate,run_underlying ht,V,Jr h1,Jq hd J,W,xu]
      cases s
     cases n
    cases n
  | _=>rw[F] at n;cases n
 cases n
theorem aN.aeo{B:Nat}{β:Nat->aC}{H:CH}{w:ar}(h:aN P B β H w){l m:Nat}(ho:H.ob l= .xJ m) : ∃b,β l= .obj b/\B<=b/\∃(b' a last:Nat) (seen:Array Nat),β m= .obj b'/\w.heap[b]? = some (.mapIter (some b') a seen last):=by
 have h1:=h.iK l;rw[ho] at h1;cases hb:β l with
 | obj b=>rw[hb] at h1;exact⟨b,rfl,h1.1,h1.2⟩
 | _=>rw[hb] at h1;exact h1.elim
theorem aep{t i j:aH}{x:au}(ht:P.underlying t=some (.map i j)):rq P (.range t x) (.Ge x):=λB β H w s d o v H' ho hv f a=>by
 have hx:=hv x So;simp only[cy] at a;split at a
 ·rename_i l k;rw[k] at hx;cases g:H.ob l with
  | map es c=>
    rw[g] at a;simp only[UF,Option.some.injEq,Prod.mk.injEq] at a;obtain⟨rfl,rfl⟩:=a;obtain⟨b,hb,u,y,h1,h2,h3⟩:=f.Gm g;have m:d x= .map (some b):=by generalize d x=q at hx;cases hx with | map h=>rw[hb] at h;cases h;rfl
    have av:l≠H.nx:=λe=>by
     have:=f.nx H.nx (ag _);rw[<-e,g] at this;cases this
    obtain⟨n,r⟩:=f.newObj (o:= .xJ l) (o':= .mapIter (some b) c #[] c) fun β' w' e hw=>⟨f.base,b,c,c,#[],by rw[e,eD av];exact hb,hw⟩;exact⟨_,_, .pointer (some ⟨w.heap.size,0,none⟩),_,by simp[execOp,ho,m,Instr.range,run_underlying ht,Jr h1], .inl rfl, .iter fb,n,r⟩
  | _=>rw[g] at a;cases a
 cases a
theorem aeq{x:au}:rq P (.next x false) (.Gf x):=λB β H w C d o v H' ho hv e a=>by
 have hx:=hv x So;simp only[cy] at a;split at a
 ·rename_i l n;rw[n] at hx;cases f:H.ob l with
  | xJ m=>
    rw[f] at a;simp only[UG] at a;obtain⟨b,hb,D,b',g,last,seen,r,h1⟩:=e.aeo f;have s:d x= .pointer (some ⟨b,0,none⟩):=by generalize d x=q at hx;cases hx with | iter h=>rw[hb] at h;cases h;rfl
    cases j:H.ob m with
    | map es c=>
      rw[j] at a;simp only at a;split at a
      ·rename_i t;cases a;obtain⟨E,k,_,u,y,z,_⟩:=e.Gm j;rw[r] at k;cases k;have he:u= #[]:=Array.eq_empty_of_size_eq_zero (z.trans t);subst he;refine⟨β,w, .tuple #[.bool false],_,?_, .inl rfl, .tuple rfl λi A F=> ?_,e,bD.refl β w⟩;·simp[execOp,ho,s,Instr.next,getObj,tv,h1,y,choose,Question.forced,cg,xu]
       match i,A with
       | 0,_=>exact .bool _
      cases a
    | _=>rw[j] at a;cases a
  | _=>rw[f] at a;cases a
 cases a
theorem aer{t tk m E:aH}{d:nV}{kk:Nat}{x k:au}(ht:P.underlying t=some (.map m E))(hd:P.underlying m=some d)(hk:uw d=some kk):rq P (.call { callee:= .builtin .delete,args:= #[x,k],argTypes:= #[t,tk] }) (.del kk x k):=λB β H w A j o v H' ho hv C a=>by
 have hx:=hv x S0;have F:=hv k S0;have G : ∀(u:ae) (w':ar),(Builtin.delete_ #[t,tk] o.type #[j x,j k]).run P w= .ok u w'->(execOp j o).run P w= .ok (.value u) w':=λu w' h=>by
  simp only[execOp,ho,resolve,cg,cO,bY,invoke,builtin,C8,dq,lF,h]
 simp only[cy] at a;split at a
 ·rename_i l I;rw[I] at hx;cases n:H.ob l with
  | map es c=>
    rw[n] at a;simp only[UH] at a;split at a
    ·rename_i g;obtain⟨b,hb,J,s,h1,h2,h3⟩:=C.Gm n;have K:j x= .map (some b):=by generalize j x=q at hx;cases hx with | map h=>rw[hb] at h;cases h;rfl
     have L:=Gn F g;obtain⟨M,N⟩:=Ol h2 h3;have O : ∀y,(NM y 10000 m (A k)).run P w= .ok () w:=λy=>JU (P:=P) hd hk y 9999 (A k) w;have hc:(∀cs e f,Obj.map s c≠ .cells cs e f)/\∀r,Obj.map s c≠ .loop r:=⟨λ_ _ _ e=>(nomatch e),λ_ e=>(nomatch e)⟩;have Q : ∀o2:Obj,(setObj b o2).run P w= .ok () (w.putObj b o2):=λo2=>Go.MapKept.run_setObj_map o2 h1;split at a
     ·rename_i R;cases a;rcases Gp (β:=β) hk M N R with ⟨_,D⟩ | ⟨_,_,_,z,_⟩
      ·obtain⟨S,s2⟩:=C.setObj hb h1 hc (o:= .map es c) (o':= .map s c) λw' hw=>⟨J,_,hw,h2,h3⟩;refine⟨β,_, .tuple #[], .value (.tuple #[]),G _ _ ?_, .inl rfl, .tuple rfl λi z D=>(by simp at z),S,s2⟩;simp[Builtin.delete_,K,L,run_underlying ht,O,Jr h1,Jq hd D,Q,xu]
      cases z
     cases a
    cases a
  | _=>rw[n] at a;cases a
 cases a
theorem aes{t:aH}{x:au}(ht:P.underlying t=some .string):rq P (.range t x) (.Gc x):=λB β H w f c o v H' ho hv b a=>by
 have hx:=hv x So;simp only[cy] at a;split at a
 ·rename_i s d;rw[d] at hx;have e:=hx.xO;cases a;obtain⟨h1,h2⟩:=b.newObj (o:= .qx s 0) (o':= .stringIter s 0) fun β' w' _ hw=>⟨b.base,hw⟩;exact⟨_,_, .pointer (some ⟨w.heap.size,0,none⟩),_,by simp[execOp,ho,e,Instr.range,run_underlying ht], .inl rfl, .iter fb,h1,h2⟩
 cases a
theorem aet{x:au}:rq P (.next x true) (.cU x):=λB β H w z c o v H' ho hv d a=>by
 have hx:=hv x So;simp only[cy] at a;split at a
 ·rename_i l n;rw[n] at hx;cases g:H.ob l with
  | qx s p=>
    rw[g] at a;simp only[DG] at a;obtain⟨b,hb,t,h1⟩:=d.aei g;have m:c x= .pointer (some ⟨b,0,none⟩):=by generalize c x=q at hx;cases hx with | iter h=>rw[hb] at h;cases h;rfl
    have hc:(∀cs e f,Obj.stringIter s p≠ .cells cs e f)/\∀r,Obj.stringIter s p≠ .loop r:=⟨λ_ _ _ e=>(nomatch e),λ_ e=>(nomatch e)⟩;split at a
    ·rename_i j;cases a;obtain⟨u,s2⟩:=d.setObj hb h1 hc (o:= .qx s (p+(Db s p).2)) (o':= .stringIter s (p+(Db s p).2)) λw' hw=>⟨t,hw⟩;refine⟨β,_, .tuple #[.bool true, .int .i64 p, .int .i32 (Db s p).1],_,?_, .inl rfl, .tuple rfl λi k y=> ?_,u,s2⟩;·simp only[execOp,ho,m];have:=Lib.run_next_any_at (P:=P) w b s p o.type h1 j;simp only[cg,this,bY,cO];rfl
     match i,k with
     | 0,_=>exact .bool _
     | 1,_=>exact .int _ _
     | 2,_=>exact .int _ _
    rename_i j;cases a;refine⟨β,w, .tuple #[.bool false],_,?_, .inl rfl, .tuple rfl λi k y=> ?_,d,bD.refl β w⟩;·simp only[execOp,ho,m];have:=Lib.run_next_end_at (P:=P) w b s p o.type h1 j;simp only[cg,this,bY,cO]
    match i,k with
    | 0,_=>exact .bool _
  | _=>rw[g] at a;cases a
 cases a
theorem aeu(w:ar)(e:aH)(s:ByteArray):(Lib.bytesWorld w e s).heap=w.drew.heap.push (.cells (zn w e s) e ((zn w e s).size,(zn w e s).size+1)):=by
 apply Array.ext_getElem?;intro j;have hd:w.drew.heap=w.heap:=rfl;rw[hd,C1];by_cases h:j=w.heap.size
 ·rw[h,Lib.bytesWorld_at_new,iP rfl]
 rw[iN h];by_cases h2:j<w.heap.size
 ·exact Lib.bytesWorld_at_old w e s j h2
 rw[ac0 (by rw[Lib.bytesWorld_size];omega),ac0 Om]
theorem aev{src dst e bytes:aH}{x:au}(hs:P.underlying src=some .string)(hd:P.underlying dst=some (.slice e))(he:P.underlying e=some (.int .u8))(hi:(P.info? e).map (·.size)=some 1):rq P (.convert src dst x) (.s2b e bytes x):=λB β H w q c o v H' ho hv d a=>by
 have hx:=hv x So;simp only[cy] at a;split at a
 ·rename_i s f;rw[f] at hx;have j:=hx.xO;split at a
  ·rename_i r;cases a;obtain⟨k,l⟩:=Og w s.size 0 e (by have:maxLen=9223372036854775807:=rfl;omega);have m:(zn w e s).size=grownCap w s.size 0 e:=by simp[zn];have:s.data.size=s.size:=rfl;omega
   obtain⟨h1,h2⟩:=d.drew;obtain⟨h3,h4⟩:=h1.alloc (cs:=s.data.toList.map λb=> .int .u8 b.toNat) (cs':=zn w e s) (e:=e) .gr s0 hi (by simp[zn]) s0 (λi v hv=>by
    have n:i<s.data.size:=by have:=(List.getElem?_eq_some_iff.1 hv).1;simpa using this
    refine⟨v,?_,?_⟩
    ·unfold zn;rw[T0 (by simpa using n)];simp only[kF,Array.getElem?_toList] at hv;simpa using hv
    simp only[kF,jX] at hv;obtain⟨b,_,rfl⟩:=hv;exact .int _ _) (fr:=((zn w e s).size,(zn w e s).size+1)) (.inr (ag _)) (w':=Lib.bytesWorld w e s) (aeu w e s) rfl rfl rfl
   refine⟨_,_, .slice (some ⟨w.heap.size,0,none⟩) s.size (grownCap w s.size 0 e),_,?_, .inl rfl,?_,h3,h2.trans h4⟩;·simp only[execOp,ho,j];have:=Lib.run_convert_string_bytes (P:=P) w src dst e s hs hd he;simp only[cg,this,bY,cO]
   exact .sl (b:=(w.heap.size,0)) (o:=0) fb (ag _) k l (λ_=>by rw[m];simp) (λg=>absurd rfl g)
  cases a
 cases a
theorem UZ : ∀ {l:List ae} {bs:List UInt8},rm l=some bs->∃xs:List Int,l=xs.map (.int .u8)/\bs=xs.map λn=>al n.toNat
 | [],bs,h=>by simp only[rm,Option.some.injEq] at h;exact⟨[],rfl,h.symm⟩
 | v::l,bs,h=>by
   cases v with
   | int k n=>
     cases k<;>simp only[rm,reduceCtorEq] at h;cases hb:rm l with
     | none=>rw[hb] at h;cases h
     | some a=>
       rw[hb] at h;cases h;obtain⟨xs,rfl,rfl⟩:=UZ hb;exact⟨n::xs,rfl,rfl⟩
   | _=>simp only[rm,reduceCtorEq] at h
theorem aew{src dst e:aH}{x:au}(hs:P.underlying src=some (.slice e))(hd:P.underlying dst=some .string)(he:P.underlying e=some (.int .u8)):xU P (.convert src dst x) (.b2s x):=λB β H w N d o v ho hv F f=>by
 have hx:=hv x So;have hex : ∀u w',(convert src dst (d x)).run P w= .ok u w'->(execOp d o).run P w= .ok (.value u) w':=λu w' h=>by simp only[execOp,ho,cg,h,bY,cO]
 have C : ∀(a:ej) (c:Nat),(convert src dst (.slice (some a) 0 c)).run P w= .ok (.string .empty) w:=λa c=>by
  rw[run_convert_bytes_string w src dst e _ 0 c hs he hd];have:=run_bytesToString (P:=P) w a 0 c [] (by simp[loadCells,loadCellsFrom]);simpa using this
 simp only[bg] at f;split at f
 ·rename_i r;cases f;rw[r] at hx;have g:d x= .slice none 0 0:=by generalize d x=q at hx;cases hx;rfl
  exact⟨_,hex _ _ (by rw[g];exact run_convert_bytes_nil w src e hs he 0 0 dst hd), .string _⟩
 ·rename_i l s n c r;rw[r] at hx;split at f
  ·rename_i cs O k G;split at f
   ·rename_i t;obtain⟨b,sz,m,hb,I⟩:=F.cells G;obtain⟨D,h1,h2,h3⟩:=I.reads s n t;cases y:rm ((cs.drop s).take n) with
    | none=>rw[y] at f;cases f
    | some bs=>
      rw[y] at f;cases f;obtain⟨xs,E,rfl⟩:=UZ y;have J:D=xs.map (.int .u8):=by
       rw[E] at h1;refine List.ext_getElem? λi=> ?_;cases hi:(xs.map (Value.int .u8))[i]? with
       | none=>
         have:=h1.1;rw[List.getElem?_eq_none_iff] at hi⊢;omega
       | some u=>
         obtain⟨Q,K,L⟩:=h1.2 i u hi;rw[K];simp only[kF,jX] at hi;obtain⟨z,_,rfl⟩:=hi;cases L;rfl
      have j:xs.length=n:=by
       have:=congrArg l7 E;simp at this;omega
      have A:(⟨(xs.map λn=>al n.toNat).toArray⟩:ByteArray)=strOfNums xs:=rfl;show ∃v',(execOp d o).run P w= .ok (.value v') w/\VR β (.string ⟨(xs.map λn=>al n.toNat).toArray⟩) v';rw[A];by_cases hn:n=0
      ·subst hn;have g : ∃a c',d x= .slice (some a) 0 c':=by
        generalize d x=q at hx;cases hx with
        | sl=>exact⟨_,_,rfl⟩
        | qv=>exact⟨_,_,rfl⟩
        | qw=>exact⟨_,_,rfl⟩
       obtain⟨a,c',g⟩:=g;have:xs= []:=List.length_eq_zero_iff.1 j;subst this;exact⟨_,hex _ _ (by rw[g];exact C a c'), .string _⟩
      have g : ∃c',d x= .slice (some ⟨b.1,s+b.2,none⟩) n c':=by
       generalize d x=q at hx;cases hx with
       | sl hl=>rw[hb] at hl;cases hl;exact⟨_,rfl⟩
       | qv a hl=>rw[hb] at hl;cases hl
       | qw=>exact absurd rfl hn
      obtain⟨c',g⟩:=g;refine⟨_,hex _ _ ?_, .string _⟩;rw[g];refine run_convert_bytes_arg w src e hs he b.1 (s+b.2) n c' xs j (λi hi=> ?_) dst hd;have M:D[i]? = some (.int .u8 (xs.getD i 0)):=by
       rw[J,kF,dx Om,List.getD_eq_getElem?_getD,dx Om];rfl
      have:=h3 i _ M;simpa[C5] using this
   cases f
  cases f
 ·rename_i R S T c r;cases f;rw[r] at hx;have g : ∃a c',d x= .slice (some a) 0 c':=by
   generalize d x=q at hx;cases hx<;>exact⟨_,_,rfl⟩
  obtain⟨a,c',g⟩:=g;exact⟨_,hex _ _ (by rw[g];exact C a c'), .string _⟩
 cases f
theorem aN.freeze{B:Nat}{β:Nat->aC}{H:CH}{w:ar}(h:aN P B β H w){l:Nat}{b:Nat×Nat}{sz n:Nat}{k:Kd}(hb:β l= .live b sz n k)(hk:k≠ .ro) :
 aN P B β H (w.freeze ⟨b.1,n,none⟩ 1)/\bD β w β (w.freeze ⟨b.1,n,none⟩ 1):=by
 obtain⟨cs,e,m,cs',e',fr,h1,h2,h3,h4,h5,a,o,p⟩:=h.live hb;have d : ∀b',b'≠b.1->(w.freeze ⟨b.1,n,none⟩ 1).heap[b']? = w.heap[b']? :=λb' av=>by
  simp[De,TU,Ne.symm av]
 have c : ∃fr',zx n fr'/\(w.freeze ⟨b.1,n,none⟩ 1).heap[b.1]? = some (.cells cs' e' fr'):=by
  obtain⟨lo,hi⟩:=fr;refine⟨if lo==hi then (n,n+1) else (min lo n,max hi (n+1)),?_,by simp[De,TU,h1]⟩;split;·exact .inr (ag _)
  rename_i av;rcases(a hk).2.2 with g | g
  ·exact absurd (by simpa using g) av
  exact .inr (by simp only;omega)
 obtain⟨fr',q,c⟩:=c;have f:(w.freeze ⟨b.1,n,none⟩ 1).heap.size=w.heap.size:=by simp[De]
 refine⟨⟨λl'=> ?_,h.nx,h.inj,by rw[f];exact h.base⟩,⟨rfl,rfl,rfl,by rw[f];exact ag _,λb' i j=>⟨d b' ?_,j⟩,eU.refl β⟩⟩
 ·by_cases el:l'=l
  ·subst el;have:=h.iK l';rw[hb,m] at this⊢;refine⟨this.1,cs',e',fr',c,h2,h3,h4,h5,λg=>⟨(a g).1,(a g).2.1,q⟩,o,p⟩
  exact(h.iK l').mono (eU.refl β) λb' i=>d b' (N2 h hb hk i el)
 rintro rfl;exact j l (by rw[hb];exact⟨hk,rfl⟩)
theorem aey{t e:aH}{x:au}(ht:P.underlying t=some (.slice e))(he:P.underlying e=some (.int .u8)):rq P (.convert t t x) (.hU x):=λB β H w J f o v H' ho hv i d=>by
 have hx:=hv x So;simp only[cy,Od] at d;split at d
 ·rename_i l K n c j;rw[j] at hx;split at d
  ·rename_i cs L k r;split at d
   ·rename_i g;cases d;have hk:=Kd.Gh g.1;obtain⟨b,sz,m,hb,s⟩:=i.cells r;obtain⟨cs',e',fr,u,y,_⟩:=s;obtain⟨z,s2⟩:=i.freeze hb hk;have A:w.shape? b.1=some (e',m):=by simp[World.shape?,u,y]
    generalize C:f x=q at hx;cases hx with
    | @sl _ _ M _ _ _ _ c' _ hl D E F G I=>
      rw[hb] at hl;cases hl;refine⟨β,w.freeze ⟨b.1,m,none⟩ 1,_,_,?_, .inl rfl, .sl hb D E F G I,z,s2⟩;simp[execOp,ho,C,convert,run_underlying ht,run_underlying he,markStringish,A,xu]
    | qv a hl=>rw[hb] at hl;cases hl
    | qw a hl=>exact absurd rfl g.2
   cases d
  cases d
 cases d
theorem aez{e:aH}(hc:P.cellsOf e=1){count o n:Nat}(hn:o+n<=count):liesAt P P.depth e count o e n=true:=by
 have hd:P.depth=(2*(P.types.size+Made.depth)+1)+1:=rfl;rw[hd];simp only[liesAt,Bool.or_eq_true];left;rw[hd];simp[rowAt,hc,hn,sameLayout];omega
theorem aeA(w:ar)(a it ty e:aH)(hp:P.underlying a=some (.pointer e))(hc:P.cellsOf e=1)(g o cells:Nat)(d:w.shape? g=some (e,cells))(l:List UInt8)(f:l≠ [])(hn:o+l.length<=cells)(h:l.length<=9223372036854775807)
 (i : ∀j x,l[j]? = some x->w.cell? ((⟨g,o,none⟩:ej).add j)=some (.int .u8 x.toNat)) :
 (Builtin.unsafeString_ #[a,it] ty #[.pointer (some ⟨g,o,none⟩), .int .i64 l.length]).run P w= .ok (.string ⟨l.toArray⟩) (w.freeze ⟨g,o,none⟩ l.length):=by
 have hl:l.length≠0:=by simpa using f
 have k:=Lib.run_loadBytes (P:=P) w l ⟨g,o,none⟩ .empty i;have b:=aez (P:=P) hc (count:=cells / P.cellsOf e) (o:=o) (n:=l.length) (by rw[hc];simpa using hn);have m : ¬(9223372036854775807:Int)<(l.length:Int):=by omega
 have p:Builtin.unsafeString_ #[a,it] ty #[.pointer (some ⟨g,o,none⟩), .int .i64 l.length] =
  (do
    let n <-asInt (.int .i64 l.length)
    if n<0 then runtimePanic (.error "unsafe.String: len out of range")
    if n>IntKind.i64.max then unsupported (.unsafePointer "String: a length above the largest int")
    if n=0 then pure (.string .empty)
    else if <-variablesAt ⟨g,o,none⟩ (<-elemOf a) n.toNat then do
     let s <-loadBytes ⟨g,o,none⟩ .empty n.toNat
     freeze ⟨g,o,none⟩ n.toNat
     pure (.string s)
    else unsupported (.unsafePointer "String: not so many bytes at ptr")):=rfl
 rw[p];have c:IntKind.i64.max=9223372036854775807:=rfl;have q : ¬(l.length:Int)<0:=by omega
 simp[asInt,asIntOf,c,m,q,hl,variablesAt,d,elemOf,run_underlying hp,b,k]
theorem aN.aeD{B:Nat}{β:Nat->aC}{H:CH}{w:ar}(h:aN P B β H w){l:Nat}{b:Nat×Nat}{sz n:Nat}{k:Kd}(hb:β l= .live b sz n k)(hk:k≠ .ro)(o m:Nat) :
 aN P B (dS β l .dead) (H.set l .dead) (w.freeze ⟨b.1,o,none⟩ m)/\bD β w (dS β l .dead) (w.freeze ⟨b.1,o,none⟩ m):=by
 obtain⟨k1,c⟩:=h.kill hb;have d : ∀b',b'≠b.1->(w.freeze ⟨b.1,o,none⟩ m).heap[b']? = w.heap[b']? :=λb' av=>by
  simp only[De];split;·rfl
  simp[TU,Ne.symm av]
 have e:(w.freeze ⟨b.1,o,none⟩ m).heap.size=w.heap.size:=by
  simp only[De];split;·rfl
  simp
 refine⟨⟨λl'=> ?_,k1.nx,k1.inj,by rw[e];exact h.base⟩,⟨(by simp only[De];split<;>rfl),(by simp only[De];split<;>rfl),(by simp only[De];split<;>rfl),by rw[e];exact ag _,λb' a f=>⟨d b' ?_,(c.cY b' a f).2⟩,c.ext⟩⟩
 ·by_cases el:l'=l
  ·subst el;simp only[fb,CH.set,iT];trivial
  have:=k1.iK l';simp only[eD el,CH.set,iN el] at this⊢
  refine this.mono (eU.refl _) λb' a=>d b' (N2 h hb hk a el)
 rintro rfl;exact f l (by rw[hb];exact⟨hk,rfl⟩)
def U1:aH->Nat->Nat->Bool:=λ_ n o=>Nat.blt o n
@[irreducible] def Gq {P:aZ} (u:aH):aH->Nat->Nat->Bool:=λe n o=>liesAt P P.depth e (n / P.cellsOf e) o u 1
theorem aeE{src dst t:aH}{j:TypeInfo}{x:au}(hs:P.underlying src=some (.pointer t))(hd:P.underlying dst=some .unsafePointer)(ht:P.info? t=some j)(i:j.size≠0):xU P (.convert src dst x) (.zy U1 x):=λB β H w A c o v ho hv k d=>by
 have hx:=hv x So;simp only[bg] at d;split at d
 ·rename_i ha;cases d;have g:c x= .pointer none:=by
   generalize c x=n at hx;rw[ha] at hx;cases hx;rfl
  exact⟨.pointer none,by simp[execOp,ho,g,convert,run_underlying hs,run_underlying hd,Conv.unsafePointer], .A4⟩
 ·rename_i l f ha;split at d
  ·rename_i cs e q;split at d
   ·rename_i r;cases d;rw[ha] at hx;obtain⟨b,sz,m,hb,s⟩:=k.cells q;obtain⟨cs',e',fr,u,y,C,_⟩:=s;have z:w.shape? b.1=some (e',m):=by simp[World.shape?,u,y]
    have g:c x= .pointer (some ⟨b.1,f+b.2,none⟩):=by
     generalize c x=n at hx;cases hx with
     | ptr hl=>rw[hb] at hl;cases hl;rfl
     | oW a hl=>rw[hb] at hl;cases hl
    have D:f<cs.length:=Nat.le_of_ble_eq_true r;refine⟨_,?_, .ptr hb⟩;have:=Lib.run_to_unsafe w ⟨b.1,f+b.2,none⟩ hs hd ht i z (by show f+b.2<m;omega);simp only[execOp,ho,g];simp[this]
   cases d
  cases d
 cases d
theorem aeF{src dst u:aH}{j:TypeInfo}{x:au}(hs:P.underlying src=some .unsafePointer)(hd:P.underlying dst=some (.pointer u))(hu:P.info? u=some j):xU P (.convert src dst x) (.zy (Gq (P:=P) u) x):=λB β H w D c o v ho hv k d=>by
 have hx:=hv x So;simp only[bg] at d;split at d
 ·rename_i ha;cases d;have f:c x= .pointer none:=by
   generalize c x=n at hx;rw[ha] at hx;cases hx;rfl
  exact⟨.pointer none,by simp[execOp,ho,f,convert,run_underlying hs,run_underlying hd,Conv.unsafePointer], .A4⟩
 ·rename_i l g ha;split at d
  ·rename_i cs e q;split at d
   ·rename_i i;unfold Gq at i;cases d;rw[ha] at hx;obtain⟨b,sz,m,hb,r⟩:=k.cells q;obtain⟨cs',e',fr,s,t,E,F,G,y,I,z⟩:=r;obtain⟨J,A⟩:=z rfl;obtain⟨rfl,_⟩:=y s0;have C:w.shape? b.1=some (e',cs.length):=by simp[World.shape?,s,t];omega
    have f:c x= .pointer (some ⟨b.1,g+b.2,none⟩):=by
     generalize c x=n at hx;cases hx with
     | ptr hl=>rw[hb] at hl;cases hl;rfl
     | oW a hl=>rw[hb] at hl;cases hl
    refine⟨_,?_, .ptr hb⟩;have:=Lib.run_from_unsafe w ⟨b.1,g+b.2,none⟩ hs hd hu C (by show liesAt P P.depth e' (cs.length / P.cellsOf e') (g+b.2) u 1=true;rw[A];exact i);simp only[execOp,ho,f];simp[this]
   cases d
  cases d
 cases d
theorem aeG{t e:aH}{j:TypeInfo}(ht:P.underlying t=some (.pointer e))(hi:P.info? e=some j)(c:j.size≠0)(a b:ej)(f:a.block=b.block)(w:ar) :
 (vU t (.pointer (some a)) (.pointer (some b))).run P w= .ok (a==b) w:=by
 unfold vU;obtain⟨d,hd⟩ : ∃d,Op.maxDepth=d+1:=⟨9999,rfl⟩;rw[hd];simp[Op.equalIn,run_underlying ht,sizeOf,typeInfo,hi,c,sameAddr,f]
theorem U2{neg:Bool}{t u e:aH}{j:TypeInfo}{x y:au}(ht:P.underlying t=some (.pointer e))(hi:P.info? e=some j)(z:j.size≠0):xU P (.binOp (m8 neg) t x y u) (.Bb neg x y):=λB β H w s c o v ho hv A h=>by
 have hp:=A9 (P:=P) (neg:=neg) (u:=u) (x:=x) (y:=y) ht;simp only[bg] at h;split at h;·rename_i a ha hb;obtain⟨v',i,n⟩:=hp β s c o v ho hv (by simp only[pop,ha,hb];exact h);exact⟨v',i w,n⟩
 ·rename_i b av ha hb;obtain⟨v',i,n⟩:=hp β s c o v ho hv (by
   simp only[pop,ha,hb];cases b with
   | none=>simpa using h
   | some b=>simpa using h)
  exact⟨v',i w,n⟩
 ·rename_i l d l' f ha hb;split at h
  ·rename_i cs I k C;split at h
   ·rename_i D;subst D;cases h;have hx:=hv x So;have r:=hv y So;rw[ha] at hx;rw[hb] at r;obtain⟨b,sz,m,g,J⟩:=A.cells C;have ex:c x= .pointer (some ⟨b.1,d+b.2,none⟩):=by
     generalize c x=q at hx;cases hx with
     | ptr hl=>rw[g] at hl;cases hl;rfl
     | oW a hl=>rw[g] at hl;cases hl
    have E:c y= .pointer (some ⟨b.1,f+b.2,none⟩):=by
     generalize c y=q at r;cases r with
     | ptr hl=>rw[g] at hl;cases hl;rfl
     | oW a hl=>rw[g] at hl;cases hl
    have hg:(eqGuard (m8 neg) t x y (.pointer (some ⟨b.1,d+b.2,none⟩)) (.pointer (some ⟨b.1,f+b.2,none⟩))).run P w= .ok () w:=by
     unfold eqGuard m8;cases neg<;>rfl
    have F:=aeG (P:=P) ht hi z ⟨b.1,d+b.2,none⟩ ⟨b.1,f+b.2,none⟩ rfl w;have G:((⟨b.1,d+b.2,none⟩:ej)==⟨b.1,f+b.2,none⟩)=(d==f):=by
     by_cases e:d=f
     ·subst e;simp
     have:(d==f)=false:=by simpa using e
     rw[this];simp only[beq_eq_false_iff_ne,ne_eq,Addr.mk.injEq,true_and,and_true];omega
    refine⟨_,?_, .bool _⟩;simp only[execOp,ho,ex,E,cg,hg,bY];cases neg<;>simp only[m8,binOp,cg,F,G,bY,cO,iT,aM,iF]<;>simp
   cases h
  cases h
 cases h
theorem U3 : ∀ {l:List ae} {bs:List UInt8},Bf l=some bs->l=bs.map λx=> .int .u8 x.toNat
 | [],bs,h=>by cases h;rfl
 | v::r,bs,h=>by
   unfold Bf at h;split at h;·rename_i e;cases e
   ·rename_i n b e;cases e;split at h
    ·rename_i hn;cases a:Bf r with
     | none=>rw[a] at h;cases h
     | some l'=>
       rw[a] at h;cases h;rw[U3 a,dq];congr 2
       have:(al n.toNat).toNat=n.toNat:=by
        show n.toNat % 256=n.toNat;omega
       rw[this];omega
    cases h
   cases h
theorem aeH{j it e:aH}{p n:au}(hp:P.underlying j=some (.pointer e))(hc:P.cellsOf e=1):rq P (.call ⟨.builtin .unsafeString,#[p,n],#[j,it]⟩) (.Gg e p n):=λB β H w W c o v H' ho hv s d=>by
 have hx:=hv p S0;have hn:=hv n S0;have y : ∀(u:ae) (w':ar),(Builtin.unsafeString_ #[j,it] o.type #[c p,c n]).run P w= .ok u w'->(execOp c o).run P w= .ok (.value u) w':=λu w' h=>by
  simp only[execOp,ho,resolve,cg,cO,bY,invoke,builtin,C8,dq,lF,h]
 simp only[cy,Gi] at d;split at d
 ·rename_i ha hb;cases d;rw[ha] at hx;rw[hb] at hn;have r:c p= .pointer none:=by
   generalize c p=q at hx;cases hx;rfl
  have t:c n= .int .i64 0:=by
   generalize c n=q at hn;cases hn;rfl
  exact⟨β,w,_,_,y _ _ (by rw[r,t];exact Lib.run_unsafeString_none w j it o.type none), .inl rfl, .string _,s,bD.refl _ _⟩
 ·rename_i l g m ha hb;rw[ha] at hx;rw[hb] at hn;have t:c n= .int .i64 m:=by
   generalize c n=q at hn;cases hn;rfl
  split at d
  ·rename_i A;subst A;cases d;obtain⟨a,r⟩ : ∃a,c p= .pointer (some a):=by
    generalize c p=q at hx;cases hx<;>exact⟨_,rfl⟩
   exact⟨β,w,_,_,y _ _ (by rw[r,t];exact Lib.run_unsafeString_none w j it o.type (some a)), .inl rfl, .string _,s,bD.refl _ _⟩
  rename_i A;split at d
  ·rename_i cs X k G;split at d
   ·rename_i hg;obtain⟨h1,rfl,h2,h3,h4⟩:=hg;split at d
    ·rename_i bs I;cases d;have hk:=Kd.Gh h1;obtain⟨b,sz,C,z,J⟩:=s.cells G;obtain⟨cs',e',fr,D,K,Y,L,Z,M,g7,g8⟩:=J;obtain⟨rfl,_⟩:=M hk;have N:w.shape? b.1=some (e',C):=by simp[World.shape?,D,K]
     have r:c p= .pointer (some ⟨b.1,g+b.2,none⟩):=by
      generalize c p=q at hx;cases hx with
      | ptr hl=>rw[z] at hl;cases hl;rfl
      | oW a hl=>rw[z] at hl;cases hl
     have E:=U3 I;have f:bs.length=m.toNat:=by
      have:=congrArg l7 E;rw[kZ,nU,iH] at this;omega
     obtain⟨O,s2⟩:=s.aeD z hk (g+b.2) bs.length;refine⟨_,_,_,_,y _ _ ?_, .inl rfl, .string _,O,s2⟩;rw[r,t];have Q:m=(bs.length:Int):=by rw[f];omega
     rw[Q];refine aeA w j it o.type e' hp hc b.1 (g+b.2) C N bs (λe=>by rw[e] at f;simp at f;omega) Om Om λi x F=> ?_;have hj:=(List.getElem?_eq_some_iff.1 F).1;have R:cs[g+i]? = some (.int .u8 x.toNat):=by
      have h5:=congrArg (λl=>l[i]?) E;simp only[List.getElem?_take_of_lt (show i<m.toNat by omega),sk,kF,F,fo] at h5;exact h5
     obtain⟨v',S,T⟩:=L _ _ R;cases T;have U:(⟨b.1,g+b.2,none⟩:ej).add i=⟨b.1,g+b.2+i,none⟩:=by
      simp only[Addr.add];split;·rename_i V;subst V;rfl
      rfl
     rw[U];simp only[C0,D];rw[show g+b.2+i=g+i+b.2 by omega];simpa using S
    cases d
   cases d
  cases d
 cases d
end
section
open Go Go.RowKit
variable {P:aZ} {B:Nat}
inductive fG where
 | p (x:dN)
 | l (x:gU)
 | a (x:oX)
 | w (x:hO)
 | call (f:bk) (args:List au)
 | nG (g:au) (args:List au)
structure Item where
 dst:Option Nat
 op:fG
 guard:Option (Nat×Bool)
abbrev Fr:=Nat->ae
def aO (fr:Fr):au->ae
 | .tmp t=>fr t
 | .const v=>v
 | .global g=> .pointer (some ⟨g,0,none⟩)
 | .func f=> .func (.func f) #[] #[]
def bE (fr:Fr):Option Nat->ae->Fr
 | none,_=>fr
 | some d,v=>λt=>if t=d then v else fr t
structure Hd where
 call:bk->List ae->CH->Option (ae×CH)
 round:Nat->List ae->CH->Option (ae×CH)
def jK:ae:= .chan none
def eb (h:Hd)(fr:Fr)(H:CH):fG->Option (ae×CH)
 | .p x=>(pop (aO fr) x).map λv=>(v,H)
 | .l x=>(bg H (aO fr) x).map λv=>(v,H)
 | .a x=>(fV (aO fr) x).map λ(cs,e,k,mk)=>(kH mk H.nx,H.new (.cells cs e k))
 | .w x=>cy H (aO fr) x
 | .call f args=>h.call f (args.map (aO fr)) H
 | .nG g args=>match aO fr g with
   | .func (.func f) _ dL=>h.call f (args.map (aO fr)++dL.toList) H
   | .func (.yield l) _ _=>h.round l (args.map (aO fr)) H
   | _=>none
def ec(fr:Fr):Option (Nat×Bool)->Option Bool
 | none=>some true
 | some (s,b)=>match fr s with
   | .bool c=>some (c==b)
   | .chan none=>some false
   | _=>none
def cA(h:Hd)(it:Item)(fr:Fr)(H:CH):Option (Fr×CH):=
 match ec fr it.guard with
 | some true=>(eb h fr H it.op).map λ(v,H')=>(bE fr it.dst v,H')
 | some false=>some (bE fr it.dst jK,H)
 | none=>none
def FR (β:Nat->aC)(N:Nat)(fr:Fr)(a:Act):Prop:=N<=a.tmps.size/\∀t,VR β (fr t) (a.tmps.getD t undef)
theorem FR.mono{β β':Nat->aC}{N:Nat}{fr:Fr}{a:Act}(h:FR β N fr a)(hx:eU β β'):FR β' N fr a:=⟨h.1,λt=>(h.2 t).mono hx⟩
theorem FR.put{β:Nat->aC}{N:Nat}{fr:Fr}{a:Act}(h:FR β N fr a){d:Option Nat}(hd : ∀x,d=some x->x<N){v v':ae}(hv:VR β v v'):FR β N (bE fr d v) (a.put d v'):=by
 cases d with
 | none=>exact h
 | some x=>
   have hx:=hd x rfl;refine⟨by simpa[Act.put] using h.1,λt=> ?_⟩;simp only[bE,Act.put];by_cases e:t=x
   ·subst e;have:t<a.tmps.size:=ek hx h.1;simp[this];exact hv
   simp only[iN e];have:=h.2 t;simpa[TV (show x≠t fromλg=>e g.symm)] using this
def Bj:ae->Bool
 | .bool _ | .int _ _ | .float _ _ | .string _ | .pointer none | .slice none 0 0 | .nilFunc | .nilIface | .map none=>true
 | _=>false
def Bl:List ae->Bool:=λl=>l.all Bj
def uy:ae->Bool
 | .agg cs=>Bl cs.toList
 | v=>Bj v
theorem U6{v:ae}(h:Bj v=true)(β:Nat->aC):VR β v v:=by
 unfold Bj at h;split at h<;>first | (constructor;done) | cases h
theorem DK{l:List ae}(h:Bl l=true)(β:Nat->aC):aW β l l:=
 ⟨rfl,λi v hv=>⟨v,hv,U6 (List.all_eq_true.1 h v (sq hv)) β⟩⟩
theorem Gt{v:ae}(h:uy v=true)(β:Nat->aC):VR β v v:=by
 unfold uy at h;split at h;·rename_i cs;exact .agg rfl (aW.arr.1 (DK (l:=cs.toList) h β)).2
 exact U6 h β
def zE:au->Bool
 | .tmp _=>true
 | .const v=>uy v
 | .func _=>true
 | .global _=>false
theorem zF{β:Nat->aC}{N:Nat}{fr:Fr}{a:Act}(h:FR β N fr a){x:au}(hx:zE x=true):VR β (aO fr x) (a.eval x):=by
 cases x with
 | tmp t=>exact h.2 t
 | const v=>exact Gt hx β
 | func f=>exact .fn f rfl λi h1 h2=>absurd h1 s0
 | global g=>cases hx
def rr(P:aZ)(f:bk):Bool:=
 match P.funcs[f]? with
 | some fn=>fn.body.isSome && !(fn.name== "runtime.NumGoroutine")
 | none=>false
theorem Bm{f:bk}(h:rr P f=true)(args:Array ae)(w:ar):(callFunc f args).run P w= .ok (.enter f args) w:=by
 unfold rr at h;split at h
 ·rename_i fn a;simp only[eZ,xo] at h;have hb:fn.body.isNone=false:=by cases b:fn.body<;>simp_all
  have hn : ¬(fn.name= "runtime.NumGoroutine"):=by simpa using h.2
  unfold callFunc;simp only[cg,program,tv,bY,a];rw[iN (by simpa using hn),iN (by simp[hb])];rfl
 cases h
def Fn (ro:Option Nat):Fence:= { gZ with round:=ro }
theorem Gu{ro:Option Nat}{n:Nat}{f:bk}{args:Array ae}{w:ar}{R:Ending->ar->Prop}(h:CallsIn gZ 0 P f args w R):CallsIn (Fn ro) n P f args w R:=
 ⟨trivial,λcs _=>h.2 cs (room_wide _)⟩
theorem aeI{ro:Option Nat}{n:Nat}{l:Nat}{f:bk}{tmps:Array ae}{bF body:fT}{w:ar}{R:Ending->ar->Prop}(h:RoundIn gZ 0 P l f tmps bF body w R):RoundIn (Fn ro) n P l f tmps bF body w R:=
 ⟨trivial,λc cs _=>h.2 c cs (room_wide _)⟩
def Ou(args:List ae):Bool:=args.all uy
theorem U7{v v':ae}(h:Bj v=true){β:Nat->aC}(a:VR β v v'):v'=v:=by
 unfold Bj at h;split at h<;>first | (cases a;rfl) | cases h
theorem Ov{v v':ae}(h:uy v=true){β:Nat->aC}(a:VR β v v'):v'=v:=by
 unfold uy at h;split at h
 ·rename_i cs;cases a with
  | agg hs hi=>
    congr 1
    refine Array.ext (hs.symm) λi h1 h2=> ?_;exact U7 (List.all_eq_true.1 h _ s0) (hi i h2 h1)
 exact U7 h a
theorem U8{args a:List ae}(h:Ou args=true){β:Nat->aC}(b:aW β args a):a=args:=by
 refine List.ext_getElem b.1.symm λi h1 h2=> ?_;obtain⟨v',c,d⟩:=b.2 i args[i] (by simp[h2]);rw[dx h1] at c;cases c;exact Ov (List.all_eq_true.1 h _ s0) d
def Ow:ae->Bool
 | .func .. =>false
 | _=>true
theorem aeJ{v:ae}(h:uy v=true):Ow v=true:=by
 cases v<;>first | rfl | simp[uy,Bj] at h
def Gv(P:aZ)(f:bk)(args:List ae)(v:ae):Prop:=args.all Ow=true/\∀(β:Nat->aC) (a:List ae),aW β args a->∃v',VR β v v'/\∀w,(callFunc f a.toArray).run P w= .ok (.value v') w
theorem aeK{P:aZ}{f:bk}{args:List ae}{v:ae}(ha:Ou args=true)(hv:uy v=true)(h : ∀w,(callFunc f args.toArray).run P w= .ok (.value v) w):Gv P f args v:=⟨List.all_eq_true.2 λx hx=>aeJ (List.all_eq_true.1 ha x hx),fun β b a=>
 ⟨v,Gt hv β,λw=>by rw[U8 ha a];exact h w⟩⟩
def HS (P:aZ)(B:Nat)(h:Hd):Prop:=(∀f args H v H',h.call f args H=some (v,H')->(rr P f=true/\∀β w (a:List ae),aN P B β H w->aW β args a->
 CallsIn gZ 0 P f a.toArray w λe w'=>∃v' β',e= .returned v'/\VR β' v v'/\aN P B β' H' w'/\bD β w β' w')\/(Gv P f args v/\H'=H))/\
 ∀l args H v H',h.round l args H=some (v,H')->∀β w b (a:List ae),aN P B β H w->β l= .loop b->aW β args a->
 ∃fn tmps bF body,(Instr.yield b a.toArray).run P w= .ok (.round b fn tmps bF body) w/\RoundIn gZ 0 P b fn tmps bF body w λe w'=>∃v' β',e= .returned v'/\VR β' v v'/\aN P B β' H' w'/\bD β w β' w'
inductive yb(P:aZ)(op:Op):fG->Prop where
 | p {x:dN} (h:jx P op x):yb P op (.p x)
 | l {x:gU} (h:xU P op x):yb P op (.l x)
 | a {x:oX} (h:F8 P op x):yb P op (.a x)
 | w {x:hO} (h:rq P op x):yb P op (.w x)
 | call {f:bk} {args:Array au} {ts:Array aH} (h:op= .call { callee:= .value (.func f),args,argTypes:=ts }):yb P op (.call f args.toList)
 | nG {g:au} {args:Array au} {ts:Array aH} (h:op= .call { callee:= .value g,args,argTypes:=ts }):yb P op (.nG g args.toList)
structure uz(P:aZ)(N:Nat)(ops:Array cu)(o:cu)(it:Item):Prop where
 dst:it.dst=o.dst
 lt : ∀d,o.dst=some d->d<N
 op:yb P o.op it.op
 bB : ∀x∈o.op.operands,zE x=true
 nodefer : ∀c,o.op≠ .defer c
 guard:(o.guard=none/\it.guard=none)\/∃j b s,o.guard=some (j,b)/\it.guard=some (s,b)/\(ops[j]?).bind (·.dst)=some s/\s<N
theorem Bn{β:Nat->aC}{N:Nat}{fr:Fr}{a:Act}{ops:Array cu}{o:cu}{it:Item}(k:uz P N ops o it)(g:FR β N fr a){b:Bool}(h:ec fr it.guard=some b):Js o (yielded ops a.tmps)=b:=by
 rcases k.guard with ⟨d,e⟩ | ⟨j,c,s,d,e,l,m⟩
 ·rw[e] at h;simp only[ec,Option.some.injEq] at h;simp[Js,d,<-h]
 rw[e] at h;have i:s<a.tmps.size:=ek m g.1;have hv:=g.2 s;simp only[ec] at h;simp only[Js,d,yielded,l,Option.bind_some];rw[Array.getD_eq_getD_getElem?,sm i,qp] at hv;rw[sm i];split at h
 ·rename_i q f;rw[f] at hv;rw[hv.xQ];simp only[Option.some.injEq] at h;rw[<-h];cases q<;>cases c<;>rfl
 ·rename_i f;rw[f] at hv;have:a.tmps[s]= .tuple #[]:=by generalize a.tmps[s]=q at hv;cases hv;rfl
  rw[this];simp only[Option.some.injEq] at h;rw[<-h];rfl
 cases h
theorem JY{h:Hd}(hh:HS P B h){ro:Option Nat}{N:Nat}{ops:Array cu}{o:cu}{it:Item}(j:uz P N ops o it){β:Nat->aC}{fr fr':Fr}{H H':CH}{a:Act}{w:ar}(y:aN P B β H w)(s:FR β N fr a)
 (hw:ec fr it.guard=some true) (G:(eb h fr H it.op).map (λ(x:ae×CH)=>(bE fr it.dst x.1,x.2))=some (fr',H')) {K:Act->ar->Prop} {Q:Exit->Act->ar->Prop}
 (z : ∀β' w' v',aN P B β' H' w'->bD β w β' w'->FR β' N fr' (a.put o.dst v')->K (a.put o.dst v') w'):o.wpIn (Fn ro) 0 P a w K Q:=by
 refine⟨λf _=>trivial,?_⟩;rw[show(Fn ro).round=ro from rfl,Oper.semAt_eq ro _ _ j.nodefer];cases d:eb h fr H it.op with
 | none=>rw[d] at G;cases G
 | some r=>
   obtain⟨v,H1⟩:=r;rw[d] at G;simp only[fo,Option.some.injEq,Prod.mk.injEq] at G;obtain⟨rfl,rfl⟩:=G;have hv : ∀x∈o.op.operands,VR β (aO fr x) (a.eval x):=λx hx=>zF s (j.bB x hx);have hd : ∀x,it.dst=some x->x<N:=λx hx=>j.lt x (by rw[<-j.dst];exact hx);have O : ∀args:List au,(∀x∈args,VR β (aO fr x) (a.eval x))->aW β (args.map (aO fr)) (args.map a.eval):=by
    intro args C;refine⟨s0,λi u hu=> ?_⟩;rw[kF] at hu⊢
    cases hx:args[i]? with
    | none=>rw[hx] at hu;cases hu
    | some x=>rw[hx] at hu;cases hu;exact⟨_,rfl,C x (sq hx)⟩
   have X:=j.op;generalize zG:it.op=io at X d;cases X with
   | p hp=>
     rename_i x;simp only[eb] at d;cases t:pop (aO fr) x with
     | none=>rw[t] at d;cases d
     | some u=>
       rw[t] at d;cases d;obtain⟨v',m,R⟩:=hp β _ _ o v rfl hv t;rw[m w];exact z β w _ y (bD.refl β w) (by rw[<-j.dst];exact s.put hd R)
   | l hl=>
     rename_i x;simp only[eb] at d;cases t:bg H (aO fr) x with
     | none=>rw[t] at d;cases d
     | some u=>
       rw[t] at d;cases d;obtain⟨v',m,R⟩:=hl B β H w _ _ o v rfl hv y t;rw[m];exact z β w _ y (bD.refl β w) (by rw[<-j.dst];exact s.put hd R)
   | a ha=>
     rename_i x;simp only[eb] at d;cases t:fV (aO fr) x with
     | none=>rw[t] at d;cases d
     | some u=>
       obtain⟨cs,e,k,mk⟩:=u;rw[t] at d;cases d;obtain⟨hk,sz,L,m⟩:=ha β _ _ o cs e k mk rfl hv t;obtain⟨cs',hU,w',v',h1,h2,h3,h4,h5,h6,h7,h8,h9,S⟩:=m w;obtain⟨jZ,Y⟩:=y.alloc k hk L h6 h7 h8 h9 h2 h3 h4 h5;rw[h1];refine z _ w' _ jZ Y ?_;rw[<-j.dst];refine(s.mono Y.ext).put hd ?_;cases mk with
       | ptr=>simp only[JN] at S;subst S;exact .ptr fb
       | sl n c=>
         obtain⟨c',rfl,q1,q2,q3,q4,q5⟩:=S;exact .sl fb q1 q2 q3 (λ_=>by simpa using q4) q5
   | w ru=>
     rename_i x;obtain⟨β',w',v',n,h1,h2,h3,h4,h5⟩:=ru B β H w _ _ o v _ rfl hv y d;rw[h1];rcases h2 with rfl | ⟨rfl,rfl⟩
     ·exact z β' w' _ h4 h5 (by rw[<-j.dst];exact(s.mono h5.ext).put hd h3)
     exact z β' w' _ h4 h5 (by rw[<-j.dst];exact(s.mono h5.ext).put hd h3)
   | call he=>
     rename_i f args ts;simp only[eb] at d;have C:aW β (args.toList.map (aO fr)) (args.toList.map a.eval):=O _ λx hx=>hv x (by rw[he];simp[pB,CZ];exact .inr (by simpa using hx));rcases hh.1 _ _ _ _ _ d with ⟨hc,T⟩ | ⟨hx,rfl⟩
     case inr=>
      obtain⟨v',U,V⟩:=hx.2 β _ C;have m:(execOp a.eval o).run P w= .ok (.value v') w:=by
       simp only[execOp,he,resolve,Act.eval,Df,cg,cO,bY,invoke];have:=V w;have D:(args.toList.map a.eval).toArray=args.map a.eval:=by apply qY;simp
       rw[D] at this;simpa using this
      rw[m];exact z β w _ y (bD.refl β w) (by rw[<-j.dst];exact s.put hd U)
     have m:(execOp a.eval o).run P w= .ok (.enter f (args.map a.eval)) w:=by
      simp only[execOp,he,resolve,Act.eval,Df,cg,cO,bY,invoke];rw[Bm hc];simp
     rw[m];refine⟨λh=>absurd h (by simp[Fn,gZ]),Gu ?_⟩;have:=T β w _ y C;have D:(args.toList.map a.eval).toArray=args.map a.eval:=by apply qY;simp
     rw[D] at this;refine this.mono ?_;rintro e w' ⟨v',β',rfl,I,J,E⟩;exact z β' w' _ J E (by rw[<-j.dst];exact(s.mono E.ext).put hd I)
   | nG he=>
     rename_i g args ts;simp only[eb] at d;split at d
     ·rename_i f W dL hg;have F:=hv g (by rw[he];simp[pB,CZ]);rw[hg] at F;obtain⟨A,M,L,Z⟩ : ∃A,a.eval g= .func (.func f) #[] A/\dL.size=A.size/\∀i (h1:i<dL.size) (h2:i<A.size),VR β dL[i] A[i]:=by
       generalize a.eval g=q at F;cases F with
       | fn _ h hi=>exact⟨_,rfl,h,hi⟩
      have C:aW β (args.toList.map (aO fr)) (args.toList.map a.eval):=O _ λx hx=>hv x (by rw[he];simp[pB,CZ];exact .inr (by simpa using hx));rcases hh.1 _ _ _ _ _ d with ⟨hc,T⟩ | ⟨hx,rfl⟩
      case inr=>
       obtain⟨v',U,V⟩:=hx.2 β _ (C.append (aW.arr.2 ⟨L,Z⟩));have m:(execOp a.eval o).run P w= .ok (.value v') w:=by
        simp only[execOp,he,resolve,M,Df,cg,cO,bY,invoke];have:=V w;have D:(args.toList.map a.eval++A.toList).toArray=args.map a.eval++A:=by apply qY;simp
        rw[D] at this;simpa using this
       rw[m];exact z β w _ y (bD.refl β w) (by rw[<-j.dst];exact s.put hd U)
      have m:(execOp a.eval o).run P w= .ok (.enter f (args.map a.eval++A)) w:=by
       simp only[execOp,he,resolve,M,Df,cg,cO,bY,invoke];rw[Bm hc];simp
      rw[m];refine⟨λh=>absurd h (by simp[Fn,gZ]),Gu ?_⟩;have:=T β w _ y (C.append (aW.arr.2 ⟨L,Z⟩));have D:(args.toList.map a.eval++A.toList).toArray=args.map a.eval++A:=by apply qY;simp
      rw[D] at this;refine this.mono ?_;rintro e w' ⟨v',β',rfl,I,J,E⟩;exact z β' w' _ J E (by rw[<-j.dst];exact(s.mono E.ext).put hd I)
     ·rename_i l W dL hg;have F:=hv g (by rw[he];simp[pB,CZ]);rw[hg] at F;obtain⟨b,M,Oq⟩ : ∃b,a.eval g= .func (.yield b) #[] #[]/\β l= .loop b:=by
       generalize a.eval g=q at F;cases F with
       | xI h=>exact⟨_,rfl,h⟩
      have C:aW β (args.toList.map (aO fr)) (args.toList.map a.eval):=O _ λx hx=>hv x (by rw[he];simp[pB,CZ];exact .inr (by simpa using hx));obtain⟨fn,tmps,bF,body,hy,eE⟩:=hh.2 _ _ _ _ _ d β w b _ y Oq C;have D:(args.toList.map a.eval).toArray=args.map a.eval:=by apply qY;simp
      rw[D] at hy;have m:(execOp a.eval o).run P w= .ok (.round b fn tmps bF body) w:=by
       simp only[execOp,he,resolve,M,Df,cg,cO,bY,invoke,Array.empty_append];exact hy
      rw[m];refine⟨λh=>absurd h (by simp[Fn,gZ]),aeI ?_⟩;refine eE.mono ?_;rintro e w' ⟨v',β',rfl,I,J,E⟩;exact z β' w' _ J E (by rw[<-j.dst];exact(s.mono E.ext).put hd I)
     cases d
end
section
open Go Go.RowKit
variable {P:aZ} {B:Nat}
def c9 (h:Hd):List Item->Fr->CH->Option (Fr×CH)
 | [],fr,H=>some (fr,H)
 | it::r,fr,H=>match cA h it fr H with
   | some (fr',H')=>c9 h r fr' H'
   | none=>none
structure jf where
 af:List Item
 nb:List (Item×Nat)
 wm:Option (List Item)
inductive bU where
 | skip
 | gI (af:List Item)
 | lL (d:jf)
 | seq (a b:bU)
 | cond (c:au) (a b:bU)
 | block (id:Nat) (c:bU)
 | loop (c:bU)
 | exit (id:Nat)
 | ret
 | rv (g:au) (key:Nat×Nat)
 | bad
inductive bP where
 | normal
 | exit (id:Nat)
 | ret
def bP.J0:bP->Exit
 | .normal=> .normal
 | .exit i=> .exit i
 | .ret=> .ret
abbrev Gz:=Option (bP×Fr×CH)
def oZ:Nat->(Fr->CH->Gz)->Fr->CH->Gz
 | 0,_,_,_=>none
 | n+1,f,fr,H=>match f fr H with
   | some (.normal,fr',H')=>oZ n f fr' H'
   | r=>r
def ck:fG->Bool
 | .w _ | .call _ _ | .nG _ _=>true
 | _=>false
def cE (h:Hd):List Item->Fr->CH->Option (Fr×CH×List CH)
 | [],fr,H=>some (fr,H,[])
 | it::r,fr,H=>match cA h it fr H with
   | some (fr',H')=>(cE h r fr' H').map λ(f,K,l)=>(f,K,if ck it.op then H'::l else l)
   | none=>none
def wo(fr:Fr)(G:CH)(it:Item):Prop:=
 ec fr it.guard=some false\/∃x d,it.op= .l x/\it.dst=some d/\bg G (aO fr) x=some (fr d)
def Ox:Option (Option Nat)->bP
 | none=> .normal
 | some none=> .ret
 | some (some i)=> .exit i
open Classical in
noncomputable def sE(h:Hd)(d:jf)(fr:Fr)(H:CH):Option (Fr×CH):=
 match cE h d.af fr H with
 | some (fr',H',l)=>if ∀p∈d.nb,∃G,(H::l)[p.2]? = some G/\wo fr' G p.1 then some (fr',H') else none
 | none=>none
noncomputable def bG(h:Hd)(n:Nat):bU->Fr->CH->Gz
 | .skip,fr,H=>some (.normal,fr,H)
 | .gI af,fr,H=>(c9 h af fr H).map λ(f,K)=>(.normal,f,K)
 | .lL d,fr,H=>(sE h d fr H).map λ(f,K)=>(.normal,f,K)
 | .seq a b,fr,H=>match bG h n a fr H with
   | some (.normal,fr',H')=>bG h n b fr' H'
   | r=>r
 | .cond c a b,fr,H=>match aO fr c with
   | .bool true=>bG h n a fr H
   | .bool false=>bG h n b fr H
   | _=>none
 | .block id c,fr,H=>match bG h n c fr H with
   | some (.exit i,fr',H')=>if i=id then some (.normal,fr',H') else some (.exit i,fr',H')
   | r=>r
 | .loop c,fr,H=>oZ n (bG h n c) fr H
 | .exit id,fr,H=>some (.exit id,fr,H)
 | .ret,fr,H=>some (.ret,fr,H)
 | .bad,_,_=>none
 | .rv g key,fr,H=>match aO fr g with
   | .func (.func f) _ dL=>match h.call f (.func (.yield H.nx) #[] #[]::dL.toList) (H.new (.loop .ready none fr key)) with
     | some (_,e)=>match e.ob H.nx with
       | .loop st gP fr' j=>if st= .busy then none else some (Ox gP,fr,e.set H.nx (.loop .exhausted gP fr' j))
       | _=>none
     | none=>none
   | _=>none
def zH (P:aZ)(N:Nat)(ops:Array cu)(d:jf):Prop:=
 ∀(B:Nat) (h:Hd) (ro:Option Nat) (β:Nat->aC) (fr fr':Fr) (H H':CH) (a:Act) (w:ar) (id:Nat) (Q:Exit->Act->ar->Prop),HS P B h->aN P B β H w->FR β N fr a->sE h d fr H=some (fr',H')->
  (∀β' w' b,aN P B β' H' w'->bD β w β' w'->FR β' N fr' b->b.defers=a.defers->Q .normal b w')->(Code.region id ops true).wpIn (Fn ro) 0 P Q a w
def o9:fG->Bool
 | .p _ | .l _=>true
 | _=>false
def mb (it:Item):Item:=match it.op with
 | .a (.new _ _)=>⟨it.dst, .p (.tD (.const undef)),it.guard⟩
 | _=>it
def zI (P:aZ)(B:Nat)(f:bk)(args:List ae)(H:CH)(v:ae)(H':CH):Prop:=rr P f=true/\∀β w (a:List ae),aN P B β H w->aW β args a->
 CallsIn gZ 0 P f a.toArray w λe w'=>∃v' β',e= .panicked [{ v:=v',recovered:=false }]/\VR β' v v'/\aN P B β' H' w'/\bD β w β' w'
def zJ (P:aZ)(N:Nat)(ops:Array cu)(d:jf):Prop:=
 ∀Zl,d.wm=some Zl->∀(B:Nat) (h:Hd) (ro:Option Nat) (β:Nat->aC) (fr aj:Fr) (H H1 H':CH) (v:ae) (A:List Item) (k:Item) (R:List Item) (f:bk) (args:List au) (a:Act) (w:ar) (id:Nat) (Q:Exit->Act->ar->Prop),
  HS P B h->aN P B β H w->FR β N fr a->d.af=A++k::R->(∀x∈A,o9 x.op=true)->k.op= .call f args->c9 h A fr H=some (aj,H1)->(∃r,c9 h Zl aj H1=some r)->ec aj k.guard=some true->zI P B f (args.map (aO aj)) H1 v H'->
  (∀β' w' b v',aN P B β' H' w'->bD β w β' w'->VR β' v v'->b.defers=a.defers->(∀t,(∀x∈d.af,x.dst≠some t)->VR β' (fr t) (b.tmps.getD t undef))->Q (.panic [{ v:=v',recovered:=false }]) b w')->(Code.region id ops true).wpIn (Fn ro) 0 P Q a w
inductive jL(P:aZ)(N:Nat):fT->bU->Prop where
 | skip:jL P N .skip .skip
 | label {l:Nat}:jL P N (.label l) .skip
 | gI {id:Nat} {ops:Array cu} {af:List Item} (hl:af.length=ops.size) (h : ∀i (h1:i<af.length) (h2:i<ops.size),uz P N ops ops[i] af[i]):jL P N (.region id ops false) (.gI af)
 | lL {id:Nat} {ops:Array cu} {d:jf} (h:zH P N ops d/\zJ P N ops d):jL P N (.region id ops true) (.lL d)
 | seq {a b:fT} {ra rb:bU} (ha:jL P N a ra) (hb:jL P N b rb):jL P N (.seq a b) (.seq ra rb)
 | cond {c:au} {a b:fT} {ra rb:bU} (hc:zE c=true) (ha:jL P N a ra) (hb:jL P N b rb):jL P N (.cond c a b) (.cond c ra rb)
 | block {id:Nat} {c:fT} {rc:bU} (h:jL P N c rc):jL P N (.block id c) (.block id rc)
 | loop {c:fT} {rc:bU} (h:jL P N c rc):jL P N (.loop c) (.loop rc)
 | exit {id:Nat}:jL P N (.exit id) (.exit id)
 | ret:jL P N .ret .ret
 | bad {c:fT}:jL P N c .bad
 | scope {c:fT} {rc:bU} (h:jL P N c rc):jL P N (.scope c) rc
 | rv {g:au} {ps:Array Tmp} {ca cb:fT} {key:Nat×Nat} (hg:zE g=true) (hk:keyOf P key=some (N,ps,ca,cb)):jL P N (.rangeFunc g ps ca cb) (.rv g key)
def J1 (D:Nat):uk:= { target:= .collected D,args:= #[] }
def DM (D0:List uk)(B1:Nat)(β:Nat->aC)(w:ar)(a:Act):Prop:=
 ∃ms:List Nat,a.defers=ms.map J1++D0/\ms.Nodup/\∀D∈ms,B1<=D/\w.heap[D]? = some (.deferred (some []))/\Out β D
theorem DM.kJ{D0:List uk}{B1:Nat}{β β':Nat->aC}{w w':ar}{a a':Act}(h:DM D0 B1 β w a)(e:bD β w β' w')(hd:a'.defers=a.defers):DM D0 B1 β' w' a':=by
 obtain⟨ms,h1,h2,h3⟩:=h;refine⟨ms,hd.trans h1,h2,λD c=> ?_⟩;obtain⟨d,b,f⟩:=h3 D c;obtain⟨k1,g⟩:=e.cY D (Array.getElem?_eq_some_iff.1 b).1 f;exact⟨d,k1.trans b,g⟩
theorem DM.none{D0:List uk}{B1:Nat}{β:Nat->aC}{w:ar}{a:Act}(h:a.defers=D0):DM D0 B1 β w a:=⟨[],h,List.nodup_nil,λD b=>by cases b⟩
def DL (β:Nat->aC)(ro:Option Nat):Prop:=∀b,ro=some b->∃l,β l= .loop b
theorem DL.kJ{β β':Nat->aC}{ro:Option Nat}(h:DL β ro)(e:eU β β'):DL β' ro:=λb hb=>by
 obtain⟨l,hl⟩:=h b hb;rcases e l with g | g | ⟨_,_,_,_,g,_⟩
 ·exact⟨l,g.trans hl⟩
 ·rw[hl] at g;cases g
 rw[hl] at g;cases g
theorem aN.loop{β:Nat->aC}{H:CH}{w:ar}(h:aN P B β H w){l b:Nat}(hl:β l= .loop b) : ∃st gP fr key,H.ob l= .loop st gP fr key/\B<=b/\FW P β w b st gP fr key:=by
 have h1:=h.iK l;rw[hl] at h1;cases ho:H.ob l with
 | loop st gP fr key=>rw[ho] at h1;exact⟨_,_,_,_,rfl,h1.1,h1.2⟩
 | _=>rw[ho] at h1;exact h1.elim
theorem aN.aeL{β:Nat->aC}{H:CH}{w:ar}(h:aN P B β H w)(o:Obj):aN P B β H (w.alloc o)/\bD β w β (w.alloc o):=by
 have a : ∀b,b<w.heap.size->(w.alloc o).heap[b]? = w.heap[b]? :=λb hb=>by
  show(w.heap.push o)[b]? = _;rw[C1,iN Om]
 exact⟨⟨λl=>(h.iK l).mono (eU.refl β) λb hb=>a b (Dq h hb),h.nx,h.inj,by simpa using xn h.base⟩,⟨rfl,rfl,rfl,s0,λb hb ho=>⟨a b hb,ho⟩,eU.refl β⟩⟩
theorem aN.U'{β:Nat->aC}{H:CH}{w:ar}(h:aN P B β H w){r:Loop}{N:Nat}{fr:Nat->ae}{key:Nat×Nat}(h1:r.state= .ready)(h2:r.pending=none)(h3:keyOf P key=some (N,r.params,r.assign,r.body))(h4:N<=r.tmps.size)(h5 : ∀t,VR β (fr t) (r.tmps.getD t undef)) :
 aN P B (dS β H.nx (.loop w.heap.size)) (H.new (.loop .ready none fr key)) (w.alloc (.loop r))/\bD β w (dS β H.nx (.loop w.heap.size)) (w.alloc (.loop r)):=by
 have i:=h.oV;have f:eU β (dS β H.nx (.loop w.heap.size)):=λl=>by
  by_cases hl:l=H.nx
  ·subst hl;exact .inr (.inl i)
  exact .inl (eD hl)
 have a : ∀b,b<w.heap.size->(w.alloc (.loop r)).heap[b]? = w.heap[b]? :=λb hb=>by
  show(w.heap.push _)[b]? = _;rw[C1,iN Om]
 have j:=World.alloc_heap_new w (.loop r);refine⟨⟨λl=> ?_,λl hl=> ?_,λl l' b ho d=> ?_,by simpa using xn h.base⟩,⟨rfl,rfl,rfl,s0,λb hb k=>⟨a b hb,λl ho=> ?_⟩,f⟩⟩
 ·by_cases g:l=H.nx
  ·subst g;simp only[fb,CH.new,iT];exact⟨h.base,r,N,j,h1,by rw[h2];rfl,h3,h4,λt=>(h5 t).mono f⟩
  simp only[eD g,CH.new,iN g];exact(h.iK l).mono f λb hb=>a b (Dq h hb)
 ·have:l≠H.nx:=by simp[CH.new] at hl;omega
  simp only[CH.new,iN this];exact h.nx l (by simp[CH.new] at hl;omega)
 ·by_cases c:l=H.nx<;>by_cases e:l'=H.nx
  ·rw[c,e]
  ·subst c;rw[fb] at ho;rw[eD e] at d;have:=(tC h d).2;have:w.heap.size=b:=ho;omega
  ·subst e;rw[fb] at d;rw[eD c] at ho;have:=(tC h ho).2;have:w.heap.size=b:=d;omega
  rw[eD c] at ho;rw[eD e] at d;exact h.inj _ _ b ho d
 by_cases c:l=H.nx
 ·subst c;rw[fb] at ho;have:w.heap.size=b:=ho;omega
 rw[eD c] at ho;exact k l ho
theorem aN.Oy{β:Nat->aC}{H:CH}{w:ar}(h:aN P B β H w){l b:Nat}(hl:β l= .loop b){st:LoopState}{gP:Option (Option Nat)}{fr:Nat->ae}{key:Nat×Nat}{r:Loop}{N:Nat}(h1:r.state=st)(h2:r.pending=gP.map N1)(h3:keyOf P key=some (N,r.params,r.assign,r.body))
 (h4:N<=r.tmps.size) (h5 : ∀t,VR β (fr t) (r.tmps.getD t undef)):aN P B β (H.set l (.loop st gP fr key)) (w.putObj b (.loop r))/\bD β w β (w.putObj b (.loop r)):=by
 have j:=Ui h hl;have m:B<=b:=(tC h (l:=l) (b:=b) (by rw[hl];rfl)).1;have f : ∀k,k≠b->(w.putObj b (.loop r)).heap[k]? = w.heap[k]? :=λk hk=>AS hk;refine⟨⟨λl'=> ?_,λl' g=> ?_,h.inj,by simpa using h.base⟩,⟨rfl,rfl,rfl,s0,λk hk i=>⟨f k ?_,i⟩,eU.refl β⟩⟩
 ·by_cases e:l'=l
  ·subst e;simp only[CH.set,iT,hl];exact⟨m,r,N,World.putObj_heap_same j,h1,h2,h3,h4,h5⟩
  simp only[CH.set,iN e];refine(h.iK l').mono (eU.refl β) λk hk=>f k ?_;rintro rfl;obtain⟨_,_,_,_,_,_,q⟩:=h.loop hl;obtain⟨o,_,d,_⟩:=q;rcases hk with ⟨z,sz,n,kd,hk⟩ | hk | hk
  ·obtain⟨cs,e,_,cs',e',hU,a,_⟩:=h.live hk;rw[d] at a;cases a
  ·have:=h.iK l';rw[hk] at this;cases ho:H.ob l' with
   | map es c=>rw[ho] at this;obtain⟨_,s,a,_⟩:=this;rw[d] at a;cases a
   | qx u pp=>rw[ho] at this;have a:=this.2;rw[d] at a;cases a
   | xJ v=>rw[ho] at this;obtain⟨_,_,_,_,_,_,a⟩:=this;rw[d] at a;cases a
   | _=>rw[ho] at this;exact this.elim
  exact e (h.inj _ _ k (by rw[hk];rfl) (by rw[hl];rfl))
 ·have:l'≠l:=λe=>by
   subst e;obtain⟨_,_,_,_,ho,_⟩:=h.loop hl;rw[h.nx _ g] at ho;cases ho
  simp only[CH.set,iN this];exact h.nx _ g
 rintro rfl;exact i l (by rw[hl];rfl)
theorem aeM{g:au}{a:Act}{f:bk}{dL:Array ae}(hg:a.eval g= .func (.func f) #[] dL)(hc:rr P f=true)(l:Nat)(w:ar) :
 (resolve a.eval (rangeCall g l) 0).run P w= .ok { target:= .fn (.func f) dL,args:= #[.func (.yield l) #[] #[]] } w/\
 (invoke (.fn (.func f) dL) #[.func (.yield l) #[] #[]]).run P w= .ok (.enter f (#[.func (.yield l) #[] #[]]++dL)) w:=by
 refine⟨?_,?_⟩;·simp only[resolve,rangeCall,hg,Df,C8,dq,lF,Array.empty_append];rfl
 simp only[invoke];exact Bm hc _ _
theorem GA{h:Hd}(hh:HS P B h){ro:Option Nat}{N:Nat}{ops:Array cu}{Q:Exit->Act->ar->Prop} : ∀(l:List Nat) (af:List Item) (β:Nat->aC) (fr fr':Fr) (H H':CH) (a:Act) (w:ar),
 af.length=l.length->(∀k (h1:k<af.length) (h2:k<l.length),∃o,ops[l[k]]? = some o/\uz P N ops o af[k])->aN P B β H w->FR β N fr a->c9 h af fr H=some (fr',H')->
 (∀β' w' a',aN P B β' H' w'->bD β w β' w'->FR β' N fr' a'->a'.defers=a.defers->Q .normal a' w')->wpOpsIn (Fn ro) 0 P ops Q l a w
 | [],af,β,fr,fr',H,H',a,w,hl,_,m,g,c,n=>by
   have:af= []:=List.length_eq_zero_iff.1 (by simpa using hl);subst this;simp only[c9,Option.some.injEq,Prod.mk.injEq] at c;obtain⟨rfl,rfl⟩:=c;exact n β w a m (bD.refl β w) g rfl
 | i::l,af,β,fr,fr',H,H',a,w,hl,u,m,g,c,n=>by
   match af,hl with
   | [],hl=>simp at hl
   | it::af,hl=>
     obtain⟨o,ho,f⟩:=u 0 s0 s0;simp only[NL] at ho f;have v : ∀(β1:Nat->aC) (aj:Fr) (H1:CH) (j:Act) (d:ar),aN P B β1 H1 d->bD β w β1 d->FR β1 N aj j->j.defers=a.defers->c9 h af aj H1=some (fr',H')->wpOpsIn (Fn ro) 0 P ops Q l j d:=by
      intro β1 aj H1 j d y z A C D;refine GA hh l af β1 aj fr' H1 H' j d (by simpa using hl) (λk h1 h2=> ?_) y A D fun β' w' a' q s t E=>n β' w' a' q (z.trans s) t (E.trans C);have:=u (k+1) (by simpa using h1) (by simpa using h2);simpa using this
     simp only[c9] at c;simp only[wpOpsIn,ho];cases e:cA h it fr H with
     | none=>rw[e] at c;cases c
     | some r=>
       obtain⟨aj,H1⟩:=r;rw[e] at c;simp only at c;cases hw:ec fr it.guard with
       | none=>simp[cA,hw] at e
       | some b=>
         rw[Bn f g hw];cases b with
         | true=>
           simp only[iT];simp only[cA,hw] at e;exact JY hh f m g hw e fun β1 d F q s t=>v β1 aj H1 _ d q s t (by cases o.dst<;>rfl) c
         | false=>
           simp only[aM,iF];simp only[cA,hw,Option.some.injEq,Prod.mk.injEq] at e;obtain⟨rfl,rfl⟩:=e;refine⟨λ_ _=>trivial,v β _ _ _ w m (bD.refl β w) ?_ (by cases o.dst<;>rfl) c⟩;rw[<-f.dst];exact g.put (λx hx=>f.lt x (by rw[<-f.dst];exact hx)) .skip
theorem GC{p:Nat->Prop}(h : ∃n,p n) : ∃n,p n/\∀m,p m->n<=m:=by
 obtain⟨n,hn⟩:=h;induction n using Nat.strongRecOn with
 | _ n a=>
   by_cases g : ∃m,m<n/\p m
   ·obtain⟨m,h1,h2⟩:=g;exact a m h1 h2
   refine⟨n,hn,λm b=> ?_⟩;by_cases c:m<n
   ·exact absurd ⟨m,c,b⟩ g
   omega
noncomputable def DN{p:Nat->Prop}(h : ∃n,p n):Nat:=Classical.choose (GC h)
theorem Va{p:Nat->Prop}(h : ∃n,p n):p (DN h):=(Classical.choose_spec (GC h)).1
theorem Vb{p:Nat->Prop}(h : ∃n,p n){m:Nat}(a:p m):DN h<=m:=(Classical.choose_spec (GC h)).2 m a
theorem DO{b:Frame}{a:Act}{k:List Go.Item}{cs:List Frame}{w:ar}{c:fT}:step P (lone (b.atR a (.code (.scope c)::k)) cs w)= .next (lone (b.atR a (.code c:: .inScope c::k)) cs w):=
 step_lone_go (by simp[stepG,stepG.exec,Frame.atR])
theorem aeN{b:Frame}{a:Act}{k:List Go.Item}{cs:List Frame}{w:ar}{c:fT}:step P (lone (b.atR a (.inScope c::k)) cs w)= .next (lone (b.atR a k) cs w):=
 step_lone_go (by simp[stepG,stepG.exec,Frame.atR])
theorem OB{F:Fence}{n:Nat}{c:fT}{Q:Exit->Act->ar->Prop}{a:Act}{w:ar}(h:c.wpIn F n P (λe a w=>(∀l,e≠ .goto l)/\Q e a w) a w):(Code.scope c).wpIn F n P Q a w:=by
 intro b k cs q hb m;have d:(lone (b.atR a (.code (.scope c)::k)) cs w).fenced P F:=fenced_calm hb m rfl;obtain⟨e,g,i,⟨o,j⟩,f⟩:=h b (.inScope c::k) cs q hb m;cases e with
 | normal=>exact⟨.normal,g,i,j, .head d DO (StepsIn.trans f (.one (fenced_calm hb m rfl) aeN))⟩
 | exit id=>
   have hx:exitTo id (.inScope c::k)=exitTo id k:=by simp[exitTo]
   exact⟨.exit id,g,i,j,λk' hk=> .head d DO (f.1 k' (by rw[hx];exact hk)),
    λp hk=>let ⟨r,h1,h2⟩:=f.2 p (by rw[hx];exact hk);⟨r,h1, .head d DO h2⟩⟩
 | goto l=>exact absurd rfl (o l)
 | ret=>exact⟨_,g,i,j, .of_steps (.one d DO) f⟩
 | panic s=>exact⟨_,g,i,j, .of_steps (.one d DO) f⟩
 | outgrown=>exact⟨_,g,i,j, .of_steps (.one d DO) f⟩
theorem DQ{h:Hd}(hh:HS P B h){n:Nat}{ro:Option Nat}{N B1:Nat}{D0:List uk}{c:fT}{r:bU}(bK:jL P N c r) : ∀(β:Nat->aC) (fr fr':Fr) (H H':CH) (a:Act) (w:ar) (x:bP) (Q:Exit->Act->ar->Prop),
 aN P B β H w->FR β N fr a->DL β ro->DM D0 B1 β w a->B1<=w.heap.size->bG h n r fr H=some (x,fr',H')->
 (∀β' w' a',aN P B β' H' w'->bD β w β' w'->FR β' N fr' a'->DM D0 B1 β' w' a'->Q x.J0 a' w')->c.wpIn (Fn ro) 0 P Q a w:=by
 induction bK with
 | bad=>
   intro β fr fr' H H' a w x Q t o y u z b s;simp[bG] at b
 | scope hc R=>
   intro β fr fr' H H' a w x Q t o y u z b s;exact OB (R β fr fr' H H' a w x _ t o y u z b fun β' w' a' C v E F=>⟨λl e=>(by cases x<;>cases e),s β' w' a' C v E F⟩)
 | skip=>
   intro β fr fr' H H' a w x Q t o y u z b s;simp only[bG,Option.some.injEq,Prod.mk.injEq] at b;obtain⟨rfl,rfl,rfl⟩:=b;exact wpIn_skip (s β w a t (bD.refl β w) o u)
 | label=>
   intro β fr fr' H H' a w x Q t o y u z b s;simp only[bG,Option.some.injEq,Prod.mk.injEq] at b;obtain⟨rfl,rfl,rfl⟩:=b;exact wpIn_label (s β w a t (bD.refl β w) o u)
 | exit=>
   intro β fr fr' H H' a w x Q t o y u z b s;simp only[bG,Option.some.injEq,Prod.mk.injEq] at b;obtain⟨rfl,rfl,rfl⟩:=b;exact wpIn_exit (s β w a t (bD.refl β w) o u)
 | ret=>
   intro β fr fr' H H' a w x Q t o y u z b s;simp only[bG,Option.some.injEq,Prod.mk.injEq] at b;obtain⟨rfl,rfl,rfl⟩:=b;exact wpIn_ret (s β w a t (bD.refl β w) o u)
 | @gI id ops af hl hi=>
   intro β fr fr' H H' a w x Q t o y u z b s;simp only[bG] at b;cases A:c9 h af fr H with
   | none=>rw[A] at b;cases b
   | some q=>
     obtain⟨aj,H1⟩:=q;rw[A] at b;simp only[fo,Option.some.injEq,Prod.mk.injEq] at b;obtain⟨rfl,rfl,rfl⟩:=b;refine wpIn_region (GA hh _ af β fr _ H _ a w (by simpa using hl) (λk h1 h2=> ?_) t o A fun β' w' a' C v E F=>s β' w' a' C v E (u.kJ v F));have hk:k<ops.size:=by omega
     exact⟨ops[k],by simp[hk],hi k h1 hk⟩
 | @lL id ops d hd=>
   intro β fr fr' H H' a w x Q t o y u z b s;simp only[bG] at b;cases A:sE h d fr H with
   | none=>rw[A] at b;cases b
   | some q=>
     obtain⟨aj,H1⟩:=q;rw[A] at b;simp only[fo,Option.some.injEq,Prod.mk.injEq] at b;obtain⟨rfl,rfl,rfl⟩:=b;exact hd.1 B h ro β fr _ H _ a w id Q hh t o A fun β' w' a' C v E F=>s β' w' a' C v E (u.kJ v F)
 | @seq ca cb ra rb ha hb X Y=>
   intro β fr fr' H H' a w x Q t o y u z b s;simp only[bG] at b;cases A:bG h n ra fr H with
   | none=>rw[A] at b;cases b
   | some q=>
     obtain⟨G,aj,H1⟩:=q;rw[A] at b;refine wpIn_seq (X β fr aj H H1 a w G _ t o y u z A fun β' w' a' C v E F=> ?_);cases G with
     | normal=>exact Y β' aj fr' H1 H' a' w' x Q C E (y.kJ v.ext) F (cM z v.size) b fun β2 w2 a2 Z p2 U p4=>s β2 w2 a2 Z (v.trans p2) U p4
     | exit i=>
       simp only[Option.some.injEq,Prod.mk.injEq] at b;obtain⟨rfl,rfl,rfl⟩:=b;exact s β' w' a' C v E F
     | ret=>
       simp only[Option.some.injEq,Prod.mk.injEq] at b;obtain⟨rfl,rfl,rfl⟩:=b;exact s β' w' a' C v E F
 | @cond c ca cb ra rb hc ha hb X Y=>
   intro β fr fr' H H' a w x Q t o y u z b s;simp only[bG] at b;have hv:=zF o hc;split at b;·rename_i e;rw[e] at hv;exact wpIn_cond_true hv.xQ (X β fr fr' H H' a w x Q t o y u z b s)
   ·rename_i e;rw[e] at hv;exact wpIn_cond_false hv.xQ (Y β fr fr' H H' a w x Q t o y u z b s)
   cases b
 | @block id c rc hc R=>
   intro β fr fr' H H' a w x Q t o y u z b s;simp only[bG] at b;cases A:bG h n rc fr H with
   | none=>rw[A] at b;cases b
   | some q=>
     obtain⟨G,aj,H1⟩:=q;rw[A] at b;refine wpIn_block (R β fr aj H H1 a w G _ t o y u z A fun β' w' a' C v E F=> ?_);cases G with
     | normal=>
       simp only[Option.some.injEq,Prod.mk.injEq] at b;obtain⟨rfl,rfl,rfl⟩:=b;exact s β' w' a' C v E F
     | exit i=>
       simp only at b;split at b;·rename_i e;simp only[Option.some.injEq,Prod.mk.injEq] at b;obtain⟨rfl,rfl,rfl⟩:=b;simp only[bP.J0,Exit.inBlock,iP e];exact s β' w' a' C v E F
       rename_i e;simp only[Option.some.injEq,Prod.mk.injEq] at b;obtain⟨rfl,rfl,rfl⟩:=b;simp only[bP.J0,Exit.inBlock,iN e];exact s β' w' a' C v E F
     | ret=>
       simp only[Option.some.injEq,Prod.mk.injEq] at b;obtain⟨rfl,rfl,rfl⟩:=b;exact s β' w' a' C v E F
 | @loop c rc hc R=>
   intro β0 fX fr' H0 H' a0 w0 x Q OC Bo y u z V s;simp only[bG] at V;let J:Nat->Act->ar->Prop:=λm a w=>∃β fr H,aN P B β H w/\bD β0 w0 β w/\FR β N fr a/\DM D0 B1 β w a/\oZ m (bG h n rc) fr H=some (x,fr',H')
   classical
   refine wpIn_loop (λa w=>∃m,J m a w) (λa w=>if g : ∃m,J m a w then DN g else 0) ⟨n,β0,fX,H0,OC,bD.refl β0 w0,Bo,u,V⟩ λa w hI=> ?_;have GD:=Va hI;rw[dif_pos hI];generalize hm:DN hI=m at GD;obtain⟨β,fr,H,t,S,o,hd,b⟩:=GD;cases m with
   | zero=>simp[oZ] at b
   | succ m=>
     simp only[oZ] at b;cases A:bG h n rc fr H with
     | none=>rw[A] at b;cases b
     | some q=>
       obtain⟨G,aj,H1⟩:=q;rw[A] at b;refine R β fr aj H H1 a w G _ t o (y.kJ S.ext) hd (cM z S.size) A fun β' w' a' C v E F=> ?_;cases G with
       | normal=>
         simp only at b;have nZ:J m a' w':=⟨β',aj,H1,C,S.trans v,E,F,b⟩;have hex : ∃m,J m a' w':=⟨m,nZ⟩;refine⟨hex,?_⟩;rw[dif_pos hex];have:=Vb hex nZ;omega
       | exit i=>
         simp only[Option.some.injEq,Prod.mk.injEq] at b;obtain⟨rfl,rfl,rfl⟩:=b;exact s β' w' a' C (S.trans v) E F
       | ret=>
         simp only[Option.some.injEq,Prod.mk.injEq] at b;obtain⟨rfl,rfl,rfl⟩:=b;exact s β' w' a' C (S.trans v) E F
 | @rv g ps ca cb key hg hk=>
   intro β fr fr' H H' a w x Q t o y u z b s;simp only[bG] at b;split at b
   ·rename_i f fst dL yc;split at b
    ·rename_i v2 H2 Gy;obtain⟨hc,OD⟩:rr P f=true/\_:=(hh.1 _ _ _ _ _ Gy).resolve_right λhx=>by
      have:=hx.1.1;simp[Ow] at this
     obtain⟨K,yd,fA,JZ⟩ : ∃K,a.eval g= .func (.func f) #[] K/\dL.size=K.size/\∀i (h1:i<dL.size) (h2:i<K.size),VR β dL[i] K[i]:=by
      have:=zF o hg;rw[yc] at this;generalize a.eval g=q at this;cases this with
      | fn _ h hi=>exact⟨_,rfl,h,hi⟩
     split at b
     ·rename_i st gP aX aeO Bp;split at b;·cases b
      rename_i cx;simp only[Option.some.injEq,Prod.mk.injEq] at b;obtain⟨rfl,rfl,rfl⟩:=b;have enter : ∀fn:bk,∃(l:Nat) (mark:List uk) (I : ar),(Instr.enterLoop fn a.tmps ps ca cb ro).run P w= .ok (l,mark) I /\aN P B (dS β H.nx (.loop l)) (H.new (.loop .ready none fr key)) I /\bD β w (dS β H.nx (.loop l)) I /\
       ∀a':Act,a'.defers=mark++a.defers->DM D0 B1 (dS β H.nx (.loop l)) I a':=by
       intro fn;cases aeP:ro with
       | none=>
         obtain⟨s1,M⟩:=t.aeL (.deferred (some []));obtain⟨s2,L⟩:=s1.U' (r:= { state:= .ready,pending:=none,fn,tmps:=a.tmps,params:=ps,assign:=ca,body:=cb,defers:=w.heap.size }) (N:=N) (fr:=fr) (key:=key) rfl rfl hk o.1 o.2;have hs:(w.alloc (.deferred (some []))).heap.size=w.heap.size+1:=by simp
         rw[hs] at s2 L;refine⟨_,_,_,run_enterLoop_outer fn a.tmps ps ca cb,s2,M.trans L,λa' Bg=> ?_⟩;obtain⟨ms,m1,m2,m3⟩:=u;refine⟨w.heap.size::ms,by rw[Bg,m1];rfl,List.nodup_cons.2 ⟨λhm=> ?_,m2⟩,λD hD=> ?_⟩;·have:=(Array.getElem?_eq_some_iff.1 (m3 _ hm).2.1).1;omega
         rcases List.mem_cons.1 hD with rfl | hD
         ·refine⟨z,?_,λl ho=> ?_⟩;·have hn:=World.alloc_heap_new w (.deferred (some []));rw[<-hn];exact Below.heap_alloc _ _ _ s0
          by_cases hl:l=H.nx
          ·subst hl;rw[fb] at ho;have:w.heap.size+1=w.heap.size:=ho;omega
          rw[eD hl] at ho;have:=(tC t ho).2;omega
         obtain⟨g1,T,O⟩:=m3 D hD;obtain⟨k1,k2⟩:=(M.trans L).cY D (Array.getElem?_eq_some_iff.1 T).1 O;exact⟨g1,k1.trans T,k2⟩
       | some b0=>
         obtain⟨l0,J3⟩:=y b0 aeP;obtain⟨_,_,_,_,_,_,r0,_,V,_⟩:=t.loop J3;obtain⟨s2,L⟩:=t.U' (r:= { state:= .ready,pending:=none,fn,tmps:=a.tmps,params:=ps,assign:=ca,body:=cb,defers:=r0.defers }) (N:=N) (fr:=fr) (key:=key) rfl rfl hk o.1 o.2;exact⟨_,_,_,run_enterLoop_inner V fn a.tmps ps ca cb,s2,L,λa' Bg=>u.kJ L (by simpa using Bg)⟩
      refine wpIn_rangeFunc λfn _=> ?_;obtain⟨l,mark,I,J4,s1,M,aeQ⟩:=enter fn;obtain⟨G,x2⟩:=aeM yd hc l I;refine⟨l,mark,I,_,I,f,_,I,J4,G,λ_ _=>trivial,x2,λh=>absurd h (by simp[Fn,gZ]),Gu ?_⟩;have fB:aW (dS β H.nx (.loop l)) (.func (.yield H.nx) #[] #[]::dL.toList) (.func (.yield l) #[] #[]::K.toList):=
       aW.cons (.xI fb) ((aW.arr.2 ⟨fA,JZ⟩).mono M.ext)
      have:=OD _ I _ s1 fB;have L:(Value.func (.yield l) #[] #[]::K.toList).toArray= #[.func (.yield l) #[] #[]]++K:=by apply qY;simp
      rw[L] at this;refine this.mono ?_;rintro e w3 ⟨v',β3,rfl,g1,T,O⟩;have Vc:β3 H.nx= .loop l:=by
       rcases O.ext H.nx with q | q | ⟨_,_,_,_,q,_⟩
       ·rw[q,fb]
       ·rw[fb] at q;cases q
       rw[fb] at q;cases q
      obtain⟨st3,apf,uB,apg,J5,_,r3,N3,Z,p2,U,p4,p5,p6⟩:=T.loop Vc;rw[Bp] at J5;cases J5;have GF:=run_endLoop (P:=P) Z (by rw[p2];exact cx);obtain⟨s4,W⟩:=T.Oy Vc (st:= .exhausted) (gP:=gP) (fr:=aX) (key:=aeO) (r:= { r3 with state:= .exhausted }) (N:=N3) rfl U p4 p5 p6;generalize w3.putObj l (.loop { r3 with state:= .exhausted })=w4 at GF s4 W;have mI:Q (Ox gP).J0 { a with defers:=mark++a.defers } w4:=
       s _ _ _ s4 (M.trans (O.trans W)) (FR.mono (a:= { a with defers:=mark++a.defers }) o ((M.trans (O.trans W)).ext)) ((aeQ { a with defers:=mark++a.defers } rfl).kJ (O.trans W) rfl)
      refine⟨r3.pending,_,GF,?_⟩;rw[U];cases gP with
      | none=>exact mI
      | some j=>
        cases j with
        | none=>exact wpIn_ret mI
        | some i=>exact wpIn_exit mI
     cases b
    cases b
   cases b
end
end Can
end Go.Proofs.YtdfgkcoenagaaaaGreat
