/- Canonical runs: where they begin; what a slice reads as. Over any program. Canonical runs: panics. Over any program. Canonical runs: regions in parts; operations that the canonical run has no words for, at their end. Over any program. Canonical runs: a function that defers a closure and is saved by it. Over any program. Canonical runs: calls that touch no memory of others (by evaluation, or by a run in an empty memory) as rules of a table. Over any program. Canonical runs: a table with functions of which it is told what they do. Over any program. Itoa, told: a number's text; the library's table lies where it lay. without, by the kit's walk: the names but those of parameters, in whatever order the map is gone through. without, told: the names but those of parameters, as a function. Lex: what is computed, in plain words: bytes, tokens, rows. No program in sight. Lex: the table of calls that are answered at once: the chapter's example, and the library's search for a byte. Lex: the reader in memory; its small steps. Lex: the reader's loops over bytes. Lex: escapes, strings. -/
import Derived.Test.YticlaccbodpkeaaGreatDoorVa
import Derived.Test.YticlaccbodpkeaaGreatDoorVc
import Derived.OpenShut
import Derived.ChangeArms
import Derived.Laws.BitsAllLaws
import Derived.SizedLaws
import Derived.Deep.CondSized
import Derived.Test.YticlaccbodpkeaaGreatDoorRows
import Derived.RecoverIn
import Derived.Shelf.LaysM
import Derived.Shelf.Strconv.Itoa3
import Derived.Test.YticlaccbodpkeaaGreatDoorChecked
import Derived.WalkKit
import Derived.Maps.Ext
import Derived.Maps.RangeWalk
import Derived.Maps.OwnSet
import Derived.StringKeys
import Derived.IntWalk
import Derived.Laws.Externs
open And renaming intro → ak
open Array renaming ext' → rO, getElem?_append_left → RP
open Bool renaming and_eq_true → fJ, and_true → Cc
open Go renaming Addr → cm, DataW → pR, FuncId → aU, IntKind → qz, LeavesInM → Ec, MapEntry → nv, Operand → au, Program → aY, TypeId → aI, Value → ae, World → aq
open Go.Fence renaming wide → iW
open Go.IntKind renaming bits → Cb
open Go.MapKept renaming bytes_beq → RQ
open Go.Utf8 renaming decode → GC
open Go.Value renaming cells → dp, int → yv
open Go.World renaming cell? → D8, cell?_of_block → R8, putObj_heap_other → Ea
open Iff renaming rfl → dS
open Int renaming fdiv_eq_ediv_of_nonneg → R7, toNat_natCast → gj
open List renaming cons_append → jU, drop_drop → ir, drop_eq_getElem_cons → rQ, drop_eq_nil_of_le → NG, ext_getElem? → Ca, flatMap_cons → vU, getElem?_drop → sP, getElem?_eq_getElem → bM, getElem?_eq_none → wW, getElem?_map → hY, getElem?_take_of_lt → Af, getElem_cons_zero → RR, getElem_drop → Yy, getElem_map → Jn, getElem_mem → yy, length_append → cO, length_drop → ky, length_map → fh, length_singleton → NC, map_cons → dG, mem_append → ia, mem_append_left → tQ, mem_append_right → Ed, mem_cons → ox, mem_cons_of_mem → hU, mem_cons_self → j5, mem_filterMap → ND, nil_append → mR, range → lQ, replicate → qA, take_length → pQ, take_of_length_le → qD
open Nat renaming add_assoc → mP, add_sub_cancel_left → j6, le_max_left → wX, le_max_right → wY, le_refl → al, le_succ → mQ, le_trans → bW, lt_of_lt_of_le → cj, lt_succ_self → iC, one_mul → Jq, zero_le → cx, zero_mul → xb
open Option renaming map_eq_some_iff → nB, map_some → fg
open UInt8 renaming ofNat → ar
set_option maxRecDepth 4000
set_option linter.unusedSimpArgs false
set_option linter.unusedVariables false
namespace Go.Proofs.YticlaccbodpkeaaGreatDoor
namespace Can
section
open Go Go.RowKit
variable {P:aY} {B:Nat}
structure ag(H K:CH):Prop where
 nx:H.nx<=K.nx
 ob : ∀l,l<H.nx->K.ob l=H.ob l
theorem ag.refl(H:CH):ag H H:=⟨al _,λ_ _=>rfl⟩
theorem ag.trans{A H K:CH}(h:ag A H)(k:ag H K):ag A K:=⟨bW h.nx k.nx,λl hl=>(k.ob l (cj hl h.nx)).trans (h.ob l hl)⟩
theorem ag.new{A H:CH}(h:ag A H)(o:cy):ag A (H.new o):=h.trans ⟨mQ _,λl hl=>by simp[CH.new];intro e;omega⟩
theorem ag.set{A H:CH}(h:ag A H){l:Nat}(hl:A.nx<=l)(o:cy):ag A (H.set l o):=⟨h.nx,λk hk=>by simp only[CH.set];rw[iN Om];exact h.ob k hk⟩
abbrev uQ(α:Type):=CH->List ae->α->Prop
def pG (k:qz):uQ Int:=λ_ cs x=>cs= [.int k x]/\(Lit.int k x).wf=true
def gU {α:Type}(sz:Nat)(R:uQ α)(H:CH)(a:Option cm)(c:Nat)(xs:List α):Prop:=
 (xs= []/\c=0/\(a=none\/a=some ⟨0,0,some 0⟩\/a=some ⟨0,0,some 1⟩))\/
 ∃l o os e k,a=some ⟨l,o,none⟩/\l<H.nx/\xs.length<=c/\c<=maxLen/\H.ob l= .cells os e k/\o+xs.length*sz<=os.length/\
  ∀i (h:i<xs.length),R H ((os.drop (o+i*sz)).take sz) xs[i]
def CSl {α:Type}(sz:Nat)(R:uQ α):uQ (List α):=λH cs xs=>∃a c,cs= [.slice a xs.length c]/\gU sz R H a c xs
def aaY{α:Type}(R:uQ α):Prop:=∀(H K:CH) (cs:List ae) (x:α),ag H K->R H cs x->R K cs x
theorem pG.jN(k:qz):aaY (pG k):=λ_ _ _ _ _ h=>h
theorem gU.jN{α:Type}{sz:Nat}{R:uQ α}(g:aaY R){H K:CH}{a:Option cm}{c:Nat}{xs:List α}(hx:ag H K)(h:gU sz R H a c xs):gU sz R K a c xs:=by
 rcases h with h | ⟨l,o,os,e,k,b,h1,h2,h3,h4,h5,f⟩
 ·exact .inl h
 exact .inr ⟨l,o,os,e,k,b,cj h1 hx.nx,h2,h3,(hx.ob l h1).trans h4,h5,λi hi=>g _ _ _ _ hx (f i hi)⟩
def cz:ae->ae
 | .slice (some _) 0 0=> .slice (some ⟨0,0,some 0⟩) 0 0
 | .slice (some _) 0 _=> .slice (some ⟨0,0,some 1⟩) 0 0
 | v=>v
def uP:ae->ae
 | .agg cs=> .agg (cs.toList.map cz).toArray
 | v=>cz v
open Classical in
noncomputable def mask(β:Nat->aB)(v:ae):ae:=if VR β (cz v) v then cz v else undef
theorem ajj(β:Nat->aB)(v:ae):VR β (mask β v) v:=by
 unfold mask;split;·assumption
 exact .undef _
theorem aaZ{β:Nat->aB}{v:ae}(h:VR β (cz v) v):mask β v=cz v:=by unfold mask;rw[iP h]
def kU(w:aq):Nat->aB:=λb=>match w.heap[b]? with
 | some (.cells cs _ _)=> .live (b,0) 0 cs.size .ro
 | some _=> .dead
 | none=> .oy
noncomputable def tU(w:aq):CH:= { nx:=w.heap.size,ob:=λb=>match w.heap[b]? with
 | some (.cells cs _ _)=> .cells (cs.toList.map (mask (kU w))) 0 .ro
 | some _=> .dead
 | none=> .oy }
theorem ajk(w:aq):aE P w.heap.size (kU w) (tU w) w:=by
 have c : ∀l b,¬(kU w l).owns b:=λl b ho=>by
  unfold kU at ho;split at ho;·exact ho.1 rfl
  ·exact ho
  exact ho
 refine⟨λl=> ?_,λl hl=> ?_,λl l' b h1 _=>absurd h1 (c l b),al _,λl b sz n e=> ?_⟩
 ·have hb:kU w l=match w.heap[l]? with
   | some (.cells cs _ _)=> .live (l,0) 0 cs.size .ro
   | some _=> .dead
   | none=> .oy:=rfl
  have ho:(tU w).ob l=match w.heap[l]? with
   | some (.cells cs _ _)=> .cells (cs.toList.map (mask (kU w))) 0 .ro
   | some _=> .dead
   | none=> .oy:=rfl
  rw[hb,ho];cases hh:w.heap[l]? with
  | none=>exact trivial
  | some o=>
    cases o with
    | cells cs e fr=>
      refine⟨rfl,cs,e,fr,hh,rfl,Sm,λi v hv=> ?_,λh=>absurd rfl h,λh=>absurd rfl h,λ_=>⟨(Array.getElem?_eq_some_iff.1 hh).1,Sm⟩,λh=>by cases h⟩;rw[hY] at hv;cases hc:cs.toList[i]? with
      | none=>rw[hc] at hv;cases hv
      | some u=>rw[hc] at hv;cases hv;exact⟨u,by simpa using hc,ajj _ _⟩
    | _=>exact trivial
 ·show(match w.heap[l]? with | some (.cells cs _ _)=>_ | some _=>_ | none=>_)=_;have:w.heap[l]? = none:=Array.getElem?_eq_none hl;rw[this]
 unfold kU at e;split at e;·cases e;rfl
 ·cases e
 cases e
theorem ajl(w:aq)(b:Nat):Out (kU w) b:=λl ho=>by
 unfold kU at ho;split at ho;·exact ho.1 rfl
 ·exact ho
 exact ho
theorem ajm{w w':aq}{β':Nat->aB}(h:bB (kU w) w β' w'):Below w.heap.size w w':=
 ⟨h.os,h.tape,h.output,h.size,λk hk=>(h.cP k hk (ajl w k)).1⟩
theorem aa0{w:aq}{b o:Nat}{v:ae}(h:w.cell? ⟨b,o,none⟩=some v) : ∃(n:Nat) (os:List ae),kU w b= .live (b,0) 0 n .ro/\(tU w).ob b= .cells (os.map (mask (kU w))) 0 .ro/\∀i,w.cell? ⟨b,i,none⟩=os[i]? :=by
 unfold D8 at h;cases hh:w.heap[b]? with
 | none=>simp[hh] at h
 | some ob=>
   cases ob with
   | cells cs e fr=>
     refine⟨cs.size,cs.toList,?_,?_,λi=> ?_⟩;·unfold kU;rw[hh]
     ·show(match w.heap[b]? with | some (.cells cs _ _)=>_ | some _=>_ | none=>_)=_;rw[hh]
     simp[D8,hh]
   | _=>simp[hh] at h
section
variable {H:Type} {enc:aI×ae->H} {w:aq} {base:Nat} {spare:Nat->Bool} {held:Bool}
def aa1{α:Type}(enc:aI×ae->H)(P:aY)(w:aq)(base:Nat)(spare:Nat->Bool)(held:Bool)(t:aI)(sz:Nat)(R:uQ α):Prop:=
 ∀fuel cs x,DataW.trod enc P w base spare held fuel t cs=some x->cs.length=sz/\(∀v∈cs,VR (kU w) (cz v) v)/\∃y,R (tU w) (cs.map cz) y
theorem arT{α:Type}{R:uQ α}{t e:aI}{sz:Nat}(ht:P.underlying t=some (.slice e))(hc:P.cellsOf e=sz)(hp:0<sz)(he:aa1 enc P w base spare held e sz R) :
 aa1 enc P w base spare held t 1 (CSl sz R):=by
 intro fuel cs x h;rcases Deep.open_slice ht h with ⟨rfl,_⟩ | ⟨a,len,cap,m,n,D,Q,rfl,hb,hl,q,C,_,hx⟩
 ·exact⟨rfl,λv hv=>by simp at hv;subst hv;exact .Aq,[],none,0,rfl, .inl ⟨rfl,rfl, .inl rfl⟩⟩
 refine⟨rfl,?_⟩;cases len with
 | zero=>
   cases cap with
   | zero=>exact⟨λv hv=>by simp at hv;subst hv;exact .xi a,[],some ⟨0,0,some 0⟩,0,rfl, .inl ⟨rfl,rfl, .inr (.inl rfl)⟩⟩
   | succ c=>exact⟨λv hv=>by simp at hv;subst hv;exact .yI a (c+1),[],some ⟨0,0,some 1⟩,0,rfl, .inl ⟨rfl,rfl, .inr (.inr rfl)⟩⟩
 | succ len=>
   have S:len+1<=m:=by rw[C];split<;>omega
   have each : ∀i,i<len+1->∃y:α,∃es:List ae,es.length=sz/\(∀v∈es,VR (kU w) (cz v) v)/\R (tU w) (es.map cz) y/\∀j (g:j<es.length),w.cell? ((a.add (i*sz)).add j)=some es[j]:=by
    intro i hi;obtain⟨cs',h1,h2⟩:=hx i Om;obtain⟨E,hv,y,F⟩:=he _ _ _ h2;rw[hc] at h1;obtain⟨_,_,G⟩:=World.cells?_some h1;exact⟨y,cs',E,hv,F,λj g=>by rw[G j Om,bM g]⟩
   have s:a.spot=none:=by
    obtain⟨_,es,h1,_,_,h3⟩:=each 0 Om;have:=h3 0 Om;simp only[xb,Addr.add,iT] at this;unfold D8 at this;cases hs:a.spot with
    | none=>rfl
    | some k=>
      split at this;·simp[hs] at this
      cases this
   obtain⟨f,b,I⟩:=a;simp only at s;subst s;have o : ∀k j,(((⟨f,b,none⟩:cm).add k).add j)=⟨f,b+k+j,none⟩:=by
    intro k j;unfold Addr.add
    (repeat' split)<;>simp_all
   obtain⟨ys,u,J⟩:=aaV each;have L : ∃v,w.cell? ⟨f,b,none⟩=some v:=by
    obtain⟨_,es,h1,_,_,h3⟩:=each 0 Om;have:=h3 0 Om;rw[o] at this;simp only[xb,Nat.add_zero] at this;exact⟨_,this⟩
   obtain⟨v0,z⟩:=L;obtain⟨U,os,M,N,A⟩:=aa0 z;have l : ∀i,i<len+1->b+(i+1)*sz<=os.length:=by
    intro i hi;obtain⟨_,es,h1,_,_,h3⟩:=each i hi;have:=h3 (sz-1) Om;rw[o,A] at this;have:=(List.getElem?_eq_some_iff.1 this).1;rw[Nat.add_mul,Jq];omega
   have O : ∀i,i<len+1->∀es:List ae,es.length=sz->(∀v∈es,VR (kU w) (cz v) v)->(∀j (g:j<es.length),w.cell? (((⟨f,b,none⟩:cm).add (i*sz)).add j)=some es[j])->
    ((os.map (mask (kU w))).drop (b+i*sz)).take sz=es.map cz:=by
    intro i hi es h1 hv h3;apply Ca;intro j;by_cases g:j<sz
    ·rw[Af g,sP,hY,hY,<-A];have:=h3 j Om;rw[o] at this;rw[this,bM Om];simp only[fg];rw[aaZ (hv _ (yy _))]
    rw[wW Sq,wW Sq]
   refine⟨λv hv=> ?_,ys,some ⟨f,b,none⟩,cap,?_,(.inr ⟨f,b,_,0, .ro,rfl,World.block_lt_of_cell? _ _ z,Om,q,N,?_,λi hi=> ?_⟩)⟩;·simp at hv;subst hv;exact .sl M hl (al _) q (λh=>absurd rfl h) (λ_=>rfl)
   ·rw[u];rfl
   ·rw[u];simpa using l len Om
   obtain⟨es,h1,h2,h3,h4⟩:=J i hi;rw[O i Om es h1 h2 h4];exact h3
theorem YF(v:ae):(uP v).cells.toList=v.cells.toList.map cz:=by
 cases v<;>try rfl
 rename_i a n c;cases a with
 | none=>rfl
 | some a=>cases n with
   | zero=>cases c<;>rfl
   | succ n=>rfl
theorem agl{v a b:ae}{r:List ae}(h:v.cells.toList=a::b::r):v= .agg (a::b::r).toArray:=by
 cases v<;>first | (exact congrArg Value.agg (by rw[<-h];simp[dp])) | (simp[dp] at h)
end
theorem agw{T:bZ}{w:World}(hT:uf P w.heap.size T){f:FuncId}{args cq:List Value}(hv:aQ (kU w) args cq)(h:aR T f args (tU w) λv _=>v= .bool true)(hc:qJ P f=true:=by kernel_rfl) :
 Calls P f cq.toArray w λe w'=>e= .returned (.bool true)/\Below w.heap.size w w':=by
 obtain⟨n,v,H',h1,rfl⟩:=h;refine(J9 hT h1 (ajk w) hv hc).mono λe w' ⟨v',β',he,J2,hs,xk⟩=> ?_;cases J2;exact⟨he,ajm xk⟩
end
section
open Go Go.RowKit
variable {P:aY} {B:Nat}
noncomputable def rF(P:aY)(f:Nat):xx:=(nL P (λN ops=>kf P N ops) f).getD ⟨0,[], .skip⟩
theorem ve{T:bZ}{f:aU}{args:List ae}{H H':CH}{v:ae}{Q:ae->CH->Prop}(h:aR T f args H λu K=>u=v/\K=H'):aR T f args H Q↔Q v H':=by
 constructor;·rintro⟨m,u,K,c,q⟩;obtain⟨n,_,_,e,rfl,rfl⟩:=h;have h1:=Z6 (T:=T) (wX m n) _ _ _ _ c;have h2:=Z6 (T:=T) (wY m n) _ _ _ _ e;rw[h1] at h2;cases h2;exact q
 exactλk=>h.mono λu K ⟨a,b⟩=>by subst a;subst b;exact k
end
section
open Go Go.RowKit
theorem ajn{a b:Int}(h1:0<=a)(h2:a<18446744073709551616)(h3:0<=b)(h4:b<18446744073709551616):bV (binOp .and 0 (.int .u64 a) (.int .u64 b))=some (.int .u64 ((a.toNat &&& b.toNat:Nat):Int)):=by
 rw[ajg,<-u64_and a b h1 h2 h3 h4];rfl
theorem ajo{a b:Int}(h1:0<=a)(h2:a<18446744073709551616)(h3:0<=b)(h4:b<18446744073709551616):bV (binOp .or 0 (.int .u64 a) (.int .u64 b))=some (.int .u64 ((a.toNat ||| b.toNat:Nat):Int)):=by
 rw[ajh,<-u64_or a b h1 h2 h3 h4];rfl
theorem T9(n:Nat){a b:Int}(hb:b=((2 ^ n-1:Nat):Int))(hn:n<=64)(h1:0<=a)(h2:a<18446744073709551616):bV (binOp .and 0 (.int .u64 a) (.int .u64 b))=some (.int .u64 (a % ((2 ^ n:Nat):Int))):=by
 have hp:2 ^ n<=2 ^ 64:=Nat.pow_le_pow_right de hn;have c:1<=2 ^ n:=Nat.one_le_two_pow;rw[ajn h1 h2 Om Om];congr 2
 rw[hb,gj,Nat.and_two_pow_sub_one_eq_mod];obtain⟨A,rfl⟩:=Int.eq_ofNat_of_zero_le h1;simp
theorem aa2{a:Int}(h1:0<=a)(h2:a<18446744073709551616):bV (binOp .and 0 (.int .u64 a) (.int .u64 3))=some (.int .u64 (a % 4)):=T9 2 de de h1 h2
theorem aa3{a:Int}(h1:0<=a)(h2:a<18446744073709551616):bV (binOp .and 0 (.int .u64 a) (.int .u64 255))=some (.int .u64 (a % 256)):=T9 8 de de h1 h2
theorem aa4{a:Int}(h1:0<=a)(h2:a<18446744073709551616):bV (binOp .and 0 (.int .u64 a) (.int .u64 16777215))=some (.int .u64 (a % 16777216)):=T9 24 de de h1 h2
section
variable {k k':qz} {a:Int}
theorem aa5:bV (binOp .shr 0 (.int .u64 a) (.int k' 2))=some (.int .u64 (a / 4)):=by rw[KM de];simp[Cb,R7]
theorem aa6:bV (binOp .shr 0 (.int .i64 a) (.int k' 2))=some (.int .i64 (a / 4)):=by rw[KM de];simp[Cb,R7]
theorem aa7:bV (binOp .shr 0 (.int .u64 a) (.int k' 8))=some (.int .u64 (a / 256)):=by rw[KM de];simp[Cb,R7]
theorem aa8:bV (binOp .shr 0 (.int .u64 a) (.int k' 32))=some (.int .u64 (a / 4294967296)):=by rw[KM de];simp[Cb,R7]
theorem aa9:bV (binOp .shr 0 (.int .u64 a) (.int k' 56))=some (.int .u64 (a / 72057594037927936)):=by rw[KM de];simp[Cb,R7]
theorem aa':bV (binOp .shl 0 (.int .u64 a) (.int k' 2))=some (.int .u64 (IntKind.u64.wrap (a*4))):=by rw[T5 de];simp[Cb]
theorem aba:bV (binOp .shl 0 (.int .u64 a) (.int k' 8))=some (.int .u64 (IntKind.u64.wrap (a*256))):=by rw[T5 de];simp[Cb]
theorem abb:bV (binOp .shl 0 (.int .u64 a) (.int k' 32))=some (.int .u64 (IntKind.u64.wrap (a*4294967296))):=by rw[T5 de];simp[Cb]
end
theorem abc{k:qz}{a:Int}:bV (Op.unary .neg (.int k a))=some (.int k (k.wrap (-a))):=by simp[Op.unary,Op.intArith,bV,Pure.pure]
theorem abd{b:Int}(h3:0<=b)(h4:b<18446744073709551616):bV (binOp .or 0 (.int .u64 0) (.int .u64 b))=some (.int .u64 b):=by
 rw[ajo Om Om h3 h4];simp;omega
theorem cV{H:CH}{o:cy}{k:Nat}:(H.new o).ob k=if k=H.nx then o else H.ob k:=rfl
theorem bP{H:CH}{o:cy}{l k:Nat}:(H.set l o).ob k=if k=l then o else H.ob k:=rfl
theorem OQ{H:CH}{l:Nat}{o:cy}:kC true H l o=H.new o:=rfl
theorem OR{H:CH}{l:Nat}{o:cy}:kC false H l o=(H.set l .dead).new o:=rfl
theorem qM{cs us:List ae}:setCells cs 0 us=us++cs.drop us.length:=by simp[setCells]
theorem EY{c:ae}{cs us:List ae}{n:Nat}:setCells (c::cs) (n+1) us=c::setCells cs n us:=by
 simp[setCells,Nat.add_right_comm n 1]
theorem KO{a:Nat}:((a:Int)+1).toNat=a+1:=by omega
theorem abe{a:Nat}:((a:Int)+2).toNat=a+2:=by omega
theorem abf{a b:Nat}:((a:Int)+(b:Int)).toNat=a+b:=by omega
theorem abg{a b:Nat}:((a:Int)+2+(b:Int)).toNat=a+2+b:=by omega
theorem gZ:maxLen=9223372036854775807:=rfl
theorem wB{z:ae}:kB [z] 1= [z]:=rfl
theorem abh{α β:Type}{f:α->β}{l:List α}:(l.map f).take l.length=l.map f:=by rw[<-fh f,pQ]
theorem iK{p:Prop}[Decidable p](h:p):decide p=true:=decide_eq_true h
theorem qN{p:Prop}[Decidable p](h : ¬p):decide p=false:=decide_eq_false h
theorem aF{T:bZ}{p:Prop}[Decidable p]{a b:bH}{fr:Fr}{H:CH}{Q:bq->Fr->CH->Prop}(h1:p->cM T a fr H Q)(h2 : ¬p->cM T b fr H Q):EX T (.bool (decide p)) a b fr H Q:=
 ajd (λh=>h1 (of_decide_eq_true h)) (λh=>h2 (of_decide_eq_false h))
theorem aG{T:bZ}{p:Prop}[Decidable p]{b:Bool}{d:Option Nat}{op:gu}{r:List Item}{fr:Fr}{H:CH}{K:Fr->CH->Prop}(h1:p->p8 T (.bool true) b d op r fr H K)(h2 : ¬p->p8 T (.bool false) b d op r fr H K):p8 T (.bool (decide p)) b d op r fr H K:=
 aje (λh=>h1 (of_decide_eq_true h)) (λh=>h2 (of_decide_eq_false h))
section
variable {T:bZ}
def qO (T:bZ)(af:List Item)(fr:Fr)(H:CH)(acc:List CH)(K:Fr->CH->List CH->Prop):Prop:=CK T af fr H λf L l=>K f L (acc++l)
def xG (b:Bool)(H:CH)(acc:List CH):List CH:=if b then acc++ [H] else acc
theorem sq{H:CH}{acc:List CH}:xG true H acc=acc++ [H]:=rfl
theorem oO{H:CH}{acc:List CH}:xG false H acc=acc:=rfl
def EZ(T:bZ)(r:List Item)(fr:Fr)(d:Option Nat)(w:Bool)(acc:List CH)(K:Fr->CH->List CH->Prop):ae->CH->Prop:=λv H=>qO T r (bE fr d v) H (xG w H acc) K
theorem Bc{r:List Item}{fr:Fr}{d:Option Nat}{w:Bool}{acc:List CH}{K:Fr->CH->List CH->Prop}{v:ae}{H:CH}:EZ T r fr d w acc K v H↔qO T r (bE fr d v) H (xG w H acc) K:=dS
def tj(T:bZ)(v:ae)(b:Bool)(d:Option Nat)(op:gu)(r:List Item)(fr:Fr)(H:CH)(acc:List CH)(K:Fr->CH->List CH->Prop):Prop:=match v with
 | .bool c=>if c=b then my T fr H op (EZ T r fr d (bS op) acc K) else qO T r (bE fr d kD) H (xG (bS op) H acc) K
 | .chan none=>qO T r (bE fr d kD) H (xG (bS op) H acc) K
 | _=>False
theorem HQ{fr:Fr}{H:CH}{acc:List CH}{K:Fr->CH->List CH->Prop}:qO T [] fr H acc K↔K fr H acc:=by
 unfold qO;rw[aab];simp
theorem HR{af:List Item}{fr:Fr}{H G:CH}{b:Bool}{acc:List CH}{K:Fr->CH->List CH->Prop}:(CK T af fr H λf L l=>K f L (acc++if b then G::l else l))↔qO T af fr H (xG b G acc) K:=by
 unfold qO xG;cases b<;>simp
theorem y8{d:Option Nat}{op:gu}{r:List Item}{fr:Fr}{H:CH}{acc:List CH}{K:Fr->CH->List CH->Prop}:qO T (⟨d,op,none⟩::r) fr H acc K↔my T fr H op (EZ T r fr d (bS op) acc K):=by
 unfold qO;rw[Oq];simp only[dU];unfold EZ;constructor<;>rintro⟨n,v,H',h1,h2⟩;·exact⟨n,v,H',h1,HR.1 h2⟩
 exact⟨n,v,H',h1,HR.2 h2⟩
theorem abi{d:Option Nat}{op:gu}{s:Nat}{b:Bool}{r:List Item}{fr:Fr}{H:CH}{acc:List CH}{K:Fr->CH->List CH->Prop}:qO T (⟨d,op,some (s,b)⟩::r) fr H acc K↔tj T (fr s) b d op r fr H acc K:=by
 unfold qO;rw[Oq];simp only[dU];generalize fr s=v;unfold tj;cases v with
 | bool c=>
   simp only;by_cases e:c=b
   ·subst e;simp only[beq_self_eq_true,iT];unfold EZ;constructor<;>rintro⟨n,v,H',h1,h2⟩;·exact⟨n,v,H',h1,HR.1 h2⟩
    exact⟨n,v,H',h1,HR.2 h2⟩
   have:(c==b)=false:=by simpa using e
   simp only[this,iN e];exact HR
 | chan r=>cases r<;>first | exact HR | exact dS
 | _=>exact dS
variable {d:Option Nat} {op:gu} {r:List Item} {fr:Fr} {H:CH} {acc:List CH} {K:Fr->CH->List CH->Prop}
theorem abj:tj T (.bool true) true d op r fr H acc K↔my T fr H op (EZ T r fr d (bS op) acc K):=by simp[tj]
theorem abk:tj T (.bool false) false d op r fr H acc K↔my T fr H op (EZ T r fr d (bS op) acc K):=by simp[tj]
theorem abl:tj T (.bool true) false d op r fr H acc K↔qO T r (bE fr d kD) H (xG (bS op) H acc) K:=by simp[tj]
theorem abm:tj T (.bool false) true d op r fr H acc K↔qO T r (bE fr d kD) H (xG (bS op) H acc) K:=by simp[tj]
theorem abn{b:Bool}:tj T kD b d op r fr H acc K↔qO T r (bE fr d kD) H (xG (bS op) H acc) K:=by simp[tj,kD]
theorem aH{p:Prop}[Decidable p]{b:Bool}(h1:p->tj T (.bool true) b d op r fr H acc K)(h2 : ¬p->tj T (.bool false) b d op r fr H acc K):tj T (.bool (decide p)) b d op r fr H acc K:=by
 by_cases h:p
 ·rw[decide_eq_true h];exact h1 h
 rw[decide_eq_false h];exact h2 h
def vg:List (Item×Nat)->Fr->List CH->Prop->Prop
 | [],_,_,R=>R
 | (it,k)::cs,fr,l,R=>(∃G,l[k]? = some G/\wu fr G it)/\vg cs fr l R
theorem ajp{cs:List (Item×Nat)}{fr:Fr}{l:List CH}{R:Prop}:vg cs fr l R↔(∀p∈cs,∃G,l[p.2]? = some G/\wu fr G p.1)/\R:=by
 induction cs with
 | nil=>simp[vg]
 | cons c cs b=>obtain⟨it,k⟩:=c;simp only[vg,b,ox,forall_eq_or_imp,and_assoc]
def T' (nJ:List (Item×Nat))(b:CH)(Q:bq->Fr->CH->Prop):Fr->CH->List CH->Prop:=λfr H l=>vg nJ fr (b::l) (Q .normal fr H)
theorem HT{nJ:List (Item×Nat)}{b:CH}{Q:bq->Fr->CH->Prop}{l:List CH}:T' nJ b Q fr H l↔vg nJ fr (b::l) (Q .normal fr H):=dS
theorem KP{af:List Item}{pn:Option (List Item)}{c:Item×Nat}{cs:List (Item×Nat)}{Q:bq->Fr->CH->Prop}:cM T (.lB ⟨af,c::cs,pn⟩) fr H Q↔qO T af fr H [] (T' (c::cs) H Q):=by
 rw[Ts];unfold qO T';simp only[mR,ajp]
def CX (o:Option ae)(v:ae)(R:Prop):Prop:=o=some v/\R
theorem HU{v:ae}{R:Prop}:CX (some v) v R↔R:=by simp[CX]
def wC (v:ae)(b:Bool)(g:Option CH)(x:iG)(d:Nat)(fr:Fr)(R:Prop):Prop:=
 (∃G,g=some G/\((match v with | .bool c=>some (c==b) | .chan none=>some false | _=>none)=some false\/aD G (aJ fr) x=some (fr d)))/\R
def OS (g:Option CH)(x:iG)(d:Nat)(fr:Fr)(R:Prop):Prop:=(∃G,g=some G/\aD G (aJ fr) x=some (fr d))/\R
theorem HV{l:List CH}{R:Prop}:vg [] fr l R↔R:=dS
theorem HX{d:Nat}{x:iG}{k:Nat}{cs:List (Item×Nat)}{l:List CH}{R:Prop}:vg ((⟨some d, .l x,none⟩,k)::cs) fr l R↔OS l[k]? x d fr (vg cs fr l R):=by
 simp[vg,OS,wu,dU]
theorem abo{d:Nat}{x:iG}{s k:Nat}{b:Bool}{cs:List (Item×Nat)}{l:List CH}{R:Prop}:vg ((⟨some d, .l x,some (s,b)⟩,k)::cs) fr l R↔wC (fr s) b l[k]? x d fr (vg cs fr l R):=by
 simp only[vg,wC,wu];have:dU fr (some (s,b))=(match fr s with | .bool c=>some (c==b) | .chan none=>some false | _=>none):=by
  unfold dU;simp only;cases fr s<;>rfl
 rw[this];simp
theorem HY{G:CH}{x:iG}{d:Nat}{R:Prop}:OS (some G) x d fr R↔CX (aD G (aJ fr) x) (fr d) R:=by simp[OS,CX]
theorem abp{G:CH}{x:iG}{d:Nat}{R:Prop}:wC (.bool true) true (some G) x d fr R↔CX (aD G (aJ fr) x) (fr d) R:=by simp[wC,CX]
theorem abq{G:CH}{x:iG}{d:Nat}{R:Prop}:wC (.bool false) false (some G) x d fr R↔CX (aD G (aJ fr) x) (fr d) R:=by simp[wC,CX]
theorem abr{G:CH}{x:iG}{d:Nat}{R:Prop}:wC (.bool true) false (some G) x d fr R↔R:=by simp[wC]
theorem abt{G:CH}{x:iG}{d:Nat}{R:Prop}:wC (.bool false) true (some G) x d fr R↔R:=by simp[wC]
theorem abu{b:Bool}{G:CH}{x:iG}{d:Nat}{R:Prop}:wC kD b (some G) x d fr R↔R:=by simp[wC,kD]
end
end
section
open Go Go.RowKit
variable {T:bZ}
def oQ (af:List Item):List Nat:=af.filterMap (·.dst)
def su:bH->List Nat
 | .gW af=>oQ af
 | .lB d=>oQ d.af
 | .seq a b=>su a++su b
 | .cond _ a b=>su a++su b
 | .block _ c=>su c
 | .loop c=>su c
 | _=> []
def nw (c:bH)(t:Nat):Bool:= !(su c).elem t
theorem abv{h:Hd}{it:Item}{fr fr':Fr}{H H':CH}(hs:cE h it fr H=some (fr',H')){t:Nat}(ht:it.dst≠some t):fr' t=fr t:=by
 have hp : ∀v,bE fr it.dst v t=fr t:=λv=>by
  cases hd:it.dst with
  | none=>rfl
  | some d=>simp only[bE];rw[iN];rintro rfl;exact ht hd
 simp only[cE] at hs;split at hs
 ·cases b:eg h fr H it.op with
  | none=>rw[b] at hs;cases hs
  | some q=>rw[b] at hs;cases hs;exact hp _
 ·cases hs;exact hp _
 cases hs
theorem abw{h:Hd}{t:Nat} : ∀ {af:List Item} {fr fr':Fr} {H H':CH},cT h af fr H=some (fr',H')->t∉oQ af->fr' t=fr t
 | [],fr,fr',H,H',b,ht=>by simp only[cT,Option.some.injEq,Prod.mk.injEq] at b;rw[b.1]
 | it::af,fr,fr',H,H',b,ht=>by
   simp only[cT] at b;cases hs:cE h it fr H with
   | none=>rw[hs] at b;cases b
   | some q=>
     rw[hs] at b;have h1:it.dst≠some t:=λe=>ht (by simp[oQ,e]);have h2:t∉oQ af:=λc=>ht (by
      simp only[oQ,ND] at c⊢;obtain⟨x,hx,hd⟩:=c;exact⟨x,hU _ hx,hd⟩)
     exact(abw b h2).trans (abv hs h1)
theorem abx{t:Nat}{f:Fr->CH->Hp}(e : ∀fr H x fr' H',f fr H=some (x,fr',H')->fr' t=fr t) : ∀ {n:Nat} {fr fr':Fr} {H H':CH} {x:bq},pY n f fr H=some (x,fr',H')->fr' t=fr t
 | 0,fr,fr',H,H',x,b=>by simp[pY] at b
 | n+1,fr,fr',H,H',x,b=>by
   simp only[pY] at b;cases c:f fr H with
   | none=>rw[c] at b;cases b
   | some q=>
     obtain⟨y,aj,H1⟩:=q;rw[c] at b;have h1:=e _ _ _ _ _ c;cases y with
     | normal=>exact(abx e b).trans h1
     | exit i=>cases b;exact h1
     | ret=>cases b;exact h1
theorem Ua{h:Hd}{n t:Nat} : ∀ {c:bH} {fr fr':Fr} {H H':CH} {x:bq},br h n c fr H=some (x,fr',H')->t∉su c->fr' t=fr t:=by
 intro c;induction c with
 | bad=>intro fr fr' H H' x f ht;simp[br] at f
 | skip=>intro fr fr' H H' x f ht;simp only[br,Option.some.injEq,Prod.mk.injEq] at f;rw[f.2.1]
 | gW af=>
   intro fr fr' H H' x f ht;simp only[br] at f;cases hi:cT h af fr H with
   | none=>rw[hi] at f;cases f
   | some q=>rw[hi] at f;cases f;exact abw hi ht
 | lB d=>
   intro fr fr' H H' x f ht;simp only[br,tc] at f;cases hi:cF h d.af fr H with
   | none=>rw[hi] at f;cases f
   | some q=>
     obtain⟨f1,K,l⟩:=q;rw[hi] at f;simp only at f;split at f;·cases f;exact EO (λy p e=>ht (by simp only[su,oQ,ND];exact⟨y,p,e⟩)) hi
     cases f
 | seq a b j m=>
   intro fr fr' H H' x f ht;simp only[su,ia,not_or] at ht;simp only[br] at f;cases ha:br h n a fr H with
   | none=>rw[ha] at f;cases f
   | some q=>
     obtain⟨y,aj,H1⟩:=q;rw[ha] at f;have h1:=j ha ht.1;cases y with
     | normal=>exact(m f ht.2).trans h1
     | exit i=>cases f;exact h1
     | ret=>cases f;exact h1
 | cond c a b j m=>
   intro fr fr' H H' x f ht;simp only[su,ia,not_or] at ht;simp only[br] at f;split at f;·exact j f ht.1
   ·exact m f ht.2
   cases f
 | block id c o=>
   intro fr fr' H H' x f ht;simp only[br] at f;cases ha:br h n c fr H with
   | none=>rw[ha] at f;cases f
   | some q=>
     obtain⟨y,aj,H1⟩:=q;rw[ha] at f;have h1:=o ha ht;cases y with
     | normal=>cases f;exact h1
     | exit i=>simp only at f;split at f<;>(cases f;exact h1)
     | ret=>cases f;exact h1
 | loop c o=>
   intro fr fr' H H' x f ht;simp only[br] at f;exact abx (λfr H x fr' H' s=>o s ht) f
 | exit id=>intro fr fr' H H' x f ht;simp only[br,Option.some.injEq,Prod.mk.injEq] at f;rw[f.2.1]
 | ret=>intro fr fr' H H' x f ht;simp only[br,Option.some.injEq,Prod.mk.injEq] at f;rw[f.2.1]
 | sa g key=>
   intro fr fr' H H' x f ht;simp only[br] at f;split at f
   ·split at f
    ·split at f
     ·split at f;·cases f
      cases f;rfl
     cases f
    cases f
   cases f
theorem ajq{c:bH}{fr:Fr}{H:CH}{Q:bq->Fr->CH->Prop}(h:cM T c fr H Q):cM T c fr H λx fr' H'=>Q x fr' H'/\∀t,nw c t=true->fr' t=fr t:=by
 obtain⟨n,x,fr',H',h1,h2⟩:=h;exact⟨n,x,fr',H',h1,h2,λt ht=>Ua h1 (by simpa[nw] using ht)⟩
theorem fC{c:bH}{Q:bq->Fr->CH->Prop}(I:Nat->Fr->CH->Prop){n:Nat}{fr:Fr}{H:CH}(e:I n fr H)(step : ∀n aj H1,I n aj H1->(∀t,nw c t=true->aj t=fr t)->cM T c aj H1 (HO I n Q)):cM T (.loop c) fr H Q:=by
 refine ajf (λm aj H1=>I m aj H1/\∀t,nw c t=true->aj t=fr t) ?_ ⟨e,λ_ _=>rfl⟩;rintro m aj H1 ⟨hi,hk⟩;refine(ajq (step m aj H1 hi hk)).mono λx fr' H' ⟨b,f⟩=> ?_;cases x with
 | normal=>obtain⟨k,g,h⟩:=b;exact⟨k,g,h,λt ht=>(f t ht).trans (hk t ht)⟩
 | exit i=>exact b
 | ret=>exact b
def p9 (e sz bytes:Nat)(s:ae)(xs:List ae)(m:Nat)(H:CH):Option (ae×CH):=match s with
 | .slice none 0 0=>if m=0 then some (.slice none 0 0,H) else if xs.all bu=true/\m*bytes<=140737488355328/\m<=maxLen then some (.slice (some ⟨H.nx,0,none⟩) m m,H.new (.cells xs e .gr)) else none
 | .slice (some ⟨a,b,some 0⟩) 0 0=>if m=0 then some (.slice (some ⟨a,b,some 0⟩) 0 0,H) else if xs.all bu=true/\m*bytes<=140737488355328/\m<=maxLen then some (.slice (some ⟨H.nx,0,none⟩) m m,H.new (.cells xs e .gr)) else none
 | .slice (some ⟨l,o,none⟩) n c=>match H.ob l with
   | .cells cs e' k=>
     if m=0 then some (.slice (some ⟨l,o,none⟩) n c,H)
     else if o=0/\e'=e/\k.cD=false/\n*sz<=cs.length/\xs.all bu=true/\(n+m)*bytes<=140737488355328/\n+m<=maxLen then
      some (.slice (some ⟨H.nx,0,none⟩) (n+m) (n+m),kC (k.j9&&decide (c<n+m)) H l (.cells (cs.take (n*sz)++xs) e .gr))
     else if k.j9=true/\c<n+m/\e'=e/\o+n*sz<=cs.length/\xs.all bu=true/\(n+m)*bytes<=140737488355328/\n+m<=maxLen then
      some (.slice (some ⟨H.nx,0,none⟩) (n+m) (n+m),H.new (.cells ((cs.drop o).take (n*sz)++xs) e .gr))
     else if (k.j9&&decide (c<n+m))=false/\e'=e/\k.cD=false/\o+n*sz<=cs.length/\xs.all bu=true/\(n+m+(n+m) / 4+192)*bytes<=281474976710656/\n+m<=maxLen then
      some (.slice (some ⟨H.nx,0,none⟩) (n+m) (n+m),(H.set l .dead).new (.cells ((cs.drop o).take (n*sz)++xs) e .gr))
     else none
   | _=>none
 | _=>none
theorem OT{e sz bytes m:Nat}{xs:List ae}{H:CH}:p9 e sz bytes (.slice none 0 0) xs m H=if m=0 then some (.slice none 0 0,H) else if xs.all bu=true/\m*bytes<=140737488355328/\m<=maxLen then some (.slice (some ⟨H.nx,0,none⟩) m m,H.new (.cells xs e .gr)) else none:=rfl
theorem OU{e sz bytes m a b:Nat}{xs:List ae}{H:CH}:p9 e sz bytes (.slice (some ⟨a,b,some 0⟩) 0 0) xs m H=if m=0 then some (.slice (some ⟨a,b,some 0⟩) 0 0,H) else if xs.all bu=true/\m*bytes<=140737488355328/\m<=maxLen then some (.slice (some ⟨H.nx,0,none⟩) m m,H.new (.cells xs e .gr)) else none:=rfl
def Ub (q:cy)(e sz bytes l o n c:Nat)(xs:List ae)(m:Nat)(H:CH):Option (ae×CH):=match q with
 | .cells cs e' k=>
   if m=0 then some (.slice (some ⟨l,o,none⟩) n c,H)
   else if o=0/\e'=e/\k.cD=false/\n*sz<=cs.length/\xs.all bu=true/\(n+m)*bytes<=140737488355328/\n+m<=maxLen then
    some (.slice (some ⟨H.nx,0,none⟩) (n+m) (n+m),kC (k.j9&&decide (c<n+m)) H l (.cells (cs.take (n*sz)++xs) e .gr))
   else if k.j9=true/\c<n+m/\e'=e/\o+n*sz<=cs.length/\xs.all bu=true/\(n+m)*bytes<=140737488355328/\n+m<=maxLen then
    some (.slice (some ⟨H.nx,0,none⟩) (n+m) (n+m),H.new (.cells ((cs.drop o).take (n*sz)++xs) e .gr))
   else if (k.j9&&decide (c<n+m))=false/\e'=e/\k.cD=false/\o+n*sz<=cs.length/\xs.all bu=true/\(n+m+(n+m) / 4+192)*bytes<=281474976710656/\n+m<=maxLen then
    some (.slice (some ⟨H.nx,0,none⟩) (n+m) (n+m),(H.set l .dead).new (.cells ((cs.drop o).take (n*sz)++xs) e .gr))
   else none
 | _=>none
theorem Uc{cs:List ae}{e':Nat}{k:Kd}{e sz bytes l o n c m:Nat}{xs:List ae}{H:CH}:Ub (.cells cs e' k) e sz bytes l o n c xs m H=if m=0 then some (.slice (some ⟨l,o,none⟩) n c,H)
 else if o=0/\e'=e/\k.cD=false/\n*sz<=cs.length/\xs.all bu=true/\(n+m)*bytes<=140737488355328/\n+m<=maxLen then
  some (.slice (some ⟨H.nx,0,none⟩) (n+m) (n+m),kC (k.j9&&decide (c<n+m)) H l (.cells (cs.take (n*sz)++xs) e .gr))
 else if k.j9=true/\c<n+m/\e'=e/\o+n*sz<=cs.length/\xs.all bu=true/\(n+m)*bytes<=140737488355328/\n+m<=maxLen then
  some (.slice (some ⟨H.nx,0,none⟩) (n+m) (n+m),H.new (.cells ((cs.drop o).take (n*sz)++xs) e .gr))
 else if (k.j9&&decide (c<n+m))=false/\e'=e/\k.cD=false/\o+n*sz<=cs.length/\xs.all bu=true/\(n+m+(n+m) / 4+192)*bytes<=281474976710656/\n+m<=maxLen then
  some (.slice (some ⟨H.nx,0,none⟩) (n+m) (n+m),(H.set l .dead).new (.cells ((cs.drop o).take (n*sz)++xs) e .gr))
 else none:=rfl
theorem Ud{e sz bytes l o n c m:Nat}{xs:List ae}{H:CH}:p9 e sz bytes (.slice (some ⟨l,o,none⟩) n c) xs m H=Ub (H.ob l) e sz bytes l o n c xs m H:=by
 simp only[p9,Ub]
def aby (o:Option (List ae×Nat))(e sz bytes:Nat)(s:ae)(H:CH):Option (ae×CH):=match o with
 | some (xs,m)=>p9 e sz bytes s xs m H
 | none=>none
theorem qP{xs:List ae}{m e sz bytes:Nat}{s:ae}{H:CH}:aby (some (xs,m)) e sz bytes s H=p9 e sz bytes s xs m H:=rfl
theorem xH{H:CH}{ev:au->ae}{e sz bytes:Nat}{s x:au}:bD H ev (.app e sz bytes s x)=aby (qI H sz (ev x)) e sz bytes (ev s) H:=by
 simp only[bD];cases qI H sz (ev x) with
 | none=>rfl
 | some q=>rfl
theorem abz{z:ae}:kB [z] 2= [z,z]:=by simp[kB,lQ,List.range.loop,Nat.mod_one]
theorem abA{z:ae}:kB [z] 3= [z,z,z]:=by simp[kB,lQ,List.range.loop,Nat.mod_one]
def Ue (o:cy)(off m sz:Nat):Option (List ae×Nat):=match o with
 | .cells cs _ _=>if off+m*sz<=cs.length then some ((cs.drop off).take (m*sz),m) else none
 | _=>none
theorem qQ{cs:List ae}{e off m sz:Nat}{k:Kd}:Ue (.cells cs e k) off m sz=if off+m*sz<=cs.length then some ((cs.drop off).take (m*sz),m) else none:=rfl
theorem OV{H:CH}{sz:Nat}:qI H sz (.slice none 0 0)=some ([],0):=rfl
theorem OW{H:CH}{sz a b k:Nat}:qI H sz (.slice (some ⟨a,b,some k⟩) 0 0)=some ([],0):=rfl
theorem xI{H:CH}{sz l o m c:Nat}:qI H sz (.slice (some ⟨l,o,none⟩) m c)=if m=0 then some ([],0) else Ue (H.ob l) o m sz:=by
 simp only[qI,Ue];split;·rfl
 cases H.ob l<;>rfl
theorem OX{H:CH}{sz:Nat}{s:ByteArray}:qI H sz (.string s)=if sz=1 then some (s.data.toList.map λb=> .int .u8 b.toNat,s.size) else none:=rfl
def gP {α:Type}(A:CH)(e sz:Nat)(f:α->List ae)(K:CH)(v:ae)(xs:List α):Prop:=
 (xs= []/\v= .slice none 0 0)\/∃b kd,v= .slice (some ⟨b,0,none⟩) xs.length xs.length/\A.nx<=b/\b<K.nx/\K.ob b= .cells (xs.flatMap f) e kd/\kd.cD=false
theorem gP.nil{α:Type}{A:CH}{e sz:Nat}{f:α->List ae}{K:CH}:gP A e sz f K (.slice none 0 0) []:= .inl ⟨rfl,rfl⟩
theorem Uf{α:Type}{f:α->List ae}{sz:Nat}(b : ∀x,(f x).length=sz) : ∀xs:List α,(xs.flatMap f).length=xs.length*sz
 | []=>by simp
 | x::xs=>by simp only[vU,cO,b,Uf b xs,List.length_cons,Nat.succ_mul];omega
theorem ajr{α:Type}{A K:CH}{e sz bytes:Nat}{f:α->List ae}(m : ∀x,(f x).length=sz/\(f x).all bu=true){v:ae}{xs ys:List α}(hg:gP A e sz f K v xs)(hA:ag A K)(hb:(xs.length+ys.length)*bytes<=140737488355328)(q:xs.length+ys.length<=9223372036854775807) :
 ∃v' K',p9 e sz bytes v (ys.flatMap f) ys.length K=some (v',K')/\gP A e sz f K' v' (xs++ys)/\ag A K'/\K.nx<=K'.nx/\∀l,l<K.nx->(∀o n c,v≠ .slice (some ⟨l,o,none⟩) n c)->K'.ob l=K.ob l:=by
 have s:(ys.flatMap f).all bu=true:=by
  rw[List.all_eq_true];intro x hx;obtain⟨y,_,z⟩:=List.mem_flatMap.1 hx;exact List.all_eq_true.1 (m y).2 x z
 rcases hg with ⟨rfl,rfl⟩ | ⟨b,kd,rfl,h1,h2,h3,t⟩
 ·by_cases i:ys.length=0
  ·have:ys= []:=List.length_eq_zero_iff.1 i;subst this;exact⟨_,K,by simp[p9], .inl ⟨rfl,rfl⟩,hA,al _,λ_ _ _=>rfl⟩
  refine⟨_,_,by simp only[p9,i,iF];rw[iP ⟨s,by simpa using hb,by rw[gZ];simpa using q⟩], .inr ⟨K.nx, .gr,Sm,hA.nx,iC _,by simp[cV],rfl⟩,hA.new _,mQ _,λl hl _=>by rw[cV,iN Om]⟩
 by_cases i:ys.length=0
 ·have:ys= []:=List.length_eq_zero_iff.1 i;subst this;exact⟨.slice (some ⟨b,0,none⟩) xs.length xs.length,K,by simp[p9,h3], .inr ⟨b,kd,Sm,h1,h2,by simpa using h3,t⟩,hA,al _,λ_ _ _=>rfl⟩
 have g:(xs.flatMap f).length=xs.length*sz:=Uf (λx=>(m x).1) xs;have j : ∀o,(kC (kd.j9&&decide (xs.length<xs.length+ys.length)) K b o).nx=K.nx+1:=λo=>by unfold kC;split<;>rfl
 have C : ∀o,(kC (kd.j9&&decide (xs.length<xs.length+ys.length)) K b o).ob K.nx=o:=λo=>by
  unfold kC;split<;>(simp only[CH.new,CH.set];simp)
 have u : ∀o l,l<K.nx->l≠b->(kC (kd.j9&&decide (xs.length<xs.length+ys.length)) K b o).ob l=K.ob l:=λo l hl hb=>by
  unfold kC;split;·rw[cV,iN Om]
  rw[cV,iN (by show l≠K.nx;omega),bP,iN hb]
 refine⟨_,_,by simp only[p9,h3,i,iF];rw[iP ⟨trivial,trivial,t,by rw[g];exact al _,s,hb,by rw[gZ];exact q⟩], .inr ⟨K.nx, .gr,Sm,hA.nx,?_,?_,rfl⟩,?_,?_,λl hl aA=> ?_⟩;·rw[j];exact iC _
 ·rw[C,<-g,pQ,List.flatMap_append]
 ·refine⟨by rw[j];exact Nat.le_succ_of_le hA.nx,λl hl=> ?_⟩;rw[u _ l (cj hl hA.nx) Om];exact hA.ob l hl
 ·rw[j];exact mQ _
 refine u _ l hl ?_;rintro rfl;exact aA _ _ _ rfl
theorem gP.ext{α:Type}{A:CH}{e sz:Nat}{f:α->List ae}{K K':CH}{v:ae}{xs:List α}(h:gP A e sz f K v xs)(hx:ag K K'):gP A e sz f K' v xs:=by
 rcases h with h | ⟨b,kd,c,h1,h2,h3,h4⟩
 ·exact .inl h
 exact .inr ⟨b,kd,c,h1,cj h2 hx.nx,(hx.ob b h2).trans h3,h4⟩
theorem HZ{α:Type}{A K:CH}{e sz bytes:Nat}{f:α->List ae}(b : ∀x,(f x).length=sz/\(f x).all bu=true){v:ae}{xs ys:List α}(hg:gP A e sz f K v xs)(hA:ag A K)(hb:(xs.length+ys.length)*bytes<=140737488355328)(g:xs.length+ys.length<=9223372036854775807){us:List ae}{m:Nat}(hu:us=ys.flatMap f)(hl:m=ys.length)
 {Q:ae->CH->Prop} (k : ∀v' K',gP A e sz f K' v' (xs++ys)->ag A K'->K.nx<=K'.nx->(∀l,l<K.nx->(∀o n c,v≠ .slice (some ⟨l,o,none⟩) n c)->K'.ob l=K.ob l)->Q v' K'):CU (p9 e sz bytes v us m K) Q:=by
 subst hu hl;obtain⟨v',K',h1,h2,h3,h4,h5⟩:=ajr b hg hA hb g;rw[h1];exact k v' K' h2 h3 h4 h5
def ints (k:qz):Int->List ae:=λx=> [.int k x]
theorem Ug(k:qz) : ∀x,(ints k x).length=1/\(ints k x).all bu=true:=λx=>⟨rfl,rfl⟩
theorem OZ(k:qz)(xs:List Int):xs.flatMap (ints k)=xs.map (.int k):=by
 induction xs with
 | nil=>rfl
 | cons x xs b=>simp only[vU,b,ints,dG,jU,mR]
theorem abB{k:qz}{H:CH}{q:Option cm}{c:Nat}{xs:List Int}(h:gU 1 (pG k) H q c xs):qI H 1 (.slice q xs.length c)=some (xs.flatMap (ints k),xs.length):=by
 rw[OZ];rcases h with ⟨rfl,rfl,rfl | rfl | rfl⟩ | ⟨l,o,os,e,kd,rfl,hl,hc,n,f,g,j⟩
 ·rfl
 ·rfl
 ·rfl
 by_cases b:xs.length=0
 ·have:xs= []:=List.length_eq_zero_iff.1 b;subst this;simp[qI]
 simp only[qI,iN b,f];rw[iP g];congr 2
 apply List.ext_getElem;·simp;omega
 intro i h1 h2;have hi:i<xs.length:=by simpa using h2
 have h3:=(j i hi).1;have h4:((os.drop (o+i*1)).take 1)[0]? = some (.int k xs[i]):=by rw[h3];rfl
 rw[Af Om,sP] at h4;have h5:os[o+i]? = some (.int k xs[i]):=by simpa using h4
 rw[List.getElem_take,Yy,Jn];rw[List.getElem?_eq_some_iff] at h5;obtain⟨_,m⟩:=h5;exact m
end
section
open Go Go.RowKit
variable {P:aY} {B:Nat}
section
variable {H:Type} {enc:aI×ae->H} {w:aq} {base:Nat} {spare:Nat->Bool} {held:Bool} {Bk:pR H->Nat}
structure Uh(Bk:pR H->Nat):Prop where
 one : ∀d,1<=Bk d
 slice : ∀elems spare,(elems.map Bk).sum+1<=Bk (.slice elems spare)
 agg : ∀parts,(parts.map Bk).sum+1<=Bk (.agg parts)
 str : ∀bs,bs.length+1<=Bk (.lit (.string bs))
def CO {α:Type}(Bk:pR H->Nat)(enc:aI×ae->H)(P:aY)(w:aq)(base:Nat)(spare:Nat->Bool)(held:Bool)(t:aI)(sz:Nat)(R:uQ α)(Z:α->Prop)(μ:α->Nat):Prop:=
 ∀fuel cs x,DataW.trod enc P w base spare held fuel t cs=some x->cs.length=sz/\(∀v∈cs,VR (kU w) (cz v) v)/\∃y,R (tU w) (cs.map cz) y/\((x.1.weights P t).all (· <=reachBytes)=true->Z y)/\μ y<=Bk x.1
theorem agv(b:Uh Bk){t:aI}{k:qz}(ht:P.underlying t=some (.int k)):CO Bk enc P w base spare held t 1 (pG k) (λ_=>True) (λ_=>1):=by
 intro fuel cs x h;obtain⟨n,rfl,_,h3⟩:=DataW.trod_int ht h;exact⟨rfl,λv hv=>by simp at hv;subst hv;exact .int _ _,n,⟨rfl,h3⟩,λ_=>trivial,b.one _⟩
theorem ajs{xs ys:List Nat}(hl:xs.length=ys.length)(h : ∀i (h1:i<xs.length) (h2:i<ys.length),xs[i]<=ys[i]):xs.sum<=ys.sum:=by
 induction xs generalizing ys with
 | nil=>simp
 | cons x xs b=>
   cases ys with
   | nil=>simp at hl
   | cons y ys=>
     have c:=h 0 Sm Sm;have:=b (ys:=ys) (by simpa using hl) (λi h1 h2=>h (i+1) (by simpa using h1) (by simpa using h2));simp at c⊢;omega
theorem abC{e:aI}{d:pR H} : ∀ {l:List (pR H)},(DataW.weightsAll P e l).all (· <=reachBytes)=true->d∈l->(d.weights P e).all (· <=reachBytes)=true
 | [],_,h=>by cases h
 | x::l,h,hd=>by
   simp only[DataW.weightsAll,List.all_append,fJ] at h;rcases List.mem_cons.1 hd with rfl | hd
   ·exact h.1
   exact abC h.2 hd
theorem agu(o:Uh Bk){α:Type}{R:uQ α}{Z:α->Prop}{μ:α->Nat}{t e:aI}{sz:Nat}(ht:P.underlying t=some (.slice e))(hc:P.cellsOf e=sz)(hp:0<sz)(he:CO Bk enc P w base spare held e sz R Z μ) :
 CO Bk enc P w base spare held t 1 (CSl sz R) (λxs=>xs.length*P.bytesOf e<=reachBytes/\∀x∈xs,Z x) (λxs=>(xs.map μ).sum+1):=by
 intro fuel cs x h;rcases Deep.open_slice ht h with ⟨rfl,rfl⟩ | ⟨a,len,cap,m,n,D,W,rfl,hb,hl,q,G,A,hx⟩
 ·exact⟨rfl,λv hv=>by simp at hv;subst hv;exact .Aq,[],⟨none,0,rfl, .inl ⟨rfl,rfl, .inl rfl⟩⟩,λ_=>⟨Sm,λx hx=>by cases hx⟩,by simpa using o.one _⟩
 refine⟨rfl,?_⟩;cases len with
 | zero=>
   cases cap with
   | zero=>exact⟨λv hv=>by simp at hv;subst hv;exact .xi a,[],⟨some ⟨0,0,some 0⟩,0,rfl, .inl ⟨rfl,rfl, .inr (.inl rfl)⟩⟩,λ_=>⟨Sm,λx hx=>by cases hx⟩,by simpa using o.one _⟩
   | succ c=>exact⟨λv hv=>by simp at hv;subst hv;exact .yI a (c+1),[],⟨some ⟨0,0,some 1⟩,0,rfl, .inl ⟨rfl,rfl, .inr (.inr rfl)⟩⟩,λ_=>⟨Sm,λx hx=>by cases hx⟩,by simpa using o.one _⟩
 | succ len=>
   have Y:len+1<=m:=by rw[G];split<;>omega
   have each : ∀i,i<len+1->∃y:α,∃es:List ae,es.length=sz/\(∀v∈es,VR (kU w) (cz v) v)/\(R (tU w) (es.map cz) y/\((((D i).weights P e).all (· <=reachBytes)=true->Z y)/\μ y<=Bk (D i)))/\∀j (f:j<es.length),w.cell? ((a.add (i*sz)).add j)=some es[j]:=by
    intro i hi;obtain⟨cs',h1,h2⟩:=hx i Om;obtain⟨I,hv,y,J,hz,q⟩:=he _ _ _ h2;rw[hc] at h1;obtain⟨_,_,L⟩:=World.cells?_some h1;exact⟨y,cs',I,hv,⟨J,hz,q⟩,λj f=>by rw[L j Om,bM f]⟩
   have C:a.spot=none:=by
    obtain⟨_,es,h1,_,_,h3⟩:=each 0 Om;have:=h3 0 Om;simp only[xb,Addr.add,iT] at this;unfold D8 at this;cases hs:a.spot with
    | none=>rfl
    | some k=>
      split at this;·simp[hs] at this
      cases this
   obtain⟨g,b,M⟩:=a;simp only at C;subst C;have s : ∀k j,(((⟨g,b,none⟩:cm).add k).add j)=⟨g,b+k+j,none⟩:=by
    intro k j;unfold Addr.add
    (repeat' split)<;>simp_all
   obtain⟨ys,u,z⟩:=aaV each;have N : ∃v,w.cell? ⟨g,b,none⟩=some v:=by
    obtain⟨_,es,h1,_,_,h3⟩:=each 0 Om;have:=h3 0 Om;rw[s] at this;simp only[xb,Nat.add_zero] at this;exact⟨_,this⟩
   obtain⟨v0,E⟩:=N;obtain⟨nn,os,O,Q,F⟩:=aa0 E;have l : ∀i,i<len+1->b+(i+1)*sz<=os.length:=by
    intro i hi;obtain⟨_,es,h1,_,_,h3⟩:=each i hi;have:=h3 (sz-1) Om;rw[s,F] at this;have:=(List.getElem?_eq_some_iff.1 this).1;rw[Nat.add_mul,Jq];omega
   have S : ∀i,i<len+1->∀es:List ae,es.length=sz->(∀v∈es,VR (kU w) (cz v) v)->(∀j (f:j<es.length),w.cell? (((⟨g,b,none⟩:cm).add (i*sz)).add j)=some es[j])->
    ((os.map (mask (kU w))).drop (b+i*sz)).take sz=es.map cz:=by
    intro i hi es h1 hv h3;apply Ca;intro j;by_cases f:j<sz
    ·rw[Af f,sP,hY,hY,<-F];have:=h3 j Om;rw[s] at this;rw[this,bM Om];simp only[fg];rw[aaZ (hv _ (yy _))]
    rw[wW Sq,wW Sq]
   refine⟨λv hv=> ?_,ys,⟨some ⟨g,b,none⟩,cap,?_,(.inr ⟨g,b,_,0, .ro,rfl,World.block_lt_of_cell? _ _ E,Om,q,Q,?_,λi hi=> ?_⟩)⟩,λhz=> ?_,?_⟩;·simp at hv;subst hv;exact .sl O hl (al _) q (λh=>absurd rfl h) (λ_=>rfl)
   ·rw[u];rfl
   ·rw[u];simpa using l len Om
   ·obtain⟨es,h1,h2,h3,h4⟩:=z i hi;rw[S i Om es h1 h2 h4];exact h3.1
   ·rw[A] at hz;simp only[DataW.weights,ht,List.all_cons,List.all_append,fJ,decide_eq_true_eq,fh,List.length_range] at hz;refine⟨bW (Nat.mul_le_mul_right _ Om) hz.1,λx U=> ?_⟩;obtain⟨i,hi,rfl⟩:=List.getElem_of_mem U;obtain⟨es,h1,h2,h3,h4⟩:=z i hi;refine h3.2.1 ?_;have V:D i∈(lQ (len+1)).map D:=List.mem_map.2 ⟨i,List.mem_range.2 Om,rfl⟩;exact abC hz.2.1 V
   rw[A];refine bW ?_ (o.slice _ _);refine Nat.succ_le_succ ?_;refine ajs (by simp[u]) λi hi f=> ?_;simp only[Jn,List.getElem_range];obtain⟨es,h1,h2,h3,h4⟩:=z i (by simpa using hi);exact h3.2.2
theorem agt{α:Type}{t:aI}{sz:Nat}{R:uQ α}{Z:α->Prop}{μ:α->Nat}(he:CO Bk enc P w base spare held t sz R Z μ){v:ae}{d:pR H}{p:List MemPlace}(h:DataW.Trod enc P w base spare held t v d p) :
 VR (kU w) (uP v) v/\(uP v).cells.toList.length=sz/\∃y,R (tU w) (uP v).cells.toList y/\((d.weights P t).all (· <=reachBytes)=true->Z y)/\μ y<=Bk d:=by
 obtain⟨fuel,b⟩:=h;obtain⟨h1,h2,h3⟩:=he fuel _ _ b;rw[YF];refine⟨?_,by simpa using h1,h3⟩;by_cases hv : ∃cs,v= .agg cs
 ·obtain⟨cs,rfl⟩:=hv;refine .agg Sm λi i1 i2=> ?_;simp only[List.getElem_toArray,Jn,Array.getElem_toList];exact h2 _ (by simp[dp])
 have hc:v.cells= #[v]:=by cases v<;>first | rfl | exact absurd ⟨_,rfl⟩ hv
 have hz:uP v=cz v:=by cases v<;>first | rfl | exact absurd ⟨_,rfl⟩ hv
 rw[hz];exact h2 v (by rw[hc];simp)
theorem agq{ts:List aI}{b:List (pR H)}(h:(DataW.weightsEach P ts b).all (· <=reachBytes)=true){j:Nat}{t:aI}{d:pR H}(ht:ts[j]? = some t)(hd:b[j]? = some d):(d.weights P t).all (· <=reachBytes)=true:=
 List.all_eq_true.2 λn hn=>List.all_eq_true.1 h n (DataW.weights_mem_each ht hd n hn)
end
end
section
open Go Go.RowKit
theorem Ui{H:Type} : ∀l:List (pR H),Rows.uptoBulkAll l=(l.map Rows.uptoBulk).sum
 | []=>by simp[Rows.uptoBulkAll]
 | d::r=>by simp[Rows.uptoBulkAll,Ui r]
theorem YK{H:Type}:Uh (H:=H) Rows.uptoBulk where
 one d:=by
  cases d with
  | lit l=>cases l<;>simp[Rows.uptoBulk]
  | nil=>simp[Rows.uptoBulk]
  | ptr d=>simp[Rows.uptoBulk]
  | slice elems spare=>simp[Rows.uptoBulk]
  | agg parts=>simp[Rows.uptoBulk]
  | iface t d=>simp[Rows.uptoBulk]
  | map entries=>simp[Rows.uptoBulk]
  | held h=>simp[Rows.uptoBulk]
 slice elems spare:=by simp only[Rows.uptoBulk,Ui];omega
 agg parts:=by simp only[Rows.uptoBulk,Ui];omega
 str bs:=by simp[Rows.uptoBulk]
end
section
open Go Go.RowKit
end
section
open Go Go.RowKit
theorem RD:type_of% (ak (ak (ak (ak (ak (@eF) (ak (@pF) (@dy))) (ak (@HM) (ak (@OI) (@si)))) (ak (ak (@HN) (ak (@OJ) (@sk))) (ak (ak (@HP) (@ON)) (ak (@OK) (@KJ))))) (ak (ak (ak (@gX) (ak (@lF) (@gO))) (ak (ak (@iI) (@qL)) (ak (@eR) (@Bc)))) (ak (ak (@HQ) (ak (@y8) (@abi))) (ak (ak (@abj) (@abk)) (ak (@abl) (@abm)))))) (ak (ak (ak (ak (@abn) (ak (@HT) (@KP))) (ak (ak (@HV) (@HX)) (ak (@abo) (@nR)))) (ak (ak (@TX) (ak (@nS) (@sj))) (ak (ak (@TY) (@A9)) (ak (@eS) (@dY))))) (ak (ak (ak (@fB) (ak (@ti) (@mz))) (ak (ak (@KK) (@aaF)) (ak (@aaG) (@aaH)))) (ak (ak (@aaI) (ak (@aaJ) (@eQ))) (ak (ak (@nM) (@Oo)) (ak (@nN) (@xH))))))):=ak (ak (ak (ak (ak (@eF) (ak (@pF) (@dy))) (ak (@HM) (ak (@OI) (@si)))) (ak (ak (@HN) (ak (@OJ) (@sk))) (ak (ak (@HP) (@ON)) (ak (@OK) (@KJ))))) (ak (ak (ak (@gX) (ak (@lF) (@gO))) (ak (ak (@iI) (@qL)) (ak (@eR) (@Bc)))) (ak (ak (@HQ) (ak (@y8) (@abi))) (ak (ak (@abj) (@abk)) (ak (@abl) (@abm)))))) (ak (ak (ak (ak (@abn) (ak (@HT) (@KP))) (ak (ak (@HV) (@HX)) (ak (@abo) (@nR)))) (ak (ak (@TX) (ak (@nS) (@sj))) (ak (ak (@TY) (@A9)) (ak (@eS) (@dY))))) (ak (ak (ak (@fB) (ak (@ti) (@mz))) (ak (ak (@KK) (@aaF)) (ak (@aaG) (@aaH)))) (ak (ak (@aaI) (ak (@aaJ) (@eQ))) (ak (ak (@nM) (@Oo)) (ak (@nN) (@xH))))))
theorem RU:type_of% (ak (ak (ak (ak (ak (ak (@HY) (@abp)) (ak (@abq) (ak (@abr) (@abt)))) (ak (ak (@abu) (@HU)) (ak (@dX) (ak (@pE) (@th))))) (ak (ak (ak (@CW) (@iJ)) (ak (@T4) (ak (@aaM) (@aaN)))) (ak (ak (@aaO) (@y7)) (ak (@aaP) (ak (@sn) (@aaQ)))))) (ak (ak (ak (ak (@jM) (@KL)) (ak (@gY) (ak (@aaR) (@aaS)))) (ak (ak (@aaT) (@aaU)) (ak (@decide_true) (ak (@decide_false) (@qM))))) (ak (ak (ak (@EY) (@xI)) (ak (@Bool.or_false) (ak (@Bool.or_true) (@List.append_nil.{0})))) (ak (ak (@List.take_nil.{0}) (ak (@Cc) (@List.getElem?_toArray.{0}))) (ak (@al) (ak (@abc) (@abd))))))) (ak (ak (ak (ak (ak (@Int.zero_mul) (@Int.zero_add)) (ak (@Int.add_zero) (ak (@aa2) (@aa3)))) (ak (ak (@aa4) (@aa5)) (ak (@aa6) (ak (@aa7) (@aa8))))) (ak (ak (ak (@aa9) (@aa')) (ak (@aba) (ak (@abb) (@KO)))) (ak (ak (@abe) (ak (@abf) (@abg))) (ak (@abz) (ak (@abA) (@abh)))))) (ak (ak (ak (ak (@List.length_map.{0,0}) (@List.map_append.{0,0})) (ak (@List.length_append.{0}) (ak (@beq_self_eq_true.{0}) (@beq_true)))) (ak (ak (@beq_false) (@Bool.false_xor)) (ak (@Bool.true_xor) (ak (@Bool.xor_false) (@Bool.xor_true))))) (ak (ak (ak (@iK) (@qN)) (ak (@Ud) (ak (@Uc) (@iP.{1})))) (ak (ak (@iN.{1}) (ak (@Nat.mul_one) (@Jq))) (ak (@Nat.zero_add) (ak (@true_and) (@and_true)))))))):=ak (ak (ak (ak (ak (ak (@HY) (@abp)) (ak (@abq) (ak (@abr) (@abt)))) (ak (ak (@abu) (@HU)) (ak (@dX) (ak (@pE) (@th))))) (ak (ak (ak (@CW) (@iJ)) (ak (@T4) (ak (@aaM) (@aaN)))) (ak (ak (@aaO) (@y7)) (ak (@aaP) (ak (@sn) (@aaQ)))))) (ak (ak (ak (ak (@jM) (@KL)) (ak (@gY) (ak (@aaR) (@aaS)))) (ak (ak (@aaT) (@aaU)) (ak (@decide_true) (ak (@decide_false) (@qM))))) (ak (ak (ak (@EY) (@xI)) (ak (@Bool.or_false) (ak (@Bool.or_true) (@List.append_nil.{0})))) (ak (ak (@List.take_nil.{0}) (ak (@Cc) (@List.getElem?_toArray.{0}))) (ak (@al) (ak (@abc) (@abd))))))) (ak (ak (ak (ak (ak (@Int.zero_mul) (@Int.zero_add)) (ak (@Int.add_zero) (ak (@aa2) (@aa3)))) (ak (ak (@aa4) (@aa5)) (ak (@aa6) (ak (@aa7) (@aa8))))) (ak (ak (ak (@aa9) (@aa')) (ak (@aba) (ak (@abb) (@KO)))) (ak (ak (@abe) (ak (@abf) (@abg))) (ak (@abz) (ak (@abA) (@abh)))))) (ak (ak (ak (ak (@List.length_map.{0,0}) (@List.map_append.{0,0})) (ak (@List.length_append.{0}) (ak (@beq_self_eq_true.{0}) (@beq_true)))) (ak (ak (@beq_false) (@Bool.false_xor)) (ak (@Bool.true_xor) (ak (@Bool.xor_false) (@Bool.xor_true))))) (ak (ak (ak (@iK) (@qN)) (ak (@Ud) (ak (@Uc) (@iP.{1})))) (ak (ak (@iN.{1}) (ak (@Nat.mul_one) (@Jq))) (ak (@Nat.zero_add) (ak (@true_and) (@and_true)))))))
theorem ρ0{α β:Type}{f:α->β}{a:α}{l:List α}:(a::l).map f=f a::l.map f:=rfl
theorem ρ1{α β:Type}{f:α->β}:([]:List α).map f= []:=rfl
theorem ρ2:(!true)=false:=rfl
theorem ρ3:(!false)=true:=rfl
theorem ρ4{α β:Type}{f:α->β}{a:α}:(some a).map f=some (f a):=rfl
theorem ρ5{α:Type}{a:α}{l:List α}:(a::l)[0]? = some a:=rfl
theorem ρ6{α:Type}{a:α}{l:List α}{n:Nat}:(a::l)[n+1]? = l[n]? :=rfl
theorem ρ7{α:Type}{a:α}{l:List α}:(a::l).length=l.length+1:=rfl
theorem ρ8{α:Type}:([]:List α).length=0:=rfl
theorem ρ9{α:Type}:(none:Option α).isSome=false:=rfl
theorem ρ10{α:Type}:(none:Option α).isNone=true:=rfl
theorem ρ11{α:Type}{a:α}:(some a).isSome=true:=rfl
theorem ρ12{α:Type}{a:α}:(some a).isNone=false:=rfl
theorem ρ13{b:Bool}:(true||b)=true:=rfl
theorem ρ14{b:Bool}:(false||b)=b:=rfl
theorem ρ15{α:Type}{a:α}{l:List α}{n:Nat}:(a::l).take (n+1)=a::l.take n:=rfl
theorem ρ16{α:Type}{l:List α}:l.take 0= []:=rfl
theorem ρ17{α:Type}{a:α}{l:List α}{n:Nat}:(a::l).drop (n+1)=l.drop n:=rfl
theorem ρ18{α:Type}{l:List α}:l.drop 0=l:=rfl
theorem ρ19{α:Type}{a:α}{l m:List α}:(a::l)++m=a::(l++m):=rfl
theorem ρ20{α:Type}{l:List α} : []++l=l:=rfl
theorem ρ21{α:Type}{n:Nat}:([]:List α).drop n= []:=List.drop_nil
theorem ρ22{α:Type}{p:α->Bool}{a:α}{l:List α}:(a::l).all p=(p a&&l.all p):=rfl
theorem ρ23{α:Type}{p:α->Bool}:([]:List α).all p=true:=rfl
theorem ρ24{b:Bool}:(true&&b)=b:=rfl
theorem ρ25{α:Type}{l:List α}:l.toArray.size=l.length:=rfl
theorem ρ26{α:Type}{l:List α}:l.toArray.toList=l:=rfl
theorem ρ27{b:Bool}:(false&&b)=false:=rfl
theorem ρ28{n:Nat}:n+0=n:=rfl
theorem ρ29{n:Nat}:(n:Int).toNat=n:=rfl
theorem an{F G:Prop}(f:F)(g:G):F/\G:=⟨f,g⟩
theorem rn{p q F:Prop}(f:F)(k:q)(h:F->q->p:=by
 intro f k;repeat' (first | (simp (disch:=first | omega | (decide +kernel) | (repeat first | assumption | exact ag.refl _ | refine ag.set ?_ Fo _ | refine ag.new ?_ _)) only[↓RD,RU,sq,oO,bS,↓aP,↓ez,↓aT,↓bf,↓OM,gJ,qE,cV,bP,bK,fS,OO,pop,aD,da,bD,bT,jc,dV,fj,isVal,bu,Value.cells,ρ0,ρ1,ρ2,ρ3,ρ4,↓reduceIte,Nat.reduceEqDiff,Nat.reduceAdd,Int.reduceOfNat,Int.reduceNegSucc,reduceCtorEq,ρ5,ρ6,ρ7,ρ8,qQ,OV,OW,OX,fF,At,yL,ρ9,ρ10,ρ11,ρ12,ρ13,ρ14,ρ15,ρ16,ρ17,ρ18,ρ19,ρ20,ρ21,ρ22,ρ23,ρ24,Kd.cD,ρ25,ρ26,iv,Nat.reduceLeDiff,Int.reduceMul,Int.reduceAdd,Int.reduceSub,Int.reduceToNat,gZ,wB,qP,OT,OU,OQ,OR,Kd.j9,ρ27,wb,CH.set_set,uV,uU,isKey,uX,Ha,ρ28,ρ29,f]) | ((with_reducible first|apply aF|apply aG|apply aH)<;>intro _))
 exact k):p:=h f k
theorem rz{p F:Prop}(f:F)(h:F->p:=by
 intro f;repeat' (first | (simp (disch:=first | omega | (decide +kernel) | (repeat first | assumption | exact ag.refl _ | refine ag.set ?_ Fo _ | refine ag.new ?_ _)) only[↓RD,RU,sq,oO,bS,↓aP,↓ez,↓aT,↓bf,↓OM,gJ,qE,cV,bP,bK,fS,OO,pop,aD,da,bD,bT,jc,dV,fj,isVal,bu,Value.cells,ρ0,ρ1,ρ2,ρ3,ρ4,↓reduceIte,Nat.reduceEqDiff,Nat.reduceAdd,Int.reduceOfNat,Int.reduceNegSucc,reduceCtorEq,ρ5,ρ6,ρ7,ρ8,qQ,OV,OW,OX,fF,At,yL,ρ9,ρ10,ρ11,ρ12,ρ13,ρ14,ρ15,ρ16,ρ17,ρ18,ρ19,ρ20,ρ21,ρ22,ρ23,ρ24,Kd.cD,ρ25,ρ26,iv,Nat.reduceLeDiff,Int.reduceMul,Int.reduceAdd,Int.reduceSub,Int.reduceToNat,gZ,wB,qP,OT,OU,OQ,OR,Kd.j9,ρ27,wb,CH.set_set,uV,uU,isKey,uX,Ha,ρ28,ρ29,f]) | ((with_reducible first|apply aF|apply aG|apply aH)<;>intro _))):p:=h f
theorem aC{p q:Prop}(k:q)(h:q->p:=by
 intro k;repeat' (first | (simp (disch:=first | omega | (decide +kernel) | (repeat first | assumption | exact ag.refl _ | refine ag.set ?_ Fo _ | refine ag.new ?_ _)) only[↓RD,RU,sq,oO,bS,↓aP,↓ez,↓aT,↓bf,↓OM,gJ,qE,cV,bP,bK,fS,OO,pop,aD,da,bD,bT,jc,dV,fj,isVal,bu,Value.cells,ρ0,ρ1,ρ2,ρ3,ρ4,↓reduceIte,Nat.reduceEqDiff,Nat.reduceAdd,Int.reduceOfNat,Int.reduceNegSucc,reduceCtorEq,ρ5,ρ6,ρ7,ρ8,qQ,OV,OW,OX,fF,At,yL,ρ9,ρ10,ρ11,ρ12,ρ13,ρ14,ρ15,ρ16,ρ17,ρ18,ρ19,ρ20,ρ21,ρ22,ρ23,ρ24,Kd.cD,ρ25,ρ26,iv,Nat.reduceLeDiff,Int.reduceMul,Int.reduceAdd,Int.reduceSub,Int.reduceToNat,gZ,wB,qP,OT,OU,OQ,OR,Kd.j9,ρ27,wb,CH.set_set,uV,uU,isKey,uX,Ha,ρ28,ρ29]) | ((with_reducible first|apply aF|apply aG|apply aH)<;>intro _))
 exact k):p:=h k
theorem aZ{p:Prop}(h:p:=by
 repeat' (first | (simp (disch:=first | omega | (decide +kernel) | (repeat first | assumption | exact ag.refl _ | refine ag.set ?_ Fo _ | refine ag.new ?_ _)) only[↓RD,RU,sq,oO,bS,↓aP,↓ez,↓aT,↓bf,↓OM,gJ,qE,cV,bP,bK,fS,OO,pop,aD,da,bD,bT,jc,dV,fj,isVal,bu,Value.cells,ρ0,ρ1,ρ2,ρ3,ρ4,↓reduceIte,Nat.reduceEqDiff,Nat.reduceAdd,Int.reduceOfNat,Int.reduceNegSucc,reduceCtorEq,ρ5,ρ6,ρ7,ρ8,qQ,OV,OW,OX,fF,At,yL,ρ9,ρ10,ρ11,ρ12,ρ13,ρ14,ρ15,ρ16,ρ17,ρ18,ρ19,ρ20,ρ21,ρ22,ρ23,ρ24,Kd.cD,ρ25,ρ26,iv,Nat.reduceLeDiff,Int.reduceMul,Int.reduceAdd,Int.reduceSub,Int.reduceToNat,gZ,wB,qP,OT,OU,OQ,OR,Kd.j9,ρ27,wb,CH.set_set,uV,uU,isKey,uX,Ha,ρ28,ρ29]) | ((with_reducible first|apply aF|apply aG|apply aH)<;>intro _))):p:=h
end
section
open Go Go.RowKit
variable {P:aY} {B:Nat}
abbrev cY:=aU->List ae->CH->ae->CH->Prop
inductive nT(T:bZ)(PC:cY):bH->Fr->CH->ae->CH->Prop where
 | gW {A R:List Item} {k:Item} {f:aU} {args:List au} {fr aj:Fr} {H H1 H':CH} {v:ae} (hn : ∃n,cT (cU T n) A fr H=some (aj,H1)) (hw:dU aj k.guard=some true) (hk:k.op= .call f args) (hp:PC f (args.map (aJ aj)) H1 v H'):nT T PC (.gW (A++k::R)) fr H v H'
 | lB {d:jB} {A R:List Item} {k:Item} {f:aU} {args:List au} {fr aj:Fr} {H H1 H':CH} {v:ae} {Zl:List Item} (hi:d.af=A++k::R) (hd:d.yO=some Zl) (hA : ∀x∈A,qK x.op=true) (hn : ∃n,cT (cU T n) A fr H=some (aj,H1)) (hz : ∃n r,cT (cU T n) Zl aj H1=some r) (hw:dU aj k.guard=some true) (hk:k.op= .call f args) (hp:PC f (args.map (aJ aj)) H1 v H'):nT T PC (.lB d) fr H v H'
 | seq1 {a b:bH} {fr:Fr} {H H':CH} {v:ae} (h:nT T PC a fr H v H'):nT T PC (.seq a b) fr H v H'
 | abD {a b:bH} {fr aj:Fr} {H H1 H':CH} {v:ae} (hn : ∃n,br (cU T n) n a fr H=some (.normal,aj,H1)) (h:nT T PC b aj H1 v H'):nT T PC (.seq a b) fr H v H'
 | cond_t {c:au} {a b:bH} {fr:Fr} {H H':CH} {v:ae} (hc:aJ fr c= .bool true) (h:nT T PC a fr H v H'):nT T PC (.cond c a b) fr H v H'
 | cond_f {c:au} {a b:bH} {fr:Fr} {H H':CH} {v:ae} (hc:aJ fr c= .bool false) (h:nT T PC b fr H v H'):nT T PC (.cond c a b) fr H v H'
 | block {id:Nat} {c:bH} {fr:Fr} {H H':CH} {v:ae} (h:nT T PC c fr H v H'):nT T PC (.block id c) fr H v H'
 | abE {c:bH} {fr:Fr} {H H':CH} {v:ae} (h:nT T PC c fr H v H'):nT T PC (.loop c) fr H v H'
 | abF {c:bH} {fr aj:Fr} {H H1 H':CH} {v:ae} (hn : ∃n,br (cU T n) n c fr H=some (.normal,aj,H1)) (h:nT T PC (.loop c) aj H1 v H'):nT T PC (.loop c) fr H v H'
def Uj(T:bZ)(PC:cY)(c:bH)(v:ae)(H':CH):Nat->Fr->CH->Prop
 | 0,fr,H=>nT T PC c fr H v H'
 | m+1,fr,H=>∃n aj H1,br (cU T n) n c fr H=some (.normal,aj,H1)/\Uj T PC c v H' m aj H1
theorem ajt{T:bZ}{PC:cY}{r:bH}{fr:Fr}{H H':CH}{v:ae}(h:nT T PC r fr H v H') : ∀c,r= .loop c->∃m,Uj T PC c v H' m fr H:=by
 induction h with
 | abE h=>intro c e;cases e;exact⟨0,h⟩
 | abF hn h b=>
   intro c e;cases e;obtain⟨m,f⟩:=b _ rfl;obtain⟨n,hn⟩:=hn;exact⟨m+1,n,_,_,hn,f⟩
 | _=>intro c e;cases e
theorem aju{it:Item}{A:List Item}{t:Nat}(h:t∈oQ A):t∈oQ (it::A):=by
 simp only[oQ,ND] at h⊢;obtain⟨x,hx,hd⟩:=h;exact⟨x,hU _ hx,hd⟩
theorem ajv{it:Item}{A:List Item}{t:Nat}(h:it.dst=some t):t∈oQ (it::A):=by
 simp only[oQ,ND];exact⟨it,j5 ..,h⟩
theorem ajw{A R:List Item}{t:Nat}(h:t∈oQ A):t∈oQ (A++R):=by
 simp only[oQ,ND] at h⊢;obtain⟨x,hx,hd⟩:=h;exact⟨x,tQ _ hx,hd⟩
theorem ajx{A:List Item}{t:Nat}(h:t∉oQ A) : ∀x∈A,x.dst≠some t:=λx hx e=>h (by
 simp only[oQ,ND];exact⟨x,hx,e⟩)
theorem abG{h:Hd}(hh:HS P B h){ro:Option Nat}{N:Nat}{ops:Array Oper}{Q:Exit->Act->aq->Prop}{k:Item}{f:aU}{args:List au}{v:ae}{H':CH} : ∀(l:List Nat) (A R:List Item) (β:Nat->aB) (fr aj:Fr) (H H1:CH) (a:Act) (w:aq),
 (A++k::R).length=l.length->(∀j (h1:j<(A++k::R).length) (h2:j<l.length),∃o,ops[l[j]]? = some o/\xr P N ops o (A++k::R)[j])->aE P B β H w->FR β N fr a->cT h A fr H=some (aj,H1)->dU aj k.guard=some true->k.op= .call f args->CC P B f (args.map (aJ aj)) H1 v H'->
 (∀β' w' a' v',aE P B β' H' w'->bB β w β' w'->VR β' v v'->a'.defers=a.defers->(∀t,t∉oQ A->VR β' (fr t) (a'.tmps.getD t undef))->Q (.panic [{ v:=v',recovered:=false }]) a' w')->wpOpsIn (Fn ro) 0 P ops Q l a w
 | [],A,R,β,fr,aj,H,H1,a,w,hl,_,_,_,_,_,_,_,_=>by simp at hl
 | i::l,[],R,β,fr,aj,H,H1,a,w,hl,y,z,m,c,hw,hk,hp,C=>by
   simp only[cT,Option.some.injEq,Prod.mk.injEq] at c;obtain⟨rfl,rfl⟩:=c;obtain⟨o,ho,hit⟩:=y 0 Sm Sm;simp only[mR,RR] at ho hit;simp only[wpOpsIn,ho];rw[EH hit m hw];simp only[iT];refine⟨λf _=>trivial,?_⟩;rw[show(Fn ro).round=ro from rfl,Oper.semAt_eq ro _ _ hit.nodefer];have D:=hit.op;rw[hk] at D;generalize E:o.op=io at D;cases D with
   | @call f args ts he=>
     rw[he] at E;have hv : ∀x∈o.op.operands,VR β (aJ fr x) (a.eval x):=λx hx=>Cz m (hit.bA x hx);have M:aQ β (args.toList.map (aJ fr)) (args.toList.map a.eval):=by
      refine⟨Sm,λj u hu=> ?_⟩;rw[hY] at hu⊢
      cases hx:args.toList[j]? with
      | none=>rw[hx] at hu;cases hu
      | some x=>
        rw[hx] at hu;cases hu;exact⟨_,rfl,hv x (by rw[E];simp[Op.operands,Call.operands];exact .inr (by have:=List.mem_of_getElem? hx;simpa using this))⟩
     have O:(execOp a.eval o).run P w= .ok (.enter f (args.map a.eval)) w:=by
      simp only[execOp,E,resolve,Act.eval,Deferred.ofValue,Sem.run_bind,Sem.run_pure,Result.andThen_ok,invoke];rw[EG hp.1];simp
     rw[O];refine⟨λh=>absurd h (by simp[Fn,iW]),J0 ?_⟩;have:=hp.2 β w _ z M;have S:(args.toList.map a.eval).toArray=args.map a.eval:=by apply rO;simp
     rw[S] at this;refine this.mono ?_;rintro e w' ⟨v',β',rfl,g1,g2,g3⟩;exact C β' w' _ v' g2 g3 g1 rfl λt _=>(m.2 t).mono g3.ext
 | i::l,it::A,R,β,fr,fr',H,H1,a,w,hl,y,z,m,c,U,hk,hp,C=>by
   obtain⟨o,ho,hit⟩:=y 0 Sm Sm;simp only[jU,RR] at ho hit;have J : ∀(β1:Nat->aB) (aj:Fr) (q:CH) (s:Act) (n:aq),aE P B β1 q n->bB β w β1 n->FR β1 N aj s->s.defers=a.defers->(∀t,t∉oQ (it::A)->aj t=fr t)->cT h A aj q=some (fr',H1)->wpOpsIn (Fn ro) 0 P ops Q l s n:=by
    intro β1 aj q s n V W Y Z kH CE;refine abG hh l A R β1 aj fr' q H1 s n (by simpa using hl) (λj h1 h2=> ?_) V Y CE U hk hp fun β' w' a' v' F G I q4 q5=>C β' w' a' v' F (W.trans G) I (q4.trans Z) λt ht=>by
     rw[<-kH t ht];exact q5 t λh=>ht (aju h)
    have:=y (j+1) (by simpa using h1) (by simpa using h2);simpa using this
   simp only[cT] at c;simp only[wpOpsIn,ho];cases g:cE h it fr H with
   | none=>rw[g] at c;cases c
   | some r=>
     obtain⟨aj,q⟩:=r;rw[g] at c;simp only at c;have L : ∀t,t∉oQ (it::A)->aj t=fr t:=λt ht=>abv g λe=>ht (ajv e);cases hw:dU fr it.guard with
     | none=>simp[cE,hw] at g
     | some b=>
       rw[EH hit m hw];cases b with
       | true=>
         simp only[iT];simp only[cE,hw] at g;exact Oa hh hit z m hw g fun β1 n v1 F G I=>J β1 aj q _ n F G I (by cases o.dst<;>rfl) L c
       | false=>
         simp only[Bool.false_eq_true,iF];simp only[cE,hw,Option.some.injEq,Prod.mk.injEq] at g;obtain⟨rfl,rfl⟩:=g;refine⟨λ_ _=>trivial,J β _ _ _ w z (bB.refl β w) ?_ (by cases o.dst<;>rfl) L c⟩;rw[<-hit.dst];exact m.put (λx hx=>hit.lt x (by rw[<-hit.dst];exact hx)) .skip
theorem abH{T:bZ}(hT:uf P B T){PC:cY}(G : ∀f args H v H',PC f args H v H'->CC P B f args H v H'){ro:Option Nat}{N B1:Nat}{D0:List Deferred}{c:Code}{r:bH}(Z:kE P N c r) : ∀(β:Nat->aB) (fr:Fr) (H H':CH) (v:ae) (a:Act) (w:aq) (Q:Exit->Act->aq->Prop),
 aE P B β H w->FR β N fr a->Hq β ro->DM D0 B1 β w a->B1<=w.heap.size->nT T PC r fr H v H'->
 (∀β' w' a' v',aE P B β' H' w'->bB β w β' w'->VR β' v v'->DM D0 B1 β' w' a'->(∀t,t∉su r->VR β' (fr t) (a'.tmps.getD t undef))->Q (.panic [{ v:=v',recovered:=false }]) a' w')->c.wpIn (Fn ro) 0 P Q a w:=by
 induction Z with
 | bad=>intro β fr H H' v a w Q o i p q s b u;cases b
 | skip=>intro β fr H H' v a w Q o i p q s b u;cases b
 | label=>intro β fr H H' v a w Q o i p q s b u;cases b
 | exit=>intro β fr H H' v a w Q o i p q s b u;cases b
 | ret=>intro β fr H H' v a w Q o i p q s b u;cases b
 | sa hg hk=>intro β fr H H' v a w Q o i p q s b u;cases b
 | scope hc I=>
   intro β fr H H' v a w Q o i p q s b u;exact Td (I β fr H H' v a w _ o i p q s b fun β' w' a' v' y x z C D=>⟨λl e=>(by cases e),u β' w' a' v' y x z C D⟩)
 | @gW id ops af hl hi=>
   intro β fr H H' v a w Q o i p q s b u;cases b with
   | @gW A R k f args _ aj _ H1 _ _ hn hw hk hp=>
     obtain⟨n,hn⟩:=hn;refine wpIn_region (abG (uZ hT n) _ A R β fr aj H H1 a w (by simpa using hl) (λj h1 h2=> ?_) o i hn hw hk (G _ _ _ _ _ hp) fun β' w' a' v' y x z C D=>u β' w' a' v' y x z (q.lC x C) λt ht=>D t λh=>ht (ajw h));have S:j<ops.size:=by omega
     exact⟨ops[j],by simp[S],hi j h1 S⟩
 | @lB id ops d hd=>
   intro β fr H H' v a w Q o i p q s b u;cases b with
   | @lB _ A R k f args _ aj _ H1 _ _ Zl ui hp hA hn hz hw hk J=>
     obtain⟨n,hn⟩:=hn;obtain⟨m,r,hz⟩:=hz;exact hd.2 Zl hp B _ ro β fr aj H H1 H' v A k R f args a w id Q (uZ hT (max n m)) o i ui hA hk (EM (se (wX ..)) hn) ⟨r,EM (se (wY ..)) hz⟩ hw (G _ _ _ _ _ J) fun β' w' a' v' y x z C D=>u β' w' a' v' y x z (q.lC x C) λt ht=>D t (ajx ht)
 | @seq ca cb ra rb ha hb L M=>
   intro β fr H H' v a w Q o i p q s b u;cases b with
   | seq1 h=>exact wpIn_seq (L β fr H H' v a w _ o i p q s h fun β' w' a' v' y x z C D=>u β' w' a' v' y x z C λt ht=>D t λh=>ht (tQ _ h))
   | @abD _ _ _ aj _ H1 _ _ hn h=>
     obtain⟨n,hn⟩:=hn;refine wpIn_seq (Hu (uZ hT n) ha β fr aj H H1 a w .normal _ o i p q s hn fun β' w' a' y x z C=> ?_);exact M β' aj H1 H' v a' w' Q y z (p.lC x.ext) C (bW s x.size) h fun β2 w2 a2 v' p1 p2 p3 p4 p5=>u β2 w2 a2 v' p1 (x.trans p2) p3 p4 λt ht=>by
      rw[<-Ua (t:=t) hn λh=>ht (tQ _ h)];exact p5 t λh=>ht (Ed _ h)
 | @cond c ca cb ra rb hc ha hb L M=>
   intro β fr H H' v a w Q o i p q s b u;have hv:=Cz i hc;cases b with
   | cond_t e h=>rw[e] at hv;exact wpIn_cond_true hv.Aw (L β fr H H' v a w Q o i p q s h fun β' w' a' v' y x z C D=>u β' w' a' v' y x z C λt ht=>D t λh=>ht (tQ _ h))
   | cond_f e h=>rw[e] at hv;exact wpIn_cond_false hv.Aw (M β fr H H' v a w Q o i p q s h fun β' w' a' v' y x z C D=>u β' w' a' v' y x z C λt ht=>D t λh=>ht (Ed _ h))
 | @block id c rc hc I=>
   intro β fr H H' v a w Q o i p q s b u;cases b with
   | block h=>exact wpIn_block (I β fr H H' v a w _ o i p q s h u)
 | @loop c rc hc I=>
   intro β0 U H0 H' v a0 w0 Q Te lD p q s xq u;obtain⟨m0,nG⟩:=ajt xq _ rfl;let E:Nat->Act->aq->Prop:=λm a w=>∃β fr H,aE P B β H w/\bB β0 w0 β w/\FR β N fr a/\DM D0 B1 β w a/\(∀t,t∉su rc->fr t=U t)/\Uj T PC rc v H' m fr H
   classical
   refine wpIn_loop (λa w=>∃m,E m a w) (λa w=>if g : ∃m,E m a w then Hr g else 0) ⟨m0,β0,U,H0,Te,bB.refl β0 w0,lD,q,λ_ _=>rfl,nG⟩ λa w O=> ?_;have V:=ZO O;rw[dif_pos O];generalize hm:Hr O=m at V;obtain⟨β,fr,H,o,F,i,hd,W,b⟩:=V;cases m with
   | zero=>exact I β fr H H' v a w _ o i (p.lC F.ext) hd (bW s F.size) b fun β' w' a' v' y x z C D=>u β' w' a' v' y (F.trans x) z C λt ht=>(by rw[<-W t ht];exact D t ht)
   | succ m=>
     obtain⟨n,aj,H1,hn,b⟩:=b;refine Hu (uZ hT n) hc β fr aj H H1 a w .normal _ o i (p.lC F.ext) hd (bW s F.size) hn fun β' w' a' y x z C=> ?_;have Y:E m a' w':=⟨β',aj,H1,y,F.trans x,z,C,(λt ht=>(Ua hn ht).trans (W t ht)),b⟩;have hex : ∃m,E m a' w':=⟨m,Y⟩;refine⟨hex,?_⟩;rw[dif_pos hex];have:=ZP hex Y;omega
theorem abI{fn:Func}{tmps:Array ae}{R:Ending->aq->Prop}{B1:Nat}{β0 β:Nat->aB}{w0:aq}{H:CH}{v:ae} : ∀(ms:List Nat) (w:aq),aE P B β H w->bB β0 w0 β w->w0.heap.size<=B1->ms.Nodup->(∀D∈ms,B1<=D/\w.heap[D]? = some (.deferred (some [])))->
 (∀w',aE P B β H w'->bB β0 w0 β w'->R (.panicked [{ v:=v,recovered:=false }]) w')->Ec iW 0 P fn tmps R (ms.map Of) (.panicking [{ v:=v,recovered:=false }]) w
 | [],w,e,c,i,hn,f,g=>g w e c
 | D::ms,w,e,c,i,hn,f,g=>by
   obtain⟨h1,h2⟩:=f D (j5 ..);have o:=(Array.getElem?_eq_some_iff.1 h2).1;refine⟨Sm, .inl ⟨D,w.putObj D (.deferred none),rfl,run_takeDeferred h2,?_⟩⟩;refine abI ms _ (e.Th (o':= .deferred none) h2 ⟨λ_ _ _=>by simp,λ_ _=>by simp,λ_=>by simp,λ_ _=>by simp,λ_ _ _ _=>by simp⟩) ?_ i (List.nodup_cons.1 hn).2 (λl j=> ?_) g
   ·exact⟨c.os,c.tape,c.output,by simpa using c.size,λb hb ho=>by
     obtain⟨m,n⟩:=c.cP b hb ho;exact⟨(Ea Om).trans m,n⟩,c.ext⟩
   obtain⟨g1,g2⟩:=f l (hU _ j);refine⟨g1,(Ea ?_).trans g2⟩;rintro rfl;exact(List.nodup_cons.1 hn).1 j
def E6 (T:bZ)(X:cY):Nat->cY
 | 0=>X
 | n+1=>λf args H v H'=>X f args H v H'\/(T.ext f=false/\∃rf,T.fn f=some rf/\nT T (E6 T X n) rf.body (λt=>args.getD t undef) H v H')
theorem Uk{β:Nat->aB}{N:Nat}{args b:List ae}(e:aQ β args b):FR β N (λt=>args.getD t undef) { tmps:=b.toArray++Array.replicate (N-b.toArray.size) undef,defers:= [] }:=by
 refine⟨Sq,λt=> ?_⟩;simp only[List.getD,Array.getD_eq_getD_getElem?];by_cases ht:t<b.length
 ·have c:t<args.length:=by have:=e.1;omega
  obtain⟨v',h1,h2⟩:=e.2 t args[t] (by simp[c]);rw[RP (by simpa using ht)];simp only[List.getElem?_toArray,h1,Option.getD_some,bM c];exact h2
 have c:args.length<=t:=by have:=e.1;omega
 rw[wW c];exact .undef _
theorem abJ{T:bZ}(hT:uf P B T){X:cY}(e : ∀f args H v H',X f args H v H'->CC P B f args H v H') : ∀n f args H v H',E6 T X n f args H v H'->CC P B f args H v H'
 | 0=>e
 | n+1=>λf args H v H' h=>by
   have o:=abJ hT e n;rcases h with h | ⟨_,rf,p,h⟩
   ·exact e _ _ _ _ _ h
   have g:=hT.fn f rf p;obtain⟨fn,c,q,s,i,t,G⟩:=g.ok;refine⟨g.call,fun β w I u x=> ?_⟩;refine callsIn_of_wp_marks q s trivial ?_ rfl;have j:=Uk (N:=fn.ntmps) x;rw[i] at j;rw[i];refine abH (ro:=none) (B1:=w.heap.size) (D0:= []) hT o t β _ H H' v _ w _ u j (λb hb=>by cases hb) (DM.none rfl) (al _) h fun β' w' l v' y z A C _=> ?_;obtain⟨ms,m1,m2,m3⟩:=C;show Ec iW 0 P fn l.tmps _ l.defers (.panicking [{ v:=v',recovered:=false }]) w';rw[m1,List.append_nil];exact abI ms w' y z (al _) m2 (λD m=>⟨(m3 D m).1,(m3 D m).2.1⟩) λJ E F=>⟨v',β',rfl,A,E,F⟩
variable {T:bZ} {X:cY}
def E7 (T:bZ)(X:cY)(f:aU)(args:List ae)(H:CH)(Q R:ae->CH->Prop):Prop:=aR T f args H Q\/∃n v H',E6 T X n f args H v H'/\R v H'
def WxO (T:bZ)(X:cY)(fr:Fr)(H:CH)(o:gu)(Q R:ae->CH->Prop):Prop:=my T fr H o Q\/∃f args,o= .call f args/\∃n v H',E6 T X n f (args.map (aJ fr)) H v H'/\R v H'
def mZ (T:bZ)(X:cY)(c:bH)(fr:Fr)(H:CH)(Q:bq->Fr->CH->Prop)(R:ae->CH->Prop):Prop:=cM T c fr H Q\/∃n v H',nT T (E6 T X n) c fr H v H'/\R v H'
def KS (T:bZ)(X:cY)(n:Nat)(q:Option (List Item))(af:List Item)(fr:Fr)(H:CH)(v:ae)(H':CH):Prop:=∃A k b f args aj H1,af=A++k::b/\(∀Zl,q=some Zl->(∀x∈A,qK x.op=true)/\∃n r,cT (cU T n) Zl aj H1=some r)/\(∃m,cT (cU T m) A fr H=some (aj,H1))/\dU aj k.guard=some true/\k.op= .call f args/\E6 T X n f (args.map (aJ aj)) H1 v H'
def Be (T:bZ)(X:cY)(af:List Item)(fr:Fr)(H:CH)(K:Fr->CH->Prop)(R:ae->CH->Prop):Prop:=pB T af fr H K\/∃n v H',KS T X n none af fr H v H'/\R v H'
theorem E7.mono{f:aU}{args:List ae}{H:CH}{Q b R c:ae->CH->Prop}(h:E7 T X f args H Q R)(e : ∀v H',Q v H'->b v H')(g : ∀v H',R v H'->c v H'):E7 T X f args H b c:=by
 rcases h with h | ⟨n,v,H',h1,h2⟩
 ·exact .inl (h.mono e)
 exact .inr ⟨n,v,H',h1,g _ _ h2⟩
theorem mZ.mono{c:bH}{fr:Fr}{H:CH}{Q b:bq->Fr->CH->Prop}{R e:ae->CH->Prop}(h:mZ T X c fr H Q R)(f : ∀x fr' H',Q x fr' H'->b x fr' H')(g : ∀v H',R v H'->e v H'):mZ T X c fr H b e:=by
 rcases h with h | ⟨n,v,H',h1,h2⟩
 ·exact .inl (h.mono f)
 exact .inr ⟨n,v,H',h1,g _ _ h2⟩
theorem ajy{f:aU}{rf:xx}(he:T.ext f=false)(b:T.fn f=some rf){args:List ae}{H:CH}{Q R:ae->CH->Prop}(h:mZ T X rf.body (λt=>args.getD t undef) H (A8 rf.res Q) R):E7 T X f args H Q R:=by
 rcases h with h | ⟨n,v,H',h1,h2⟩
 ·exact .inl (T3 he b h)
 exact .inr ⟨n+1,v,H', .inr ⟨he,rf,b,h1⟩,h2⟩
theorem O0{n m:Nat}{q:Option (List Item)}{it:Item}{r:List Item}{fr aj:Fr}{H H1 H':CH}{v:ae}(hs:cE (cU T m) it fr H=some (aj,H1))(b : ∀Zl,q=some Zl->qK it.op=true)(h:KS T X n q r aj H1 v H'):KS T X n q (it::r) fr H v H':=by
 obtain⟨A,k,c,f,args,g,i,rfl,h2,⟨m2,h3⟩,h4,h5,j⟩:=h;refine⟨it::A,k,c,f,args,g,i,rfl,λZl e=>⟨λx hx=> ?_,(h2 Zl e).2⟩,⟨max m m2,?_⟩,h4,h5,j⟩
 ·rcases List.mem_cons.1 hx with rfl | hx
  ·exact b Zl e
  exact(h2 Zl e).1 x hx
 simp only[cT];rw[Tp (se (wX ..)) hs];exact EM (se (wY ..)) h3
theorem abK{n:Nat}{q:Option (List Item)}{it:Item}{r:List Item}{fr:Fr}{H H':CH}{v:ae}{f:aU}{args:List au}(hw:dU fr it.guard=some true)(hk:it.op= .call f args)(hz : ∀Zl,q=some Zl->∃n r,cT (cU T n) Zl fr H=some r)(h:E6 T X n f (args.map (aJ fr)) H v H'):KS T X n q (it::r) fr H v H':=
 ⟨[],it,r,f,args,fr,H,rfl,λZl e=>⟨λx hx=>(by cases hx),hz Zl e⟩,⟨0,rfl⟩,hw,hk,h⟩
theorem ajz{it:Item}{r:List Item}{fr:Fr}{H:CH}{K:Fr->CH->Prop}{R:ae->CH->Prop}(hw:dU fr it.guard=some true)(h:WxO T X fr H it.op (λv b=>Be T X r (bE fr it.dst v) b K R) R):Be T X (it::r) fr H K R:=by
 rcases h with ⟨n,v,b,h1,h2⟩ | ⟨f,args,e,n,v,H',h1,h2⟩
 ·rcases h2 with h2 | ⟨m,u,H',h2,h3⟩
  ·left;rw[On];simp only[hw];exact⟨n,v,b,h1,h2⟩
  exact .inr ⟨m,u,H',O0 (m:=n) (by simp only[cE,hw,h1];rfl) (λ_ e=>by cases e) h2,h3⟩
 exact .inr ⟨n,v,H',abK hw e (λ_ e=>by cases e) h1,h2⟩
theorem ajA{it:Item}{r:List Item}{fr:Fr}{H:CH}{K:Fr->CH->Prop}{R:ae->CH->Prop}(hw:dU fr it.guard=some false)(h:Be T X r (bE fr it.dst kD) H K R):Be T X (it::r) fr H K R:=by
 rcases h with h | ⟨n,v,H',h1,h2⟩
 ·left;rw[On];simp only[hw];exact h
 exact .inr ⟨n,v,H',O0 (m:=0) (by simp only[cE,hw]) (λ_ e=>by cases e) h1,h2⟩
theorem ajB{af:List Item}{fr:Fr}{H:CH}{Q:bq->Fr->CH->Prop}{R:ae->CH->Prop}(h:Be T X af fr H (Q .normal) R):mZ T X (.gW af) fr H Q R:=by
 rcases h with h | ⟨n,v,H',⟨A,k,c,f,args,aj,H1,rfl,_,h3,h4,h5,b⟩,h2⟩
 ·exact .inl (aaa.2 h)
 exact .inr ⟨n,v,H', .gW h3 h4 h5 b,h2⟩
theorem Ul{a b:bH}{fr:Fr}{H:CH}{Q:bq->Fr->CH->Prop}{R:ae->CH->Prop}(h:mZ T X a fr H (λx fr' H'=>match x with
 | .normal=>mZ T X b fr' H' Q R
 | x=>Q x fr' H') R):mZ T X (.seq a b) fr H Q R:=by
 rcases h with ⟨n,x,aj,H1,h1,h2⟩ | ⟨n,v,H',h1,h2⟩
 ·cases x with
  | normal=>
    rcases h2 with h2 | ⟨m,v,H',h2,h3⟩
    ·exact .inl (Ot.2 ⟨n, .normal,aj,H1,h1,h2⟩)
    exact .inr ⟨m,v,H', .abD ⟨n,h1⟩ h2,h3⟩
  | exit i=>exact .inl (Ot.2 ⟨n, .exit i,aj,H1,h1,h2⟩)
  | ret=>exact .inl (Ot.2 ⟨n, .ret,aj,H1,h1,h2⟩)
 exact .inr ⟨n,v,H', .seq1 h1,h2⟩
theorem ajC{c:au}{a b:bH}{fr:Fr}{H:CH}{Q:bq->Fr->CH->Prop}{R:ae->CH->Prop}(hc:aJ fr c= .bool true)(h:mZ T X a fr H Q R):mZ T X (.cond c a b) fr H Q R:=by
 rcases h with h | ⟨n,v,H',h1,h2⟩
 ·left;rw[Tt,hc];exact h
 exact .inr ⟨n,v,H', .cond_t hc h1,h2⟩
theorem ajD{c:au}{a b:bH}{fr:Fr}{H:CH}{Q:bq->Fr->CH->Prop}{R:ae->CH->Prop}(hc:aJ fr c= .bool false)(h:mZ T X b fr H Q R):mZ T X (.cond c a b) fr H Q R:=by
 rcases h with h | ⟨n,v,H',h1,h2⟩
 ·left;rw[Tt,hc];exact h
 exact .inr ⟨n,v,H', .cond_f hc h1,h2⟩
theorem ajE{id:Nat}{c:bH}{fr:Fr}{H:CH}{Q:bq->Fr->CH->Prop}{R:ae->CH->Prop}(h:mZ T X c fr H (λx fr' H'=>match x with
 | .exit i=>if i=id then Q .normal fr' H' else Q (.exit i) fr' H'
 | x=>Q x fr' H') R):mZ T X (.block id c) fr H Q R:=by
 rcases h with h | ⟨n,v,H',h1,h2⟩
 ·exact .inl (aac.2 (h.mono λx fr' H' hx=>by cases x<;>exact hx))
 exact .inr ⟨n,v,H', .block h1,h2⟩
theorem ajF{c:bH}{fr:Fr}{H:CH}{Q:bq->Fr->CH->Prop}{R:ae->CH->Prop}(h:mZ T X c fr H (λx fr' H'=>match x with
 | .normal=>mZ T X (.loop c) fr' H' Q R
 | x=>Q x fr' H') R):mZ T X (.loop c) fr H Q R:=by
 rcases h with ⟨n,x,aj,H1,h1,h2⟩ | ⟨n,v,H',h1,h2⟩
 ·cases x with
  | normal=>
    rcases h2 with h2 | ⟨m,v,H',h2,h3⟩
    ·exact .inl (Ou.2 ⟨n, .normal,aj,H1,h1,h2⟩)
    exact .inr ⟨m,v,H', .abF ⟨n,h1⟩ h2,h3⟩
  | exit i=>exact .inl (Ou.2 ⟨n, .exit i,aj,H1,h1,h2⟩)
  | ret=>exact .inl (Ou.2 ⟨n, .ret,aj,H1,h1,h2⟩)
 exact .inr ⟨n,v,H', .abE h1,h2⟩
theorem ajG{c:bH}{Q:bq->Fr->CH->Prop}{R:ae->CH->Prop}(I:Nat->Fr->CH->Prop)(step : ∀n fr H,I n fr H->mZ T X c fr H (HO I n Q) R) : ∀ {n:Nat} {fr:Fr} {H:CH},I n fr H->mZ T X (.loop c) fr H Q R:=by
 intro n;induction n using Nat.strongRecOn with
 | _ n b=>
   intro fr H h;refine ajF ((step n fr H h).mono (λx fr' H' hx=> ?_) λ_ _ h=>h);cases x with
   | normal=>obtain⟨m,e,hi⟩:=hx;exact b m e hi
   | exit i=>exact hx
   | ret=>exact hx
end
section
open Go Go.RowKit
variable {P:aY} {B:Nat}
def O1(K:Act->aq->Prop)(Q:Exit->Act->aq->Prop):Exit->Act->aq->Prop:=λe a w=>match e with
 | .normal=>K a w
 | e=>Q e a w
theorem ajH{F:Fence}{n:Nat}{o:Oper}{a:Act}{next:Act->aq->Prop}{K:Act->aq->Prop}{Q:Exit->Act->aq->Prop}{r:Result Next}(h:o.uponIn F n P a next (O1 K Q) r):o.uponIn F n P a next Q r:=by
 cases r with
 | ok x w'=>
   cases x with
   | enter f args=>exact⟨h.1,h.2.mono λe b he=>by cases e<;>exact he⟩
   | round l f tmps kY bd=>exact⟨h.1,RoundIn.mono h.2 λe b he=>by cases e<;>exact he⟩
   | _=>exact h
 | halt x w'=>cases x<;>exact h
theorem KT{F:Fence}{n:Nat}{ops:Array Oper}{Q:Exit->Act->aq->Prop}(l2:List Nat) : ∀(b:List Nat) (a:Act) (w:aq),wpOpsIn F n P ops (O1 (wpOpsIn F n P ops Q l2) Q) b a w->wpOpsIn F n P ops Q (b++l2) a w
 | [],a,w,h=>h
 | i::b,a,w,h=>by
   rw[jU];simp only[wpOpsIn] at h⊢
   cases ho:ops[i]? with
   | none=>rw[ho] at h;exact KT l2 b a w h
   | some o=>
     rw[ho] at h;simp only at h⊢;split;·rename_i hw;rw[iP hw] at h;exact⟨h.1,ajH (Oper.wpIn_mono (λa w=>KT l2 b a w) h).2⟩
     rename_i hw;rw[iN hw] at h;exact⟨h.1,KT l2 b _ _ h.2⟩
end
section
open Go Go.RowKit
variable {P:aY} {B:Nat} {T:bZ} {X:cY}
def CY(P:aY)(B:Nat)(f:aU)(args:List ae)(H:CH)(v:ae)(H':CH):Prop:=qJ P f=true/\∀β w (b:List ae),aE P B β H w->aQ β args b->
 CallsIn iW 0 P f b.toArray w λe w'=>∃v' β',e= .returned v'/\VR β' v v'/\aE P B β' H' w'/\bB β w β' w'
theorem Um{fn:Func}{tmps:Array ae}{R:Ending->aq->Prop}{B1:Nat}{β0 β:Nat->aB}{w0:aq}{H:CH}{u:FrameMode}(hu:u≠ .run){D0:List Deferred} : ∀(ms:List Nat) (w:aq),aE P B β H w->bB β0 w0 β w->w0.heap.size<=B1->ms.Nodup->(∀D∈ms,B1<=D/\w.heap[D]? = some (.deferred (some [])))->
 (∀w',aE P B β H w'->bB β0 w0 β w'->Ec iW 0 P fn tmps R D0 u w')->Ec iW 0 P fn tmps R (ms.map Of++D0) u w
 | [],w,e,c,i,hn,f,g=>g w e c
 | D::ms,w,e,c,i,hn,f,g=>by
   obtain⟨h1,h2⟩:=f D (j5 ..);have o:=(Array.getElem?_eq_some_iff.1 h2).1;refine⟨hu, .inl ⟨D,w.putObj D (.deferred none),rfl,run_takeDeferred h2,?_⟩⟩;refine Um hu ms _ (e.Th (o':= .deferred none) h2 ⟨λ_ _ _=>by simp,λ_ _=>by simp,λ_=>by simp,λ_ _=>by simp,λ_ _ _ _=>by simp⟩) ?_ i (List.nodup_cons.1 hn).2 (λl j=> ?_) g
   ·exact⟨c.os,c.tape,c.output,by simpa using c.size,λb hb ho=>by
     obtain⟨m,n⟩:=c.cP b hb ho;exact⟨(Ea Om).trans m,n⟩,c.ext⟩
   obtain⟨g1,g2⟩:=f l (hU _ j);refine⟨g1,(Ea ?_).trans g2⟩;rintro rfl;exact(List.nodup_cons.1 hn).1 j
def abL(P:aY)(g:aU)(n:Nat):Prop:=∀(args:List ae) (w:aq),args.length=n->CallsDIn iW 0 P g args.toArray .returning w λe b w'=>(∃x,e= .returned x)/\b= .returning/\w'=w
def abM(P:aY)(B:Nat)(g:aU)(G:List ae->ae->CH->CH->Prop):Prop:=∀β w (args b:List ae) (v v':ae) (H H':CH),aE P B β H w->aQ β args b->VR β v v'->G args v H H'->
 CallsDIn iW 0 P g b.toArray (.panicking [{ v:=v',recovered:=false }]) w λe c w'=>∃x β',e= .returned x/\c= .panicking [{ v:=v',recovered:=true }]/\aE P B β' H' w'/\bB β w β' w'
def E8 (c:bH)(fr:Fr):Fr:=λt=>if (su c).elem t then undef else fr t
theorem ajI{β:Nat->aB}{c:bH}{fr:Fr}{a:Act}(h : ∀t,t∉su c->VR β (fr t) (a.tmps.getD t undef)):FR β 0 (E8 c fr) a:=by
 refine⟨cx _,λt=> ?_⟩;unfold E8;split;·exact .undef _
 rename_i ht;exact h t λb=>ht (List.elem_eq_true_of_mem b)
theorem abN{h:Hd}(hh:HS P B h){ro:Option Nat}{N:Nat}{c:Code}{af:List Item}(b:kE P N c (.gW af)){β:Nat->aB}{fr fr':Fr}{H H':CH}{a:Act}{w:aq}{Q:Exit->Act->aq->Prop}
 (i:aE P B β H w) (m:FR β N fr a) (n:cT h af fr H=some (fr',H')) (f : ∀β' w' a',aE P B β' H' w'->bB β w β' w'->FR β' N fr' a'->a'.defers=a.defers->Q .normal a' w'):c.wpIn (Fn ro) 0 P Q a w:=by
 generalize hg:bH.gW af=r at b;induction b generalizing Q with
 | @gW id ops o hl hi=>
   cases hg;refine wpIn_region (J3 hh _ af β fr fr' H H' a w (by simpa using hl) (λj h1 h2=> ?_) i m n f);have g:j<ops.size:=by omega
   exact⟨ops[j],by simp[g],hi j h1 g⟩
 | scope hc p=>exact Td (p (fun β' w' a' q s t u=>⟨λl e=>(by cases e),f β' w' a' q s t u⟩) hg)
 | _=>cases hg
theorem abO{h:Hd}{n:Nat}{af:List Item}{fr fr':Fr}{H H':CH}(e:br h n (.gW af) fr H=some (.normal,fr',H')):cT h af fr H=some (fr',H'):=by
 simp only[br] at e;cases b:cT h af fr H with
 | none=>rw[b] at e;simp at e
 | some q=>rw[b] at e;simp at e;rw[<-e.1,<-e.2]
theorem ajJ(hT : ∀B,uf P B T)(hX : ∀B f args H v H',X f args H v H'->CC P B f args H v H'){f g:aU}{rf:xx}{i0 i1:List Item}{rB:bH}(mi:Oh P f rf)(KU:rf.body= .seq (.gW i0) (.seq (.gW i1) (.seq .bad rB))){c0 c1 cB:Code}{id d x1 x2 x3:Nat}{t1 t2:aI}{u A:String}{a1 a2:Array Edge}
 (ww:(P.funcs[f]?).bind (·.body)=some (.seq c0 (.seq c1 (.seq (.region id #[{ dst:=some d,op:= .makeFunc (.func g) #[] #[.tmp x1, .tmp x2, .tmp x3],type:=t1,pos:=u,after:=a1,guard:=none },{ dst:=none,op:= .defer { callee:= .value (.tmp d),args:= #[],argTypes:= #[] },type:=t2,pos:=A,after:=a2,guard:=none }] false) cB))))
 (H5:qJ P g=true) (hd:d<rf.ntmps) {G:List ae->ae->CH->CH->Prop} (hgR:abL P g 3) (hgP : ∀B,abM P B g G) {args:List ae} {H:CH} {Q:ae->CH->Prop}
 (h:cM T (.gW i0) (λt=>args.getD t undef) H λx aj H1=>x= .normal/\cM T (.gW i1) aj H1 λx aS I=>x= .normal/\
   mZ T X rB (bE aS (some d) undef) I (λx ud q=>(x= .normal\/x= .ret)/\∃vs,bT ud q rf.res=some vs/\Q (dV vs) q)
    λv q=>∃J,G [aS x1,aS x2,aS x3] v q J/\∃vs,bT (E8 rB (bE aS (some d) undef)) J rf.res=some vs/\Q (dV vs) J) :
 ∃v H',Q v H'/\∀B,CY P B f args H v H':=by
 obtain⟨n0,_,aj,H1,e0,rfl,n1,_,aS,I,e1,rfl,h⟩:=h;obtain⟨fn,c,pU,hb,kc,E,tf⟩:=mi.ok;rw[pU] at ww;simp only[Option.bind_some] at ww;rw[hb] at ww;cases ww;rw[KU] at E;cases E with
 | seq k0 E=>cases E with
   | seq k1 E=>cases E with
     | seq k2 k3=>
       have pre : ∀(B:Nat) (Qv:ae) (H':CH) (β:Nat->aB) (w:aq) (C:List ae),aE P B β H w->aQ β args C->
        (∀β2 o a2 j l m,aE P B β2 I o->bB β w β2 o->FR β2 rf.ntmps (bE aS (some d) undef) a2->a2.defers= [{ target:= .fn (.func g) #[j,l,m],args:= #[] }]->aQ β2 [aS x1,aS x2,aS x3] [j,l,m]->
          cB.wpIn iW 0 P (bodyPostM iW 0 P fn λe w'=>∃v' β',e= .returned v'/\VR β' Qv v'/\aE P B β' H' w'/\bB β w β' w') a2 o)->
        CallsIn iW 0 P f C.toArray w λe w'=>∃v' β',e= .returned v'/\VR β' Qv v'/\aE P B β' H' w'/\bB β w β' w':=by
        intro B Qv H' β w C L M hK;refine callsIn_of_wp_marks pU hb trivial ?_ rfl;have hf:=Uk (N:=fn.ntmps) M;rw[kc] at hf⊢;refine wpIn_seq (abN (ro:=none) (uZ (hT B) n0) k0 L hf (abO e0) fun β1 w1 a1 O F R S=> ?_);refine wpIn_seq (abN (ro:=none) (uZ (hT B) n1) k1 O R (abO e1) fun β2 o a2 u A s U=> ?_);refine wpIn_seq (wpIn_region ?_);have pH : ∀(fn:Go.Fn) (first cap:Array ae) (w:aq),(Instr.makeFunc fn first cap).run P w= .ok (.func fn first cap) w:=λ_ _ _ _=>rfl;have hds:d<a2.tmps.size:=cj hd s.1;simp[wpOpsIn,go_sem,Oper.wpIn,Oper.semAt,execOp,pH,hds];have Un:a2.defers= []:=U.trans S;have hx:=hK β2 o { tmps:=a2.tmps.setIfInBounds d (Value.func (Go.Fn.func g) #[] #[a2.tmps.getD x1 undef,a2.tmps.getD x2 undef,a2.tmps.getD x3 undef]),defers:= { target:=Target.fn (Go.Fn.func g) #[a2.tmps.getD x1 undef,a2.tmps.getD x2 undef,a2.tmps.getD x3 undef],args:= #[] }::a2.defers } (a2.tmps.getD x1 undef) (a2.tmps.getD x2 undef) (a2.tmps.getD x3 undef) u (F.trans A) (s.put (d:=some d) (λx hx=>by cases hx;exact hd) (.undef _)) (by rw[Un]) ⟨rfl,λi v hv=> ?_⟩;·simpa using hx
        match i,hv with
        | 0,hv=>cases hv;exact⟨_,rfl,s.2 x1⟩
        | 1,hv=>cases hv;exact⟨_,rfl,s.2 x2⟩
        | 2,hv=>cases hv;exact⟨_,rfl,s.2 x3⟩
        | n+3,hv=>cases hv
       have V : ∀(j l m:ae) (w:aq),(invoke (.fn (.func g) #[j,l,m]) #[]).run P w= .ok (.enter g [j,l,m].toArray) w:=λj l m w=>by
        simp only[invoke];rw[EG H5];simp
       rcases h with ⟨n,x,ud,q,e2,hx,vs,e3,hq⟩ | ⟨n,v,q,e2,J,hG,vs,e3,hq⟩
       ·refine⟨_,_,hq,λB=>⟨mi.call,fun β w C L M=>pre B _ _ β w C L M fun β2 o a2 j l m u A s U p5=> ?_⟩⟩;refine Hu (ro:=none) (B1:=o.heap.size) (D0:=a2.defers) (uZ (hT B) n) k3 β2 _ ud I q a2 o x _ u s (λb hb=>by cases hb) (DM.none rfl) (al _) e2 fun β3 w3 a3 O F R S=> ?_;obtain⟨ms,m1,m2,m3⟩:=S;have CJ:Ec iW 0 P fn a3.tmps (λe w'=>∃v' β',e= .returned v'/\VR β' (dV vs) v'/\aE P B β' q w'/\bB β w β' w') a3.defers .returning w3:=by
         rw[m1,U];refine Um Sm ms w3 O F (al _) m2 (λD W=>⟨(m3 D W).1,(m3 D W).2.1⟩) λw4 pr gq=> ?_;refine⟨Sm, .inr ⟨by simp[iW], .func g,#[j,l,m],g,_,rfl,V j l m w4,λ_ _=>trivial,?_⟩⟩;refine(hgR [j,l,m] w4 rfl).mono ?_;rintro e u' w' ⟨⟨y,rfl⟩,rfl,rfl⟩;obtain⟨v',r1,r2⟩:=Tg pr R tf e3;exact⟨v',r1,v',β3,rfl,r2,pr,A.trans gq⟩
        rcases hx with rfl | rfl
        ·exact CJ
        exact CJ
       refine⟨_,_,hq,λB=>⟨mi.call,fun β w C L M=>pre B _ _ β w C L M fun β2 o a2 j l m u A s U p5=> ?_⟩⟩;refine abH (ro:=none) (B1:=o.heap.size) (D0:=a2.defers) (hT B) (abJ (hT B) (hX B) n) k3 β2 _ I q v a2 o _ u s (λb hb=>by cases hb) (DM.none rfl) (al _) e2 fun β3 w3 a3 v3 O F R S q5=> ?_;obtain⟨ms,m1,m2,m3⟩:=S;show Ec iW 0 P fn a3.tmps _ a3.defers (.panicking [{ v:=v3,recovered:=false }]) w3;rw[m1,U];refine Um Sm ms w3 O F (al _) m2 (λD W=>⟨(m3 D W).1,(m3 D W).2.1⟩) λw4 pr gq=> ?_;refine⟨Sm, .inr ⟨by simp[iW], .func g,#[j,l,m],g,_,rfl,V j l m w4,λ_ _=>trivial,?_⟩⟩;refine(hgP B β3 w4 [aS x1,aS x2,aS x3] [j,l,m] v v3 q J pr ?_ R hG).mono ?_
       ·exact⟨p5.1,λi y hy=>by
         obtain⟨z,z1,z2⟩:=p5.2 i y hy;exact⟨z,z1,z2.mono F.ext⟩⟩
       rintro e u' w' ⟨y,β',rfl,rfl,Y,Z⟩;have hf5:FR β' 0 (E8 rB (bE aS (some d) undef)) a3:=ajI λt ht=>(q5 t ht).mono Z.ext;obtain⟨v',r1,r2⟩:=Tg Y hf5 tf e3;exact⟨v',r1,v',β',rfl,r2,Y,A.trans (gq.trans Z)⟩
end
section
open Go Go.RowKit
variable {P:aY} {B:Nat}
def O2:ae->ae->Bool
 | .bool a, .bool b=>a==b
 | .int k a, .int l b=>decide (k=l)&&decide (a=b)
 | .string a, .string b=>decide (a.data.toList=b.data.toList)
 | .pointer a, .pointer b=>decide (a=b)
 | .slice a n c, .slice b m d=>decide (a=b)&&(n==m&&c==d)
 | .nilFunc, .nilFunc=>true
 | .nilIface, .nilIface=>true
 | _,_=>false
theorem abP{a b:ae}(h:O2 a b=true):a=b:=by
 unfold O2 at h;split at h<;>simp_all;rename_i x y;obtain⟨⟨l⟩⟩:=x;obtain⟨⟨m⟩⟩:=y;simpa using h
def H6:List ae->List ae->Bool
 | [],[]=>true
 | a::xs,b::ys=>O2 a b&&H6 xs ys
 | _,_=>false
theorem O3 : ∀ {xs ys:List ae},H6 xs ys=true->xs=ys
 | [],[],_=>rfl
 | a::xs,b::ys,h=>by simp only[H6,fJ] at h;rw[abP h.1,O3 h.2]
 | [],_::_,h=>by cases h
 | _::_,[],h=>by cases h
def Uo:ae->ae->Bool
 | .agg xs, .agg ys=>H6 xs.toList ys.toList
 | .func (.func f) xs ys, .func (.func g) c vs=>decide (f=g)&&(H6 xs.toList c.toList&&H6 ys.toList vs.toList)
 | a,b=>O2 a b
theorem ajK{a b:ae}(h:Uo a b=true):a=b:=by
 unfold Uo at h;split at h;·have:=O3 h;congr 1;exact rO this
 ·simp only[fJ,decide_eq_true_eq] at h;obtain⟨rfl,h1,h2⟩:=h;rw[rO (O3 h1),rO (O3 h2)]
 exact abP h
def Up (fr:Fr)(G:CH)(it:Item):Bool:=
 match dU fr it.guard with
 | some false=>true
 | _=>match it.op,it.dst with
   | .l x,some d=>match aD G (aJ fr) x with
     | some v=>Uo v (fr d)
     | none=>false
   | _,_=>false
theorem ajL{fr:Fr}{G:CH}{it:Item}(h:Up fr G it=true):wu fr G it:=by
 unfold Up at h;split at h;·rename_i b;exact .inl b
 split at h
 ·rename_i x d h1 h2;split at h;·rename_i v h3;exact .inr ⟨x,d,h1,h2,by rw[h3,ajK h]⟩
  cases h
 cases h
def O4 (fr:Fr)(l:List CH):List (Item×Nat)->Bool
 | []=>true
 | p::r=>(match l[p.2]? with | some G=>Up fr G p.1 | none=>false)&&O4 fr l r
theorem abQ{fr:Fr}{l:List CH} : ∀ {c:List (Item×Nat)},O4 fr l c=true->∀p∈c,∃G,l[p.2]? = some G/\wu fr G p.1
 | [],_,p,hp=>by cases hp
 | q::r,h,p,hp=>by
   simp only[O4,fJ] at h;rcases List.mem_cons.1 hp with rfl | hp
   ·have h1:=h.1;split at h1;·rename_i G b;exact⟨G,b,ajL h1⟩
    cases h1
   exact abQ h.2 p hp
def O5 (h:Hd)(d:jB)(fr:Fr)(H:CH):Option (Fr×CH):=
 match cF h d.af fr H with
 | some (fr',H',l)=>if O4 fr' (H::l) d.nJ then some (fr',H') else none
 | none=>none
theorem ajM{h h':Hd}(c:yT h h'){d:jB}{fr:Fr}{H:CH}{r:Fr×CH}(b:O5 h d fr H=some r):tc h' d fr H=some r:=by
 unfold O5 at b;split at b
 ·rename_i fr' H' l hd;split at b;·rename_i hc;cases b;unfold tc;rw[Ok c hd];simp only;rw[iP (abQ hc)]
  cases b
 cases b
def mA (h:Hd)(n:Nat):bH->Fr->CH->Hp
 | .skip,fr,H=>some (.normal,fr,H)
 | .gW af,fr,H=>(cT h af fr H).map λ(f,K)=>(.normal,f,K)
 | .lB d,fr,H=>(O5 h d fr H).map λ(f,K)=>(.normal,f,K)
 | .seq a b,fr,H=>match mA h n a fr H with
   | some (.normal,fr',H')=>mA h n b fr' H'
   | r=>r
 | .cond c a b,fr,H=>match aJ fr c with
   | .bool true=>mA h n a fr H
   | .bool false=>mA h n b fr H
   | _=>none
 | .block id c,fr,H=>match mA h n c fr H with
   | some (.exit i,fr',H')=>if i=id then some (.normal,fr',H') else some (.exit i,fr',H')
   | r=>r
 | .loop c,fr,H=>pY n (mA h n c) fr H
 | .exit id,fr,H=>some (.exit id,fr,H)
 | .ret,fr,H=>some (.ret,fr,H)
 | .bad,_,_=>none
 | .sa g key,fr,H=>match aJ fr g with
   | .func (.func f) _ dh=>match h.call f (.func (.yield H.nx) #[] #[]::dh.toList) (H.new (.loop .ready none fr key)) with
     | some (_,e)=>match e.ob H.nx with
       | .loop st gm fr' j=>if st= .busy then none else some (Od gm,fr,e.set H.nx (.loop .exhausted gm fr' j))
       | _=>none
     | none=>none
   | _=>none
theorem Uq{h h':Hd}(l:yT h h'){n:Nat} : ∀ {c:bH} {fr:Fr} {H:CH} {r:bq×Fr×CH},mA h n c fr H=some r->br h' n c fr H=some r:=by
 intro c;induction c with
 | bad=>intro fr H r j;simp[mA] at j
 | skip=>intro fr H r j;exact j
 | gW af=>
   intro fr H r j;simp only[mA,br] at j⊢
   cases hi:cT h af fr H with
   | none=>rw[hi] at j;cases j
   | some q=>rw[hi] at j;rw[EM l hi];exact j
 | lB d=>
   intro fr H r j;simp only[mA,br] at j⊢
   cases hi:O5 h d fr H with
   | none=>rw[hi] at j;cases j
   | some q=>rw[hi] at j;rw[ajM l hi];exact j
 | seq a b m o=>
   intro fr H r j;simp only[mA,br] at j⊢
   cases ha:mA h n a fr H with
   | none=>rw[ha] at j;cases j
   | some q=>
     obtain⟨x,aj,H1⟩:=q;rw[ha] at j;rw[m ha];cases x with
     | normal=>exact o j
     | exit i=>exact j
     | ret=>exact j
 | cond c a b m o=>
   intro fr H r j;simp only[mA,br] at j⊢;split at j;·rename_i e;rw[e];exact m j
   ·rename_i e;rw[e];exact o j
   cases j
 | block id c p=>
   intro fr H r j;simp only[mA,br] at j⊢
   cases ha:mA h n c fr H with
   | none=>rw[ha] at j;cases j
   | some q=>rw[ha] at j;rw[p ha];exact j
 | loop c p=>
   intro fr H r j;simp only[mA,br] at j⊢;exact Ol (al n) (λ_ _ _ s=>p s) j
 | exit id=>intro fr H r j;exact j
 | ret=>intro fr H r j;exact j
 | sa g key=>
   intro fr H r j;simp only[mA,br] at j⊢;split at j
   ·rename_i f t dh hg;cases hc:h.call f (Value.func (.yield H.nx) #[] #[]::dh.toList) (H.new (.loop .ready none fr key)) with
    | none=>rw[hc] at j;cases j
    | some q=>rw[hc] at j;rw[hg];simp only;rw[l.call _ _ _ _ hc];exact j
   cases j
def wD (L:List aU)(xt:aU->List ae->Option ae)(fn:aU->Option xx)(lp:Nat×Nat->Option (List Nat×bH×bH)):Nat->Hd
 | 0=>⟨λ_ _ _=>none,λ_ _ _=>none⟩
 | n+1=>⟨λf args H=>if L.elem f then (xt f args).map λv=>(v,H) else match fn f with
   | some rf=>match mA (wD L xt fn lp n) n rf.body (λt=>args.getD t undef) H with
     | some (.normal,fr',H')=>(bT fr' H' rf.res).map λvs=>(dV vs,H')
     | some (.ret,fr',H')=>(bT fr' H' rf.res).map λvs=>(dV vs,H')
     | _=>none
   | none=>none,λl args H=>match H.ob l with
   | .loop .ready _ fr key=>match lp key with
     | some (ps,kY,body)=>if args.length=ps.length then match mA (wD L xt fn lp n) n kY (CG fr ps args) H with
       | some (.normal,e,b)=>match b.ob l with
         | .loop .ready gm g h=>match mA (wD L xt fn lp n) n body e (b.set l (.loop .busy gm g h)) with
           | some (x,_,c)=>match c.ob l with
             | .loop _ _ i j=>some (.bool (ue x).isNone,c.set l (.loop (if (ue x).isNone then .ready else .done) (ue x) i j))
             | _=>none
           | none=>none
         | _=>none
       | _=>none
       else none
     | none=>none
   | _=>none⟩
theorem abR{T:bZ}{L:List aU}{xt:aU->List ae->Option ae}(he : ∀f,T.ext f=L.elem f)(hx : ∀f args H,T.xt.call f args H=(xt f args).map λv=>(v,H)) : ∀n,yT (wD L xt T.fn T.loop n) (cU T n)
 | 0=>⟨λf a H r b=>by simp[wD] at b,λf a H r b=>by simp[wD] at b⟩
 | n+1=>by
   have e:=abR he hx n;refine⟨λf a H r b=> ?_,λl a H r b=> ?_⟩
   ·simp only[wD] at b;simp only[cU,he];split at b;·rename_i hl;rw[iP hl,hx];exact b
    rename_i hl;rw[iN hl];split at b
    ·rename_i rf h;cases hb:mA (wD L xt T.fn T.loop n) n rf.body (λt=>a.getD t undef) H with
     | none=>rw[hb] at b;cases b
     | some q=>rw[hb] at b;simp only[h];rw[Uq e hb];exact b
    cases b
   simp only[wD] at b;simp only[cU];split at b
   ·rename_i gm fr key ho;simp only[ho];split at b
    ·rename_i ps kY body hl;split at b
     ·rename_i c;simp only[hl,iP c];cases hb:mA (wD L xt T.fn T.loop n) n kY (CG fr ps a) H with
      | none=>rw[hb] at b;cases b
      | some q=>
        obtain⟨x,j,m⟩:=q;rw[hb] at b;rw[Uq e hb];cases x with
        | normal=>
          simp only at b⊢;split at b
          ·rename_i o p s u;cases g:mA (wD L xt T.fn T.loop n) n body j (m.set l (.loop .busy o p s)) with
           | none=>rw[g] at b;cases b
           | some y=>rw[g] at b;rw[u];simp only;rw[Uq e g];exact b
          cases b
        | ret=>cases b
        | exit i=>cases b
     cases b
    cases b
   cases b
def O6:CH:=⟨0,λ_=> .oy⟩
theorem ajN(w:aq):aE P w.heap.size (λ_=> .oy) O6 w:=
 ⟨λ_=>trivial,λ_ _=>rfl,λ_ _ _ h=>h.elim,al _,λ_ _ _ _ e=>(by cases e)⟩
def KV(P:aY)(f:aU)(args:List ae)(v:ae):Prop:=
 (qJ P f=true/\J1 args=true/\wq v=true/\∀w,CallsIn iW 0 P f args.toArray w λe w'=>e= .returned v/\w'.os=w.os/\w'.tape=w.tape/\w'.output=w.output/\w.heap.size<=w'.heap.size/\∀b,b<w.heap.size->w'.heap[b]? = w.heap[b]?)\/N9 P f args v
theorem ajO{T:bZ}(hT : ∀B,uf P B T){f:aU}{args:List ae}{v:ae}(hc:qJ P f=true)(ha:J1 args=true)(hv:wq v=true)(h:aR T f args O6 λu _=>u=v):KV P f args v:=by
 refine .inl ⟨hc,ha,hv,λw=> ?_⟩;obtain⟨n,u,H',h1,rfl⟩:=h;refine callsIn_wide.2 ((J9 (hT w.heap.size) h1 (ajN w) (air ha _) hc).mono λe w' ⟨v',β',he,g,hs,c⟩=> ?_);rw[N8 hv g] at he;exact⟨he,c.os,c.tape,c.output,c.size,λb hb=>(c.cP b hb (λ_ h=>h)).1⟩
noncomputable def ba(P:aY)(L:List aU)(G:aU->List ae->Option ae):bZ:=
 ⟨nL P (λN ops=>kf P N ops),Ke P (λN ops=>kf P N ops),λf=>L.elem f,⟨λf args H=>(G f args).map λv=>(v,H),λ_ _ _=>none⟩⟩
theorem KW{L:List aU}{G:aU->List ae->Option ae}(g : ∀f args v,G f args=some v->KV P f args v):uf P B (ba P L G):=by
 refine⟨λf rf h=>Z5 (λN ops d h=>OG h) h,λkey ps kY body h=>aiJ (λN ops d h=>OG h) h,⟨λf args H v H' h=> ?_,λl args H v H' h=>(by cases h)⟩⟩;have h':(G f args).map (λv=>(v,H))=some (v,H'):=h;rw[nB] at h';obtain⟨u,hu,he⟩:=h';cases he;rcases g _ _ _ hu with ⟨hc,ha,hv,hw⟩ | hx
 case inr=>exact .inr ⟨hx,rfl⟩
 refine .inl ⟨hc,fun β w j c i=> ?_⟩;rw[S' ha i];refine(hw w).mono λe w' ⟨he,h1,h2,h3,h4,h5⟩=>⟨v,β,he,Hn hv β,?_,?_⟩;·exact⟨λl=>(c.iY l).mono (eN.refl β) λb hb=>h5 b (Co c hb),c.nx,c.inj,bW c.base h4,c.ro⟩
 exact⟨h1,h2,h3,h4,λb hb ho=>⟨h5 b hb,ho⟩,eN.refl β⟩
theorem ajP{L:List aU}{G:aU->List ae->Option ae}{f:aU}{args:List ae}{v:ae}(c:L.elem f=true)(hv:G f args=some v){H:CH}{Q:ae->CH->Prop}:aR (ba P L G) f args H Q↔Q v H:=by
 have b : ∀n,sd (ba P L G) (n+1) f args H=some (v,H):=λn=>by
  simp only[sd,cU];have:(ba P L G).ext f=true:=c;rw[iP this];show(G f args).map (λv=>(v,H))=some (v,H);rw[hv];rfl
 constructor
 ·rintro⟨n,u,H',h1,h2⟩;cases n with
  | zero=>simp[sd,cU] at h1
  | succ n=>rw[b n] at h1;cases h1;exact h2
 exactλh=>⟨1,v,H,b 0,h⟩
theorem js{L:List aU}{G:aU->List ae->Option ae}{f:Nat}(he:L.elem f=false)(h:(nL P (λN ops=>kf P N ops) f).isSome=true){args:List ae}{H:CH}{Q:ae->CH->Prop}(k:cM (ba P L G) (rF P f).body (λt=>args.getD t undef) H (A8 (rF P f).res Q)):aR (ba P L G) f args H Q:=by
 refine T3 he ?_ k;unfold rF;show nL P (λN ops=>kf P N ops) f=some ((nL P (λN ops=>kf P N ops) f).getD ⟨0,[], .skip⟩);cases b:nL P (λN ops=>kf P N ops) f with
 | none=>rw[b] at h;cases h
 | some r=>rfl
noncomputable def Ur(P:aY)(L:List aU)(G:aU->List ae->Option ae)(n:Nat)(f:aU)(args:List ae):Option ae:=
 ((wD L G (nL P (λN ops=>kf P N ops)) (Ke P (λN ops=>kf P N ops)) n).call f args O6).map (·.1)
theorem ajQ{L:List aU}{G:aU->List ae->Option ae}{n:Nat}{f:aU}{args:List ae}{v:ae}(h:Ur P L G n f args=some v):aR (ba P L G) f args O6 λu _=>u=v:=by
 unfold Ur at h;rw[nB] at h;obtain⟨q,h1,rfl⟩:=h;exact⟨n,q.1,q.2,(abR (T:=ba P L G) (λ_=>rfl) (λ_ _ _=>rfl) n).call _ _ _ _ h1,rfl⟩
end
section
open Go Go.RowKit
variable {P:aY}
abbrev Spec:=aU->List ae->CH->ae->CH->Prop
open Classical in
noncomputable def tell(P:aY)(S:Spec)(f:aU)(args:List ae)(H:CH):Option (ae×CH):=
 if h : ∃r:ae×CH,S f args H r.1 r.2/\∀B,CY P B f args H r.1 r.2 then some h.choose else none
noncomputable def wF(P:aY)(L:List aU)(G:aU->List ae->Option ae)(b:List aU)(S:Spec):bZ:=
 ⟨nL P (λN ops=>kf P N ops),Ke P (λN ops=>kf P N ops),λf=>b.elem f||L.elem f,⟨λf args H=>if b.elem f then tell P S f args H else (G f args).map λv=>(v,H),λ_ _ _=>none⟩⟩
theorem Us{B:Nat}{L:List aU}{G:aU->List ae->Option ae}{c:List aU}{S:Spec}(b : ∀f args v,G f args=some v->KV P f args v):uf P B (wF P L G c S):=by
 refine⟨(KW (B:=B) (L:=L) b).fn,(KW (B:=B) (L:=L) b).loop,⟨λf args H v H' h=> ?_,λl args H v H' h=>(by cases h)⟩⟩;have h':(if c.elem f then tell P S f args H else (G f args).map λv=>(v,H))=some (v,H'):=h;split at h'
 ·unfold tell at h';split at h';·rename_i hx;have hc:=hx.choose_spec.2 B;rw[Option.some.inj h'] at hc;exact .inl ⟨hc.1,hc.2⟩
  cases h'
 exact(KW (B:=B) (L:=L) b).ext.1 f args H v H' h'
theorem H7{L:List aU}{G:aU->List ae->Option ae}{b:List aU}{S:Spec}{f:aU}(c:b.elem f=true){args:List ae}{H:CH}{Q:ae->CH->Prop}(h : ∃v H',S f args H v H'/\∀B,CY P B f args H v H')(e : ∀v H',S f args H v H'->Q v H'):aR (wF P L G b S) f args H Q:=by
 obtain⟨v,H',h1,h2⟩:=h;have hx : ∃r:ae×CH,S f args H r.1 r.2/\∀B,CY P B f args H r.1 r.2:=⟨(v,H'),h1,h2⟩;refine⟨1,hx.choose.1,hx.choose.2,?_,e _ _ hx.choose_spec.1⟩;simp only[sd,cU];have he:(wF P L G b S).ext f=true:=by show(b.elem f||L.elem f)=true;rw[c];rfl
 rw[iP he];show(if b.elem f then tell P S f args H else (G f args).map λv=>(v,H))=_;rw[iP c];unfold tell;rw[dif_pos hx]
theorem ajR{L:List aU}{G:aU->List ae->Option ae}{b:List aU}{S:Spec}{f:aU}{args:List ae}{v:ae}(hs:b.elem f=false)(e:L.elem f=true)(hv:G f args=some v){H:CH}{Q:ae->CH->Prop}:aR (wF P L G b S) f args H Q↔Q v H:=by
 have c : ∀n,sd (wF P L G b S) (n+1) f args H=some (v,H):=λn=>by
  simp only[sd,cU];have he:(wF P L G b S).ext f=true:=by show(b.elem f||L.elem f)=true;rw[e,hs];rfl
  rw[iP he];show(if b.elem f then tell P S f args H else (G f args).map λv=>(v,H))=_;rw[iN (by rw[hs];decide),hv];rfl
 constructor
 ·rintro⟨n,u,H',h1,h2⟩;cases n with
  | zero=>simp[sd,cU] at h1
  | succ n=>rw[c n] at h1;cases h1;exact h2
 exactλh=>⟨1,v,H,c 0,h⟩
theorem ajS{L:List aU}{G:aU->List ae->Option ae}{b:List aU}{S:Spec}{f:Nat}(h:(nL P (λN ops=>kf P N ops) f).isSome=true):(wF P L G b S).fn f=some (rF P f):=by
 unfold rF;show nL P (λN ops=>kf P N ops) f=some ((nL P (λN ops=>kf P N ops) f).getD ⟨0,[], .skip⟩);cases c:nL P (λN ops=>kf P N ops) f with
 | none=>rw[c] at h;cases h
 | some r=>rfl
theorem du{L:List aU}{G:aU->List ae->Option ae}{b:List aU}{S:Spec}{f:Nat}(he:(b.elem f||L.elem f)=false)(h:(nL P (λN ops=>kf P N ops) f).isSome=true){args:List ae}{H:CH}{Q:ae->CH->Prop}(k:cM (wF P L G b S) (rF P f).body (λt=>args.getD t undef) H (A8 (rF P f).res Q)):aR (wF P L G b S) f args H Q:=
 T3 he (ajS h) k
theorem ajT{T:bZ}(hT : ∀B,uf P B T){f:aU}{args:List ae}{H:CH}{Q:ae->CH->Prop}(hc:qJ P f=true)(h:aR T f args H Q) : ∃v H',Q v H'/\∀B,CY P B f args H v H':=by
 obtain⟨n,v,H',h1,h2⟩:=h;exact⟨v,H',h2,λB=>⟨hc,fun β w c b ha=>callsIn_wide.2 (J9 (hT B) h1 b ha hc)⟩⟩
end
section
open Go Go.Shelf
def ajU:Go.Shelf.Ren:=⟨fun | 171=>26 | 243=>47 | 246=>91 | 283=>124 | 284=>125 | 285=>126 | 286=>127 | 129=>156 | 317=>155 | 318=>157 | 319=>158 | 320=>159 | 337=>176 | 338=>177 | n=>n,fun | 3=>3 | 9=>9 | 2=>2 | 4=>4 | 171=>131 | 0=>0 | 53=>132 | 37=>22 | 5=>5 | 173=>135 | 212=>143 | 51=>144 | 20=>20 | 213=>145 | 46=>146 | 232=>154 | 233=>155 | n=>n,fun | 17=>0 | 18=>1 | 19=>2 | n=>n⟩
theorem ajV:Go.Proofs.LaysM.n171 Tryz.prog ajU:= {
 mixed:=by kernel_rfl
 f129:=Tryz.func156.trans (congrArg some Kr)
 f171:=Tryz.func26.trans (congrArg some Kr)
 f243:=Tryz.func47.trans (congrArg some Kr)
 f246:=Tryz.func91.trans (congrArg some Kr)
 f283:=Tryz.func124.trans (congrArg some Kr)
 f284:=Tryz.func125.trans (congrArg some Kr)
 f285:=Tryz.func126.trans (congrArg some Kr)
 f286:=Tryz.func127.trans (congrArg some Kr)
 f317:=Tryz.func155.trans (congrArg some Kr)
 f318:=Tryz.func157.trans (congrArg some Kr)
 f319:=Tryz.func158.trans (congrArg some Kr)
 f320:=Tryz.func159.trans (congrArg some Kr)
 f337:=Tryz.func176.trans (congrArg some Kr)
 f338:=Tryz.func177.trans (congrArg some Kr)
 t0:=Tryz.underlying0
 a0:=Tryz.isAgg0
 z0:=Tryz.sizeOf0
 v0:=Tryz.zeroValue0
 t2:=Tryz.underlying2
 a2:=Tryz.isAgg2
 z2:=Tryz.sizeOf2
 v2:=Tryz.zeroValue2
 t3:=Tryz.underlying3
 a3:=Tryz.isAgg3
 z3:=Tryz.sizeOf3
 v3:=Tryz.zeroValue3
 t4:=Tryz.underlying4
 a4:=Tryz.isAgg4
 z4:=Tryz.sizeOf4
 v4:=Tryz.zeroValue4
 t5:=Tryz.underlying5
 a5:=Tryz.isAgg5
 z5:=Tryz.sizeOf5
 v5:=Tryz.zeroValue5
 t9:=Tryz.underlying9
 a9:=Tryz.isAgg9
 z9:=Tryz.sizeOf9
 v9:=Tryz.zeroValue9
 t20:=Tryz.underlying20
 a20:=Tryz.isAgg20
 z20:=Tryz.sizeOf20
 v20:=Tryz.zeroValue20
 t37:=Tryz.underlying22
 a37:=Tryz.isAgg22
 z37:=Tryz.sizeOf22
 v37:=Tryz.zeroValue22
 t46:=Tryz.underlying146
 a46:=Tryz.isAgg146
 z46:=Tryz.sizeOf146
 v46:=Tryz.zeroValue146
 t51:=Tryz.underlying144
 a51:=Tryz.isAgg144
 z51:=Tryz.sizeOf144
 v51:=Tryz.zeroValue144
 t53:=Tryz.underlying132
 a53:=Tryz.isAgg132
 z53:=Tryz.sizeOf132
 v53:=Tryz.zeroValue132
 t171:=Tryz.underlying131
 a171:=Tryz.isAgg131
 z171:=Tryz.sizeOf131
 v171:=Tryz.zeroValue131
 t173:=Tryz.underlying135
 a173:=Tryz.isAgg135
 z173:=Tryz.sizeOf135
 v173:=Tryz.zeroValue135
 t212:=Tryz.underlying143
 a212:=Tryz.isAgg143
 z212:=Tryz.sizeOf143
 v212:=Tryz.zeroValue143
 t213:=Tryz.underlying145
 a213:=Tryz.isAgg145
 z213:=Tryz.sizeOf145
 t232:=Tryz.underlying154
 a232:=Tryz.isAgg154
 z232:=Tryz.sizeOf154
 v232:=Tryz.zeroValue154
 t233:=Tryz.underlying155
 a233:=Tryz.isAgg155
 z233:=Tryz.sizeOf155
 v233:=Tryz.zeroValue155
 g17:=by kernel_rfl
 g18:=by kernel_rfl
 g19:=by kernel_rfl
 i0:=by kernel_rfl
 i2:=by kernel_rfl
 i3:=by kernel_rfl
 i4:=by kernel_rfl
 i5:=by kernel_rfl
 i9:=by kernel_rfl
 i20:=by kernel_rfl
 i37:=by kernel_rfl
 i46:=by kernel_rfl
 i51:=by kernel_rfl
 i53:=by kernel_rfl
 i171:=by kernel_rfl
 i173:=by kernel_rfl
 i212:=by kernel_rfl
 i232:=by kernel_rfl
 i233:=by kernel_rfl
 m17:=by kernel_rfl
 m18:=by kernel_rfl
 m19:=by kernel_rfl }
open Go Go.RowKit Go.Sort Go.Lib
def Bf:List ae:=Lib.pow10Tab.map λz=>yv .u64 z
def wG(H:CH):Prop:=0<H.nx/\∃e,H.ob 0= .cells Bf e .ro
theorem wG.hx{H K:CH}(h:wG H)(hx:ag H K):wG K:=⟨cj h.1 hx.nx,let ⟨e,he⟩:=h.2;⟨e,(hx.ob 0 h.1).trans he⟩⟩
theorem ajW{B:Nat}{β:Nat->aB}{H:CH}{w:aq}(f:aE Tryz.prog B β H w)(h:wG H):Lib.TabIs Tryz.prog w "internal/strconv.uint64pow10" .u64 Lib.pow10Tab:=by
 obtain⟨_,e,he⟩:=h;obtain⟨b,sz,n,l,cs',e',fr,h1,h2,h3,h4,h5,q,m,s⟩:=f.cells he;have hb:b=(0,0):=f.ro _ _ _ _ l;subst hb;have hn:Bf.length=n:=(m rfl).2;unfold Lib.TabIs World.var?;rw[show Tryz.prog.globalNamed "internal/strconv.uint64pow10" = some 0 by kernel_rfl];simp only[Option.bind_some,h1];congr 1
 refine Array.ext (by rw[h2,<-hn];simp[Bf]) λi g t=> ?_;have hi:i<Bf.length:=by rw[hn,<-h2];exact g
 obtain⟨v',o,j⟩:=h4 i Bf[i] (bM hi);have c:cs'[i]? = some v':=o;rw[Array.getElem?_eq_getElem g] at c;have p:Bf[i]= .int .u64 (Lib.pow10Tab[i]'(by simpa[Bf] using hi)):=by simp[Bf]
 rw[p] at j;cases j;have:=Option.some.inj c;rw[this];simp[Bf]
theorem ajX(w:aq)(k:Nat):(w.drewN k).heap=w.heap/\(w.drewN k).os=w.os/\(w.drewN k).tape=w.tape/\(w.drewN k).output=w.output:=⟨rfl,rfl,rfl,rfl⟩
theorem ajY{B:Nat}{H:CH}(h:wG H)(n:Int)(g : -9223372036854775808<=n)(h1:n<=9223372036854775807):CY Tryz.prog B 26 [.int .i64 n] H (.string ⟨(Lib.itoa n).toArray⟩) H:=by
 refine⟨Kr,fun β w o c ha=> ?_⟩;obtain rfl:=S' (args:= [.int .i64 n]) rfl ha;refine callsIn_wide.2 ((Any.strconv_Itoa ajV n g h1 w (ajW c h)).mono λe w' ⟨he,k,os,hw⟩=> ?_);subst hw;obtain⟨f,i,j,m⟩:=ajX w k;have hs:(w.drewN k).heap.size=w.heap.size:=by rw[f]
 have hh : ∀b,b<w.heap.size->(grow (w.drewN k) os).heap[b]? = w.heap[b]? :=λb hb=>by
  show((w.drewN k).heap++os)[b]? = _;rw[RP Om,f]
 have hz:w.heap.size<=(grow (w.drewN k) os).heap.size:=by
  show _<=((w.drewN k).heap++os).size;rw[Array.size_append];omega
 exact⟨_,β,he, .string _,⟨λl=>(c.iY l).mono (eN.refl β) λb hb=>hh b (Co c hb),c.nx,c.inj,bW c.base hz,c.ro⟩,⟨i,j,m,hz,λb hb ho=>⟨hh b hb,ho⟩,eN.refl β⟩⟩
end
section
open Go Go.RowKit Go.Maps
theorem H8:Keyed Tryz.prog 9:=string_keyed Tryz.underlying9
theorem abS{key:ae}{b:Lit}(h:Go.keyOf Tryz.prog 9 key=some b) : ∃x:ByteArray,key= .string x:=by
 cases key<;>simp[Go.keyOf,mapKey,Tryz.underlying9] at h;exact⟨_,rfl⟩
theorem ajZ{key:ae}{b:Lit}(h:Go.keyOf Tryz.prog 9 key=some b):WideAt.IsKeyLit b:=by
 cases key<;>simp[Go.keyOf,mapKey,Tryz.underlying9] at h;obtain⟨_,rfl⟩:=h;trivial
noncomputable abbrev eI(H:Type):ae->Option (pR H×List MemPlace):=plainElem Tryz.prog 3
def Bg{H:Type}(D:pR H):List ByteArray->pR H
 | []=>D
 | x::xs=>Bg (D.del (.string x.data.toList)) xs
theorem abT{H:Type}(x:ByteArray) : ∀(l:List ByteArray) (D:pR H),Bg D (l++ [x])=(Bg D l).del (.string x.data.toList)
 | [],_=>rfl
 | y::l,D=>abT x l _
theorem aj0{H:Type}{D:pR H}{l:List ByteArray}{k:Nat}(h:k<l.length):Bg D (l.take (k+1))=(Bg D (l.take k)).del (.string l[k].data.toList):=by
 rw[List.take_add_one,bM h];exact abT _ _ _
theorem aj1{k m:Nat}(h:k<m)(b:m<=9223372036854775807):wrap64 ((k:Int)+1)=((k+1:Nat):Int):=by
 unfold wrap64;omega
set_option maxRecDepth 100000 in
theorem aj2{H:Type}(b n:Nat)(D0:pR H)(w:aq)(C:w.ownsMap Tryz.prog 9 (eI H) b n D0)(ZG:Maps.size D0<=maxLen)(pa:Option cm)(m Z:Nat)(xs:List ByteArray)(hm:xs.length=m)(nU:m<=maxLen)
 (hp : ∀i (h:i<xs.length),∃(p o:Nat) (O Q R:Int) (S:Option cm) (n4 D:Nat),pa=some ⟨p,o,none⟩/\p<w.heap.size/\w.cell? ⟨p,o+i*5,none⟩=some (.int .i64 O)/\w.cell? ⟨p,o+i*5+1,none⟩=some (.int .i64 Q)/\w.cell? ⟨p,o+i*5+2,none⟩=some (.string xs[i])/\w.cell? ⟨p,o+i*5+3,none⟩=some (.int .i64 R)/\w.cell? ⟨p,o+i*5+4,none⟩=some (.slice S n4 D)/\xs[i].size<=maxLen) :
 Calls Tryz.prog 27 #[.map (some b), .slice pa m Z] w λe w'=>e= .returned (.map (some w.heap.size))/\w'.ownsMap Tryz.prog 9 (eI H) w.heap.size (Maps.size D0) (Bg D0 xs)/\Below w.heap.size w w':=by
 have pm:= @run_makeMap Tryz.prog;have dN:=C.lt;have e1:(w.alloc (.map #[] 0)).heap.size=w.heap.size+1:=by simp
 go_enter Tryz.func27,Tryz.ntmps27
 go_wp2_with (first
  | (at_range;refine wpList_range_own _ rfl _ 56 rfl 9 3 H8 Tryz.underlying56 _ b n _ rfl (C.alloc _) ?_;intro w0 g U oS)
  | go_in)
 go_frame
 rw[e1] at g oS⊢
 go_loopw [13] (λ_ wr=>∃(left:Lit->Bool) (lT:Nat) (l:pR H),wr.ranges Tryz.prog 9 (eI H) b (w.heap.size+1) n D0 left lT/\lT<=Maps.size D0/\
  wr.ownsMap Tryz.prog 9 (eI H) w.heap.size (Maps.size D0-lT) l/\Maps.Agree l D0 left/\Below w.heap.size w wr)
  (λ_ wr=>wr.rangeLeft b (w.heap.size+1))
 case atStart=>
  exact⟨_,_, .map [],g,al _,((World.ownsMap_made _ _ _ _).kept U Sm).mono (cx _),agree_start D0,((Below.refl _ _).alloc (al _) _).grown U Sm (λj f=>by cases f)⟩
 case round=>
  obtain⟨left,lT,l,q,nI,z,hA,A⟩:=hrel
  go_wp2_with (first
   | (at_next;refine wpList_next_ranges _ rfl _ rfl 9 H8 (eI H) Value.string (yv .i64) (λ_ _ h=>abS h) (λv y hv=>by obtain⟨c,rfl,_⟩:=plainElem_int_inv Tryz.underlying3 hv;exact⟨c,rfl⟩) b (w.heap.size+1) n _ _ _ rfl q ?_ ?_)
   | go_in)
  ·
   intro E uY
   go_wp2
   subst E;have e:=agree_end hA uY (z.canon H8) (C.canon H8);subst e
   go_loopw [23] (λi F=>∃k:Nat,k<=m/\i= .int .i64 k/\F.ownsMap Tryz.prog 9 (eI H) w.heap.size (Maps.size l) (Bg l (xs.take k))/\Below w.heap.size w F) (λi _=>m-(intOf i).toNat)
   case atStart=>exact⟨0,cx _,rfl,by simpa[Bg] using z,A⟩
   case round=>
    obtain⟨k,hk,rfl,s,t⟩:=hrel;by_cases G:k<m
    ·obtain⟨p,o,O,Q,R,S,n4,q4,rfl,dK,c0,c1,c2,c3,D,eM⟩:=hp k Om;have hb:=t.block p dK;have d0:=(R8 (a:=⟨p,o+k*5,none⟩) hb).trans c0;have d1:=(R8 (a:=⟨p,o+k*5+1,none⟩) hb).trans c1;have d2:=(R8 (a:=⟨p,o+k*5+2,none⟩) hb).trans c2;have d3:=(R8 (a:=⟨p,o+k*5+3,none⟩) hb).trans c3;have d4:=(R8 (a:=⟨p,o+k*5+4,none⟩) hb).trans D
     go_wp2_with (first
      | (at_delete;refine wpList_delete_own _ rfl _ _ 56 9 rfl 3 H8 Tryz.underlying56 _ w.heap.size _ _ rfl (s.alloc _) _ _ rfl (WideMaps.keyOf_string_mk Tryz.underlying9 eM) ?_;intro w3 I J;go_frame)
      | go_in)
     rw[aj1 G nU];refine⟨⟨k+1,Om,rfl,?_,?_⟩,?_⟩;·rw[aj0 Om];exact I
     ·exact(t.alloc t.size _).grown J.grown (by have:=t.size;simp;omega) (λj f=>by cases f;exact al _)
     simp only[intOf];omega
    have:k=m:=by omega
    subst this
    go_wp2
    go_ret
    rw[qD Om] at s;exact⟨rfl,s,t⟩
  
  intro x c kl d ps w1 L V Zw hv fY M G W fG J7;have N:=z.kept W Sm
  go_wp2_with (first
   | (at_mapUpdate;refine wpList_mapUpdate_own _ rfl _ _ _ 56 rfl 9 3 H8 Tryz.underlying56 _ w.heap.size _ _ rfl N Om _ _ _ rfl rfl V d ps hv ?_;intro F s Y;go_frame)
   | go_in)
  have u:=M.kept Y (λe=>by have:=Option.some.inj e;omega) (λe=>by have:=Option.some.inj e;omega)
  go_roundw
  case rel=>
   exact⟨_,L,_,u,Om,s.mono Om,agree_step hA z.isMap (ajZ V) fY,
    (A.grown W A.size (λj f=>by cases f;exact mQ _)).grown Y (by have:=A.size;omega) (λj f=>by cases f;exact al _)⟩
  case measure=>rw[u.left_eq,q.left_eq];exact G
end
section
open Go Go.RowKit Go.Maps Go.WideElems
def oT (H:CH)(l:Nat)(f:ByteArray->Option Int)(k:Nat):Prop:=H.ob l= .fm f k\/(H.ob l= .map #[] 0/\f=(λ_=>none)/\k=0)
theorem oT.rel{B:Nat}{β:Nat->aB}{H:CH}{w:aq}(c:aE Tryz.prog B β H w){l k:Nat}{f:ByteArray->Option Int}(h:oT H l f k) : ∃b,β l= .obj b/\B<=b/\Cm w b f k:=by
 rcases h with h | ⟨h,rfl,rfl⟩
 ·exact c.S4 h
 obtain⟨b,h1,h2,g,h3,h4,_⟩:=c.Hi h;have:g= #[]:=Array.eq_empty_of_size_eq_zero h4;subst this;exact⟨b,h1,h2,#[],0,h3,Sm,Sm,Sm,λs n e=>(by cases e),al _,cx _,Sm,Sm⟩
abbrev DU:=pR Unit
theorem aj8{w:aq}{b k:Nat}{f:ByteArray->Option Int}(h:Cm w b f k) : ∃l:List (Lit×DU),w.ownsMap Tryz.prog 9 (eI Unit) b k (.map l)/\l.length<=k/\∀p,p∈l↔∃s n,p=(.string s.data.toList, .lit (.int .i64 n))/\f s=some n:=by
 obtain⟨es,clock,h1,h2,h3,h4,h5,m,t,u,v⟩:=h;have o : ∀e∈es.toList,∀s n,e.key= .string s->e.val= .int .i64 n->s.size<=maxLen->(Lit.int .i64 n).wf=true->WideElems.rd (H:=Unit) Tryz.prog 9 (eI Unit) e=some (.string s.data.toList, .lit (.int .i64 n)):=λe he s n c g i j=>by
  have hk:Go.keyOf Tryz.prog 9 e.key=some (.string s.data.toList):=by rw[c];exact WideMaps.keyOf_string_mk Tryz.underlying9 i
  have hv:eI Unit e.val=some (.lit (.int .i64 n),[]):=by rw[g];exact plainElem_int Tryz.underlying3 j
  obtain⟨key,val,born⟩:=e;exact WideElems.rd_mk hk hv
 have x:Fit Tryz.prog 9 (eI Unit) es clock:=by
  refine⟨bW m t,(MapKept.stamped_iff _ _).2 ⟨u,?_,h3⟩,λe he=> ?_⟩;·unfold List.Nodup;rw[List.pairwise_map];exact v
  obtain⟨s,n,c,g,i,j⟩:=h2 e he;exact⟨_,o e he s n c g i j⟩
 refine⟨_,⟨es,clock,h1,x,m,rfl⟩,?_,λp=> ?_⟩;·rw[(WideShapes.sorted_perm _).length_eq,fh];simpa using m
 rw[mem_sorted,List.mem_map];constructor;·rintro⟨e,he,rfl⟩;obtain⟨s,n,c,g,i,j⟩:=h2 e he;exact⟨s,n,WideElems.rg_of (o e he s n c g i j),h4 e he s n c g⟩
 rintro⟨s,n,rfl,y⟩;obtain⟨e,he,c,g⟩:=h5 s n y;obtain⟨C,n',q,r2,z,A⟩:=h2 e he;rw[c] at q;cases q;rw[g] at r2;cases r2;exact⟨e,he,WideElems.rg_of (o e he _ _ c g z A)⟩
theorem aj9{w:aq}{b n:Nat}{f:ByteArray->Option Int}{l:List (Lit×DU)}(I:w.ownsMap Tryz.prog 9 (eI Unit) b n (.map l))(hn:n<=maxLen)(h : ∀p,p∈l↔∃s m,p=(.string s.data.toList, .lit (.int .i64 m))/\f s=some m):Cm w b f n:=by
 obtain⟨es,clock,h1,E,h2,J⟩:=I;have hl:l=(es.toList.map (WideElems.rg Tryz.prog 9 (eI Unit))).foldr DataW.insert []:=by injection J
 obtain⟨L,s2,M⟩:=(MapKept.stamped_iff _ _).1 E.stamped;have o : ∀e∈es.toList,∃s m,e.key= .string s/\e.val= .int .i64 m/\s.size<=maxLen/\(Lit.int .i64 m).wf=true/\WideElems.rg (H:=Unit) Tryz.prog 9 (eI Unit) e=(.string s.data.toList, .lit (.int .i64 m)):=λe he=>by
  obtain⟨y,q⟩:=E.reads e he;have hk:=WideElems.rd_key q;obtain⟨z,hz,F⟩:=WideElems.rd_val q;obtain⟨s,hs⟩:=abS hk;obtain⟨m,i,t,hw⟩:=plainElem_int_inv Tryz.underlying3 hz;rw[hs] at hk;have G:s.size<=maxLen/\y.1= .string s.data.toList:=by
   simp[Go.keyOf,mapKey,Tryz.underlying9] at hk;exact⟨hk.1,hk.2.symm⟩
  refine⟨s,m,hs,i,G.1,hw,?_⟩;rw[WideElems.rg_of q];obtain⟨N,O⟩:=y;rw[t] at F;have Q:O=_:=F;have u:N=_:=G.2;rw[Q,u]
 refine⟨es,clock,h1,λe he=> ?_,M,λe he s m v x=> ?_,λs m A=> ?_,h2,hn,L,?_⟩;·obtain⟨s,m,v,x,R,S,_⟩:=o e he;exact⟨s,m,v,x,R,S⟩
 ·obtain⟨C,U,j,r2,V,W,D⟩:=o e he;rw[v] at j;cases j;rw[x] at r2;cases r2;have i:(Lit.string s.data.toList,(DataW.lit (.int .i64 m):DU))∈l:=by
   rw[hl,mem_sorted];exact List.mem_map.2 ⟨e,he,D⟩
  obtain⟨s2,m2,u,A⟩:=(h _).1 i;injection u with g c
  injection g with g
  injection c with c
  injection c with _ c
  subst c;have:s=s2:=by
   cases s;cases s2;congr 1
   exact Array.toList_inj.1 g
  rw[this];exact A
 ·have i:=(h _).2 ⟨s,m,rfl,A⟩;rw[hl,mem_sorted] at i;obtain⟨e,he,h5⟩:=List.mem_map.1 i;obtain⟨C,U,j,r2,V,W,D⟩:=o e he;rw[D] at h5;injection h5 with g c
  injection g with g
  injection c with c
  injection c with _ c
  subst c;have:C=s:=by
   cases s;cases C;congr 1
   exact Array.toList_inj.1 g
  subst this;exact⟨e,he,j,r2⟩
 have:=s2;unfold List.Nodup at this;rw[List.pairwise_map] at this;exact this
theorem abW : ∀(xs:List ByteArray) (l:List (Lit×DU)),∃l',Bg (.map l) xs= .map l'/\∀p,p∈l'↔p∈l/\∀x∈xs,p.1.sameKey (.string x.data.toList)=false
 | [],l=>⟨l,rfl,λp=>by simp⟩
 | x::xs,l=>by
   obtain⟨l',h1,h2⟩:=abW xs (l.filter λp=> !p.1.sameKey (.string x.data.toList));refine⟨l',h1,λp=> ?_⟩;rw[h2 p,List.mem_filter];simp only[Bool.not_eq_true',ox,forall_eq_or_imp,and_assoc]
def E9(H:CH)(q:Option cm)(xs:List ByteArray):Prop:=∀i (h:i<xs.length),∃p o cs e kd b c f g n4 j,q=some ⟨p,o,none⟩/\H.ob p= .cells cs e kd/\(cs.drop (o+i*5)).take 5= [.int .i64 b, .int .i64 c, .string xs[i], .int .i64 f, .slice g n4 j]/\xs[i].size<=maxLen
def y9 (f:ByteArray->Option Int)(xs:List ByteArray):ByteArray->Option Int:=λs=>if xs.any (λx=>decide (x=s))=true then none else f s
theorem aj'{a b:ByteArray}(h:a.data.toList=b.data.toList):a=b:=by
 cases a;cases b;congr 1
 exact Array.toList_inj.1 h
theorem aka{cs:List ae}{n:Nat}{a b c d e:ae}(h:(cs.drop n).take 5= [a,b,c,d,e]):cs[n]? = some a/\cs[n+1]? = some b/\cs[n+2]? = some c/\cs[n+3]? = some d/\cs[n+4]? = some e:=by
 have g : ∀j,j<5->cs[n+j]? = ([a,b,c,d,e]:List ae)[j]? :=λj f=>by
  rw[<-h,Af f,sP]
 exact⟨g 0 de,g 1 de,g 2 de,g 3 de,g 4 de⟩
theorem akb{B:Nat}{H:CH}{l k m c:Nat}{f:ByteArray->Option Int}{q:Option cm}{xs:List ByteArray}(hl:oT H l f k)(hm:xs.length=m)(hp:E9 H q xs) :
 CY Tryz.prog B 27 [.map (some l), .slice q m c] H (.map (some H.nx)) (H.new (.fm (y9 f xs) k)):=by
 refine⟨Kr,fun β w cq t ha=> ?_⟩;obtain⟨I,v2,rfl,wH,M⟩ : ∃I v2,cq= [I,v2]/\VR β (.map (some l)) I/\VR β (.slice q m c) v2:=by
  obtain⟨h1,h2⟩:=ha;match cq,h1 with
  | [a,b],_=>
    obtain⟨v',q1,q2⟩:=h2 0 _ rfl;cases q1;obtain⟨Oi,N,r2⟩:=h2 1 _ rfl;cases N;exact⟨a,b,rfl,q2,r2⟩
 obtain⟨b,hb,hB,O⟩:=hl.rel t;obtain rfl:I= .map (some b):=by cases wH with | map h=>rw[hb] at h;cases h;rfl
 have E:=O;obtain⟨L,sh,Q,hL⟩:=aj8 O;have F:k<=maxLen:=by obtain⟨_,_,_,_,_,_,_,_,h,_⟩:=E;exact h
 obtain⟨pa,R,rfl,nU,O7⟩ : ∃pa R,v2= .slice pa m R/\m<=maxLen/\∀p o,q=some ⟨p,o,none⟩->0<m->(∃cs e kd,H.ob p= .cells cs e kd)->∃y:Nat×Nat,∃sz n kd,β p= .live y sz n kd/\pa=some ⟨y.1,o+y.2,none⟩:=by
  have CJ:0<m->∃p o cs e kd,q=some ⟨p,o,none⟩/\H.ob p= .cells cs e kd:=λS=>by
   obtain⟨p,o,cs,e,kd,_,_,_,_,_,_,h1,h2,_⟩:=hp 0 Om;exact⟨p,o,cs,e,kd,h1,h2⟩
  clear sh hL Q O E hp hm;generalize hc:c=c0 at M;generalize pm:m=m0 at M;cases M with
  | Aq=>exact⟨none,0,rfl,Om,λp o e h=>by omega⟩
  | sl h h1 h2 h3 h4 h5=>subst pm;exact⟨_,_,rfl,bW h1 (bW h2 h3),λp o e _ _=>by cases e;exact⟨_,_,_,_,h,rfl⟩⟩
  | xi a=>exact⟨_,_,rfl,Om,λp o e h=>by omega⟩
  | yI a c=>exact⟨_,_,rfl,Om,λp o e h=>by omega⟩
  | rV a h h2=>
    subst pm;by_cases S:0<m
    ·obtain⟨p,o,cs,e,kd,g1,g2⟩:=CJ S;cases g1;obtain⟨_,_,_,g3,_⟩:=t.cells g2;rw[h] at g3;cases g3
    exact⟨_,_,rfl,Om,λp o e h=>absurd h S⟩
  | rX a h=>exact⟨_,_,rfl,Om,λp o e h=>by omega⟩
 have Bb : ∀i (h:i<xs.length),∃(p o:Nat) (U V W:Int) (u4:Option cm) (n4 c4:Nat),pa=some ⟨p,o,none⟩/\p<w.heap.size/\w.cell? ⟨p,o+i*5,none⟩=some (.int .i64 U)/\w.cell? ⟨p,o+i*5+1,none⟩=some (.int .i64 V)/\w.cell? ⟨p,o+i*5+2,none⟩=some (.string xs[i])/\w.cell? ⟨p,o+i*5+3,none⟩=some (.int .i64 W)/\w.cell? ⟨p,o+i*5+4,none⟩=some (.slice u4 n4 c4)/\xs[i].size<=maxLen:=λi hi=>by
  obtain⟨p,o,cs,e,kd,U,V,W,q4,n4,c4,rfl,ai,hd,eM⟩:=hp i hi;obtain⟨y,sz,n,nV,hβ,rfl⟩:=O7 p o rfl Om ⟨_,_,_,ai⟩;obtain⟨g0,g1,g2,g3,g4⟩:=aka hd;obtain⟨xJ,G,eZ,cs',e',fr,h1,h2,h3,h4,_⟩:=t.live hβ;rw[ai] at eZ;cases eZ;have cell : ∀j v,cs[o+i*5+j]? = some v->∃u,w.cell? ⟨y.1,o+y.2+i*5+j,none⟩=some u/\VR β v u:=λj v hv=>by
   obtain⟨u,a,b⟩:=h4 _ v hv;refine⟨u,?_,b⟩;have e:o+y.2+i*5+j=o+i*5+j+y.2:=by omega
   rw[e];simp[D8,h1,a]
  obtain⟨w0,r0,s0⟩:=cell 0 _ g0;obtain⟨w1,N,s1⟩:=cell 1 _ g1;obtain⟨w2,r2,s2⟩:=cell 2 _ g2;obtain⟨w3,r3,s3⟩:=cell 3 _ g3;obtain⟨w4,r4,s4⟩:=cell 4 _ g4;cases s0;cases s1;cases s2;cases s3;obtain⟨a4,b4,Y,rfl⟩ : ∃a4 b4 Y,w4= .slice a4 b4 Y:=by
   cases s4<;>exact⟨_,_,_,rfl⟩
  exact⟨_,_,U,V,W,a4,b4,Y,rfl,(Array.getElem?_eq_some_iff.1 h1).1,r0,N,r2,r3,r4,eM⟩
 have KQ:=aj2 b k (.map L) w sh (bW Q F) pa m R xs hm nU Bb;obtain⟨L',nc,oU⟩:=abW xs L;refine callsIn_wide.2 (KQ.mono λe w' ⟨he,ho,A⟩=> ?_);rw[nc] at ho;have Z:Cm w' w.heap.size (y9 f xs) k:=aj9 (ho.mono Q) F λp=>by
  rw[oU p,hL p];constructor
  ·rintro⟨⟨s,n,rfl,C⟩,hx⟩;refine⟨s,n,rfl,?_⟩;unfold y9;rw[iN];·exact C
   intro ha;obtain⟨x,bL,dt⟩:=List.any_eq_true.1 ha;have:=of_decide_eq_true dt;subst this;have:=hx x bL;rw[WideAt.sameKey_self (a:= .string x.data.toList) trivial] at this;cases this
  rintro⟨s,n,rfl,C⟩;unfold y9 at C;split at C;·cases C
  rename_i ha;refine⟨⟨s,n,rfl,C⟩,λx hx=>Maps.sameKey_ne λe=>ha ?_⟩;injection e with e
  exact List.any_eq_true.2 ⟨x,hx,decide_eq_true (aj' e).symm⟩
 have nF:=t.oy;have lS:eN β (db β H.nx (.obj w.heap.size)):=λl=>by
  by_cases hl:l=H.nx
  ·subst hl;exact .inr (.inl nF)
  exact .inl (dD hl)
 have z : ∀b,b<w.heap.size->w'.heap[b]? = w.heap[b]? :=λb hb=>A.block b hb;refine⟨_,db β H.nx (.obj w.heap.size),he, .map eu,⟨λl'=> ?_,λl' iu=> ?_,λl1 l2 D g1 g2=> ?_,bW t.base A.size,t.ro.db λ_ _ _ e=>(by cases e)⟩,⟨A.os,A.tape,A.output,A.size,λD gL fN=>⟨z D gL,λl' g=> ?_⟩,lS⟩⟩
 ·by_cases e:l'=H.nx
  ·subst e;rw[eu];show Cn _ _ _ _ _ (if H.nx=H.nx then _ else _);rw[iP rfl];exact⟨t.base,Z⟩
  rw[dD e];show Cn _ _ _ _ _ (if l'=H.nx then _ else _);rw[iN e];exact(t.iY l').mono lS λb hb=>z b (Co t hb)
 ·have cA:H.nx+1<=l':=iu;show(if l'=H.nx then _ else _)=_;rw[iN Om];exact t.nx l' Om
 ·by_cases J:l1=H.nx<;>by_cases G:l2=H.nx
  ·rw[J,G]
  ·subst J;rw[eu] at g1;rw[dD G] at g2;have:=(tW t g2).2;have:w.heap.size=D:=g1;omega
  ·subst G;rw[eu] at g2;rw[dD J] at g1;have:=(tW t g1).2;have:w.heap.size=D:=g2;omega
  rw[dD J] at g1;rw[dD G] at g2;exact t.inj _ _ D g1 g2
 by_cases e:l'=H.nx
 ·subst e;rw[eu] at g;have:w.heap.size=D:=g;omega
 rw[dD e] at g;exact fN l' g
end
section
def lg(n:Nat):Bool:=decide (n=95\/(97<=n/\n<=122)\/(65<=n/\n<=90))
def dZ(n:Nat):Bool:=decide (48<=n/\n<=57)
def lW(n:Nat):Bool:=lg n||dZ n
def hd:List UInt8->Nat
 | c::_=>c.toNat
 | []=>0
def nW (p:Nat->Bool):List UInt8->Nat
 | c::r=>if p c.toNat then nW p r+1 else 0
 | []=>0
theorem wI{p:Nat->Bool} : ∀ {l:List UInt8},nW p l<=l.length
 | []=>al _
 | c::r=>by
   simp only[nW];split;·have:=wI (p:=p) (l:=r);simp;omega
   simp
theorem nX{l:List UInt8}{j:Nat}(h:j<l.length):hd (l.drop j)=l[j].toNat:=by
 rw[rQ h];rfl
theorem za{p:Nat->Bool}{l:List UInt8}{j:Nat}(h:j<l.length)(hp:p (hd (l.drop j))=true):nW p (l.drop j)=nW p (l.drop (j+1))+1:=by
 rw[nX h] at hp;rw[rQ h,nW,iP hp]
theorem H9{p:Nat->Bool}{l:List UInt8}(h:l= []\/p (hd l)=false):nW p l=0:=by
 rcases h with rfl | h
 ·rfl
 cases l with
 | nil=>rfl
 | cons c r=>simp only[hd] at h;simp[nW,h]
theorem qb{l:List UInt8}(h:hd l≠0):0<l.length:=by
 cases l with
 | nil=>exact absurd rfl h
 | cons c r=>simp
theorem O8{l:List UInt8}:hd l<256:=by
 cases l with
 | nil=>decide
 | cons c r=>exact c.toNat_lt
def eA (l:List UInt8):Nat:=nW dZ l
def sv(l:List UInt8):Nat:=if hd l=46/\dZ (hd (l.drop 1))=true then 1+eA (l.drop 1) else 0
def kI (l:List UInt8):Nat:=if hd l=101 then (if dZ (hd (l.drop 1))=true then 1+eA (l.drop 1) else if (hd (l.drop 1)=43\/hd (l.drop 1)=45)/\dZ (hd (l.drop 2))=true then 2+eA (l.drop 2) else 0) else 0
def oV (l:List UInt8):Nat:=eA l+sv (l.drop (eA l))
def bt (l:List UInt8):Nat:=oV l+kI (l.drop (oV l))
def gv (l:List UInt8):Nat:=if sv (l.drop (eA l))=0/\kI (l.drop (oV l))=0 then 5 else 6
def cr(l:List UInt8):Bool:=lg (hd (l.drop (bt l)))||decide (hd (l.drop (bt l))=46)||decide (540<bt l)||(decide (gv l=5)&&decide (1<bt l)&&decide (hd l=48))
def qc (n:Nat):Nat:=if 48<=n/\n<=57 then n-48 else if 97<=n/\n<=102 then n-87 else if 65<=n/\n<=70 then n-55 else 16
def KZ (n:Nat):Nat:=if n=110 then 10 else if n=116 then 9 else if n=92\/n=39\/n=34 then n else 0
def jO (l:List UInt8):Option (Nat×Nat):=
 if hd l=120 then (if qc (hd (l.drop 1))<16/\qc (hd (l.drop 2))<16 then some (16*qc (hd (l.drop 1))+qc (hd (l.drop 2)),3) else none)
 else if KZ (hd l)≠0 then some (KZ (hd l),1) else none
def kJ (q:Nat):Nat->List UInt8->Option (List UInt8×Nat)
 | 0,_=>none
 | f+1,l=>if hd l=q then some ([],1) else if hd l<32 then none else if hd l≠92 then (kJ q f (l.drop 1)).map λx=>(ar (hd l)::x.1,x.2+1)
   else match jO (l.drop 1) with
    | some (b,n)=>(kJ q f (l.drop (1+n))).map λx=>(ar b::x.1,x.2+(1+n))
    | none=>none
def qd (q:Nat)(l:List UInt8):Option (List UInt8×Nat):=kJ q (l.length+1) l
def S3:List (List UInt8):= [[42,42,61],[47,47,61]]
def S2:List (List UInt8):= [[42,42],[47,47],[61,61],[33,61],[60,61],[62,61],[43,61],[45,61],[42,61],[47,61],[37,61]]
def S1:List UInt8:= [43,45,42,47,37,61,60,62,40,41,91,93,123,125,44,58,46]
def sw (l:List UInt8):Option Nat:=if l.take 3∈S3 then some 3 else if l.take 2∈S2 then some 2 else if hd l∈S1.map UInt8.toNat then some 1 else none
def vi:List (List UInt8):= [[97,110,100],[97,115],[97,115,115,101,114,116],[98,114,101,97,107],[99,108,97,115,115],[99,111,110,116,105,110,117,101],[100,101,102],[100,101,108],[101,108,105,102],[101,108,115,101],[101,120,99,101,112,116],[102,105,110,97,108,108,121],[102,111,114],[103,108,111,98,97,108],[105,102],[105,110],[105,115],[108,97,109,98,100,97],[110,111,110,108,111,99,97,108],[110,111,116],[111,114],[112,97,115,115],[114,97,105,115,101],[114,101,116,117,114,110],[116,114,121],[119,104,105,108,101],[119,105,116,104],[121,105,101,108,100],[84,114,117,101],[70,97,108,115,101],[78,111,110,101]]
def kg (l:List UInt8):Option (Nat×List UInt8×Nat):=
 if lg (hd l)=true then some (if l.take (nW lW l)∈vi then 8 else 4,l.take (nW lW l),nW lW l)
 else if dZ (hd l)=true then (if cr l=true then none else some (gv l,l.take (bt l),bt l))
 else if hd l=39\/hd l=34 then (qd (hd l) (l.drop 1)).map λx=>(7,x.1,x.2+1)
 else (sw l).map λn=>(9,l.take n,n)
def nf (d k:Nat)(x:List UInt8):Nat:=if k=9/\x∈ [[40],[91],[123]] then d+1 else if k=9/\x∈ [[41],[93],[125]]/\0<d then d-1 else d
def eB (l:List UInt8):Nat:=if hd (l.drop (nW (λn=>decide (n=32)) l))=35 then nW (λn=>decide (n=32)) l+nW (λn=>decide (n≠10)) (l.drop (nW (λn=>decide (n=32)) l)) else nW (λn=>decide (n=32)) l
structure Tok where
 kind:Nat
 line:Nat
 text:List UInt8
def qe (line:Nat):Nat->List UInt8->Nat->Option (List Tok×Nat)
 | 0,_,_=>none
 | f+1,t,d=>if t.length<=eB t then some ([],d) else match kg (t.drop (eB t)) with
   | none=>none
   | some (k,x,n)=>(qe line f (t.drop (eB t+n)) (nf d k x)).map λy=>(⟨k,line,x⟩::y.1,y.2)
def jP (line:Nat)(st:List Nat)(n:Nat):List Tok×List Nat:=if st.headD 0<n then ([⟨2,line,[]⟩],n::st) else (qA (st.takeWhile λx=>decide (n<x)).length ⟨3,line,[]⟩,st.dropWhile λx=>decide (n<x))
def jW (line:Nat)(t:List UInt8)(d:Nat)(st:List Nat):Except Nat (List Tok×Nat×List Nat):=
 if t.length<=eB t then .ok ([],d,st)
 else if d=0/\(jP line st (eB t)).2.headD 0≠eB t then .error 21
 else match qe line (t.length+1) t d with
  | none=> .error 20
  | some (ts,b)=> .ok ((if d=0 then (jP line st (eB t)).1 else [])++ts++(if b=0 then [⟨1,line,[]⟩] else []),b,if d=0 then (jP line st (eB t)).2 else st)
def mB:Nat->List (List UInt8)->Nat->List Nat->Except (Nat×Nat) (List Tok×List Nat)
 | _,[],_,st=> .ok ([],st)
 | line,t::ts,d,st=>match jW line t d st with
   | .error e=> .error (line,e)
   | .ok (x,b,aX)=>match mB (line+1) ts b aX with
     | .error e=> .error e
     | .ok (y,z)=> .ok (x++y,z)
def kK:List UInt8->List (List UInt8)
 | []=> [[]]
 | c::r=>if c.toNat=10 then []::kK r else match kK r with
   | t::ts=>(c::t)::ts
   | []=> [[c]]
def C1 (rows:Nat)(st:List Nat):List Tok:=qA (st.length-1) ⟨3,rows,[]⟩++ [⟨0,rows,[]⟩]
def kL (src:List UInt8):Except (Nat×Nat) (List Tok):=
 if 20000<src.length then .error (0,24) else match mB 1 (kK src) 0 [0] with
  | .error e=> .error e
  | .ok (x,st)=> .ok (x++C1 (kK src).length st)
end
section
open Go Go.RowKit
noncomputable def GX(f:aU)(args:List ae):Option ae:=match args with
 | [.string s, .int .u8 c]=>if f=189 then some (.int .i64 (firstIdx s c.toNat.toUInt8)) else none
 | _=>none
theorem akd(s:ByteArray)(c:Int):N9 Tryz.prog 189 [.string s, .int .u8 c] (.int .i64 (firstIdx s c.toNat.toUInt8)):=by
 refine ait rfl rfl λw=> ?_;rw[run_callFunc_extern (e:=Extern.BytealgIndexByte.indexByte) Tryz.func189 Kr Kr Kr Kr];have:=run_indexByte_string (P:=Tryz.prog) s c w;rw[show([Value.string s, .int .u8 c]:List ae).toArray= #[.string s, .int .u8 c] from rfl,this];rfl
theorem abY : ∀f args v,GX f args=some v->KV Tryz.prog f args v:=by
 intro f args v h;unfold GX at h;split at h
 ·split at h;·rename_i e;subst e;cases h;exact .inr (akd _ _)
  cases h
 cases h
theorem ake:Ur Tryz.prog [189] GX 400 7 []=some (.bool true):=by kernel_rfl
def LG:List aU:= [7,189]
noncomputable def GG(f:aU)(args:List ae):Option ae:=match args with
 | []=>if f=7 then some (.bool true) else none
 | l=>GX f l
theorem O9 : ∀f args v,GG f args=some v->KV Tryz.prog f args v:=by
 intro f args v h;unfold GG at h;split at h
 ·split at h;·rename_i e;subst e;cases h;exact ajO (λB=>KW abY) Kr rfl rfl (ajQ ake)
  cases h
 exact abY _ _ _ h
theorem La{B:Nat}:uf Tryz.prog B (ba Tryz.prog LG GG):=KW O9
theorem abZ{s:ByteArray}{c:Int}{H:CH}{Q:ae->CH->Prop}:aR (ba Tryz.prog LG GG) 189 [.string s, .int .u8 c] H Q↔Q (.int .i64 (firstIdx s c.toNat.toUInt8)) H:=ajP Rl Rl
abbrev str(l:List UInt8):ByteArray:=⟨⟨l⟩⟩
def C4 (t:Tok):List ae:= [.int .i64 t.kind, .int .i64 t.line, .string (str t.text)]
theorem akf : ∀t,(C4 t).length=3/\(C4 t).all bu=true:=λ_=>⟨rfl,rfl⟩
theorem akg{a b c:ae}:kB [a,b,c] 3= [a,b,c]:=by simp[kB,lQ,List.range.loop]
theorem n1{a:Nat}:((a:Int)+1)=((a+1:Nat):Int):=rfl
theorem Lb{n:Nat}{h:n<2 ^ 8}:(UInt8.ofBitVec (BitVec.ofFin ⟨n,h⟩))=ar n:=by
 apply UInt8.toNat.inj;simp[UInt8.toNat,ar];omega
theorem jt{l:List UInt8}{i:Nat}:(str l)[i]? = l[i]? :=by
 show(if h:i<(str l).size then some ((str l)[i]'h) else none)=_;by_cases h:i<l.length
 ·have h':i<(str l).size:=h;rw[dif_pos h',bM h];rfl
 have h' : ¬i<(str l).size:=h;rw[dif_neg h',wW Om]
theorem cK{l:List UInt8}:(str l).size=l.length:=rfl
theorem iw{l:List UInt8}{a b:Nat}:(str l).extract a b=str ((l.drop a).take (b-a)):=by
 apply ByteArray.ext;apply rO;simp[ByteArray.data_extract,List.extract_eq_take_drop]
theorem akh{a b:List UInt8}:((str a).toList==(str b).toList)=decide (a=b):=by
 have h : ∀l:List UInt8,(str l).toList=l:=λl=>by simp[ByteArray.toList_eq]
 rw[h,h];by_cases e:a=b
 ·simp[e]
 rw[decide_eq_false e];simpa using e
theorem zb{a b:List UInt8}:bV (binOp .eql 0 (.string (str a)) (.string (str b)))=some (.bool (decide (a=b))):=by
 simp only[binOp,Op.stringOp,bV,Pure.pure,akh]
structure RS where
 pos:Nat
 line:Nat
 dep:Nat
 cL:List Nat
 out:List Tok
 err:Nat
 wh:Nat
structure RS.Bd(s:RS):Prop where
 pos:s.pos<=100000
 line:s.line<=100000
 dep:s.dep<=100000
 err:s.err<=100
 wh:s.wh<=100000
 out:s.out.length+s.cL.length<=1000000
def Ia(A K:CH)(v:ae)(ns:List Nat):Prop:=∃b kd c os,v= .slice (some ⟨b,0,none⟩) ns.length c/\A.nx<=b/\b<K.nx/\K.ob b= .cells os 3 kd/\kd.cD=false/\ns.length<=c/\c<=2000000/\ns.length<=os.length/\∀i,i<ns.length->os[i]? = some (.int .i64 (ns.getD i 0:Nat))
def C5:Array nv:=((vi.zipIdx).map λx=>({ key:= .string (str x.1),val:= .int .i64 1,born:=x.2 }:nv)).toArray
structure bG(A K:CH)(p:Nat)(src:List UInt8)(s:RS)(vo vt:ae)(m:Nat):Prop where
 ob:K.ob p= .cells [.string (str src), .int .i64 s.pos, .int .i64 s.line, .int .i64 s.dep,vo,vt, .map (some m), .int .i64 s.err, .int .i64 s.wh] 110 .ex
 pl:p<K.nx
 pa:A.nx<=p
 cL:Ia A K vo s.cL
 out:gP A 85 3 C4 K vt s.out
 mp:K.ob m= .map C5 31
 ml:m<K.nx
 ma:A.nx<=m
 E:ag A K
 bd:s.Bd
 sl:src.length<=20000
theorem bG.mv{A K K':CH}{p:Nat}{src:List UInt8}{s:RS}{vo vt:ae}{m:Nat}(h:bG A K p src s vo vt m)(hx:ag K K'):bG A K' p src s vo vt m:=by
 obtain⟨b,kd,c,os,h1,h2,h3,h4,h5⟩:=h.cL;exact⟨(hx.ob _ h.pl).trans h.ob,cj h.pl hx.nx,h.pa,⟨b,kd,c,os,h1,h2,cj h3 hx.nx,(hx.ob _ h3).trans h4,h5⟩,h.out.ext hx,(hx.ob _ h.ml).trans h.mp,cj h.ml hx.nx,h.ma,h.E.trans hx,h.bd,h.sl⟩
theorem bG.set{A K:CH}{p:Nat}{src:List UInt8}{s s':RS}{vo vt:ae}{m:Nat}(h:bG A K p src s vo vt m)(ho:s'.cL=s.cL)(ht:s'.out=s.out)(hb:s'.Bd) :
 bG A (K.set p (.cells [.string (str src), .int .i64 s'.pos, .int .i64 s'.line, .int .i64 s'.dep,vo,vt, .map (some m), .int .i64 s'.err, .int .i64 s'.wh] 110 .ex)) p src s' vo vt m:=by
 have f:=h.ob;obtain⟨b,kd,c,os,h1,h2,h3,h4,h5⟩:=h.cL;have i:b≠p:=λe=>by
  rw[e,f] at h4;have:=(cy.cells.inj h4).2.1;revert this;decide
 have j:m≠p:=λe=>by have:=h.mp;rw[e,f] at this;cases this
 refine⟨by rw[bP,iP rfl],h.pl,h.pa,?_,?_,by rw[bP,iN j];exact h.mp,h.ml,h.ma,h.E.set h.pa _,hb,h.sl⟩;·rw[ho];exact⟨b,kd,c,os,h1,h2,h3,by rw[bP,iN i];exact h4,h5⟩
 rw[ht];rcases h.out with g | ⟨b,kd,e,g1,g2,g3,g4⟩
 ·exact .inl g
 refine .inr ⟨b,kd,e,g1,g2,?_,g4⟩;rw[bP,iN];·exact g3
 intro e;rw[e,f] at g3;have:=(cy.cells.inj g3).2.1;revert this;decide
def dj(s:RS)(line e:Nat):RS:=if s.err=0 then { s with err:=e,wh:=line } else s
theorem lG{A K:CH}{p:Nat}{src:List UInt8}{s:RS}{vo vt:ae}{m:Nat}(h:bG A K p src s vo vt m)(line e:Nat)(h1:line<=100000)(h2:e<=100) :
 aR (ba Tryz.prog LG GG) 130 [.pointer (some ⟨p,0,none⟩), .int .i64 line, .int .i64 e] K λv K'=>bG A K' p src (dj s line e) vo vt m:=by
 have b:=h.ob;have hp:=h.pl;refine js Rl Kr (aV ?_);by_cases he:s.err=0
 ·refine rn (an @b @he) ?_;all_goals
   unfold dj;rw[iP he];exact h.set (s':= { s with err:=e,wh:=line }) rfl rfl ⟨h.bd.pos,h.bd.line,h.bd.dep,h2,h1,h.bd.out⟩
 refine rn (an @b @he) ?_;all_goals
  unfold dj;rw[iN he];exact h
theorem bG.aki{A K K':CH}{p:Nat}{src:List UInt8}{s:RS}{vo vt f:ae}{m:Nat}{t:Tok}(h:bG A K p src s vo vt m)(hb:(s.out++ [t]).length+s.cL.length<=1000000)(hx:ag A K')(hn:K.nx<=K'.nx)(hg:gP A 85 3 C4 K' f (s.out++ [t]))(hk : ∀l,l<K.nx->(∀o n c,vt≠ .slice (some ⟨l,o,none⟩) n c)->K'.ob l=K.ob l) :
 bG A (K'.set p (.cells [.string (str src), .int .i64 s.pos, .int .i64 s.line, .int .i64 s.dep,vo,f, .map (some m), .int .i64 s.err, .int .i64 s.wh] 110 .ex)) p src { s with out:=s.out++ [t] } vo f m:=by
 have q:=h.ob;obtain⟨b,kd,c,os,h1,h2,h3,h4,h5⟩:=h.cL;have aA : ∀l cs e k,K.ob l= .cells cs e k->e≠85->∀o n c,vt≠ .slice (some ⟨l,o,none⟩) n c:=λl cs e k hl aA o n c hv=>by
  rcases h.out with ⟨_,g⟩ | ⟨u,v,e',g1,g2,g3,g4⟩
  ·rw[g] at hv;cases hv
  rw[e'] at hv;cases hv;rw[hl] at g3;exact aA (cy.cells.inj g3).2.1
 have hp:=(hk p h.pl (aA _ _ _ _ q de)).trans q;have i:=(hk b h3 (aA _ _ _ _ h4 de)).trans h4;have j:=(hk m h.ml λo n c hv=>by
  rcases h.out with ⟨_,g⟩ | ⟨u,v,e',g1,g2,g3,g4⟩
  ·rw[g] at hv;cases hv
  rw[e'] at hv;cases hv;rw[h.mp] at g3;cases g3).trans h.mp
 have x:b≠p:=λe=>by
  rw[e,hp] at i;have:=(cy.cells.inj i).2.1;revert this;decide
 have y:m≠p:=λe=>by rw[e,hp] at j;cases j
 refine⟨by rw[bP,iP rfl],cj h.pl hn,h.pa,⟨b,kd,c,os,h1,h2,cj h3 hn,by rw[bP,iN x];exact i,h5⟩,?_,by rw[bP,iN y];exact j,cj h.ml hn,h.ma,hx.set h.pa _,⟨h.bd.pos,h.bd.line,h.bd.dep,h.bd.err,h.bd.wh,hb⟩,h.sl⟩;rcases hg with g | ⟨z,C,D,g1,g2,g3,g4⟩
 ·exact .inl g
 refine .inr ⟨z,C,D,g1,g2,?_,g4⟩;rw[bP,iN];·exact g3
 intro e;rw[e,hp] at g3;have:=(cy.cells.inj g3).2.1;revert this;decide
def ki (s:RS)(k line:Nat)(x:List UInt8):RS:= { s with out:=s.out++ [⟨k,line,x⟩] }
theorem dz{A K:CH}{p:Nat}{src:List UInt8}{s:RS}{vo vt:ae}{m:Nat}(h:bG A K p src s vo vt m)(k line:Nat)(x:List UInt8)(hb:s.out.length+s.cL.length<1000000) :
 aR (ba Tryz.prog LG GG) 67 [.pointer (some ⟨p,0,none⟩), .int .i64 k, .int .i64 line, .string (str x)] K λv K'=>∃l,bG A K' p src (ki s k line x) vo l m:=by
 have j:=h.ob;have hp:=h.pl;have D:=h.pa;refine js Rl Kr (aV ?_);refine rn (gK @j @akg @xb) ?_;have b:ag K (K.new (.cells [.int .i64 k, .int .i64 line, .string (str x)] 85 .ex)):=by(repeat (first | assumption | exact ag.refl _ | (refine ag.set ?_ Fo _) | (refine ag.new ?_ _)))
 have G:=h.bd.out;refine HZ akf (ys:= [⟨k,line,x⟩]) (h.out.ext b) (h.E.trans b) (by simp only[NC];omega) (by simp only[NC];omega) rfl rfl λl I t y z u=> ?_;have C:=(u p (by show p<K.nx+1;omega) λo n c hv=> ?_).trans ((b.ob p hp).trans j)
 ·have i:=t;rcases i with ⟨g,_⟩ | ⟨J,L,rfl,_⟩
  ·simp at g
  have i:=t;simp only[cO,NC] at i;refine rn @C ?_;all_goals exact⟨_,(h.mv b).aki Sq y z i u⟩
 rcases h.out with ⟨_,g⟩ | ⟨M,N,e',g1,g2,g3,g4⟩
 ·rw[g] at hv;cases hv
 rw[e'] at hv;cases hv;rw[j] at g3;have:=(cy.cells.inj g3).2.1;revert this;decide
theorem O'{src:List UInt8}{i:Nat}(h:i<src.length):src[i]? = some src[i]:=bM h
theorem Uv{A K:CH}{p:Nat}{src:List UInt8}{s:RS}{vo vt:ae}{m:Nat}(h:bG A K p src s vo vt m)(n:Nat)(hn:n<=10) :
 aR (ba Tryz.prog LG GG) 129 [.pointer (some ⟨p,0,none⟩), .int .i64 n] K λv K'=>v= .int .u8 (hd (src.drop (s.pos+n)):Nat)/\K'=K:=by
 have b:=h.ob;have hp:=h.pl;have c:=h.bd.pos;have g:=h.sl;refine js Rl Kr (aV ?_);by_cases hl:s.pos+n<src.length
 ·have hg:=O' hl;rw[nX hl];exact rz (gy @b @cK @jt @hg)
 have hh:hd (src.drop (s.pos+n))=0:=by rw[NG Om];rfl
 rw[hh];refine rn (an @b @cK) ?_;all_goals rfl
theorem akj(H:CH)(n:Nat):aR (ba Tryz.prog LG GG) 131 [.int .u8 n] H λv K=>v= .bool (lg n)/\K=H:=by
 refine js Rl Kr (aV ?_);repeat' (first | (simp (disch:=first | omega | (decide +kernel)) only[↓RD,RU,↓aP,↓aT,↓bf,bK,pop,bT,jc,dV,↓reduceIte,Nat.reduceEqDiff,Int.reduceOfNat,reduceCtorEq]) | ((with_reducible first|apply aF|apply aG|apply aH)<;>intro _))
 all_goals first | rfl | (apply congrArg Value.bool;symm;apply decide_eq_true;omega) | (apply congrArg Value.bool;symm;apply decide_eq_false;omega) | (apply congrArg Value.bool;apply decide_eq_decide.2;omega)
theorem ju{H:CH}{n:Nat}{Q:ae->CH->Prop}:aR (ba Tryz.prog LG GG) 131 [.int .u8 n] H Q↔Q (.bool (lg n)) H:=ve (akj H n)
theorem akk(H:CH)(n:Nat):aR (ba Tryz.prog LG GG) 133 [.int .u8 n] H λv K=>v= .bool (dZ n)/\K=H:=by
 refine js Rl Kr (aV ?_);repeat' (first | (simp (disch:=first | omega | (decide +kernel)) only[↓RD,RU,↓aP,↓aT,↓bf,bK,pop,bT,jc,dV,↓reduceIte,Nat.reduceEqDiff,Int.reduceOfNat,reduceCtorEq]) | ((with_reducible first|apply aF|apply aG|apply aH)<;>intro _))
 all_goals first | rfl | (apply congrArg Value.bool;symm;apply decide_eq_true;omega) | (apply congrArg Value.bool;symm;apply decide_eq_false;omega) | (apply congrArg Value.bool;apply decide_eq_decide.2;omega)
theorem kM{H:CH}{n:Nat}{Q:ae->CH->Prop}:aR (ba Tryz.prog LG GG) 133 [.int .u8 n] H Q↔Q (.bool (dZ n)) H:=ve (akk H n)
theorem akl(H:CH)(n:Nat)(hn:n<256):aR (ba Tryz.prog LG GG) 178 [.int .u8 n] H λv K=>v= .int .u8 (qc n:Nat)/\K=H:=by
 refine js Rl Kr (aV ?_);by_cases h1:48<=n/\n<=57
 ·have b:dZ n=true:=decide_eq_true h1;have e:qc n=n-48:=by unfold qc;rw[iP h1]
  rw[e];repeat' (first | (simp (disch:=first | omega | (decide +kernel)) only[↓RD,RU,↓aP,↓aT,↓bf,bK,pop,bT,jc,dV,ρ0,ρ1,↓reduceIte,Int.reduceOfNat,reduceCtorEq,kM,b]) | ((with_reducible first|apply aF|apply aG|apply aH)<;>intro _))
  all_goals (apply congrArg (yv .u8);omega)
 have b:dZ n=false:=decide_eq_false h1;repeat' (first | (simp (disch:=first | omega | (decide +kernel)) only[↓RD,RU,↓aP,↓aT,↓bf,bK,pop,bT,jc,dV,ρ0,ρ1,↓reduceIte,Nat.reduceEqDiff,Int.reduceOfNat,reduceCtorEq,kM,b]) | ((with_reducible first|apply aF|apply aG|apply aH)<;>intro _))
 all_goals
  unfold qc;rw[iN h1]
  (repeat' split)<;>first | rfl | (exfalso;omega) | (apply congrArg (yv .u8);omega)
theorem Pa{H:CH}{n:Nat}(hn:n<256){Q:ae->CH->Prop}:aR (ba Tryz.prog LG GG) 178 [.int .u8 n] H Q↔Q (.int .u8 (qc n:Nat)) H:=ve (akl H n hn)
theorem mD{A K:CH}{p:Nat}{src:List UInt8}{s:RS}{vo vt:ae}{m:Nat}(h:bG A K p src s vo vt m){Q:ae->CH->Prop}:aR (ba Tryz.prog LG GG) 129 [.pointer (some ⟨p,0,none⟩), .int .i64 0] K Q↔Q (.int .u8 (hd (src.drop s.pos):Nat)) K:=ve (Uv h 0 de)
theorem Uw{A K:CH}{p:Nat}{src:List UInt8}{s:RS}{vo vt:ae}{m:Nat}(h:bG A K p src s vo vt m){Q:ae->CH->Prop}:aR (ba Tryz.prog LG GG) 129 [.pointer (some ⟨p,0,none⟩), .int .i64 1] K Q↔Q (.int .u8 (hd (src.drop (s.pos+1)):Nat)) K:=ve (Uv h 1 de)
theorem ab0{A K:CH}{p:Nat}{src:List UInt8}{s:RS}{vo vt:ae}{m:Nat}(h:bG A K p src s vo vt m){Q:ae->CH->Prop}:aR (ba Tryz.prog LG GG) 129 [.pointer (some ⟨p,0,none⟩), .int .i64 2] K Q↔Q (.int .u8 (hd (src.drop (s.pos+2)):Nat)) K:=ve (Uv h 2 de)
theorem ab1{l:List UInt8}{j:Nat}(h:0<(l.drop j).length):j<l.length:=by simp at h;omega
def ax (s:RS)(j:Nat):RS:= { s with pos:=s.pos+j }
theorem vj{s:RS}{j:Nat}(h:s.Bd)(b:s.pos+j<=100000):(ax s j).Bd:=⟨b,h.line,h.dep,h.err,h.wh,h.out⟩
theorem C6{A K:CH}{p:Nat}{src:List UInt8}{s:RS}{vo vt:ae}{m:Nat}(h:bG A K p src s vo vt m)(hp:s.pos<=50000) :
 aR (ba Tryz.prog LG GG) 160 [.pointer (some ⟨p,0,none⟩)] K λv K'=>bG A K' p src (ax s (eA (src.drop s.pos))) vo vt m:=by
 have D:=h.sl;refine js Rl Kr (aV ?_);simp only[↓RD];have g:=wI (p:=dZ) (l:=src.drop s.pos);simp only[ky] at g;refine fC (λn fr o=>∃j,n=eA (src.drop s.pos)-j/\j+nW dZ (src.drop (s.pos+j))=eA (src.drop s.pos)/\bG A o p src (ax s j) vo vt m) (n:=eA (src.drop s.pos)) ⟨0,rfl,by simp[eA],h⟩ ?_;rintro n fr o ⟨j,rfl,E,h1⟩ t;have i:= @mD _ _ _ _ _ _ _ _ h1;have u:(ax s j).pos=s.pos+j:=rfl;rw[u] at i;have x:=h1.ob;have G:=h1.pl;have I:eA (src.drop s.pos)<=src.length-s.pos:=g;cases b:dZ (hd (src.drop (s.pos+j))) with
 | true=>
   have y:0<(src.drop (s.pos+j)).length:=by
    cases z:src.drop (s.pos+j) with
    | nil=>rw[z] at b;cases b
    | cons c r=>simp
   have C:=ab1 y;have J:=za C b;refine rn (rT @t @i @kM @b @x @u @n1) ?_;exact⟨_,by simp only[eA] at *;omega,j+1,rfl,by simp only[<-mP];omega,h1.set (s':=ax s (j+1)) rfl rfl (vj h.bd Om)⟩
 | false=>
   have M:=H9 (p:=dZ) (.inr b);refine rn (gy @t @i @kM @b) ?_;all_goals
    have e:eA (src.drop s.pos)=j:=by omega
    rw[e];exact h1
theorem ab2{A K:CH}{p:Nat}{src:List UInt8}{s:RS}{vo vt:ae}{m:Nat}(h:bG A K p src s vo vt m)(hp:s.pos<=50000) :
 aR (ba Tryz.prog LG GG) 96 [.pointer (some ⟨p,0,none⟩)] K λv K'=>bG A K' p src (ax s (eB (src.drop s.pos))) vo vt m:=by
 have W:=h.sl;refine js Rl Kr (aV ?_);simp only[↓RD];obtain⟨N,o⟩ : ∃N,nW (λn=>decide (n=32)) (src.drop s.pos)=N:=⟨_,rfl⟩;have c:=wI (p:=λn=>decide (n=32)) (l:=src.drop s.pos);simp only[ky] at c;rw[o] at c;refine fC (λn fr G=>∃j,n=N-j/\j+nW (λn=>decide (n=32)) (src.drop (s.pos+j))=N/\bG A G p src (ax s j) vo vt m) (n:=N) ⟨0,rfl,by simpa using o,h⟩ ?_;rintro n fr G ⟨j,rfl,Y,h1⟩ b;have t:= @mD _ _ _ _ _ _ _ _ h1;have I:(ax s j).pos=s.pos+j:=rfl;rw[I] at t;have Q:=h1.ob;have Z:=h1.pl;by_cases g:hd (src.drop (s.pos+j))=32
 ·have R:0<(src.drop (s.pos+j)).length:=qb Om;have S:=ab1 R;have Bh:=za (p:=λn=>decide (n=32)) S (by simp[g]);refine rn (rT @b @t @g @Q @I @n1 @cK) ?_;all_goals exact⟨_,Om,j+1,rfl,by simp only[<-mP];omega,h1.set (s':=ax s (j+1)) rfl rfl (vj h.bd Om)⟩
 have mE:=H9 (p:=λn=>decide (n=32)) (l:=src.drop (s.pos+j)) (.inr (by simp[g]));have e:j=N:=by omega
 subst e;by_cases hc:hd (src.drop (s.pos+j))=35
 ·have hb:eB (src.drop s.pos)=j+nW (λn=>decide (n≠10)) (src.drop (s.pos+j)):=by
   unfold eB;rw[o,ir,iP hc]
  rw[hb];refine rn (gy @b @t @g @hc) ?_;obtain⟨M,J⟩ : ∃M,nW (λn=>decide (n≠10)) (src.drop (s.pos+j))=M:=⟨_,rfl⟩;have L:=wI (p:=λn=>decide (n≠10)) (l:=src.drop (s.pos+j));simp only[ky] at L;rw[J] at L⊢;refine fC (λn fr O=>∃i,n=M-i/\i+nW (λn=>decide (n≠10)) (src.drop (s.pos+j+i))=M/\bG A O p src (ax s (j+i)) vo vt m) (n:=M) ⟨0,rfl,by simpa using J,h1⟩ ?_;rintro n aS O ⟨i,rfl,hi,h2⟩ x;have y:(ax s (j+i)).pos=s.pos+j+i:=by show s.pos+(j+i)=_;omega
  have z:=h2.ob;have tm:=h2.pl;by_cases C:s.pos+j+i<src.length
  ·have hg:=O' C;have hh:=nX C;by_cases u:src[s.pos+j+i].toNat=10
   ·have D:=H9 (p:=λn=>decide (n≠10)) (l:=src.drop (s.pos+j+i)) (.inr (by simp[hh,u]));have E:i=M:=by omega
    subst E;refine rn (oA @x @b @z @y @cK @jt @hg @u) ?_;all_goals exact h2
   have V:=za (p:=λn=>decide (n≠10)) C (by simp[hh,u]);refine rn (Eh @x @b @z @y @cK @jt @hg @u @n1) ?_;all_goals
    refine⟨_,Om,i+1,rfl,by simp only[<-mP];omega,?_⟩;have e:s.pos+j+i+1=s.pos+(j+(i+1)):=by omega
    rw[e];exact h2.set (s':=ax s (j+(i+1))) rfl rfl (vj h.bd Om)
  have D:=H9 (p:=λn=>decide (n≠10)) (l:=src.drop (s.pos+j+i)) (.inl (NG Om));have E:i=M:=by omega
  subst E;refine rn (iD @x @b @z @y @cK) ?_;all_goals exact h2
 have hb:eB (src.drop s.pos)=j:=by
  unfold eB;rw[o,ir,iN hc]
 rw[hb];refine rn (gy @b @t @g @hc) ?_;all_goals exact h1
theorem bG.iter{A K:CH}{p:Nat}{src:List UInt8}{s:RS}{vo vt:ae}{m l:Nat}(h:bG A K p src s vo vt m){a a':ByteArray}{b i:Nat}(hl:K.ob l= .sV a b)(f:A.nx<=l):bG A (K.set l (.sV a' i)) p src s vo vt m:=by
 obtain⟨bo,kd,c,os,h1,h2,h3,h4,h5⟩:=h.cL;have j:p≠l:=λe=>by have:=h.ob;rw[e,hl] at this;cases this
 have n:m≠l:=λe=>by have:=h.mp;rw[e,hl] at this;cases this
 have o:bo≠l:=λe=>by rw[e,hl] at h4;cases h4
 refine⟨by rw[bP,iN j];exact h.ob,h.pl,h.pa,⟨bo,kd,c,os,h1,h2,h3,by rw[bP,iN o];exact h4,h5⟩,?_,by rw[bP,iN n];exact h.mp,h.ml,h.ma,h.E.set f _,h.bd,h.sl⟩;rcases h.out with g | ⟨q,t,u,g1,g2,g3,g4⟩
 ·exact .inl g
 refine .inr ⟨q,t,u,g1,g2,?_,g4⟩;rw[bP,iN];·exact g3
 intro e;rw[e,hl] at g3;cases g3
theorem akn{a b:List UInt8}:(str a==str b)=decide (a=b):=by
 cases h:(str a==str b) with
 | true=>
   have:=(RQ _ _).1 h;rw[decide_eq_true (by exact Array.mk.inj (ByteArray.mk.inj this))]
 | false=>
   rw[decide_eq_false λe=>by rw[e,(RQ _ _).2 rfl] at h;cases h]
theorem C7{x:List UInt8} : ∀ {ws:List (List UInt8)} {n i:Nat},
 (x∈ws->∃j,mj 1 (.string (str x)) ((ws.zipIdx n).map λx=>({ key:= .string (str x.1),val:= .int .i64 1,born:=x.2 }:nv)) i=some (some (j, .int .i64 1)))/\
 (x∉ws->mj 1 (.string (str x)) ((ws.zipIdx n).map λx=>({ key:= .string (str x.1),val:= .int .i64 1,born:=x.2 }:nv)) i=some none)
 | [],n,i=>⟨λh=>(by cases h),λ_=>rfl⟩
 | w::ws,n,i=>by
   obtain⟨h1,h2⟩:=C7 (x:=x) (ws:=ws) (n:=n+1) (i:=i+1);simp only[List.zipIdx_cons,dG,mj,Cs,akn];by_cases e:x=w
   ·subst e;simp only[decide_true];exact⟨λ_=>⟨i,rfl⟩,λh=>absurd (j5 ..) h⟩
   simp only[decide_eq_false e];refine⟨λh=>h1 ?_,λh=>h2 λh'=>h (hU _ h')⟩;rcases List.mem_cons.1 h with g | g
   ·exact absurd g e
   exact g
theorem ab3{r:List UInt8}{j:Nat}(h:j<r.length)(hb:r[j].toNat<128):GC (str r) j=(r[j].toNat,1):=decode_ascii (str r) j h hb
theorem ako{r:List UInt8}{j:Nat}(h:j<r.length)(hb:128<=r[j].toNat):127<(GC (str r) j).1:=by
 have e:((str r).get! (j+0))=r[j]:=by
  have h':j<(str r).size:=h;show(str r).get! j=_;simp[ByteArray.get!,getElem!_pos,h]
 unfold GC;simp only[e];rw[iN Om]
 (repeat' split)<;>simp only[Utf8.runeError,fJ,decide_eq_true_eq,ge_iff_le] at *<;>omega
theorem akp{A K:CH}{p:Nat}{src:List UInt8}{s:RS}{vo vt:ae}{m:Nat}(h:bG A K p src s vo vt m)(hp:s.pos<src.length)(hb:s.out.length+s.cL.length<1000000) :
 aR (ba Tryz.prog LG GG) 132 [.pointer (some ⟨p,0,none⟩)] K λv K'=>∃Y,bG A K' p src (ki (ax s (nW lW (src.drop s.pos))) (if (src.drop s.pos).take (nW lW (src.drop s.pos))∈vi then 8 else 4) s.line ((src.drop s.pos).take (nW lW (src.drop s.pos)))) vo Y m:=by
 have jV:=h.sl;have Z:=h.ob;have dK:=h.pl;have O7:=h.pa;obtain⟨N,U⟩ : ∃N,nW lW (src.drop s.pos)=N:=⟨_,rfl⟩;have G:=wI (p:=lW) (l:=src.drop s.pos);simp only[ky] at G;rw[U] at G⊢;refine js Rl Kr (aV ?_);have lX:(src.drop s.pos).take (src.length-s.pos)=src.drop s.pos:=qD Sm;refine rn (gy @Z @cK @iw @lX) ?_;have EB:ag K (K.new (.sV (str (src.drop s.pos)) 0)):=by(repeat (first | assumption | exact ag.refl _ | (refine ag.set ?_ Fo _) | (refine ag.new ?_ _)))
 refine fC (λn fr O=>∃j,n=N-j/\j+nW lW (src.drop (s.pos+j))=N/\bG A O p src (ax s j) vo vt m/\O.ob K.nx= .sV (str (src.drop s.pos)) j/\K.nx<O.nx) (n:=N) ⟨0,rfl,by simpa using U,h.mv EB,by exact aZ,iC _⟩ ?_;rintro n fr O ⟨j,rfl,hj,h1,hit,V⟩ o;have t:=h1.ob;have C8:=h1.pl;have u:(ax s j).pos=s.pos+j:=rfl;have cG:=h.E.nx;have y:(src.drop s.pos).length=src.length-s.pos:=by simp
 by_cases W:s.pos+j<src.length
 ·have R:j<(src.drop s.pos).length:=by omega
  have I:(src.drop s.pos)[j]=src[s.pos+j]:=by rw[Yy]
  have hh:=nX W;by_cases C:lW (src[s.pos+j].toNat)=true
  ·have S:src[s.pos+j].toNat<128:=by
    have:=C;simp only[lW,lg,dZ,Bool.or_eq_true,decide_eq_true_eq] at this;omega
   have z:=ab3 R (by rw[I];exact S);rw[I] at z;have Bh:=za W (by rw[hh];exact C);cases D:lg (src[s.pos+j].toNat) with
   | true=>
     refine rn (xf @o @hit @cK @y @z @ju @D @t @u @n1) ?_;all_goals exact⟨_,Om,j+1,rfl,by simp only[<-mP];omega,(h1.iter hit Om).set (s':=ax s (j+1)) rfl rfl (vj h.bd Om),rfl,V⟩
   | false=>
     have Q:dZ (src[s.pos+j].toNat)=true:=by
      unfold lW at C;rw[D] at C;simpa using C
     refine rn (yB @o @hit @cK @y @z @ju @kM @D @Q @t @u @n1) ?_;all_goals exact⟨_,Om,j+1,rfl,by simp only[<-mP];omega,(h1.iter hit Om).set (s':=ax s (j+1)) rfl rfl (vj h.bd Om),rfl,V⟩
  have mE:=H9 (p:=lW) (l:=src.drop (s.pos+j)) (.inr (by rw[hh];simpa using C));have e:j=N:=by omega
  subst e;have c:=h1.mp;have nU:=h1.ml;have kN:m≠K.nx:=λe=>by rw[e,hit] at c;cases c
  have J:lW (src[s.pos+j].toNat)=false:=by simpa using C
  simp only[lW,Bool.or_eq_false_iff] at J;obtain⟨D,Q⟩:=J;by_cases S:src[s.pos+j].toNat<128
  ·have z:=ab3 R (by rw[I];exact S);rw[I] at z;by_cases hw:(src.drop s.pos).take j∈vi
   ·obtain⟨q,b⟩:=(C7 (x:=(src.drop s.pos).take j) (ws:=vi) (n:=0) (i:=0)).1 hw;have b:mj 1 (.string (str ((src.drop s.pos).take j))) C5.toList 0=some (some (q, .int .i64 1)):=b;rw[iP hw];refine rn (Sc @o @hit @cK @y @z @ju @kM @D @Q @t @u @iw @j6 @b @c) ?_;refine(dz (s:=ax s j) (h1.iter hit Om) 8 s.line ((src.drop s.pos).take j) hb).mono λv2 M ⟨g,h2⟩=> ?_;refine aC ?_;all_goals exact⟨g,h2⟩
   have b:mj 1 (.string (str ((src.drop s.pos).take j))) C5.toList 0=some none:=(C7 (x:=(src.drop s.pos).take j) (ws:=vi) (n:=0) (i:=0)).2 hw;rw[iN hw];refine rn (Sc @o @hit @cK @y @z @ju @kM @D @Q @t @u @iw @j6 @b @c) ?_;refine(dz (s:=ax s j) (h1.iter hit Om) 4 s.line ((src.drop s.pos).take j) hb).mono λv2 M ⟨g,h2⟩=> ?_;refine aC ?_;all_goals exact⟨g,h2⟩
  have z:=ako R (by rw[I];omega);by_cases hw:(src.drop s.pos).take j∈vi
  ·obtain⟨q,b⟩:=(C7 (x:=(src.drop s.pos).take j) (ws:=vi) (n:=0) (i:=0)).1 hw;have b:mj 1 (.string (str ((src.drop s.pos).take j))) C5.toList 0=some (some (q, .int .i64 1)):=b;rw[iP hw];refine rn (xf @o @hit @cK @y @t @u @iw @j6 @b @c) ?_;refine(dz (s:=ax s j) (h1.iter hit Om) 8 s.line ((src.drop s.pos).take j) hb).mono λv2 M ⟨g,h2⟩=> ?_;refine aC ?_;all_goals exact⟨g,h2⟩
  have b:mj 1 (.string (str ((src.drop s.pos).take j))) C5.toList 0=some none:=(C7 (x:=(src.drop s.pos).take j) (ws:=vi) (n:=0) (i:=0)).2 hw;rw[iN hw];refine rn (xf @o @hit @cK @y @t @u @iw @j6 @b @c) ?_;refine(dz (s:=ax s j) (h1.iter hit Om) 4 s.line ((src.drop s.pos).take j) hb).mono λv2 M ⟨g,h2⟩=> ?_;refine aC ?_;all_goals exact⟨g,h2⟩
 have mE:=H9 (p:=lW) (l:=src.drop (s.pos+j)) (.inl (NG Om));have e:j=N:=by omega
 subst e;have c:=h1.mp;have nU:=h1.ml;have kN:m≠K.nx:=λe=>by rw[e,hit] at c;cases c
 by_cases hw:(src.drop s.pos).take j∈vi
 ·obtain⟨q,b⟩:=(C7 (x:=(src.drop s.pos).take j) (ws:=vi) (n:=0) (i:=0)).1 hw;have b:mj 1 (.string (str ((src.drop s.pos).take j))) C5.toList 0=some (some (q, .int .i64 1)):=b;rw[iP hw];refine rn (xf @o @hit @cK @y @t @u @iw @j6 @b @c) ?_;refine(dz (s:=ax s j) (h1) 8 s.line ((src.drop s.pos).take j) hb).mono λv2 M ⟨g,h2⟩=> ?_;refine aC ?_;all_goals exact⟨g,h2⟩
 have b:mj 1 (.string (str ((src.drop s.pos).take j))) C5.toList 0=some none:=(C7 (x:=(src.drop s.pos).take j) (ws:=vi) (n:=0) (i:=0)).2 hw;rw[iN hw];refine rn (xf @o @hit @cK @y @t @u @iw @j6 @b @c) ?_;refine(dz (s:=ax s j) (h1) 4 s.line ((src.drop s.pos).take j) hb).mono λv2 M ⟨g,h2⟩=> ?_;refine aC ?_;all_goals exact⟨g,h2⟩
theorem bG.Ld{A K:CH}{p:Nat}{src:List UInt8}{s:RS}{vo vt:ae}{m:Nat}(h:bG A K p src s vo vt m)(j:Nat)(b:s.pos+j<=100000) :
 bG A (K.set p (.cells [.string (str src), .int .i64 ((s.pos+j:Nat):Int), .int .i64 s.line, .int .i64 s.dep,vo,vt, .map (some m), .int .i64 s.err, .int .i64 s.wh] 110 .ex)) p src (ax s j) vo vt m:=
 h.set (s':=ax s j) rfl rfl (vj h.bd b)
theorem n2{a:Nat}:((a:Int)+2)=((a+2:Nat):Int):=rfl
def qT(K K':CH)(p:Nat):Prop:=K.nx<=K'.nx/\∀l,l<K.nx->l≠p->K'.ob l=K.ob l
theorem qT.set{K:CH}{p:Nat}{o:cy}:qT K (K.set p o) p:=⟨al _,λl _ h=>by rw[bP,iN h]⟩
theorem qT.trans{A K K':CH}{p:Nat}(h:qT A K p)(k:qT K K' p):qT A K' p:=⟨bW h.1 k.1,λl h1 h2=>(k.2 l (cj h1 h.1) h2).trans (h.2 l h1 h2)⟩
theorem UA{s:RS}{l e:Nat}(h:s.err=0):dj s l e= { s with err:=e,wh:=l }:=iP h
theorem Pc{A K:CH}{p:Nat}{src:List UInt8}{s:RS}{vo vt:ae}{m:Nat}(h:bG A K p src s vo vt m)(line e:Nat)(h1:line<=100000)(h2:e<=100)(he:s.err=0) :
 aR (ba Tryz.prog LG GG) 130 [.pointer (some ⟨p,0,none⟩), .int .i64 line, .int .i64 e] K λv K'=>bG A K' p src { s with err:=e,wh:=line } vo vt m/\qT K K' p:=by
 have b:=h.ob;have hp:=h.pl;refine js Rl Kr (aV ?_);refine rn (an @b @he) ?_;all_goals exact⟨h.set (s':= { s with err:=e,wh:=line }) rfl rfl ⟨h.bd.pos,h.bd.line,h.bd.dep,h2,h1,h.bd.out⟩,qT.set⟩
theorem UB{n:Nat}:qc n<=16:=by
 unfold qc
 (repeat' split)<;>omega
def akq(A K K':CH)(p:Nat)(src:List UInt8)(s:RS)(vo vt:ae)(m:Nat)(v:ae)(r:Option (Nat×Nat)):Prop:=qT K K' p/\match r with
 | some (b,n)=>v= .int .u8 (b:Nat)/\bG A K' p src (ax s n) vo vt m
 | none=>v= .int .u8 0/\bG A K' p src { ax s 1 with err:=20,wh:=s.line } vo vt m
theorem akr{A K:CH}{p:Nat}{src:List UInt8}{s:RS}{vo vt:ae}{m:Nat}(h:bG A K p src s vo vt m)(hp:s.pos<=50000)(t:s.err=0) :
 aR (ba Tryz.prog LG GG) 161 [.pointer (some ⟨p,0,none⟩)] K λv K'=>akq A K K' p src s vo vt m v (jO (src.drop s.pos)):=by
 have I:=h.sl;have g:=h.ob;have J:=h.pl;have u:=h.bd.line;obtain⟨l,hl⟩ : ∃l,src.drop s.pos=l:=⟨_,rfl⟩;have y : ∀j,src.drop (s.pos+j)=l.drop j:=λj=>by rw[<-hl,ir]
 have f:= @mD _ _ _ _ _ _ _ _ h;rw[hl] at f⊢;have h1:=h.Ld 1 Om;have z:(ax s 1).pos=s.pos+1:=rfl;have n:= @mD _ _ _ _ _ _ _ _ h1;have o:= @Uw _ _ _ _ _ _ _ _ h1;simp only[z,mP,y] at n o;refine js Rl Kr (aV ?_);by_cases b:hd l=120
 ·have hx:= @O8 (l.drop 1);have x:= @O8 (l.drop 2);have C:= @UB (hd (l.drop 1));have D:= @UB (hd (l.drop 2));by_cases i:qc (hd (l.drop 1))<16/\qc (hd (l.drop 2))<16
  ·have he:jO l=some (16*qc (hd (l.drop 1))+qc (hd (l.drop 2)),3):=by unfold jO;rw[iP b,iP i]
   rw[he];repeat' (first | (simp (disch:=first | omega | (decide +kernel)) only[↓RD,RU,↓aP,↓ez,↓aT,↓bf,bP,bK,pop,aD,bD,bT,jc,dV,isVal,bu,dp,ρ0,ρ1,↓reduceIte,Nat.reduceEqDiff,Nat.reduceAdd,Int.reduceOfNat,reduceCtorEq,ρ5,ρ6,ρ7,ρ8,ρ17,ρ18,ρ19,ρ20,ρ22,ρ23,Kd.cD,ρ25,ρ26,Nat.reduceLeDiff,CH.set_set,f,b,g,n1,n2,n,o,Pa hx,Pa x]) | ((with_reducible first|apply aF|apply aG|apply aH)<;>intro _))
   all_goals first | (exfalso;omega) | exact⟨qT.set,rfl,h.Ld 3 Om⟩
  have he:jO l=none:=by unfold jO;rw[iP b,iN i]
  rw[he];repeat' (first | (simp (disch:=first | omega | (decide +kernel)) only[↓RD,RU,↓aP,↓ez,↓aT,↓bf,bP,bK,pop,aD,bD,isVal,bu,dp,ρ0,ρ1,↓reduceIte,Nat.reduceEqDiff,Nat.reduceAdd,Int.reduceOfNat,reduceCtorEq,ρ5,ρ6,ρ7,ρ8,ρ17,ρ18,ρ19,ρ20,ρ22,ρ23,Kd.cD,ρ25,ρ26,Nat.reduceLeDiff,f,b,g,n1,n,o,Pa hx,Pa x]) | ((with_reducible first|apply aF|apply aG|apply aH)<;>intro _))
  all_goals first | (exfalso;omega) | skip
  all_goals
   refine(Pc h1 s.line 20 u de t).mono λv2 E ⟨h2,h3⟩=> ?_;repeat' (first | (simp (disch:=first | omega | (decide +kernel)) only[↓RD,RU,↓aP,↓bf,pop,bT,jc,dV,↓reduceIte]) | ((with_reducible first|apply aF|apply aG|apply aH)<;>intro _))
   all_goals exact⟨qT.set.trans h3,rfl,h2⟩
 have cs:hd l=110\/hd l=116\/hd l=92\/hd l=39\/hd l=34\/(hd l≠110/\hd l≠116/\hd l≠92/\hd l≠39/\hd l≠34):=by omega
 rcases cs with c | c | c | c | c | ⟨i,c3,F,c5,G⟩
 ·have he:jO l=some (10,1):=by unfold jO;rw[iN b,c];rfl
  rw[he];repeat' (first | (simp (disch:=first | omega | (decide +kernel)) only[↓RD,RU,↓aP,↓ez,↓aT,↓bf,bK,pop,aD,bD,bT,jc,dV,isVal,bu,dp,ρ0,ρ1,↓reduceIte,Nat.reduceEqDiff,Nat.reduceAdd,Int.reduceOfNat,reduceCtorEq,ρ5,ρ6,ρ7,ρ8,ρ17,ρ18,ρ19,ρ20,ρ22,ρ23,Kd.cD,ρ25,ρ26,Nat.reduceLeDiff,f,c,g,n1]) | ((with_reducible first|apply aF|apply aG|apply aH)<;>intro _))
  all_goals exact⟨qT.set,rfl,h1⟩
 ·have he:jO l=some (9,1):=by unfold jO;rw[iN b,c];rfl
  rw[he];repeat' (first | (simp (disch:=first | omega | (decide +kernel)) only[↓RD,RU,↓aP,↓ez,↓aT,↓bf,bK,pop,aD,bD,bT,jc,dV,isVal,bu,dp,ρ0,ρ1,↓reduceIte,Nat.reduceEqDiff,Nat.reduceAdd,Int.reduceOfNat,reduceCtorEq,ρ5,ρ6,ρ7,ρ8,ρ17,ρ18,ρ19,ρ20,ρ22,ρ23,Kd.cD,ρ25,ρ26,Nat.reduceLeDiff,f,c,g,n1]) | ((with_reducible first|apply aF|apply aG|apply aH)<;>intro _))
  all_goals exact⟨qT.set,rfl,h1⟩
 ·have he:jO l=some (92,1):=by unfold jO;rw[iN b,c];rfl
  rw[he];repeat' (first | (simp (disch:=first | omega | (decide +kernel)) only[↓RD,RU,↓aP,↓ez,↓aT,↓bf,bK,pop,aD,bD,bT,jc,dV,isVal,bu,dp,ρ0,ρ1,↓reduceIte,Nat.reduceEqDiff,Nat.reduceAdd,Int.reduceOfNat,reduceCtorEq,ρ5,ρ6,ρ7,ρ8,ρ17,ρ18,ρ19,ρ20,ρ22,ρ23,Kd.cD,ρ25,ρ26,Nat.reduceLeDiff,f,c,g,n1]) | ((with_reducible first|apply aF|apply aG|apply aH)<;>intro _))
  all_goals exact⟨qT.set,rfl,h1⟩
 ·have he:jO l=some (39,1):=by unfold jO;rw[iN b,c];rfl
  rw[he];repeat' (first | (simp (disch:=first | omega | (decide +kernel)) only[↓RD,RU,↓aP,↓ez,↓aT,↓bf,bK,pop,aD,bD,bT,jc,dV,isVal,bu,dp,ρ0,ρ1,↓reduceIte,Nat.reduceEqDiff,Nat.reduceAdd,Int.reduceOfNat,reduceCtorEq,ρ5,ρ6,ρ7,ρ8,ρ17,ρ18,ρ19,ρ20,ρ22,ρ23,Kd.cD,ρ25,ρ26,Nat.reduceLeDiff,f,c,g,n1]) | ((with_reducible first|apply aF|apply aG|apply aH)<;>intro _))
  all_goals exact⟨qT.set,rfl,h1⟩
 ·have he:jO l=some (34,1):=by unfold jO;rw[iN b,c];rfl
  rw[he];repeat' (first | (simp (disch:=first | omega | (decide +kernel)) only[↓RD,RU,↓aP,↓ez,↓aT,↓bf,bK,pop,aD,bD,bT,jc,dV,isVal,bu,dp,ρ0,ρ1,↓reduceIte,Nat.reduceEqDiff,Nat.reduceAdd,Int.reduceOfNat,reduceCtorEq,ρ5,ρ6,ρ7,ρ8,ρ17,ρ18,ρ19,ρ20,ρ22,ρ23,Kd.cD,ρ25,ρ26,Nat.reduceLeDiff,f,c,g,n1]) | ((with_reducible first|apply aF|apply aG|apply aH)<;>intro _))
  all_goals exact⟨qT.set,rfl,h1⟩
 have he:jO l=none:=by
  unfold jO KZ;rw[iN b,iN (by simp[i,c3,F,c5,G])]
 rw[he];repeat' (first | (simp (disch:=first | omega | (decide +kernel)) only[↓RD,RU,↓aP,↓ez,↓aT,↓bf,bP,bK,pop,aD,bD,isVal,bu,dp,ρ0,ρ1,↓reduceIte,Nat.reduceEqDiff,Nat.reduceAdd,Int.reduceOfNat,reduceCtorEq,ρ5,ρ6,ρ7,ρ8,ρ17,ρ18,ρ19,ρ20,ρ22,ρ23,Kd.cD,ρ25,ρ26,Nat.reduceLeDiff,f,g,n1]) | ((with_reducible first|apply aF|apply aG|apply aH)<;>intro _))
 all_goals
  refine(Pc h1 s.line 20 u de t).mono λv2 E ⟨h2,h3⟩=> ?_;repeat' (first | (simp (disch:=first | omega | (decide +kernel)) only[↓RD,RU,↓aP,↓bf,pop,bT,jc,dV,↓reduceIte]) | ((with_reducible first|apply aF|apply aG|apply aH)<;>intro _))
  all_goals exact⟨qT.set.trans h3,rfl,h2⟩
def li (l:List UInt8):List Int:=l.map λc=>(c.toNat:Int)
theorem ab5{l:List UInt8}:(li l).flatMap (ints .u8)=(l.map λc=>(.int .u8 (c.toNat:Int):ae)):=by
 rw[OZ];simp[li]
theorem Pd : ∀ {l:List UInt8},tZ (l.map λc=>(.int .u8 (c.toNat:Int):ae))=some l
 | []=>rfl
 | c::l=>by
   simp only[dG,tZ,Pd,fg,gj];congr 2
   apply UInt8.toNat.inj;simp
theorem bG.UC{A K K':CH}{p:Nat}{src:List UInt8}{s:RS}{vo vt v:ae}{m:Nat}{xs:List Int}(h:bG A K p src s vo vt m)(f:gP A 5 1 (ints .u8) K v xs)(hx:ag A K')(hn:K.nx<=K'.nx)(hk : ∀l,l<K.nx->(∀o n c,v≠ .slice (some ⟨l,o,none⟩) n c)->K'.ob l=K.ob l):bG A K' p src s vo vt m:=by
 obtain⟨b,kd,c,os,h1,h2,h3,h4,h5⟩:=h.cL;have aA : ∀l cs e k,K.ob l= .cells cs e k->e≠5->∀o n c,v≠ .slice (some ⟨l,o,none⟩) n c:=λl cs e k hl aA o n c hv=>by
  rcases f with ⟨_,g⟩ | ⟨j,q,e',g1,g2,g3,g4⟩
  ·rw[g] at hv;cases hv
  rw[e'] at hv;cases hv;rw[hl] at g3;exact aA (cy.cells.inj g3).2.1
 have t : ∀o n c,v≠ .slice (some ⟨m,o,none⟩) n c:=λo n c hv=>by
  rcases f with ⟨_,g⟩ | ⟨j,q,e',g1,g2,g3,g4⟩
  ·rw[g] at hv;cases hv
  rw[e'] at hv;cases hv;rw[h.mp] at g3;cases g3
 refine⟨(hk p h.pl (aA _ _ _ _ h.ob de)).trans h.ob,cj h.pl hn,h.pa,⟨b,kd,c,os,h1,h2,cj h3 hn,(hk b h3 (aA _ _ _ _ h4 de)).trans h4,h5⟩,?_,(hk m h.ml t).trans h.mp,cj h.ml hn,h.ma,hx,h.bd,h.sl⟩;rcases h.out with g | ⟨i,u,x,g1,g2,g3,g4⟩
 ·exact .inl g
 exact .inr ⟨i,u,x,g1,cj g2 hn,(hk i g2 (aA _ _ _ _ g3 de)).trans g3,g4⟩
theorem aks{A K:CH}{p:Nat}{src:List UInt8}{s:RS}{vo vt v:ae}{m:Nat}{xs:List Int}(b:gP A 5 1 (ints .u8) K v xs)(h:bG A K p src s vo vt m)(o:cy):gP A 5 1 (ints .u8) (K.set p o) v xs:=by
 rcases b with g | ⟨c,f,e',g1,g2,g3,g4⟩
 ·exact .inl g
 refine .inr ⟨c,f,e',g1,g2,?_,g4⟩;rw[bP,iN];·exact g3
 intro e;rw[e,h.ob] at g3;have:=(cy.cells.inj g3).2.1;revert this;decide
theorem akt{l:List UInt8}{b n:Nat}(h:jO l=some (b,n)):n<=l.length/\b<256:=by
 have hx:= @UB (hd (l.drop 1));unfold jO at h;split at h
 ·split at h
  ·rename_i g;cases h;have h2:hd (l.drop 2)≠0:=λe=>by have:=g.2;rw[e] at this;exact absurd this de
   have:=qb h2;simp at this;omega
  cases h
 split at h
 ·rename_i g1 g;cases h;have c:hd l≠0:=λe=>g (by rw[e];decide);have:=qb c;refine⟨Om,?_⟩;unfold KZ;have:= @O8 l
  (repeat' split)<;>omega
 cases h
theorem UD{q:Nat} : ∀ {f g:Nat} {l:List UInt8},l.length<f->l.length<g->kJ q f l=kJ q g l
 | 0,_,_,h,_=>absurd h Om
 | _,0,_,_,h=>absurd h Om
 | f+1,g+1,l,e,hg=>by
   unfold kJ;by_cases b:hd l=q
   ·rw[iP b,iP b]
   rw[iN b,iN b];by_cases c:hd l<32
   ·rw[iP c,iP c]
   rw[iN c,iN c];have hl:0<l.length:=qb Om;by_cases c3:hd l=92
   ·rw[iN (by simpa using c3),iN (by simpa using c3)];cases jO (l.drop 1) with
    | none=>rfl
    | some x=>
      simp only;rw[UD (f:=f) (g:=g) Sq Sq]
   rw[iP c3,iP c3,UD (f:=f) (g:=g) Sq Sq]
def UE(A K:CH)(p:Nat)(src:List UInt8)(s:RS)(vo:ae)(m:Nat):Prop:=∃c b,bG A K p src b vo c m/\b.err=20/\b.wh=s.line/\b.dep=s.dep/\b.cL=s.cL/\b.out.length<=s.out.length+1/\s.pos<b.pos/\b.pos<=src.length+4/\b.line=s.line
def UF(A K:CH)(p:Nat)(src:List UInt8)(s:RS)(vo:ae)(m:Nat)(r:Option (List UInt8×Nat)):Prop:=match r with
 | some (x,n)=>∃b,bG A K p src (ki (ax s (n+1)) 7 s.line x) vo b m
 | none=>UE A K p src s vo m
theorem Fa{s:RS}{i j k:Nat}(h:i+j=k):ax (ax s i) j=ax s k:=by subst h;simp only[ax,mP]
theorem aku{A K:CH}{p:Nat}{src:List UInt8}{s:RS}{vo vt:ae}{m:Nat}(h:bG A K p src s vo vt m)(hp:s.pos<src.length)(O:s.err=0)(hq:32<=hd (src.drop s.pos)/\hd (src.drop s.pos)≠92)(hb:s.out.length+s.cL.length<1000000) :
 aR (ba Tryz.prog LG GG) 135 [.pointer (some ⟨p,0,none⟩)] K λv K'=>UF A K' p src s vo m (qd (hd (src.drop s.pos)) (src.drop (s.pos+1))):=by
 have jV:=h.sl;have ai:=h.ob;have dK:=h.pl;have O7:=h.pa;have dP:=h.bd.line;obtain⟨q,Q⟩ : ∃q,hd (src.drop s.pos)=q:=⟨_,rfl⟩;rw[Q] at hq⊢;have p0:= @mD _ _ _ _ _ _ _ _ h;rw[Q] at p0;have h1:=h.Ld 1 Om;obtain⟨L,hL⟩ : ∃L,src.drop (s.pos+1)=L:=⟨_,rfl⟩;have Le:L.length=src.length-(s.pos+1):=by rw[<-hL];simp
 have dA : ∀j,src.drop (s.pos+1+j)=L.drop j:=λj=>by rw[<-hL,ir]
 rw[hL];refine js Rl Kr (aV ?_);refine rn (gK @p0 @ai @n1) ?_;refine fC (λn fr M=>(∃(j f:Nat) (acc:List UInt8) (z:ae),n=f+1/\j+f=L.length/\qd q L=(kJ q (f+1) (L.drop j)).map (λx=>(acc++x.1,x.2+j))/\fr 3=z/\gP A 5 1 (ints .u8) M z (li acc)/\acc.length<=j/\bG A M p src (ax s (1+j)) vo vt m)\/
  (∃(j:Nat) (acc:List UInt8) (z:ae),n=0/\j<=L.length+1/\qd q L=none/\fr 3=z/\gP A 5 1 (ints .u8) M z (li acc)/\acc.length<=100000/\bG A M p src (dj (ax s (1+j)) s.line 20) vo vt m)) (n:=L.length+1) (.inl ⟨0,L.length,[],_,rfl,Om,by simp[qd],by exact aZ, .inl ⟨rfl,rfl⟩,Sm,h1⟩) ?_
 rintro n fr M (⟨j,f,acc,z,rfl,hjf,D,f3,R,hac,h2⟩ | ⟨j,acc,z,rfl,hj,D,f3,R,hac,h2⟩) G
 ·have c:=h2.ob;have tm:=h2.pl;have t:(ax s (1+j)).pos=s.pos+1+j:=by show s.pos+(1+j)=_;omega
  have N:= @mD _ _ _ _ _ _ _ _ h2;rw[t,dA] at N;have u:(ax s (1+j)).err=0:=O;have y:(ax s (1+j)).line=s.line:=rfl;have hc:= @O8 (L.drop j);by_cases I:hd (L.drop j)=q
  ·have fX:j<L.length:=by
    have:=qb (l:=L.drop j) Om;simp at this;omega
   have S:qd q L=some (acc,j+1):=by rw[D,kJ,iP I];simp;omega
   have h3:=h2.Ld 1 (by rw[t];omega);rw[t] at h3;simp only[u,y] at h3;rw[S];rcases R with ⟨e1,rfl⟩ | ⟨b,kd,rfl,g1,g2,g3,g4⟩
   ·have ea:acc= []:=by simpa[li] using e1
    subst ea;refine rn (xf @G @c @u @N @I @t @cK @n1 @f3 @y) ?_;all_goals
     refine(dz h3 7 s.line [] hb).mono λv5 i ⟨o,h5⟩=> ?_;refine aC ?_;all_goals exact⟨o,by rw[<-Fa (show 1+j+1=j+1+1 by omega)];exact h5⟩
   rw[ab5] at g3;have Ew:(li acc).length=acc.length:=by simp[li]
   rw[Ew] at f3;have sA:b≠p:=λe=>by
    rw[e,c] at g3;have:=(cy.cells.inj g3).2.1;revert this;decide
   refine rn (agC @G @c @u @N @I @t @cK @n1 @f3 @y @g3 @sA @Pd) ?_;all_goals
    refine(dz h3 7 s.line acc hb).mono λv5 i ⟨o,h5⟩=> ?_;repeat' (first | (simp (disch:=first | omega | (decide +kernel)) only[↓RD,RU,bT]) | ((with_reducible first|apply aF|apply aG|apply aH)<;>intro _))
    all_goals exact⟨o,by rw[<-Fa (show 1+j+1=j+1+1 by omega)];exact h5⟩
  by_cases c2:hd (L.drop j)<32
  ·have S:qd q L=none:=by rw[D,kJ,iN I,iP c2];rfl
   rw[S];repeat' (first | (simp (disch:=first | omega | (decide +kernel)) only[↓RD,RU,↓aP,↓aT,↓bf,bK,pop,aD,ρ0,ρ1,↓reduceIte,Nat.reduceEqDiff,reduceCtorEq,ρ5,ρ6,ρ28,G,c,u,N,t,cK,y]) | ((with_reducible first|apply aF|apply aG|apply aH)<;>intro _))
   all_goals
    refine(lG h2 s.line 20 dP de).mono λv3 K3 h3=> ?_;refine aC ?_;all_goals
     have hz:(ax s (1+j)).err=0:=O;unfold dj at h3;rw[iP hz] at h3;exact⟨vt,_,h3,rfl,rfl,rfl,rfl,mQ _,by show s.pos<s.pos+(1+j);omega,by show s.pos+(1+j)<=_;omega,rfl⟩
  have fX:j<L.length:=by
   have:=qb (l:=L.drop j) Om;simp at this;omega
  obtain⟨J,rfl⟩ : ∃J,f=J+1:=⟨f-1,Om⟩;have h3:=h2.Ld 1 (by rw[t];omega);rw[t] at h3;simp only[u,y] at h3;have U:=aks R h2 (.cells [.string (str src), .int .i64 ((s.pos+1+j+1:Nat):Int), .int .i64 s.line, .int .i64 (ax s (1+j)).dep,vo,vt, .map (some m), .int .i64 ((0:Nat):Int), .int .i64 (ax s (1+j)).wh] 110 .ex);have yP:=h1.E;by_cases c3:hd (L.drop j)=92
  ·have Un:src.drop (ax (ax s (1+j)) 1).pos=L.drop (j+1):=by
    show src.drop (s.pos+(1+j)+1)=_;rw[<-dA];congr 1;omega
   refine rn (xf @G @c @u @N @t @cK @n1 @c3 @y @f3) ?_;refine(akr h3 (by show s.pos+(1+j)+1<=_;omega) O).mono λv4 K4 ⟨V,h4⟩=> ?_;rw[Un] at h4;have Pe:gP A 5 1 (ints .u8) K4 z (li acc):=by
    rcases R with g | ⟨b',nV,e',g1,g2,g3,g4⟩
    ·exact .inl g
    refine .inr ⟨b',nV,e',g1,cj g2 V.1,?_,g4⟩;have sA:b'≠p:=λe=>by
     rw[e,c] at g3;have:=(cy.cells.inj g3).2.1;revert this;decide
    rw[V.2 b' g2 sA,bP,iN sA];exact g3
   cases W:jO (L.drop (j+1)) with
   | none=>
     rw[W] at h4;obtain⟨rfl,h4⟩:=h4;have S:qd q L=none:=by rw[D,kJ,iN I,iN c2,iN (by simpa using c3),ir,W];rfl
     refine rn @f3 ?_;refine HZ (Ug .u8) (ys:= [(0:Int)]) (Pe.ext (by(repeat (first | assumption | exact ag.refl _ | (refine ag.set ?_ Fo _) | (refine ag.new ?_ _))))) (h4.E.trans (by(repeat (first | assumption | exact ag.refl _ | (refine ag.set ?_ Fo _) | (refine ag.new ?_ _))))) (by simp[li];omega) (by simp[li];omega) rfl rfl λv' i C Y Z j4=> ?_;have hu:li acc++ [(0:Int)]=li (acc++ [0]):=by simp[li]
     rw[hu] at C;have h5:=bG.UC (h4.mv (K':=K4.new (.cells [.int .u8 0] 5 .ex)) (by(repeat (first | assumption | exact ag.refl _ | (refine ag.set ?_ Fo _) | (refine ag.new ?_ _))))) (Pe.ext (by(repeat (first | assumption | exact ag.refl _ | (refine ag.set ?_ Fo _) | (refine ag.new ?_ _))))) Y Z j4;refine aC ?_;all_goals exact⟨_,Om, .inr ⟨j+2,_,v',rfl,Om,S,rfl,C,Sq,by rw[UA (show(ax s (1+(j+2))).err=0 from O),<-Fa (show 1+j+1+1=1+(j+2) by omega),<-Fa (show 1+j+1=1+j+1 by omega)];exact h5⟩⟩
   | some x=>
     obtain⟨b,n⟩:=x;rw[W] at h4;obtain⟨rfl,h4⟩:=h4;obtain⟨N0,arW⟩:=akt W;simp only[ky] at N0;obtain⟨f2,rfl⟩ : ∃f2,J=f2+n:=⟨J-n,Om⟩;have UG:qd q L=(kJ q (f2+1) (L.drop (j+1+n))).map (λx=>((acc++ [ar b])++x.1,x.2+(j+1+n))):=by
      rw[D,kJ,iN I,iN c2,iN (by simpa using c3),ir,W];simp only[ir];rw[UD (f:=f2+n+1) (g:=f2+1) Sq Sq,show j+(1+n)=j+1+n by omega];cases kJ q (f2+1) (L.drop (j+1+n)) with
      | none=>rfl
      | some x=>simp;omega
     refine rn @f3 ?_;refine HZ (Ug .u8) (ys:= [(b:Int)]) (Pe.ext (by(repeat (first | assumption | exact ag.refl _ | (refine ag.set ?_ Fo _) | (refine ag.new ?_ _))))) (h4.E.trans (by(repeat (first | assumption | exact ag.refl _ | (refine ag.set ?_ Fo _) | (refine ag.new ?_ _))))) (by simp[li];omega) (by simp[li];omega) rfl rfl λv' i C Y Z j4=> ?_;have hu:li acc++ [(b:Int)]=li (acc++ [ar b]):=by simp[li];omega
     rw[hu] at C;have h5:=bG.UC (h4.mv (K':=K4.new (.cells [.int .u8 (b:Int)] 5 .ex)) (by(repeat (first | assumption | exact ag.refl _ | (refine ag.set ?_ Fo _) | (refine ag.new ?_ _))))) (Pe.ext (by(repeat (first | assumption | exact ag.refl _ | (refine ag.set ?_ Fo _) | (refine ag.new ?_ _))))) Y Z j4;refine aC ?_;all_goals exact⟨_,Om, .inl ⟨j+1+n,f2,_,v',rfl,Om,UG,rfl,C,Sq,by rw[<-Fa (show 1+j+1+n=1+(j+1+n) by omega),<-Fa (show 1+j+1=1+j+1 by omega)];exact h5⟩⟩
  have UG:qd q L=(kJ q (J+1) (L.drop (j+1))).map (λx=>((acc++ [ar (hd (L.drop j))])++x.1,x.2+(j+1))):=by
   rw[D,kJ,iN I,iN c2,iP c3,ir];cases kJ q (J+1) (L.drop (j+1)) with
   | none=>rfl
   | some x=>simp;omega
  refine rn (xf @G @c @u @N @t @cK @n1 @c3 @y @f3) ?_;refine HZ (Ug .u8) (ys:= [(hd (L.drop j):Int)]) (U.ext (by(repeat (first | assumption | exact ag.refl _ | (refine ag.set ?_ Fo _) | (refine ag.new ?_ _))))) (h3.E.trans (by(repeat (first | assumption | exact ag.refl _ | (refine ag.set ?_ Fo _) | (refine ag.new ?_ _))))) (by simp[li];omega) (by simp[li];omega) rfl rfl λv' K4 C Y Z j4=> ?_;have hu:li acc++ [(hd (L.drop j):Int)]=li (acc++ [ar (hd (L.drop j))]):=by simp[li];omega
  rw[hu] at C;have h5:=bG.UC (h3.mv (K':=(M.set p (.cells [.string (str src), .int .i64 ((s.pos+1+j+1:Nat):Int), .int .i64 s.line, .int .i64 (ax s (1+j)).dep,vo,vt, .map (some m), .int .i64 ((0:Nat):Int), .int .i64 (ax s (1+j)).wh] 110 .ex)).new (.cells [.int .u8 (hd (L.drop j):Int)] 5 .ex)) (by(repeat (first | assumption | exact ag.refl _ | (refine ag.set ?_ Fo _) | (refine ag.new ?_ _))))) (U.ext (by(repeat (first | assumption | exact ag.refl _ | (refine ag.set ?_ Fo _) | (refine ag.new ?_ _))))) Y Z j4;refine aC ?_;all_goals exact⟨_,Om, .inl ⟨j+1,J,_,v',rfl,Om,UG,rfl,C,Sq,by rw[<-Fa (show 1+j+1=1+(j+1) by omega)];exact h5⟩⟩
 have c:=h2.ob;have tm:=h2.pl;have HK:dj (ax s (1+j)) s.line 20= { ax s (1+j) with err:=20,wh:=s.line }:=UA O;rw[HK] at h2 c;have u:({ ax s (1+j) with err:=20,wh:=s.line }:RS).err=20:=rfl;have y:({ ax s (1+j) with err:=20,wh:=s.line }:RS).line=s.line:=rfl;rw[D];have hbf:({ ax s (1+j) with err:=20,wh:=s.line }:RS).out.length+({ ax s (1+j) with err:=20,wh:=s.line }:RS).cL.length<1000000:=hb;have mu : ∀o x i,bG A i p src (ki { ax s (1+j) with err:=20,wh:=s.line } 7 s.line x) vo o m->UF A i p src s vo m none:=λo x i h5=>
  ⟨o,_,h5,rfl,rfl,rfl,rfl,by simp[ki,ax],by show s.pos<s.pos+(1+j);omega,by show s.pos+(1+j)<=_;omega,rfl⟩
 rcases R with ⟨e1,rfl⟩ | ⟨b,kd,rfl,g1,g2,g3,g4⟩
 ·have ea:acc= []:=by simpa[li] using e1
  subst ea;refine rn (iD @G @c @u @f3 @y) ?_;all_goals
   refine(dz h2 7 s.line [] hbf).mono λv5 i ⟨o,h5⟩=> ?_;refine aC ?_;all_goals exact mu o _ i h5
 rw[ab5] at g3;have Ew:(li acc).length=acc.length:=by simp[li]
 rw[Ew] at f3;refine rn (rT @G @c @u @f3 @y @g3 @Pd) ?_;all_goals
  refine(dz h2 7 s.line acc hbf).mono λv5 i ⟨o,h5⟩=> ?_;refine aC ?_;all_goals exact mu o _ i h5
end
end Can
end Go.Proofs.YticlaccbodpkeaaGreatDoor
