/- Canonical runs: where they begin; what a slice reads as. Over any program. Canonical runs: calls that touch no memory of others (by evaluation, or by a run in an empty memory) as rules of a table. Over any program. The table of calls that are answered at once: the library's search for a byte. Lex: the reader in memory; its small steps. Lex: the reader's loops over bytes. Lex: escapes, strings. Lex: symbols. Lex: numbers. -/
import Derived.Test.YtdfgkcoenagaaaaGreatYc
import Derived.OpenShut
import Derived.ChangeArms
import Derived.Laws.BitsAllLaws
import Derived.SizedLaws
import Derived.Deep.CondSized
import Derived.Test.YtdfgkcoenagaaaaGreatRows
import Derived.Test.YtdfgkcoenagaaaaGreatChecked
import Derived.Laws.Externs
import Derived.Lib.Builder
import Derived.Test.YtdfgkcoenagaaaaGreatYa
open And renaming intro → ak
open Bool renaming and_eq_true → eY
open Go renaming Addr → eo, FuncId → bk, IntKind → oJ, MapEntry → pr, Program → aZ, TypeId → aH, Value → ae, World → ar
open Go.IntKind renaming bits → De
open Go.MapKept renaming bytes_beq → Ts
open Go.Utf8 renaming decode → C6
open Go.Value renaming cells → iG
open Go.World renaming cell? → CU
open Iff renaming rfl → fI
open Int renaming fdiv_eq_ediv_of_nonneg → NH, toNat_natCast → xk
open List renaming drop_drop → gA, drop_eq_nil_of_le → AR, flatMap_cons → zn, getElem?_drop → se, getElem?_eq_getElem → dA, getElem?_eq_none → qS, getElem?_map → ky, getElem?_take → mQ, getElem?_take_of_lt → AO, getElem_drop → To, getElem_map → Jh, getElem_mem → Jr, length_append → bW, length_drop → iE, length_map → lW, length_singleton → Dd, map_cons → dk, mem_append → fo, mem_append_left → vU, mem_cons → js, mem_cons_of_mem → kw, mem_filterMap → Js, nil_append → a6, range → mu, take_of_length_le → qk
open Nat renaming add_assoc → jS, add_sub_cancel_left → iZ, le_refl → ag, le_succ → nq, le_trans → cM, lt_of_lt_of_le → ep, lt_or_ge → pv, lt_succ_self → pw, zero_mul → Jq
open Option renaming map_some → fm
open UInt8 renaming ofNat → al
set_option maxRecDepth 4000
set_option linter.unusedSimpArgs false
set_option linter.unusedVariables false
namespace Go.Proofs.YtdfgkcoenagaaaaGreat
namespace Can
section
open Go Go.RowKit
variable {P:aZ} {B:Nat}
structure aJ(H K:CH):Prop where
 nx:H.nx<=K.nx
 ob : ∀l,l<H.nx->K.ob l=H.ob l
theorem aJ.refl(H:CH):aJ H H:=⟨ag _,λ_ _=>rfl⟩
theorem aJ.trans{A H K:CH}(h:aJ A H)(k:aJ H K):aJ A K:=⟨cM h.nx k.nx,λl hl=>(k.ob l (ep hl h.nx)).trans (h.ob l hl)⟩
theorem aJ.new{A H:CH}(h:aJ A H)(o:dm):aJ A (H.new o):=h.trans ⟨nq _,λl hl=>by simp[CH.new];intro e;omega⟩
theorem aJ.set{A H:CH}(h:aJ A H){l:Nat}(hl:A.nx<=l)(o:dm):aJ A (H.set l o):=⟨h.nx,λk hk=>by simp only[CH.set];rw[iN Om];exact h.ob k hk⟩
abbrev sk(α:Type):=CH->List ae->α->Prop
def nb (k:oJ):sk Int:=λ_ cs x=>cs= [.int k x]/\(Lit.int k x).wf=true
def gB {α:Type}(sz:Nat)(R:sk α)(H:CH)(a:Option eo)(c:Nat)(xs:List α):Prop:=
 (xs= []/\c=0/\(a=none\/a=some ⟨0,0,some 0⟩\/a=some ⟨0,0,some 1⟩))\/
 ∃l o os e k,a=some ⟨l,o,none⟩/\l<H.nx/\xs.length<=c/\c<=maxLen/\H.ob l= .cells os e k/\o+xs.length*sz<=os.length/\
  ∀i (h:i<xs.length),R H ((os.drop (o+i*sz)).take sz) xs[i]
def Ww {α:Type}(sz:Nat)(R:sk α):sk (List α):=λH cs xs=>∃a c,cs= [.slice a xs.length c]/\gB sz R H a c xs
def Wx{α:Type}(R:sk α):Prop:=∀(H K:CH) (cs:List ae) (x:α),aJ H K->R H cs x->R K cs x
theorem nb.iz(k:oJ):Wx (nb k):=λ_ _ _ _ _ h=>h
theorem gB.iz{α:Type}{sz:Nat}{R:sk α}(g:Wx R){H K:CH}{a:Option eo}{c:Nat}{xs:List α}(hx:aJ H K)(h:gB sz R H a c xs):gB sz R K a c xs:=by
 rcases h with h | ⟨l,o,os,e,k,b,h1,h2,h3,h4,h5,f⟩
 ·exact .inl h
 exact .inr ⟨l,o,os,e,k,b,ep h1 hx.nx,h2,h3,(hx.ob l h1).trans h4,h5,λi hi=>g _ _ _ _ hx (f i hi)⟩
def cz:ae->ae
 | .slice (some _) 0 0=> .slice (some ⟨0,0,some 0⟩) 0 0
 | .slice (some _) 0 _=> .slice (some ⟨0,0,some 1⟩) 0 0
 | v=>v
def sj:ae->ae
 | .agg cs=> .agg (cs.toList.map cz).toArray
 | v=>cz v
open Classical in
noncomputable def mask(β:Nat->aB)(v:ae):ae:=if VR β (cz v) v then cz v else undef
theorem aeZ(β:Nat->aB)(v:ae):VR β (mask β v) v:=by
 unfold mask;split;·assumption
 exact .undef _
theorem Wy{β:Nat->aB}{v:ae}(h:VR β (cz v) v):mask β v=cz v:=by unfold mask;rw[iP h]
def lA(w:ar):Nat->aB:=λb=>match w.heap[b]? with
 | some (.cells cs _ _)=> .live (b,0) 0 cs.size .ro
 | some _=> .dead
 | none=> .oL
noncomputable def tm(w:ar):CH:= { nx:=w.heap.size,ob:=λb=>match w.heap[b]? with
 | some (.cells cs _ _)=> .cells (cs.toList.map (mask (lA w))) 0 .ro
 | some _=> .dead
 | none=> .oL }
theorem ae0(w:ar):aN P w.heap.size (lA w) (tm w) w:=by
 have c : ∀l b,¬(lA w l).owns b:=λl b ho=>by
  unfold lA at ho;split at ho;·exact ho.1 rfl
  ·exact ho
  exact ho
 refine⟨λl=> ?_,λl hl=> ?_,λl l' b h1 _=>absurd h1 (c l b),ag _⟩
 ·have hb:lA w l=match w.heap[l]? with
   | some (.cells cs _ _)=> .live (l,0) 0 cs.size .ro
   | some _=> .dead
   | none=> .oL:=rfl
  have ho:(tm w).ob l=match w.heap[l]? with
   | some (.cells cs _ _)=> .cells (cs.toList.map (mask (lA w))) 0 .ro
   | some _=> .dead
   | none=> .oL:=rfl
  rw[hb,ho];cases hh:w.heap[l]? with
  | none=>exact trivial
  | some o=>
    cases o with
    | cells cs e fr=>
      refine⟨rfl,cs,e,fr,hh,rfl,s0,λi v hv=> ?_,λh=>absurd rfl h,λh=>absurd rfl h,λ_=>(Array.getElem?_eq_some_iff.1 hh).1,λh=>by cases h⟩;rw[ky] at hv;cases hc:cs.toList[i]? with
      | none=>rw[hc] at hv;cases hv
      | some u=>rw[hc] at hv;cases hv;exact⟨u,by simpa using hc,aeZ _ _⟩
    | _=>exact trivial
 show(match w.heap[l]? with | some (.cells cs _ _)=>_ | some _=>_ | none=>_)=_;have:w.heap[l]? = none:=Array.getElem?_eq_none hl;rw[this]
theorem ae1(w:ar)(b:Nat):Out (lA w) b:=λl ho=>by
 unfold lA at ho;split at ho;·exact ho.1 rfl
 ·exact ho
 exact ho
theorem ae2{w w':ar}{β':Nat->aB}(h:bD (lA w) w β' w'):Below w.heap.size w w':=
 ⟨h.os,h.tape,h.output,h.size,λk hk=>(h.cX k hk (ae1 w k)).1⟩
theorem Wz{w:ar}{b o:Nat}{v:ae}(h:w.cell? ⟨b,o,none⟩=some v) : ∃(n:Nat) (os:List ae),lA w b= .live (b,0) 0 n .ro/\(tm w).ob b= .cells (os.map (mask (lA w))) 0 .ro/\∀i,w.cell? ⟨b,i,none⟩=os[i]? :=by
 unfold CU at h;cases hh:w.heap[b]? with
 | none=>simp[hh] at h
 | some ob=>
   cases ob with
   | cells cs e fr=>
     refine⟨cs.size,cs.toList,?_,?_,λi=> ?_⟩;·unfold lA;rw[hh]
     ·show(match w.heap[b]? with | some (.cells cs _ _)=>_ | some _=>_ | none=>_)=_;rw[hh]
     simp[CU,hh]
   | _=>simp[hh] at h
section
variable {H:Type} {enc:aH×ae->H} {w:ar} {base:Nat} {spare:Nat->Bool} {held:Bool}
def WA{α:Type}(enc:aH×ae->H)(P:aZ)(w:ar)(base:Nat)(spare:Nat->Bool)(held:Bool)(t:aH)(sz:Nat)(R:sk α):Prop:=
 ∀fuel cs x,DataW.trod enc P w base spare held fuel t cs=some x->cs.length=sz/\(∀v∈cs,VR (lA w) (cz v) v)/\∃y,R (tm w) (cs.map cz) y
theorem aoV{α:Type}{R:sk α}{t e:aH}{sz:Nat}(ht:P.underlying t=some (.slice e))(hc:P.cellsOf e=sz)(hp:0<sz)(he:WA enc P w base spare held e sz R) :
 WA enc P w base spare held t 1 (Ww sz R):=by
 intro fuel cs x h;rcases Deep.open_slice ht h with ⟨rfl,_⟩ | ⟨a,len,cap,m,n,D,Q,rfl,hb,hl,q,C,_,hx⟩
 ·exact⟨rfl,λv hv=>by simp at hv;subst hv;exact .zr,[],none,0,rfl, .inl ⟨rfl,rfl, .inl rfl⟩⟩
 refine⟨rfl,?_⟩;cases len with
 | zero=>
   cases cap with
   | zero=>exact⟨λv hv=>by simp at hv;subst hv;exact .vY a,[],some ⟨0,0,some 0⟩,0,rfl, .inl ⟨rfl,rfl, .inr (.inl rfl)⟩⟩
   | succ c=>exact⟨λv hv=>by simp at hv;subst hv;exact .xD a (c+1),[],some ⟨0,0,some 1⟩,0,rfl, .inl ⟨rfl,rfl, .inr (.inr rfl)⟩⟩
 | succ len=>
   have S:len+1<=m:=by rw[C];split<;>omega
   have each : ∀i,i<len+1->∃y:α,∃es:List ae,es.length=sz/\(∀v∈es,VR (lA w) (cz v) v)/\R (tm w) (es.map cz) y/\∀j (g:j<es.length),w.cell? ((a.add (i*sz)).add j)=some es[j]:=by
    intro i hi;obtain⟨cs',h1,h2⟩:=hx i Om;obtain⟨E,hv,y,F⟩:=he _ _ _ h2;rw[hc] at h1;obtain⟨_,_,G⟩:=World.cells?_some h1;exact⟨y,cs',E,hv,F,λj g=>by rw[G j Om,dA g]⟩
   have s:a.spot=none:=by
    obtain⟨_,es,h1,_,_,h3⟩:=each 0 Om;have:=h3 0 Om;simp only[Jq,Addr.add,iT] at this;unfold CU at this;cases hs:a.spot with
    | none=>rfl
    | some k=>
      split at this;·simp[hs] at this
      cases this
   obtain⟨f,b,I⟩:=a;simp only at s;subst s;have o : ∀k j,(((⟨f,b,none⟩:eo).add k).add j)=⟨f,b+k+j,none⟩:=by
    intro k j;unfold Addr.add
    (repeat' split)<;>simp_all
   obtain⟨ys,u,J⟩:=Wv each;have L : ∃v,w.cell? ⟨f,b,none⟩=some v:=by
    obtain⟨_,es,h1,_,_,h3⟩:=each 0 Om;have:=h3 0 Om;rw[o] at this;simp only[Jq,Nat.add_zero] at this;exact⟨_,this⟩
   obtain⟨U,z⟩:=L;obtain⟨V,os,M,N,A⟩:=Wz z;have l : ∀i,i<len+1->b+(i+1)*sz<=os.length:=by
    intro i hi;obtain⟨_,es,h1,_,_,h3⟩:=each i hi;have:=h3 (sz-1) Om;rw[o,A] at this;have:=(List.getElem?_eq_some_iff.1 this).1;rw[Nat.add_mul,Nat.one_mul];omega
   have O : ∀i,i<len+1->∀es:List ae,es.length=sz->(∀v∈es,VR (lA w) (cz v) v)->(∀j (g:j<es.length),w.cell? (((⟨f,b,none⟩:eo).add (i*sz)).add j)=some es[j])->
    ((os.map (mask (lA w))).drop (b+i*sz)).take sz=es.map cz:=by
    intro i hi es h1 hv h3;apply List.ext_getElem?;intro j;by_cases g:j<sz
    ·rw[AO g,se,ky,ky,<-A];have:=h3 j Om;rw[o] at this;rw[this,dA Om];simp only[fm];rw[Wy (hv _ (Jr _))]
    rw[qS Sq,qS Sq]
   refine⟨λv hv=> ?_,ys,some ⟨f,b,none⟩,cap,?_,(.inr ⟨f,b,_,0, .ro,rfl,World.block_lt_of_cell? _ _ z,Om,q,N,?_,λi hi=> ?_⟩)⟩;·simp at hv;subst hv;exact .sl M hl (ag _) q (λh=>absurd rfl h) (λ_=>rfl)
   ·rw[u];rfl
   ·rw[u];simpa using l len Om
   obtain⟨es,h1,h2,h3,h4⟩:=J i hi;rw[O i Om es h1 h2 h4];exact h3
theorem Tz(v:ae):(sj v).cells.toList=v.cells.toList.map cz:=by
 cases v<;>try rfl
 rename_i a n c;cases a with
 | none=>rfl
 | some a=>cases n with
   | zero=>cases c<;>rfl
   | succ n=>rfl
theorem acr{v a b:ae}{r:List ae}(h:v.cells.toList=a::b::r):v= .agg (a::b::r).toArray:=by
 cases v<;>first | (exact congrArg Value.agg (by rw[<-h];simp[iG])) | (simp[iG] at h)
end
theorem acC{T:cF}{w:World}(hT:uy P w.heap.size T){f:FuncId}{args cC:List Value}(hv:aW (lA w) args cC)(h:bw T f args (tm w) λv _=>v= .bool true)(hc:q9 P f=true:=by kernel_rfl) :
 Calls P f cC.toArray w λe w'=>e= .returned (.bool true)/\Below w.heap.size w w':=by
 obtain⟨n,v,H',h1,rfl⟩:=h;refine(UX hT h1 (ae0 w) hv hc).mono λe w' ⟨v',β',he,Gr,hs,FU⟩=> ?_;cases Gr;exact⟨he,ae2 FU⟩
end
section
open Go Go.RowKit
variable {P:aZ} {B:Nat}
noncomputable def rF(P:aZ)(f:Nat):wk:=(mH P (λN ops=>jK P N ops) f).getD ⟨0,[], .skip⟩
theorem uE{T:cF}{f:bk}{args:List ae}{H H':CH}{v:ae}{Q:ae->CH->Prop}(h:bw T f args H λu K=>u=v/\K=H'):bw T f args H Q↔Q v H':=by
 constructor;·rintro⟨m,u,K,c,q⟩;obtain⟨n,_,_,e,rfl,rfl⟩:=h;have h1:=U6 (T:=T) (Nat.le_max_left m n) _ _ _ _ c;have h2:=U6 (T:=T) (Nat.le_max_right m n) _ _ _ _ e;rw[h1] at h2;cases h2;exact q
 exactλk=>h.mono λu K ⟨a,b⟩=>by subst a;subst b;exact k
end
section
open Go Go.RowKit
theorem ae3{a b:Int}(h1:0<=a)(h2:a<18446744073709551616)(h3:0<=b)(h4:b<18446744073709551616):ck (binOp .and 0 (.int .u64 a) (.int .u64 b))=some (.int .u64 ((a.toNat &&& b.toNat:Nat):Int)):=by
 rw[aeX,<-u64_and a b h1 h2 h3 h4];rfl
theorem ae4{a b:Int}(h1:0<=a)(h2:a<18446744073709551616)(h3:0<=b)(h4:b<18446744073709551616):ck (binOp .or 0 (.int .u64 a) (.int .u64 b))=some (.int .u64 ((a.toNat ||| b.toNat:Nat):Int)):=by
 rw[aeY,<-u64_or a b h1 h2 h3 h4];rfl
theorem Pk(n:Nat){a b:Int}(hb:b=((2 ^ n-1:Nat):Int))(hn:n<=64)(h1:0<=a)(h2:a<18446744073709551616):ck (binOp .and 0 (.int .u64 a) (.int .u64 b))=some (.int .u64 (a % ((2 ^ n:Nat):Int))):=by
 have hp:2 ^ n<=2 ^ 64:=Nat.pow_le_pow_right de hn;have c:1<=2 ^ n:=Nat.one_le_two_pow;rw[ae3 h1 h2 Om Om];congr 2
 rw[hb,xk,Nat.and_two_pow_sub_one_eq_mod];obtain⟨A,rfl⟩:=Int.eq_ofNat_of_zero_le h1;simp
theorem WB{a:Int}(h1:0<=a)(h2:a<18446744073709551616):ck (binOp .and 0 (.int .u64 a) (.int .u64 3))=some (.int .u64 (a % 4)):=Pk 2 de de h1 h2
theorem WC{a:Int}(h1:0<=a)(h2:a<18446744073709551616):ck (binOp .and 0 (.int .u64 a) (.int .u64 255))=some (.int .u64 (a % 256)):=Pk 8 de de h1 h2
theorem WD{a:Int}(h1:0<=a)(h2:a<18446744073709551616):ck (binOp .and 0 (.int .u64 a) (.int .u64 16777215))=some (.int .u64 (a % 16777216)):=Pk 24 de de h1 h2
section
variable {k k':oJ} {a:Int}
theorem WE:ck (binOp .shr 0 (.int .u64 a) (.int k' 2))=some (.int .u64 (a / 4)):=by rw[Ha de];simp[De,NH]
theorem WF:ck (binOp .shr 0 (.int .i64 a) (.int k' 2))=some (.int .i64 (a / 4)):=by rw[Ha de];simp[De,NH]
theorem WG:ck (binOp .shr 0 (.int .u64 a) (.int k' 8))=some (.int .u64 (a / 256)):=by rw[Ha de];simp[De,NH]
theorem WH:ck (binOp .shr 0 (.int .u64 a) (.int k' 32))=some (.int .u64 (a / 4294967296)):=by rw[Ha de];simp[De,NH]
theorem WI:ck (binOp .shr 0 (.int .u64 a) (.int k' 56))=some (.int .u64 (a / 72057594037927936)):=by rw[Ha de];simp[De,NH]
theorem WJ:ck (binOp .shl 0 (.int .u64 a) (.int k' 2))=some (.int .u64 (IntKind.u64.wrap (a*4))):=by rw[Pf de];simp[De]
theorem WK:ck (binOp .shl 0 (.int .u64 a) (.int k' 8))=some (.int .u64 (IntKind.u64.wrap (a*256))):=by rw[Pf de];simp[De]
theorem WL:ck (binOp .shl 0 (.int .u64 a) (.int k' 32))=some (.int .u64 (IntKind.u64.wrap (a*4294967296))):=by rw[Pf de];simp[De]
end
theorem WM{k:oJ}{a:Int}:ck (Op.unary .neg (.int k a))=some (.int k (k.wrap (-a))):=by simp[Op.unary,Op.intArith,ck,Pure.pure]
theorem WN{b:Int}(h3:0<=b)(h4:b<18446744073709551616):ck (binOp .or 0 (.int .u64 0) (.int .u64 b))=some (.int .u64 b):=by
 rw[ae4 Om Om h3 h4];simp;omega
theorem fW{H:CH}{o:dm}{k:Nat}:(H.new o).ob k=if k=H.nx then o else H.ob k:=rfl
theorem hY{H:CH}{o:dm}{l k:Nat}:(H.set l o).ob k=if k=l then o else H.ob k:=rfl
theorem KD{H:CH}{l:Nat}{o:dm}:mE true H l o=H.new o:=rfl
theorem KE{H:CH}{l:Nat}{o:dm}:mE false H l o=(H.set l .dead).new o:=rfl
theorem KF{cs us:List ae}:setCells cs 0 us=us++cs.drop us.length:=by simp[setCells]
theorem Pm{c:ae}{cs us:List ae}{n:Nat}:setCells (c::cs) (n+1) us=c::setCells cs n us:=by
 simp[setCells,Nat.add_right_comm n 1]
theorem WO{a:Nat}:((a:Int)+1).toNat=a+1:=by omega
theorem WP{a:Nat}:((a:Int)+2).toNat=a+2:=by omega
theorem WQ{a b:Nat}:((a:Int)+(b:Int)).toNat=a+b:=by omega
theorem WR{a b:Nat}:((a:Int)+2+(b:Int)).toNat=a+2+b:=by omega
theorem oc:maxLen=9223372036854775807:=rfl
theorem BB{z:ae}:mD [z] 1= [z]:=rfl
theorem WS{α β:Type}{f:α->β}{l:List α}:(l.map f).take l.length=l.map f:=by rw[<-lW f,List.take_length]
theorem Pn{p:Prop}[Decidable p](h:p):decide p=true:=decide_eq_true h
theorem Po{p:Prop}[Decidable p](h : ¬p):decide p=false:=decide_eq_false h
theorem bL{T:cF}{p:Prop}[Decidable p]{a b:bP}{fr:Fr}{H:CH}{Q:bQ->Fr->CH->Prop}(h1:p->dx T a fr H Q)(h2 : ¬p->dx T b fr H Q):Bz T (.bool (decide p)) a b fr H Q:=
 aeU (λh=>h1 (of_decide_eq_true h)) (λh=>h2 (of_decide_eq_false h))
theorem bM{T:cF}{p:Prop}[Decidable p]{b:Bool}{d:Option Nat}{op:fF}{r:List Item}{fr:Fr}{H:CH}{K:Fr->CH->Prop}(h1:p->nZ T (.bool true) b d op r fr H K)(h2 : ¬p->nZ T (.bool false) b d op r fr H K):nZ T (.bool (decide p)) b d op r fr H K:=
 aeV (λh=>h1 (of_decide_eq_true h)) (λh=>h2 (of_decide_eq_false h))
section
variable {T:cF}
def oU (T:cF)(af:List Item)(fr:Fr)(H:CH)(acc:List CH)(K:Fr->CH->List CH->Prop):Prop:=zH T af fr H λf L l=>K f L (acc++l)
def uF (b:Bool)(H:CH)(acc:List CH):List CH:=if b then acc++ [H] else acc
theorem uG{H:CH}{acc:List CH}:uF true H acc=acc++ [H]:=rfl
theorem uH{H:CH}{acc:List CH}:uF false H acc=acc:=rfl
def BC(T:cF)(r:List Item)(fr:Fr)(d:Option Nat)(w:Bool)(acc:List CH)(K:Fr->CH->List CH->Prop):ae->CH->Prop:=λv H=>oU T r (bE fr d v) H (uF w H acc) K
theorem Pp{r:List Item}{fr:Fr}{d:Option Nat}{w:Bool}{acc:List CH}{K:Fr->CH->List CH->Prop}{v:ae}{H:CH}:BC T r fr d w acc K v H↔oU T r (bE fr d v) H (uF w H acc) K:=fI
def qv(T:cF)(v:ae)(b:Bool)(d:Option Nat)(op:fF)(r:List Item)(fr:Fr)(H:CH)(acc:List CH)(K:Fr->CH->List CH->Prop):Prop:=match v with
 | .bool c=>if c=b then lH T fr H op (BC T r fr d (cn op) acc K) else oU T r (bE fr d jH) H (uF (cn op) H acc) K
 | .chan none=>oU T r (bE fr d jH) H (uF (cn op) H acc) K
 | _=>False
theorem Pq{fr:Fr}{H:CH}{acc:List CH}{K:Fr->CH->List CH->Prop}:oU T [] fr H acc K↔K fr H acc:=by
 unfold oU;rw[Vc];simp
theorem Ec{af:List Item}{fr:Fr}{H G:CH}{b:Bool}{acc:List CH}{K:Fr->CH->List CH->Prop}:(zH T af fr H λf L l=>K f L (acc++if b then G::l else l))↔oU T af fr H (uF b G acc) K:=by
 unfold oU uF;cases b<;>simp
theorem KG{d:Option Nat}{op:fF}{r:List Item}{fr:Fr}{H:CH}{acc:List CH}{K:Fr->CH->List CH->Prop}:oU T (⟨d,op,none⟩::r) fr H acc K↔lH T fr H op (BC T r fr d (cn op) acc K):=by
 unfold oU;rw[J9];simp only[ec];unfold BC;constructor<;>rintro⟨n,v,H',h1,h2⟩;·exact⟨n,v,H',h1,Ec.1 h2⟩
 exact⟨n,v,H',h1,Ec.2 h2⟩
theorem WT{d:Option Nat}{op:fF}{s:Nat}{b:Bool}{r:List Item}{fr:Fr}{H:CH}{acc:List CH}{K:Fr->CH->List CH->Prop}:oU T (⟨d,op,some (s,b)⟩::r) fr H acc K↔qv T (fr s) b d op r fr H acc K:=by
 unfold oU;rw[J9];simp only[ec];generalize fr s=v;unfold qv;cases v with
 | bool c=>
   simp only;by_cases e:c=b
   ·subst e;simp only[beq_self_eq_true,iT];unfold BC;constructor<;>rintro⟨n,v,H',h1,h2⟩;·exact⟨n,v,H',h1,Ec.1 h2⟩
    exact⟨n,v,H',h1,Ec.2 h2⟩
   have:(c==b)=false:=by simpa using e
   simp only[this,iN e];exact Ec
 | chan r=>cases r<;>first | exact Ec | exact fI
 | _=>exact fI
variable {d:Option Nat} {op:fF} {r:List Item} {fr:Fr} {H:CH} {acc:List CH} {K:Fr->CH->List CH->Prop}
theorem WU:qv T (.bool true) true d op r fr H acc K↔lH T fr H op (BC T r fr d (cn op) acc K):=by simp[qv]
theorem WV:qv T (.bool false) false d op r fr H acc K↔lH T fr H op (BC T r fr d (cn op) acc K):=by simp[qv]
theorem WW:qv T (.bool true) false d op r fr H acc K↔oU T r (bE fr d jH) H (uF (cn op) H acc) K:=by simp[qv]
theorem WX:qv T (.bool false) true d op r fr H acc K↔oU T r (bE fr d jH) H (uF (cn op) H acc) K:=by simp[qv]
theorem WY{b:Bool}:qv T jH b d op r fr H acc K↔oU T r (bE fr d jH) H (uF (cn op) H acc) K:=by simp[qv,jH]
theorem bN{p:Prop}[Decidable p]{b:Bool}(h1:p->qv T (.bool true) b d op r fr H acc K)(h2 : ¬p->qv T (.bool false) b d op r fr H acc K):qv T (.bool (decide p)) b d op r fr H acc K:=by
 by_cases h:p
 ·rw[decide_eq_true h];exact h1 h
 rw[decide_eq_false h];exact h2 h
def sD:List (Item×Nat)->Fr->List CH->Prop->Prop
 | [],_,_,R=>R
 | (it,k)::cs,fr,l,R=>(∃G,l[k]? = some G/\wj fr G it)/\sD cs fr l R
theorem ae5{cs:List (Item×Nat)}{fr:Fr}{l:List CH}{R:Prop}:sD cs fr l R↔(∀p∈cs,∃G,l[p.2]? = some G/\wj fr G p.1)/\R:=by
 induction cs with
 | nil=>simp[sD]
 | cons c cs b=>obtain⟨it,k⟩:=c;simp only[sD,b,js,forall_eq_or_imp,and_assoc]
def Ps (m7:List (Item×Nat))(b:CH)(Q:bQ->Fr->CH->Prop):Fr->CH->List CH->Prop:=λfr H l=>sD m7 fr (b::l) (Q .normal fr H)
theorem Pt{m7:List (Item×Nat)}{b:CH}{Q:bQ->Fr->CH->Prop}{l:List CH}:Ps m7 b Q fr H l↔sD m7 fr (b::l) (Q .normal fr H):=fI
theorem Pu{af:List Item}{b:Option (List Item)}{c:Item×Nat}{cs:List (Item×Nat)}{Q:bQ->Fr->CH->Prop}:dx T (.lF ⟨af,c::cs,b⟩) fr H Q↔oU T af fr H [] (Ps (c::cs) H Q):=by
 rw[OM];unfold oU Ps;simp only[a6,ae5]
def zS (o:Option ae)(v:ae)(R:Prop):Prop:=o=some v/\R
theorem Pv{v:ae}{R:Prop}:zS (some v) v R↔R:=by simp[zS]
def tE (v:ae)(b:Bool)(g:Option CH)(x:gU)(d:Nat)(fr:Fr)(R:Prop):Prop:=
 (∃G,g=some G/\((match v with | .bool c=>some (c==b) | .chan none=>some false | _=>none)=some false\/bg G (aO fr) x=some (fr d)))/\R
def KH (g:Option CH)(x:gU)(d:Nat)(fr:Fr)(R:Prop):Prop:=(∃G,g=some G/\bg G (aO fr) x=some (fr d))/\R
theorem Pw{l:List CH}{R:Prop}:sD [] fr l R↔R:=fI
theorem Px{d:Nat}{x:gU}{k:Nat}{cs:List (Item×Nat)}{l:List CH}{R:Prop}:sD ((⟨some d, .l x,none⟩,k)::cs) fr l R↔KH l[k]? x d fr (sD cs fr l R):=by
 simp[sD,KH,wj,ec]
theorem WZ{d:Nat}{x:gU}{s k:Nat}{b:Bool}{cs:List (Item×Nat)}{l:List CH}{R:Prop}:sD ((⟨some d, .l x,some (s,b)⟩,k)::cs) fr l R↔tE (fr s) b l[k]? x d fr (sD cs fr l R):=by
 simp only[sD,tE,wj];have:ec fr (some (s,b))=(match fr s with | .bool c=>some (c==b) | .chan none=>some false | _=>none):=by
  unfold ec;simp only;cases fr s<;>rfl
 rw[this];simp
theorem Py{G:CH}{x:gU}{d:Nat}{R:Prop}:KH (some G) x d fr R↔zS (bg G (aO fr) x) (fr d) R:=by simp[KH,zS]
theorem W3{G:CH}{x:gU}{d:Nat}{R:Prop}:tE (.bool true) true (some G) x d fr R↔zS (bg G (aO fr) x) (fr d) R:=by simp[tE,zS]
theorem W4{G:CH}{x:gU}{d:Nat}{R:Prop}:tE (.bool false) false (some G) x d fr R↔zS (bg G (aO fr) x) (fr d) R:=by simp[tE,zS]
theorem W5{G:CH}{x:gU}{d:Nat}{R:Prop}:tE (.bool true) false (some G) x d fr R↔R:=by simp[tE]
theorem W6{G:CH}{x:gU}{d:Nat}{R:Prop}:tE (.bool false) true (some G) x d fr R↔R:=by simp[tE]
theorem W7{b:Bool}{G:CH}{x:gU}{d:Nat}{R:Prop}:tE jH b (some G) x d fr R↔R:=by simp[tE,jH]
end
end
section
open Go Go.RowKit
variable {T:cF}
def nc (af:List Item):List Nat:=af.filterMap (·.dst)
def pK:bP->List Nat
 | .gG af=>nc af
 | .lF d=>nc d.af
 | .seq a b=>pK a++pK b
 | .cond _ a b=>pK a++pK b
 | .block _ c=>pK c
 | .loop c=>pK c
 | _=> []
def nw (c:bP)(t:Nat):Bool:= !(pK c).elem t
theorem W8{h:Hd}{it:Item}{fr fr':Fr}{H H':CH}(hs:cA h it fr H=some (fr',H')){t:Nat}(ht:it.dst≠some t):fr' t=fr t:=by
 have hp : ∀v,bE fr it.dst v t=fr t:=λv=>by
  cases hd:it.dst with
  | none=>rfl
  | some d=>simp only[bE];rw[iN];rintro rfl;exact ht hd
 simp only[cA] at hs;split at hs
 ·cases b:eb h fr H it.op with
  | none=>rw[b] at hs;cases hs
  | some q=>rw[b] at hs;cases hs;exact hp _
 ·cases hs;exact hp _
 cases hs
theorem W9{h:Hd}{t:Nat} : ∀ {af:List Item} {fr fr':Fr} {H H':CH},c7 h af fr H=some (fr',H')->t∉nc af->fr' t=fr t
 | [],fr,fr',H,H',b,ht=>by simp only[c7,Option.some.injEq,Prod.mk.injEq] at b;rw[b.1]
 | it::af,fr,fr',H,H',b,ht=>by
   simp only[c7] at b;cases hs:cA h it fr H with
   | none=>rw[hs] at b;cases b
   | some q=>
     rw[hs] at b;have h1:it.dst≠some t:=λe=>ht (by simp[nc,e]);have h2:t∉nc af:=λc=>ht (by
      simp only[nc,Js] at c⊢;obtain⟨x,hx,hd⟩:=c;exact⟨x,kw _ hx,hd⟩)
     exact(W9 b h2).trans (W8 hs h1)
theorem Xa{t:Nat}{f:Fr->CH->Gt}(e : ∀fr H x fr' H',f fr H=some (x,fr',H')->fr' t=fr t) : ∀ {n:Nat} {fr fr':Fr} {H H':CH} {x:bQ},oS n f fr H=some (x,fr',H')->fr' t=fr t
 | 0,fr,fr',H,H',x,b=>by simp[oS] at b
 | n+1,fr,fr',H,H',x,b=>by
   simp only[oS] at b;cases c:f fr H with
   | none=>rw[c] at b;cases b
   | some q=>
     obtain⟨y,aj,H1⟩:=q;rw[c] at b;have h1:=e _ _ _ _ _ c;cases y with
     | normal=>exact(Xa e b).trans h1
     | exit i=>cases b;exact h1
     | ret=>cases b;exact h1
theorem PA{h:Hd}{n t:Nat} : ∀ {c:bP} {fr fr':Fr} {H H':CH} {x:bQ},bG h n c fr H=some (x,fr',H')->t∉pK c->fr' t=fr t:=by
 intro c;induction c with
 | bad=>intro fr fr' H H' x f ht;simp[bG] at f
 | skip=>intro fr fr' H H' x f ht;simp only[bG,Option.some.injEq,Prod.mk.injEq] at f;rw[f.2.1]
 | gG af=>
   intro fr fr' H H' x f ht;simp only[bG] at f;cases hi:c7 h af fr H with
   | none=>rw[hi] at f;cases f
   | some q=>rw[hi] at f;cases f;exact W9 hi ht
 | lF d=>
   intro fr fr' H H' x f ht;simp only[bG,su] at f;cases hi:cE h d.af fr H with
   | none=>rw[hi] at f;cases f
   | some q=>
     obtain⟨f1,K,l⟩:=q;rw[hi] at f;simp only at f;split at f;·cases f;exact Bs (λy p e=>ht (by simp only[pK,nc,Js];exact⟨y,p,e⟩)) hi
     cases f
 | seq a b j m=>
   intro fr fr' H H' x f ht;simp only[pK,fo,not_or] at ht;simp only[bG] at f;cases ha:bG h n a fr H with
   | none=>rw[ha] at f;cases f
   | some q=>
     obtain⟨y,aj,H1⟩:=q;rw[ha] at f;have h1:=j ha ht.1;cases y with
     | normal=>exact(m f ht.2).trans h1
     | exit i=>cases f;exact h1
     | ret=>cases f;exact h1
 | cond c a b j m=>
   intro fr fr' H H' x f ht;simp only[pK,fo,not_or] at ht;simp only[bG] at f;split at f;·exact j f ht.1
   ·exact m f ht.2
   cases f
 | block id c o=>
   intro fr fr' H H' x f ht;simp only[bG] at f;cases ha:bG h n c fr H with
   | none=>rw[ha] at f;cases f
   | some q=>
     obtain⟨y,aj,H1⟩:=q;rw[ha] at f;have h1:=o ha ht;cases y with
     | normal=>cases f;exact h1
     | exit i=>simp only at f;split at f<;>(cases f;exact h1)
     | ret=>cases f;exact h1
 | loop c o=>
   intro fr fr' H H' x f ht;simp only[bG] at f;exact Xa (λfr H x fr' H' s=>o s ht) f
 | exit id=>intro fr fr' H H' x f ht;simp only[bG,Option.some.injEq,Prod.mk.injEq] at f;rw[f.2.1]
 | ret=>intro fr fr' H H' x f ht;simp only[bG,Option.some.injEq,Prod.mk.injEq] at f;rw[f.2.1]
 | rh g key=>
   intro fr fr' H H' x f ht;simp only[bG] at f;split at f
   ·split at f
    ·split at f
     ·split at f;·cases f
      cases f;rfl
     cases f
    cases f
   cases f
theorem ae6{c:bP}{fr:Fr}{H:CH}{Q:bQ->Fr->CH->Prop}(h:dx T c fr H Q):dx T c fr H λx fr' H'=>Q x fr' H'/\∀t,nw c t=true->fr' t=fr t:=by
 obtain⟨n,x,fr',H',h1,h2⟩:=h;exact⟨n,x,fr',H',h1,h2,λt ht=>PA h1 (by simpa[nw] using ht)⟩
theorem sE{c:bP}{Q:bQ->Fr->CH->Prop}(I:Nat->Fr->CH->Prop){n:Nat}{fr:Fr}{H:CH}(e:I n fr H)(step : ∀n aj H1,I n aj H1->(∀t,nw c t=true->aj t=fr t)->dx T c aj H1 (Ea I n Q)):dx T (.loop c) fr H Q:=by
 refine aeW (λm aj H1=>I m aj H1/\∀t,nw c t=true->aj t=fr t) ?_ ⟨e,λ_ _=>rfl⟩;rintro m aj H1 ⟨hi,hk⟩;refine(ae6 (step m aj H1 hi hk)).mono λx fr' H' ⟨b,f⟩=> ?_;cases x with
 | normal=>obtain⟨k,g,h⟩:=b;exact⟨k,g,h,λt ht=>(f t ht).trans (hk t ht)⟩
 | exit i=>exact b
 | ret=>exact b
def qw (e sz bytes:Nat)(s:ae)(xs:List ae)(m:Nat)(H:CH):Option (ae×CH):=match s with
 | .slice none 0 0=>if m=0 then some (.slice none 0 0,H) else if xs.all cj=true/\m*bytes<=140737488355328/\m<=maxLen then some (.slice (some ⟨H.nx,0,none⟩) m m,H.new (.cells xs e .gr)) else none
 | .slice (some ⟨a,b,some 0⟩) 0 0=>if m=0 then some (.slice (some ⟨a,b,some 0⟩) 0 0,H) else if xs.all cj=true/\m*bytes<=140737488355328/\m<=maxLen then some (.slice (some ⟨H.nx,0,none⟩) m m,H.new (.cells xs e .gr)) else none
 | .slice (some ⟨l,o,none⟩) n c=>match H.ob l with
   | .cells cs e' k=>
     if m=0 then some (.slice (some ⟨l,o,none⟩) n c,H)
     else if o=0/\e'=e/\k.eM=false/\n*sz<=cs.length/\xs.all cj=true/\(n+m)*bytes<=140737488355328/\n+m<=maxLen then
      some (.slice (some ⟨H.nx,0,none⟩) (n+m) (n+m),mE (k.kA&&decide (c<n+m)) H l (.cells (cs.take (n*sz)++xs) e .gr))
     else if k.kA=true/\c<n+m/\e'=e/\o+n*sz<=cs.length/\xs.all cj=true/\(n+m)*bytes<=140737488355328/\n+m<=maxLen then
      some (.slice (some ⟨H.nx,0,none⟩) (n+m) (n+m),H.new (.cells ((cs.drop o).take (n*sz)++xs) e .gr))
     else if (k.kA&&decide (c<n+m))=false/\e'=e/\k.eM=false/\o+n*sz<=cs.length/\xs.all cj=true/\(n+m+(n+m) / 4+192)*bytes<=281474976710656/\n+m<=maxLen then
      some (.slice (some ⟨H.nx,0,none⟩) (n+m) (n+m),(H.set l .dead).new (.cells ((cs.drop o).take (n*sz)++xs) e .gr))
     else none
   | _=>none
 | _=>none
theorem Ed{e sz bytes m:Nat}{xs:List ae}{H:CH}:qw e sz bytes (.slice none 0 0) xs m H=if m=0 then some (.slice none 0 0,H) else if xs.all cj=true/\m*bytes<=140737488355328/\m<=maxLen then some (.slice (some ⟨H.nx,0,none⟩) m m,H.new (.cells xs e .gr)) else none:=rfl
theorem KI{e sz bytes m a b:Nat}{xs:List ae}{H:CH}:qw e sz bytes (.slice (some ⟨a,b,some 0⟩) 0 0) xs m H=if m=0 then some (.slice (some ⟨a,b,some 0⟩) 0 0,H) else if xs.all cj=true/\m*bytes<=140737488355328/\m<=maxLen then some (.slice (some ⟨H.nx,0,none⟩) m m,H.new (.cells xs e .gr)) else none:=rfl
def PB (q:dm)(e sz bytes l o n c:Nat)(xs:List ae)(m:Nat)(H:CH):Option (ae×CH):=match q with
 | .cells cs e' k=>
   if m=0 then some (.slice (some ⟨l,o,none⟩) n c,H)
   else if o=0/\e'=e/\k.eM=false/\n*sz<=cs.length/\xs.all cj=true/\(n+m)*bytes<=140737488355328/\n+m<=maxLen then
    some (.slice (some ⟨H.nx,0,none⟩) (n+m) (n+m),mE (k.kA&&decide (c<n+m)) H l (.cells (cs.take (n*sz)++xs) e .gr))
   else if k.kA=true/\c<n+m/\e'=e/\o+n*sz<=cs.length/\xs.all cj=true/\(n+m)*bytes<=140737488355328/\n+m<=maxLen then
    some (.slice (some ⟨H.nx,0,none⟩) (n+m) (n+m),H.new (.cells ((cs.drop o).take (n*sz)++xs) e .gr))
   else if (k.kA&&decide (c<n+m))=false/\e'=e/\k.eM=false/\o+n*sz<=cs.length/\xs.all cj=true/\(n+m+(n+m) / 4+192)*bytes<=281474976710656/\n+m<=maxLen then
    some (.slice (some ⟨H.nx,0,none⟩) (n+m) (n+m),(H.set l .dead).new (.cells ((cs.drop o).take (n*sz)++xs) e .gr))
   else none
 | _=>none
theorem Hb{cs:List ae}{e':Nat}{k:Kd}{e sz bytes l o n c m:Nat}{xs:List ae}{H:CH}:PB (.cells cs e' k) e sz bytes l o n c xs m H=if m=0 then some (.slice (some ⟨l,o,none⟩) n c,H)
 else if o=0/\e'=e/\k.eM=false/\n*sz<=cs.length/\xs.all cj=true/\(n+m)*bytes<=140737488355328/\n+m<=maxLen then
  some (.slice (some ⟨H.nx,0,none⟩) (n+m) (n+m),mE (k.kA&&decide (c<n+m)) H l (.cells (cs.take (n*sz)++xs) e .gr))
 else if k.kA=true/\c<n+m/\e'=e/\o+n*sz<=cs.length/\xs.all cj=true/\(n+m)*bytes<=140737488355328/\n+m<=maxLen then
  some (.slice (some ⟨H.nx,0,none⟩) (n+m) (n+m),H.new (.cells ((cs.drop o).take (n*sz)++xs) e .gr))
 else if (k.kA&&decide (c<n+m))=false/\e'=e/\k.eM=false/\o+n*sz<=cs.length/\xs.all cj=true/\(n+m+(n+m) / 4+192)*bytes<=281474976710656/\n+m<=maxLen then
  some (.slice (some ⟨H.nx,0,none⟩) (n+m) (n+m),(H.set l .dead).new (.cells ((cs.drop o).take (n*sz)++xs) e .gr))
 else none:=rfl
theorem Hc{e sz bytes l o n c m:Nat}{xs:List ae}{H:CH}:qw e sz bytes (.slice (some ⟨l,o,none⟩) n c) xs m H=PB (H.ob l) e sz bytes l o n c xs m H:=by
 simp only[qw,PB]
def Xb (o:Option (List ae×Nat))(e sz bytes:Nat)(s:ae)(H:CH):Option (ae×CH):=match o with
 | some (xs,m)=>qw e sz bytes s xs m H
 | none=>none
theorem Hf{xs:List ae}{m e sz bytes:Nat}{s:ae}{H:CH}:Xb (some (xs,m)) e sz bytes s H=qw e sz bytes s xs m H:=rfl
theorem PD{H:CH}{ev:Operand->ae}{e sz bytes:Nat}{s x:Operand}:cy H ev (.app e sz bytes s x)=Xb (pD H sz (ev x)) e sz bytes (ev s) H:=by
 simp only[cy];cases pD H sz (ev x) with
 | none=>rfl
 | some q=>rfl
theorem Xc{z:ae}:mD [z] 2= [z,z]:=by simp[mD,mu,List.range.loop,Nat.mod_one]
theorem Xd{z:ae}:mD [z] 3= [z,z,z]:=by simp[mD,mu,List.range.loop,Nat.mod_one]
def PE (o:dm)(off m sz:Nat):Option (List ae×Nat):=match o with
 | .cells cs _ _=>if off+m*sz<=cs.length then some ((cs.drop off).take (m*sz),m) else none
 | _=>none
theorem Hh{cs:List ae}{e off m sz:Nat}{k:Kd}:PE (.cells cs e k) off m sz=if off+m*sz<=cs.length then some ((cs.drop off).take (m*sz),m) else none:=rfl
theorem KJ{H:CH}{sz:Nat}:pD H sz (.slice none 0 0)=some ([],0):=rfl
theorem KK{H:CH}{sz a b k:Nat}:pD H sz (.slice (some ⟨a,b,some k⟩) 0 0)=some ([],0):=rfl
theorem PF{H:CH}{sz l o m c:Nat}:pD H sz (.slice (some ⟨l,o,none⟩) m c)=if m=0 then some ([],0) else PE (H.ob l) o m sz:=by
 simp only[pD,PE];split;·rfl
 cases H.ob l<;>rfl
theorem KL{H:CH}{sz:Nat}{s:ByteArray}:pD H sz (.string s)=if sz=1 then some (s.data.toList.map λb=> .int .u8 b.toNat,s.size) else none:=rfl
def nH {α:Type}(A:CH)(e sz:Nat)(f:α->List ae)(K:CH)(v:ae)(xs:List α):Prop:=
 (xs= []/\v= .slice none 0 0)\/∃b kd,v= .slice (some ⟨b,0,none⟩) xs.length xs.length/\A.nx<=b/\b<K.nx/\K.ob b= .cells (xs.flatMap f) e kd/\kd.eM=false
theorem Xe{α:Type}{f:α->List ae}{sz:Nat}(b : ∀x,(f x).length=sz) : ∀xs:List α,(xs.flatMap f).length=xs.length*sz
 | []=>by simp
 | x::xs=>by simp only[zn,bW,b,Xe b xs,List.length_cons,Nat.succ_mul];omega
theorem ae7{α:Type}{A K:CH}{e sz bytes:Nat}{f:α->List ae}(m : ∀x,(f x).length=sz/\(f x).all cj=true){v:ae}{xs ys:List α}(hg:nH A e sz f K v xs)(hA:aJ A K)(hb:(xs.length+ys.length)*bytes<=140737488355328)(q:xs.length+ys.length<=9223372036854775807) :
 ∃v' K',qw e sz bytes v (ys.flatMap f) ys.length K=some (v',K')/\nH A e sz f K' v' (xs++ys)/\aJ A K'/\K.nx<=K'.nx/\∀l,l<K.nx->(∀o n c,v≠ .slice (some ⟨l,o,none⟩) n c)->K'.ob l=K.ob l:=by
 have s:(ys.flatMap f).all cj=true:=by
  rw[List.all_eq_true];intro x hx;obtain⟨y,_,z⟩:=List.mem_flatMap.1 hx;exact List.all_eq_true.1 (m y).2 x z
 rcases hg with ⟨rfl,rfl⟩ | ⟨b,kd,rfl,h1,h2,h3,t⟩
 ·by_cases i:ys.length=0
  ·have:ys= []:=List.length_eq_zero_iff.1 i;subst this;exact⟨_,K,by simp[qw], .inl ⟨rfl,rfl⟩,hA,ag _,λ_ _ _=>rfl⟩
  refine⟨_,_,by simp only[qw,i,iF];rw[iP ⟨s,by simpa using hb,by rw[oc];simpa using q⟩], .inr ⟨K.nx, .gr,s0,hA.nx,pw _,by simp[fW],rfl⟩,hA.new _,nq _,λl hl _=>by rw[fW,iN Om]⟩
 by_cases i:ys.length=0
 ·have:ys= []:=List.length_eq_zero_iff.1 i;subst this;exact⟨.slice (some ⟨b,0,none⟩) xs.length xs.length,K,by simp[qw,h3], .inr ⟨b,kd,s0,h1,h2,by simpa using h3,t⟩,hA,ag _,λ_ _ _=>rfl⟩
 have g:(xs.flatMap f).length=xs.length*sz:=Xe (λx=>(m x).1) xs;have j : ∀o,(mE (kd.kA&&decide (xs.length<xs.length+ys.length)) K b o).nx=K.nx+1:=λo=>by unfold mE;split<;>rfl
 have C : ∀o,(mE (kd.kA&&decide (xs.length<xs.length+ys.length)) K b o).ob K.nx=o:=λo=>by
  unfold mE;split<;>(simp only[CH.new,CH.set];simp)
 have u : ∀o l,l<K.nx->l≠b->(mE (kd.kA&&decide (xs.length<xs.length+ys.length)) K b o).ob l=K.ob l:=λo l hl hb=>by
  unfold mE;split;·rw[fW,iN Om]
  rw[fW,iN (by show l≠K.nx;omega),hY,iN hb]
 refine⟨_,_,by simp only[qw,h3,i,iF];rw[iP ⟨trivial,trivial,t,by rw[g];exact ag _,s,hb,by rw[oc];exact q⟩], .inr ⟨K.nx, .gr,s0,hA.nx,?_,?_,rfl⟩,?_,?_,λl hl av=> ?_⟩;·rw[j];exact pw _
 ·rw[C,<-g,List.take_length,List.flatMap_append]
 ·refine⟨by rw[j];exact Nat.le_succ_of_le hA.nx,λl hl=> ?_⟩;rw[u _ l (ep hl hA.nx) Om];exact hA.ob l hl
 ·rw[j];exact nq _
 refine u _ l hl ?_;rintro rfl;exact av _ _ _ rfl
theorem nH.ext{α:Type}{A:CH}{e sz:Nat}{f:α->List ae}{K K':CH}{v:ae}{xs:List α}(h:nH A e sz f K v xs)(hx:aJ K K'):nH A e sz f K' v xs:=by
 rcases h with h | ⟨b,kd,c,h1,h2,h3,h4⟩
 ·exact .inl h
 exact .inr ⟨b,kd,c,h1,ep h2 hx.nx,(hx.ob b h2).trans h3,h4⟩
theorem KN{α:Type}{A K:CH}{e sz bytes:Nat}{f:α->List ae}(b : ∀x,(f x).length=sz/\(f x).all cj=true){v:ae}{xs ys:List α}(hg:nH A e sz f K v xs)(hA:aJ A K)(hb:(xs.length+ys.length)*bytes<=140737488355328)(g:xs.length+ys.length<=9223372036854775807){us:List ae}{m:Nat}(hu:us=ys.flatMap f)(hl:m=ys.length)
 {Q:ae->CH->Prop} (k : ∀v' K',nH A e sz f K' v' (xs++ys)->aJ A K'->K.nx<=K'.nx->(∀l,l<K.nx->(∀o n c,v≠ .slice (some ⟨l,o,none⟩) n c)->K'.ob l=K.ob l)->Q v' K'):G6 (qw e sz bytes v us m K) Q:=by
 subst hu hl;obtain⟨v',K',h1,h2,h3,h4,h5⟩:=ae7 b hg hA hb g;rw[h1];exact k v' K' h2 h3 h4 h5
def ints (k:oJ):Int->List ae:=λx=> [.int k x]
theorem PG(k:oJ) : ∀x,(ints k x).length=1/\(ints k x).all cj=true:=λx=>⟨rfl,rfl⟩
theorem KO(k:oJ)(xs:List Int):xs.flatMap (ints k)=xs.map (.int k):=by
 induction xs with
 | nil=>rfl
 | cons x xs b=>simp only[zn,b,ints,dk,List.cons_append,a6]
theorem Xh{k:oJ}{H:CH}{q:Option eo}{c:Nat}{xs:List Int}(h:gB 1 (nb k) H q c xs):pD H 1 (.slice q xs.length c)=some (xs.flatMap (ints k),xs.length):=by
 rw[KO];rcases h with ⟨rfl,rfl,rfl | rfl | rfl⟩ | ⟨l,o,os,e,kd,rfl,hl,hc,n,f,g,j⟩
 ·rfl
 ·rfl
 ·rfl
 by_cases b:xs.length=0
 ·have:xs= []:=List.length_eq_zero_iff.1 b;subst this;simp[pD]
 simp only[pD,iN b,f];rw[iP g];congr 2
 apply List.ext_getElem;·simp;omega
 intro i h1 h2;have hi:i<xs.length:=by simpa using h2
 have h3:=(j i hi).1;have h4:((os.drop (o+i*1)).take 1)[0]? = some (.int k xs[i]):=by rw[h3];rfl
 rw[AO Om,se] at h4;have h5:os[o+i]? = some (.int k xs[i]):=by simpa using h4
 rw[List.getElem_take,To,Jh];rw[List.getElem?_eq_some_iff] at h5;obtain⟨_,m⟩:=h5;exact m
end
section
open Go Go.RowKit
variable {P:aZ} {B:Nat}
section
variable {H:Type} {enc:aH×ae->H} {w:ar} {base:Nat} {spare:Nat->Bool} {held:Bool} {Bk:DataW H->Nat}
structure PH(Bk:DataW H->Nat):Prop where
 one : ∀d,1<=Bk d
 slice : ∀elems spare,(elems.map Bk).sum+1<=Bk (.slice elems spare)
 agg : ∀parts,(parts.map Bk).sum+1<=Bk (.agg parts)
 str : ∀bs,bs.length+1<=Bk (.lit (.string bs))
def CO {α:Type}(Bk:DataW H->Nat)(enc:aH×ae->H)(P:aZ)(w:ar)(base:Nat)(spare:Nat->Bool)(held:Bool)(t:aH)(sz:Nat)(R:sk α)(Z:α->Prop)(μ:α->Nat):Prop:=
 ∀fuel cs x,DataW.trod enc P w base spare held fuel t cs=some x->cs.length=sz/\(∀v∈cs,VR (lA w) (cz v) v)/\∃y,R (tm w) (cs.map cz) y/\((x.1.weights P t).all (· <=reachBytes)=true->Z y)/\μ y<=Bk x.1
theorem acB(b:PH Bk){t:aH}{k:oJ}(ht:P.underlying t=some (.int k)):CO Bk enc P w base spare held t 1 (nb k) (λ_=>True) (λ_=>1):=by
 intro fuel cs x h;obtain⟨n,rfl,_,h3⟩:=DataW.trod_int ht h;exact⟨rfl,λv hv=>by simp at hv;subst hv;exact .int _ _,n,⟨rfl,h3⟩,λ_=>trivial,b.one _⟩
theorem ae8{xs ys:List Nat}(hl:xs.length=ys.length)(h : ∀i (h1:i<xs.length) (h2:i<ys.length),xs[i]<=ys[i]):xs.sum<=ys.sum:=by
 induction xs generalizing ys with
 | nil=>simp
 | cons x xs b=>
   cases ys with
   | nil=>simp at hl
   | cons y ys=>
     have c:=h 0 s0 s0;have:=b (ys:=ys) (by simpa using hl) (λi h1 h2=>h (i+1) (by simpa using h1) (by simpa using h2));simp at c⊢;omega
theorem Xi{e:aH}{d:DataW H} : ∀ {l:List (DataW H)},(DataW.weightsAll P e l).all (· <=reachBytes)=true->d∈l->(d.weights P e).all (· <=reachBytes)=true
 | [],_,h=>by cases h
 | x::l,h,hd=>by
   simp only[DataW.weightsAll,List.all_append,eY] at h;rcases List.mem_cons.1 hd with rfl | hd
   ·exact h.1
   exact Xi h.2 hd
theorem acA(o:PH Bk){α:Type}{R:sk α}{Z:α->Prop}{μ:α->Nat}{t e:aH}{sz:Nat}(ht:P.underlying t=some (.slice e))(hc:P.cellsOf e=sz)(hp:0<sz)(he:CO Bk enc P w base spare held e sz R Z μ) :
 CO Bk enc P w base spare held t 1 (Ww sz R) (λxs=>xs.length*P.bytesOf e<=reachBytes/\∀x∈xs,Z x) (λxs=>(xs.map μ).sum+1):=by
 intro fuel cs x h;rcases Deep.open_slice ht h with ⟨rfl,rfl⟩ | ⟨a,len,cap,m,n,D,W,rfl,hb,hl,q,I,C,hx⟩
 ·exact⟨rfl,λv hv=>by simp at hv;subst hv;exact .zr,[],⟨none,0,rfl, .inl ⟨rfl,rfl, .inl rfl⟩⟩,λ_=>⟨s0,λx hx=>by cases hx⟩,by simpa using o.one _⟩
 refine⟨rfl,?_⟩;cases len with
 | zero=>
   cases cap with
   | zero=>exact⟨λv hv=>by simp at hv;subst hv;exact .vY a,[],⟨some ⟨0,0,some 0⟩,0,rfl, .inl ⟨rfl,rfl, .inr (.inl rfl)⟩⟩,λ_=>⟨s0,λx hx=>by cases hx⟩,by simpa using o.one _⟩
   | succ c=>exact⟨λv hv=>by simp at hv;subst hv;exact .xD a (c+1),[],⟨some ⟨0,0,some 1⟩,0,rfl, .inl ⟨rfl,rfl, .inr (.inr rfl)⟩⟩,λ_=>⟨s0,λx hx=>by cases hx⟩,by simpa using o.one _⟩
 | succ len=>
   have X:len+1<=m:=by rw[I];split<;>omega
   have each : ∀i,i<len+1->∃y:α,∃es:List ae,es.length=sz/\(∀v∈es,VR (lA w) (cz v) v)/\(R (tm w) (es.map cz) y/\((((D i).weights P e).all (· <=reachBytes)=true->Z y)/\μ y<=Bk (D i)))/\∀j (f:j<es.length),w.cell? ((a.add (i*sz)).add j)=some es[j]:=by
    intro i hi;obtain⟨cs',h1,h2⟩:=hx i Om;obtain⟨J,hv,y,L,hz,q⟩:=he _ _ _ h2;rw[hc] at h1;obtain⟨_,_,M⟩:=World.cells?_some h1;exact⟨y,cs',J,hv,⟨L,hz,q⟩,λj f=>by rw[M j Om,dA f]⟩
   have E:a.spot=none:=by
    obtain⟨_,es,h1,_,_,h3⟩:=each 0 Om;have:=h3 0 Om;simp only[Jq,Addr.add,iT] at this;unfold CU at this;cases hs:a.spot with
    | none=>rfl
    | some k=>
      split at this;·simp[hs] at this
      cases this
   obtain⟨g,b,N⟩:=a;simp only at E;subst E;have s : ∀k j,(((⟨g,b,none⟩:eo).add k).add j)=⟨g,b+k+j,none⟩:=by
    intro k j;unfold Addr.add
    (repeat' split)<;>simp_all
   obtain⟨ys,u,z⟩:=Wv each;have O : ∃v,w.cell? ⟨g,b,none⟩=some v:=by
    obtain⟨_,es,h1,_,_,h3⟩:=each 0 Om;have:=h3 0 Om;rw[s] at this;simp only[Jq,Nat.add_zero] at this;exact⟨_,this⟩
   obtain⟨Y,F⟩:=O;obtain⟨nn,os,Q,S,G⟩:=Wz F;have l : ∀i,i<len+1->b+(i+1)*sz<=os.length:=by
    intro i hi;obtain⟨_,es,h1,_,_,h3⟩:=each i hi;have:=h3 (sz-1) Om;rw[s,G] at this;have:=(List.getElem?_eq_some_iff.1 this).1;rw[Nat.add_mul,Nat.one_mul];omega
   have U : ∀i,i<len+1->∀es:List ae,es.length=sz->(∀v∈es,VR (lA w) (cz v) v)->(∀j (f:j<es.length),w.cell? (((⟨g,b,none⟩:eo).add (i*sz)).add j)=some es[j])->
    ((os.map (mask (lA w))).drop (b+i*sz)).take sz=es.map cz:=by
    intro i hi es h1 hv h3;apply List.ext_getElem?;intro j;by_cases f:j<sz
    ·rw[AO f,se,ky,ky,<-G];have:=h3 j Om;rw[s] at this;rw[this,dA Om];simp only[fm];rw[Wy (hv _ (Jr _))]
    rw[qS Sq,qS Sq]
   refine⟨λv hv=> ?_,ys,⟨some ⟨g,b,none⟩,cap,?_,(.inr ⟨g,b,_,0, .ro,rfl,World.block_lt_of_cell? _ _ F,Om,q,S,?_,λi hi=> ?_⟩)⟩,λhz=> ?_,?_⟩;·simp at hv;subst hv;exact .sl Q hl (ag _) q (λh=>absurd rfl h) (λ_=>rfl)
   ·rw[u];rfl
   ·rw[u];simpa using l len Om
   ·obtain⟨es,h1,h2,h3,h4⟩:=z i hi;rw[U i Om es h1 h2 h4];exact h3.1
   ·rw[C] at hz;simp only[DataW.weights,ht,List.all_cons,List.all_append,eY,decide_eq_true_eq,lW,List.length_range] at hz;refine⟨cM (Nat.mul_le_mul_right _ Om) hz.1,λx V=> ?_⟩;obtain⟨i,hi,rfl⟩:=List.getElem_of_mem V;obtain⟨es,h1,h2,h3,h4⟩:=z i hi;refine h3.2.1 ?_;have A:D i∈(mu (len+1)).map D:=List.mem_map.2 ⟨i,List.mem_range.2 Om,rfl⟩;exact Xi hz.2.1 A
   rw[C];refine cM ?_ (o.slice _ _);refine Nat.succ_le_succ ?_;refine ae8 (by simp[u]) λi hi f=> ?_;simp only[Jh,List.getElem_range];obtain⟨es,h1,h2,h3,h4⟩:=z i (by simpa using hi);exact h3.2.2
theorem acz{α:Type}{t:aH}{sz:Nat}{R:sk α}{Z:α->Prop}{μ:α->Nat}(he:CO Bk enc P w base spare held t sz R Z μ){v:ae}{d:DataW H}{p:List MemPlace}(h:DataW.Trod enc P w base spare held t v d p) :
 VR (lA w) (sj v) v/\(sj v).cells.toList.length=sz/\∃y,R (tm w) (sj v).cells.toList y/\((d.weights P t).all (· <=reachBytes)=true->Z y)/\μ y<=Bk d:=by
 obtain⟨fuel,b⟩:=h;obtain⟨h1,h2,h3⟩:=he fuel _ _ b;rw[Tz];refine⟨?_,by simpa using h1,h3⟩;by_cases hv : ∃cs,v= .agg cs
 ·obtain⟨cs,rfl⟩:=hv;refine .agg s0 λi i1 i2=> ?_;simp only[List.getElem_toArray,Jh,Array.getElem_toList];exact h2 _ (by simp[iG])
 have hc:v.cells= #[v]:=by cases v<;>first | rfl | exact absurd ⟨_,rfl⟩ hv
 have hz:sj v=cz v:=by cases v<;>first | rfl | exact absurd ⟨_,rfl⟩ hv
 rw[hz];exact h2 v (by rw[hc];simp)
theorem acw{ts:List aH}{ds:List (DataW H)}(h:(DataW.weightsEach P ts ds).all (· <=reachBytes)=true){j:Nat}{t:aH}{d:DataW H}(ht:ts[j]? = some t)(hd:ds[j]? = some d):(d.weights P t).all (· <=reachBytes)=true:=
 List.all_eq_true.2 λn hn=>List.all_eq_true.1 h n (DataW.weights_mem_each ht hd n hn)
end
end
section
open Go Go.RowKit
theorem PI{H:Type} : ∀l:List (DataW H),Rows.uptoBulkAll l=(l.map Rows.uptoBulk).sum
 | []=>by simp[Rows.uptoBulkAll]
 | d::r=>by simp[Rows.uptoBulkAll,PI r]
theorem TJ{H:Type}:PH (H:=H) Rows.uptoBulk where
 one d:=by
  cases d with
  | lit l=>cases l<;>simp[Rows.uptoBulk]
  | nil=>simp[Rows.uptoBulk]
  | ptr d=>simp[Rows.uptoBulk]
  | slice elems spare=>simp[Rows.uptoBulk]
  | agg parts=>simp[Rows.uptoBulk]
  | iface t d=>simp[Rows.uptoBulk]
  | map entries=>simp[Rows.uptoBulk]
  | held h=>simp[Rows.uptoBulk]
 slice elems spare:=by simp only[Rows.uptoBulk,PI];omega
 agg parts:=by simp only[Rows.uptoBulk,PI];omega
 str bs:=by simp[Rows.uptoBulk]
end
section
open Go Go.RowKit
end
section
open Go Go.RowKit
theorem RD:type_of% (ak (ak (ak (ak (ak (@D7) (ak (@O8) (@D8))) (ak (@VV) (ak (@VW) (@VX)))) (ak (ak (@VY) (ak (@VZ) (@Wf))) (ak (ak (@Wg) (@Wh)) (ak (@V0) (@O9))))) (ak (ak (ak (@G8) (ak (@V1) (@Kt))) (ak (ak (@Ku) (@Kv)) (ak (@G9) (@Pp)))) (ak (ak (@Pq) (ak (@KG) (@WT))) (ak (ak (@WU) (@WV)) (ak (@WW) (@WX)))))) (ak (ak (ak (ak (@WY) (ak (@Pt) (@Pu))) (ak (ak (@Pw) (@Px)) (ak (@WZ) (@V2)))) (ak (ak (@V3) (ak (@V4) (@V5))) (ak (ak (@V6) (@V7)) (ak (@G') (@D9))))) (ak (ak (ak (@Kw) (ak (@Kx) (@Ky))) (ak (ak (@Pa) (@V8)) (ak (@V9) (@V')))) (ak (ak (@Wa) (ak (@Wb) (@DQ))) (ak (ak (@OK) (@Va)) (ak (@OL) (@PD))))))):=ak (ak (ak (ak (ak (@D7) (ak (@O8) (@D8))) (ak (@VV) (ak (@VW) (@VX)))) (ak (ak (@VY) (ak (@VZ) (@Wf))) (ak (ak (@Wg) (@Wh)) (ak (@V0) (@O9))))) (ak (ak (ak (@G8) (ak (@V1) (@Kt))) (ak (ak (@Ku) (@Kv)) (ak (@G9) (@Pp)))) (ak (ak (@Pq) (ak (@KG) (@WT))) (ak (ak (@WU) (@WV)) (ak (@WW) (@WX)))))) (ak (ak (ak (ak (@WY) (ak (@Pt) (@Pu))) (ak (ak (@Pw) (@Px)) (ak (@WZ) (@V2)))) (ak (ak (@V3) (ak (@V4) (@V5))) (ak (ak (@V6) (@V7)) (ak (@G') (@D9))))) (ak (ak (ak (@Kw) (ak (@Kx) (@Ky))) (ak (ak (@Pa) (@V8)) (ak (@V9) (@V')))) (ak (ak (@Wa) (ak (@Wb) (@DQ))) (ak (ak (@OK) (@Va)) (ak (@OL) (@PD))))))
theorem RU:type_of% (ak (ak (ak (ak (ak (ak (@Py) (@W3)) (ak (@W4) (ak (@W5) (@W6)))) (ak (ak (@W7) (@Pv)) (ak (@D6) (ak (@Ko) (@Kq))))) (ak (ak (ak (@Ks) (@Wi)) (ak (@Pe) (ak (@Wj) (@Wk)))) (ak (ak (@Wl) (@Wm)) (ak (@Wn) (ak (@Wo) (@Wp)))))) (ak (ak (ak (ak (@KB) (@Wq)) (ak (@na) (ak (@Wr) (@Ws)))) (ak (ak (@Wt) (@Wu)) (ak (@decide_true) (ak (@decide_false) (@KF))))) (ak (ak (ak (@Pm) (@PF)) (ak (@Bool.or_false) (ak (@Bool.or_true) (@List.append_nil.{0})))) (ak (ak (@List.take_nil.{0}) (ak (@Bool.and_true) (@List.getElem?_toArray.{0}))) (ak (@ag) (ak (@WM) (@WN))))))) (ak (ak (ak (ak (ak (@Int.zero_mul) (@Int.zero_add)) (ak (@Int.add_zero) (ak (@WB) (@WC)))) (ak (ak (@WD) (@WE)) (ak (@WF) (ak (@WG) (@WH))))) (ak (ak (ak (@WI) (@WJ)) (ak (@WK) (ak (@WL) (@WO)))) (ak (ak (@WP) (ak (@WQ) (@WR))) (ak (@Xc) (ak (@Xd) (@WS)))))) (ak (ak (ak (ak (@List.length_map.{0,0}) (@List.map_append.{0,0})) (ak (@List.length_append.{0}) (ak (@beq_self_eq_true.{0}) (@beq_true)))) (ak (ak (@beq_false) (@Bool.false_xor)) (ak (@Bool.true_xor) (ak (@Bool.xor_false) (@Bool.xor_true))))) (ak (ak (ak (@Pn) (@Po)) (ak (@Hc) (ak (@Hb) (@iP.{1})))) (ak (ak (@iN.{1}) (ak (@Nat.mul_one) (@Nat.one_mul))) (ak (@Nat.zero_add) (ak (@true_and) (@and_true)))))))):=ak (ak (ak (ak (ak (ak (@Py) (@W3)) (ak (@W4) (ak (@W5) (@W6)))) (ak (ak (@W7) (@Pv)) (ak (@D6) (ak (@Ko) (@Kq))))) (ak (ak (ak (@Ks) (@Wi)) (ak (@Pe) (ak (@Wj) (@Wk)))) (ak (ak (@Wl) (@Wm)) (ak (@Wn) (ak (@Wo) (@Wp)))))) (ak (ak (ak (ak (@KB) (@Wq)) (ak (@na) (ak (@Wr) (@Ws)))) (ak (ak (@Wt) (@Wu)) (ak (@decide_true) (ak (@decide_false) (@KF))))) (ak (ak (ak (@Pm) (@PF)) (ak (@Bool.or_false) (ak (@Bool.or_true) (@List.append_nil.{0})))) (ak (ak (@List.take_nil.{0}) (ak (@Bool.and_true) (@List.getElem?_toArray.{0}))) (ak (@ag) (ak (@WM) (@WN))))))) (ak (ak (ak (ak (ak (@Int.zero_mul) (@Int.zero_add)) (ak (@Int.add_zero) (ak (@WB) (@WC)))) (ak (ak (@WD) (@WE)) (ak (@WF) (ak (@WG) (@WH))))) (ak (ak (ak (@WI) (@WJ)) (ak (@WK) (ak (@WL) (@WO)))) (ak (ak (@WP) (ak (@WQ) (@WR))) (ak (@Xc) (ak (@Xd) (@WS)))))) (ak (ak (ak (ak (@List.length_map.{0,0}) (@List.map_append.{0,0})) (ak (@List.length_append.{0}) (ak (@beq_self_eq_true.{0}) (@beq_true)))) (ak (ak (@beq_false) (@Bool.false_xor)) (ak (@Bool.true_xor) (ak (@Bool.xor_false) (@Bool.xor_true))))) (ak (ak (ak (@Pn) (@Po)) (ak (@Hc) (ak (@Hb) (@iP.{1})))) (ak (ak (@iN.{1}) (ak (@Nat.mul_one) (@Nat.one_mul))) (ak (@Nat.zero_add) (ak (@true_and) (@and_true)))))))
theorem ρ0{α β:Type}{f:α->β}{a:α}{l:List α}:(a::l).map f=f a::l.map f:=rfl
theorem ρ1{α β:Type}{f:α->β}:([]:List α).map f= []:=rfl
theorem ρ2:(!true)=false:=rfl
theorem ρ3:(!false)=true:=rfl
theorem ρ4{α β:Type}{f:α->β}{a:α}:(some a).map f=some (f a):=rfl
theorem ρ5{α:Type}{a:α}{l:List α}:(a::l)[0]? = some a:=rfl
theorem ρ6{α:Type}{a:α}{l:List α}{n:Nat}:(a::l)[n+1]? = l[n]? :=rfl
theorem ρ7{α:Type}{a:α}{l:List α}:(a::l).length=l.length+1:=rfl
theorem ρ8{α:Type}:([]:List α).length=0:=rfl
theorem ρ9{α:Type}:(none:Option α).isSome=false:=rfl
theorem ρ10{α:Type}:(none:Option α).isNone=true:=rfl
theorem ρ11{α:Type}{a:α}:(some a).isSome=true:=rfl
theorem ρ12{α:Type}{a:α}:(some a).isNone=false:=rfl
theorem ρ13{b:Bool}:(true||b)=true:=rfl
theorem ρ14{b:Bool}:(false||b)=b:=rfl
theorem ρ15{α:Type}{a:α}{l:List α}{n:Nat}:(a::l).take (n+1)=a::l.take n:=rfl
theorem ρ16{α:Type}{l:List α}:l.take 0= []:=rfl
theorem ρ17{α:Type}{a:α}{l:List α}{n:Nat}:(a::l).drop (n+1)=l.drop n:=rfl
theorem ρ18{α:Type}{l:List α}:l.drop 0=l:=rfl
theorem ρ19{α:Type}{a:α}{l m:List α}:(a::l)++m=a::(l++m):=rfl
theorem ρ20{α:Type}{l:List α} : []++l=l:=rfl
theorem ρ21{α:Type}{n:Nat}:([]:List α).drop n= []:=List.drop_nil
theorem ρ22{α:Type}{p:α->Bool}{a:α}{l:List α}:(a::l).all p=(p a&&l.all p):=rfl
theorem ρ23{α:Type}{p:α->Bool}:([]:List α).all p=true:=rfl
theorem ρ24{b:Bool}:(true&&b)=b:=rfl
theorem ρ25{α:Type}{l:List α}:l.toArray.size=l.length:=rfl
theorem ρ26{α:Type}{l:List α}:l.toArray.toList=l:=rfl
theorem ρ27{b:Bool}:(false&&b)=false:=rfl
theorem ρ28{n:Nat}:n+0=n:=rfl
theorem ρ29{n:Nat}:(n:Int).toNat=n:=rfl
theorem an{F G:Prop}(f:F)(g:G):F/\G:=⟨f,g⟩
theorem rn{p q F:Prop}(f:F)(k:q)(h:F->q->p:=by
 intro f k;repeat' (first | (simp (disch:=first | omega | (decide +kernel) | (repeat first | assumption | exact aJ.refl _ | refine aJ.set ?_ Fo _ | refine aJ.new ?_ _)) only[↓RD,RU,uG,uH,cn,↓cg,↓jx,↓cU,↓dr,↓KA,gC,AW,fW,hY,di,rv,Eb,pop,bg,fT,cy,ct,jf,eV,kz,isVal,cj,Value.cells,ρ0,ρ1,ρ2,ρ3,ρ4,↓reduceIte,Nat.reduceEqDiff,Nat.reduceAdd,Int.reduceOfNat,Int.reduceNegSucc,reduceCtorEq,ρ5,ρ6,ρ7,ρ8,Hh,KJ,KK,KL,eJ,xI,v8,ρ9,ρ10,ρ11,ρ12,ρ13,ρ14,ρ15,ρ16,ρ17,ρ18,ρ19,ρ20,ρ21,ρ22,ρ23,ρ24,Kd.eM,ρ25,ρ26,jY,Nat.reduceLeDiff,Int.reduceMul,Int.reduceAdd,Int.reduceSub,Int.reduceToNat,oc,BB,Hf,Ed,KI,KD,KE,Kd.kA,ρ27,uj,CH.set_set,Dv,xO,isKey,xU,Dy,ρ28,ρ29,f]) | ((with_reducible first|apply bL|apply bM|apply bN)<;>intro _))
 exact k):p:=h f k
theorem rz{p F:Prop}(f:F)(h:F->p:=by
 intro f;repeat' (first | (simp (disch:=first | omega | (decide +kernel) | (repeat first | assumption | exact aJ.refl _ | refine aJ.set ?_ Fo _ | refine aJ.new ?_ _)) only[↓RD,RU,uG,uH,cn,↓cg,↓jx,↓cU,↓dr,↓KA,gC,AW,fW,hY,di,rv,Eb,pop,bg,fT,cy,ct,jf,eV,kz,isVal,cj,Value.cells,ρ0,ρ1,ρ2,ρ3,ρ4,↓reduceIte,Nat.reduceEqDiff,Nat.reduceAdd,Int.reduceOfNat,Int.reduceNegSucc,reduceCtorEq,ρ5,ρ6,ρ7,ρ8,Hh,KJ,KK,KL,eJ,xI,v8,ρ9,ρ10,ρ11,ρ12,ρ13,ρ14,ρ15,ρ16,ρ17,ρ18,ρ19,ρ20,ρ21,ρ22,ρ23,ρ24,Kd.eM,ρ25,ρ26,jY,Nat.reduceLeDiff,Int.reduceMul,Int.reduceAdd,Int.reduceSub,Int.reduceToNat,oc,BB,Hf,Ed,KI,KD,KE,Kd.kA,ρ27,uj,CH.set_set,Dv,xO,isKey,xU,Dy,ρ28,ρ29,f]) | ((with_reducible first|apply bL|apply bM|apply bN)<;>intro _))):p:=h f
theorem db{p q:Prop}(k:q)(h:q->p:=by
 intro k;repeat' (first | (simp (disch:=first | omega | (decide +kernel) | (repeat first | assumption | exact aJ.refl _ | refine aJ.set ?_ Fo _ | refine aJ.new ?_ _)) only[↓RD,RU,uG,uH,cn,↓cg,↓jx,↓cU,↓dr,↓KA,gC,AW,fW,hY,di,rv,Eb,pop,bg,fT,cy,ct,jf,eV,kz,isVal,cj,Value.cells,ρ0,ρ1,ρ2,ρ3,ρ4,↓reduceIte,Nat.reduceEqDiff,Nat.reduceAdd,Int.reduceOfNat,Int.reduceNegSucc,reduceCtorEq,ρ5,ρ6,ρ7,ρ8,Hh,KJ,KK,KL,eJ,xI,v8,ρ9,ρ10,ρ11,ρ12,ρ13,ρ14,ρ15,ρ16,ρ17,ρ18,ρ19,ρ20,ρ21,ρ22,ρ23,ρ24,Kd.eM,ρ25,ρ26,jY,Nat.reduceLeDiff,Int.reduceMul,Int.reduceAdd,Int.reduceSub,Int.reduceToNat,oc,BB,Hf,Ed,KI,KD,KE,Kd.kA,ρ27,uj,CH.set_set,Dv,xO,isKey,xU,Dy,ρ28,ρ29]) | ((with_reducible first|apply bL|apply bM|apply bN)<;>intro _))
 exact k):p:=h k
theorem Ee{p:Prop}(h:p:=by
 repeat' (first | (simp (disch:=first | omega | (decide +kernel) | (repeat first | assumption | exact aJ.refl _ | refine aJ.set ?_ Fo _ | refine aJ.new ?_ _)) only[↓RD,RU,uG,uH,cn,↓cg,↓jx,↓cU,↓dr,↓KA,gC,AW,fW,hY,di,rv,Eb,pop,bg,fT,cy,ct,jf,eV,kz,isVal,cj,Value.cells,ρ0,ρ1,ρ2,ρ3,ρ4,↓reduceIte,Nat.reduceEqDiff,Nat.reduceAdd,Int.reduceOfNat,Int.reduceNegSucc,reduceCtorEq,ρ5,ρ6,ρ7,ρ8,Hh,KJ,KK,KL,eJ,xI,v8,ρ9,ρ10,ρ11,ρ12,ρ13,ρ14,ρ15,ρ16,ρ17,ρ18,ρ19,ρ20,ρ21,ρ22,ρ23,ρ24,Kd.eM,ρ25,ρ26,jY,Nat.reduceLeDiff,Int.reduceMul,Int.reduceAdd,Int.reduceSub,Int.reduceToNat,oc,BB,Hf,Ed,KI,KD,KE,Kd.kA,ρ27,uj,CH.set_set,Dv,xO,isKey,xU,Dy,ρ28,ρ29]) | ((with_reducible first|apply bL|apply bM|apply bN)<;>intro _))):p:=h
end
section
open Go Go.RowKit
variable {P:aZ} {B:Nat}
def KP(P:aZ)(f:bk)(args:List ae)(v:ae):Prop:=
 (q9 P f=true/\Of args=true/\ut v=true/\∀w,CallsIn Fence.wide 0 P f args.toArray w λe w'=>e= .returned v/\w'.os=w.os/\w'.tape=w.tape/\w'.output=w.output/\w.heap.size<=w'.heap.size/\∀b,b<w.heap.size->w'.heap[b]? = w.heap[b]?)\/Gp P f args v
noncomputable def bj(P:aZ)(L:List bk)(G:bk->List ae->Option ae):cF:=
 ⟨mH P (λN ops=>jK P N ops),J7 P (λN ops=>jK P N ops),λf=>L.elem f,⟨λf args H=>(G f args).map λv=>(v,H),λ_ _ _=>none⟩⟩
theorem KQ{L:List bk}{G:bk->List ae->Option ae}(g : ∀f args v,G f args=some v->KP P f args v):uy P B (bj P L G):=by
 refine⟨λf rf h=>U5 (λN ops d h=>Km h) h,λkey ps bF body h=>aeo (λN ops d h=>Km h) h,⟨λf args H v H' h=> ?_,λl args H v H' h=>(by cases h)⟩⟩;have h':(G f args).map (λv=>(v,H))=some (v,H'):=h;rw[Option.map_eq_some_iff] at h';obtain⟨u,hu,he⟩:=h';cases he;rcases g _ _ _ hu with ⟨hc,ha,hv,hw⟩ | hx
 case inr=>exact .inr ⟨hx,rfl⟩
 refine .inl ⟨hc,fun β w j c i=> ?_⟩;rw[UK ha i];refine(hw w).mono λe w' ⟨he,h1,h2,h3,h4,h5⟩=>⟨v,β,he,Gm hv β,?_,?_⟩;·exact⟨λl=>(c.iI l).mono (eU.refl β) λb hb=>h5 b (Dj c hb),c.nx,c.inj,cM c.base h4⟩
 exact⟨h1,h2,h3,h4,λb hb ho=>⟨h5 b hb,ho⟩,eU.refl β⟩
theorem ae'{L:List bk}{G:bk->List ae->Option ae}{f:bk}{args:List ae}{v:ae}(c:L.elem f=true)(hv:G f args=some v){H:CH}{Q:ae->CH->Prop}:bw (bj P L G) f args H Q↔Q v H:=by
 have b : ∀n,pH (bj P L G) (n+1) f args H=some (v,H):=λn=>by
  simp only[pH,da];have:(bj P L G).ext f=true:=c;rw[iP this];show(G f args).map (λv=>(v,H))=some (v,H);rw[hv];rfl
 constructor
 ·rintro⟨n,u,H',h1,h2⟩;cases n with
  | zero=>simp[pH,da] at h1
  | succ n=>rw[b n] at h1;cases h1;exact h2
 exactλh=>⟨1,v,H,b 0,h⟩
theorem ij{L:List bk}{G:bk->List ae->Option ae}{f:Nat}(he:L.elem f=false)(h:(mH P (λN ops=>jK P N ops) f).isSome=true){args:List ae}{H:CH}{Q:ae->CH->Prop}(k:dx (bj P L G) (rF P f).body (λt=>args.getD t undef) H (zQ (rF P f).res Q)):bw (bj P L G) f args H Q:=by
 refine Pd he ?_ k;unfold rF;show mH P (λN ops=>jK P N ops) f=some ((mH P (λN ops=>jK P N ops) f).getD ⟨0,[], .skip⟩);cases b:mH P (λN ops=>jK P N ops) f with
 | none=>rw[b] at h;cases h
 | some r=>rfl
end
section
open Go Go.RowKit
noncomputable def GX(f:bk)(args:List ae):Option ae:=match args with
 | [.string s, .int .u8 c]=>if f=104 then some (.int .i64 (firstIdx s c.toNat.toUInt8)) else none
 | [.pointer a]=>if f=91 then some (.pointer a) else none
 | _=>none
theorem afa(a:Option eo):Gp Tryz.prog 91 [.pointer a] (.pointer a):=by
 refine⟨rfl,fun β c b=> ?_⟩;obtain⟨v',f,g⟩:=b.2 0 _ rfl;have hl:=b.1;match c,hl with
 | [u],_=>
   cases f;refine⟨v',g,λw=> ?_⟩;rw[run_callFunc_extern (e:=Extern.AbiNoEscape.same) Tryz.func91 Kr Kr Kr Kr];rw[show([v']:List ae).toArray= #[v'] from rfl,Lib.run_noEscape];rfl
theorem afb(s:ByteArray)(c:Int):Gp Tryz.prog 104 [.string s, .int .u8 c] (.int .i64 (firstIdx s c.toNat.toUInt8)):=by
 refine ad9 rfl rfl λw=> ?_;rw[run_callFunc_extern (e:=Extern.BytealgIndexByte.indexByte) Tryz.func104 Kr Kr Kr Kr];have:=run_indexByte_string (P:=Tryz.prog) s c w;rw[show([Value.string s, .int .u8 c]:List ae).toArray= #[.string s, .int .u8 c] from rfl,this];rfl
theorem afc : ∀f args v,GX f args=some v->KP Tryz.prog f args v:=by
 intro f args v h;unfold GX at h;split at h
 ·split at h;·rename_i e;subst e;cases h;exact .inr (afb _ _)
  cases h
 ·split at h;·rename_i e;subst e;cases h;exact .inr (afa _)
  cases h
 cases h
def LG:List bk:= [104,91]
noncomputable def GG(f:bk)(args:List ae):Option ae:=GX f args
theorem Xj : ∀f args v,GG f args=some v->KP Tryz.prog f args v:=afc
theorem Hi{B:Nat}:uy Tryz.prog B (bj Tryz.prog LG GG):=KQ Xj
theorem Xk{s:ByteArray}{c:Int}{H:CH}{Q:ae->CH->Prop}:bw (bj Tryz.prog LG GG) 104 [.string s, .int .u8 c] H Q↔Q (.int .i64 (firstIdx s c.toNat.toUInt8)) H:=ae' Rl Rl
abbrev str(l:List UInt8):ByteArray:=⟨⟨l⟩⟩
def zT (t:c8):List ae:= [.int .i64 t.kind, .int .i64 t.line, .string (str t.text)]
theorem afd : ∀t,(zT t).length=3/\(zT t).all cj=true:=λ_=>⟨rfl,rfl⟩
theorem afe{a b c:ae}:mD [a,b,c] 3= [a,b,c]:=by simp[mD,mu,List.range.loop]
theorem n1{a:Nat}:((a:Int)+1)=((a+1:Nat):Int):=rfl
theorem Hj{n:Nat}{h:n<2 ^ 8}:(UInt8.ofBitVec (BitVec.ofFin ⟨n,h⟩))=al n:=by
 apply UInt8.toNat.inj;simp[UInt8.toNat,al];omega
theorem ia{l:List UInt8}{i:Nat}:(str l)[i]? = l[i]? :=by
 show(if h:i<(str l).size then some ((str l)[i]'h) else none)=_;by_cases h:i<l.length
 ·have h':i<(str l).size:=h;rw[dif_pos h',dA h];rfl
 have h' : ¬i<(str l).size:=h;rw[dif_neg h',qS Om]
theorem cG{l:List UInt8}:(str l).size=l.length:=rfl
theorem gu{l:List UInt8}{a b:Nat}:(str l).extract a b=str ((l.drop a).take (b-a)):=by
 apply ByteArray.ext;apply Array.ext';simp[ByteArray.data_extract,List.extract_eq_take_drop]
theorem Xl{a b:List UInt8}:((str a).toList==(str b).toList)=decide (a=b):=by
 have h : ∀l:List UInt8,(str l).toList=l:=λl=>by simp[ByteArray.toList_eq]
 rw[h,h];by_cases e:a=b
 ·simp[e]
 rw[decide_eq_false e];simpa using e
theorem Ef{a b:List UInt8}:ck (binOp .eql 0 (.string (str a)) (.string (str b)))=some (.bool (decide (a=b))):=by
 simp only[binOp,Op.stringOp,ck,Pure.pure,Xl]
structure RS where
 pos:Nat
 line:Nat
 dep:Nat
 cP:List Nat
 out:List c8
 err:Nat
 wh:Nat
structure RS.Bd(s:RS):Prop where
 pos:s.pos<=100000
 line:s.line<=100000
 dep:s.dep<=100000
 err:s.err<=100
 wh:s.wh<=100000
 out:s.out.length+s.cP.length<=1000000
def Eg(A K:CH)(v:ae)(ns:List Nat):Prop:=∃b kd c os,v= .slice (some ⟨b,0,none⟩) ns.length c/\A.nx<=b/\b<K.nx/\K.ob b= .cells os 3 kd/\kd.eM=false/\ns.length<=c/\c<=2000000/\ns.length<=os.length/\∀i,i<ns.length->os[i]? = some (.int .i64 (ns.getD i 0:Nat))
def zU:Array pr:=((jV.zipIdx).map λx=>({ key:= .string (str x.1),val:= .int .i64 1,born:=x.2 }:pr)).toArray
structure bH(A K:CH)(p:Nat)(src:List UInt8)(s:RS)(vo vt:ae)(m:Nat):Prop where
 ob:K.ob p= .cells [.string (str src), .int .i64 s.pos, .int .i64 s.line, .int .i64 s.dep,vo,vt, .map (some m), .int .i64 s.err, .int .i64 s.wh] 55 .ex
 pl:p<K.nx
 pa:A.nx<=p
 cP:Eg A K vo s.cP
 out:nH A 65 3 zT K vt s.out
 mp:K.ob m= .map zU 31
 ml:m<K.nx
 ma:A.nx<=m
 E:aJ A K
 bd:s.Bd
 sl:src.length<=20000
theorem bH.mv{A K K':CH}{p:Nat}{src:List UInt8}{s:RS}{vo vt:ae}{m:Nat}(h:bH A K p src s vo vt m)(hx:aJ K K'):bH A K' p src s vo vt m:=by
 obtain⟨b,kd,c,os,h1,h2,h3,h4,h5⟩:=h.cP;exact⟨(hx.ob _ h.pl).trans h.ob,ep h.pl hx.nx,h.pa,⟨b,kd,c,os,h1,h2,ep h3 hx.nx,(hx.ob _ h3).trans h4,h5⟩,h.out.ext hx,(hx.ob _ h.ml).trans h.mp,ep h.ml hx.nx,h.ma,h.E.trans hx,h.bd,h.sl⟩
theorem bH.set{A K:CH}{p:Nat}{src:List UInt8}{s s':RS}{vo vt:ae}{m:Nat}(h:bH A K p src s vo vt m)(ho:s'.cP=s.cP)(ht:s'.out=s.out)(hb:s'.Bd) :
 bH A (K.set p (.cells [.string (str src), .int .i64 s'.pos, .int .i64 s'.line, .int .i64 s'.dep,vo,vt, .map (some m), .int .i64 s'.err, .int .i64 s'.wh] 55 .ex)) p src s' vo vt m:=by
 have f:=h.ob;obtain⟨b,kd,c,os,h1,h2,h3,h4,h5⟩:=h.cP;have j:b≠p:=λe=>by
  rw[e,f] at h4;have:=(dm.cells.inj h4).2.1;revert this;decide
 have l:m≠p:=λe=>by have:=h.mp;rw[e,f] at this;cases this
 refine⟨by rw[hY,iP rfl],h.pl,h.pa,?_,?_,by rw[hY,iN l];exact h.mp,h.ml,h.ma,h.E.set h.pa _,hb,h.sl⟩;·rw[ho];exact⟨b,kd,c,os,h1,h2,h3,by rw[hY,iN j];exact h4,h5⟩
 rw[ht];rcases h.out with g | ⟨b,kd,e,n,o,i,q⟩
 ·exact .inl g
 refine .inr ⟨b,kd,e,n,o,?_,q⟩;rw[hY,iN];·exact i
 intro e;rw[e,f] at i;have:=(dm.cells.inj i).2.1;revert this;decide
def dt(s:RS)(line e:Nat):RS:=if s.err=0 then { s with err:=e,wh:=line } else s
theorem kF{A K:CH}{p:Nat}{src:List UInt8}{s:RS}{vo vt:ae}{m:Nat}(h:bH A K p src s vo vt m)(line e:Nat)(h1:line<=100000)(h2:e<=100) :
 bw (bj Tryz.prog LG GG) 54 [.pointer (some ⟨p,0,none⟩), .int .i64 line, .int .i64 e] K λv K'=>bH A K' p src (dt s line e) vo vt m:=by
 have b:=h.ob;have hp:=h.pl;refine ij Rl Kr (br ?_);by_cases he:s.err=0
 ·refine rn (an @b @he) ?_;all_goals
   unfold dt;rw[iP he];exact h.set (s':= { s with err:=e,wh:=line }) rfl rfl ⟨h.bd.pos,h.bd.line,h.bd.dep,h2,h1,h.bd.out⟩
 refine rn (an @b @he) ?_;all_goals
  unfold dt;rw[iN he];exact h
theorem bH.aff{A K K':CH}{p:Nat}{src:List UInt8}{s:RS}{vo vt i:ae}{m:Nat}{t:c8}(h:bH A K p src s vo vt m)(hb:(s.out++ [t]).length+s.cP.length<=1000000)(hx:aJ A K')(hn:K.nx<=K'.nx)(hg:nH A 65 3 zT K' i (s.out++ [t]))(hk : ∀l,l<K.nx->(∀o n c,vt≠ .slice (some ⟨l,o,none⟩) n c)->K'.ob l=K.ob l) :
 bH A (K'.set p (.cells [.string (str src), .int .i64 s.pos, .int .i64 s.line, .int .i64 s.dep,vo,i, .map (some m), .int .i64 s.err, .int .i64 s.wh] 55 .ex)) p src { s with out:=s.out++ [t] } vo i m:=by
 have y:=h.ob;obtain⟨b,kd,c,os,h1,h2,h3,h4,h5⟩:=h.cP;have av : ∀l cs e k,K.ob l= .cells cs e k->e≠65->∀o n c,vt≠ .slice (some ⟨l,o,none⟩) n c:=λl cs e k hl av o n c hv=>by
  rcases h.out with ⟨_,g⟩ | ⟨b',z,e',j,q,f,u⟩
  ·rw[g] at hv;cases hv
  rw[e'] at hv;cases hv;rw[hl] at f;exact av (dm.cells.inj f).2.1
 have hp:=(hk p h.pl (av _ _ _ _ y de)).trans y;have v:=(hk b h3 (av _ _ _ _ h4 de)).trans h4;have x:=(hk m h.ml λo n c hv=>by
  rcases h.out with ⟨_,g⟩ | ⟨b',z,e',j,q,f,u⟩
  ·rw[g] at hv;cases hv
  rw[e'] at hv;cases hv;rw[h.mp] at f;cases f).trans h.mp
 have C:b≠p:=λe=>by
  rw[e,hp] at v;have:=(dm.cells.inj v).2.1;revert this;decide
 have D:m≠p:=λe=>by rw[e,hp] at x;cases x
 refine⟨by rw[hY,iP rfl],ep h.pl hn,h.pa,⟨b,kd,c,os,h1,h2,ep h3 hn,by rw[hY,iN C];exact v,h5⟩,?_,by rw[hY,iN D];exact x,ep h.ml hn,h.ma,hx.set h.pa _,⟨h.bd.pos,h.bd.line,h.bd.dep,h.bd.err,h.bd.wh,hb⟩,h.sl⟩;rcases hg with g | ⟨E,F,G,j,q,f,u⟩
 ·exact .inl g
 refine .inr ⟨E,F,G,j,q,?_,u⟩;rw[hY,iN];·exact f
 intro e;rw[e,hp] at f;have:=(dm.cells.inj f).2.1;revert this;decide
def jy (s:RS)(k line:Nat)(x:List UInt8):RS:= { s with out:=s.out++ [⟨k,line,x⟩] }
theorem dF{A K:CH}{p:Nat}{src:List UInt8}{s:RS}{vo vt:ae}{m:Nat}(h:bH A K p src s vo vt m)(k line:Nat)(x:List UInt8)(hb:s.out.length+s.cP.length<1000000) :
 bw (bj Tryz.prog LG GG) 19 [.pointer (some ⟨p,0,none⟩), .int .i64 k, .int .i64 line, .string (str x)] K λv K'=>∃l,bH A K' p src (jy s k line x) vo l m:=by
 have j:=h.ob;have hp:=h.pl;have G:=h.pa;refine ij Rl Kr (br ?_);refine rn (my @j @afe @Jq) ?_;have b:aJ K (K.new (.cells [.int .i64 k, .int .i64 line, .string (str x)] 65 .ex)):=by(repeat (first | assumption | exact aJ.refl _ | (refine aJ.set ?_ Fo _) | (refine aJ.new ?_ _)))
 have I:=h.bd.out;refine KN afd (ys:= [⟨k,line,x⟩]) (h.out.ext b) (h.E.trans b) (by simp only[Dd];omega) (by simp only[Dd];omega) rfl rfl λl J t z C u=> ?_;have D:=(u p (by show p<K.nx+1;omega) λo n c hv=> ?_).trans ((b.ob p hp).trans j)
 ·have i:=t;rcases i with ⟨g,_⟩ | ⟨L,M,rfl,_⟩
  ·simp at g
  have i:=t;simp only[bW,Dd] at i;refine rn @D ?_;all_goals exact⟨_,(h.mv b).aff Sq z C i u⟩
 rcases h.out with ⟨_,g⟩ | ⟨b',N,e',O,Q,y,R⟩
 ·rw[g] at hv;cases hv
 rw[e'] at hv;cases hv;rw[j] at y;have:=(dm.cells.inj y).2.1;revert this;decide
theorem KR{src:List UInt8}{i:Nat}(h:i<src.length):src[i]? = some src[i]:=dA h
theorem PJ{A K:CH}{p:Nat}{src:List UInt8}{s:RS}{vo vt:ae}{m:Nat}(h:bH A K p src s vo vt m)(n:Nat)(hn:n<=10) :
 bw (bj Tryz.prog LG GG) 53 [.pointer (some ⟨p,0,none⟩), .int .i64 n] K λv K'=>v= .int .u8 (hd (src.drop (s.pos+n)):Nat)/\K'=K:=by
 have b:=h.ob;have hp:=h.pl;have c:=h.bd.pos;have g:=h.sl;refine ij Rl Kr (br ?_);by_cases hl:s.pos+n<src.length
 ·have hg:=KR hl;rw[mz hl];exact rz (jU @b @cG @ia @hg)
 have hh:hd (src.drop (s.pos+n))=0:=by rw[AR Om];rfl
 rw[hh];refine rn (an @b @cG) ?_;all_goals rfl
theorem afg(H:CH)(n:Nat):bw (bj Tryz.prog LG GG) 55 [.int .u8 n] H λv K=>v= .bool (fJ n)/\K=H:=by
 refine ij Rl Kr (br ?_);repeat' (first | (simp (disch:=first | omega | (decide +kernel)) only[↓RD,RU,↓cg,↓cU,↓dr,di,pop,ct,jf,eV,↓reduceIte,Nat.reduceEqDiff,Int.reduceOfNat,reduceCtorEq]) | ((with_reducible first|apply bL|apply bM|apply bN)<;>intro _))
 all_goals first | rfl | (apply congrArg Value.bool;symm;apply decide_eq_true;omega) | (apply congrArg Value.bool;symm;apply decide_eq_false;omega) | (apply congrArg Value.bool;apply decide_eq_decide.2;omega)
theorem ik{H:CH}{n:Nat}{Q:ae->CH->Prop}:bw (bj Tryz.prog LG GG) 55 [.int .u8 n] H Q↔Q (.bool (fJ n)) H:=uE (afg H n)
theorem afh(H:CH)(n:Nat):bw (bj Tryz.prog LG GG) 57 [.int .u8 n] H λv K=>v= .bool (bA n)/\K=H:=by
 refine ij Rl Kr (br ?_);repeat' (first | (simp (disch:=first | omega | (decide +kernel)) only[↓RD,RU,↓cg,↓cU,↓dr,di,pop,ct,jf,eV,↓reduceIte,Nat.reduceEqDiff,Int.reduceOfNat,reduceCtorEq]) | ((with_reducible first|apply bL|apply bM|apply bN)<;>intro _))
 all_goals first | rfl | (apply congrArg Value.bool;symm;apply decide_eq_true;omega) | (apply congrArg Value.bool;symm;apply decide_eq_false;omega) | (apply congrArg Value.bool;apply decide_eq_decide.2;omega)
theorem jL{H:CH}{n:Nat}{Q:ae->CH->Prop}:bw (bj Tryz.prog LG GG) 57 [.int .u8 n] H Q↔Q (.bool (bA n)) H:=uE (afh H n)
theorem afi(H:CH)(n:Nat)(hn:n<256):bw (bj Tryz.prog LG GG) 92 [.int .u8 n] H λv K=>v= .int .u8 (mU n:Nat)/\K=H:=by
 refine ij Rl Kr (br ?_);by_cases h1:48<=n/\n<=57
 ·have b:bA n=true:=decide_eq_true h1;have e:mU n=n-48:=by unfold mU;rw[iP h1]
  rw[e];repeat' (first | (simp (disch:=first | omega | (decide +kernel)) only[↓RD,RU,↓cg,↓cU,↓dr,di,pop,ct,jf,eV,ρ0,ρ1,↓reduceIte,Int.reduceOfNat,reduceCtorEq,jL,b]) | ((with_reducible first|apply bL|apply bM|apply bN)<;>intro _))
  all_goals (apply congrArg (Value.int .u8);omega)
 have b:bA n=false:=decide_eq_false h1;repeat' (first | (simp (disch:=first | omega | (decide +kernel)) only[↓RD,RU,↓cg,↓cU,↓dr,di,pop,ct,jf,eV,ρ0,ρ1,↓reduceIte,Nat.reduceEqDiff,Int.reduceOfNat,reduceCtorEq,jL,b]) | ((with_reducible first|apply bL|apply bM|apply bN)<;>intro _))
 all_goals
  unfold mU;rw[iN h1]
  (repeat' split)<;>first | rfl | (exfalso;omega) | (apply congrArg (Value.int .u8);omega)
theorem KS{H:CH}{n:Nat}(hn:n<256){Q:ae->CH->Prop}:bw (bj Tryz.prog LG GG) 92 [.int .u8 n] H Q↔Q (.int .u8 (mU n:Nat)) H:=uE (afi H n hn)
theorem lK{A K:CH}{p:Nat}{src:List UInt8}{s:RS}{vo vt:ae}{m:Nat}(h:bH A K p src s vo vt m){Q:ae->CH->Prop}:bw (bj Tryz.prog LG GG) 53 [.pointer (some ⟨p,0,none⟩), .int .i64 0] K Q↔Q (.int .u8 (hd (src.drop s.pos):Nat)) K:=uE (PJ h 0 de)
theorem PK{A K:CH}{p:Nat}{src:List UInt8}{s:RS}{vo vt:ae}{m:Nat}(h:bH A K p src s vo vt m){Q:ae->CH->Prop}:bw (bj Tryz.prog LG GG) 53 [.pointer (some ⟨p,0,none⟩), .int .i64 1] K Q↔Q (.int .u8 (hd (src.drop (s.pos+1)):Nat)) K:=uE (PJ h 1 de)
theorem Xn{A K:CH}{p:Nat}{src:List UInt8}{s:RS}{vo vt:ae}{m:Nat}(h:bH A K p src s vo vt m){Q:ae->CH->Prop}:bw (bj Tryz.prog LG GG) 53 [.pointer (some ⟨p,0,none⟩), .int .i64 2] K Q↔Q (.int .u8 (hd (src.drop (s.pos+2)):Nat)) K:=uE (PJ h 2 de)
theorem Xo{l:List UInt8}{j:Nat}(h:0<(l.drop j).length):j<l.length:=by simp at h;omega
def ax (s:RS)(j:Nat):RS:= { s with pos:=s.pos+j }
theorem sF{s:RS}{j:Nat}(h:s.Bd)(b:s.pos+j<=100000):(ax s j).Bd:=⟨b,h.line,h.dep,h.err,h.wh,h.out⟩
theorem zV{A K:CH}{p:Nat}{src:List UInt8}{s:RS}{vo vt:ae}{m:Nat}(h:bH A K p src s vo vt m)(hp:s.pos<=50000) :
 bw (bj Tryz.prog LG GG) 75 [.pointer (some ⟨p,0,none⟩)] K λv K'=>bH A K' p src (ax s (cq (src.drop s.pos))) vo vt m:=by
 have E:=h.sl;refine ij Rl Kr (br ?_);simp only[↓RD];have g:=tn (p:=bA) (l:=src.drop s.pos);simp only[iE] at g;refine sE (λn fr o=>∃j,n=cq (src.drop s.pos)-j/\j+nW bA (src.drop (s.pos+j))=cq (src.drop s.pos)/\bH A o p src (ax s j) vo vt m) (n:=cq (src.drop s.pos)) ⟨0,rfl,by simp[cq],h⟩ ?_;rintro n fr o ⟨j,rfl,G,h1⟩ t;have i:= @lK _ _ _ _ _ _ _ _ h1;have u:(ax s j).pos=s.pos+j:=rfl;rw[u] at i;have x:=h1.ob;have I:=h1.pl;have y:cq (src.drop s.pos)<=src.length-s.pos:=g;cases b:bA (hd (src.drop (s.pos+j))) with
 | true=>
   have z:0<(src.drop (s.pos+j)).length:=by
    cases C:src.drop (s.pos+j) with
    | nil=>rw[C] at b;cases b
    | cons c r=>simp
   have D:=Xo z;have J:=vX D b;refine rn (xz @t @i @jL @b @x @u @n1) ?_;exact⟨_,by simp only[cq] at *;omega,j+1,rfl,by simp only[<-jS];omega,h1.set (s':=ax s (j+1)) rfl rfl (sF h.bd Om)⟩
 | false=>
   have M:=xC (p:=bA) (.inr b);refine rn (jU @t @i @jL @b) ?_;all_goals
    have e:cq (src.drop s.pos)=j:=by omega
    rw[e];exact h1
def Xq (n:Nat):Bool:=decide (n=32)
def Xr (n:Nat):Bool:=decide (n≠10)
theorem Xs{A K:CH}{p:Nat}{src:List UInt8}{s:RS}{vo vt:ae}{m:Nat}(h:bH A K p src s vo vt m)(hp:s.pos<=50000) :
 bw (bj Tryz.prog LG GG) 30 [.pointer (some ⟨p,0,none⟩)] K λv K'=>bH A K' p src (ax s (cr (src.drop s.pos))) vo vt m:=by
 have W:=h.sl;refine ij Rl Kr (br ?_);simp only[↓RD];obtain⟨N,o⟩ : ∃N,nW (λn=>decide (n=32)) (src.drop s.pos)=N:=⟨_,rfl⟩;have c:=tn (p:=λn=>decide (n=32)) (l:=src.drop s.pos);simp only[iE] at c;rw[o] at c;refine sE (λn fr G=>∃j,n=N-j/\j+nW (λn=>decide (n=32)) (src.drop (s.pos+j))=N/\bH A G p src (ax s j) vo vt m) (n:=N) ⟨0,rfl,by simpa using o,h⟩ ?_;rintro n fr G ⟨j,rfl,X,h1⟩ b;have t:= @lK _ _ _ _ _ _ _ _ h1;have I:(ax s j).pos=s.pos+j:=rfl;rw[I] at t;have Q:=h1.ob;have Y:=h1.pl;by_cases g:hd (src.drop (s.pos+j))=32
 ·have R:0<(src.drop (s.pos+j)).length:=nR Om;have S:=Xo R;have Z:=vX (p:=λn=>decide (n=32)) S (by simp[g]);refine rn (xz @b @t @g @Q @I @n1 @cG) ?_;all_goals exact⟨_,Om,j+1,rfl,by simp only[<-jS];omega,h1.set (s':=ax s (j+1)) rfl rfl (sF h.bd Om)⟩
 have Hl:=xC (p:=λn=>decide (n=32)) (l:=src.drop (s.pos+j)) (.inr (by simp[g]));have e:j=N:=by omega
 subst e;by_cases hc:hd (src.drop (s.pos+j))=35
 ·have hb:cr (src.drop s.pos)=j+nW (λn=>decide (n≠10)) (src.drop (s.pos+j)):=by
   unfold cr;rw[o,gA,iP hc]
  rw[hb];refine rn (jU @b @t @g @hc) ?_;obtain⟨M,J⟩ : ∃M,nW (λn=>decide (n≠10)) (src.drop (s.pos+j))=M:=⟨_,rfl⟩;have L:=tn (p:=λn=>decide (n≠10)) (l:=src.drop (s.pos+j));simp only[iE] at L;rw[J] at L⊢;refine sE (λn fr O=>∃i,n=M-i/\i+nW (λn=>decide (n≠10)) (src.drop (s.pos+j+i))=M/\bH A O p src (ax s (j+i)) vo vt m) (n:=M) ⟨0,rfl,by simpa using J,h1⟩ ?_;rintro n aX O ⟨i,rfl,hi,h2⟩ x;have y:(ax s (j+i)).pos=s.pos+j+i:=by show s.pos+(j+i)=_;omega
  have z:=h2.ob;have zW:=h2.pl;by_cases C:s.pos+j+i<src.length
  ·have hg:=KR C;have hh:=mz C;by_cases u:src[s.pos+j+i].toNat=10
   ·have D:=xC (p:=λn=>decide (n≠10)) (l:=src.drop (s.pos+j+i)) (.inr (by simp[hh,u]));have E:i=M:=by omega
    subst E;refine rn (zq @x @b @z @y @cG @ia @hg @u) ?_;all_goals exact h2
   have V:=vX (p:=λn=>decide (n≠10)) C (by simp[hh,u]);refine rn (AX @x @b @z @y @cG @ia @hg @u @n1) ?_;all_goals
    refine⟨_,Om,i+1,rfl,by simp only[<-jS];omega,?_⟩;have e:s.pos+j+i+1=s.pos+(j+(i+1)):=by omega
    rw[e];exact h2.set (s':=ax s (j+(i+1))) rfl rfl (sF h.bd Om)
  have D:=xC (p:=λn=>decide (n≠10)) (l:=src.drop (s.pos+j+i)) (.inl (AR Om));have E:i=M:=by omega
  subst E;refine rn (zp @x @b @z @y @cG) ?_;all_goals exact h2
 have hb:cr (src.drop s.pos)=j:=by
  unfold cr;rw[o,gA,iN hc]
 rw[hb];refine rn (jU @b @t @g @hc) ?_;all_goals exact h1
theorem bH.iter{A K:CH}{p:Nat}{src:List UInt8}{s:RS}{vo vt:ae}{m l:Nat}(h:bH A K p src s vo vt m){a a':ByteArray}{b b':Nat}(hl:K.ob l= .qp a b)(f:A.nx<=l):bH A (K.set l (.qp a' b')) p src s vo vt m:=by
 obtain⟨bo,kd,c,os,h1,h2,h3,h4,h5⟩:=h.cP;have j:p≠l:=λe=>by have:=h.ob;rw[e,hl] at this;cases this
 have n:m≠l:=λe=>by have:=h.mp;rw[e,hl] at this;cases this
 have o:bo≠l:=λe=>by rw[e,hl] at h4;cases h4
 refine⟨by rw[hY,iN j];exact h.ob,h.pl,h.pa,⟨bo,kd,c,os,h1,h2,h3,by rw[hY,iN o];exact h4,h5⟩,?_,by rw[hY,iN n];exact h.mp,h.ml,h.ma,h.E.set f _,h.bd,h.sl⟩;rcases h.out with g | ⟨q,t,u,v,x,i,y⟩
 ·exact .inl g
 refine .inr ⟨q,t,u,v,x,?_,y⟩;rw[hY,iN];·exact i
 intro e;rw[e,hl] at i;cases i
theorem afk{a b:List UInt8}:(str a==str b)=decide (a=b):=by
 cases h:(str a==str b) with
 | true=>
   have:=(Ts _ _).1 h;rw[decide_eq_true (by exact Array.mk.inj (ByteArray.mk.inj this))]
 | false=>
   rw[decide_eq_false λe=>by rw[e,(Ts _ _).2 rfl] at h;cases h]
theorem zX{x:List UInt8} : ∀ {ws:List (List UInt8)} {n i:Nat},
 (x∈ws->∃j,nT 1 (.string (str x)) ((ws.zipIdx n).map λx=>({ key:= .string (str x.1),val:= .int .i64 1,born:=x.2 }:pr)) i=some (some (j, .int .i64 1)))/\
 (x∉ws->nT 1 (.string (str x)) ((ws.zipIdx n).map λx=>({ key:= .string (str x.1),val:= .int .i64 1,born:=x.2 }:pr)) i=some none)
 | [],n,i=>⟨λh=>(by cases h),λ_=>rfl⟩
 | w::ws,n,i=>by
   obtain⟨h1,h2⟩:=zX (x:=x) (ws:=ws) (n:=n+1) (i:=i+1);simp only[List.zipIdx_cons,dk,nT,Du,afk];by_cases e:x=w
   ·subst e;simp only[decide_true];exact⟨λ_=>⟨i,rfl⟩,λh=>absurd (List.mem_cons_self ..) h⟩
   simp only[decide_eq_false e];refine⟨λh=>h1 ?_,λh=>h2 λh'=>h (kw _ h')⟩;rcases List.mem_cons.1 h with g | g
   ·exact absurd g e
   exact g
theorem Xu{r:List UInt8}{j:Nat}(h:j<r.length)(hb:r[j].toNat<128):C6 (str r) j=(r[j].toNat,1):=decode_ascii (str r) j h hb
theorem afl{r:List UInt8}{j:Nat}(h:j<r.length)(hb:128<=r[j].toNat):127<(C6 (str r) j).1:=by
 have e:((str r).get! (j+0))=r[j]:=by
  have h':j<(str r).size:=h;show(str r).get! j=_;simp[ByteArray.get!,getElem!_pos,h]
 unfold C6;simp only[e];rw[iN Om]
 (repeat' split)<;>simp only[Utf8.runeError,eY,decide_eq_true_eq,ge_iff_le] at *<;>omega
theorem afm{A K:CH}{p:Nat}{src:List UInt8}{s:RS}{vo vt:ae}{m:Nat}(h:bH A K p src s vo vt m)(hp:s.pos<src.length)(hb:s.out.length+s.cP.length<1000000) :
 bw (bj Tryz.prog LG GG) 56 [.pointer (some ⟨p,0,none⟩)] K λv K'=>∃gV,bH A K' p src (jy (ax s (nW ej (src.drop s.pos))) (if (src.drop s.pos).take (nW ej (src.drop s.pos))∈jV then 8 else 4) s.line ((src.drop s.pos).take (nW ej (src.drop s.pos)))) vo gV m:=by
 have kT:=h.sl;have ap:=h.ob;have eL:=h.pl;have Xm:=h.pa;obtain⟨N,W⟩ : ∃N,nW ej (src.drop s.pos)=N:=⟨_,rfl⟩;have I:=tn (p:=ej) (l:=src.drop s.pos);simp only[iE] at I;rw[W] at I⊢;refine ij Rl Kr (br ?_);have yB:(src.drop s.pos).take (src.length-s.pos)=src.drop s.pos:=qk s0;refine rn (jU @ap @cG @gu @yB) ?_;have Bc:aJ K (K.new (.qp (str (src.drop s.pos)) 0)):=by(repeat (first | assumption | exact aJ.refl _ | (refine aJ.set ?_ Fo _) | (refine aJ.new ?_ _)))
 refine sE (λn fr Q=>∃j,n=N-j/\j+nW ej (src.drop (s.pos+j))=N/\bH A Q p src (ax s j) vo vt m/\Q.ob K.nx= .qp (str (src.drop s.pos)) j/\K.nx<Q.nx) (n:=N) ⟨0,rfl,by simpa using W,h.mv Bc,by exact Ee,pw _⟩ ?_;rintro n fr Q ⟨j,rfl,hj,h1,c,X⟩ t;have u:=h1.ob;have zY:=h1.pl;have y:(ax s j).pos=s.pos+j:=rfl;have dD:=h.E.nx;have z:(src.drop s.pos).length=src.length-s.pos:=by simp
 by_cases Y:s.pos+j<src.length
 ·have S:j<(src.drop s.pos).length:=by omega
  have J:(src.drop s.pos)[j]=src[s.pos+j]:=by rw[To]
  have hh:=mz Y;by_cases D:ej (src[s.pos+j].toNat)=true
  ·have U:src[s.pos+j].toNat<128:=by
    have:=D;simp only[ej,fJ,bA,Bool.or_eq_true,decide_eq_true_eq] at this;omega
   have C:=Xu S (by rw[J];exact U);rw[J] at C;have Xp:=vX Y (by rw[hh];exact D);cases G:fJ (src[s.pos+j].toNat) with
   | true=>
     refine rn (xA @t @c @cG @z @C @ik @G @u @y @n1) ?_;all_goals exact⟨_,Om,j+1,rfl,by simp only[<-jS];omega,(h1.iter c Om).set (s':=ax s (j+1)) rfl rfl (sF h.bd Om),rfl,X⟩
   | false=>
     have R:bA (src[s.pos+j].toNat)=true:=by
      unfold ej at D;rw[G] at D;simpa using D
     refine rn (xB @t @c @cG @z @C @ik @jL @G @R @u @y @n1) ?_;all_goals exact⟨_,Om,j+1,rfl,by simp only[<-jS];omega,(h1.iter c Om).set (s':=ax s (j+1)) rfl rfl (sF h.bd Om),rfl,X⟩
  have Hl:=xC (p:=ej) (l:=src.drop (s.pos+j)) (.inr (by rw[hh];simpa using D));have e:j=N:=by omega
  subst e;have g:=h1.mp;have Hm:=h1.ml;have V:m≠K.nx:=λe=>by rw[e,c] at g;cases g
  have Z:ej (src[s.pos+j].toNat)=false:=by simpa using D
  simp only[ej,Bool.or_eq_false_iff] at Z;obtain⟨G,R⟩:=Z;by_cases U:src[s.pos+j].toNat<128
  ·have C:=Xu S (by rw[J];exact U);rw[J] at C;by_cases hw:(src.drop s.pos).take j∈jV
   ·obtain⟨q,b⟩:=(zX (x:=(src.drop s.pos).take j) (ws:=jV) (n:=0) (i:=0)).1 hw;have b:nT 1 (.string (str ((src.drop s.pos).take j))) zU.toList 0=some (some (q, .int .i64 1)):=b;rw[iP hw];refine rn (NO @t @c @cG @z @C @ik @jL @G @R @u @y @gu @iZ @b @g) ?_;refine(dF (s:=ax s j) (h1.iter c Om) 8 s.line ((src.drop s.pos).take j) hb).mono λM O ⟨o,h2⟩=> ?_;refine db ?_;all_goals exact⟨o,h2⟩
   have b:nT 1 (.string (str ((src.drop s.pos).take j))) zU.toList 0=some none:=(zX (x:=(src.drop s.pos).take j) (ws:=jV) (n:=0) (i:=0)).2 hw;rw[iN hw];refine rn (NO @t @c @cG @z @C @ik @jL @G @R @u @y @gu @iZ @b @g) ?_;refine(dF (s:=ax s j) (h1.iter c Om) 4 s.line ((src.drop s.pos).take j) hb).mono λM O ⟨o,h2⟩=> ?_;refine db ?_;all_goals exact⟨o,h2⟩
  have C:=afl S (by rw[J];omega);by_cases hw:(src.drop s.pos).take j∈jV
  ·obtain⟨q,b⟩:=(zX (x:=(src.drop s.pos).take j) (ws:=jV) (n:=0) (i:=0)).1 hw;have b:nT 1 (.string (str ((src.drop s.pos).take j))) zU.toList 0=some (some (q, .int .i64 1)):=b;rw[iP hw];refine rn (xA @t @c @cG @z @u @y @gu @iZ @b @g) ?_;refine(dF (s:=ax s j) (h1.iter c Om) 8 s.line ((src.drop s.pos).take j) hb).mono λM O ⟨o,h2⟩=> ?_;refine db ?_;all_goals exact⟨o,h2⟩
  have b:nT 1 (.string (str ((src.drop s.pos).take j))) zU.toList 0=some none:=(zX (x:=(src.drop s.pos).take j) (ws:=jV) (n:=0) (i:=0)).2 hw;rw[iN hw];refine rn (xA @t @c @cG @z @u @y @gu @iZ @b @g) ?_;refine(dF (s:=ax s j) (h1.iter c Om) 4 s.line ((src.drop s.pos).take j) hb).mono λM O ⟨o,h2⟩=> ?_;refine db ?_;all_goals exact⟨o,h2⟩
 have Hl:=xC (p:=ej) (l:=src.drop (s.pos+j)) (.inl (AR Om));have e:j=N:=by omega
 subst e;have g:=h1.mp;have Hm:=h1.ml;have V:m≠K.nx:=λe=>by rw[e,c] at g;cases g
 by_cases hw:(src.drop s.pos).take j∈jV
 ·obtain⟨q,b⟩:=(zX (x:=(src.drop s.pos).take j) (ws:=jV) (n:=0) (i:=0)).1 hw;have b:nT 1 (.string (str ((src.drop s.pos).take j))) zU.toList 0=some (some (q, .int .i64 1)):=b;rw[iP hw];refine rn (xA @t @c @cG @z @u @y @gu @iZ @b @g) ?_;refine(dF (s:=ax s j) (h1) 8 s.line ((src.drop s.pos).take j) hb).mono λM O ⟨o,h2⟩=> ?_;refine db ?_;all_goals exact⟨o,h2⟩
 have b:nT 1 (.string (str ((src.drop s.pos).take j))) zU.toList 0=some none:=(zX (x:=(src.drop s.pos).take j) (ws:=jV) (n:=0) (i:=0)).2 hw;rw[iN hw];refine rn (xA @t @c @cG @z @u @y @gu @iZ @b @g) ?_;refine(dF (s:=ax s j) (h1) 4 s.line ((src.drop s.pos).take j) hb).mono λM O ⟨o,h2⟩=> ?_;refine db ?_;all_goals exact⟨o,h2⟩
theorem bH.Hn{A K:CH}{p:Nat}{src:List UInt8}{s:RS}{vo vt:ae}{m:Nat}(h:bH A K p src s vo vt m)(j:Nat)(b:s.pos+j<=100000) :
 bH A (K.set p (.cells [.string (str src), .int .i64 ((s.pos+j:Nat):Int), .int .i64 s.line, .int .i64 s.dep,vo,vt, .map (some m), .int .i64 s.err, .int .i64 s.wh] 55 .ex)) p src (ax s j) vo vt m:=
 h.set (s':=ax s j) rfl rfl (sF h.bd b)
theorem n2{a:Nat}:((a:Int)+2)=((a+2:Nat):Int):=rfl
def oW(K K':CH)(p:Nat):Prop:=K.nx<=K'.nx/\∀l,l<K.nx->l≠p->K'.ob l=K.ob l
theorem oW.set{K:CH}{p:Nat}{o:dm}:oW K (K.set p o) p:=⟨ag _,λl _ h=>by rw[hY,iN h]⟩
theorem oW.trans{A K K':CH}{p:Nat}(h:oW A K p)(k:oW K K' p):oW A K' p:=⟨cM h.1 k.1,λl h1 h2=>(k.2 l (ep h1 h.1) h2).trans (h.2 l h1 h2)⟩
theorem PN{s:RS}{l e:Nat}(h:s.err=0):dt s l e= { s with err:=e,wh:=l }:=iP h
theorem KU{A K:CH}{p:Nat}{src:List UInt8}{s:RS}{vo vt:ae}{m:Nat}(h:bH A K p src s vo vt m)(line e:Nat)(h1:line<=100000)(h2:e<=100)(he:s.err=0) :
 bw (bj Tryz.prog LG GG) 54 [.pointer (some ⟨p,0,none⟩), .int .i64 line, .int .i64 e] K λv K'=>bH A K' p src { s with err:=e,wh:=line } vo vt m/\oW K K' p:=by
 have b:=h.ob;have hp:=h.pl;refine ij Rl Kr (br ?_);refine rn (an @b @he) ?_;all_goals exact⟨h.set (s':= { s with err:=e,wh:=line }) rfl rfl ⟨h.bd.pos,h.bd.line,h.bd.dep,h2,h1,h.bd.out⟩,oW.set⟩
theorem PO{n:Nat}:mU n<=16:=by
 unfold mU
 (repeat' split)<;>omega
def afn(A K K':CH)(p:Nat)(src:List UInt8)(s:RS)(vo vt:ae)(m:Nat)(v:ae)(r:Option (Nat×Nat)):Prop:=oW K K' p/\match r with
 | some (b,n)=>v= .int .u8 (b:Nat)/\bH A K' p src (ax s n) vo vt m
 | none=>v= .int .u8 0/\bH A K' p src { ax s 1 with err:=20,wh:=s.line } vo vt m
theorem afo{A K:CH}{p:Nat}{src:List UInt8}{s:RS}{vo vt:ae}{m:Nat}(h:bH A K p src s vo vt m)(hp:s.pos<=50000)(t:s.err=0) :
 bw (bj Tryz.prog LG GG) 76 [.pointer (some ⟨p,0,none⟩)] K λv K'=>afn A K K' p src s vo vt m v (ie (src.drop s.pos)):=by
 have M:=h.sl;have g:=h.ob;have N:=h.pl;have u:=h.bd.line;obtain⟨l,hl⟩ : ∃l,src.drop s.pos=l:=⟨_,rfl⟩;have y : ∀j,src.drop (s.pos+j)=l.drop j:=λj=>by rw[<-hl,gA]
 have f:= @lK _ _ _ _ _ _ _ _ h;rw[hl] at f⊢;have h1:=h.Hn 1 Om;have z:(ax s 1).pos=s.pos+1:=rfl;have n:= @lK _ _ _ _ _ _ _ _ h1;have o:= @PK _ _ _ _ _ _ _ _ h1;simp only[z,jS,y] at n o;refine ij Rl Kr (br ?_);by_cases b:hd l=120
 ·have hx:= @Jy (l.drop 1);have x:= @Jy (l.drop 2);have C:= @PO (hd (l.drop 1));have D:= @PO (hd (l.drop 2));by_cases i:mU (hd (l.drop 1))<16/\mU (hd (l.drop 2))<16
  ·have he:ie l=some (16*mU (hd (l.drop 1))+mU (hd (l.drop 2)),3):=by unfold ie;rw[iP b,iP i]
   rw[he];repeat' (first | (simp (disch:=first | omega | (decide +kernel)) only[↓RD,RU,↓cg,↓jx,↓cU,↓dr,hY,di,pop,bg,cy,ct,jf,eV,isVal,cj,iG,ρ0,ρ1,↓reduceIte,Nat.reduceEqDiff,Nat.reduceAdd,Int.reduceOfNat,reduceCtorEq,ρ5,ρ6,ρ7,ρ8,ρ17,ρ18,ρ19,ρ20,ρ22,ρ23,Kd.eM,ρ25,ρ26,Nat.reduceLeDiff,CH.set_set,f,b,g,n1,n2,n,o,KS hx,KS x]) | ((with_reducible first|apply bL|apply bM|apply bN)<;>intro _))
   all_goals first | (exfalso;omega) | exact⟨oW.set,rfl,h.Hn 3 Om⟩
  have he:ie l=none:=by unfold ie;rw[iP b,iN i]
  rw[he];repeat' (first | (simp (disch:=first | omega | (decide +kernel)) only[↓RD,RU,↓cg,↓jx,↓cU,↓dr,hY,di,pop,bg,cy,isVal,cj,iG,ρ0,ρ1,↓reduceIte,Nat.reduceEqDiff,Nat.reduceAdd,Int.reduceOfNat,reduceCtorEq,ρ5,ρ6,ρ7,ρ8,ρ17,ρ18,ρ19,ρ20,ρ22,ρ23,Kd.eM,ρ25,ρ26,Nat.reduceLeDiff,f,b,g,n1,n,o,KS hx,KS x]) | ((with_reducible first|apply bL|apply bM|apply bN)<;>intro _))
  all_goals first | (exfalso;omega) | skip
  all_goals
   refine(KU h1 s.line 20 u de t).mono λE F ⟨h2,h3⟩=> ?_;repeat' (first | (simp (disch:=first | omega | (decide +kernel)) only[↓RD,RU,↓cg,↓dr,pop,ct,jf,eV,↓reduceIte]) | ((with_reducible first|apply bL|apply bM|apply bN)<;>intro _))
   all_goals exact⟨oW.set.trans h3,rfl,h2⟩
 have cs:hd l=110\/hd l=116\/hd l=92\/hd l=39\/hd l=34\/(hd l≠110/\hd l≠116/\hd l≠92/\hd l≠39/\hd l≠34):=by omega
 rcases cs with c | c | c | c | c | ⟨i,G,I,J,L⟩
 ·have he:ie l=some (10,1):=by unfold ie;rw[iN b,c];rfl
  rw[he];repeat' (first | (simp (disch:=first | omega | (decide +kernel)) only[↓RD,RU,↓cg,↓jx,↓cU,↓dr,di,pop,bg,cy,ct,jf,eV,isVal,cj,iG,ρ0,ρ1,↓reduceIte,Nat.reduceEqDiff,Nat.reduceAdd,Int.reduceOfNat,reduceCtorEq,ρ5,ρ6,ρ7,ρ8,ρ17,ρ18,ρ19,ρ20,ρ22,ρ23,Kd.eM,ρ25,ρ26,Nat.reduceLeDiff,f,c,g,n1]) | ((with_reducible first|apply bL|apply bM|apply bN)<;>intro _))
  all_goals exact⟨oW.set,rfl,h1⟩
 ·have he:ie l=some (9,1):=by unfold ie;rw[iN b,c];rfl
  rw[he];repeat' (first | (simp (disch:=first | omega | (decide +kernel)) only[↓RD,RU,↓cg,↓jx,↓cU,↓dr,di,pop,bg,cy,ct,jf,eV,isVal,cj,iG,ρ0,ρ1,↓reduceIte,Nat.reduceEqDiff,Nat.reduceAdd,Int.reduceOfNat,reduceCtorEq,ρ5,ρ6,ρ7,ρ8,ρ17,ρ18,ρ19,ρ20,ρ22,ρ23,Kd.eM,ρ25,ρ26,Nat.reduceLeDiff,f,c,g,n1]) | ((with_reducible first|apply bL|apply bM|apply bN)<;>intro _))
  all_goals exact⟨oW.set,rfl,h1⟩
 ·have he:ie l=some (92,1):=by unfold ie;rw[iN b,c];rfl
  rw[he];repeat' (first | (simp (disch:=first | omega | (decide +kernel)) only[↓RD,RU,↓cg,↓jx,↓cU,↓dr,di,pop,bg,cy,ct,jf,eV,isVal,cj,iG,ρ0,ρ1,↓reduceIte,Nat.reduceEqDiff,Nat.reduceAdd,Int.reduceOfNat,reduceCtorEq,ρ5,ρ6,ρ7,ρ8,ρ17,ρ18,ρ19,ρ20,ρ22,ρ23,Kd.eM,ρ25,ρ26,Nat.reduceLeDiff,f,c,g,n1]) | ((with_reducible first|apply bL|apply bM|apply bN)<;>intro _))
  all_goals exact⟨oW.set,rfl,h1⟩
 ·have he:ie l=some (39,1):=by unfold ie;rw[iN b,c];rfl
  rw[he];repeat' (first | (simp (disch:=first | omega | (decide +kernel)) only[↓RD,RU,↓cg,↓jx,↓cU,↓dr,di,pop,bg,cy,ct,jf,eV,isVal,cj,iG,ρ0,ρ1,↓reduceIte,Nat.reduceEqDiff,Nat.reduceAdd,Int.reduceOfNat,reduceCtorEq,ρ5,ρ6,ρ7,ρ8,ρ17,ρ18,ρ19,ρ20,ρ22,ρ23,Kd.eM,ρ25,ρ26,Nat.reduceLeDiff,f,c,g,n1]) | ((with_reducible first|apply bL|apply bM|apply bN)<;>intro _))
  all_goals exact⟨oW.set,rfl,h1⟩
 ·have he:ie l=some (34,1):=by unfold ie;rw[iN b,c];rfl
  rw[he];repeat' (first | (simp (disch:=first | omega | (decide +kernel)) only[↓RD,RU,↓cg,↓jx,↓cU,↓dr,di,pop,bg,cy,ct,jf,eV,isVal,cj,iG,ρ0,ρ1,↓reduceIte,Nat.reduceEqDiff,Nat.reduceAdd,Int.reduceOfNat,reduceCtorEq,ρ5,ρ6,ρ7,ρ8,ρ17,ρ18,ρ19,ρ20,ρ22,ρ23,Kd.eM,ρ25,ρ26,Nat.reduceLeDiff,f,c,g,n1]) | ((with_reducible first|apply bL|apply bM|apply bN)<;>intro _))
  all_goals exact⟨oW.set,rfl,h1⟩
 have he:ie l=none:=by
  unfold ie FN;rw[iN b,iN (by simp[i,G,I,J,L])]
 rw[he];repeat' (first | (simp (disch:=first | omega | (decide +kernel)) only[↓RD,RU,↓cg,↓jx,↓cU,↓dr,hY,di,pop,bg,cy,isVal,cj,iG,ρ0,ρ1,↓reduceIte,Nat.reduceEqDiff,Nat.reduceAdd,Int.reduceOfNat,reduceCtorEq,ρ5,ρ6,ρ7,ρ8,ρ17,ρ18,ρ19,ρ20,ρ22,ρ23,Kd.eM,ρ25,ρ26,Nat.reduceLeDiff,f,g,n1]) | ((with_reducible first|apply bL|apply bM|apply bN)<;>intro _))
 all_goals
  refine(KU h1 s.line 20 u de t).mono λE F ⟨h2,h3⟩=> ?_;repeat' (first | (simp (disch:=first | omega | (decide +kernel)) only[↓RD,RU,↓cg,↓dr,pop,ct,jf,eV,↓reduceIte]) | ((with_reducible first|apply bL|apply bM|apply bN)<;>intro _))
  all_goals exact⟨oW.set.trans h3,rfl,h2⟩
def kf (l:List UInt8):List Int:=l.map λc=>(c.toNat:Int)
theorem Xw{l:List UInt8}:(kf l).flatMap (ints .u8)=(l.map λc=>(.int .u8 (c.toNat:Int):ae)):=by
 rw[KO];simp[kf]
theorem KV : ∀ {l:List UInt8},qX (l.map λc=>(.int .u8 (c.toNat:Int):ae))=some l
 | []=>rfl
 | c::l=>by
   simp only[dk,qX,KV,fm,xk];congr 2
   apply UInt8.toNat.inj;simp
theorem bH.PP{A K K':CH}{p:Nat}{src:List UInt8}{s:RS}{vo vt v:ae}{m:Nat}{xs:List Int}(h:bH A K p src s vo vt m)(t:nH A 5 1 (ints .u8) K v xs)(hx:aJ A K')(hn:K.nx<=K'.nx)(hk : ∀l,l<K.nx->(∀o n c,v≠ .slice (some ⟨l,o,none⟩) n c)->K'.ob l=K.ob l):bH A K' p src s vo vt m:=by
 obtain⟨b,kd,c,os,h1,h2,h3,h4,h5⟩:=h.cP;have av : ∀l cs e k,K.ob l= .cells cs e k->e≠5->∀o n c,v≠ .slice (some ⟨l,o,none⟩) n c:=λl cs e k hl av o n c hv=>by
  rcases t with ⟨_,g⟩ | ⟨b',x,e',j,i,f,q⟩
  ·rw[g] at hv;cases hv
  rw[e'] at hv;cases hv;rw[hl] at f;exact av (dm.cells.inj f).2.1
 have y : ∀o n c,v≠ .slice (some ⟨m,o,none⟩) n c:=λo n c hv=>by
  rcases t with ⟨_,g⟩ | ⟨b',x,e',j,i,f,q⟩
  ·rw[g] at hv;cases hv
  rw[e'] at hv;cases hv;rw[h.mp] at f;cases f
 refine⟨(hk p h.pl (av _ _ _ _ h.ob de)).trans h.ob,ep h.pl hn,h.pa,⟨b,kd,c,os,h1,h2,ep h3 hn,(hk b h3 (av _ _ _ _ h4 de)).trans h4,h5⟩,?_,(hk m h.ml y).trans h.mp,ep h.ml hn,h.ma,hx,h.bd,h.sl⟩;rcases h.out with g | ⟨u,z,C,j,i,f,q⟩
 ·exact .inl g
 exact .inr ⟨u,z,C,j,ep i hn,(hk u i (av _ _ _ _ f de)).trans f,q⟩
theorem afp{A K:CH}{p:Nat}{src:List UInt8}{s:RS}{vo vt v:ae}{m:Nat}{xs:List Int}(c:nH A 5 1 (ints .u8) K v xs)(h:bH A K p src s vo vt m)(o:dm):nH A 5 1 (ints .u8) (K.set p o) v xs:=by
 rcases c with g | ⟨b',f,e',i,j,b,l⟩
 ·exact .inl g
 refine .inr ⟨b',f,e',i,j,?_,l⟩;rw[hY,iN];·exact b
 intro e;rw[e,h.ob] at b;have:=(dm.cells.inj b).2.1;revert this;decide
theorem afq{l:List UInt8}{b n:Nat}(h:ie l=some (b,n)):n<=l.length/\b<256:=by
 have hx:= @PO (hd (l.drop 1));unfold ie at h;split at h
 ·split at h
  ·rename_i g;cases h;have h2:hd (l.drop 2)≠0:=λe=>by have:=g.2;rw[e] at this;exact absurd this de
   have:=nR h2;simp at this;omega
  cases h
 split at h
 ·rename_i f g;cases h;have c:hd l≠0:=λe=>g (by rw[e];decide);have:=nR c;refine⟨Om,?_⟩;unfold FN;have:= @Jy l
  (repeat' split)<;>omega
 cases h
theorem PQ{q:Nat} : ∀ {f g:Nat} {l:List UInt8},l.length<f->l.length<g->gM q f l=gM q g l
 | 0,_,_,h,_=>absurd h Om
 | _,0,_,_,h=>absurd h Om
 | f+1,g+1,l,i,hg=>by
   unfold gM;by_cases b:hd l=q
   ·rw[iP b,iP b]
   rw[iN b,iN b];by_cases c:hd l<32
   ·rw[iP c,iP c]
   rw[iN c,iN c];have hl:0<l.length:=nR Om;by_cases e:hd l=92
   ·rw[iN (by simpa using e),iN (by simpa using e)];cases ie (l.drop 1) with
    | none=>rfl
    | some x=>
      simp only;rw[PQ (f:=f) (g:=g) Sq Sq]
   rw[iP e,iP e,PQ (f:=f) (g:=g) Sq Sq]
def PS(A K:CH)(p:Nat)(src:List UInt8)(s:RS)(vo:ae)(m:Nat):Prop:=∃c b,bH A K p src b vo c m/\b.err=20/\b.wh=s.line/\b.dep=s.dep/\b.cP=s.cP/\b.out.length<=s.out.length+1/\s.pos<b.pos/\b.pos<=src.length+4/\b.line=s.line
def PU(A K:CH)(p:Nat)(src:List UInt8)(s:RS)(vo:ae)(m:Nat)(r:Option (List UInt8×Nat)):Prop:=match r with
 | some (x,n)=>∃b,bH A K p src (jy (ax s (n+1)) 7 s.line x) vo b m
 | none=>PS A K p src s vo m
theorem BF{s:RS}{i j k:Nat}(h:i+j=k):ax (ax s i) j=ax s k:=by subst h;simp only[ax,jS]
theorem afr{A K:CH}{p:Nat}{src:List UInt8}{s:RS}{vo vt:ae}{m:Nat}(h:bH A K p src s vo vt m)(hp:s.pos<src.length)(Q:s.err=0)(hq:32<=hd (src.drop s.pos)/\hd (src.drop s.pos)≠92)(hb:s.out.length+s.cP.length<1000000) :
 bw (bj Tryz.prog LG GG) 59 [.pointer (some ⟨p,0,none⟩)] K λv K'=>PU A K' p src s vo m (lX (hd (src.drop s.pos)) (src.drop (s.pos+1))):=by
 have kT:=h.sl;have ap:=h.ob;have eL:=h.pl;have Xm:=h.pa;have du:=h.bd.line;obtain⟨q,Xx⟩ : ∃q,hd (src.drop s.pos)=q:=⟨_,rfl⟩;rw[Xx] at hq⊢;have p0:= @lK _ _ _ _ _ _ _ _ h;rw[Xx] at p0;have h1:=h.Hn 1 Om;obtain⟨L,hL⟩ : ∃L,src.drop (s.pos+1)=L:=⟨_,rfl⟩;have hLl:L.length=src.length-(s.pos+1):=by rw[<-hL];simp
 have fX : ∀j,src.drop (s.pos+1+j)=L.drop j:=λj=>by rw[<-hL,gA]
 rw[hL];refine ij Rl Kr (br ?_);refine rn (my @p0 @ap @n1) ?_;refine sE (λn fr N=>(∃(j f:Nat) (acc:List UInt8) (C:ae),n=f+1/\j+f=L.length/\lX q L=(gM q (f+1) (L.drop j)).map (λx=>(acc++x.1,x.2+j))/\fr 3=C/\nH A 5 1 (ints .u8) N C (kf acc)/\acc.length<=j/\bH A N p src (ax s (1+j)) vo vt m)\/
  (∃(j:Nat) (acc:List UInt8) (C:ae),n=0/\j<=L.length+1/\lX q L=none/\fr 3=C/\nH A 5 1 (ints .u8) N C (kf acc)/\acc.length<=100000/\bH A N p src (dt (ax s (1+j)) s.line 20) vo vt m)) (n:=L.length+1) (.inl ⟨0,L.length,[],_,rfl,Om,by simp[lX],by exact Ee, .inl ⟨rfl,rfl⟩,s0,h1⟩) ?_
 rintro n fr N (⟨j,f,acc,C,rfl,hjf,G,f3,R,hac,h2⟩ | ⟨j,acc,C,rfl,hj,G,f3,R,hac,h2⟩) I
 ·have c:=h2.ob;have zW:=h2.pl;have u:(ax s (1+j)).pos=s.pos+1+j:=by show s.pos+(1+j)=_;omega
  have O:= @lK _ _ _ _ _ _ _ _ h2;rw[u,fX] at O;have y:(ax s (1+j)).err=0:=Q;have z:(ax s (1+j)).line=s.line:=rfl;have hc:= @Jy (L.drop j);by_cases J:hd (L.drop j)=q
  ·have um:j<L.length:=by
    have:=nR (l:=L.drop j) Om;simp at this;omega
   have S:lX q L=some (acc,j+1):=by rw[G,gM,iP J];simp;omega
   have h3:=h2.Hn 1 (by rw[u];omega);rw[u] at h3;simp only[y,z] at h3;rw[S];rcases R with ⟨e1,rfl⟩ | ⟨b,kd,rfl,g1,Z,i,g4⟩
   ·have ea:acc= []:=by simpa[kf] using e1
    subst ea;refine rn (xA @I @c @y @O @J @u @cG @n1 @f3 @z) ?_;all_goals
     refine(dF h3 7 s.line [] hb).mono λv5 o ⟨t,h5⟩=> ?_;refine db ?_;all_goals exact⟨t,by rw[<-BF (show 1+j+1=j+1+1 by omega)];exact h5⟩
   rw[Xw] at i;have zy:(kf acc).length=acc.length:=by simp[kf]
   rw[zy] at f3;have pL:b≠p:=λe=>by
    rw[e,c] at i;have:=(dm.cells.inj i).2.1;revert this;decide
   refine rn (acG @I @c @y @O @J @u @cG @n1 @f3 @z @i @pL @KV) ?_;all_goals
    refine(dF h3 7 s.line acc hb).mono λv5 o ⟨t,h5⟩=> ?_;repeat' (first | (simp (disch:=first | omega | (decide +kernel)) only[↓RD,RU,ct]) | ((with_reducible first|apply bL|apply bM|apply bN)<;>intro _))
    all_goals exact⟨t,by rw[<-BF (show 1+j+1=j+1+1 by omega)];exact h5⟩
  by_cases c2:hd (L.drop j)<32
  ·have S:lX q L=none:=by rw[G,gM,iN J,iP c2];rfl
   rw[S];repeat' (first | (simp (disch:=first | omega | (decide +kernel)) only[↓RD,RU,↓cg,↓cU,↓dr,di,pop,bg,ρ0,ρ1,↓reduceIte,Nat.reduceEqDiff,reduceCtorEq,ρ5,ρ6,ρ28,I,c,y,O,u,cG,z]) | ((with_reducible first|apply bL|apply bM|apply bN)<;>intro _))
   all_goals
    refine(kF h2 s.line 20 du de).mono λv3 K3 h3=> ?_;refine db ?_;all_goals
     have hz:(ax s (1+j)).err=0:=Q;unfold dt at h3;rw[iP hz] at h3;exact⟨vt,_,h3,rfl,rfl,rfl,rfl,nq _,by show s.pos<s.pos+(1+j);omega,by show s.pos+(1+j)<=_;omega,rfl⟩
  have um:j<L.length:=by
   have:=nR (l:=L.drop j) Om;simp at this;omega
  obtain⟨M,rfl⟩ : ∃M,f=M+1:=⟨f-1,Om⟩;have h3:=h2.Hn 1 (by rw[u];omega);rw[u] at h3;simp only[y,z] at h3;have Xy:=afp R h2 (.cells [.string (str src), .int .i64 ((s.pos+1+j+1:Nat):Int), .int .i64 s.line, .int .i64 (ax s (1+j)).dep,vo,vt, .map (some m), .int .i64 ((0:Nat):Int), .int .i64 (ax s (1+j)).wh] 55 .ex);have JX:=h1.E;by_cases U:hd (L.drop j)=92
  ·have PV:src.drop (ax (ax s (1+j)) 1).pos=L.drop (j+1):=by
    show src.drop (s.pos+(1+j)+1)=_;rw[<-fX];congr 1;omega
   refine rn (xA @I @c @y @O @u @cG @n1 @U @z @f3) ?_;refine(afo h3 (by show s.pos+(1+j)+1<=_;omega) Q).mono λv4 K4 ⟨Xz,h4⟩=> ?_;rw[PV] at h4;have KW:nH A 5 1 (ints .u8) K4 C (kf acc):=by
    rcases R with g | ⟨b',uI,e',g1,Z,i,g4⟩
    ·exact .inl g
    refine .inr ⟨b',uI,e',g1,ep Z Xz.1,?_,g4⟩;have pL:b'≠p:=λe=>by
     rw[e,c] at i;have:=(dm.cells.inj i).2.1;revert this;decide
    rw[Xz.2 b' Z pL,hY,iN pL];exact i
   cases V:ie (L.drop (j+1)) with
   | none=>
     rw[V] at h4;obtain⟨rfl,h4⟩:=h4;have S:lX q L=none:=by rw[G,gM,iN J,iN c2,iN (by simpa using U),gA,V];rfl
     refine rn @f3 ?_;refine KN (PG .u8) (ys:= [(0:Int)]) (KW.ext (by(repeat (first | assumption | exact aJ.refl _ | (refine aJ.set ?_ Fo _) | (refine aJ.new ?_ _))))) (h4.E.trans (by(repeat (first | assumption | exact aJ.refl _ | (refine aJ.set ?_ Fo _) | (refine aJ.new ?_ _))))) (by simp[kf];omega) (by simp[kf];omega) rfl rfl λv' o D W X Y=> ?_;have hu:kf acc++ [(0:Int)]=kf (acc++ [0]):=by simp[kf]
     rw[hu] at D;have h5:=bH.PP (h4.mv (K':=K4.new (.cells [.int .u8 0] 5 .ex)) (by(repeat (first | assumption | exact aJ.refl _ | (refine aJ.set ?_ Fo _) | (refine aJ.new ?_ _))))) (KW.ext (by(repeat (first | assumption | exact aJ.refl _ | (refine aJ.set ?_ Fo _) | (refine aJ.new ?_ _))))) W X Y;refine db ?_;all_goals exact⟨_,Om, .inr ⟨j+2,_,v',rfl,Om,S,rfl,D,Sq,by rw[PN (show(ax s (1+(j+2))).err=0 from Q),<-BF (show 1+j+1+1=1+(j+2) by omega),<-BF (show 1+j+1=1+j+1 by omega)];exact h5⟩⟩
   | some x=>
     obtain⟨b,n⟩:=x;rw[V] at h4;obtain⟨rfl,h4⟩:=h4;obtain⟨xT,aoX⟩:=afq V;simp only[iE] at xT;obtain⟨f2,rfl⟩ : ∃f2,M=f2+n:=⟨M-n,Om⟩;have Ej:lX q L=(gM q (f2+1) (L.drop (j+1+n))).map (λx=>((acc++ [al b])++x.1,x.2+(j+1+n))):=by
      rw[G,gM,iN J,iN c2,iN (by simpa using U),gA,V];simp only[gA];rw[PQ (f:=f2+n+1) (g:=f2+1) Sq Sq,show j+(1+n)=j+1+n by omega];cases gM q (f2+1) (L.drop (j+1+n)) with
      | none=>rfl
      | some x=>simp;omega
     refine rn @f3 ?_;refine KN (PG .u8) (ys:= [(b:Int)]) (KW.ext (by(repeat (first | assumption | exact aJ.refl _ | (refine aJ.set ?_ Fo _) | (refine aJ.new ?_ _))))) (h4.E.trans (by(repeat (first | assumption | exact aJ.refl _ | (refine aJ.set ?_ Fo _) | (refine aJ.new ?_ _))))) (by simp[kf];omega) (by simp[kf];omega) rfl rfl λv' o D W X Y=> ?_;have hu:kf acc++ [(b:Int)]=kf (acc++ [al b]):=by simp[kf];omega
     rw[hu] at D;have h5:=bH.PP (h4.mv (K':=K4.new (.cells [.int .u8 (b:Int)] 5 .ex)) (by(repeat (first | assumption | exact aJ.refl _ | (refine aJ.set ?_ Fo _) | (refine aJ.new ?_ _))))) (KW.ext (by(repeat (first | assumption | exact aJ.refl _ | (refine aJ.set ?_ Fo _) | (refine aJ.new ?_ _))))) W X Y;refine db ?_;all_goals exact⟨_,Om, .inl ⟨j+1+n,f2,_,v',rfl,Om,Ej,rfl,D,Sq,by rw[<-BF (show 1+j+1+n=1+(j+1+n) by omega),<-BF (show 1+j+1=1+j+1 by omega)];exact h5⟩⟩
  have Ej:lX q L=(gM q (M+1) (L.drop (j+1))).map (λx=>((acc++ [al (hd (L.drop j))])++x.1,x.2+(j+1))):=by
   rw[G,gM,iN J,iN c2,iP U,gA];cases gM q (M+1) (L.drop (j+1)) with
   | none=>rfl
   | some x=>simp;omega
  refine rn (xA @I @c @y @O @u @cG @n1 @U @z @f3) ?_;refine KN (PG .u8) (ys:= [(hd (L.drop j):Int)]) (Xy.ext (by(repeat (first | assumption | exact aJ.refl _ | (refine aJ.set ?_ Fo _) | (refine aJ.new ?_ _))))) (h3.E.trans (by(repeat (first | assumption | exact aJ.refl _ | (refine aJ.set ?_ Fo _) | (refine aJ.new ?_ _))))) (by simp[kf];omega) (by simp[kf];omega) rfl rfl λv' K4 D W X Y=> ?_;have hu:kf acc++ [(hd (L.drop j):Int)]=kf (acc++ [al (hd (L.drop j))]):=by simp[kf];omega
  rw[hu] at D;have h5:=bH.PP (h3.mv (K':=(N.set p (.cells [.string (str src), .int .i64 ((s.pos+1+j+1:Nat):Int), .int .i64 s.line, .int .i64 (ax s (1+j)).dep,vo,vt, .map (some m), .int .i64 ((0:Nat):Int), .int .i64 (ax s (1+j)).wh] 55 .ex)).new (.cells [.int .u8 (hd (L.drop j):Int)] 5 .ex)) (by(repeat (first | assumption | exact aJ.refl _ | (refine aJ.set ?_ Fo _) | (refine aJ.new ?_ _))))) (Xy.ext (by(repeat (first | assumption | exact aJ.refl _ | (refine aJ.set ?_ Fo _) | (refine aJ.new ?_ _))))) W X Y;refine db ?_;all_goals exact⟨_,Om, .inl ⟨j+1,M,_,v',rfl,Om,Ej,rfl,D,Sq,by rw[<-BF (show 1+j+1=1+(j+1) by omega)];exact h5⟩⟩
 have c:=h2.ob;have zW:=h2.pl;have Kj:dt (ax s (1+j)) s.line 20= { ax s (1+j) with err:=20,wh:=s.line }:=PN Q;rw[Kj] at h2 c;have y:({ ax s (1+j) with err:=20,wh:=s.line }:RS).err=20:=rfl;have z:({ ax s (1+j) with err:=20,wh:=s.line }:RS).line=s.line:=rfl;rw[G];have XB:({ ax s (1+j) with err:=20,wh:=s.line }:RS).out.length+({ ax s (1+j) with err:=20,wh:=s.line }:RS).cP.length<1000000:=hb;have mG : ∀t x o,bH A o p src (jy { ax s (1+j) with err:=20,wh:=s.line } 7 s.line x) vo t m->PU A o p src s vo m none:=λt x o h5=>
  ⟨t,_,h5,rfl,rfl,rfl,rfl,by simp[jy,ax],by show s.pos<s.pos+(1+j);omega,by show s.pos+(1+j)<=_;omega,rfl⟩
 rcases R with ⟨e1,rfl⟩ | ⟨b,kd,rfl,g1,Z,i,g4⟩
 ·have ea:acc= []:=by simpa[kf] using e1
  subst ea;refine rn (zp @I @c @y @f3 @z) ?_;all_goals
   refine(dF h2 7 s.line [] XB).mono λv5 o ⟨t,h5⟩=> ?_;refine db ?_;all_goals exact mG t _ o h5
 rw[Xw] at i;have zy:(kf acc).length=acc.length:=by simp[kf]
 rw[zy] at f3;refine rn (xz @I @c @y @f3 @z @i @KV) ?_;all_goals
  refine(dF h2 7 s.line acc XB).mono λv5 o ⟨t,h5⟩=> ?_;refine db ?_;all_goals exact mG t _ o h5
theorem toN{a b:Nat}:((a:Int)+(b:Int))=((a+b:Nat):Int):=rfl
theorem Ek{c:UInt8}:qX [.int .u8 (c.toNat:Int)]=some [c]:=KV (l:= [c])
theorem afs(H:CH)(a b:List UInt8)(ha:a.length<=100000)(hb:b.length<=100000):bw (bj Tryz.prog LG GG) 93 [.string (str a), .string (str b)] H λv K=>v= .bool (decide (a.take b.length=b))/\K=H:=by
 refine ij Rl Kr (br ?_);by_cases hl:b.length<=a.length
 ·exact rz (jU @cG @gu @Ef @Nat.sub_zero);all_goals rfl
 have hd:decide (a.take b.length=b)=false:=decide_eq_false λe=>by
  have:=congrArg List.length e;simp at this;omega
 rw[hd];exact rz (my @cG @gu @Ef)
theorem aft(H:CH)(a b:List UInt8)(ha:a.length<=100000)(hb:b.length<=100000):bw (bj Tryz.prog LG GG) 77 [.string (str a), .string (str b)] H λv K=>v= .bool (decide (a.take b.length=b))/\K=H:=by
 refine ij Rl Kr (br ?_);refine db ?_;refine(afs H a b ha hb).mono λv K ⟨hv,hk⟩=> ?_;subst hv hk;exact Ee;all_goals rfl
theorem XC{H:CH}{a b:List UInt8}(ha:a.length<=100000)(hb:b.length<=100000){Q:ae->CH->Prop}:bw (bj Tryz.prog LG GG) 77 [.string (str a), .string (str b)] H Q↔Q (.bool (decide (a.take b.length=b))) H:=uE (aft H a b ha hb)
theorem XD{l:List UInt8}{i:Nat}(h:i<l.length):(str l)[i]! = l[i]:=by
 have h':i<(str l).size:=h;rw[getElem!_pos (str l) i h'];rfl
theorem Ho{l:List UInt8}{c:UInt8}:0<=firstIdx (str l) c↔c∈l:=by
 unfold firstIdx;cases b:(mu (str l).size).find? λi=>(str l)[i]! == c with
 | some i=>
   have h1:=List.find?_some b;have h2:=List.mem_of_find?_eq_some b;have h3:i<l.length:=List.mem_range.1 h2;rw[XD h3] at h1;have:l[i]=c:=by simpa using h1
   simp only;exact⟨λ_=>this▸Jr h3,λ_=>by omega⟩
 | none=>
   simp only;refine⟨λh=>by omega,λh=> ?_⟩;obtain⟨i,hi,rfl⟩:=List.getElem_of_mem h;have:=List.find?_eq_none.1 b i (List.mem_range.2 hi);rw[XD hi] at this;simp at this
theorem XE{c:UInt8}:c.toNat.toUInt8=c:=by simp
def PW(H K:CH)(l:List UInt8)(c:UInt8)(v:ae):Prop:=(∃x:Int,v= .int .i64 x/\(0<=x↔c∈l))/\K=H
theorem afu(H:CH)(l:List UInt8)(c:UInt8):bw (bj Tryz.prog LG GG) 95 [.string (str l), .int .u8 c.toNat] H λv K=>PW H K l c v:=by
 refine ij Rl Kr (br ?_);refine rn @Xk ?_;all_goals exact⟨⟨_,rfl,by rw[XE];exact Ho⟩,rfl⟩
theorem afv(H:CH)(l:List UInt8)(c:UInt8):bw (bj Tryz.prog LG GG) 95 [.string (str l), .int .u8 c.toNat] H λv K=>v= .int .i64 (firstIdx (str l) c)/\K=H:=by
 refine ij Rl Kr (br ?_);exact rz (an @Xk @XE)
theorem afw(H:CH)(l:List UInt8)(c:UInt8):bw (bj Tryz.prog LG GG) 79 [.string (str l), .int .u8 c.toNat] H λv K=>v= .int .i64 (firstIdx (str l) c)/\K=H:=by
 refine ij Rl Kr (br ?_);refine db ?_;refine(afv H l c).mono λv K ⟨hv,hk⟩=> ?_;subst hv hk;exact Ee;all_goals rfl
theorem XF{H:CH}{l:List UInt8}{c:UInt8}{Q:ae->CH->Prop}:bw (bj Tryz.prog LG GG) 79 [.string ⟨⟨l⟩⟩, .int .u8 c.toNat] H Q↔Q (.int .i64 (firstIdx (str l) c)) H:=uE (afw H l c)
theorem afx(H:CH)(l:List UInt8)(c:UInt8):bw (bj Tryz.prog LG GG) 103 [.string (str l), .string (str [c])] H λv K=>PW H K l c v:=by
 refine ij Rl Kr (br ?_);by_cases he : [c]=l
 ·repeat' (first | (simp (disch:=first | omega | (decide +kernel)) only[↓RD,RU,↓cg,↓cU,↓dr,di,rv,pop,ct,jf,eV,↓reduceIte,Nat.reduceEqDiff,Int.reduceOfNat,Int.reduceNegSucc,reduceCtorEq,cG,Ef,he]) | ((with_reducible first|apply bL|apply bM|apply bN)<;>intro _))
  all_goals exact⟨⟨0,rfl,λ_=>by rw[<-he];exact List.mem_singleton.2 rfl,λ_=>Int.le_refl _⟩,rfl⟩
 refine rn (jU @cG @ia @Ef @he) ?_;refine(afu H l c).mono λv K ⟨⟨x,hv,hx⟩,hk⟩=> ?_;subst hv hk;repeat' (first | (simp (disch:=first | omega | (decide +kernel)) only[↓RD,RU,↓cg,↓cU,pop,ct,jf,eV,↓reduceIte]) | ((with_reducible first|apply bL|apply bM|apply bN)<;>intro _))
 all_goals exact⟨⟨x,rfl,hx⟩,rfl⟩
theorem afy(H:CH)(l:List UInt8)(c:UInt8):bw (bj Tryz.prog LG GG) 94 [.string (str l), .string (str [c])] H λv K=>PW H K l c v:=by
 refine ij Rl Kr (br ?_);refine db ?_;refine(afx H l c).mono λv K ⟨⟨x,hv,hx⟩,hk⟩=> ?_;subst hv hk;refine db ?_;all_goals exact⟨⟨x,rfl,hx⟩,rfl⟩
theorem afz(H:CH)(l:List UInt8)(c:UInt8):bw (bj Tryz.prog LG GG) 78 [.string (str l), .string (str [c])] H λv K=>v= .bool (decide (c∈l))/\K=H:=by
 refine ij Rl Kr (br ?_);refine db ?_;refine(afy H l c).mono λv K ⟨⟨x,hv,hx⟩,hk⟩=> ?_;subst hv hk;refine db ?_;all_goals exact congrArg Value.bool (decide_eq_decide.2 hx)
theorem afA{H:CH}{l:List UInt8}{c:UInt8}{Q:ae->CH->Prop}:bw (bj Tryz.prog LG GG) 78 [.string (str l), .string (str [c])] H Q↔Q (.bool (decide (c∈l))) H:=uE (afz H l c)
theorem afB{z:ae}:mD [z] 13= [z,z,z,z,z,z,z,z,z,z,z,z,z]:=by simp[mD,mu,List.range.loop,Nat.mod_one]
def B1:List UInt8:= [40,91,123]
def B2:List UInt8:= [41,93,125]
theorem Hp{H:CH}{c:UInt8}{Q:ae->CH->Prop}:bw (bj Tryz.prog LG GG) 78 [.string ⟨⟨[al 43,al 45,al 42,al 47,al 37,al 61,al 60,al 62,al 40,al 41,al 91,al 93,al 123,al 125,al 44,al 58,al 46]⟩⟩, .string ⟨[c].toArray⟩] H Q↔Q (.bool (decide (c∈S1))) H:=afA
theorem Hq{H:CH}{c:UInt8}{Q:ae->CH->Prop}:bw (bj Tryz.prog LG GG) 79 [.string ⟨⟨[al 40,al 91,al 123]⟩⟩, .int .u8 c.toNat] H Q↔Q (.int .i64 (firstIdx (str B1) c)) H:=XF
theorem Hr{H:CH}{c:UInt8}{Q:ae->CH->Prop}:bw (bj Tryz.prog LG GG) 79 [.string ⟨⟨[al 41,al 93,al 125]⟩⟩, .int .u8 c.toNat] H Q↔Q (.int .i64 (firstIdx (str B2) c)) H:=XF
def SY:List (List UInt8):=S3++S2
def PY(A K:CH)(p:Nat)(src:List UInt8)(s:RS)(vo:ae)(m:Nat)(r:Option Nat):Prop:=match r with
 | some n=>∃b,bH A K p src (jy { ax s n with dep:=ja s.dep 9 ((src.drop s.pos).take n) } 9 s.line ((src.drop s.pos).take n)) vo b m
 | none=>PS A K p src s vo m
theorem XG{x:List UInt8}(h:x∈SY):(x∈S3/\x.length=3)\/(x∈S2/\x.length=2):=by
 have h3 : ∀x∈S3,x.length=3:=by decide
 have h2 : ∀x∈S2,x.length=2:=by decide
 rcases List.mem_append.1 h with g | g
 ·exact .inl ⟨g,h3 x g⟩
 exact .inr ⟨g,h2 x g⟩
theorem afC{i:Nat}(h:i<SY.length)(h2:SY[i].length=2):2<=i:=by
 rcases pv i 2 with g | g
 ·have:i=0\/i=1:=by omega
  rcases this with rfl | rfl
  ·exact absurd (show(3:Nat)=2 from h2) de
  exact absurd (show(3:Nat)=2 from h2) de
 exact g
theorem afD{i:Nat}(h:2<=i){y:List UInt8}(hy:y∈S3):y∈SY.take i:=by
 have:SY.take i=S3++S2.take (i-2):=by
  unfold SY;rw[List.take_append,qk (show S3.length<=i from h)];rfl
 rw[this];exact vU _ hy
theorem afE{l:List UInt8}{i:Nat}(h:i<SY.length)(b:l.take SY[i].length=SY[i])(hb : ∀x∈SY.take i,l.take x.length≠x):lB l=some SY[i].length:=by
 unfold lB;rcases XG (Jr h) with ⟨g,c⟩ | ⟨g,c⟩
 ·rw[c] at b⊢;rw[iP (by rw[b];exact g)]
 have hi:=afC h c;rw[c] at b⊢;rw[iN,iP (by rw[b];exact g)];intro hc;have hl:(l.take 3).length=3:=by
  have h3 : ∀x∈S3,x.length=3:=by decide
  exact h3 _ hc
 exact hb _ (afD hi hc) (by rw[hl])
theorem afF{l:List UInt8}(hb : ∀x∈SY,l.take x.length≠x):lB l=if hd l∈S1.map UInt8.toNat then some 1 else none:=by
 have h3 : ∀x∈S3,x.length=3:=by decide
 have h2 : ∀x∈S2,x.length=2:=by decide
 unfold lB;rw[iN,iN];·intro hc;exact hb _ (List.mem_append_right _ hc) (by rw[h2 _ hc])
 intro hc;exact hb _ (vU _ hc) (by rw[h3 _ hc])
theorem afG{A K:CH}{p:Nat}{src:List UInt8}{s:RS}{vo vt:ae}{m:Nat}(h:bH A K p src s vo vt m)(hp:s.pos<src.length)(h0:s.err=0)(hb:s.out.length+s.cP.length<1000000)(mc:s.dep<100000) :
 bw (bj Tryz.prog LG GG) 60 [.pointer (some ⟨p,0,none⟩)] K λv K'=>PY A K' p src s vo m (lB (src.drop s.pos)):=by
 have kT:=h.sl;have ap:=h.ob;have eL:=h.pl;have du:=h.bd.line;obtain⟨l,hl⟩ : ∃l,src.drop s.pos=l:=⟨_,rfl⟩;have Gk:l.length=src.length-s.pos:=by rw[<-hl];simp
 have yB:l.take (src.length-s.pos)=l:=qk Om;have JY:0<l.length:=by omega
 unfold PY;rw[hl];refine ij Rl Kr (br ?_);refine rn @afB ?_;refine sE (λn fr E=>∃i,n=13-i/\i<=13/\fr 7= .int .i64 (i:Nat)/\(∀x∈SY.take i,l.take x.length≠x)/\E.ob K.nx= .cells (SY.map λx=> .string (str x)) 9 .ex/\K.nx<E.nx/\bH A E p src s vo vt m) (n:=13) ⟨0,rfl,Om,by(refine db ?_;try rfl),λx hx=>(by simp at hx),?_,pw _,h.mv (by(repeat (first | assumption | exact aJ.refl _ | (refine aJ.set ?_ Fo _) | (refine aJ.new ?_ _))))⟩ ?_;·rw[fW,iP rfl];rfl
 rintro n fr E ⟨i,rfl,aoY,f7,V,KX,W,h1⟩ b;have C:=h1.ob;have zY:=h1.pl;by_cases hi:i<13
 ·have j:i<SY.length:=hi;obtain⟨x,hx⟩ : ∃x,SY[i]=x:=⟨_,rfl⟩;have ek:(SY.map λx=>(.string (str x):ae))[i]? = some (.string (str x)):=by rw[ky,dA j,hx];rfl
  have zx:=XG (Jr j);rw[hx] at zx;have aoZ:2<=x.length/\x.length<=3:=by rcases zx with ⟨_,g⟩ | ⟨_,g⟩<;>omega
  by_cases G:l.take x.length=x
  ·have M:lB l=some x.length:=by rw[<-hx];exact afE j (by rw[hx];exact G) V
   have X:decide (l.take x.length=x)=true:=decide_eq_true G;have ao0:x.length<=l.length:=by
    have:=congrArg List.length G;simp at this;omega
   rw[M];refine rn (acF @b @f7 @KX @ek @C @cG @gu @hl @yB @XC @X) ?_;refine(dF h1 9 s.line x hb).mono λv2 K2 ⟨oV,h2⟩=> ?_;have fb:=h2.ob;have zW:=h2.pl;have Y:(jy s 9 s.line x).pos=s.pos:=rfl;have o:ja s.dep 9 x=s.dep:=by
    have n1:x ∉ [[40],[91],[123]]:=λhc=>by
     have : ∀y∈ [[(40:UInt8)],[91],[123]],y.length=1:=by decide
     have:=this x hc;omega
    have n2:x ∉ [[41],[93],[125]]:=λhc=>by
     have : ∀y∈ [[(41:UInt8)],[93],[125]],y.length=1:=by decide
     have:=this x hc;omega
    unfold ja;rw[iN (λg=>n1 g.2),iN (λg=>n2 g.2.1)]
   have h3:=h2.set (s':= { jy s 9 s.line x with pos:=s.pos+x.length }) rfl rfl ⟨by show s.pos+x.length<=_;omega,h2.bd.line,h2.bd.dep,h2.bd.err,h2.bd.wh,h2.bd.out⟩;refine rn (zp @b @fb @Y @cG @toN) ?_;all_goals exact⟨oV,by rw[G,o];exact h3⟩
  have X:decide (l.take x.length=x)=false:=decide_eq_false G;refine rn (xB @b @f7 @KX @ek @C @cG @gu @hl @yB @XC @X @n1) ?_;all_goals
   refine⟨_,Om,i+1,rfl,Om,rfl,λy hy=> ?_,W,h1⟩;rw[List.take_add_one,dA j,hx] at hy;rcases List.mem_append.1 hy with hy | hy
   ·exact V y hy
   have:y=x:=by simpa using hy
   rw[this];exact G
 have vZ:i=13:=by omega
 subst vZ;obtain⟨c,hc⟩ : ∃c,src[s.pos]=c:=⟨_,rfl⟩;have J:src[s.pos]? = some c:=by rw[KR hp,hc]
 have oX:hd l=c.toNat:=by rw[<-hl,mz hp,hc]
 have N:l.take 1= [c]:=by
  rw[<-hl,List.drop_eq_getElem_cons hp,hc];rfl
 have M:=afF (l:=l) λx hx=>V x (by rw[qk (show SY.length<=13 from ag _)];exact hx);have XH:hd l∈S1.map UInt8.toNat↔c∈S1:=by
  rw[oX];exact⟨λh=>by obtain⟨y,hy,e⟩:=List.mem_map.1 h;rwa [<-UInt8.toNat.inj e],λh=>List.mem_map.2 ⟨c,h,rfl⟩⟩
 by_cases O:c∈S1
 ·have I:decide (c∈S1)=true:=decide_eq_true O;rw[M,iP (XH.2 O)];by_cases L:c∈B1
  ·have uA:decide (0<=firstIdx (str B1) c)=true:=decide_eq_true (Ho.2 L);have o:ja s.dep 9 [c]=s.dep+1:=by
    unfold ja;rw[iP ⟨rfl,by simp only[B1,js,List.not_mem_nil,or_false] at L⊢;rcases L with rfl | rfl | rfl<;>simp⟩]
   have h4:=(h1.mv (K':=E.new (.cells [.int .u8 (c.toNat:Int)] 5 .ex)) (by(repeat (first | assumption | exact aJ.refl _ | (refine aJ.set ?_ Fo _) | (refine aJ.new ?_ _))))).set (s':= { s with dep:=s.dep+1 }) rfl rfl ⟨h.bd.pos,h.bd.line,by show s.dep+1<=_;omega,h.bd.err,h.bd.wh,h.bd.out⟩;refine rn (NN @b @f7 @C @cG @ia @J @Hj @Hp @Hq @Hr @Ek @I @uA @n1) ?_;all_goals
    refine(dF (h4.mv (by(repeat (first | assumption | exact aJ.refl _ | (refine aJ.set ?_ Fo _) | (refine aJ.new ?_ _))))) 9 s.line [c] hb).mono λQ R ⟨t,h5⟩=> ?_;have u:=h5.ob;have S:=h5.pl;have z:(jy { s with dep:=s.dep+1 } 9 s.line [c]).pos=s.pos:=rfl;refine rn (jU @b @u @z @n1) ?_;all_goals exact⟨t,by rw[N,o];exact h5.set (s':=jy { ax s 1 with dep:=s.dep+1 } 9 s.line [c]) rfl rfl ⟨by show s.pos+1<=_;omega,h5.bd.line,h5.bd.dep,h5.bd.err,h5.bd.wh,h5.bd.out⟩⟩
  have uA:decide (0<=firstIdx (str B1) c)=false:=decide_eq_false λg=>L (Ho.1 g);have Z : [c] ∉ [[(40:UInt8)],[91],[123]]:=λg=>L (by simpa[B1] using g);by_cases U:c∈B2
  ·have j:decide (0<=firstIdx (str B2) c)=true:=decide_eq_true (Ho.2 U);have P3 : [c]∈ [[(41:UInt8)],[93],[125]]:=by simpa[B2] using U
   by_cases ez:0<s.dep
   ·have o:ja s.dep 9 [c]=s.dep-1:=by
     unfold ja;rw[iN (λg=>Z g.2),iP ⟨rfl,P3,ez⟩]
    have h4:=(h1.mv (K':=E.new (.cells [.int .u8 (c.toNat:Int)] 5 .ex)) (by(repeat (first | assumption | exact aJ.refl _ | (refine aJ.set ?_ Fo _) | (refine aJ.new ?_ _))))).set (s':= { s with dep:=s.dep-1 }) rfl rfl ⟨h.bd.pos,h.bd.line,by show s.dep-1<=_;omega,h.bd.err,h.bd.wh,h.bd.out⟩;have wv:((s.dep:Nat):Int)-1=((s.dep-1:Nat):Int):=by omega
    refine rn (NO @b @f7 @C @cG @ia @J @Hj @Hp @Hq @Hr @Ek @I @uA @j @wv) ?_;all_goals
     refine(dF (h4.mv (by(repeat (first | assumption | exact aJ.refl _ | (refine aJ.set ?_ Fo _) | (refine aJ.new ?_ _))))) 9 s.line [c] hb).mono λQ R ⟨t,h5⟩=> ?_;have u:=h5.ob;have S:=h5.pl;have z:(jy { s with dep:=s.dep-1 } 9 s.line [c]).pos=s.pos:=rfl;refine rn (jU @b @u @z @n1) ?_;all_goals exact⟨t,by rw[N,o];exact h5.set (s':=jy { ax s 1 with dep:=s.dep-1 } 9 s.line [c]) rfl rfl ⟨by show s.pos+1<=_;omega,h5.bd.line,h5.bd.dep,h5.bd.err,h5.bd.wh,h5.bd.out⟩⟩
   have o:ja s.dep 9 [c]=s.dep:=by
    unfold ja;rw[iN (λg=>Z g.2),iN (λg=>ez g.2.2)]
   refine rn (NN @b @f7 @C @cG @ia @J @Hj @Hp @Hq @Hr @Ek @I @uA @j) ?_;all_goals
    refine(dF (h1.mv (by(repeat (first | assumption | exact aJ.refl _ | (refine aJ.set ?_ Fo _) | (refine aJ.new ?_ _))))) 9 s.line [c] hb).mono λQ R ⟨t,h5⟩=> ?_;have u:=h5.ob;have S:=h5.pl;have z:(jy s 9 s.line [c]).pos=s.pos:=rfl;refine rn (jU @b @u @z @n1) ?_;all_goals exact⟨t,by rw[N,o];exact h5.set (s':=jy { ax s 1 with dep:=s.dep } 9 s.line [c]) rfl rfl ⟨by show s.pos+1<=_;omega,h5.bd.line,h5.bd.dep,h5.bd.err,h5.bd.wh,h5.bd.out⟩⟩
  have j:decide (0<=firstIdx (str B2) c)=false:=decide_eq_false λg=>U (Ho.1 g);have P3 : [c] ∉ [[(41:UInt8)],[93],[125]]:=λg=>U (by simpa[B2] using g);have o:ja s.dep 9 [c]=s.dep:=by
   unfold ja;rw[iN (λg=>Z g.2),iN (λg=>P3 g.2.1)]
  refine rn (NN @b @f7 @C @cG @ia @J @Hj @Hp @Hq @Hr @Ek @I @uA @j) ?_;all_goals
   refine(dF (h1.mv (by(repeat (first | assumption | exact aJ.refl _ | (refine aJ.set ?_ Fo _) | (refine aJ.new ?_ _))))) 9 s.line [c] hb).mono λQ R ⟨t,h5⟩=> ?_;have u:=h5.ob;have S:=h5.pl;have z:(jy s 9 s.line [c]).pos=s.pos:=rfl;refine rn (jU @b @u @z @n1) ?_;all_goals exact⟨t,by rw[N,o];exact h5.set (s':=jy { ax s 1 with dep:=s.dep } 9 s.line [c]) rfl rfl ⟨by show s.pos+1<=_;omega,h5.bd.line,h5.bd.dep,h5.bd.err,h5.bd.wh,h5.bd.out⟩⟩
 have I:decide (c∈S1)=false:=decide_eq_false O;rw[M,iN (λg=>O (XH.1 g))];refine rn (xB @b @f7 @C @cG @ia @J @Hj @Hp @Hq @Hr @Ek @I) ?_;refine(KU (h1.mv (by(repeat (first | assumption | exact aJ.refl _ | (refine aJ.set ?_ Fo _) | (refine aJ.new ?_ _))))) s.line 20 du de h0).mono λv4 K4 ⟨h4,_⟩=> ?_;have dN:=h4.ob;have kg:=h4.pl;refine rn (my @b @dN @Ek) ?_;all_goals
  refine(dF (h4.mv (by(repeat (first | assumption | exact aJ.refl _ | (refine aJ.set ?_ Fo _) | (refine aJ.new ?_ _))))) 9 s.line [c] hb).mono λQ R ⟨t,h5⟩=> ?_;have u:=h5.ob;have S:=h5.pl;have z:(jy { s with err:=20,wh:=s.line } 9 s.line [c]).pos=s.pos:=rfl;refine rn (jU @b @u @z @n1) ?_;all_goals exact⟨t,_,h5.set (s':=jy { ax s 1 with err:=20,wh:=s.line } 9 s.line [c]) rfl rfl ⟨by show s.pos+1<=_;omega,h5.bd.line,h5.bd.dep,h5.bd.err,h5.bd.wh,h5.bd.out⟩,rfl,rfl,rfl,rfl,by simp[jy,ax],pw _,by show s.pos+1<=_;omega,rfl⟩
end
section
open Go Go.RowKit
set_option maxHeartbeats 2000000
def gJ (s:RS)(l:List UInt8):RS:=jy (if bZ l=true then dt (ax s (a8 l)) s.line 20 else ax s (a8 l)) (dw l) s.line (l.take (a8 l))
theorem yE{l:List UInt8}{j:Nat}(h:bA (hd (l.drop j))=true):j<l.length:=by
 rcases pv j l.length with g | g
 ·exact g
 rw[AR g] at h;cases h
theorem El:fJ 101=true:=by decide
theorem XI:fJ 46=false:=by decide
theorem uM{l:List UInt8}:cq l<=l.length:=tn
theorem eA{s:RS}{a b:Nat}:(dt s a b).out=s.out/\(dt s a b).cP=s.cP:=by unfold dt;split<;>exact⟨rfl,rfl⟩
theorem afI{A K:CH}{p:Nat}{src:List UInt8}{s:RS}{vo vt:ae}{m:Nat}(h:bH A K p src s vo vt m)(hp:s.pos<src.length)(Hu:bA (hd (src.drop s.pos))=true)(hb:s.out.length+s.cP.length<1000000) :
 bw (bj Tryz.prog LG GG) 58 [.pointer (some ⟨p,0,none⟩)] K λv K'=>∃gV,bH A K' p src (gJ s (src.drop s.pos)) vo gV m:=by
 have kT:=h.sl;have ap:=h.ob;have eL:=h.pl;have du:=h.bd.line;obtain⟨l,hl⟩ : ∃l,src.drop s.pos=l:=⟨_,rfl⟩;have Gk:l.length=src.length-s.pos:=by rw[<-hl];simp
 have R : ∀j,src.drop (s.pos+j)=l.drop j:=λj=>by rw[<-hl,gA]
 have mc : ∀j:Nat,(cq (l.drop j):Nat)<=l.length-j:=λj=>by have:=uM (l:=l.drop j);simpa using this
 rw[hl] at Hu⊢
 have ha0:0<cq l:=by
  have:=vX (p:=bA) (l:=l) (j:=0) Om (by simpa using Hu);simp only[List.drop_zero] at this;unfold cq;omega
 refine ij Rl Kr (br ?_);refine rn @ap ?_;refine(zV h Om).mono λv1 K1 h1=> ?_;rw[hl] at h1;obtain⟨a,ha⟩ : ∃a,cq l=a:=⟨_,rfl⟩;have pM:=uM (l:=l);rw[ha] at h1 pM ha0;have gq:=h1.ob;have zY:=h1.pl;have Lb:(ax s a).pos=s.pos+a:=rfl;have p0:= @lK _ _ _ _ _ _ _ _ h1;have p1:= @PK _ _ _ _ _ _ _ _ h1;have p2:= @Xn _ _ _ _ _ _ _ _ h1;simp only[Lb,jS,R] at p0 p1 p2;by_cases hf:hd (l.drop a)=46/\bA (hd (l.drop (a+1)))=true
 ·obtain⟨nB,pN⟩:=hf;have ao1:a<l.length:=by
   have:=nR (l:=l.drop a) Om;simp at this;omega
  have hA:hC l=a+1+cq (l.drop (a+1)):=by
   unfold hC iH;rw[ha,gA,iP ⟨nB,pN⟩];omega
  have hF:iH (l.drop (cq l))≠0:=by
   unfold iH;rw[ha,gA,iP ⟨nB,pN⟩];omega
  refine rn (zq @p0 @p1 @nB @jL @pN @gq @Lb @n1) ?_;refine(zV (s:=ax s (a+1)) (h1.set (s':=ax s (a+1)) rfl rfl (sF h.bd Om)) (by show s.pos+(a+1)<=_;omega)).mono λv2 K2 h2=> ?_;have hq:(ax s (a+1)).pos=s.pos+(a+1):=rfl;rw[hq,R] at h2;have h2:bH A K2 p src (ax s (hC l)) vo vt m:=by
   have e:ax (ax s (a+1)) (cq (l.drop (a+1)))=ax s (hC l):=by rw[hA];simp only[ax];congr 1;omega
   rw[<-e];exact h2
  obtain⟨b,M⟩ : ∃b,hC l=b:=⟨_,rfl⟩;have j8:b<=l.length:=by have:=mc (a+1);rw[<-M,hA];omega
  rw[M] at h2;have fb:=h2.ob;have zW:=h2.pl;have gI:(ax s b).pos=s.pos+b:=rfl;have q0:= @lK _ _ _ _ _ _ _ _ h2;have q1:= @PK _ _ _ _ _ _ _ _ h2;have q2:= @Xn _ _ _ _ _ _ _ _ h2;simp only[gI,jS,R] at q0 q1 q2;by_cases G:hd (l.drop b)=101
  ·by_cases X:bA (hd (l.drop (b+1)))=true
   ·have I:eR (l.drop b)=2+cq (l.drop (b+2)):=by
     have bn:b+1<l.length:=by
      rcases pv (b+1) l.length with g | g
      ·exact g
      rw[AR g] at X;cases X
     unfold eR;rw[iP G,gA,iP X];have:=vX (p:=bA) bn X;unfold cq;rw[this];show 1+(nW bA (l.drop (b+2))+1)=_;omega
    refine rn (AX @q0 @q1 @q2 @G @jL @X @fb @gI @n2) ?_;refine(zV (s:=ax s (b+2)) (h2.set (s':=ax s (b+2)) rfl rfl (sF h.bd Om)) (by show s.pos+(b+2)<=_;omega)).mono λv3 K3 h3=> ?_;have rC:(ax s (b+2)).pos=s.pos+(b+2):=rfl;rw[rC,R] at h3;have x:a8 l=b+(2+cq (l.drop (b+2))):=by unfold a8;rw[M,I]
    have Hv:a8 l<=l.length+2:=by have:=mc (b+2);omega
    have h3:bH A K3 p src (ax s (a8 l)) vo vt m:=by
     have e:ax (ax s (b+2)) (cq (l.drop (b+2)))=ax s (a8 l):=by rw[x];simp only[ax];congr 1;omega
     rw[<-e];exact h3
    have o:dw l=6:=by unfold dw;rw[iN];rintro⟨_,g⟩;rw[M,I] at g;omega
    have N:a8 l<=l.length:=by rw[x];have:=mc (b+2);have:=yE X;omega
    obtain⟨n,hn⟩ : ∃n,a8 l=n:=⟨_,rfl⟩;rw[hn] at h3 N;have E:=h3.ob;have Z:=h3.pl;have y:(ax s n).pos=s.pos+n:=rfl;have z:= @lK _ _ _ _ _ _ _ _ h3;simp only[y,R] at z;have c:(l.take n).length=n:=by simp;omega
    have O:0<n:=by omega
    have Q:(l.take n)[0]? = some l[0]:=by rw[mQ,iP O];exact dA _
    have nV:hd l=l[0].toNat:=by have:=mz (l:=l) (j:=0) Om;simpa using this
    cases i:fJ (hd (l.drop n)) with
    | true=>
      have t:bZ l=true:=by unfold bZ;rw[hn,i];rfl
      refine rn (xB @E @y @cG @ia @gu @iZ @hl @z @ik @i @c @Q) ?_;all_goals
       refine(kF h3 s.line 20 Om de).mono λS U h4=> ?_;have C:=h4.ob;have V:=h4.pl;have D:(dt (ax s n) s.line 20).line=s.line:=by unfold dt;split<;>rfl
       refine rn (an @C @D) ?_;refine(dF h4 6 s.line (l.take n) (by rw[eA.1,eA.2];exact hb)).mono λJ L ⟨u,h5⟩=> ?_;repeat' (first | (simp (disch:=first | omega | (decide +kernel)) only[↓RD,RU,ct]) | ((with_reducible first|apply bL|apply bM|apply bN)<;>intro _))
       all_goals exact⟨u,by unfold gJ;rw[iP t,hn,o];exact h5⟩
    | false=>
      repeat' (first | (simp (disch:=first | omega | (decide +kernel)) only[↓RD,RU,↓cg,↓cU,↓dr,di,pop,bg,ρ0,ρ1,↓reduceIte,Nat.reduceEqDiff,reduceCtorEq,ρ5,ρ6,eJ,ρ28,ρ29,E,y,cG,gu,iZ,hl,z,ik,i,c]) | ((with_reducible first|apply bL|apply bM|apply bN)<;>intro _))
      all_goals first
       | (have t:bZ l=true:=by
           unfold bZ;rw[hn,o,i];simp;omega
          refine(kF h3 s.line 20 Om de).mono λS U h4=> ?_;have C:=h4.ob;have V:=h4.pl;have D:(dt (ax s n) s.line 20).line=s.line:=by unfold dt;split<;>rfl
          repeat' (first | (simp (disch:=first | omega | (decide +kernel)) only[↓RD,RU,↓cg,↓cU,di,pop,bg,ρ0,ρ1,↓reduceIte,Nat.reduceEqDiff,reduceCtorEq,ρ5,ρ6,C,D]) | ((with_reducible first|apply bL|apply bM|apply bN)<;>intro _))
          refine(dF h4 6 s.line (l.take n) (by rw[eA.1,eA.2];exact hb)).mono λJ L ⟨u,h5⟩=> ?_;repeat' (first | (simp (disch:=first | omega | (decide +kernel)) only[↓RD,RU,ct]) | ((with_reducible first|apply bL|apply bM|apply bN)<;>intro _))
          all_goals exact⟨u,by unfold gJ;rw[iP t,hn,o];exact h5⟩)
       | (have t:bZ l=false:=by
           unfold bZ;rw[hn,o,i];simp;omega
          refine(dF h3 6 s.line (l.take n) hb).mono λJ L ⟨u,h5⟩=> ?_;refine db ?_;all_goals exact⟨u,by unfold gJ;rw[iN (by simp[t]),hn,o];exact h5⟩)
   have Y:bA (hd (l.drop (b+1)))=false:=by simpa using X
   by_cases od:(hd (l.drop (b+1))=43\/hd (l.drop (b+1))=45)/\bA (hd (l.drop (b+2)))=true
   ·obtain⟨iA,W⟩:=od;have I:eR (l.drop b)=2+cq (l.drop (b+2)):=by
     unfold eR;rw[iP G,gA,gA,iN (by rw[Y];simp),iP ⟨iA,W⟩]
    rcases iA with iA | iA
    ·repeat' (first | (simp (disch:=first | omega | (decide +kernel)) only[↓RD,RU,↓cg,↓jx,↓cU,↓dr,di,pop,bg,cy,isVal,cj,iG,ρ0,ρ1,↓reduceIte,Nat.reduceEqDiff,Nat.reduceAdd,reduceCtorEq,ρ5,ρ6,ρ7,ρ8,ρ17,ρ18,ρ19,ρ20,ρ22,ρ23,Kd.eM,ρ25,ρ26,Nat.reduceLeDiff,q0,q1,q2,G,jL,iA,(by simpa[iA] using Y:bA 43=false),W,fb,gI,n2]) | ((with_reducible first|apply bL|apply bM|apply bN)<;>intro _))
     refine(zV (s:=ax s (b+2)) (h2.set (s':=ax s (b+2)) rfl rfl (sF h.bd Om)) (by show s.pos+(b+2)<=_;omega)).mono λv3 K3 h3=> ?_;have rC:(ax s (b+2)).pos=s.pos+(b+2):=rfl;rw[rC,R] at h3;have x:a8 l=b+(2+cq (l.drop (b+2))):=by unfold a8;rw[M,I]
     have Hv:a8 l<=l.length+2:=by have:=mc (b+2);omega
     have h3:bH A K3 p src (ax s (a8 l)) vo vt m:=by
      have e:ax (ax s (b+2)) (cq (l.drop (b+2)))=ax s (a8 l):=by rw[x];simp only[ax];congr 1;omega
      rw[<-e];exact h3
     have o:dw l=6:=by unfold dw;rw[iN];rintro⟨_,g⟩;rw[M,I] at g;omega
     have N:a8 l<=l.length:=by rw[x];have:=mc (b+2);have:=yE W;omega
     obtain⟨n,hn⟩ : ∃n,a8 l=n:=⟨_,rfl⟩;rw[hn] at h3 N;have E:=h3.ob;have Z:=h3.pl;have y:(ax s n).pos=s.pos+n:=rfl;have z:= @lK _ _ _ _ _ _ _ _ h3;simp only[y,R] at z;have c:(l.take n).length=n:=by simp;omega
     have O:0<n:=by omega
     have Q:(l.take n)[0]? = some l[0]:=by rw[mQ,iP O];exact dA _
     have nV:hd l=l[0].toNat:=by have:=mz (l:=l) (j:=0) Om;simpa using this
     cases i:fJ (hd (l.drop n)) with
     | true=>
       have t:bZ l=true:=by unfold bZ;rw[hn,i];rfl
       refine rn (xB @E @y @cG @ia @gu @iZ @hl @z @ik @i @c @Q) ?_;all_goals
        refine(kF h3 s.line 20 Om de).mono λS U h4=> ?_;have C:=h4.ob;have V:=h4.pl;have D:(dt (ax s n) s.line 20).line=s.line:=by unfold dt;split<;>rfl
        refine rn (an @C @D) ?_;refine(dF h4 6 s.line (l.take n) (by rw[eA.1,eA.2];exact hb)).mono λJ L ⟨u,h5⟩=> ?_;repeat' (first | (simp (disch:=first | omega | (decide +kernel)) only[↓RD,RU,ct]) | ((with_reducible first|apply bL|apply bM|apply bN)<;>intro _))
        all_goals exact⟨u,by unfold gJ;rw[iP t,hn,o];exact h5⟩
     | false=>
       repeat' (first | (simp (disch:=first | omega | (decide +kernel)) only[↓RD,RU,↓cg,↓cU,↓dr,di,pop,bg,ρ0,ρ1,↓reduceIte,Nat.reduceEqDiff,reduceCtorEq,ρ5,ρ6,eJ,ρ28,ρ29,E,y,cG,gu,iZ,hl,z,ik,i,c]) | ((with_reducible first|apply bL|apply bM|apply bN)<;>intro _))
       all_goals first
        | (have t:bZ l=true:=by
            unfold bZ;rw[hn,o,i];simp;omega
           refine(kF h3 s.line 20 Om de).mono λS U h4=> ?_;have C:=h4.ob;have V:=h4.pl;have D:(dt (ax s n) s.line 20).line=s.line:=by unfold dt;split<;>rfl
           repeat' (first | (simp (disch:=first | omega | (decide +kernel)) only[↓RD,RU,↓cg,↓cU,di,pop,bg,ρ0,ρ1,↓reduceIte,Nat.reduceEqDiff,reduceCtorEq,ρ5,ρ6,C,D]) | ((with_reducible first|apply bL|apply bM|apply bN)<;>intro _))
           refine(dF h4 6 s.line (l.take n) (by rw[eA.1,eA.2];exact hb)).mono λJ L ⟨u,h5⟩=> ?_;repeat' (first | (simp (disch:=first | omega | (decide +kernel)) only[↓RD,RU,ct]) | ((with_reducible first|apply bL|apply bM|apply bN)<;>intro _))
           all_goals exact⟨u,by unfold gJ;rw[iP t,hn,o];exact h5⟩)
        | (have t:bZ l=false:=by
            unfold bZ;rw[hn,o,i];simp;omega
           refine(dF h3 6 s.line (l.take n) hb).mono λJ L ⟨u,h5⟩=> ?_;refine db ?_;all_goals exact⟨u,by unfold gJ;rw[iN (by simp[t]),hn,o];exact h5⟩)
    repeat' (first | (simp (disch:=first | omega | (decide +kernel)) only[↓RD,RU,↓cg,↓jx,↓cU,↓dr,di,pop,bg,cy,isVal,cj,iG,ρ0,ρ1,↓reduceIte,Nat.reduceEqDiff,Nat.reduceAdd,reduceCtorEq,ρ5,ρ6,ρ7,ρ8,ρ17,ρ18,ρ19,ρ20,ρ22,ρ23,Kd.eM,ρ25,ρ26,Nat.reduceLeDiff,q0,q1,q2,G,jL,iA,(by simpa[iA] using Y:bA 45=false),W,fb,gI,n2]) | ((with_reducible first|apply bL|apply bM|apply bN)<;>intro _))
    refine(zV (s:=ax s (b+2)) (h2.set (s':=ax s (b+2)) rfl rfl (sF h.bd Om)) (by show s.pos+(b+2)<=_;omega)).mono λv3 K3 h3=> ?_;have rC:(ax s (b+2)).pos=s.pos+(b+2):=rfl;rw[rC,R] at h3;have x:a8 l=b+(2+cq (l.drop (b+2))):=by unfold a8;rw[M,I]
    have Hv:a8 l<=l.length+2:=by have:=mc (b+2);omega
    have h3:bH A K3 p src (ax s (a8 l)) vo vt m:=by
     have e:ax (ax s (b+2)) (cq (l.drop (b+2)))=ax s (a8 l):=by rw[x];simp only[ax];congr 1;omega
     rw[<-e];exact h3
    have o:dw l=6:=by unfold dw;rw[iN];rintro⟨_,g⟩;rw[M,I] at g;omega
    have N:a8 l<=l.length:=by rw[x];have:=mc (b+2);have:=yE W;omega
    obtain⟨n,hn⟩ : ∃n,a8 l=n:=⟨_,rfl⟩;rw[hn] at h3 N;have E:=h3.ob;have Z:=h3.pl;have y:(ax s n).pos=s.pos+n:=rfl;have z:= @lK _ _ _ _ _ _ _ _ h3;simp only[y,R] at z;have c:(l.take n).length=n:=by simp;omega
    have O:0<n:=by omega
    have Q:(l.take n)[0]? = some l[0]:=by rw[mQ,iP O];exact dA _
    have nV:hd l=l[0].toNat:=by have:=mz (l:=l) (j:=0) Om;simpa using this
    cases i:fJ (hd (l.drop n)) with
    | true=>
      have t:bZ l=true:=by unfold bZ;rw[hn,i];rfl
      refine rn (xB @E @y @cG @ia @gu @iZ @hl @z @ik @i @c @Q) ?_;all_goals
       refine(kF h3 s.line 20 Om de).mono λS U h4=> ?_;have C:=h4.ob;have V:=h4.pl;have D:(dt (ax s n) s.line 20).line=s.line:=by unfold dt;split<;>rfl
       refine rn (an @C @D) ?_;refine(dF h4 6 s.line (l.take n) (by rw[eA.1,eA.2];exact hb)).mono λJ L ⟨u,h5⟩=> ?_;repeat' (first | (simp (disch:=first | omega | (decide +kernel)) only[↓RD,RU,ct]) | ((with_reducible first|apply bL|apply bM|apply bN)<;>intro _))
       all_goals exact⟨u,by unfold gJ;rw[iP t,hn,o];exact h5⟩
    | false=>
      repeat' (first | (simp (disch:=first | omega | (decide +kernel)) only[↓RD,RU,↓cg,↓cU,↓dr,di,pop,bg,ρ0,ρ1,↓reduceIte,Nat.reduceEqDiff,reduceCtorEq,ρ5,ρ6,eJ,ρ28,ρ29,E,y,cG,gu,iZ,hl,z,ik,i,c]) | ((with_reducible first|apply bL|apply bM|apply bN)<;>intro _))
      all_goals first
       | (have t:bZ l=true:=by
           unfold bZ;rw[hn,o,i];simp;omega
          refine(kF h3 s.line 20 Om de).mono λS U h4=> ?_;have C:=h4.ob;have V:=h4.pl;have D:(dt (ax s n) s.line 20).line=s.line:=by unfold dt;split<;>rfl
          repeat' (first | (simp (disch:=first | omega | (decide +kernel)) only[↓RD,RU,↓cg,↓cU,di,pop,bg,ρ0,ρ1,↓reduceIte,Nat.reduceEqDiff,reduceCtorEq,ρ5,ρ6,C,D]) | ((with_reducible first|apply bL|apply bM|apply bN)<;>intro _))
          refine(dF h4 6 s.line (l.take n) (by rw[eA.1,eA.2];exact hb)).mono λJ L ⟨u,h5⟩=> ?_;repeat' (first | (simp (disch:=first | omega | (decide +kernel)) only[↓RD,RU,ct]) | ((with_reducible first|apply bL|apply bM|apply bN)<;>intro _))
          all_goals exact⟨u,by unfold gJ;rw[iP t,hn,o];exact h5⟩)
       | (have t:bZ l=false:=by
           unfold bZ;rw[hn,o,i];simp;omega
          refine(dF h3 6 s.line (l.take n) hb).mono λJ L ⟨u,h5⟩=> ?_;refine db ?_;all_goals exact⟨u,by unfold gJ;rw[iN (by simp[t]),hn,o];exact h5⟩)
   have I:eR (l.drop b)=0:=by
    unfold eR;rw[iP G,gA,gA,iN (by rw[Y];simp),iN od]
   by_cases yF:hd (l.drop (b+1))=43\/hd (l.drop (b+1))=45
   ·have W:bA (hd (l.drop (b+2)))=false:=by
     cases q:bA (hd (l.drop (b+2))) with
     | true=>exact absurd ⟨yF,q⟩ od
     | false=>rfl
    rcases yF with iA | iA
    ·skip
     have x:a8 l=b:=by unfold a8;rw[M,I];rfl
     have h3:bH A K2 p src (ax s (a8 l)) vo vt m:=by rw[x];exact h2
     have o:dw l=6:=by unfold dw;rw[iN];rintro⟨g,_⟩;exact hF g
     have N:a8 l<=l.length:=by rw[x];exact j8
     have hn:=x;rw[hn] at h3 N;have E:=h3.ob;have Z:=h3.pl;have y:(ax s b).pos=s.pos+b:=rfl;have z:= @lK _ _ _ _ _ _ _ _ h3;simp only[y,R] at z;have c:(l.take b).length=b:=by simp;omega
     have O:0<b:=by omega
     have Q:(l.take b)[0]? = some l[0]:=by rw[mQ,iP O];exact dA _
     have nV:hd l=l[0].toNat:=by have:=mz (l:=l) (j:=0) Om;simpa using this
     have i:fJ (hd (l.drop b))=true:=by rw[G];rfl
     have t:bZ l=true:=by unfold bZ;rw[hn,i];rfl
     repeat' (first | (simp (disch:=first | omega | (decide +kernel)) only[↓RD,RU,↓cg,↓cU,↓dr,di,pop,bg,ρ0,ρ1,↓reduceIte,Nat.reduceEqDiff,reduceCtorEq,ρ5,ρ6,eJ,ρ28,ρ29,q0,q1,q2,G,jL,iA,(by simpa[iA] using Y:bA 43=false),W,El,E,y,cG,gu,iZ,hl,ik]) | ((with_reducible first|apply bL|apply bM|apply bN)<;>intro _))
     all_goals
      refine(kF h3 s.line 20 Om de).mono λS U h4=> ?_;have C:=h4.ob;have V:=h4.pl;have D:(dt (ax s b) s.line 20).line=s.line:=by unfold dt;split<;>rfl
      refine rn (an @C @D) ?_;refine(dF h4 6 s.line (l.take b) (by rw[eA.1,eA.2];exact hb)).mono λJ L ⟨u,h5⟩=> ?_;refine db ?_;all_goals exact⟨u,by unfold gJ;rw[iP t,hn,o];exact h5⟩
    skip
    have x:a8 l=b:=by unfold a8;rw[M,I];rfl
    have h3:bH A K2 p src (ax s (a8 l)) vo vt m:=by rw[x];exact h2
    have o:dw l=6:=by unfold dw;rw[iN];rintro⟨g,_⟩;exact hF g
    have N:a8 l<=l.length:=by rw[x];exact j8
    have hn:=x;rw[hn] at h3 N;have E:=h3.ob;have Z:=h3.pl;have y:(ax s b).pos=s.pos+b:=rfl;have z:= @lK _ _ _ _ _ _ _ _ h3;simp only[y,R] at z;have c:(l.take b).length=b:=by simp;omega
    have O:0<b:=by omega
    have Q:(l.take b)[0]? = some l[0]:=by rw[mQ,iP O];exact dA _
    have nV:hd l=l[0].toNat:=by have:=mz (l:=l) (j:=0) Om;simpa using this
    have i:fJ (hd (l.drop b))=true:=by rw[G];rfl
    have t:bZ l=true:=by unfold bZ;rw[hn,i];rfl
    repeat' (first | (simp (disch:=first | omega | (decide +kernel)) only[↓RD,RU,↓cg,↓cU,↓dr,di,pop,bg,ρ0,ρ1,↓reduceIte,Nat.reduceEqDiff,reduceCtorEq,ρ5,ρ6,eJ,ρ28,ρ29,q0,q1,q2,G,jL,iA,(by simpa[iA] using Y:bA 45=false),W,El,E,y,cG,gu,iZ,hl,ik]) | ((with_reducible first|apply bL|apply bM|apply bN)<;>intro _))
    all_goals
     refine(kF h3 s.line 20 Om de).mono λS U h4=> ?_;have C:=h4.ob;have V:=h4.pl;have D:(dt (ax s b) s.line 20).line=s.line:=by unfold dt;split<;>rfl
     refine rn (an @C @D) ?_;refine(dF h4 6 s.line (l.take b) (by rw[eA.1,eA.2];exact hb)).mono λJ L ⟨u,h5⟩=> ?_;refine db ?_;all_goals exact⟨u,by unfold gJ;rw[iP t,hn,o];exact h5⟩
   obtain⟨P4,P5⟩:hd (l.drop (b+1))≠43/\hd (l.drop (b+1))≠45:=⟨λe=>yF (.inl e),λe=>yF (.inr e)⟩;have x:a8 l=b:=by unfold a8;rw[M,I];rfl
   have h3:bH A K2 p src (ax s (a8 l)) vo vt m:=by rw[x];exact h2
   have o:dw l=6:=by unfold dw;rw[iN];rintro⟨g,_⟩;exact hF g
   have N:a8 l<=l.length:=by rw[x];exact j8
   have hn:=x;rw[hn] at h3 N;have E:=h3.ob;have Z:=h3.pl;have y:(ax s b).pos=s.pos+b:=rfl;have z:= @lK _ _ _ _ _ _ _ _ h3;simp only[y,R] at z;have c:(l.take b).length=b:=by simp;omega
   have O:0<b:=by omega
   have Q:(l.take b)[0]? = some l[0]:=by rw[mQ,iP O];exact dA _
   have nV:hd l=l[0].toNat:=by have:=mz (l:=l) (j:=0) Om;simpa using this
   have i:fJ (hd (l.drop b))=true:=by rw[G];rfl
   have t:bZ l=true:=by unfold bZ;rw[hn,i];rfl
   refine rn (acJ @q0 @q1 @q2 @G @jL @Y @P4 @P5 @El @E @y @cG @ia @gu @iZ @hl @z @ik @i @c @Q) ?_;all_goals
    refine(kF h3 s.line 20 Om de).mono λS U h4=> ?_;have C:=h4.ob;have V:=h4.pl;have D:(dt (ax s b) s.line 20).line=s.line:=by unfold dt;split<;>rfl
    refine rn (an @C @D) ?_;refine(dF h4 6 s.line (l.take b) (by rw[eA.1,eA.2];exact hb)).mono λJ L ⟨u,h5⟩=> ?_;refine db ?_;all_goals exact⟨u,by unfold gJ;rw[iP t,hn,o];exact h5⟩
  have I:eR (l.drop b)=0:=by
   unfold eR;rw[iN G]
  have x:a8 l=b:=by unfold a8;rw[M,I];rfl
  have h3:bH A K2 p src (ax s (a8 l)) vo vt m:=by rw[x];exact h2
  have o:dw l=6:=by unfold dw;rw[iN];rintro⟨g,_⟩;exact hF g
  have N:a8 l<=l.length:=by rw[x];exact j8
  have hn:=x;rw[hn] at h3 N;have E:=h3.ob;have Z:=h3.pl;have y:(ax s b).pos=s.pos+b:=rfl;have z:= @lK _ _ _ _ _ _ _ _ h3;simp only[y,R] at z;have c:(l.take b).length=b:=by simp;omega
  have O:0<b:=by omega
  have Q:(l.take b)[0]? = some l[0]:=by rw[mQ,iP O];exact dA _
  have nV:hd l=l[0].toNat:=by have:=mz (l:=l) (j:=0) Om;simpa using this
  cases i:fJ (hd (l.drop b)) with
  | true=>
    have t:bZ l=true:=by unfold bZ;rw[hn,i];rfl
    refine rn (acH @q0 @q1 @q2 @G @jL @E @y @cG @ia @gu @iZ @hl @z @ik @i @c @Q) ?_;all_goals
     refine(kF h3 s.line 20 Om de).mono λS U h4=> ?_;have C:=h4.ob;have V:=h4.pl;have D:(dt (ax s b) s.line 20).line=s.line:=by unfold dt;split<;>rfl
     refine rn (an @C @D) ?_;refine(dF h4 6 s.line (l.take b) (by rw[eA.1,eA.2];exact hb)).mono λJ L ⟨u,h5⟩=> ?_;repeat' (first | (simp (disch:=first | omega | (decide +kernel)) only[↓RD,RU,ct]) | ((with_reducible first|apply bL|apply bM|apply bN)<;>intro _))
     all_goals exact⟨u,by unfold gJ;rw[iP t,hn,o];exact h5⟩
  | false=>
    repeat' (first | (simp (disch:=first | omega | (decide +kernel)) only[↓RD,RU,↓cg,↓cU,↓dr,di,pop,bg,ρ0,ρ1,↓reduceIte,Nat.reduceEqDiff,reduceCtorEq,ρ5,ρ6,eJ,ρ28,ρ29,q0,E,y,cG,gu,iZ,hl,ik,i,c]) | ((with_reducible first|apply bL|apply bM|apply bN)<;>intro _))
    all_goals first
     | (have t:bZ l=true:=by
         unfold bZ;rw[hn,o,i];simp;omega
        refine(kF h3 s.line 20 Om de).mono λS U h4=> ?_;have C:=h4.ob;have V:=h4.pl;have D:(dt (ax s b) s.line 20).line=s.line:=by unfold dt;split<;>rfl
        repeat' (first | (simp (disch:=first | omega | (decide +kernel)) only[↓RD,RU,↓cg,↓cU,di,pop,bg,ρ0,ρ1,↓reduceIte,Nat.reduceEqDiff,reduceCtorEq,ρ5,ρ6,C,D]) | ((with_reducible first|apply bL|apply bM|apply bN)<;>intro _))
        refine(dF h4 6 s.line (l.take b) (by rw[eA.1,eA.2];exact hb)).mono λJ L ⟨u,h5⟩=> ?_;repeat' (first | (simp (disch:=first | omega | (decide +kernel)) only[↓RD,RU,ct]) | ((with_reducible first|apply bL|apply bM|apply bN)<;>intro _))
        all_goals exact⟨u,by unfold gJ;rw[iP t,hn,o];exact h5⟩)
     | (have t:bZ l=false:=by
         unfold bZ;rw[hn,o,i];simp;omega
        refine(dF h3 6 s.line (l.take b) hb).mono λJ L ⟨u,h5⟩=> ?_;refine db ?_;all_goals exact⟨u,by unfold gJ;rw[iN (by simp[t]),hn,o];exact h5⟩)
 have hA:hC l=a:=by
  unfold hC iH;rw[ha,gA,iN hf];rfl
 have hF:iH (l.drop (cq l))=0:=by
  unfold iH;rw[ha,gA,iN hf]
 by_cases nB:hd (l.drop a)=46
 ·have pN:bA (hd (l.drop (a+1)))=false:=by
   cases q:bA (hd (l.drop (a+1))) with
   | true=>exact absurd ⟨nB,q⟩ hf
   | false=>rfl
  have M:=hA;have j8:a<=l.length:=pM;have h2:=h1;have fb:=gq;have zW:=zY;have gI:=Lb;by_cases G:hd (l.drop a)=101
  ·rw[nB] at G;exact absurd G de
  have I:eR (l.drop a)=0:=by
   unfold eR;rw[iN G]
  have x:a8 l=a:=by unfold a8;rw[M,I];rfl
  have h3:bH A K1 p src (ax s (a8 l)) vo vt m:=by rw[x];exact h2
  have o:dw l=5:=by unfold dw;rw[iP ⟨hF,by rw[M,I]⟩]
  have N:a8 l<=l.length:=by rw[x];exact j8
  have hn:=x;rw[hn] at h3 N;have E:=h3.ob;have Z:=h3.pl;have y:(ax s a).pos=s.pos+a:=rfl;have z:= @lK _ _ _ _ _ _ _ _ h3;simp only[y,R] at z;have c:(l.take a).length=a:=by simp;omega
  have O:0<a:=by omega
  have Q:(l.take a)[0]? = some l[0]:=by rw[mQ,iP O];exact dA _
  have nV:hd l=l[0].toNat:=by have:=mz (l:=l) (j:=0) Om;simpa using this
  cases i:fJ (hd (l.drop a)) with
  | true=>
    have t:bZ l=true:=by unfold bZ;rw[hn,i];rfl
    refine rn (TM @nB @pN @p0 @p1 @p2 @G @jL @XI @E @y @cG @ia @gu @iZ @hl @z @ik @i @c @Q) ?_;all_goals
     refine(kF h3 s.line 20 Om de).mono λS U h4=> ?_;have C:=h4.ob;have V:=h4.pl;have D:(dt (ax s a) s.line 20).line=s.line:=by unfold dt;split<;>rfl
     refine rn (an @C @D) ?_;refine(dF h4 5 s.line (l.take a) (by rw[eA.1,eA.2];exact hb)).mono λJ L ⟨u,h5⟩=> ?_;refine db ?_;all_goals exact⟨u,by unfold gJ;rw[iP t,hn,o];exact h5⟩
  | false=>
    refine rn (TM @nB @pN @p0 @p1 @p2 @G @jL @XI @E @y @cG @ia @gu @iZ @hl @z @ik @i @c @Q) ?_;all_goals first
     | (have t:bZ l=true:=by
         unfold bZ;rw[hn,o,i];simp;omega
        refine(kF h3 s.line 20 Om de).mono λS U h4=> ?_;have C:=h4.ob;have V:=h4.pl;have D:(dt (ax s a) s.line 20).line=s.line:=by unfold dt;split<;>rfl
        refine rn (an @C @D) ?_;refine(dF h4 5 s.line (l.take a) (by rw[eA.1,eA.2];exact hb)).mono λJ L ⟨u,h5⟩=> ?_;refine db ?_;all_goals exact⟨u,by unfold gJ;rw[iP t,hn,o];exact h5⟩)
     | (have t:bZ l=false:=by
         unfold bZ;rw[hn,o,i];simp;omega
        refine(dF h3 5 s.line (l.take a) hb).mono λJ L ⟨u,h5⟩=> ?_;exact Ee;all_goals exact⟨u,by unfold gJ;rw[iN (by simp[t]),hn,o];exact h5⟩)
 have M:=hA;have j8:a<=l.length:=pM;have h2:=h1;have fb:=gq;have zW:=zY;have gI:=Lb;by_cases G:hd (l.drop a)=101
 ·by_cases X:bA (hd (l.drop (a+1)))=true
  ·have I:eR (l.drop a)=2+cq (l.drop (a+2)):=by
    have bn:a+1<l.length:=by
     rcases pv (a+1) l.length with g | g
     ·exact g
     rw[AR g] at X;cases X
    unfold eR;rw[iP G,gA,iP X];have:=vX (p:=bA) bn X;unfold cq;rw[this];show 1+(nW bA (l.drop (a+2))+1)=_;omega
   refine rn (xA @nB @p0 @p1 @p2 @G @jL @X @fb @gI @n2) ?_;refine(zV (s:=ax s (a+2)) (h2.set (s':=ax s (a+2)) rfl rfl (sF h.bd Om)) (by show s.pos+(a+2)<=_;omega)).mono λv3 K3 h3=> ?_;have rC:(ax s (a+2)).pos=s.pos+(a+2):=rfl;rw[rC,R] at h3;have x:a8 l=a+(2+cq (l.drop (a+2))):=by unfold a8;rw[M,I]
   have Hv:a8 l<=l.length+2:=by have:=mc (a+2);omega
   have h3:bH A K3 p src (ax s (a8 l)) vo vt m:=by
    have e:ax (ax s (a+2)) (cq (l.drop (a+2)))=ax s (a8 l):=by rw[x];simp only[ax];congr 1;omega
    rw[<-e];exact h3
   have o:dw l=6:=by unfold dw;rw[iN];rintro⟨_,g⟩;rw[M,I] at g;omega
   have N:a8 l<=l.length:=by rw[x];have:=mc (a+2);have:=yE X;omega
   obtain⟨n,hn⟩ : ∃n,a8 l=n:=⟨_,rfl⟩;rw[hn] at h3 N;have E:=h3.ob;have Z:=h3.pl;have y:(ax s n).pos=s.pos+n:=rfl;have z:= @lK _ _ _ _ _ _ _ _ h3;simp only[y,R] at z;have c:(l.take n).length=n:=by simp;omega
   have O:0<n:=by omega
   have Q:(l.take n)[0]? = some l[0]:=by rw[mQ,iP O];exact dA _
   have nV:hd l=l[0].toNat:=by have:=mz (l:=l) (j:=0) Om;simpa using this
   cases i:fJ (hd (l.drop n)) with
   | true=>
     have t:bZ l=true:=by unfold bZ;rw[hn,i];rfl
     refine rn (xB @E @y @cG @ia @gu @iZ @hl @z @ik @i @c @Q) ?_;all_goals
      refine(kF h3 s.line 20 Om de).mono λS U h4=> ?_;have C:=h4.ob;have V:=h4.pl;have D:(dt (ax s n) s.line 20).line=s.line:=by unfold dt;split<;>rfl
      refine rn (an @C @D) ?_;refine(dF h4 6 s.line (l.take n) (by rw[eA.1,eA.2];exact hb)).mono λJ L ⟨u,h5⟩=> ?_;repeat' (first | (simp (disch:=first | omega | (decide +kernel)) only[↓RD,RU,ct]) | ((with_reducible first|apply bL|apply bM|apply bN)<;>intro _))
      all_goals exact⟨u,by unfold gJ;rw[iP t,hn,o];exact h5⟩
   | false=>
     repeat' (first | (simp (disch:=first | omega | (decide +kernel)) only[↓RD,RU,↓cg,↓cU,↓dr,di,pop,bg,ρ0,ρ1,↓reduceIte,Nat.reduceEqDiff,reduceCtorEq,ρ5,ρ6,eJ,ρ28,ρ29,E,y,cG,gu,iZ,hl,z,ik,i,c]) | ((with_reducible first|apply bL|apply bM|apply bN)<;>intro _))
     all_goals first
      | (have t:bZ l=true:=by
          unfold bZ;rw[hn,o,i];simp;omega
         refine(kF h3 s.line 20 Om de).mono λS U h4=> ?_;have C:=h4.ob;have V:=h4.pl;have D:(dt (ax s n) s.line 20).line=s.line:=by unfold dt;split<;>rfl
         repeat' (first | (simp (disch:=first | omega | (decide +kernel)) only[↓RD,RU,↓cg,↓cU,di,pop,bg,ρ0,ρ1,↓reduceIte,Nat.reduceEqDiff,reduceCtorEq,ρ5,ρ6,C,D]) | ((with_reducible first|apply bL|apply bM|apply bN)<;>intro _))
         refine(dF h4 6 s.line (l.take n) (by rw[eA.1,eA.2];exact hb)).mono λJ L ⟨u,h5⟩=> ?_;repeat' (first | (simp (disch:=first | omega | (decide +kernel)) only[↓RD,RU,ct]) | ((with_reducible first|apply bL|apply bM|apply bN)<;>intro _))
         all_goals exact⟨u,by unfold gJ;rw[iP t,hn,o];exact h5⟩)
      | (have t:bZ l=false:=by
          unfold bZ;rw[hn,o,i];simp;omega
         refine(dF h3 6 s.line (l.take n) hb).mono λJ L ⟨u,h5⟩=> ?_;refine db ?_;all_goals exact⟨u,by unfold gJ;rw[iN (by simp[t]),hn,o];exact h5⟩)
  have Y:bA (hd (l.drop (a+1)))=false:=by simpa using X
  by_cases od:(hd (l.drop (a+1))=43\/hd (l.drop (a+1))=45)/\bA (hd (l.drop (a+2)))=true
  ·obtain⟨iA,W⟩:=od;have I:eR (l.drop a)=2+cq (l.drop (a+2)):=by
    unfold eR;rw[iP G,gA,gA,iN (by rw[Y];simp),iP ⟨iA,W⟩]
   rcases iA with iA | iA
   ·repeat' (first | (simp (disch:=first | omega | (decide +kernel)) only[↓RD,RU,↓cg,↓jx,↓cU,↓dr,di,pop,bg,cy,isVal,cj,iG,ρ0,ρ1,↓reduceIte,Nat.reduceEqDiff,Nat.reduceAdd,reduceCtorEq,ρ5,ρ6,ρ7,ρ8,ρ17,ρ18,ρ19,ρ20,ρ22,ρ23,Kd.eM,ρ25,ρ26,Nat.reduceLeDiff,p0,p1,p2,G,jL,iA,(by simpa[iA] using Y:bA 43=false),W,fb,gI,n2]) | ((with_reducible first|apply bL|apply bM|apply bN)<;>intro _))
    refine(zV (s:=ax s (a+2)) (h2.set (s':=ax s (a+2)) rfl rfl (sF h.bd Om)) (by show s.pos+(a+2)<=_;omega)).mono λv3 K3 h3=> ?_;have rC:(ax s (a+2)).pos=s.pos+(a+2):=rfl;rw[rC,R] at h3;have x:a8 l=a+(2+cq (l.drop (a+2))):=by unfold a8;rw[M,I]
    have Hv:a8 l<=l.length+2:=by have:=mc (a+2);omega
    have h3:bH A K3 p src (ax s (a8 l)) vo vt m:=by
     have e:ax (ax s (a+2)) (cq (l.drop (a+2)))=ax s (a8 l):=by rw[x];simp only[ax];congr 1;omega
     rw[<-e];exact h3
    have o:dw l=6:=by unfold dw;rw[iN];rintro⟨_,g⟩;rw[M,I] at g;omega
    have N:a8 l<=l.length:=by rw[x];have:=mc (a+2);have:=yE W;omega
    obtain⟨n,hn⟩ : ∃n,a8 l=n:=⟨_,rfl⟩;rw[hn] at h3 N;have E:=h3.ob;have Z:=h3.pl;have y:(ax s n).pos=s.pos+n:=rfl;have z:= @lK _ _ _ _ _ _ _ _ h3;simp only[y,R] at z;have c:(l.take n).length=n:=by simp;omega
    have O:0<n:=by omega
    have Q:(l.take n)[0]? = some l[0]:=by rw[mQ,iP O];exact dA _
    have nV:hd l=l[0].toNat:=by have:=mz (l:=l) (j:=0) Om;simpa using this
    cases i:fJ (hd (l.drop n)) with
    | true=>
      have t:bZ l=true:=by unfold bZ;rw[hn,i];rfl
      refine rn (xB @E @y @cG @ia @gu @iZ @hl @z @ik @i @c @Q) ?_;all_goals
       refine(kF h3 s.line 20 Om de).mono λS U h4=> ?_;have C:=h4.ob;have V:=h4.pl;have D:(dt (ax s n) s.line 20).line=s.line:=by unfold dt;split<;>rfl
       refine rn (an @C @D) ?_;refine(dF h4 6 s.line (l.take n) (by rw[eA.1,eA.2];exact hb)).mono λJ L ⟨u,h5⟩=> ?_;repeat' (first | (simp (disch:=first | omega | (decide +kernel)) only[↓RD,RU,ct]) | ((with_reducible first|apply bL|apply bM|apply bN)<;>intro _))
       all_goals exact⟨u,by unfold gJ;rw[iP t,hn,o];exact h5⟩
    | false=>
      repeat' (first | (simp (disch:=first | omega | (decide +kernel)) only[↓RD,RU,↓cg,↓cU,↓dr,di,pop,bg,ρ0,ρ1,↓reduceIte,Nat.reduceEqDiff,reduceCtorEq,ρ5,ρ6,eJ,ρ28,ρ29,E,y,cG,gu,iZ,hl,z,ik,i,c]) | ((with_reducible first|apply bL|apply bM|apply bN)<;>intro _))
      all_goals first
       | (have t:bZ l=true:=by
           unfold bZ;rw[hn,o,i];simp;omega
          refine(kF h3 s.line 20 Om de).mono λS U h4=> ?_;have C:=h4.ob;have V:=h4.pl;have D:(dt (ax s n) s.line 20).line=s.line:=by unfold dt;split<;>rfl
          repeat' (first | (simp (disch:=first | omega | (decide +kernel)) only[↓RD,RU,↓cg,↓cU,di,pop,bg,ρ0,ρ1,↓reduceIte,Nat.reduceEqDiff,reduceCtorEq,ρ5,ρ6,C,D]) | ((with_reducible first|apply bL|apply bM|apply bN)<;>intro _))
          refine(dF h4 6 s.line (l.take n) (by rw[eA.1,eA.2];exact hb)).mono λJ L ⟨u,h5⟩=> ?_;repeat' (first | (simp (disch:=first | omega | (decide +kernel)) only[↓RD,RU,ct]) | ((with_reducible first|apply bL|apply bM|apply bN)<;>intro _))
          all_goals exact⟨u,by unfold gJ;rw[iP t,hn,o];exact h5⟩)
       | (have t:bZ l=false:=by
           unfold bZ;rw[hn,o,i];simp;omega
          refine(dF h3 6 s.line (l.take n) hb).mono λJ L ⟨u,h5⟩=> ?_;refine db ?_;all_goals exact⟨u,by unfold gJ;rw[iN (by simp[t]),hn,o];exact h5⟩)
   repeat' (first | (simp (disch:=first | omega | (decide +kernel)) only[↓RD,RU,↓cg,↓jx,↓cU,↓dr,di,pop,bg,cy,isVal,cj,iG,ρ0,ρ1,↓reduceIte,Nat.reduceEqDiff,Nat.reduceAdd,reduceCtorEq,ρ5,ρ6,ρ7,ρ8,ρ17,ρ18,ρ19,ρ20,ρ22,ρ23,Kd.eM,ρ25,ρ26,Nat.reduceLeDiff,p0,p1,p2,G,jL,iA,(by simpa[iA] using Y:bA 45=false),W,fb,gI,n2]) | ((with_reducible first|apply bL|apply bM|apply bN)<;>intro _))
   refine(zV (s:=ax s (a+2)) (h2.set (s':=ax s (a+2)) rfl rfl (sF h.bd Om)) (by show s.pos+(a+2)<=_;omega)).mono λv3 K3 h3=> ?_;have rC:(ax s (a+2)).pos=s.pos+(a+2):=rfl;rw[rC,R] at h3;have x:a8 l=a+(2+cq (l.drop (a+2))):=by unfold a8;rw[M,I]
   have Hv:a8 l<=l.length+2:=by have:=mc (a+2);omega
   have h3:bH A K3 p src (ax s (a8 l)) vo vt m:=by
    have e:ax (ax s (a+2)) (cq (l.drop (a+2)))=ax s (a8 l):=by rw[x];simp only[ax];congr 1;omega
    rw[<-e];exact h3
   have o:dw l=6:=by unfold dw;rw[iN];rintro⟨_,g⟩;rw[M,I] at g;omega
   have N:a8 l<=l.length:=by rw[x];have:=mc (a+2);have:=yE W;omega
   obtain⟨n,hn⟩ : ∃n,a8 l=n:=⟨_,rfl⟩;rw[hn] at h3 N;have E:=h3.ob;have Z:=h3.pl;have y:(ax s n).pos=s.pos+n:=rfl;have z:= @lK _ _ _ _ _ _ _ _ h3;simp only[y,R] at z;have c:(l.take n).length=n:=by simp;omega
   have O:0<n:=by omega
   have Q:(l.take n)[0]? = some l[0]:=by rw[mQ,iP O];exact dA _
   have nV:hd l=l[0].toNat:=by have:=mz (l:=l) (j:=0) Om;simpa using this
   cases i:fJ (hd (l.drop n)) with
   | true=>
     have t:bZ l=true:=by unfold bZ;rw[hn,i];rfl
     refine rn (xB @E @y @cG @ia @gu @iZ @hl @z @ik @i @c @Q) ?_;all_goals
      refine(kF h3 s.line 20 Om de).mono λS U h4=> ?_;have C:=h4.ob;have V:=h4.pl;have D:(dt (ax s n) s.line 20).line=s.line:=by unfold dt;split<;>rfl
      refine rn (an @C @D) ?_;refine(dF h4 6 s.line (l.take n) (by rw[eA.1,eA.2];exact hb)).mono λJ L ⟨u,h5⟩=> ?_;repeat' (first | (simp (disch:=first | omega | (decide +kernel)) only[↓RD,RU,ct]) | ((with_reducible first|apply bL|apply bM|apply bN)<;>intro _))
      all_goals exact⟨u,by unfold gJ;rw[iP t,hn,o];exact h5⟩
   | false=>
     repeat' (first | (simp (disch:=first | omega | (decide +kernel)) only[↓RD,RU,↓cg,↓cU,↓dr,di,pop,bg,ρ0,ρ1,↓reduceIte,Nat.reduceEqDiff,reduceCtorEq,ρ5,ρ6,eJ,ρ28,ρ29,E,y,cG,gu,iZ,hl,z,ik,i,c]) | ((with_reducible first|apply bL|apply bM|apply bN)<;>intro _))
     all_goals first
      | (have t:bZ l=true:=by
          unfold bZ;rw[hn,o,i];simp;omega
         refine(kF h3 s.line 20 Om de).mono λS U h4=> ?_;have C:=h4.ob;have V:=h4.pl;have D:(dt (ax s n) s.line 20).line=s.line:=by unfold dt;split<;>rfl
         repeat' (first | (simp (disch:=first | omega | (decide +kernel)) only[↓RD,RU,↓cg,↓cU,di,pop,bg,ρ0,ρ1,↓reduceIte,Nat.reduceEqDiff,reduceCtorEq,ρ5,ρ6,C,D]) | ((with_reducible first|apply bL|apply bM|apply bN)<;>intro _))
         refine(dF h4 6 s.line (l.take n) (by rw[eA.1,eA.2];exact hb)).mono λJ L ⟨u,h5⟩=> ?_;repeat' (first | (simp (disch:=first | omega | (decide +kernel)) only[↓RD,RU,ct]) | ((with_reducible first|apply bL|apply bM|apply bN)<;>intro _))
         all_goals exact⟨u,by unfold gJ;rw[iP t,hn,o];exact h5⟩)
      | (have t:bZ l=false:=by
          unfold bZ;rw[hn,o,i];simp;omega
         refine(dF h3 6 s.line (l.take n) hb).mono λJ L ⟨u,h5⟩=> ?_;refine db ?_;all_goals exact⟨u,by unfold gJ;rw[iN (by simp[t]),hn,o];exact h5⟩)
  have I:eR (l.drop a)=0:=by
   unfold eR;rw[iP G,gA,gA,iN (by rw[Y];simp),iN od]
  by_cases yF:hd (l.drop (a+1))=43\/hd (l.drop (a+1))=45
  ·have W:bA (hd (l.drop (a+2)))=false:=by
    cases q:bA (hd (l.drop (a+2))) with
    | true=>exact absurd ⟨yF,q⟩ od
    | false=>rfl
   rcases yF with iA | iA
   ·skip
    have x:a8 l=a:=by unfold a8;rw[M,I];rfl
    have h3:bH A K1 p src (ax s (a8 l)) vo vt m:=by rw[x];exact h2
    have o:dw l=5:=by unfold dw;rw[iP ⟨hF,by rw[M,I]⟩]
    have N:a8 l<=l.length:=by rw[x];exact j8
    have hn:=x;rw[hn] at h3 N;have E:=h3.ob;have Z:=h3.pl;have y:(ax s a).pos=s.pos+a:=rfl;have z:= @lK _ _ _ _ _ _ _ _ h3;simp only[y,R] at z;have c:(l.take a).length=a:=by simp;omega
    have O:0<a:=by omega
    have Q:(l.take a)[0]? = some l[0]:=by rw[mQ,iP O];exact dA _
    have nV:hd l=l[0].toNat:=by have:=mz (l:=l) (j:=0) Om;simpa using this
    have i:fJ (hd (l.drop a))=true:=by rw[G];rfl
    have t:bZ l=true:=by unfold bZ;rw[hn,i];rfl
    repeat' (first | (simp (disch:=first | omega | (decide +kernel)) only[↓RD,RU,↓cg,↓cU,↓dr,di,pop,bg,ρ0,ρ1,↓reduceIte,Nat.reduceEqDiff,reduceCtorEq,ρ5,ρ6,eJ,ρ28,ρ29,p0,p1,p2,G,jL,iA,(by simpa[iA] using Y:bA 43=false),W,El,E,y,cG,gu,iZ,hl,ik]) | ((with_reducible first|apply bL|apply bM|apply bN)<;>intro _))
    all_goals
     refine(kF h3 s.line 20 Om de).mono λS U h4=> ?_;have C:=h4.ob;have V:=h4.pl;have D:(dt (ax s a) s.line 20).line=s.line:=by unfold dt;split<;>rfl
     refine rn (an @C @D) ?_;refine(dF h4 5 s.line (l.take a) (by rw[eA.1,eA.2];exact hb)).mono λJ L ⟨u,h5⟩=> ?_;refine db ?_;all_goals exact⟨u,by unfold gJ;rw[iP t,hn,o];exact h5⟩
   skip
   have x:a8 l=a:=by unfold a8;rw[M,I];rfl
   have h3:bH A K1 p src (ax s (a8 l)) vo vt m:=by rw[x];exact h2
   have o:dw l=5:=by unfold dw;rw[iP ⟨hF,by rw[M,I]⟩]
   have N:a8 l<=l.length:=by rw[x];exact j8
   have hn:=x;rw[hn] at h3 N;have E:=h3.ob;have Z:=h3.pl;have y:(ax s a).pos=s.pos+a:=rfl;have z:= @lK _ _ _ _ _ _ _ _ h3;simp only[y,R] at z;have c:(l.take a).length=a:=by simp;omega
   have O:0<a:=by omega
   have Q:(l.take a)[0]? = some l[0]:=by rw[mQ,iP O];exact dA _
   have nV:hd l=l[0].toNat:=by have:=mz (l:=l) (j:=0) Om;simpa using this
   have i:fJ (hd (l.drop a))=true:=by rw[G];rfl
   have t:bZ l=true:=by unfold bZ;rw[hn,i];rfl
   repeat' (first | (simp (disch:=first | omega | (decide +kernel)) only[↓RD,RU,↓cg,↓cU,↓dr,di,pop,bg,ρ0,ρ1,↓reduceIte,Nat.reduceEqDiff,reduceCtorEq,ρ5,ρ6,eJ,ρ28,ρ29,p0,p1,p2,G,jL,iA,(by simpa[iA] using Y:bA 45=false),W,El,E,y,cG,gu,iZ,hl,ik]) | ((with_reducible first|apply bL|apply bM|apply bN)<;>intro _))
   all_goals
    refine(kF h3 s.line 20 Om de).mono λS U h4=> ?_;have C:=h4.ob;have V:=h4.pl;have D:(dt (ax s a) s.line 20).line=s.line:=by unfold dt;split<;>rfl
    refine rn (an @C @D) ?_;refine(dF h4 5 s.line (l.take a) (by rw[eA.1,eA.2];exact hb)).mono λJ L ⟨u,h5⟩=> ?_;refine db ?_;all_goals exact⟨u,by unfold gJ;rw[iP t,hn,o];exact h5⟩
  obtain⟨P4,P5⟩:hd (l.drop (a+1))≠43/\hd (l.drop (a+1))≠45:=⟨λe=>yF (.inl e),λe=>yF (.inr e)⟩;have x:a8 l=a:=by unfold a8;rw[M,I];rfl
  have h3:bH A K1 p src (ax s (a8 l)) vo vt m:=by rw[x];exact h2
  have o:dw l=5:=by unfold dw;rw[iP ⟨hF,by rw[M,I]⟩]
  have N:a8 l<=l.length:=by rw[x];exact j8
  have hn:=x;rw[hn] at h3 N;have E:=h3.ob;have Z:=h3.pl;have y:(ax s a).pos=s.pos+a:=rfl;have z:= @lK _ _ _ _ _ _ _ _ h3;simp only[y,R] at z;have c:(l.take a).length=a:=by simp;omega
  have O:0<a:=by omega
  have Q:(l.take a)[0]? = some l[0]:=by rw[mQ,iP O];exact dA _
  have nV:hd l=l[0].toNat:=by have:=mz (l:=l) (j:=0) Om;simpa using this
  have i:fJ (hd (l.drop a))=true:=by rw[G];rfl
  have t:bZ l=true:=by unfold bZ;rw[hn,i];rfl
  refine rn (acK @nB @p0 @p1 @p2 @G @jL @Y @P4 @P5 @El @E @y @cG @ia @gu @iZ @hl @z @ik @i @c @Q) ?_;all_goals
   refine(kF h3 s.line 20 Om de).mono λS U h4=> ?_;have C:=h4.ob;have V:=h4.pl;have D:(dt (ax s a) s.line 20).line=s.line:=by unfold dt;split<;>rfl
   refine rn (an @C @D) ?_;refine(dF h4 5 s.line (l.take a) (by rw[eA.1,eA.2];exact hb)).mono λJ L ⟨u,h5⟩=> ?_;refine db ?_;all_goals exact⟨u,by unfold gJ;rw[iP t,hn,o];exact h5⟩
 have I:eR (l.drop a)=0:=by
  unfold eR;rw[iN G]
 have x:a8 l=a:=by unfold a8;rw[M,I];rfl
 have h3:bH A K1 p src (ax s (a8 l)) vo vt m:=by rw[x];exact h2
 have o:dw l=5:=by unfold dw;rw[iP ⟨hF,by rw[M,I]⟩]
 have N:a8 l<=l.length:=by rw[x];exact j8
 have hn:=x;rw[hn] at h3 N;have E:=h3.ob;have Z:=h3.pl;have y:(ax s a).pos=s.pos+a:=rfl;have z:= @lK _ _ _ _ _ _ _ _ h3;simp only[y,R] at z;have c:(l.take a).length=a:=by simp;omega
 have O:0<a:=by omega
 have Q:(l.take a)[0]? = some l[0]:=by rw[mQ,iP O];exact dA _
 have nV:hd l=l[0].toNat:=by have:=mz (l:=l) (j:=0) Om;simpa using this
 cases i:fJ (hd (l.drop a)) with
 | true=>
   have t:bZ l=true:=by unfold bZ;rw[hn,i];rfl
   refine rn (acI @nB @p0 @p1 @p2 @G @jL @E @y @cG @ia @gu @iZ @hl @z @ik @i @c @Q) ?_;all_goals
    refine(kF h3 s.line 20 Om de).mono λS U h4=> ?_;have C:=h4.ob;have V:=h4.pl;have D:(dt (ax s a) s.line 20).line=s.line:=by unfold dt;split<;>rfl
    refine rn (an @C @D) ?_;refine(dF h4 5 s.line (l.take a) (by rw[eA.1,eA.2];exact hb)).mono λJ L ⟨u,h5⟩=> ?_;repeat' (first | (simp (disch:=first | omega | (decide +kernel)) only[↓RD,RU,ct]) | ((with_reducible first|apply bL|apply bM|apply bN)<;>intro _))
    all_goals exact⟨u,by unfold gJ;rw[iP t,hn,o];exact h5⟩
 | false=>
   repeat' (first | (simp (disch:=first | omega | (decide +kernel)) only[↓RD,RU,↓cg,↓cU,↓dr,di,pop,bg,ρ0,ρ1,ρ4,↓reduceIte,Nat.reduceEqDiff,reduceCtorEq,ρ5,ρ6,eJ,Int.reduceToNat,ρ28,ρ29,p0,E,y,cG,ia,gu,iZ,hl,ik,i,c,Q]) | ((with_reducible first|apply bL|apply bM|apply bN)<;>intro _))
   all_goals first
    | (have t:bZ l=true:=by
        unfold bZ;rw[hn,o,i];simp;omega
       refine(kF h3 s.line 20 Om de).mono λS U h4=> ?_;have C:=h4.ob;have V:=h4.pl;have D:(dt (ax s a) s.line 20).line=s.line:=by unfold dt;split<;>rfl
       repeat' (first | (simp (disch:=first | omega | (decide +kernel)) only[↓RD,RU,↓cg,↓cU,di,pop,bg,ρ0,ρ1,↓reduceIte,Nat.reduceEqDiff,reduceCtorEq,ρ5,ρ6,C,D]) | ((with_reducible first|apply bL|apply bM|apply bN)<;>intro _))
       refine(dF h4 5 s.line (l.take a) (by rw[eA.1,eA.2];exact hb)).mono λJ L ⟨u,h5⟩=> ?_;repeat' (first | (simp (disch:=first | omega | (decide +kernel)) only[↓RD,RU,ct]) | ((with_reducible first|apply bL|apply bM|apply bN)<;>intro _))
       all_goals exact⟨u,by unfold gJ;rw[iP t,hn,o];exact h5⟩)
    | (have t:bZ l=false:=by
        unfold bZ;rw[hn,o,i];simp;omega
       refine(dF h3 5 s.line (l.take a) hb).mono λJ L ⟨u,h5⟩=> ?_;refine db ?_;all_goals exact⟨u,by unfold gJ;rw[iN (by simp[t]),hn,o];exact h5⟩)
end
end Can
end Go.Proofs.YtdfgkcoenagaaaaGreat
