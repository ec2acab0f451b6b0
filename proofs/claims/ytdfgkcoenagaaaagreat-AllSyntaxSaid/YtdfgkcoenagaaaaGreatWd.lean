/- Canonical runs: where they begin; what a slice reads as. Over any program. Canonical runs: calls that touch no memory of others (by evaluation, or by a run in an empty memory) as rules of a table. Over any program. The table of calls that are answered at once: the library's search for a byte. Lex: the reader in memory; its small steps. Lex: the reader's loops over bytes. Lex: escapes, strings. Lex: symbols. Lex: numbers. -/
import Derived.Test.YtdfgkcoenagaaaaGreatWc
import Derived.OpenShut
import Derived.ChangeArms
import Derived.Laws.BitsAllLaws
import Derived.SizedLaws
import Derived.Deep.CondSized
import Derived.Test.YtdfgkcoenagaaaaGreatRows
import Derived.Test.YtdfgkcoenagaaaaGreatChecked
import Derived.Laws.Externs
import Derived.Lib.Builder
import Derived.Test.YtdfgkcoenagaaaaGreatWa
open And renaming intro → ak
open Bool renaming and_eq_true → eZ
open Go renaming Addr → ej, FuncId → bk, IntKind → oT, MapEntry → pC, Program → aZ, TypeId → aH, Value → ae, World → ar
open Go.IntKind renaming bits → Dj
open Go.MapKept renaming bytes_beq → T3
open Go.Utf8 renaming decode → Db
open Go.Value renaming cells → iI
open Go.World renaming cell? → C0
open Iff renaming rfl → fJ
open Int renaming fdiv_eq_ediv_of_nonneg → NS, toNat_natCast → xq
open List renaming drop_drop → gE, drop_eq_nil_of_le → AX, flatMap_cons → zr, getElem?_drop → sk, getElem?_eq_getElem → dx, getElem?_eq_none → qZ, getElem?_map → kF, getElem?_take → mU, getElem?_take_of_lt → AT, getElem_drop → TX, getElem_map → Jm, getElem_mem → Jw, length_append → bW, length_drop → iH, length_map → kZ, length_singleton → Di, map_cons → dq, mem_append → fp, mem_append_left → vY, mem_cons → jw, mem_cons_of_mem → kD, mem_filterMap → Jx, nil_append → a6, range → my, take_of_length_le → qq
open Nat renaming add_assoc → jW, add_sub_cancel_left → jb, le_refl → ag, le_succ → nz, le_trans → cM, lt_of_lt_of_le → ek, lt_or_ge → pE, lt_succ_self → nX, zero_mul → Jv
open Option renaming map_some → fo
open UInt8 renaming ofNat → al
set_option maxRecDepth 4000
set_option linter.unusedSimpArgs false
set_option linter.unusedVariables false
namespace Go.Proofs.YtdfgkcoenagaaaaGreat
namespace Can
section
open Go Go.RowKit
variable {P:aZ} {B:Nat}
structure aI(H K:CH):Prop where
 nx:H.nx<=K.nx
 ob : ∀l,l<H.nx->K.ob l=H.ob l
theorem aI.refl(H:CH):aI H H:=⟨ag _,λ_ _=>rfl⟩
theorem aI.trans{A H K:CH}(h:aI A H)(k:aI H K):aI A K:=⟨cM h.nx k.nx,λl hl=>(k.ob l (ek hl h.nx)).trans (h.ob l hl)⟩
theorem aI.new{A H:CH}(h:aI A H)(o:dr):aI A (H.new o):=h.trans ⟨nz _,λl hl=>by simp[CH.new];intro e;omega⟩
theorem aI.set{A H:CH}(h:aI A H){l:Nat}(hl:A.nx<=l)(o:dr):aI A (H.set l o):=⟨h.nx,λk hk=>by simp only[CH.set];rw[iN Om];exact h.ob k hk⟩
abbrev sw(α:Type):=CH->List ae->α->Prop
def mM (k:oT):sw Int:=λ_ cs x=>cs= [.int k x]/\(Lit.int k x).wf=true
def fU {α:Type}(sz:Nat)(R:sw α)(H:CH)(a:Option ej)(c:Nat)(xs:List α):Prop:=
 (xs= []/\c=0/\(a=none\/a=some ⟨0,0,some 0⟩\/a=some ⟨0,0,some 1⟩))\/
 ∃l o os e k,a=some ⟨l,o,none⟩/\l<H.nx/\xs.length<=c/\c<=maxLen/\H.ob l= .cells os e k/\o+xs.length*sz<=os.length/\
  ∀i (h:i<xs.length),R H ((os.drop (o+i*sz)).take sz) xs[i]
def WV {α:Type}(sz:Nat)(R:sw α):sw (List α):=λH cs xs=>∃a c,cs= [.slice a xs.length c]/\fU sz R H a c xs
def WW{α:Type}(R:sw α):Prop:=∀(H K:CH) (cs:List ae) (x:α),aI H K->R H cs x->R K cs x
theorem mM.hY(k:oT):WW (mM k):=λ_ _ _ _ _ h=>h
theorem fU.hY{α:Type}{sz:Nat}{R:sw α}(g:WW R){H K:CH}{a:Option ej}{c:Nat}{xs:List α}(hx:aI H K)(h:fU sz R H a c xs):fU sz R K a c xs:=by
 rcases h with h | ⟨l,o,os,e,k,b,h1,h2,h3,h4,h5,f⟩
 ·exact .inl h
 exact .inr ⟨l,o,os,e,k,b,ek h1 hx.nx,h2,h3,(hx.ob l h1).trans h4,h5,λi hi=>g _ _ _ _ hx (f i hi)⟩
def cz:ae->ae
 | .slice (some _) 0 0=> .slice (some ⟨0,0,some 0⟩) 0 0
 | .slice (some _) 0 _=> .slice (some ⟨0,0,some 1⟩) 0 0
 | v=>v
def sv:ae->ae
 | .agg cs=> .agg (cs.toList.map cz).toArray
 | v=>cz v
open Classical in
noncomputable def mask(β:Nat->aC)(v:ae):ae:=if VR β (cz v) v then cz v else undef
theorem afA(β:Nat->aC)(v:ae):VR β (mask β v) v:=by
 unfold mask;split;·assumption
 exact .undef _
theorem WX{β:Nat->aC}{v:ae}(h:VR β (cz v) v):mask β v=cz v:=by unfold mask;rw[iP h]
def lG(w:ar):Nat->aC:=λb=>match w.heap[b]? with
 | some (.cells cs _ _)=> .live (b,0) 0 cs.size .ro
 | some _=> .dead
 | none=> .oV
noncomputable def tw(w:ar):CH:= { nx:=w.heap.size,ob:=λb=>match w.heap[b]? with
 | some (.cells cs _ _)=> .cells (cs.toList.map (mask (lG w))) 0 .ro
 | some _=> .dead
 | none=> .oV }
theorem afB(w:ar):aN P w.heap.size (lG w) (tw w) w:=by
 have c : ∀l b,¬(lG w l).owns b:=λl b ho=>by
  unfold lG at ho;split at ho;·exact ho.1 rfl
  ·exact ho
  exact ho
 refine⟨λl=> ?_,λl hl=> ?_,λl l' b h1 _=>absurd h1 (c l b),ag _⟩
 ·have hb:lG w l=match w.heap[l]? with
   | some (.cells cs _ _)=> .live (l,0) 0 cs.size .ro
   | some _=> .dead
   | none=> .oV:=rfl
  have ho:(tw w).ob l=match w.heap[l]? with
   | some (.cells cs _ _)=> .cells (cs.toList.map (mask (lG w))) 0 .ro
   | some _=> .dead
   | none=> .oV:=rfl
  rw[hb,ho];cases hh:w.heap[l]? with
  | none=>exact trivial
  | some o=>
    cases o with
    | cells cs e fr=>
      refine⟨rfl,cs,e,fr,hh,rfl,s0,λi v hv=> ?_,λh=>absurd rfl h,λh=>absurd rfl h,λ_=>(Array.getElem?_eq_some_iff.1 hh).1,λh=>by cases h⟩;rw[kF] at hv;cases hc:cs.toList[i]? with
      | none=>rw[hc] at hv;cases hv
      | some u=>rw[hc] at hv;cases hv;exact⟨u,by simpa using hc,afA _ _⟩
    | _=>exact trivial
 show(match w.heap[l]? with | some (.cells cs _ _)=>_ | some _=>_ | none=>_)=_;have:w.heap[l]? = none:=Array.getElem?_eq_none hl;rw[this]
theorem afC(w:ar)(b:Nat):Out (lG w) b:=λl ho=>by
 unfold lG at ho;split at ho;·exact ho.1 rfl
 ·exact ho
 exact ho
theorem afD{w w':ar}{β':Nat->aC}(h:bD (lG w) w β' w'):Below w.heap.size w w':=
 ⟨h.os,h.tape,h.output,h.size,λk hk=>(h.cY k hk (afC w k)).1⟩
theorem WY{w:ar}{b o:Nat}{v:ae}(h:w.cell? ⟨b,o,none⟩=some v) : ∃(n:Nat) (os:List ae),lG w b= .live (b,0) 0 n .ro/\(tw w).ob b= .cells (os.map (mask (lG w))) 0 .ro/\∀i,w.cell? ⟨b,i,none⟩=os[i]? :=by
 unfold C0 at h;cases hh:w.heap[b]? with
 | none=>simp[hh] at h
 | some ob=>
   cases ob with
   | cells cs e fr=>
     refine⟨cs.size,cs.toList,?_,?_,λi=> ?_⟩;·unfold lG;rw[hh]
     ·show(match w.heap[b]? with | some (.cells cs _ _)=>_ | some _=>_ | none=>_)=_;rw[hh]
     simp[C0,hh]
   | _=>simp[hh] at h
section
variable {H:Type} {enc:aH×ae->H} {w:ar} {base:Nat} {spare:Nat->Bool} {held:Bool}
def WZ{α:Type}(enc:aH×ae->H)(P:aZ)(w:ar)(base:Nat)(spare:Nat->Bool)(held:Bool)(t:aH)(sz:Nat)(R:sw α):Prop:=
 ∀fuel cs x,DataW.trod enc P w base spare held fuel t cs=some x->cs.length=sz/\(∀v∈cs,VR (lG w) (cz v) v)/\∃y,R (tw w) (cs.map cz) y
theorem apo{α:Type}{R:sw α}{t e:aH}{sz:Nat}(ht:P.underlying t=some (.slice e))(hc:P.cellsOf e=sz)(hp:0<sz)(he:WZ enc P w base spare held e sz R) :
 WZ enc P w base spare held t 1 (WV sz R):=by
 intro fuel cs x h;rcases Deep.open_slice ht h with ⟨rfl,_⟩ | ⟨a,len,cap,m,n,D,Q,rfl,hb,hl,q,C,_,hx⟩
 ·exact⟨rfl,λv hv=>by simp at hv;subst hv;exact .zw,[],none,0,rfl, .inl ⟨rfl,rfl, .inl rfl⟩⟩
 refine⟨rfl,?_⟩;cases len with
 | zero=>
   cases cap with
   | zero=>exact⟨λv hv=>by simp at hv;subst hv;exact .v9 a,[],some ⟨0,0,some 0⟩,0,rfl, .inl ⟨rfl,rfl, .inr (.inl rfl)⟩⟩
   | succ c=>exact⟨λv hv=>by simp at hv;subst hv;exact .xH a (c+1),[],some ⟨0,0,some 1⟩,0,rfl, .inl ⟨rfl,rfl, .inr (.inr rfl)⟩⟩
 | succ len=>
   have S:len+1<=m:=by rw[C];split<;>omega
   have each : ∀i,i<len+1->∃y:α,∃es:List ae,es.length=sz/\(∀v∈es,VR (lG w) (cz v) v)/\R (tw w) (es.map cz) y/\∀j (g:j<es.length),w.cell? ((a.add (i*sz)).add j)=some es[j]:=by
    intro i hi;obtain⟨cs',h1,h2⟩:=hx i Om;obtain⟨E,hv,y,F⟩:=he _ _ _ h2;rw[hc] at h1;obtain⟨_,_,G⟩:=World.cells?_some h1;exact⟨y,cs',E,hv,F,λj g=>by rw[G j Om,dx g]⟩
   have s:a.spot=none:=by
    obtain⟨_,es,h1,_,_,h3⟩:=each 0 Om;have:=h3 0 Om;simp only[Jv,Addr.add,iT] at this;unfold C0 at this;cases hs:a.spot with
    | none=>rfl
    | some k=>
      split at this;·simp[hs] at this
      cases this
   obtain⟨f,b,I⟩:=a;simp only at s;subst s;have o : ∀k j,(((⟨f,b,none⟩:ej).add k).add j)=⟨f,b+k+j,none⟩:=by
    intro k j;unfold Addr.add
    (repeat' split)<;>simp_all
   obtain⟨ys,u,J⟩:=WU each;have L : ∃v,w.cell? ⟨f,b,none⟩=some v:=by
    obtain⟨_,es,h1,_,_,h3⟩:=each 0 Om;have:=h3 0 Om;rw[o] at this;simp only[Jv,Nat.add_zero] at this;exact⟨_,this⟩
   obtain⟨U,z⟩:=L;obtain⟨V,os,M,N,A⟩:=WY z;have l : ∀i,i<len+1->b+(i+1)*sz<=os.length:=by
    intro i hi;obtain⟨_,es,h1,_,_,h3⟩:=each i hi;have:=h3 (sz-1) Om;rw[o,A] at this;have:=(List.getElem?_eq_some_iff.1 this).1;rw[Nat.add_mul,Nat.one_mul];omega
   have O : ∀i,i<len+1->∀es:List ae,es.length=sz->(∀v∈es,VR (lG w) (cz v) v)->(∀j (g:j<es.length),w.cell? (((⟨f,b,none⟩:ej).add (i*sz)).add j)=some es[j])->
    ((os.map (mask (lG w))).drop (b+i*sz)).take sz=es.map cz:=by
    intro i hi es h1 hv h3;apply List.ext_getElem?;intro j;by_cases g:j<sz
    ·rw[AT g,sk,kF,kF,<-A];have:=h3 j Om;rw[o] at this;rw[this,dx Om];simp only[fo];rw[WX (hv _ (Jw _))]
    rw[qZ Sq,qZ Sq]
   refine⟨λv hv=> ?_,ys,some ⟨f,b,none⟩,cap,?_,(.inr ⟨f,b,_,0, .ro,rfl,World.block_lt_of_cell? _ _ z,Om,q,N,?_,λi hi=> ?_⟩)⟩;·simp at hv;subst hv;exact .sl M hl (ag _) q (λh=>absurd rfl h) (λ_=>rfl)
   ·rw[u];rfl
   ·rw[u];simpa using l len Om
   obtain⟨es,h1,h2,h3,h4⟩:=J i hi;rw[O i Om es h1 h2 h4];exact h3
theorem T9(v:ae):(sv v).cells.toList=v.cells.toList.map cz:=by
 cases v<;>try rfl
 rename_i a n c;cases a with
 | none=>rfl
 | some a=>cases n with
   | zero=>cases c<;>rfl
   | succ n=>rfl
theorem ac4{v a b:ae}{r:List ae}(h:v.cells.toList=a::b::r):v= .agg (a::b::r).toArray:=by
 cases v<;>first | (exact congrArg Value.agg (by rw[<-h];simp[iI])) | (simp[iI] at h)
end
theorem ade{T:cF}{w:World}(hT:uD P w.heap.size T){f:FuncId}{args cC:List Value}(hv:aW (lG w) args cC)(h:bw T f args (tw w) λv _=>v= .bool true)(hc:rr P f=true:=by kernel_rfl) :
 Calls P f cC.toArray w λe w'=>e= .returned (.bool true)/\Below w.heap.size w w':=by
 obtain⟨n,v,H',h1,rfl⟩:=h;refine(Vk hT h1 (afB w) hv hc).mono λe w' ⟨v',β',he,Gx,hs,F0⟩=> ?_;cases Gx;exact⟨he,afD F0⟩
end
section
open Go Go.RowKit
variable {P:aZ} {B:Nat}
noncomputable def rF(P:aZ)(f:Nat):wq:=(mJ P (λN ops=>jN P N ops) f).getD ⟨0,[], .skip⟩
theorem uI{T:cF}{f:bk}{args:List ae}{H H':CH}{v:ae}{Q:ae->CH->Prop}(h:bw T f args H λu K=>u=v/\K=H'):bw T f args H Q↔Q v H':=by
 constructor;·rintro⟨m,u,K,c,q⟩;obtain⟨n,_,_,e,rfl,rfl⟩:=h;have h1:=Vt (T:=T) (Nat.le_max_left m n) _ _ _ _ c;have h2:=Vt (T:=T) (Nat.le_max_right m n) _ _ _ _ e;rw[h1] at h2;cases h2;exact q
 exactλk=>h.mono λu K ⟨a,b⟩=>by subst a;subst b;exact k
end
section
open Go Go.RowKit
theorem afE{a b:Int}(h1:0<=a)(h2:a<18446744073709551616)(h3:0<=b)(h4:b<18446744073709551616):cr (binOp .and 0 (.int .u64 a) (.int .u64 b))=some (.int .u64 ((a.toNat &&& b.toNat:Nat):Int)):=by
 rw[afy,<-u64_and a b h1 h2 h3 h4];rfl
theorem afF{a b:Int}(h1:0<=a)(h2:a<18446744073709551616)(h3:0<=b)(h4:b<18446744073709551616):cr (binOp .or 0 (.int .u64 a) (.int .u64 b))=some (.int .u64 ((a.toNat ||| b.toNat:Nat):Int)):=by
 rw[afz,<-u64_or a b h1 h2 h3 h4];rfl
theorem Px(n:Nat){a b:Int}(hb:b=((2 ^ n-1:Nat):Int))(hn:n<=64)(h1:0<=a)(h2:a<18446744073709551616):cr (binOp .and 0 (.int .u64 a) (.int .u64 b))=some (.int .u64 (a % ((2 ^ n:Nat):Int))):=by
 have hp:2 ^ n<=2 ^ 64:=Nat.pow_le_pow_right de hn;have c:1<=2 ^ n:=Nat.one_le_two_pow;rw[afE h1 h2 Om Om];congr 2
 rw[hb,xq,Nat.and_two_pow_sub_one_eq_mod];obtain⟨A,rfl⟩:=Int.eq_ofNat_of_zero_le h1;simp
theorem W3{a:Int}(h1:0<=a)(h2:a<18446744073709551616):cr (binOp .and 0 (.int .u64 a) (.int .u64 3))=some (.int .u64 (a % 4)):=Px 2 de de h1 h2
theorem W4{a:Int}(h1:0<=a)(h2:a<18446744073709551616):cr (binOp .and 0 (.int .u64 a) (.int .u64 255))=some (.int .u64 (a % 256)):=Px 8 de de h1 h2
theorem W5{a:Int}(h1:0<=a)(h2:a<18446744073709551616):cr (binOp .and 0 (.int .u64 a) (.int .u64 16777215))=some (.int .u64 (a % 16777216)):=Px 24 de de h1 h2
section
variable {k k':oT} {a:Int}
theorem W6:cr (binOp .shr 0 (.int .u64 a) (.int k' 2))=some (.int .u64 (a / 4)):=by rw[Hh de];simp[Dj,NS]
theorem W7:cr (binOp .shr 0 (.int .i64 a) (.int k' 2))=some (.int .i64 (a / 4)):=by rw[Hh de];simp[Dj,NS]
theorem W8:cr (binOp .shr 0 (.int .u64 a) (.int k' 8))=some (.int .u64 (a / 256)):=by rw[Hh de];simp[Dj,NS]
theorem W9:cr (binOp .shr 0 (.int .u64 a) (.int k' 32))=some (.int .u64 (a / 4294967296)):=by rw[Hh de];simp[Dj,NS]
theorem Xa:cr (binOp .shr 0 (.int .u64 a) (.int k' 56))=some (.int .u64 (a / 72057594037927936)):=by rw[Hh de];simp[Dj,NS]
theorem Xb:cr (binOp .shl 0 (.int .u64 a) (.int k' 2))=some (.int .u64 (IntKind.u64.wrap (a*4))):=by rw[Pt de];simp[Dj]
theorem Xc:cr (binOp .shl 0 (.int .u64 a) (.int k' 8))=some (.int .u64 (IntKind.u64.wrap (a*256))):=by rw[Pt de];simp[Dj]
theorem Xd:cr (binOp .shl 0 (.int .u64 a) (.int k' 32))=some (.int .u64 (IntKind.u64.wrap (a*4294967296))):=by rw[Pt de];simp[Dj]
end
theorem Xe{k:oT}{a:Int}:cr (Op.unary .neg (.int k a))=some (.int k (k.wrap (-a))):=by simp[Op.unary,Op.intArith,cr,Pure.pure]
theorem Xf{b:Int}(h3:0<=b)(h4:b<18446744073709551616):cr (binOp .or 0 (.int .u64 0) (.int .u64 b))=some (.int .u64 b):=by
 rw[afF Om Om h3 h4];simp;omega
theorem fZ{H:CH}{o:dr}{k:Nat}:(H.new o).ob k=if k=H.nx then o else H.ob k:=rfl
theorem iA{H:CH}{o:dr}{l k:Nat}:(H.set l o).ob k=if k=l then o else H.ob k:=rfl
theorem KJ{H:CH}{l:Nat}{o:dr}:mG true H l o=H.new o:=rfl
theorem KK{H:CH}{l:Nat}{o:dr}:mG false H l o=(H.set l .dead).new o:=rfl
theorem KL{cs us:List ae}:setCells cs 0 us=us++cs.drop us.length:=by simp[setCells]
theorem Py{c:ae}{cs us:List ae}{n:Nat}:setCells (c::cs) (n+1) us=c::setCells cs n us:=by
 simp[setCells,Nat.add_right_comm n 1]
theorem Xg{a:Nat}:((a:Int)+1).toNat=a+1:=by omega
theorem Xh{a:Nat}:((a:Int)+2).toNat=a+2:=by omega
theorem Xi{a b:Nat}:((a:Int)+(b:Int)).toNat=a+b:=by omega
theorem Xj{a b:Nat}:((a:Int)+2+(b:Int)).toNat=a+2+b:=by omega
theorem nM:maxLen=9223372036854775807:=rfl
theorem BG{z:ae}:mF [z] 1= [z]:=rfl
theorem Xk{α β:Type}{f:α->β}{l:List α}:(l.map f).take l.length=l.map f:=by rw[<-kZ f,List.take_length]
theorem PA{p:Prop}[Decidable p](h:p):decide p=true:=decide_eq_true h
theorem PB{p:Prop}[Decidable p](h : ¬p):decide p=false:=decide_eq_false h
theorem bL{T:cF}{p:Prop}[Decidable p]{a b:bU}{fr:Fr}{H:CH}{Q:bP->Fr->CH->Prop}(h1:p->dB T a fr H Q)(h2 : ¬p->dB T b fr H Q):BE T (.bool (decide p)) a b fr H Q:=
 afv (λh=>h1 (of_decide_eq_true h)) (λh=>h2 (of_decide_eq_false h))
theorem bM{T:cF}{p:Prop}[Decidable p]{b:Bool}{d:Option Nat}{op:fG}{r:List Item}{fr:Fr}{H:CH}{K:Fr->CH->Prop}(h1:p->oj T (.bool true) b d op r fr H K)(h2 : ¬p->oj T (.bool false) b d op r fr H K):oj T (.bool (decide p)) b d op r fr H K:=
 afw (λh=>h1 (of_decide_eq_true h)) (λh=>h2 (of_decide_eq_false h))
section
variable {T:cF}
def pc (T:cF)(af:List Item)(fr:Fr)(H:CH)(acc:List CH)(K:Fr->CH->List CH->Prop):Prop:=zL T af fr H λf L l=>K f L (acc++l)
def uJ (b:Bool)(H:CH)(acc:List CH):List CH:=if b then acc++ [H] else acc
theorem uK{H:CH}{acc:List CH}:uJ true H acc=acc++ [H]:=rfl
theorem uM{H:CH}{acc:List CH}:uJ false H acc=acc:=rfl
def BH(T:cF)(r:List Item)(fr:Fr)(d:Option Nat)(w:Bool)(acc:List CH)(K:Fr->CH->List CH->Prop):ae->CH->Prop:=λv H=>pc T r (bE fr d v) H (uJ w H acc) K
theorem PD{r:List Item}{fr:Fr}{d:Option Nat}{w:Bool}{acc:List CH}{K:Fr->CH->List CH->Prop}{v:ae}{H:CH}:BH T r fr d w acc K v H↔pc T r (bE fr d v) H (uJ w H acc) K:=fJ
def qB(T:cF)(v:ae)(b:Bool)(d:Option Nat)(op:fG)(r:List Item)(fr:Fr)(H:CH)(acc:List CH)(K:Fr->CH->List CH->Prop):Prop:=match v with
 | .bool c=>if c=b then lN T fr H op (BH T r fr d (ck op) acc K) else pc T r (bE fr d jK) H (uJ (ck op) H acc) K
 | .chan none=>pc T r (bE fr d jK) H (uJ (ck op) H acc) K
 | _=>False
theorem PE{fr:Fr}{H:CH}{acc:List CH}{K:Fr->CH->List CH->Prop}:pc T [] fr H acc K↔K fr H acc:=by
 unfold pc;rw[VA];simp
theorem Ei{af:List Item}{fr:Fr}{H G:CH}{b:Bool}{acc:List CH}{K:Fr->CH->List CH->Prop}:(zL T af fr H λf L l=>K f L (acc++if b then G::l else l))↔pc T af fr H (uJ b G acc) K:=by
 unfold pc uJ;cases b<;>simp
theorem KM{d:Option Nat}{op:fG}{r:List Item}{fr:Fr}{H:CH}{acc:List CH}{K:Fr->CH->List CH->Prop}:pc T (⟨d,op,none⟩::r) fr H acc K↔lN T fr H op (BH T r fr d (ck op) acc K):=by
 unfold pc;rw[Ke];simp only[ec];unfold BH;constructor<;>rintro⟨n,v,H',h1,h2⟩;·exact⟨n,v,H',h1,Ei.1 h2⟩
 exact⟨n,v,H',h1,Ei.2 h2⟩
theorem Xl{d:Option Nat}{op:fG}{s:Nat}{b:Bool}{r:List Item}{fr:Fr}{H:CH}{acc:List CH}{K:Fr->CH->List CH->Prop}:pc T (⟨d,op,some (s,b)⟩::r) fr H acc K↔qB T (fr s) b d op r fr H acc K:=by
 unfold pc;rw[Ke];simp only[ec];generalize fr s=v;unfold qB;cases v with
 | bool c=>
   simp only;by_cases e:c=b
   ·subst e;simp only[beq_self_eq_true,iT];unfold BH;constructor<;>rintro⟨n,v,H',h1,h2⟩;·exact⟨n,v,H',h1,Ei.1 h2⟩
    exact⟨n,v,H',h1,Ei.2 h2⟩
   have:(c==b)=false:=by simpa using e
   simp only[this,iN e];exact Ei
 | chan r=>cases r<;>first | exact Ei | exact fJ
 | _=>exact fJ
variable {d:Option Nat} {op:fG} {r:List Item} {fr:Fr} {H:CH} {acc:List CH} {K:Fr->CH->List CH->Prop}
theorem Xm:qB T (.bool true) true d op r fr H acc K↔lN T fr H op (BH T r fr d (ck op) acc K):=by simp[qB]
theorem Xn:qB T (.bool false) false d op r fr H acc K↔lN T fr H op (BH T r fr d (ck op) acc K):=by simp[qB]
theorem Xo:qB T (.bool true) false d op r fr H acc K↔pc T r (bE fr d jK) H (uJ (ck op) H acc) K:=by simp[qB]
theorem Xp:qB T (.bool false) true d op r fr H acc K↔pc T r (bE fr d jK) H (uJ (ck op) H acc) K:=by simp[qB]
theorem Xq{b:Bool}:qB T jK b d op r fr H acc K↔pc T r (bE fr d jK) H (uJ (ck op) H acc) K:=by simp[qB,jK]
theorem bN{p:Prop}[Decidable p]{b:Bool}(h1:p->qB T (.bool true) b d op r fr H acc K)(h2 : ¬p->qB T (.bool false) b d op r fr H acc K):qB T (.bool (decide p)) b d op r fr H acc K:=by
 by_cases h:p
 ·rw[decide_eq_true h];exact h1 h
 rw[decide_eq_false h];exact h2 h
def sL:List (Item×Nat)->Fr->List CH->Prop->Prop
 | [],_,_,R=>R
 | (it,k)::cs,fr,l,R=>(∃G,l[k]? = some G/\wo fr G it)/\sL cs fr l R
theorem afG{cs:List (Item×Nat)}{fr:Fr}{l:List CH}{R:Prop}:sL cs fr l R↔(∀p∈cs,∃G,l[p.2]? = some G/\wo fr G p.1)/\R:=by
 induction cs with
 | nil=>simp[sL]
 | cons c cs b=>obtain⟨it,k⟩:=c;simp only[sL,b,jw,forall_eq_or_imp,and_assoc]
def PF (nb:List (Item×Nat))(b:CH)(Q:bP->Fr->CH->Prop):Fr->CH->List CH->Prop:=λfr H l=>sL nb fr (b::l) (Q .normal fr H)
theorem PG{nb:List (Item×Nat)}{b:CH}{Q:bP->Fr->CH->Prop}{l:List CH}:PF nb b Q fr H l↔sL nb fr (b::l) (Q .normal fr H):=fJ
theorem PH{af:List Item}{b:Option (List Item)}{c:Item×Nat}{cs:List (Item×Nat)}{Q:bP->Fr->CH->Prop}:dB T (.lL ⟨af,c::cs,b⟩) fr H Q↔pc T af fr H [] (PF (c::cs) H Q):=by
 rw[OX];unfold pc PF;simp only[a6,afG]
def zU (o:Option ae)(v:ae)(R:Prop):Prop:=o=some v/\R
theorem PI{v:ae}{R:Prop}:zU (some v) v R↔R:=by simp[zU]
def tK (v:ae)(b:Bool)(g:Option CH)(x:gU)(d:Nat)(fr:Fr)(R:Prop):Prop:=
 (∃G,g=some G/\((match v with | .bool c=>some (c==b) | .chan none=>some false | _=>none)=some false\/bg G (aO fr) x=some (fr d)))/\R
def KN (g:Option CH)(x:gU)(d:Nat)(fr:Fr)(R:Prop):Prop:=(∃G,g=some G/\bg G (aO fr) x=some (fr d))/\R
theorem PJ{l:List CH}{R:Prop}:sL [] fr l R↔R:=fJ
theorem PK{d:Nat}{x:gU}{k:Nat}{cs:List (Item×Nat)}{l:List CH}{R:Prop}:sL ((⟨some d, .l x,none⟩,k)::cs) fr l R↔KN l[k]? x d fr (sL cs fr l R):=by
 simp[sL,KN,wo,ec]
theorem Xr{d:Nat}{x:gU}{s k:Nat}{b:Bool}{cs:List (Item×Nat)}{l:List CH}{R:Prop}:sL ((⟨some d, .l x,some (s,b)⟩,k)::cs) fr l R↔tK (fr s) b l[k]? x d fr (sL cs fr l R):=by
 simp only[sL,tK,wo];have:ec fr (some (s,b))=(match fr s with | .bool c=>some (c==b) | .chan none=>some false | _=>none):=by
  unfold ec;simp only;cases fr s<;>rfl
 rw[this];simp
theorem PL{G:CH}{x:gU}{d:Nat}{R:Prop}:KN (some G) x d fr R↔zU (bg G (aO fr) x) (fr d) R:=by simp[KN,zU]
theorem Xs{G:CH}{x:gU}{d:Nat}{R:Prop}:tK (.bool true) true (some G) x d fr R↔zU (bg G (aO fr) x) (fr d) R:=by simp[tK,zU]
theorem Xt{G:CH}{x:gU}{d:Nat}{R:Prop}:tK (.bool false) false (some G) x d fr R↔zU (bg G (aO fr) x) (fr d) R:=by simp[tK,zU]
theorem Xu{G:CH}{x:gU}{d:Nat}{R:Prop}:tK (.bool true) false (some G) x d fr R↔R:=by simp[tK]
theorem Xv{G:CH}{x:gU}{d:Nat}{R:Prop}:tK (.bool false) true (some G) x d fr R↔R:=by simp[tK]
theorem Xw{b:Bool}{G:CH}{x:gU}{d:Nat}{R:Prop}:tK jK b (some G) x d fr R↔R:=by simp[tK,jK]
end
end
section
open Go Go.RowKit
variable {T:cF}
def ni (af:List Item):List Nat:=af.filterMap (·.dst)
def pQ:bU->List Nat
 | .gI af=>ni af
 | .lL d=>ni d.af
 | .seq a b=>pQ a++pQ b
 | .cond _ a b=>pQ a++pQ b
 | .block _ c=>pQ c
 | .loop c=>pQ c
 | _=> []
def nw (c:bU)(t:Nat):Bool:= !(pQ c).elem t
theorem Xx{h:Hd}{it:Item}{fr fr':Fr}{H H':CH}(hs:cA h it fr H=some (fr',H')){t:Nat}(ht:it.dst≠some t):fr' t=fr t:=by
 have hp : ∀v,bE fr it.dst v t=fr t:=λv=>by
  cases hd:it.dst with
  | none=>rfl
  | some d=>simp only[bE];rw[iN];rintro rfl;exact ht hd
 simp only[cA] at hs;split at hs
 ·cases b:eb h fr H it.op with
  | none=>rw[b] at hs;cases hs
  | some q=>rw[b] at hs;cases hs;exact hp _
 ·cases hs;exact hp _
 cases hs
theorem Xy{h:Hd}{t:Nat} : ∀ {af:List Item} {fr fr':Fr} {H H':CH},c9 h af fr H=some (fr',H')->t∉ni af->fr' t=fr t
 | [],fr,fr',H,H',b,ht=>by simp only[c9,Option.some.injEq,Prod.mk.injEq] at b;rw[b.1]
 | it::af,fr,fr',H,H',b,ht=>by
   simp only[c9] at b;cases hs:cA h it fr H with
   | none=>rw[hs] at b;cases b
   | some q=>
     rw[hs] at b;have h1:it.dst≠some t:=λe=>ht (by simp[ni,e]);have h2:t∉ni af:=λc=>ht (by
      simp only[ni,Jx] at c⊢;obtain⟨x,hx,hd⟩:=c;exact⟨x,kD _ hx,hd⟩)
     exact(Xy b h2).trans (Xx hs h1)
theorem Xz{t:Nat}{f:Fr->CH->Gz}(e : ∀fr H x fr' H',f fr H=some (x,fr',H')->fr' t=fr t) : ∀ {n:Nat} {fr fr':Fr} {H H':CH} {x:bP},oZ n f fr H=some (x,fr',H')->fr' t=fr t
 | 0,fr,fr',H,H',x,b=>by simp[oZ] at b
 | n+1,fr,fr',H,H',x,b=>by
   simp only[oZ] at b;cases c:f fr H with
   | none=>rw[c] at b;cases b
   | some q=>
     obtain⟨y,aj,H1⟩:=q;rw[c] at b;have h1:=e _ _ _ _ _ c;cases y with
     | normal=>exact(Xz e b).trans h1
     | exit i=>cases b;exact h1
     | ret=>cases b;exact h1
theorem PM{h:Hd}{n t:Nat} : ∀ {c:bU} {fr fr':Fr} {H H':CH} {x:bP},bG h n c fr H=some (x,fr',H')->t∉pQ c->fr' t=fr t:=by
 intro c;induction c with
 | bad=>intro fr fr' H H' x f ht;simp[bG] at f
 | skip=>intro fr fr' H H' x f ht;simp only[bG,Option.some.injEq,Prod.mk.injEq] at f;rw[f.2.1]
 | gI af=>
   intro fr fr' H H' x f ht;simp only[bG] at f;cases hi:c9 h af fr H with
   | none=>rw[hi] at f;cases f
   | some q=>rw[hi] at f;cases f;exact Xy hi ht
 | lL d=>
   intro fr fr' H H' x f ht;simp only[bG,sE] at f;cases hi:cE h d.af fr H with
   | none=>rw[hi] at f;cases f
   | some q=>
     obtain⟨f1,K,l⟩:=q;rw[hi] at f;simp only at f;split at f;·cases f;exact Bw (λy p e=>ht (by simp only[pQ,ni,Jx];exact⟨y,p,e⟩)) hi
     cases f
 | seq a b j m=>
   intro fr fr' H H' x f ht;simp only[pQ,fp,not_or] at ht;simp only[bG] at f;cases ha:bG h n a fr H with
   | none=>rw[ha] at f;cases f
   | some q=>
     obtain⟨y,aj,H1⟩:=q;rw[ha] at f;have h1:=j ha ht.1;cases y with
     | normal=>exact(m f ht.2).trans h1
     | exit i=>cases f;exact h1
     | ret=>cases f;exact h1
 | cond c a b j m=>
   intro fr fr' H H' x f ht;simp only[pQ,fp,not_or] at ht;simp only[bG] at f;split at f;·exact j f ht.1
   ·exact m f ht.2
   cases f
 | block id c o=>
   intro fr fr' H H' x f ht;simp only[bG] at f;cases ha:bG h n c fr H with
   | none=>rw[ha] at f;cases f
   | some q=>
     obtain⟨y,aj,H1⟩:=q;rw[ha] at f;have h1:=o ha ht;cases y with
     | normal=>cases f;exact h1
     | exit i=>simp only at f;split at f<;>(cases f;exact h1)
     | ret=>cases f;exact h1
 | loop c o=>
   intro fr fr' H H' x f ht;simp only[bG] at f;exact Xz (λfr H x fr' H' s=>o s ht) f
 | exit id=>intro fr fr' H H' x f ht;simp only[bG,Option.some.injEq,Prod.mk.injEq] at f;rw[f.2.1]
 | ret=>intro fr fr' H H' x f ht;simp only[bG,Option.some.injEq,Prod.mk.injEq] at f;rw[f.2.1]
 | rv g key=>
   intro fr fr' H H' x f ht;simp only[bG] at f;split at f
   ·split at f
    ·split at f
     ·split at f;·cases f
      cases f;rfl
     cases f
    cases f
   cases f
theorem afH{c:bU}{fr:Fr}{H:CH}{Q:bP->Fr->CH->Prop}(h:dB T c fr H Q):dB T c fr H λx fr' H'=>Q x fr' H'/\∀t,nw c t=true->fr' t=fr t:=by
 obtain⟨n,x,fr',H',h1,h2⟩:=h;exact⟨n,x,fr',H',h1,h2,λt ht=>PM h1 (by simpa[nw] using ht)⟩
theorem sM{c:bU}{Q:bP->Fr->CH->Prop}(I:Nat->Fr->CH->Prop){n:Nat}{fr:Fr}{H:CH}(e:I n fr H)(step : ∀n aj H1,I n aj H1->(∀t,nw c t=true->aj t=fr t)->dB T c aj H1 (Eg I n Q)):dB T (.loop c) fr H Q:=by
 refine afx (λm aj H1=>I m aj H1/\∀t,nw c t=true->aj t=fr t) ?_ ⟨e,λ_ _=>rfl⟩;rintro m aj H1 ⟨hi,hk⟩;refine(afH (step m aj H1 hi hk)).mono λx fr' H' ⟨b,f⟩=> ?_;cases x with
 | normal=>obtain⟨k,g,h⟩:=b;exact⟨k,g,h,λt ht=>(f t ht).trans (hk t ht)⟩
 | exit i=>exact b
 | ret=>exact b
def qC (e sz bytes:Nat)(s:ae)(xs:List ae)(m:Nat)(H:CH):Option (ae×CH):=match s with
 | .slice none 0 0=>if m=0 then some (.slice none 0 0,H) else if xs.all ci=true/\m*bytes<=140737488355328/\m<=maxLen then some (.slice (some ⟨H.nx,0,none⟩) m m,H.new (.cells xs e .gr)) else none
 | .slice (some ⟨a,b,some 0⟩) 0 0=>if m=0 then some (.slice (some ⟨a,b,some 0⟩) 0 0,H) else if xs.all ci=true/\m*bytes<=140737488355328/\m<=maxLen then some (.slice (some ⟨H.nx,0,none⟩) m m,H.new (.cells xs e .gr)) else none
 | .slice (some ⟨l,o,none⟩) n c=>match H.ob l with
   | .cells cs e' k=>
     if m=0 then some (.slice (some ⟨l,o,none⟩) n c,H)
     else if o=0/\e'=e/\k.eM=false/\n*sz<=cs.length/\xs.all ci=true/\(n+m)*bytes<=140737488355328/\n+m<=maxLen then
      some (.slice (some ⟨H.nx,0,none⟩) (n+m) (n+m),mG (k.kI&&decide (c<n+m)) H l (.cells (cs.take (n*sz)++xs) e .gr))
     else if k.kI=true/\c<n+m/\e'=e/\o+n*sz<=cs.length/\xs.all ci=true/\(n+m)*bytes<=140737488355328/\n+m<=maxLen then
      some (.slice (some ⟨H.nx,0,none⟩) (n+m) (n+m),H.new (.cells ((cs.drop o).take (n*sz)++xs) e .gr))
     else if (k.kI&&decide (c<n+m))=false/\e'=e/\k.eM=false/\o+n*sz<=cs.length/\xs.all ci=true/\(n+m+(n+m) / 4+192)*bytes<=281474976710656/\n+m<=maxLen then
      some (.slice (some ⟨H.nx,0,none⟩) (n+m) (n+m),(H.set l .dead).new (.cells ((cs.drop o).take (n*sz)++xs) e .gr))
     else none
   | _=>none
 | _=>none
theorem Ej{e sz bytes m:Nat}{xs:List ae}{H:CH}:qC e sz bytes (.slice none 0 0) xs m H=if m=0 then some (.slice none 0 0,H) else if xs.all ci=true/\m*bytes<=140737488355328/\m<=maxLen then some (.slice (some ⟨H.nx,0,none⟩) m m,H.new (.cells xs e .gr)) else none:=rfl
theorem KO{e sz bytes m a b:Nat}{xs:List ae}{H:CH}:qC e sz bytes (.slice (some ⟨a,b,some 0⟩) 0 0) xs m H=if m=0 then some (.slice (some ⟨a,b,some 0⟩) 0 0,H) else if xs.all ci=true/\m*bytes<=140737488355328/\m<=maxLen then some (.slice (some ⟨H.nx,0,none⟩) m m,H.new (.cells xs e .gr)) else none:=rfl
def PN (q:dr)(e sz bytes l o n c:Nat)(xs:List ae)(m:Nat)(H:CH):Option (ae×CH):=match q with
 | .cells cs e' k=>
   if m=0 then some (.slice (some ⟨l,o,none⟩) n c,H)
   else if o=0/\e'=e/\k.eM=false/\n*sz<=cs.length/\xs.all ci=true/\(n+m)*bytes<=140737488355328/\n+m<=maxLen then
    some (.slice (some ⟨H.nx,0,none⟩) (n+m) (n+m),mG (k.kI&&decide (c<n+m)) H l (.cells (cs.take (n*sz)++xs) e .gr))
   else if k.kI=true/\c<n+m/\e'=e/\o+n*sz<=cs.length/\xs.all ci=true/\(n+m)*bytes<=140737488355328/\n+m<=maxLen then
    some (.slice (some ⟨H.nx,0,none⟩) (n+m) (n+m),H.new (.cells ((cs.drop o).take (n*sz)++xs) e .gr))
   else if (k.kI&&decide (c<n+m))=false/\e'=e/\k.eM=false/\o+n*sz<=cs.length/\xs.all ci=true/\(n+m+(n+m) / 4+192)*bytes<=281474976710656/\n+m<=maxLen then
    some (.slice (some ⟨H.nx,0,none⟩) (n+m) (n+m),(H.set l .dead).new (.cells ((cs.drop o).take (n*sz)++xs) e .gr))
   else none
 | _=>none
theorem Hi{cs:List ae}{e':Nat}{k:Kd}{e sz bytes l o n c m:Nat}{xs:List ae}{H:CH}:PN (.cells cs e' k) e sz bytes l o n c xs m H=if m=0 then some (.slice (some ⟨l,o,none⟩) n c,H)
 else if o=0/\e'=e/\k.eM=false/\n*sz<=cs.length/\xs.all ci=true/\(n+m)*bytes<=140737488355328/\n+m<=maxLen then
  some (.slice (some ⟨H.nx,0,none⟩) (n+m) (n+m),mG (k.kI&&decide (c<n+m)) H l (.cells (cs.take (n*sz)++xs) e .gr))
 else if k.kI=true/\c<n+m/\e'=e/\o+n*sz<=cs.length/\xs.all ci=true/\(n+m)*bytes<=140737488355328/\n+m<=maxLen then
  some (.slice (some ⟨H.nx,0,none⟩) (n+m) (n+m),H.new (.cells ((cs.drop o).take (n*sz)++xs) e .gr))
 else if (k.kI&&decide (c<n+m))=false/\e'=e/\k.eM=false/\o+n*sz<=cs.length/\xs.all ci=true/\(n+m+(n+m) / 4+192)*bytes<=281474976710656/\n+m<=maxLen then
  some (.slice (some ⟨H.nx,0,none⟩) (n+m) (n+m),(H.set l .dead).new (.cells ((cs.drop o).take (n*sz)++xs) e .gr))
 else none:=rfl
theorem Hj{e sz bytes l o n c m:Nat}{xs:List ae}{H:CH}:qC e sz bytes (.slice (some ⟨l,o,none⟩) n c) xs m H=PN (H.ob l) e sz bytes l o n c xs m H:=by
 simp only[qC,PN]
def XB (o:Option (List ae×Nat))(e sz bytes:Nat)(s:ae)(H:CH):Option (ae×CH):=match o with
 | some (xs,m)=>qC e sz bytes s xs m H
 | none=>none
theorem Hk{xs:List ae}{m e sz bytes:Nat}{s:ae}{H:CH}:XB (some (xs,m)) e sz bytes s H=qC e sz bytes s xs m H:=rfl
theorem PO{H:CH}{ev:Operand->ae}{e sz bytes:Nat}{s x:Operand}:cy H ev (.app e sz bytes s x)=XB (pJ H sz (ev x)) e sz bytes (ev s) H:=by
 simp only[cy];cases pJ H sz (ev x) with
 | none=>rfl
 | some q=>rfl
theorem XC{z:ae}:mF [z] 2= [z,z]:=by simp[mF,my,List.range.loop,Nat.mod_one]
theorem XD{z:ae}:mF [z] 3= [z,z,z]:=by simp[mF,my,List.range.loop,Nat.mod_one]
def PP (o:dr)(off m sz:Nat):Option (List ae×Nat):=match o with
 | .cells cs _ _=>if off+m*sz<=cs.length then some ((cs.drop off).take (m*sz),m) else none
 | _=>none
theorem Hl{cs:List ae}{e off m sz:Nat}{k:Kd}:PP (.cells cs e k) off m sz=if off+m*sz<=cs.length then some ((cs.drop off).take (m*sz),m) else none:=rfl
theorem KP{H:CH}{sz:Nat}:pJ H sz (.slice none 0 0)=some ([],0):=rfl
theorem KQ{H:CH}{sz a b k:Nat}:pJ H sz (.slice (some ⟨a,b,some k⟩) 0 0)=some ([],0):=rfl
theorem PQ{H:CH}{sz l o m c:Nat}:pJ H sz (.slice (some ⟨l,o,none⟩) m c)=if m=0 then some ([],0) else PP (H.ob l) o m sz:=by
 simp only[pJ,PP];split;·rfl
 cases H.ob l<;>rfl
theorem KR{H:CH}{sz:Nat}{s:ByteArray}:pJ H sz (.string s)=if sz=1 then some (s.data.toList.map λb=> .int .u8 b.toNat,s.size) else none:=rfl
def nN {α:Type}(A:CH)(e sz:Nat)(f:α->List ae)(K:CH)(v:ae)(xs:List α):Prop:=
 (xs= []/\v= .slice none 0 0)\/∃b kd,v= .slice (some ⟨b,0,none⟩) xs.length xs.length/\A.nx<=b/\b<K.nx/\K.ob b= .cells (xs.flatMap f) e kd/\kd.eM=false
theorem XE{α:Type}{f:α->List ae}{sz:Nat}(b : ∀x,(f x).length=sz) : ∀xs:List α,(xs.flatMap f).length=xs.length*sz
 | []=>by simp
 | x::xs=>by simp only[zr,bW,b,XE b xs,List.length_cons,Nat.succ_mul];omega
theorem afI{α:Type}{A K:CH}{e sz bytes:Nat}{f:α->List ae}(m : ∀x,(f x).length=sz/\(f x).all ci=true){v:ae}{xs ys:List α}(hg:nN A e sz f K v xs)(hA:aI A K)(hb:(xs.length+ys.length)*bytes<=140737488355328)(q:xs.length+ys.length<=9223372036854775807) :
 ∃v' K',qC e sz bytes v (ys.flatMap f) ys.length K=some (v',K')/\nN A e sz f K' v' (xs++ys)/\aI A K'/\K.nx<=K'.nx/\∀l,l<K.nx->(∀o n c,v≠ .slice (some ⟨l,o,none⟩) n c)->K'.ob l=K.ob l:=by
 have s:(ys.flatMap f).all ci=true:=by
  rw[List.all_eq_true];intro x hx;obtain⟨y,_,z⟩:=List.mem_flatMap.1 hx;exact List.all_eq_true.1 (m y).2 x z
 rcases hg with ⟨rfl,rfl⟩ | ⟨b,kd,rfl,h1,h2,h3,t⟩
 ·by_cases i:ys.length=0
  ·have:ys= []:=List.length_eq_zero_iff.1 i;subst this;exact⟨_,K,by simp[qC], .inl ⟨rfl,rfl⟩,hA,ag _,λ_ _ _=>rfl⟩
  refine⟨_,_,by simp only[qC,i,iF];rw[iP ⟨s,by simpa using hb,by rw[nM];simpa using q⟩], .inr ⟨K.nx, .gr,s0,hA.nx,nX _,by simp[fZ],rfl⟩,hA.new _,nz _,λl hl _=>by rw[fZ,iN Om]⟩
 by_cases i:ys.length=0
 ·have:ys= []:=List.length_eq_zero_iff.1 i;subst this;exact⟨.slice (some ⟨b,0,none⟩) xs.length xs.length,K,by simp[qC,h3], .inr ⟨b,kd,s0,h1,h2,by simpa using h3,t⟩,hA,ag _,λ_ _ _=>rfl⟩
 have g:(xs.flatMap f).length=xs.length*sz:=XE (λx=>(m x).1) xs;have j : ∀o,(mG (kd.kI&&decide (xs.length<xs.length+ys.length)) K b o).nx=K.nx+1:=λo=>by unfold mG;split<;>rfl
 have C : ∀o,(mG (kd.kI&&decide (xs.length<xs.length+ys.length)) K b o).ob K.nx=o:=λo=>by
  unfold mG;split<;>(simp only[CH.new,CH.set];simp)
 have u : ∀o l,l<K.nx->l≠b->(mG (kd.kI&&decide (xs.length<xs.length+ys.length)) K b o).ob l=K.ob l:=λo l hl hb=>by
  unfold mG;split;·rw[fZ,iN Om]
  rw[fZ,iN (by show l≠K.nx;omega),iA,iN hb]
 refine⟨_,_,by simp only[qC,h3,i,iF];rw[iP ⟨trivial,trivial,t,by rw[g];exact ag _,s,hb,by rw[nM];exact q⟩], .inr ⟨K.nx, .gr,s0,hA.nx,?_,?_,rfl⟩,?_,?_,λl hl av=> ?_⟩;·rw[j];exact nX _
 ·rw[C,<-g,List.take_length,List.flatMap_append]
 ·refine⟨by rw[j];exact Nat.le_succ_of_le hA.nx,λl hl=> ?_⟩;rw[u _ l (ek hl hA.nx) Om];exact hA.ob l hl
 ·rw[j];exact nz _
 refine u _ l hl ?_;rintro rfl;exact av _ _ _ rfl
theorem nN.ext{α:Type}{A:CH}{e sz:Nat}{f:α->List ae}{K K':CH}{v:ae}{xs:List α}(h:nN A e sz f K v xs)(hx:aI K K'):nN A e sz f K' v xs:=by
 rcases h with h | ⟨b,kd,c,h1,h2,h3,h4⟩
 ·exact .inl h
 exact .inr ⟨b,kd,c,h1,ek h2 hx.nx,(hx.ob b h2).trans h3,h4⟩
theorem KT{α:Type}{A K:CH}{e sz bytes:Nat}{f:α->List ae}(b : ∀x,(f x).length=sz/\(f x).all ci=true){v:ae}{xs ys:List α}(hg:nN A e sz f K v xs)(hA:aI A K)(hb:(xs.length+ys.length)*bytes<=140737488355328)(g:xs.length+ys.length<=9223372036854775807){us:List ae}{m:Nat}(hu:us=ys.flatMap f)(hl:m=ys.length)
 {Q:ae->CH->Prop} (k : ∀v' K',nN A e sz f K' v' (xs++ys)->aI A K'->K.nx<=K'.nx->(∀l,l<K.nx->(∀o n c,v≠ .slice (some ⟨l,o,none⟩) n c)->K'.ob l=K.ob l)->Q v' K'):G' (qC e sz bytes v us m K) Q:=by
 subst hu hl;obtain⟨v',K',h1,h2,h3,h4,h5⟩:=afI b hg hA hb g;rw[h1];exact k v' K' h2 h3 h4 h5
def ints (k:oT):Int->List ae:=λx=> [.int k x]
theorem PS(k:oT) : ∀x,(ints k x).length=1/\(ints k x).all ci=true:=λx=>⟨rfl,rfl⟩
theorem KU(k:oT)(xs:List Int):xs.flatMap (ints k)=xs.map (.int k):=by
 induction xs with
 | nil=>rfl
 | cons x xs b=>simp only[zr,b,ints,dq,List.cons_append,a6]
theorem XH{k:oT}{H:CH}{q:Option ej}{c:Nat}{xs:List Int}(h:fU 1 (mM k) H q c xs):pJ H 1 (.slice q xs.length c)=some (xs.flatMap (ints k),xs.length):=by
 rw[KU];rcases h with ⟨rfl,rfl,rfl | rfl | rfl⟩ | ⟨l,o,os,e,kd,rfl,hl,hc,n,f,g,j⟩
 ·rfl
 ·rfl
 ·rfl
 by_cases b:xs.length=0
 ·have:xs= []:=List.length_eq_zero_iff.1 b;subst this;simp[pJ]
 simp only[pJ,iN b,f];rw[iP g];congr 2
 apply List.ext_getElem;·simp;omega
 intro i h1 h2;have hi:i<xs.length:=by simpa using h2
 have h3:=(j i hi).1;have h4:((os.drop (o+i*1)).take 1)[0]? = some (.int k xs[i]):=by rw[h3];rfl
 rw[AT Om,sk] at h4;have h5:os[o+i]? = some (.int k xs[i]):=by simpa using h4
 rw[List.getElem_take,TX,Jm];rw[List.getElem?_eq_some_iff] at h5;obtain⟨_,m⟩:=h5;exact m
end
section
open Go Go.RowKit
variable {P:aZ} {B:Nat}
section
variable {H:Type} {enc:aH×ae->H} {w:ar} {base:Nat} {spare:Nat->Bool} {held:Bool} {Bk:DataW H->Nat}
structure PU(Bk:DataW H->Nat):Prop where
 one : ∀d,1<=Bk d
 slice : ∀elems spare,(elems.map Bk).sum+1<=Bk (.slice elems spare)
 agg : ∀parts,(parts.map Bk).sum+1<=Bk (.agg parts)
 str : ∀bs,bs.length+1<=Bk (.lit (.string bs))
def CO {α:Type}(Bk:DataW H->Nat)(enc:aH×ae->H)(P:aZ)(w:ar)(base:Nat)(spare:Nat->Bool)(held:Bool)(t:aH)(sz:Nat)(R:sw α)(Z:α->Prop)(μ:α->Nat):Prop:=
 ∀fuel cs x,DataW.trod enc P w base spare held fuel t cs=some x->cs.length=sz/\(∀v∈cs,VR (lG w) (cz v) v)/\∃y,R (tw w) (cs.map cz) y/\((x.1.weights P t).all (· <=reachBytes)=true->Z y)/\μ y<=Bk x.1
theorem adc(b:PU Bk){t:aH}{k:oT}(ht:P.underlying t=some (.int k)):CO Bk enc P w base spare held t 1 (mM k) (λ_=>True) (λ_=>1):=by
 intro fuel cs x h;obtain⟨n,rfl,_,h3⟩:=DataW.trod_int ht h;exact⟨rfl,λv hv=>by simp at hv;subst hv;exact .int _ _,n,⟨rfl,h3⟩,λ_=>trivial,b.one _⟩
theorem afJ{xs ys:List Nat}(hl:xs.length=ys.length)(h : ∀i (h1:i<xs.length) (h2:i<ys.length),xs[i]<=ys[i]):xs.sum<=ys.sum:=by
 induction xs generalizing ys with
 | nil=>simp
 | cons x xs b=>
   cases ys with
   | nil=>simp at hl
   | cons y ys=>
     have c:=h 0 s0 s0;have:=b (ys:=ys) (by simpa using hl) (λi h1 h2=>h (i+1) (by simpa using h1) (by simpa using h2));simp at c⊢;omega
theorem XI{e:aH}{d:DataW H} : ∀ {l:List (DataW H)},(DataW.weightsAll P e l).all (· <=reachBytes)=true->d∈l->(d.weights P e).all (· <=reachBytes)=true
 | [],_,h=>by cases h
 | x::l,h,hd=>by
   simp only[DataW.weightsAll,List.all_append,eZ] at h;rcases List.mem_cons.1 hd with rfl | hd
   ·exact h.1
   exact XI h.2 hd
theorem adb(o:PU Bk){α:Type}{R:sw α}{Z:α->Prop}{μ:α->Nat}{t e:aH}{sz:Nat}(ht:P.underlying t=some (.slice e))(hc:P.cellsOf e=sz)(hp:0<sz)(he:CO Bk enc P w base spare held e sz R Z μ) :
 CO Bk enc P w base spare held t 1 (WV sz R) (λxs=>xs.length*P.bytesOf e<=reachBytes/\∀x∈xs,Z x) (λxs=>(xs.map μ).sum+1):=by
 intro fuel cs x h;rcases Deep.open_slice ht h with ⟨rfl,rfl⟩ | ⟨a,len,cap,m,n,D,W,rfl,hb,hl,q,I,C,hx⟩
 ·exact⟨rfl,λv hv=>by simp at hv;subst hv;exact .zw,[],⟨none,0,rfl, .inl ⟨rfl,rfl, .inl rfl⟩⟩,λ_=>⟨s0,λx hx=>by cases hx⟩,by simpa using o.one _⟩
 refine⟨rfl,?_⟩;cases len with
 | zero=>
   cases cap with
   | zero=>exact⟨λv hv=>by simp at hv;subst hv;exact .v9 a,[],⟨some ⟨0,0,some 0⟩,0,rfl, .inl ⟨rfl,rfl, .inr (.inl rfl)⟩⟩,λ_=>⟨s0,λx hx=>by cases hx⟩,by simpa using o.one _⟩
   | succ c=>exact⟨λv hv=>by simp at hv;subst hv;exact .xH a (c+1),[],⟨some ⟨0,0,some 1⟩,0,rfl, .inl ⟨rfl,rfl, .inr (.inr rfl)⟩⟩,λ_=>⟨s0,λx hx=>by cases hx⟩,by simpa using o.one _⟩
 | succ len=>
   have X:len+1<=m:=by rw[I];split<;>omega
   have each : ∀i,i<len+1->∃y:α,∃es:List ae,es.length=sz/\(∀v∈es,VR (lG w) (cz v) v)/\(R (tw w) (es.map cz) y/\((((D i).weights P e).all (· <=reachBytes)=true->Z y)/\μ y<=Bk (D i)))/\∀j (f:j<es.length),w.cell? ((a.add (i*sz)).add j)=some es[j]:=by
    intro i hi;obtain⟨cs',h1,h2⟩:=hx i Om;obtain⟨J,hv,y,L,hz,q⟩:=he _ _ _ h2;rw[hc] at h1;obtain⟨_,_,M⟩:=World.cells?_some h1;exact⟨y,cs',J,hv,⟨L,hz,q⟩,λj f=>by rw[M j Om,dx f]⟩
   have E:a.spot=none:=by
    obtain⟨_,es,h1,_,_,h3⟩:=each 0 Om;have:=h3 0 Om;simp only[Jv,Addr.add,iT] at this;unfold C0 at this;cases hs:a.spot with
    | none=>rfl
    | some k=>
      split at this;·simp[hs] at this
      cases this
   obtain⟨g,b,N⟩:=a;simp only at E;subst E;have s : ∀k j,(((⟨g,b,none⟩:ej).add k).add j)=⟨g,b+k+j,none⟩:=by
    intro k j;unfold Addr.add
    (repeat' split)<;>simp_all
   obtain⟨ys,u,z⟩:=WU each;have O : ∃v,w.cell? ⟨g,b,none⟩=some v:=by
    obtain⟨_,es,h1,_,_,h3⟩:=each 0 Om;have:=h3 0 Om;rw[s] at this;simp only[Jv,Nat.add_zero] at this;exact⟨_,this⟩
   obtain⟨Y,F⟩:=O;obtain⟨nn,os,Q,S,G⟩:=WY F;have l : ∀i,i<len+1->b+(i+1)*sz<=os.length:=by
    intro i hi;obtain⟨_,es,h1,_,_,h3⟩:=each i hi;have:=h3 (sz-1) Om;rw[s,G] at this;have:=(List.getElem?_eq_some_iff.1 this).1;rw[Nat.add_mul,Nat.one_mul];omega
   have U : ∀i,i<len+1->∀es:List ae,es.length=sz->(∀v∈es,VR (lG w) (cz v) v)->(∀j (f:j<es.length),w.cell? (((⟨g,b,none⟩:ej).add (i*sz)).add j)=some es[j])->
    ((os.map (mask (lG w))).drop (b+i*sz)).take sz=es.map cz:=by
    intro i hi es h1 hv h3;apply List.ext_getElem?;intro j;by_cases f:j<sz
    ·rw[AT f,sk,kF,kF,<-G];have:=h3 j Om;rw[s] at this;rw[this,dx Om];simp only[fo];rw[WX (hv _ (Jw _))]
    rw[qZ Sq,qZ Sq]
   refine⟨λv hv=> ?_,ys,⟨some ⟨g,b,none⟩,cap,?_,(.inr ⟨g,b,_,0, .ro,rfl,World.block_lt_of_cell? _ _ F,Om,q,S,?_,λi hi=> ?_⟩)⟩,λhz=> ?_,?_⟩;·simp at hv;subst hv;exact .sl Q hl (ag _) q (λh=>absurd rfl h) (λ_=>rfl)
   ·rw[u];rfl
   ·rw[u];simpa using l len Om
   ·obtain⟨es,h1,h2,h3,h4⟩:=z i hi;rw[U i Om es h1 h2 h4];exact h3.1
   ·rw[C] at hz;simp only[DataW.weights,ht,List.all_cons,List.all_append,eZ,decide_eq_true_eq,kZ,List.length_range] at hz;refine⟨cM (Nat.mul_le_mul_right _ Om) hz.1,λx V=> ?_⟩;obtain⟨i,hi,rfl⟩:=List.getElem_of_mem V;obtain⟨es,h1,h2,h3,h4⟩:=z i hi;refine h3.2.1 ?_;have A:D i∈(my (len+1)).map D:=List.mem_map.2 ⟨i,List.mem_range.2 Om,rfl⟩;exact XI hz.2.1 A
   rw[C];refine cM ?_ (o.slice _ _);refine Nat.succ_le_succ ?_;refine afJ (by simp[u]) λi hi f=> ?_;simp only[Jm,List.getElem_range];obtain⟨es,h1,h2,h3,h4⟩:=z i (by simpa using hi);exact h3.2.2
theorem ada{α:Type}{t:aH}{sz:Nat}{R:sw α}{Z:α->Prop}{μ:α->Nat}(he:CO Bk enc P w base spare held t sz R Z μ){v:ae}{d:DataW H}{p:List MemPlace}(h:DataW.Trod enc P w base spare held t v d p) :
 VR (lG w) (sv v) v/\(sv v).cells.toList.length=sz/\∃y,R (tw w) (sv v).cells.toList y/\((d.weights P t).all (· <=reachBytes)=true->Z y)/\μ y<=Bk d:=by
 obtain⟨fuel,b⟩:=h;obtain⟨h1,h2,h3⟩:=he fuel _ _ b;rw[T9];refine⟨?_,by simpa using h1,h3⟩;by_cases hv : ∃cs,v= .agg cs
 ·obtain⟨cs,rfl⟩:=hv;refine .agg s0 λi i1 i2=> ?_;simp only[List.getElem_toArray,Jm,Array.getElem_toList];exact h2 _ (by simp[iI])
 have hc:v.cells= #[v]:=by cases v<;>first | rfl | exact absurd ⟨_,rfl⟩ hv
 have hz:sv v=cz v:=by cases v<;>first | rfl | exact absurd ⟨_,rfl⟩ hv
 rw[hz];exact h2 v (by rw[hc];simp)
theorem ac8{ts:List aH}{ds:List (DataW H)}(h:(DataW.weightsEach P ts ds).all (· <=reachBytes)=true){j:Nat}{t:aH}{d:DataW H}(ht:ts[j]? = some t)(hd:ds[j]? = some d):(d.weights P t).all (· <=reachBytes)=true:=
 List.all_eq_true.2 λn hn=>List.all_eq_true.1 h n (DataW.weights_mem_each ht hd n hn)
end
end
section
open Go Go.RowKit
theorem PV{H:Type} : ∀l:List (DataW H),Rows.uptoBulkAll l=(l.map Rows.uptoBulk).sum
 | []=>by simp[Rows.uptoBulkAll]
 | d::r=>by simp[Rows.uptoBulkAll,PV r]
theorem Ue{H:Type}:PU (H:=H) Rows.uptoBulk where
 one d:=by
  cases d with
  | lit l=>cases l<;>simp[Rows.uptoBulk]
  | nil=>simp[Rows.uptoBulk]
  | ptr d=>simp[Rows.uptoBulk]
  | slice elems spare=>simp[Rows.uptoBulk]
  | agg parts=>simp[Rows.uptoBulk]
  | iface t d=>simp[Rows.uptoBulk]
  | map entries=>simp[Rows.uptoBulk]
  | held h=>simp[Rows.uptoBulk]
 slice elems spare:=by simp only[Rows.uptoBulk,PV];omega
 agg parts:=by simp only[Rows.uptoBulk,PV];omega
 str bs:=by simp[Rows.uptoBulk]
end
section
open Go Go.RowKit
end
section
open Go Go.RowKit
theorem RD:type_of% (ak (ak (ak (ak (ak (@Ed) (ak (@Pk) (@Ee))) (ak (@Wk) (ak (@Wl) (@Wm)))) (ak (ak (@Wn) (ak (@Wo) (@WE))) (ak (ak (@WF) (@WG)) (ak (@Wp) (@Pm))))) (ak (ak (ak (@Hb) (ak (@Wq) (@Kz))) (ak (ak (@KA) (@KB)) (ak (@Hc) (@PD)))) (ak (ak (@PE) (ak (@KM) (@Xl))) (ak (ak (@Xm) (@Xn)) (ak (@Xo) (@Xp)))))) (ak (ak (ak (ak (@Xq) (ak (@PG) (@PH))) (ak (ak (@PJ) (@PK)) (ak (@Xr) (@Wr)))) (ak (ak (@Ws) (ak (@Wt) (@Wu))) (ak (ak (@Wv) (@Ww)) (ak (@Hf) (@Ef))))) (ak (ak (ak (@KC) (ak (@KD) (@KE))) (ak (ak (@Po) (@Wx)) (ak (@Wy) (@Wz)))) (ak (ak (@WA) (ak (@WB) (@DY))) (ak (ak (@OV) (@Vy)) (ak (@OW) (@PO))))))):=ak (ak (ak (ak (ak (@Ed) (ak (@Pk) (@Ee))) (ak (@Wk) (ak (@Wl) (@Wm)))) (ak (ak (@Wn) (ak (@Wo) (@WE))) (ak (ak (@WF) (@WG)) (ak (@Wp) (@Pm))))) (ak (ak (ak (@Hb) (ak (@Wq) (@Kz))) (ak (ak (@KA) (@KB)) (ak (@Hc) (@PD)))) (ak (ak (@PE) (ak (@KM) (@Xl))) (ak (ak (@Xm) (@Xn)) (ak (@Xo) (@Xp)))))) (ak (ak (ak (ak (@Xq) (ak (@PG) (@PH))) (ak (ak (@PJ) (@PK)) (ak (@Xr) (@Wr)))) (ak (ak (@Ws) (ak (@Wt) (@Wu))) (ak (ak (@Wv) (@Ww)) (ak (@Hf) (@Ef))))) (ak (ak (ak (@KC) (ak (@KD) (@KE))) (ak (ak (@Po) (@Wx)) (ak (@Wy) (@Wz)))) (ak (ak (@WA) (ak (@WB) (@DY))) (ak (ak (@OV) (@Vy)) (ak (@OW) (@PO))))))
theorem RU:type_of% (ak (ak (ak (ak (ak (ak (@PL) (@Xs)) (ak (@Xt) (ak (@Xu) (@Xv)))) (ak (ak (@Xw) (@PI)) (ak (@Ec) (ak (@Kw) (@Kx))))) (ak (ak (ak (@Ky) (@WH)) (ak (@Ps) (ak (@WI) (@WJ)))) (ak (ak (@WK) (@WL)) (ak (@WM) (ak (@WN) (@WO)))))) (ak (ak (ak (ak (@KH) (@WP)) (ak (@nh) (ak (@WQ) (@WR)))) (ak (ak (@WS) (@WT)) (ak (@decide_true) (ak (@decide_false) (@KL))))) (ak (ak (ak (@Py) (@PQ)) (ak (@Bool.or_false) (ak (@Bool.or_true) (@List.append_nil.{0})))) (ak (ak (@List.take_nil.{0}) (ak (@Bool.and_true) (@List.getElem?_toArray.{0}))) (ak (@ag) (ak (@Xe) (@Xf))))))) (ak (ak (ak (ak (ak (@Int.zero_mul) (@Int.zero_add)) (ak (@Int.add_zero) (ak (@W3) (@W4)))) (ak (ak (@W5) (@W6)) (ak (@W7) (ak (@W8) (@W9))))) (ak (ak (ak (@Xa) (@Xb)) (ak (@Xc) (ak (@Xd) (@Xg)))) (ak (ak (@Xh) (ak (@Xi) (@Xj))) (ak (@XC) (ak (@XD) (@Xk)))))) (ak (ak (ak (ak (@List.length_map.{0,0}) (@List.map_append.{0,0})) (ak (@List.length_append.{0}) (ak (@beq_self_eq_true.{0}) (@beq_true)))) (ak (ak (@beq_false) (@Bool.false_xor)) (ak (@Bool.true_xor) (ak (@Bool.xor_false) (@Bool.xor_true))))) (ak (ak (ak (@PA) (@PB)) (ak (@Hj) (ak (@Hi) (@iP.{1})))) (ak (ak (@iN.{1}) (ak (@Nat.mul_one) (@Nat.one_mul))) (ak (@Nat.zero_add) (ak (@true_and) (@and_true)))))))):=ak (ak (ak (ak (ak (ak (@PL) (@Xs)) (ak (@Xt) (ak (@Xu) (@Xv)))) (ak (ak (@Xw) (@PI)) (ak (@Ec) (ak (@Kw) (@Kx))))) (ak (ak (ak (@Ky) (@WH)) (ak (@Ps) (ak (@WI) (@WJ)))) (ak (ak (@WK) (@WL)) (ak (@WM) (ak (@WN) (@WO)))))) (ak (ak (ak (ak (@KH) (@WP)) (ak (@nh) (ak (@WQ) (@WR)))) (ak (ak (@WS) (@WT)) (ak (@decide_true) (ak (@decide_false) (@KL))))) (ak (ak (ak (@Py) (@PQ)) (ak (@Bool.or_false) (ak (@Bool.or_true) (@List.append_nil.{0})))) (ak (ak (@List.take_nil.{0}) (ak (@Bool.and_true) (@List.getElem?_toArray.{0}))) (ak (@ag) (ak (@Xe) (@Xf))))))) (ak (ak (ak (ak (ak (@Int.zero_mul) (@Int.zero_add)) (ak (@Int.add_zero) (ak (@W3) (@W4)))) (ak (ak (@W5) (@W6)) (ak (@W7) (ak (@W8) (@W9))))) (ak (ak (ak (@Xa) (@Xb)) (ak (@Xc) (ak (@Xd) (@Xg)))) (ak (ak (@Xh) (ak (@Xi) (@Xj))) (ak (@XC) (ak (@XD) (@Xk)))))) (ak (ak (ak (ak (@List.length_map.{0,0}) (@List.map_append.{0,0})) (ak (@List.length_append.{0}) (ak (@beq_self_eq_true.{0}) (@beq_true)))) (ak (ak (@beq_false) (@Bool.false_xor)) (ak (@Bool.true_xor) (ak (@Bool.xor_false) (@Bool.xor_true))))) (ak (ak (ak (@PA) (@PB)) (ak (@Hj) (ak (@Hi) (@iP.{1})))) (ak (ak (@iN.{1}) (ak (@Nat.mul_one) (@Nat.one_mul))) (ak (@Nat.zero_add) (ak (@true_and) (@and_true)))))))
theorem ρ0{α β:Type}{f:α->β}{a:α}{l:List α}:(a::l).map f=f a::l.map f:=rfl
theorem ρ1{α β:Type}{f:α->β}:([]:List α).map f= []:=rfl
theorem ρ2:(!true)=false:=rfl
theorem ρ3:(!false)=true:=rfl
theorem ρ4{α β:Type}{f:α->β}{a:α}:(some a).map f=some (f a):=rfl
theorem ρ5{α:Type}{a:α}{l:List α}:(a::l)[0]? = some a:=rfl
theorem ρ6{α:Type}{a:α}{l:List α}{n:Nat}:(a::l)[n+1]? = l[n]? :=rfl
theorem ρ7{α:Type}{a:α}{l:List α}:(a::l).length=l.length+1:=rfl
theorem ρ8{α:Type}:([]:List α).length=0:=rfl
theorem ρ9{α:Type}:(none:Option α).isSome=false:=rfl
theorem ρ10{α:Type}:(none:Option α).isNone=true:=rfl
theorem ρ11{α:Type}{a:α}:(some a).isSome=true:=rfl
theorem ρ12{α:Type}{a:α}:(some a).isNone=false:=rfl
theorem ρ13{b:Bool}:(true||b)=true:=rfl
theorem ρ14{b:Bool}:(false||b)=b:=rfl
theorem ρ15{α:Type}{a:α}{l:List α}{n:Nat}:(a::l).take (n+1)=a::l.take n:=rfl
theorem ρ16{α:Type}{l:List α}:l.take 0= []:=rfl
theorem ρ17{α:Type}{a:α}{l:List α}{n:Nat}:(a::l).drop (n+1)=l.drop n:=rfl
theorem ρ18{α:Type}{l:List α}:l.drop 0=l:=rfl
theorem ρ19{α:Type}{a:α}{l m:List α}:(a::l)++m=a::(l++m):=rfl
theorem ρ20{α:Type}{l:List α} : []++l=l:=rfl
theorem ρ21{α:Type}{n:Nat}:([]:List α).drop n= []:=List.drop_nil
theorem ρ22{α:Type}{p:α->Bool}{a:α}{l:List α}:(a::l).all p=(p a&&l.all p):=rfl
theorem ρ23{α:Type}{p:α->Bool}:([]:List α).all p=true:=rfl
theorem ρ24{b:Bool}:(true&&b)=b:=rfl
theorem ρ25{α:Type}{l:List α}:l.toArray.size=l.length:=rfl
theorem ρ26{α:Type}{l:List α}:l.toArray.toList=l:=rfl
theorem ρ27{b:Bool}:(false&&b)=false:=rfl
theorem ρ28{n:Nat}:n+0=n:=rfl
theorem ρ29{n:Nat}:(n:Int).toNat=n:=rfl
theorem an{F G:Prop}(f:F)(g:G):F/\G:=⟨f,g⟩
theorem rn{p q F:Prop}(f:F)(k:q)(h:F->q->p:=by
 intro f k;repeat' (first | (simp (disch:=first | omega | (decide +kernel) | (repeat first | assumption | exact aI.refl _ | refine aI.set ?_ Fo _ | refine aI.new ?_ _)) only[↓RD,RU,uK,uM,ck,↓cm,↓kj,↓cV,↓du,↓KG,gN,Dn,fZ,iA,dk,rI,Eh,pop,bg,fV,cy,ct,ji,eV,kH,isVal,ci,Value.cells,ρ0,ρ1,ρ2,ρ3,ρ4,↓reduceIte,Nat.reduceEqDiff,Nat.reduceAdd,Int.reduceOfNat,Int.reduceNegSucc,reduceCtorEq,ρ5,ρ6,ρ7,ρ8,Hl,KP,KQ,KR,eJ,xM,wi,ρ9,ρ10,ρ11,ρ12,ρ13,ρ14,ρ15,ρ16,ρ17,ρ18,ρ19,ρ20,ρ21,ρ22,ρ23,ρ24,Kd.eM,ρ25,ρ26,j8,Nat.reduceLeDiff,Int.reduceMul,Int.reduceAdd,Int.reduceSub,Int.reduceToNat,nM,BG,Hk,Ej,KO,KJ,KK,Kd.kI,ρ27,uq,CH.set_set,DB,xT,isKey,xY,DG,ρ28,ρ29,f]) | ((with_reducible first|apply bL|apply bM|apply bN)<;>intro _))
 exact k):p:=h f k
theorem rz{p F:Prop}(f:F)(h:F->p:=by
 intro f;repeat' (first | (simp (disch:=first | omega | (decide +kernel) | (repeat first | assumption | exact aI.refl _ | refine aI.set ?_ Fo _ | refine aI.new ?_ _)) only[↓RD,RU,uK,uM,ck,↓cm,↓kj,↓cV,↓du,↓KG,gN,Dn,fZ,iA,dk,rI,Eh,pop,bg,fV,cy,ct,ji,eV,kH,isVal,ci,Value.cells,ρ0,ρ1,ρ2,ρ3,ρ4,↓reduceIte,Nat.reduceEqDiff,Nat.reduceAdd,Int.reduceOfNat,Int.reduceNegSucc,reduceCtorEq,ρ5,ρ6,ρ7,ρ8,Hl,KP,KQ,KR,eJ,xM,wi,ρ9,ρ10,ρ11,ρ12,ρ13,ρ14,ρ15,ρ16,ρ17,ρ18,ρ19,ρ20,ρ21,ρ22,ρ23,ρ24,Kd.eM,ρ25,ρ26,j8,Nat.reduceLeDiff,Int.reduceMul,Int.reduceAdd,Int.reduceSub,Int.reduceToNat,nM,BG,Hk,Ej,KO,KJ,KK,Kd.kI,ρ27,uq,CH.set_set,DB,xT,isKey,xY,DG,ρ28,ρ29,f]) | ((with_reducible first|apply bL|apply bM|apply bN)<;>intro _))):p:=h f
theorem dh{p q:Prop}(k:q)(h:q->p:=by
 intro k;repeat' (first | (simp (disch:=first | omega | (decide +kernel) | (repeat first | assumption | exact aI.refl _ | refine aI.set ?_ Fo _ | refine aI.new ?_ _)) only[↓RD,RU,uK,uM,ck,↓cm,↓kj,↓cV,↓du,↓KG,gN,Dn,fZ,iA,dk,rI,Eh,pop,bg,fV,cy,ct,ji,eV,kH,isVal,ci,Value.cells,ρ0,ρ1,ρ2,ρ3,ρ4,↓reduceIte,Nat.reduceEqDiff,Nat.reduceAdd,Int.reduceOfNat,Int.reduceNegSucc,reduceCtorEq,ρ5,ρ6,ρ7,ρ8,Hl,KP,KQ,KR,eJ,xM,wi,ρ9,ρ10,ρ11,ρ12,ρ13,ρ14,ρ15,ρ16,ρ17,ρ18,ρ19,ρ20,ρ21,ρ22,ρ23,ρ24,Kd.eM,ρ25,ρ26,j8,Nat.reduceLeDiff,Int.reduceMul,Int.reduceAdd,Int.reduceSub,Int.reduceToNat,nM,BG,Hk,Ej,KO,KJ,KK,Kd.kI,ρ27,uq,CH.set_set,DB,xT,isKey,xY,DG,ρ28,ρ29]) | ((with_reducible first|apply bL|apply bM|apply bN)<;>intro _))
 exact k):p:=h k
theorem Ek{p:Prop}(h:p:=by
 repeat' (first | (simp (disch:=first | omega | (decide +kernel) | (repeat first | assumption | exact aI.refl _ | refine aI.set ?_ Fo _ | refine aI.new ?_ _)) only[↓RD,RU,uK,uM,ck,↓cm,↓kj,↓cV,↓du,↓KG,gN,Dn,fZ,iA,dk,rI,Eh,pop,bg,fV,cy,ct,ji,eV,kH,isVal,ci,Value.cells,ρ0,ρ1,ρ2,ρ3,ρ4,↓reduceIte,Nat.reduceEqDiff,Nat.reduceAdd,Int.reduceOfNat,Int.reduceNegSucc,reduceCtorEq,ρ5,ρ6,ρ7,ρ8,Hl,KP,KQ,KR,eJ,xM,wi,ρ9,ρ10,ρ11,ρ12,ρ13,ρ14,ρ15,ρ16,ρ17,ρ18,ρ19,ρ20,ρ21,ρ22,ρ23,ρ24,Kd.eM,ρ25,ρ26,j8,Nat.reduceLeDiff,Int.reduceMul,Int.reduceAdd,Int.reduceSub,Int.reduceToNat,nM,BG,Hk,Ej,KO,KJ,KK,Kd.kI,ρ27,uq,CH.set_set,DB,xT,isKey,xY,DG,ρ28,ρ29]) | ((with_reducible first|apply bL|apply bM|apply bN)<;>intro _))):p:=h
end
section
open Go Go.RowKit
variable {P:aZ} {B:Nat}
def KV(P:aZ)(f:bk)(args:List ae)(v:ae):Prop:=
 (rr P f=true/\Ou args=true/\uy v=true/\∀w,CallsIn Fence.wide 0 P f args.toArray w λe w'=>e= .returned v/\w'.os=w.os/\w'.tape=w.tape/\w'.output=w.output/\w.heap.size<=w'.heap.size/\∀b,b<w.heap.size->w'.heap[b]? = w.heap[b]?)\/Gv P f args v
noncomputable def bj(P:aZ)(L:List bk)(G:bk->List ae->Option ae):cF:=
 ⟨mJ P (λN ops=>jN P N ops),Kb P (λN ops=>jN P N ops),λf=>L.elem f,⟨λf args H=>(G f args).map λv=>(v,H),λ_ _ _=>none⟩⟩
theorem KW{L:List bk}{G:bk->List ae->Option ae}(g : ∀f args v,G f args=some v->KV P f args v):uD P B (bj P L G):=by
 refine⟨λf rf h=>Vs (λN ops d h=>Kt h) h,λkey ps bF body h=>ae0 (λN ops d h=>Kt h) h,⟨λf args H v H' h=> ?_,λl args H v H' h=>(by cases h)⟩⟩;have h':(G f args).map (λv=>(v,H))=some (v,H'):=h;rw[Option.map_eq_some_iff] at h';obtain⟨u,hu,he⟩:=h';cases he;rcases g _ _ _ hu with ⟨hc,ha,hv,hw⟩ | hx
 case inr=>exact .inr ⟨hx,rfl⟩
 refine .inl ⟨hc,fun β w j c i=> ?_⟩;rw[U8 ha i];refine(hw w).mono λe w' ⟨he,h1,h2,h3,h4,h5⟩=>⟨v,β,he,Gt hv β,?_,?_⟩;·exact⟨λl=>(c.iK l).mono (eU.refl β) λb hb=>h5 b (Dq c hb),c.nx,c.inj,cM c.base h4⟩
 exact⟨h1,h2,h3,h4,λb hb ho=>⟨h5 b hb,ho⟩,eU.refl β⟩
theorem afL{L:List bk}{G:bk->List ae->Option ae}{f:bk}{args:List ae}{v:ae}(c:L.elem f=true)(hv:G f args=some v){H:CH}{Q:ae->CH->Prop}:bw (bj P L G) f args H Q↔Q v H:=by
 have b : ∀n,pM (bj P L G) (n+1) f args H=some (v,H):=λn=>by
  simp only[pM,dg];have:(bj P L G).ext f=true:=c;rw[iP this];show(G f args).map (λv=>(v,H))=some (v,H);rw[hv];rfl
 constructor
 ·rintro⟨n,u,H',h1,h2⟩;cases n with
  | zero=>simp[pM,dg] at h1
  | succ n=>rw[b n] at h1;cases h1;exact h2
 exactλh=>⟨1,v,H,b 0,h⟩
theorem ij{L:List bk}{G:bk->List ae->Option ae}{f:Nat}(he:L.elem f=false)(h:(mJ P (λN ops=>jN P N ops) f).isSome=true){args:List ae}{H:CH}{Q:ae->CH->Prop}(k:dB (bj P L G) (rF P f).body (λt=>args.getD t undef) H (BD (rF P f).res Q)):bw (bj P L G) f args H Q:=by
 refine Pq he ?_ k;unfold rF;show mJ P (λN ops=>jN P N ops) f=some ((mJ P (λN ops=>jN P N ops) f).getD ⟨0,[], .skip⟩);cases b:mJ P (λN ops=>jN P N ops) f with
 | none=>rw[b] at h;cases h
 | some r=>rfl
end
section
open Go Go.RowKit
noncomputable def GX(f:bk)(args:List ae):Option ae:=match args with
 | [.string s, .int .u8 c]=>if f=104 then some (.int .i64 (firstIdx s c.toNat.toUInt8)) else none
 | [.pointer a]=>if f=91 then some (.pointer a) else none
 | _=>none
theorem afM(a:Option ej):Gv Tryz.prog 91 [.pointer a] (.pointer a):=by
 refine⟨rfl,fun β c b=> ?_⟩;obtain⟨v',f,g⟩:=b.2 0 _ rfl;have hl:=b.1;match c,hl with
 | [u],_=>
   cases f;refine⟨v',g,λw=> ?_⟩;rw[run_callFunc_extern (e:=Extern.AbiNoEscape.same) Tryz.func91 Kr Kr Kr Kr];rw[show([v']:List ae).toArray= #[v'] from rfl,Lib.run_noEscape];rfl
theorem afN(s:ByteArray)(c:Int):Gv Tryz.prog 104 [.string s, .int .u8 c] (.int .i64 (firstIdx s c.toNat.toUInt8)):=by
 refine aeK rfl rfl λw=> ?_;rw[run_callFunc_extern (e:=Extern.BytealgIndexByte.indexByte) Tryz.func104 Kr Kr Kr Kr];have:=run_indexByte_string (P:=Tryz.prog) s c w;rw[show([Value.string s, .int .u8 c]:List ae).toArray= #[.string s, .int .u8 c] from rfl,this];rfl
theorem afO : ∀f args v,GX f args=some v->KV Tryz.prog f args v:=by
 intro f args v h;unfold GX at h;split at h
 ·split at h;·rename_i e;subst e;cases h;exact .inr (afN _ _)
  cases h
 ·split at h;·rename_i e;subst e;cases h;exact .inr (afM _)
  cases h
 cases h
def LG:List bk:= [104,91]
noncomputable def GG(f:bk)(args:List ae):Option ae:=GX f args
theorem XJ : ∀f args v,GG f args=some v->KV Tryz.prog f args v:=afO
theorem Hm{B:Nat}:uD Tryz.prog B (bj Tryz.prog LG GG):=KW XJ
theorem XK{s:ByteArray}{c:Int}{H:CH}{Q:ae->CH->Prop}:bw (bj Tryz.prog LG GG) 104 [.string s, .int .u8 c] H Q↔Q (.int .i64 (firstIdx s c.toNat.toUInt8)) H:=afL Rl Rl
abbrev str(l:List UInt8):ByteArray:=⟨⟨l⟩⟩
def zV (t:da):List ae:= [.int .i64 t.kind, .int .i64 t.line, .string (str t.text)]
theorem afP : ∀t,(zV t).length=3/\(zV t).all ci=true:=λ_=>⟨rfl,rfl⟩
theorem afQ{a b c:ae}:mF [a,b,c] 3= [a,b,c]:=by simp[mF,my,List.range.loop]
theorem n1{a:Nat}:((a:Int)+1)=((a+1:Nat):Int):=rfl
theorem Hn{n:Nat}{h:n<2 ^ 8}:(UInt8.ofBitVec (BitVec.ofFin ⟨n,h⟩))=al n:=by
 apply UInt8.toNat.inj;simp[UInt8.toNat,al];omega
theorem ia{l:List UInt8}{i:Nat}:(str l)[i]? = l[i]? :=by
 show(if h:i<(str l).size then some ((str l)[i]'h) else none)=_;by_cases h:i<l.length
 ·have h':i<(str l).size:=h;rw[dif_pos h',dx h];rfl
 have h' : ¬i<(str l).size:=h;rw[dif_neg h',qZ Om]
theorem cG{l:List UInt8}:(str l).size=l.length:=rfl
theorem gA{l:List UInt8}{a b:Nat}:(str l).extract a b=str ((l.drop a).take (b-a)):=by
 apply ByteArray.ext;apply Array.ext';simp[ByteArray.data_extract,List.extract_eq_take_drop]
theorem XM{a b:List UInt8}:((str a).toList==(str b).toList)=decide (a=b):=by
 have h : ∀l:List UInt8,(str l).toList=l:=λl=>by simp[ByteArray.toList_eq]
 rw[h,h];by_cases e:a=b
 ·simp[e]
 rw[decide_eq_false e];simpa using e
theorem Ho{a b:List UInt8}:cr (binOp .eql 0 (.string (str a)) (.string (str b)))=some (.bool (decide (a=b))):=by
 simp only[binOp,Op.stringOp,cr,Pure.pure,XM]
structure RS where
 pos:Nat
 line:Nat
 dep:Nat
 cP:List Nat
 out:List da
 err:Nat
 wh:Nat
structure RS.Bd(s:RS):Prop where
 pos:s.pos<=100000
 line:s.line<=100000
 dep:s.dep<=100000
 err:s.err<=100
 wh:s.wh<=100000
 out:s.out.length+s.cP.length<=1000000
def El(A K:CH)(v:ae)(ns:List Nat):Prop:=∃b kd c os,v= .slice (some ⟨b,0,none⟩) ns.length c/\A.nx<=b/\b<K.nx/\K.ob b= .cells os 3 kd/\kd.eM=false/\ns.length<=c/\c<=2000000/\ns.length<=os.length/\∀i,i<ns.length->os[i]? = some (.int .i64 (ns.getD i 0:Nat))
def zW:Array pC:=((jY.zipIdx).map λx=>({ key:= .string (str x.1),val:= .int .i64 1,born:=x.2 }:pC)).toArray
structure bH(A K:CH)(p:Nat)(src:List UInt8)(s:RS)(vo vt:ae)(m:Nat):Prop where
 ob:K.ob p= .cells [.string (str src), .int .i64 s.pos, .int .i64 s.line, .int .i64 s.dep,vo,vt, .map (some m), .int .i64 s.err, .int .i64 s.wh] 55 .ex
 pl:p<K.nx
 pa:A.nx<=p
 cP:El A K vo s.cP
 out:nN A 65 3 zV K vt s.out
 mp:K.ob m= .map zW 31
 ml:m<K.nx
 ma:A.nx<=m
 E:aI A K
 bd:s.Bd
 sl:src.length<=20000
theorem bH.mv{A K K':CH}{p:Nat}{src:List UInt8}{s:RS}{vo vt:ae}{m:Nat}(h:bH A K p src s vo vt m)(hx:aI K K'):bH A K' p src s vo vt m:=by
 obtain⟨b,kd,c,os,h1,h2,h3,h4,h5⟩:=h.cP;exact⟨(hx.ob _ h.pl).trans h.ob,ek h.pl hx.nx,h.pa,⟨b,kd,c,os,h1,h2,ek h3 hx.nx,(hx.ob _ h3).trans h4,h5⟩,h.out.ext hx,(hx.ob _ h.ml).trans h.mp,ek h.ml hx.nx,h.ma,h.E.trans hx,h.bd,h.sl⟩
theorem bH.set{A K:CH}{p:Nat}{src:List UInt8}{s s':RS}{vo vt:ae}{m:Nat}(h:bH A K p src s vo vt m)(ho:s'.cP=s.cP)(ht:s'.out=s.out)(hb:s'.Bd) :
 bH A (K.set p (.cells [.string (str src), .int .i64 s'.pos, .int .i64 s'.line, .int .i64 s'.dep,vo,vt, .map (some m), .int .i64 s'.err, .int .i64 s'.wh] 55 .ex)) p src s' vo vt m:=by
 have f:=h.ob;obtain⟨b,kd,c,os,h1,h2,h3,h4,h5⟩:=h.cP;have j:b≠p:=λe=>by
  rw[e,f] at h4;have:=(dr.cells.inj h4).2.1;revert this;decide
 have l:m≠p:=λe=>by have:=h.mp;rw[e,f] at this;cases this
 refine⟨by rw[iA,iP rfl],h.pl,h.pa,?_,?_,by rw[iA,iN l];exact h.mp,h.ml,h.ma,h.E.set h.pa _,hb,h.sl⟩;·rw[ho];exact⟨b,kd,c,os,h1,h2,h3,by rw[iA,iN j];exact h4,h5⟩
 rw[ht];rcases h.out with g | ⟨b,kd,e,n,o,i,q⟩
 ·exact .inl g
 refine .inr ⟨b,kd,e,n,o,?_,q⟩;rw[iA,iN];·exact i
 intro e;rw[e,f] at i;have:=(dr.cells.inj i).2.1;revert this;decide
def dv(s:RS)(line e:Nat):RS:=if s.err=0 then { s with err:=e,wh:=line } else s
theorem kO{A K:CH}{p:Nat}{src:List UInt8}{s:RS}{vo vt:ae}{m:Nat}(h:bH A K p src s vo vt m)(line e:Nat)(h1:line<=100000)(h2:e<=100) :
 bw (bj Tryz.prog LG GG) 54 [.pointer (some ⟨p,0,none⟩), .int .i64 line, .int .i64 e] K λv K'=>bH A K' p src (dv s line e) vo vt m:=by
 have b:=h.ob;have hp:=h.pl;refine ij Rl Kr (bq ?_);by_cases he:s.err=0
 ·refine rn (an @b @he) ?_;all_goals
   unfold dv;rw[iP he];exact h.set (s':= { s with err:=e,wh:=line }) rfl rfl ⟨h.bd.pos,h.bd.line,h.bd.dep,h2,h1,h.bd.out⟩
 refine rn (an @b @he) ?_;all_goals
  unfold dv;rw[iN he];exact h
theorem bH.afR{A K K':CH}{p:Nat}{src:List UInt8}{s:RS}{vo vt i:ae}{m:Nat}{t:da}(h:bH A K p src s vo vt m)(hb:(s.out++ [t]).length+s.cP.length<=1000000)(hx:aI A K')(hn:K.nx<=K'.nx)(hg:nN A 65 3 zV K' i (s.out++ [t]))(hk : ∀l,l<K.nx->(∀o n c,vt≠ .slice (some ⟨l,o,none⟩) n c)->K'.ob l=K.ob l) :
 bH A (K'.set p (.cells [.string (str src), .int .i64 s.pos, .int .i64 s.line, .int .i64 s.dep,vo,i, .map (some m), .int .i64 s.err, .int .i64 s.wh] 55 .ex)) p src { s with out:=s.out++ [t] } vo i m:=by
 have y:=h.ob;obtain⟨b,kd,c,os,h1,h2,h3,h4,h5⟩:=h.cP;have av : ∀l cs e k,K.ob l= .cells cs e k->e≠65->∀o n c,vt≠ .slice (some ⟨l,o,none⟩) n c:=λl cs e k hl av o n c hv=>by
  rcases h.out with ⟨_,g⟩ | ⟨b',z,e',j,q,f,u⟩
  ·rw[g] at hv;cases hv
  rw[e'] at hv;cases hv;rw[hl] at f;exact av (dr.cells.inj f).2.1
 have hp:=(hk p h.pl (av _ _ _ _ y de)).trans y;have v:=(hk b h3 (av _ _ _ _ h4 de)).trans h4;have x:=(hk m h.ml λo n c hv=>by
  rcases h.out with ⟨_,g⟩ | ⟨b',z,e',j,q,f,u⟩
  ·rw[g] at hv;cases hv
  rw[e'] at hv;cases hv;rw[h.mp] at f;cases f).trans h.mp
 have C:b≠p:=λe=>by
  rw[e,hp] at v;have:=(dr.cells.inj v).2.1;revert this;decide
 have D:m≠p:=λe=>by rw[e,hp] at x;cases x
 refine⟨by rw[iA,iP rfl],ek h.pl hn,h.pa,⟨b,kd,c,os,h1,h2,ek h3 hn,by rw[iA,iN C];exact v,h5⟩,?_,by rw[iA,iN D];exact x,ek h.ml hn,h.ma,hx.set h.pa _,⟨h.bd.pos,h.bd.line,h.bd.dep,h.bd.err,h.bd.wh,hb⟩,h.sl⟩;rcases hg with g | ⟨E,F,G,j,q,f,u⟩
 ·exact .inl g
 refine .inr ⟨E,F,G,j,q,?_,u⟩;rw[iA,iN];·exact f
 intro e;rw[e,hp] at f;have:=(dr.cells.inj f).2.1;revert this;decide
def jA (s:RS)(k line:Nat)(x:List UInt8):RS:= { s with out:=s.out++ [⟨k,line,x⟩] }
theorem dG{A K:CH}{p:Nat}{src:List UInt8}{s:RS}{vo vt:ae}{m:Nat}(h:bH A K p src s vo vt m)(k line:Nat)(x:List UInt8)(hb:s.out.length+s.cP.length<1000000) :
 bw (bj Tryz.prog LG GG) 19 [.pointer (some ⟨p,0,none⟩), .int .i64 k, .int .i64 line, .string (str x)] K λv K'=>∃l,bH A K' p src (jA s k line x) vo l m:=by
 have j:=h.ob;have hp:=h.pl;have G:=h.pa;refine ij Rl Kr (bq ?_);refine rn (mY @j @afQ @Jv) ?_;have b:aI K (K.new (.cells [.int .i64 k, .int .i64 line, .string (str x)] 65 .ex)):=by(repeat (first | assumption | exact aI.refl _ | (refine aI.set ?_ Fo _) | (refine aI.new ?_ _)))
 have I:=h.bd.out;refine KT afP (ys:= [⟨k,line,x⟩]) (h.out.ext b) (h.E.trans b) (by simp only[Di];omega) (by simp only[Di];omega) rfl rfl λl J t z C u=> ?_;have D:=(u p (by show p<K.nx+1;omega) λo n c hv=> ?_).trans ((b.ob p hp).trans j)
 ·have i:=t;rcases i with ⟨g,_⟩ | ⟨L,M,rfl,_⟩
  ·simp at g
  have i:=t;simp only[bW,Di] at i;refine rn @D ?_;all_goals exact⟨_,(h.mv b).afR Sq z C i u⟩
 rcases h.out with ⟨_,g⟩ | ⟨b',N,e',O,Q,y,R⟩
 ·rw[g] at hv;cases hv
 rw[e'] at hv;cases hv;rw[j] at y;have:=(dr.cells.inj y).2.1;revert this;decide
theorem KX{src:List UInt8}{i:Nat}(h:i<src.length):src[i]? = some src[i]:=dx h
theorem PW{A K:CH}{p:Nat}{src:List UInt8}{s:RS}{vo vt:ae}{m:Nat}(h:bH A K p src s vo vt m)(n:Nat)(hn:n<=10) :
 bw (bj Tryz.prog LG GG) 53 [.pointer (some ⟨p,0,none⟩), .int .i64 n] K λv K'=>v= .int .u8 (hd (src.drop (s.pos+n)):Nat)/\K'=K:=by
 have b:=h.ob;have hp:=h.pl;have c:=h.bd.pos;have g:=h.sl;refine ij Rl Kr (bq ?_);by_cases hl:s.pos+n<src.length
 ·have hg:=KX hl;rw[mB hl];exact rz (jI @b @cG @ia @hg)
 have hh:hd (src.drop (s.pos+n))=0:=by rw[AX Om];rfl
 rw[hh];refine rn (an @b @cG) ?_;all_goals rfl
theorem afS(H:CH)(n:Nat):bw (bj Tryz.prog LG GG) 55 [.int .u8 n] H λv K=>v= .bool (fK n)/\K=H:=by
 refine ij Rl Kr (bq ?_);repeat' (first | (simp (disch:=first | omega | (decide +kernel)) only[↓RD,RU,↓cm,↓cV,↓du,dk,pop,ct,ji,eV,↓reduceIte,Nat.reduceEqDiff,Int.reduceOfNat,reduceCtorEq]) | ((with_reducible first|apply bL|apply bM|apply bN)<;>intro _))
 all_goals first | rfl | (apply congrArg Value.bool;symm;apply decide_eq_true;omega) | (apply congrArg Value.bool;symm;apply decide_eq_false;omega) | (apply congrArg Value.bool;apply decide_eq_decide.2;omega)
theorem ik{H:CH}{n:Nat}{Q:ae->CH->Prop}:bw (bj Tryz.prog LG GG) 55 [.int .u8 n] H Q↔Q (.bool (fK n)) H:=uI (afS H n)
theorem afT(H:CH)(n:Nat):bw (bj Tryz.prog LG GG) 57 [.int .u8 n] H λv K=>v= .bool (bA n)/\K=H:=by
 refine ij Rl Kr (bq ?_);repeat' (first | (simp (disch:=first | omega | (decide +kernel)) only[↓RD,RU,↓cm,↓cV,↓du,dk,pop,ct,ji,eV,↓reduceIte,Nat.reduceEqDiff,Int.reduceOfNat,reduceCtorEq]) | ((with_reducible first|apply bL|apply bM|apply bN)<;>intro _))
 all_goals first | rfl | (apply congrArg Value.bool;symm;apply decide_eq_true;omega) | (apply congrArg Value.bool;symm;apply decide_eq_false;omega) | (apply congrArg Value.bool;apply decide_eq_decide.2;omega)
theorem jO{H:CH}{n:Nat}{Q:ae->CH->Prop}:bw (bj Tryz.prog LG GG) 57 [.int .u8 n] H Q↔Q (.bool (bA n)) H:=uI (afT H n)
theorem afU(H:CH)(n:Nat)(hn:n<256):bw (bj Tryz.prog LG GG) 92 [.int .u8 n] H λv K=>v= .int .u8 (mZ n:Nat)/\K=H:=by
 refine ij Rl Kr (bq ?_);by_cases h1:48<=n/\n<=57
 ·have b:bA n=true:=decide_eq_true h1;have e:mZ n=n-48:=by unfold mZ;rw[iP h1]
  rw[e];repeat' (first | (simp (disch:=first | omega | (decide +kernel)) only[↓RD,RU,↓cm,↓cV,↓du,dk,pop,ct,ji,eV,ρ0,ρ1,↓reduceIte,Int.reduceOfNat,reduceCtorEq,jO,b]) | ((with_reducible first|apply bL|apply bM|apply bN)<;>intro _))
  all_goals (apply congrArg (Value.int .u8);omega)
 have b:bA n=false:=decide_eq_false h1;repeat' (first | (simp (disch:=first | omega | (decide +kernel)) only[↓RD,RU,↓cm,↓cV,↓du,dk,pop,ct,ji,eV,ρ0,ρ1,↓reduceIte,Nat.reduceEqDiff,Int.reduceOfNat,reduceCtorEq,jO,b]) | ((with_reducible first|apply bL|apply bM|apply bN)<;>intro _))
 all_goals
  unfold mZ;rw[iN h1]
  (repeat' split)<;>first | rfl | (exfalso;omega) | (apply congrArg (Value.int .u8);omega)
theorem KY{H:CH}{n:Nat}(hn:n<256){Q:ae->CH->Prop}:bw (bj Tryz.prog LG GG) 92 [.int .u8 n] H Q↔Q (.int .u8 (mZ n:Nat)) H:=uI (afU H n hn)
theorem lQ{A K:CH}{p:Nat}{src:List UInt8}{s:RS}{vo vt:ae}{m:Nat}(h:bH A K p src s vo vt m){Q:ae->CH->Prop}:bw (bj Tryz.prog LG GG) 53 [.pointer (some ⟨p,0,none⟩), .int .i64 0] K Q↔Q (.int .u8 (hd (src.drop s.pos):Nat)) K:=uI (PW h 0 de)
theorem PY{A K:CH}{p:Nat}{src:List UInt8}{s:RS}{vo vt:ae}{m:Nat}(h:bH A K p src s vo vt m){Q:ae->CH->Prop}:bw (bj Tryz.prog LG GG) 53 [.pointer (some ⟨p,0,none⟩), .int .i64 1] K Q↔Q (.int .u8 (hd (src.drop (s.pos+1)):Nat)) K:=uI (PW h 1 de)
theorem XO{A K:CH}{p:Nat}{src:List UInt8}{s:RS}{vo vt:ae}{m:Nat}(h:bH A K p src s vo vt m){Q:ae->CH->Prop}:bw (bj Tryz.prog LG GG) 53 [.pointer (some ⟨p,0,none⟩), .int .i64 2] K Q↔Q (.int .u8 (hd (src.drop (s.pos+2)):Nat)) K:=uI (PW h 2 de)
theorem XP{l:List UInt8}{j:Nat}(h:0<(l.drop j).length):j<l.length:=by simp at h;omega
def ax (s:RS)(j:Nat):RS:= { s with pos:=s.pos+j }
theorem sN{s:RS}{j:Nat}(h:s.Bd)(b:s.pos+j<=100000):(ax s j).Bd:=⟨b,h.line,h.dep,h.err,h.wh,h.out⟩
theorem zX{A K:CH}{p:Nat}{src:List UInt8}{s:RS}{vo vt:ae}{m:Nat}(h:bH A K p src s vo vt m)(hp:s.pos<=50000) :
 bw (bj Tryz.prog LG GG) 75 [.pointer (some ⟨p,0,none⟩)] K λv K'=>bH A K' p src (ax s (cp (src.drop s.pos))) vo vt m:=by
 have E:=h.sl;refine ij Rl Kr (bq ?_);simp only[↓RD];have g:=tA (p:=bA) (l:=src.drop s.pos);simp only[iH] at g;refine sM (λn fr o=>∃j,n=cp (src.drop s.pos)-j/\j+nW bA (src.drop (s.pos+j))=cp (src.drop s.pos)/\bH A o p src (ax s j) vo vt m) (n:=cp (src.drop s.pos)) ⟨0,rfl,by simp[cp],h⟩ ?_;rintro n fr o ⟨j,rfl,G,h1⟩ t;have i:= @lQ _ _ _ _ _ _ _ _ h1;have u:(ax s j).pos=s.pos+j:=rfl;rw[u] at i;have x:=h1.ob;have I:=h1.pl;have y:cp (src.drop s.pos)<=src.length-s.pos:=g;cases b:bA (hd (src.drop (s.pos+j))) with
 | true=>
   have z:0<(src.drop (s.pos+j)).length:=by
    cases C:src.drop (s.pos+j) with
    | nil=>rw[C] at b;cases b
    | cons c r=>simp
   have D:=XP z;have J:=v8 D b;refine rn (xC @t @i @jO @b @x @u @n1) ?_;exact⟨_,by simp only[cp] at *;omega,j+1,rfl,by simp only[<-jW];omega,h1.set (s':=ax s (j+1)) rfl rfl (sN h.bd Om)⟩
 | false=>
   have M:=xG (p:=bA) (.inr b);refine rn (jI @t @i @jO @b) ?_;all_goals
    have e:cp (src.drop s.pos)=j:=by omega
    rw[e];exact h1
def XR (n:Nat):Bool:=decide (n=32)
def XS (n:Nat):Bool:=decide (n≠10)
theorem XT{A K:CH}{p:Nat}{src:List UInt8}{s:RS}{vo vt:ae}{m:Nat}(h:bH A K p src s vo vt m)(hp:s.pos<=50000) :
 bw (bj Tryz.prog LG GG) 30 [.pointer (some ⟨p,0,none⟩)] K λv K'=>bH A K' p src (ax s (cq (src.drop s.pos))) vo vt m:=by
 have W:=h.sl;refine ij Rl Kr (bq ?_);simp only[↓RD];obtain⟨N,o⟩ : ∃N,nW (λn=>decide (n=32)) (src.drop s.pos)=N:=⟨_,rfl⟩;have c:=tA (p:=λn=>decide (n=32)) (l:=src.drop s.pos);simp only[iH] at c;rw[o] at c;refine sM (λn fr G=>∃j,n=N-j/\j+nW (λn=>decide (n=32)) (src.drop (s.pos+j))=N/\bH A G p src (ax s j) vo vt m) (n:=N) ⟨0,rfl,by simpa using o,h⟩ ?_;rintro n fr G ⟨j,rfl,X,h1⟩ b;have t:= @lQ _ _ _ _ _ _ _ _ h1;have I:(ax s j).pos=s.pos+j:=rfl;rw[I] at t;have Q:=h1.ob;have Y:=h1.pl;by_cases g:hd (src.drop (s.pos+j))=32
 ·have R:0<(src.drop (s.pos+j)).length:=nY Om;have S:=XP R;have Z:=v8 (p:=λn=>decide (n=32)) S (by simp[g]);refine rn (xC @b @t @g @Q @I @n1 @cG) ?_;all_goals exact⟨_,Om,j+1,rfl,by simp only[<-jW];omega,h1.set (s':=ax s (j+1)) rfl rfl (sN h.bd Om)⟩
 have Hq:=xG (p:=λn=>decide (n=32)) (l:=src.drop (s.pos+j)) (.inr (by simp[g]));have e:j=N:=by omega
 subst e;by_cases hc:hd (src.drop (s.pos+j))=35
 ·have hb:cq (src.drop s.pos)=j+nW (λn=>decide (n≠10)) (src.drop (s.pos+j)):=by
   unfold cq;rw[o,gE,iP hc]
  rw[hb];refine rn (jI @b @t @g @hc) ?_;obtain⟨M,J⟩ : ∃M,nW (λn=>decide (n≠10)) (src.drop (s.pos+j))=M:=⟨_,rfl⟩;have L:=tA (p:=λn=>decide (n≠10)) (l:=src.drop (s.pos+j));simp only[iH] at L;rw[J] at L⊢;refine sM (λn fr O=>∃i,n=M-i/\i+nW (λn=>decide (n≠10)) (src.drop (s.pos+j+i))=M/\bH A O p src (ax s (j+i)) vo vt m) (n:=M) ⟨0,rfl,by simpa using J,h1⟩ ?_;rintro n aX O ⟨i,rfl,hi,h2⟩ x;have y:(ax s (j+i)).pos=s.pos+j+i:=by show s.pos+(j+i)=_;omega
  have z:=h2.ob;have zY:=h2.pl;by_cases C:s.pos+j+i<src.length
  ·have hg:=KX C;have hh:=mB C;by_cases u:src[s.pos+j+i].toNat=10
   ·have D:=xG (p:=λn=>decide (n≠10)) (l:=src.drop (s.pos+j+i)) (.inr (by simp[hh,u]));have E:i=M:=by omega
    subst E;refine rn (zv @x @b @z @y @cG @ia @hg @u) ?_;all_goals exact h2
   have V:=v8 (p:=λn=>decide (n≠10)) C (by simp[hh,u]);refine rn (A3 @x @b @z @y @cG @ia @hg @u @n1) ?_;all_goals
    refine⟨_,Om,i+1,rfl,by simp only[<-jW];omega,?_⟩;have e:s.pos+j+i+1=s.pos+(j+(i+1)):=by omega
    rw[e];exact h2.set (s':=ax s (j+(i+1))) rfl rfl (sN h.bd Om)
  have D:=xG (p:=λn=>decide (n≠10)) (l:=src.drop (s.pos+j+i)) (.inl (AX Om));have E:i=M:=by omega
  subst E;refine rn (zu @x @b @z @y @cG) ?_;all_goals exact h2
 have hb:cq (src.drop s.pos)=j:=by
  unfold cq;rw[o,gE,iN hc]
 rw[hb];refine rn (jI @b @t @g @hc) ?_;all_goals exact h1
theorem bH.iter{A K:CH}{p:Nat}{src:List UInt8}{s:RS}{vo vt:ae}{m l:Nat}(h:bH A K p src s vo vt m){a a':ByteArray}{b b':Nat}(hl:K.ob l= .qx a b)(f:A.nx<=l):bH A (K.set l (.qx a' b')) p src s vo vt m:=by
 obtain⟨bo,kd,c,os,h1,h2,h3,h4,h5⟩:=h.cP;have j:p≠l:=λe=>by have:=h.ob;rw[e,hl] at this;cases this
 have n:m≠l:=λe=>by have:=h.mp;rw[e,hl] at this;cases this
 have o:bo≠l:=λe=>by rw[e,hl] at h4;cases h4
 refine⟨by rw[iA,iN j];exact h.ob,h.pl,h.pa,⟨bo,kd,c,os,h1,h2,h3,by rw[iA,iN o];exact h4,h5⟩,?_,by rw[iA,iN n];exact h.mp,h.ml,h.ma,h.E.set f _,h.bd,h.sl⟩;rcases h.out with g | ⟨q,t,u,v,x,i,y⟩
 ·exact .inl g
 refine .inr ⟨q,t,u,v,x,?_,y⟩;rw[iA,iN];·exact i
 intro e;rw[e,hl] at i;cases i
theorem afW{a b:List UInt8}:(str a==str b)=decide (a=b):=by
 cases h:(str a==str b) with
 | true=>
   have:=(T3 _ _).1 h;rw[decide_eq_true (by exact Array.mk.inj (ByteArray.mk.inj this))]
 | false=>
   rw[decide_eq_false λe=>by rw[e,(T3 _ _).2 rfl] at h;cases h]
theorem zZ{x:List UInt8} : ∀ {ws:List (List UInt8)} {n i:Nat},
 (x∈ws->∃j,oc 1 (.string (str x)) ((ws.zipIdx n).map λx=>({ key:= .string (str x.1),val:= .int .i64 1,born:=x.2 }:pC)) i=some (some (j, .int .i64 1)))/\
 (x∉ws->oc 1 (.string (str x)) ((ws.zipIdx n).map λx=>({ key:= .string (str x.1),val:= .int .i64 1,born:=x.2 }:pC)) i=some none)
 | [],n,i=>⟨λh=>(by cases h),λ_=>rfl⟩
 | w::ws,n,i=>by
   obtain⟨h1,h2⟩:=zZ (x:=x) (ws:=ws) (n:=n+1) (i:=i+1);simp only[List.zipIdx_cons,dq,oc,DA,afW];by_cases e:x=w
   ·subst e;simp only[decide_true];exact⟨λ_=>⟨i,rfl⟩,λh=>absurd (List.mem_cons_self ..) h⟩
   simp only[decide_eq_false e];refine⟨λh=>h1 ?_,λh=>h2 λh'=>h (kD _ h')⟩;rcases List.mem_cons.1 h with g | g
   ·exact absurd g e
   exact g
theorem XV{r:List UInt8}{j:Nat}(h:j<r.length)(hb:r[j].toNat<128):Db (str r) j=(r[j].toNat,1):=decode_ascii (str r) j h hb
theorem afX{r:List UInt8}{j:Nat}(h:j<r.length)(hb:128<=r[j].toNat):127<(Db (str r) j).1:=by
 have e:((str r).get! (j+0))=r[j]:=by
  have h':j<(str r).size:=h;show(str r).get! j=_;simp[ByteArray.get!,getElem!_pos,h]
 unfold Db;simp only[e];rw[iN Om]
 (repeat' split)<;>simp only[Utf8.runeError,eZ,decide_eq_true_eq,ge_iff_le] at *<;>omega
theorem afY{A K:CH}{p:Nat}{src:List UInt8}{s:RS}{vo vt:ae}{m:Nat}(h:bH A K p src s vo vt m)(hp:s.pos<src.length)(hb:s.out.length+s.cP.length<1000000) :
 bw (bj Tryz.prog LG GG) 56 [.pointer (some ⟨p,0,none⟩)] K λv K'=>∃gV,bH A K' p src (jA (ax s (nW en (src.drop s.pos))) (if (src.drop s.pos).take (nW en (src.drop s.pos))∈jY then 8 else 4) s.line ((src.drop s.pos).take (nW en (src.drop s.pos)))) vo gV m:=by
 have kK:=h.sl;have ap:=h.ob;have eL:=h.pl;have XN:=h.pa;obtain⟨N,W⟩ : ∃N,nW en (src.drop s.pos)=N:=⟨_,rfl⟩;have I:=tA (p:=en) (l:=src.drop s.pos);simp only[iH] at I;rw[W] at I⊢;refine ij Rl Kr (bq ?_);have yF:(src.drop s.pos).take (src.length-s.pos)=src.drop s.pos:=qq s0;refine rn (jI @ap @cG @gA @yF) ?_;have Bh:aI K (K.new (.qx (str (src.drop s.pos)) 0)):=by(repeat (first | assumption | exact aI.refl _ | (refine aI.set ?_ Fo _) | (refine aI.new ?_ _)))
 refine sM (λn fr Q=>∃j,n=N-j/\j+nW en (src.drop (s.pos+j))=N/\bH A Q p src (ax s j) vo vt m/\Q.ob K.nx= .qx (str (src.drop s.pos)) j/\K.nx<Q.nx) (n:=N) ⟨0,rfl,by simpa using W,h.mv Bh,by exact Ek,nX _⟩ ?_;rintro n fr Q ⟨j,rfl,hj,h1,c,X⟩ t;have u:=h1.ob;have z0:=h1.pl;have y:(ax s j).pos=s.pos+j:=rfl;have dE:=h.E.nx;have z:(src.drop s.pos).length=src.length-s.pos:=by simp
 by_cases Y:s.pos+j<src.length
 ·have S:j<(src.drop s.pos).length:=by omega
  have J:(src.drop s.pos)[j]=src[s.pos+j]:=by rw[TX]
  have hh:=mB Y;by_cases D:en (src[s.pos+j].toNat)=true
  ·have U:src[s.pos+j].toNat<128:=by
    have:=D;simp only[en,fK,bA,Bool.or_eq_true,decide_eq_true_eq] at this;omega
   have C:=XV S (by rw[J];exact U);rw[J] at C;have XQ:=v8 Y (by rw[hh];exact D);cases G:fK (src[s.pos+j].toNat) with
   | true=>
     refine rn (xD @t @c @cG @z @C @ik @G @u @y @n1) ?_;all_goals exact⟨_,Om,j+1,rfl,by simp only[<-jW];omega,(h1.iter c Om).set (s':=ax s (j+1)) rfl rfl (sN h.bd Om),rfl,X⟩
   | false=>
     have R:bA (src[s.pos+j].toNat)=true:=by
      unfold en at D;rw[G] at D;simpa using D
     refine rn (xF @t @c @cG @z @C @ik @jO @G @R @u @y @n1) ?_;all_goals exact⟨_,Om,j+1,rfl,by simp only[<-jW];omega,(h1.iter c Om).set (s':=ax s (j+1)) rfl rfl (sN h.bd Om),rfl,X⟩
  have Hq:=xG (p:=en) (l:=src.drop (s.pos+j)) (.inr (by rw[hh];simpa using D));have e:j=N:=by omega
  subst e;have g:=h1.mp;have Hr:=h1.ml;have V:m≠K.nx:=λe=>by rw[e,c] at g;cases g
  have Z:en (src[s.pos+j].toNat)=false:=by simpa using D
  simp only[en,Bool.or_eq_false_iff] at Z;obtain⟨G,R⟩:=Z;by_cases U:src[s.pos+j].toNat<128
  ·have C:=XV S (by rw[J];exact U);rw[J] at C;by_cases hw:(src.drop s.pos).take j∈jY
   ·obtain⟨q,b⟩:=(zZ (x:=(src.drop s.pos).take j) (ws:=jY) (n:=0) (i:=0)).1 hw;have b:oc 1 (.string (str ((src.drop s.pos).take j))) zW.toList 0=some (some (q, .int .i64 1)):=b;rw[iP hw];refine rn (N0 @t @c @cG @z @C @ik @jO @G @R @u @y @gA @jb @b @g) ?_;refine(dG (s:=ax s j) (h1.iter c Om) 8 s.line ((src.drop s.pos).take j) hb).mono λM O ⟨o,h2⟩=> ?_;refine dh ?_;all_goals exact⟨o,h2⟩
   have b:oc 1 (.string (str ((src.drop s.pos).take j))) zW.toList 0=some none:=(zZ (x:=(src.drop s.pos).take j) (ws:=jY) (n:=0) (i:=0)).2 hw;rw[iN hw];refine rn (N0 @t @c @cG @z @C @ik @jO @G @R @u @y @gA @jb @b @g) ?_;refine(dG (s:=ax s j) (h1.iter c Om) 4 s.line ((src.drop s.pos).take j) hb).mono λM O ⟨o,h2⟩=> ?_;refine dh ?_;all_goals exact⟨o,h2⟩
  have C:=afX S (by rw[J];omega);by_cases hw:(src.drop s.pos).take j∈jY
  ·obtain⟨q,b⟩:=(zZ (x:=(src.drop s.pos).take j) (ws:=jY) (n:=0) (i:=0)).1 hw;have b:oc 1 (.string (str ((src.drop s.pos).take j))) zW.toList 0=some (some (q, .int .i64 1)):=b;rw[iP hw];refine rn (xD @t @c @cG @z @u @y @gA @jb @b @g) ?_;refine(dG (s:=ax s j) (h1.iter c Om) 8 s.line ((src.drop s.pos).take j) hb).mono λM O ⟨o,h2⟩=> ?_;refine dh ?_;all_goals exact⟨o,h2⟩
  have b:oc 1 (.string (str ((src.drop s.pos).take j))) zW.toList 0=some none:=(zZ (x:=(src.drop s.pos).take j) (ws:=jY) (n:=0) (i:=0)).2 hw;rw[iN hw];refine rn (xD @t @c @cG @z @u @y @gA @jb @b @g) ?_;refine(dG (s:=ax s j) (h1.iter c Om) 4 s.line ((src.drop s.pos).take j) hb).mono λM O ⟨o,h2⟩=> ?_;refine dh ?_;all_goals exact⟨o,h2⟩
 have Hq:=xG (p:=en) (l:=src.drop (s.pos+j)) (.inl (AX Om));have e:j=N:=by omega
 subst e;have g:=h1.mp;have Hr:=h1.ml;have V:m≠K.nx:=λe=>by rw[e,c] at g;cases g
 by_cases hw:(src.drop s.pos).take j∈jY
 ·obtain⟨q,b⟩:=(zZ (x:=(src.drop s.pos).take j) (ws:=jY) (n:=0) (i:=0)).1 hw;have b:oc 1 (.string (str ((src.drop s.pos).take j))) zW.toList 0=some (some (q, .int .i64 1)):=b;rw[iP hw];refine rn (xD @t @c @cG @z @u @y @gA @jb @b @g) ?_;refine(dG (s:=ax s j) (h1) 8 s.line ((src.drop s.pos).take j) hb).mono λM O ⟨o,h2⟩=> ?_;refine dh ?_;all_goals exact⟨o,h2⟩
 have b:oc 1 (.string (str ((src.drop s.pos).take j))) zW.toList 0=some none:=(zZ (x:=(src.drop s.pos).take j) (ws:=jY) (n:=0) (i:=0)).2 hw;rw[iN hw];refine rn (xD @t @c @cG @z @u @y @gA @jb @b @g) ?_;refine(dG (s:=ax s j) (h1) 4 s.line ((src.drop s.pos).take j) hb).mono λM O ⟨o,h2⟩=> ?_;refine dh ?_;all_goals exact⟨o,h2⟩
theorem bH.Hs{A K:CH}{p:Nat}{src:List UInt8}{s:RS}{vo vt:ae}{m:Nat}(h:bH A K p src s vo vt m)(j:Nat)(b:s.pos+j<=100000) :
 bH A (K.set p (.cells [.string (str src), .int .i64 ((s.pos+j:Nat):Int), .int .i64 s.line, .int .i64 s.dep,vo,vt, .map (some m), .int .i64 s.err, .int .i64 s.wh] 55 .ex)) p src (ax s j) vo vt m:=
 h.set (s':=ax s j) rfl rfl (sN h.bd b)
theorem n2{a:Nat}:((a:Int)+2)=((a+2:Nat):Int):=rfl
def pf(K K':CH)(p:Nat):Prop:=K.nx<=K'.nx/\∀l,l<K.nx->l≠p->K'.ob l=K.ob l
theorem pf.set{K:CH}{p:Nat}{o:dr}:pf K (K.set p o) p:=⟨ag _,λl _ h=>by rw[iA,iN h]⟩
theorem pf.trans{A K K':CH}{p:Nat}(h:pf A K p)(k:pf K K' p):pf A K' p:=⟨cM h.1 k.1,λl h1 h2=>(k.2 l (ek h1 h.1) h2).trans (h.2 l h1 h2)⟩
theorem P3{s:RS}{l e:Nat}(h:s.err=0):dv s l e= { s with err:=e,wh:=l }:=iP h
theorem La{A K:CH}{p:Nat}{src:List UInt8}{s:RS}{vo vt:ae}{m:Nat}(h:bH A K p src s vo vt m)(line e:Nat)(h1:line<=100000)(h2:e<=100)(he:s.err=0) :
 bw (bj Tryz.prog LG GG) 54 [.pointer (some ⟨p,0,none⟩), .int .i64 line, .int .i64 e] K λv K'=>bH A K' p src { s with err:=e,wh:=line } vo vt m/\pf K K' p:=by
 have b:=h.ob;have hp:=h.pl;refine ij Rl Kr (bq ?_);refine rn (an @b @he) ?_;all_goals exact⟨h.set (s':= { s with err:=e,wh:=line }) rfl rfl ⟨h.bd.pos,h.bd.line,h.bd.dep,h2,h1,h.bd.out⟩,pf.set⟩
theorem P4{n:Nat}:mZ n<=16:=by
 unfold mZ
 (repeat' split)<;>omega
def afZ(A K K':CH)(p:Nat)(src:List UInt8)(s:RS)(vo vt:ae)(m:Nat)(v:ae)(r:Option (Nat×Nat)):Prop:=pf K K' p/\match r with
 | some (b,n)=>v= .int .u8 (b:Nat)/\bH A K' p src (ax s n) vo vt m
 | none=>v= .int .u8 0/\bH A K' p src { ax s 1 with err:=20,wh:=s.line } vo vt m
theorem af0{A K:CH}{p:Nat}{src:List UInt8}{s:RS}{vo vt:ae}{m:Nat}(h:bH A K p src s vo vt m)(hp:s.pos<=50000)(t:s.err=0) :
 bw (bj Tryz.prog LG GG) 76 [.pointer (some ⟨p,0,none⟩)] K λv K'=>afZ A K K' p src s vo vt m v (ie (src.drop s.pos)):=by
 have M:=h.sl;have g:=h.ob;have N:=h.pl;have u:=h.bd.line;obtain⟨l,hl⟩ : ∃l,src.drop s.pos=l:=⟨_,rfl⟩;have y : ∀j,src.drop (s.pos+j)=l.drop j:=λj=>by rw[<-hl,gE]
 have f:= @lQ _ _ _ _ _ _ _ _ h;rw[hl] at f⊢;have h1:=h.Hs 1 Om;have z:(ax s 1).pos=s.pos+1:=rfl;have n:= @lQ _ _ _ _ _ _ _ _ h1;have o:= @PY _ _ _ _ _ _ _ _ h1;simp only[z,jW,y] at n o;refine ij Rl Kr (bq ?_);by_cases b:hd l=120
 ·have hx:= @JD (l.drop 1);have x:= @JD (l.drop 2);have C:= @P4 (hd (l.drop 1));have D:= @P4 (hd (l.drop 2));by_cases i:mZ (hd (l.drop 1))<16/\mZ (hd (l.drop 2))<16
  ·have he:ie l=some (16*mZ (hd (l.drop 1))+mZ (hd (l.drop 2)),3):=by unfold ie;rw[iP b,iP i]
   rw[he];repeat' (first | (simp (disch:=first | omega | (decide +kernel)) only[↓RD,RU,↓cm,↓kj,↓cV,↓du,iA,dk,pop,bg,cy,ct,ji,eV,isVal,ci,iI,ρ0,ρ1,↓reduceIte,Nat.reduceEqDiff,Nat.reduceAdd,Int.reduceOfNat,reduceCtorEq,ρ5,ρ6,ρ7,ρ8,ρ17,ρ18,ρ19,ρ20,ρ22,ρ23,Kd.eM,ρ25,ρ26,Nat.reduceLeDiff,CH.set_set,f,b,g,n1,n2,n,o,KY hx,KY x]) | ((with_reducible first|apply bL|apply bM|apply bN)<;>intro _))
   all_goals first | (exfalso;omega) | exact⟨pf.set,rfl,h.Hs 3 Om⟩
  have he:ie l=none:=by unfold ie;rw[iP b,iN i]
  rw[he];repeat' (first | (simp (disch:=first | omega | (decide +kernel)) only[↓RD,RU,↓cm,↓kj,↓cV,↓du,iA,dk,pop,bg,cy,isVal,ci,iI,ρ0,ρ1,↓reduceIte,Nat.reduceEqDiff,Nat.reduceAdd,Int.reduceOfNat,reduceCtorEq,ρ5,ρ6,ρ7,ρ8,ρ17,ρ18,ρ19,ρ20,ρ22,ρ23,Kd.eM,ρ25,ρ26,Nat.reduceLeDiff,f,b,g,n1,n,o,KY hx,KY x]) | ((with_reducible first|apply bL|apply bM|apply bN)<;>intro _))
  all_goals first | (exfalso;omega) | skip
  all_goals
   refine(La h1 s.line 20 u de t).mono λE F ⟨h2,h3⟩=> ?_;repeat' (first | (simp (disch:=first | omega | (decide +kernel)) only[↓RD,RU,↓cm,↓du,pop,ct,ji,eV,↓reduceIte]) | ((with_reducible first|apply bL|apply bM|apply bN)<;>intro _))
   all_goals exact⟨pf.set.trans h3,rfl,h2⟩
 have cs:hd l=110\/hd l=116\/hd l=92\/hd l=39\/hd l=34\/(hd l≠110/\hd l≠116/\hd l≠92/\hd l≠39/\hd l≠34):=by omega
 rcases cs with c | c | c | c | c | ⟨i,G,I,J,L⟩
 ·have he:ie l=some (10,1):=by unfold ie;rw[iN b,c];rfl
  rw[he];repeat' (first | (simp (disch:=first | omega | (decide +kernel)) only[↓RD,RU,↓cm,↓kj,↓cV,↓du,dk,pop,bg,cy,ct,ji,eV,isVal,ci,iI,ρ0,ρ1,↓reduceIte,Nat.reduceEqDiff,Nat.reduceAdd,Int.reduceOfNat,reduceCtorEq,ρ5,ρ6,ρ7,ρ8,ρ17,ρ18,ρ19,ρ20,ρ22,ρ23,Kd.eM,ρ25,ρ26,Nat.reduceLeDiff,f,c,g,n1]) | ((with_reducible first|apply bL|apply bM|apply bN)<;>intro _))
  all_goals exact⟨pf.set,rfl,h1⟩
 ·have he:ie l=some (9,1):=by unfold ie;rw[iN b,c];rfl
  rw[he];repeat' (first | (simp (disch:=first | omega | (decide +kernel)) only[↓RD,RU,↓cm,↓kj,↓cV,↓du,dk,pop,bg,cy,ct,ji,eV,isVal,ci,iI,ρ0,ρ1,↓reduceIte,Nat.reduceEqDiff,Nat.reduceAdd,Int.reduceOfNat,reduceCtorEq,ρ5,ρ6,ρ7,ρ8,ρ17,ρ18,ρ19,ρ20,ρ22,ρ23,Kd.eM,ρ25,ρ26,Nat.reduceLeDiff,f,c,g,n1]) | ((with_reducible first|apply bL|apply bM|apply bN)<;>intro _))
  all_goals exact⟨pf.set,rfl,h1⟩
 ·have he:ie l=some (92,1):=by unfold ie;rw[iN b,c];rfl
  rw[he];repeat' (first | (simp (disch:=first | omega | (decide +kernel)) only[↓RD,RU,↓cm,↓kj,↓cV,↓du,dk,pop,bg,cy,ct,ji,eV,isVal,ci,iI,ρ0,ρ1,↓reduceIte,Nat.reduceEqDiff,Nat.reduceAdd,Int.reduceOfNat,reduceCtorEq,ρ5,ρ6,ρ7,ρ8,ρ17,ρ18,ρ19,ρ20,ρ22,ρ23,Kd.eM,ρ25,ρ26,Nat.reduceLeDiff,f,c,g,n1]) | ((with_reducible first|apply bL|apply bM|apply bN)<;>intro _))
  all_goals exact⟨pf.set,rfl,h1⟩
 ·have he:ie l=some (39,1):=by unfold ie;rw[iN b,c];rfl
  rw[he];repeat' (first | (simp (disch:=first | omega | (decide +kernel)) only[↓RD,RU,↓cm,↓kj,↓cV,↓du,dk,pop,bg,cy,ct,ji,eV,isVal,ci,iI,ρ0,ρ1,↓reduceIte,Nat.reduceEqDiff,Nat.reduceAdd,Int.reduceOfNat,reduceCtorEq,ρ5,ρ6,ρ7,ρ8,ρ17,ρ18,ρ19,ρ20,ρ22,ρ23,Kd.eM,ρ25,ρ26,Nat.reduceLeDiff,f,c,g,n1]) | ((with_reducible first|apply bL|apply bM|apply bN)<;>intro _))
  all_goals exact⟨pf.set,rfl,h1⟩
 ·have he:ie l=some (34,1):=by unfold ie;rw[iN b,c];rfl
  rw[he];repeat' (first | (simp (disch:=first | omega | (decide +kernel)) only[↓RD,RU,↓cm,↓kj,↓cV,↓du,dk,pop,bg,cy,ct,ji,eV,isVal,ci,iI,ρ0,ρ1,↓reduceIte,Nat.reduceEqDiff,Nat.reduceAdd,Int.reduceOfNat,reduceCtorEq,ρ5,ρ6,ρ7,ρ8,ρ17,ρ18,ρ19,ρ20,ρ22,ρ23,Kd.eM,ρ25,ρ26,Nat.reduceLeDiff,f,c,g,n1]) | ((with_reducible first|apply bL|apply bM|apply bN)<;>intro _))
  all_goals exact⟨pf.set,rfl,h1⟩
 have he:ie l=none:=by
  unfold ie FU;rw[iN b,iN (by simp[i,G,I,J,L])]
 rw[he];repeat' (first | (simp (disch:=first | omega | (decide +kernel)) only[↓RD,RU,↓cm,↓kj,↓cV,↓du,iA,dk,pop,bg,cy,isVal,ci,iI,ρ0,ρ1,↓reduceIte,Nat.reduceEqDiff,Nat.reduceAdd,Int.reduceOfNat,reduceCtorEq,ρ5,ρ6,ρ7,ρ8,ρ17,ρ18,ρ19,ρ20,ρ22,ρ23,Kd.eM,ρ25,ρ26,Nat.reduceLeDiff,f,g,n1]) | ((with_reducible first|apply bL|apply bM|apply bN)<;>intro _))
 all_goals
  refine(La h1 s.line 20 u de t).mono λE F ⟨h2,h3⟩=> ?_;repeat' (first | (simp (disch:=first | omega | (decide +kernel)) only[↓RD,RU,↓cm,↓du,pop,ct,ji,eV,↓reduceIte]) | ((with_reducible first|apply bL|apply bM|apply bN)<;>intro _))
  all_goals exact⟨pf.set.trans h3,rfl,h2⟩
def ko (l:List UInt8):List Int:=l.map λc=>(c.toNat:Int)
theorem XX{l:List UInt8}:(ko l).flatMap (ints .u8)=(l.map λc=>(.int .u8 (c.toNat:Int):ae)):=by
 rw[KU];simp[ko]
theorem Lb : ∀ {l:List UInt8},rm (l.map λc=>(.int .u8 (c.toNat:Int):ae))=some l
 | []=>rfl
 | c::l=>by
   simp only[dq,rm,Lb,fo,xq];congr 2
   apply UInt8.toNat.inj;simp
theorem bH.P5{A K K':CH}{p:Nat}{src:List UInt8}{s:RS}{vo vt v:ae}{m:Nat}{xs:List Int}(h:bH A K p src s vo vt m)(t:nN A 5 1 (ints .u8) K v xs)(hx:aI A K')(hn:K.nx<=K'.nx)(hk : ∀l,l<K.nx->(∀o n c,v≠ .slice (some ⟨l,o,none⟩) n c)->K'.ob l=K.ob l):bH A K' p src s vo vt m:=by
 obtain⟨b,kd,c,os,h1,h2,h3,h4,h5⟩:=h.cP;have av : ∀l cs e k,K.ob l= .cells cs e k->e≠5->∀o n c,v≠ .slice (some ⟨l,o,none⟩) n c:=λl cs e k hl av o n c hv=>by
  rcases t with ⟨_,g⟩ | ⟨b',x,e',j,i,f,q⟩
  ·rw[g] at hv;cases hv
  rw[e'] at hv;cases hv;rw[hl] at f;exact av (dr.cells.inj f).2.1
 have y : ∀o n c,v≠ .slice (some ⟨m,o,none⟩) n c:=λo n c hv=>by
  rcases t with ⟨_,g⟩ | ⟨b',x,e',j,i,f,q⟩
  ·rw[g] at hv;cases hv
  rw[e'] at hv;cases hv;rw[h.mp] at f;cases f
 refine⟨(hk p h.pl (av _ _ _ _ h.ob de)).trans h.ob,ek h.pl hn,h.pa,⟨b,kd,c,os,h1,h2,ek h3 hn,(hk b h3 (av _ _ _ _ h4 de)).trans h4,h5⟩,?_,(hk m h.ml y).trans h.mp,ek h.ml hn,h.ma,hx,h.bd,h.sl⟩;rcases h.out with g | ⟨u,z,C,j,i,f,q⟩
 ·exact .inl g
 exact .inr ⟨u,z,C,j,ek i hn,(hk u i (av _ _ _ _ f de)).trans f,q⟩
theorem af1{A K:CH}{p:Nat}{src:List UInt8}{s:RS}{vo vt v:ae}{m:Nat}{xs:List Int}(c:nN A 5 1 (ints .u8) K v xs)(h:bH A K p src s vo vt m)(o:dr):nN A 5 1 (ints .u8) (K.set p o) v xs:=by
 rcases c with g | ⟨b',f,e',i,j,b,l⟩
 ·exact .inl g
 refine .inr ⟨b',f,e',i,j,?_,l⟩;rw[iA,iN];·exact b
 intro e;rw[e,h.ob] at b;have:=(dr.cells.inj b).2.1;revert this;decide
theorem af2{l:List UInt8}{b n:Nat}(h:ie l=some (b,n)):n<=l.length/\b<256:=by
 have hx:= @P4 (hd (l.drop 1));unfold ie at h;split at h
 ·split at h
  ·rename_i g;cases h;have h2:hd (l.drop 2)≠0:=λe=>by have:=g.2;rw[e] at this;exact absurd this de
   have:=nY h2;simp at this;omega
  cases h
 split at h
 ·rename_i f g;cases h;have c:hd l≠0:=λe=>g (by rw[e];decide);have:=nY c;refine⟨Om,?_⟩;unfold FU;have:= @JD l
  (repeat' split)<;>omega
 cases h
theorem P6{q:Nat} : ∀ {f g:Nat} {l:List UInt8},l.length<f->l.length<g->gO q f l=gO q g l
 | 0,_,_,h,_=>absurd h Om
 | _,0,_,_,h=>absurd h Om
 | f+1,g+1,l,i,hg=>by
   unfold gO;by_cases b:hd l=q
   ·rw[iP b,iP b]
   rw[iN b,iN b];by_cases c:hd l<32
   ·rw[iP c,iP c]
   rw[iN c,iN c];have hl:0<l.length:=nY Om;by_cases e:hd l=92
   ·rw[iN (by simpa using e),iN (by simpa using e)];cases ie (l.drop 1) with
    | none=>rfl
    | some x=>
      simp only;rw[P6 (f:=f) (g:=g) Sq Sq]
   rw[iP e,iP e,P6 (f:=f) (g:=g) Sq Sq]
def P7(A K:CH)(p:Nat)(src:List UInt8)(s:RS)(vo:ae)(m:Nat):Prop:=∃c b,bH A K p src b vo c m/\b.err=20/\b.wh=s.line/\b.dep=s.dep/\b.cP=s.cP/\b.out.length<=s.out.length+1/\s.pos<b.pos/\b.pos<=src.length+4/\b.line=s.line
def P8(A K:CH)(p:Nat)(src:List UInt8)(s:RS)(vo:ae)(m:Nat)(r:Option (List UInt8×Nat)):Prop:=match r with
 | some (x,n)=>∃b,bH A K p src (jA (ax s (n+1)) 7 s.line x) vo b m
 | none=>P7 A K p src s vo m
theorem BK{s:RS}{i j k:Nat}(h:i+j=k):ax (ax s i) j=ax s k:=by subst h;simp only[ax,jW]
theorem af3{A K:CH}{p:Nat}{src:List UInt8}{s:RS}{vo vt:ae}{m:Nat}(h:bH A K p src s vo vt m)(hp:s.pos<src.length)(Q:s.err=0)(hq:32<=hd (src.drop s.pos)/\hd (src.drop s.pos)≠92)(hb:s.out.length+s.cP.length<1000000) :
 bw (bj Tryz.prog LG GG) 59 [.pointer (some ⟨p,0,none⟩)] K λv K'=>P8 A K' p src s vo m (l8 (hd (src.drop s.pos)) (src.drop (s.pos+1))):=by
 have kK:=h.sl;have ap:=h.ob;have eL:=h.pl;have XN:=h.pa;have dm:=h.bd.line;obtain⟨q,XY⟩ : ∃q,hd (src.drop s.pos)=q:=⟨_,rfl⟩;rw[XY] at hq⊢;have p0:= @lQ _ _ _ _ _ _ _ _ h;rw[XY] at p0;have h1:=h.Hs 1 Om;obtain⟨L,hL⟩ : ∃L,src.drop (s.pos+1)=L:=⟨_,rfl⟩;have hLl:L.length=src.length-(s.pos+1):=by rw[<-hL];simp
 have gd : ∀j,src.drop (s.pos+1+j)=L.drop j:=λj=>by rw[<-hL,gE]
 rw[hL];refine ij Rl Kr (bq ?_);refine rn (mY @p0 @ap @n1) ?_;refine sM (λn fr N=>(∃(j f:Nat) (acc:List UInt8) (C:ae),n=f+1/\j+f=L.length/\l8 q L=(gO q (f+1) (L.drop j)).map (λx=>(acc++x.1,x.2+j))/\fr 3=C/\nN A 5 1 (ints .u8) N C (ko acc)/\acc.length<=j/\bH A N p src (ax s (1+j)) vo vt m)\/
  (∃(j:Nat) (acc:List UInt8) (C:ae),n=0/\j<=L.length+1/\l8 q L=none/\fr 3=C/\nN A 5 1 (ints .u8) N C (ko acc)/\acc.length<=100000/\bH A N p src (dv (ax s (1+j)) s.line 20) vo vt m)) (n:=L.length+1) (.inl ⟨0,L.length,[],_,rfl,Om,by simp[l8],by exact Ek, .inl ⟨rfl,rfl⟩,s0,h1⟩) ?_
 rintro n fr N (⟨j,f,acc,C,rfl,hjf,G,f3,R,hac,h2⟩ | ⟨j,acc,C,rfl,hj,G,f3,R,hac,h2⟩) I
 ·have c:=h2.ob;have zY:=h2.pl;have u:(ax s (1+j)).pos=s.pos+1+j:=by show s.pos+(1+j)=_;omega
  have O:= @lQ _ _ _ _ _ _ _ _ h2;rw[u,gd] at O;have y:(ax s (1+j)).err=0:=Q;have z:(ax s (1+j)).line=s.line:=rfl;have hc:= @JD (L.drop j);by_cases J:hd (L.drop j)=q
  ·have uu:j<L.length:=by
    have:=nY (l:=L.drop j) Om;simp at this;omega
   have S:l8 q L=some (acc,j+1):=by rw[G,gO,iP J];simp;omega
   have h3:=h2.Hs 1 (by rw[u];omega);rw[u] at h3;simp only[y,z] at h3;rw[S];rcases R with ⟨e1,rfl⟩ | ⟨b,kd,rfl,g1,Z,i,g4⟩
   ·have ea:acc= []:=by simpa[ko] using e1
    subst ea;refine rn (xD @I @c @y @O @J @u @cG @n1 @f3 @z) ?_;all_goals
     refine(dG h3 7 s.line [] hb).mono λv5 o ⟨t,h5⟩=> ?_;refine dh ?_;all_goals exact⟨t,by rw[<-BK (show 1+j+1=j+1+1 by omega)];exact h5⟩
   rw[XX] at i;have zC:(ko acc).length=acc.length:=by simp[ko]
   rw[zC] at f3;have pR:b≠p:=λe=>by
    rw[e,c] at i;have:=(dr.cells.inj i).2.1;revert this;decide
   refine rn (adi @I @c @y @O @J @u @cG @n1 @f3 @z @i @pR @Lb) ?_;all_goals
    refine(dG h3 7 s.line acc hb).mono λv5 o ⟨t,h5⟩=> ?_;repeat' (first | (simp (disch:=first | omega | (decide +kernel)) only[↓RD,RU,ct]) | ((with_reducible first|apply bL|apply bM|apply bN)<;>intro _))
    all_goals exact⟨t,by rw[<-BK (show 1+j+1=j+1+1 by omega)];exact h5⟩
  by_cases c2:hd (L.drop j)<32
  ·have S:l8 q L=none:=by rw[G,gO,iN J,iP c2];rfl
   rw[S];repeat' (first | (simp (disch:=first | omega | (decide +kernel)) only[↓RD,RU,↓cm,↓cV,↓du,dk,pop,bg,ρ0,ρ1,↓reduceIte,Nat.reduceEqDiff,reduceCtorEq,ρ5,ρ6,ρ28,I,c,y,O,u,cG,z]) | ((with_reducible first|apply bL|apply bM|apply bN)<;>intro _))
   all_goals
    refine(kO h2 s.line 20 dm de).mono λv3 K3 h3=> ?_;refine dh ?_;all_goals
     have hz:(ax s (1+j)).err=0:=Q;unfold dv at h3;rw[iP hz] at h3;exact⟨vt,_,h3,rfl,rfl,rfl,rfl,nz _,by show s.pos<s.pos+(1+j);omega,by show s.pos+(1+j)<=_;omega,rfl⟩
  have uu:j<L.length:=by
   have:=nY (l:=L.drop j) Om;simp at this;omega
  obtain⟨M,rfl⟩ : ∃M,f=M+1:=⟨f-1,Om⟩;have h3:=h2.Hs 1 (by rw[u];omega);rw[u] at h3;simp only[y,z] at h3;have XZ:=af1 R h2 (.cells [.string (str src), .int .i64 ((s.pos+1+j+1:Nat):Int), .int .i64 s.line, .int .i64 (ax s (1+j)).dep,vo,vt, .map (some m), .int .i64 ((0:Nat):Int), .int .i64 (ax s (1+j)).wh] 55 .ex);have J2:=h1.E;by_cases U:hd (L.drop j)=92
  ·have P9:src.drop (ax (ax s (1+j)) 1).pos=L.drop (j+1):=by
    show src.drop (s.pos+(1+j)+1)=_;rw[<-gd];congr 1;omega
   refine rn (xD @I @c @y @O @u @cG @n1 @U @z @f3) ?_;refine(af0 h3 (by show s.pos+(1+j)+1<=_;omega) Q).mono λv4 K4 ⟨X0,h4⟩=> ?_;rw[P9] at h4;have Lc:nN A 5 1 (ints .u8) K4 C (ko acc):=by
    rcases R with g | ⟨b',uO,e',g1,Z,i,g4⟩
    ·exact .inl g
    refine .inr ⟨b',uO,e',g1,ek Z X0.1,?_,g4⟩;have pR:b'≠p:=λe=>by
     rw[e,c] at i;have:=(dr.cells.inj i).2.1;revert this;decide
    rw[X0.2 b' Z pR,iA,iN pR];exact i
   cases V:ie (L.drop (j+1)) with
   | none=>
     rw[V] at h4;obtain⟨rfl,h4⟩:=h4;have S:l8 q L=none:=by rw[G,gO,iN J,iN c2,iN (by simpa using U),gE,V];rfl
     refine rn @f3 ?_;refine KT (PS .u8) (ys:= [(0:Int)]) (Lc.ext (by(repeat (first | assumption | exact aI.refl _ | (refine aI.set ?_ Fo _) | (refine aI.new ?_ _))))) (h4.E.trans (by(repeat (first | assumption | exact aI.refl _ | (refine aI.set ?_ Fo _) | (refine aI.new ?_ _))))) (by simp[ko];omega) (by simp[ko];omega) rfl rfl λv' o D W X Y=> ?_;have hu:ko acc++ [(0:Int)]=ko (acc++ [0]):=by simp[ko]
     rw[hu] at D;have h5:=bH.P5 (h4.mv (K':=K4.new (.cells [.int .u8 0] 5 .ex)) (by(repeat (first | assumption | exact aI.refl _ | (refine aI.set ?_ Fo _) | (refine aI.new ?_ _))))) (Lc.ext (by(repeat (first | assumption | exact aI.refl _ | (refine aI.set ?_ Fo _) | (refine aI.new ?_ _))))) W X Y;refine dh ?_;all_goals exact⟨_,Om, .inr ⟨j+2,_,v',rfl,Om,S,rfl,D,Sq,by rw[P3 (show(ax s (1+(j+2))).err=0 from Q),<-BK (show 1+j+1+1=1+(j+2) by omega),<-BK (show 1+j+1=1+j+1 by omega)];exact h5⟩⟩
   | some x=>
     obtain⟨b,n⟩:=x;rw[V] at h4;obtain⟨rfl,h4⟩:=h4;obtain⟨xX,apr⟩:=af2 V;simp only[iH] at xX;obtain⟨f2,rfl⟩ : ∃f2,M=f2+n:=⟨M-n,Om⟩;have Eo:l8 q L=(gO q (f2+1) (L.drop (j+1+n))).map (λx=>((acc++ [al b])++x.1,x.2+(j+1+n))):=by
      rw[G,gO,iN J,iN c2,iN (by simpa using U),gE,V];simp only[gE];rw[P6 (f:=f2+n+1) (g:=f2+1) Sq Sq,show j+(1+n)=j+1+n by omega];cases gO q (f2+1) (L.drop (j+1+n)) with
      | none=>rfl
      | some x=>simp;omega
     refine rn @f3 ?_;refine KT (PS .u8) (ys:= [(b:Int)]) (Lc.ext (by(repeat (first | assumption | exact aI.refl _ | (refine aI.set ?_ Fo _) | (refine aI.new ?_ _))))) (h4.E.trans (by(repeat (first | assumption | exact aI.refl _ | (refine aI.set ?_ Fo _) | (refine aI.new ?_ _))))) (by simp[ko];omega) (by simp[ko];omega) rfl rfl λv' o D W X Y=> ?_;have hu:ko acc++ [(b:Int)]=ko (acc++ [al b]):=by simp[ko];omega
     rw[hu] at D;have h5:=bH.P5 (h4.mv (K':=K4.new (.cells [.int .u8 (b:Int)] 5 .ex)) (by(repeat (first | assumption | exact aI.refl _ | (refine aI.set ?_ Fo _) | (refine aI.new ?_ _))))) (Lc.ext (by(repeat (first | assumption | exact aI.refl _ | (refine aI.set ?_ Fo _) | (refine aI.new ?_ _))))) W X Y;refine dh ?_;all_goals exact⟨_,Om, .inl ⟨j+1+n,f2,_,v',rfl,Om,Eo,rfl,D,Sq,by rw[<-BK (show 1+j+1+n=1+(j+1+n) by omega),<-BK (show 1+j+1=1+j+1 by omega)];exact h5⟩⟩
  have Eo:l8 q L=(gO q (M+1) (L.drop (j+1))).map (λx=>((acc++ [al (hd (L.drop j))])++x.1,x.2+(j+1))):=by
   rw[G,gO,iN J,iN c2,iP U,gE];cases gO q (M+1) (L.drop (j+1)) with
   | none=>rfl
   | some x=>simp;omega
  refine rn (xD @I @c @y @O @u @cG @n1 @U @z @f3) ?_;refine KT (PS .u8) (ys:= [(hd (L.drop j):Int)]) (XZ.ext (by(repeat (first | assumption | exact aI.refl _ | (refine aI.set ?_ Fo _) | (refine aI.new ?_ _))))) (h3.E.trans (by(repeat (first | assumption | exact aI.refl _ | (refine aI.set ?_ Fo _) | (refine aI.new ?_ _))))) (by simp[ko];omega) (by simp[ko];omega) rfl rfl λv' K4 D W X Y=> ?_;have hu:ko acc++ [(hd (L.drop j):Int)]=ko (acc++ [al (hd (L.drop j))]):=by simp[ko];omega
  rw[hu] at D;have h5:=bH.P5 (h3.mv (K':=(N.set p (.cells [.string (str src), .int .i64 ((s.pos+1+j+1:Nat):Int), .int .i64 s.line, .int .i64 (ax s (1+j)).dep,vo,vt, .map (some m), .int .i64 ((0:Nat):Int), .int .i64 (ax s (1+j)).wh] 55 .ex)).new (.cells [.int .u8 (hd (L.drop j):Int)] 5 .ex)) (by(repeat (first | assumption | exact aI.refl _ | (refine aI.set ?_ Fo _) | (refine aI.new ?_ _))))) (XZ.ext (by(repeat (first | assumption | exact aI.refl _ | (refine aI.set ?_ Fo _) | (refine aI.new ?_ _))))) W X Y;refine dh ?_;all_goals exact⟨_,Om, .inl ⟨j+1,M,_,v',rfl,Om,Eo,rfl,D,Sq,by rw[<-BK (show 1+j+1=1+(j+1) by omega)];exact h5⟩⟩
 have c:=h2.ob;have zY:=h2.pl;have Ko:dv (ax s (1+j)) s.line 20= { ax s (1+j) with err:=20,wh:=s.line }:=P3 Q;rw[Ko] at h2 c;have y:({ ax s (1+j) with err:=20,wh:=s.line }:RS).err=20:=rfl;have z:({ ax s (1+j) with err:=20,wh:=s.line }:RS).line=s.line:=rfl;rw[G];have X1:({ ax s (1+j) with err:=20,wh:=s.line }:RS).out.length+({ ax s (1+j) with err:=20,wh:=s.line }:RS).cP.length<1000000:=hb;have mI : ∀t x o,bH A o p src (jA { ax s (1+j) with err:=20,wh:=s.line } 7 s.line x) vo t m->P8 A o p src s vo m none:=λt x o h5=>
  ⟨t,_,h5,rfl,rfl,rfl,rfl,by simp[jA,ax],by show s.pos<s.pos+(1+j);omega,by show s.pos+(1+j)<=_;omega,rfl⟩
 rcases R with ⟨e1,rfl⟩ | ⟨b,kd,rfl,g1,Z,i,g4⟩
 ·have ea:acc= []:=by simpa[ko] using e1
  subst ea;refine rn (zu @I @c @y @f3 @z) ?_;all_goals
   refine(dG h2 7 s.line [] X1).mono λv5 o ⟨t,h5⟩=> ?_;refine dh ?_;all_goals exact mI t _ o h5
 rw[XX] at i;have zC:(ko acc).length=acc.length:=by simp[ko]
 rw[zC] at f3;refine rn (xC @I @c @y @f3 @z @i @Lb) ?_;all_goals
  refine(dG h2 7 s.line acc X1).mono λv5 o ⟨t,h5⟩=> ?_;refine dh ?_;all_goals exact mI t _ o h5
theorem toN{a b:Nat}:((a:Int)+(b:Int))=((a+b:Nat):Int):=rfl
theorem Er{c:UInt8}:rm [.int .u8 (c.toNat:Int)]=some [c]:=Lb (l:= [c])
theorem af4(H:CH)(a b:List UInt8)(ha:a.length<=100000)(hb:b.length<=100000):bw (bj Tryz.prog LG GG) 93 [.string (str a), .string (str b)] H λv K=>v= .bool (decide (a.take b.length=b))/\K=H:=by
 refine ij Rl Kr (bq ?_);by_cases hl:b.length<=a.length
 ·exact rz (jI @cG @gA @Ho @Nat.sub_zero);all_goals rfl
 have hd:decide (a.take b.length=b)=false:=decide_eq_false λe=>by
  have:=congrArg List.length e;simp at this;omega
 rw[hd];exact rz (mY @cG @gA @Ho)
theorem af5(H:CH)(a b:List UInt8)(ha:a.length<=100000)(hb:b.length<=100000):bw (bj Tryz.prog LG GG) 77 [.string (str a), .string (str b)] H λv K=>v= .bool (decide (a.take b.length=b))/\K=H:=by
 refine ij Rl Kr (bq ?_);refine dh ?_;refine(af4 H a b ha hb).mono λv K ⟨hv,hk⟩=> ?_;subst hv hk;exact Ek;all_goals rfl
theorem X2{H:CH}{a b:List UInt8}(ha:a.length<=100000)(hb:b.length<=100000){Q:ae->CH->Prop}:bw (bj Tryz.prog LG GG) 77 [.string (str a), .string (str b)] H Q↔Q (.bool (decide (a.take b.length=b))) H:=uI (af5 H a b ha hb)
theorem X3{l:List UInt8}{i:Nat}(h:i<l.length):(str l)[i]! = l[i]:=by
 have h':i<(str l).size:=h;rw[getElem!_pos (str l) i h'];rfl
theorem Ht{l:List UInt8}{c:UInt8}:0<=firstIdx (str l) c↔c∈l:=by
 unfold firstIdx;cases b:(my (str l).size).find? λi=>(str l)[i]! == c with
 | some i=>
   have h1:=List.find?_some b;have h2:=List.mem_of_find?_eq_some b;have h3:i<l.length:=List.mem_range.1 h2;rw[X3 h3] at h1;have:l[i]=c:=by simpa using h1
   simp only;exact⟨λ_=>this▸Jw h3,λ_=>by omega⟩
 | none=>
   simp only;refine⟨λh=>by omega,λh=> ?_⟩;obtain⟨i,hi,rfl⟩:=List.getElem_of_mem h;have:=List.find?_eq_none.1 b i (List.mem_range.2 hi);rw[X3 hi] at this;simp at this
theorem X4{c:UInt8}:c.toNat.toUInt8=c:=by simp
def Qa(H K:CH)(l:List UInt8)(c:UInt8)(v:ae):Prop:=(∃x:Int,v= .int .i64 x/\(0<=x↔c∈l))/\K=H
theorem af6(H:CH)(l:List UInt8)(c:UInt8):bw (bj Tryz.prog LG GG) 95 [.string (str l), .int .u8 c.toNat] H λv K=>Qa H K l c v:=by
 refine ij Rl Kr (bq ?_);refine rn @XK ?_;all_goals exact⟨⟨_,rfl,by rw[X4];exact Ht⟩,rfl⟩
theorem af7(H:CH)(l:List UInt8)(c:UInt8):bw (bj Tryz.prog LG GG) 95 [.string (str l), .int .u8 c.toNat] H λv K=>v= .int .i64 (firstIdx (str l) c)/\K=H:=by
 refine ij Rl Kr (bq ?_);exact rz (an @XK @X4)
theorem af8(H:CH)(l:List UInt8)(c:UInt8):bw (bj Tryz.prog LG GG) 79 [.string (str l), .int .u8 c.toNat] H λv K=>v= .int .i64 (firstIdx (str l) c)/\K=H:=by
 refine ij Rl Kr (bq ?_);refine dh ?_;refine(af7 H l c).mono λv K ⟨hv,hk⟩=> ?_;subst hv hk;exact Ek;all_goals rfl
theorem X5{H:CH}{l:List UInt8}{c:UInt8}{Q:ae->CH->Prop}:bw (bj Tryz.prog LG GG) 79 [.string ⟨⟨l⟩⟩, .int .u8 c.toNat] H Q↔Q (.int .i64 (firstIdx (str l) c)) H:=uI (af8 H l c)
theorem af9(H:CH)(l:List UInt8)(c:UInt8):bw (bj Tryz.prog LG GG) 103 [.string (str l), .string (str [c])] H λv K=>Qa H K l c v:=by
 refine ij Rl Kr (bq ?_);by_cases he : [c]=l
 ·repeat' (first | (simp (disch:=first | omega | (decide +kernel)) only[↓RD,RU,↓cm,↓cV,↓du,dk,rI,pop,ct,ji,eV,↓reduceIte,Nat.reduceEqDiff,Int.reduceOfNat,Int.reduceNegSucc,reduceCtorEq,cG,Ho,he]) | ((with_reducible first|apply bL|apply bM|apply bN)<;>intro _))
  all_goals exact⟨⟨0,rfl,λ_=>by rw[<-he];exact List.mem_singleton.2 rfl,λ_=>Int.le_refl _⟩,rfl⟩
 refine rn (jI @cG @ia @Ho @he) ?_;refine(af6 H l c).mono λv K ⟨⟨x,hv,hx⟩,hk⟩=> ?_;subst hv hk;repeat' (first | (simp (disch:=first | omega | (decide +kernel)) only[↓RD,RU,↓cm,↓cV,pop,ct,ji,eV,↓reduceIte]) | ((with_reducible first|apply bL|apply bM|apply bN)<;>intro _))
 all_goals exact⟨⟨x,rfl,hx⟩,rfl⟩
theorem af'(H:CH)(l:List UInt8)(c:UInt8):bw (bj Tryz.prog LG GG) 94 [.string (str l), .string (str [c])] H λv K=>Qa H K l c v:=by
 refine ij Rl Kr (bq ?_);refine dh ?_;refine(af9 H l c).mono λv K ⟨⟨x,hv,hx⟩,hk⟩=> ?_;subst hv hk;refine dh ?_;all_goals exact⟨⟨x,rfl,hx⟩,rfl⟩
theorem aga(H:CH)(l:List UInt8)(c:UInt8):bw (bj Tryz.prog LG GG) 78 [.string (str l), .string (str [c])] H λv K=>v= .bool (decide (c∈l))/\K=H:=by
 refine ij Rl Kr (bq ?_);refine dh ?_;refine(af' H l c).mono λv K ⟨⟨x,hv,hx⟩,hk⟩=> ?_;subst hv hk;refine dh ?_;all_goals exact congrArg Value.bool (decide_eq_decide.2 hx)
theorem agb{H:CH}{l:List UInt8}{c:UInt8}{Q:ae->CH->Prop}:bw (bj Tryz.prog LG GG) 78 [.string (str l), .string (str [c])] H Q↔Q (.bool (decide (c∈l))) H:=uI (aga H l c)
theorem agc{z:ae}:mF [z] 13= [z,z,z,z,z,z,z,z,z,z,z,z,z]:=by simp[mF,my,List.range.loop,Nat.mod_one]
def B1:List UInt8:= [40,91,123]
def B2:List UInt8:= [41,93,125]
theorem Hu{H:CH}{c:UInt8}{Q:ae->CH->Prop}:bw (bj Tryz.prog LG GG) 78 [.string ⟨⟨[al 43,al 45,al 42,al 47,al 37,al 61,al 60,al 62,al 40,al 41,al 91,al 93,al 123,al 125,al 44,al 58,al 46]⟩⟩, .string ⟨[c].toArray⟩] H Q↔Q (.bool (decide (c∈S1))) H:=agb
theorem Hv{H:CH}{c:UInt8}{Q:ae->CH->Prop}:bw (bj Tryz.prog LG GG) 79 [.string ⟨⟨[al 40,al 91,al 123]⟩⟩, .int .u8 c.toNat] H Q↔Q (.int .i64 (firstIdx (str B1) c)) H:=X5
theorem Hw{H:CH}{c:UInt8}{Q:ae->CH->Prop}:bw (bj Tryz.prog LG GG) 79 [.string ⟨⟨[al 41,al 93,al 125]⟩⟩, .int .u8 c.toNat] H Q↔Q (.int .i64 (firstIdx (str B2) c)) H:=X5
def SY:List (List UInt8):=S3++S2
def Qb(A K:CH)(p:Nat)(src:List UInt8)(s:RS)(vo:ae)(m:Nat)(r:Option Nat):Prop:=match r with
 | some n=>∃b,bH A K p src (jA { ax s n with dep:=jd s.dep 9 ((src.drop s.pos).take n) } 9 s.line ((src.drop s.pos).take n)) vo b m
 | none=>P7 A K p src s vo m
theorem X6{x:List UInt8}(h:x∈SY):(x∈S3/\x.length=3)\/(x∈S2/\x.length=2):=by
 have h3 : ∀x∈S3,x.length=3:=by decide
 have h2 : ∀x∈S2,x.length=2:=by decide
 rcases List.mem_append.1 h with g | g
 ·exact .inl ⟨g,h3 x g⟩
 exact .inr ⟨g,h2 x g⟩
theorem agd{i:Nat}(h:i<SY.length)(h2:SY[i].length=2):2<=i:=by
 rcases pE i 2 with g | g
 ·have:i=0\/i=1:=by omega
  rcases this with rfl | rfl
  ·exact absurd (show(3:Nat)=2 from h2) de
  exact absurd (show(3:Nat)=2 from h2) de
 exact g
theorem age{i:Nat}(h:2<=i){y:List UInt8}(hy:y∈S3):y∈SY.take i:=by
 have:SY.take i=S3++S2.take (i-2):=by
  unfold SY;rw[List.take_append,qq (show S3.length<=i from h)];rfl
 rw[this];exact vY _ hy
theorem agf{l:List UInt8}{i:Nat}(h:i<SY.length)(b:l.take SY[i].length=SY[i])(hb : ∀x∈SY.take i,l.take x.length≠x):lH l=some SY[i].length:=by
 unfold lH;rcases X6 (Jw h) with ⟨g,c⟩ | ⟨g,c⟩
 ·rw[c] at b⊢;rw[iP (by rw[b];exact g)]
 have hi:=agd h c;rw[c] at b⊢;rw[iN,iP (by rw[b];exact g)];intro hc;have hl:(l.take 3).length=3:=by
  have h3 : ∀x∈S3,x.length=3:=by decide
  exact h3 _ hc
 exact hb _ (age hi hc) (by rw[hl])
theorem agh{l:List UInt8}(hb : ∀x∈SY,l.take x.length≠x):lH l=if hd l∈S1.map UInt8.toNat then some 1 else none:=by
 have h3 : ∀x∈S3,x.length=3:=by decide
 have h2 : ∀x∈S2,x.length=2:=by decide
 unfold lH;rw[iN,iN];·intro hc;exact hb _ (List.mem_append_right _ hc) (by rw[h2 _ hc])
 intro hc;exact hb _ (vY _ hc) (by rw[h3 _ hc])
theorem agi{A K:CH}{p:Nat}{src:List UInt8}{s:RS}{vo vt:ae}{m:Nat}(h:bH A K p src s vo vt m)(hp:s.pos<src.length)(h0:s.err=0)(hb:s.out.length+s.cP.length<1000000)(mg:s.dep<100000) :
 bw (bj Tryz.prog LG GG) 60 [.pointer (some ⟨p,0,none⟩)] K λv K'=>Qb A K' p src s vo m (lH (src.drop s.pos)):=by
 have kK:=h.sl;have ap:=h.ob;have eL:=h.pl;have dm:=h.bd.line;obtain⟨l,hl⟩ : ∃l,src.drop s.pos=l:=⟨_,rfl⟩;have Gr:l.length=src.length-s.pos:=by rw[<-hl];simp
 have yF:l.take (src.length-s.pos)=l:=qq Om;have J3:0<l.length:=by omega
 unfold Qb;rw[hl];refine ij Rl Kr (bq ?_);refine rn @agc ?_;refine sM (λn fr E=>∃i,n=13-i/\i<=13/\fr 7= .int .i64 (i:Nat)/\(∀x∈SY.take i,l.take x.length≠x)/\E.ob K.nx= .cells (SY.map λx=> .string (str x)) 9 .ex/\K.nx<E.nx/\bH A E p src s vo vt m) (n:=13) ⟨0,rfl,Om,by(refine dh ?_;try rfl),λx hx=>(by simp at hx),?_,nX _,h.mv (by(repeat (first | assumption | exact aI.refl _ | (refine aI.set ?_ Fo _) | (refine aI.new ?_ _))))⟩ ?_;·rw[fZ,iP rfl];rfl
 rintro n fr E ⟨i,rfl,aps,f7,V,Ld,W,h1⟩ b;have C:=h1.ob;have z0:=h1.pl;by_cases hi:i<13
 ·have j:i<SY.length:=hi;obtain⟨x,hx⟩ : ∃x,SY[i]=x:=⟨_,rfl⟩;have eo:(SY.map λx=>(.string (str x):ae))[i]? = some (.string (str x)):=by rw[kF,dx j,hx];rfl
  have zB:=X6 (Jw j);rw[hx] at zB;have apt:2<=x.length/\x.length<=3:=by rcases zB with ⟨_,g⟩ | ⟨_,g⟩<;>omega
  by_cases G:l.take x.length=x
  ·have M:lH l=some x.length:=by rw[<-hx];exact agf j (by rw[hx];exact G) V
   have X:decide (l.take x.length=x)=true:=decide_eq_true G;have apu:x.length<=l.length:=by
    have:=congrArg List.length G;simp at this;omega
   rw[M];refine rn (adh @b @f7 @Ld @eo @C @cG @gA @hl @yF @X2 @X) ?_;refine(dG h1 9 s.line x hb).mono λv2 K2 ⟨pd,h2⟩=> ?_;have fe:=h2.ob;have zY:=h2.pl;have Y:(jA s 9 s.line x).pos=s.pos:=rfl;have o:jd s.dep 9 x=s.dep:=by
    have n1:x ∉ [[40],[91],[123]]:=λhc=>by
     have : ∀y∈ [[(40:UInt8)],[91],[123]],y.length=1:=by decide
     have:=this x hc;omega
    have n2:x ∉ [[41],[93],[125]]:=λhc=>by
     have : ∀y∈ [[(41:UInt8)],[93],[125]],y.length=1:=by decide
     have:=this x hc;omega
    unfold jd;rw[iN (λg=>n1 g.2),iN (λg=>n2 g.2.1)]
   have h3:=h2.set (s':= { jA s 9 s.line x with pos:=s.pos+x.length }) rfl rfl ⟨by show s.pos+x.length<=_;omega,h2.bd.line,h2.bd.dep,h2.bd.err,h2.bd.wh,h2.bd.out⟩;refine rn (zu @b @fe @Y @cG @toN) ?_;all_goals exact⟨pd,by rw[G,o];exact h3⟩
  have X:decide (l.take x.length=x)=false:=decide_eq_false G;refine rn (xF @b @f7 @Ld @eo @C @cG @gA @hl @yF @X2 @X @n1) ?_;all_goals
   refine⟨_,Om,i+1,rfl,Om,rfl,λy hy=> ?_,W,h1⟩;rw[List.take_add_one,dx j,hx] at hy;rcases List.mem_append.1 hy with hy | hy
   ·exact V y hy
   have:y=x:=by simpa using hy
   rw[this];exact G
 have we:i=13:=by omega
 subst we;obtain⟨c,hc⟩ : ∃c,src[s.pos]=c:=⟨_,rfl⟩;have J:src[s.pos]? = some c:=by rw[KX hp,hc]
 have pg:hd l=c.toNat:=by rw[<-hl,mB hp,hc]
 have N:l.take 1= [c]:=by
  rw[<-hl,List.drop_eq_getElem_cons hp,hc];rfl
 have M:=agh (l:=l) λx hx=>V x (by rw[qq (show SY.length<=13 from ag _)];exact hx);have X7:hd l∈S1.map UInt8.toNat↔c∈S1:=by
  rw[pg];exact⟨λh=>by obtain⟨y,hy,e⟩:=List.mem_map.1 h;rwa [<-UInt8.toNat.inj e],λh=>List.mem_map.2 ⟨c,h,rfl⟩⟩
 by_cases O:c∈S1
 ·have I:decide (c∈S1)=true:=decide_eq_true O;rw[M,iP (X7.2 O)];by_cases L:c∈B1
  ·have uF:decide (0<=firstIdx (str B1) c)=true:=decide_eq_true (Ht.2 L);have o:jd s.dep 9 [c]=s.dep+1:=by
    unfold jd;rw[iP ⟨rfl,by simp only[B1,jw,List.not_mem_nil,or_false] at L⊢;rcases L with rfl | rfl | rfl<;>simp⟩]
   have h4:=(h1.mv (K':=E.new (.cells [.int .u8 (c.toNat:Int)] 5 .ex)) (by(repeat (first | assumption | exact aI.refl _ | (refine aI.set ?_ Fo _) | (refine aI.new ?_ _))))).set (s':= { s with dep:=s.dep+1 }) rfl rfl ⟨h.bd.pos,h.bd.line,by show s.dep+1<=_;omega,h.bd.err,h.bd.wh,h.bd.out⟩;refine rn (NZ @b @f7 @C @cG @ia @J @Hn @Hu @Hv @Hw @Er @I @uF @n1) ?_;all_goals
    refine(dG (h4.mv (by(repeat (first | assumption | exact aI.refl _ | (refine aI.set ?_ Fo _) | (refine aI.new ?_ _))))) 9 s.line [c] hb).mono λQ R ⟨t,h5⟩=> ?_;have u:=h5.ob;have S:=h5.pl;have z:(jA { s with dep:=s.dep+1 } 9 s.line [c]).pos=s.pos:=rfl;refine rn (jI @b @u @z @n1) ?_;all_goals exact⟨t,by rw[N,o];exact h5.set (s':=jA { ax s 1 with dep:=s.dep+1 } 9 s.line [c]) rfl rfl ⟨by show s.pos+1<=_;omega,h5.bd.line,h5.bd.dep,h5.bd.err,h5.bd.wh,h5.bd.out⟩⟩
  have uF:decide (0<=firstIdx (str B1) c)=false:=decide_eq_false λg=>L (Ht.1 g);have Z : [c] ∉ [[(40:UInt8)],[91],[123]]:=λg=>L (by simpa[B1] using g);by_cases U:c∈B2
  ·have j:decide (0<=firstIdx (str B2) c)=true:=decide_eq_true (Ht.2 U);have Qe : [c]∈ [[(41:UInt8)],[93],[125]]:=by simpa[B2] using U
   by_cases ez:0<s.dep
   ·have o:jd s.dep 9 [c]=s.dep-1:=by
     unfold jd;rw[iN (λg=>Z g.2),iP ⟨rfl,Qe,ez⟩]
    have h4:=(h1.mv (K':=E.new (.cells [.int .u8 (c.toNat:Int)] 5 .ex)) (by(repeat (first | assumption | exact aI.refl _ | (refine aI.set ?_ Fo _) | (refine aI.new ?_ _))))).set (s':= { s with dep:=s.dep-1 }) rfl rfl ⟨h.bd.pos,h.bd.line,by show s.dep-1<=_;omega,h.bd.err,h.bd.wh,h.bd.out⟩;have wB:((s.dep:Nat):Int)-1=((s.dep-1:Nat):Int):=by omega
    refine rn (N0 @b @f7 @C @cG @ia @J @Hn @Hu @Hv @Hw @Er @I @uF @j @wB) ?_;all_goals
     refine(dG (h4.mv (by(repeat (first | assumption | exact aI.refl _ | (refine aI.set ?_ Fo _) | (refine aI.new ?_ _))))) 9 s.line [c] hb).mono λQ R ⟨t,h5⟩=> ?_;have u:=h5.ob;have S:=h5.pl;have z:(jA { s with dep:=s.dep-1 } 9 s.line [c]).pos=s.pos:=rfl;refine rn (jI @b @u @z @n1) ?_;all_goals exact⟨t,by rw[N,o];exact h5.set (s':=jA { ax s 1 with dep:=s.dep-1 } 9 s.line [c]) rfl rfl ⟨by show s.pos+1<=_;omega,h5.bd.line,h5.bd.dep,h5.bd.err,h5.bd.wh,h5.bd.out⟩⟩
   have o:jd s.dep 9 [c]=s.dep:=by
    unfold jd;rw[iN (λg=>Z g.2),iN (λg=>ez g.2.2)]
   refine rn (NZ @b @f7 @C @cG @ia @J @Hn @Hu @Hv @Hw @Er @I @uF @j) ?_;all_goals
    refine(dG (h1.mv (by(repeat (first | assumption | exact aI.refl _ | (refine aI.set ?_ Fo _) | (refine aI.new ?_ _))))) 9 s.line [c] hb).mono λQ R ⟨t,h5⟩=> ?_;have u:=h5.ob;have S:=h5.pl;have z:(jA s 9 s.line [c]).pos=s.pos:=rfl;refine rn (jI @b @u @z @n1) ?_;all_goals exact⟨t,by rw[N,o];exact h5.set (s':=jA { ax s 1 with dep:=s.dep } 9 s.line [c]) rfl rfl ⟨by show s.pos+1<=_;omega,h5.bd.line,h5.bd.dep,h5.bd.err,h5.bd.wh,h5.bd.out⟩⟩
  have j:decide (0<=firstIdx (str B2) c)=false:=decide_eq_false λg=>U (Ht.1 g);have Qe : [c] ∉ [[(41:UInt8)],[93],[125]]:=λg=>U (by simpa[B2] using g);have o:jd s.dep 9 [c]=s.dep:=by
   unfold jd;rw[iN (λg=>Z g.2),iN (λg=>Qe g.2.1)]
  refine rn (NZ @b @f7 @C @cG @ia @J @Hn @Hu @Hv @Hw @Er @I @uF @j) ?_;all_goals
   refine(dG (h1.mv (by(repeat (first | assumption | exact aI.refl _ | (refine aI.set ?_ Fo _) | (refine aI.new ?_ _))))) 9 s.line [c] hb).mono λQ R ⟨t,h5⟩=> ?_;have u:=h5.ob;have S:=h5.pl;have z:(jA s 9 s.line [c]).pos=s.pos:=rfl;refine rn (jI @b @u @z @n1) ?_;all_goals exact⟨t,by rw[N,o];exact h5.set (s':=jA { ax s 1 with dep:=s.dep } 9 s.line [c]) rfl rfl ⟨by show s.pos+1<=_;omega,h5.bd.line,h5.bd.dep,h5.bd.err,h5.bd.wh,h5.bd.out⟩⟩
 have I:decide (c∈S1)=false:=decide_eq_false O;rw[M,iN (λg=>O (X7.1 g))];refine rn (xF @b @f7 @C @cG @ia @J @Hn @Hu @Hv @Hw @Er @I) ?_;refine(La (h1.mv (by(repeat (first | assumption | exact aI.refl _ | (refine aI.set ?_ Fo _) | (refine aI.new ?_ _))))) s.line 20 dm de h0).mono λv4 K4 ⟨h4,_⟩=> ?_;have dO:=h4.ob;have kq:=h4.pl;refine rn (mY @b @dO @Er) ?_;all_goals
  refine(dG (h4.mv (by(repeat (first | assumption | exact aI.refl _ | (refine aI.set ?_ Fo _) | (refine aI.new ?_ _))))) 9 s.line [c] hb).mono λQ R ⟨t,h5⟩=> ?_;have u:=h5.ob;have S:=h5.pl;have z:(jA { s with err:=20,wh:=s.line } 9 s.line [c]).pos=s.pos:=rfl;refine rn (jI @b @u @z @n1) ?_;all_goals exact⟨t,_,h5.set (s':=jA { ax s 1 with err:=20,wh:=s.line } 9 s.line [c]) rfl rfl ⟨by show s.pos+1<=_;omega,h5.bd.line,h5.bd.dep,h5.bd.err,h5.bd.wh,h5.bd.out⟩,rfl,rfl,rfl,rfl,by simp[jA,ax],nX _,by show s.pos+1<=_;omega,rfl⟩
end
section
open Go Go.RowKit
set_option maxHeartbeats 2000000
def gL (s:RS)(l:List UInt8):RS:=jA (if bZ l=true then dv (ax s (a8 l)) s.line 20 else ax s (a8 l)) (dy l) s.line (l.take (a8 l))
theorem yI{l:List UInt8}{j:Nat}(h:bA (hd (l.drop j))=true):j<l.length:=by
 rcases pE j l.length with g | g
 ·exact g
 rw[AX g] at h;cases h
theorem Es:fK 101=true:=by decide
theorem X8:fK 46=false:=by decide
theorem uR{l:List UInt8}:cp l<=l.length:=tA
theorem eA{s:RS}{a b:Nat}:(dv s a b).out=s.out/\(dv s a b).cP=s.cP:=by unfold dv;split<;>exact⟨rfl,rfl⟩
theorem agk{A K:CH}{p:Nat}{src:List UInt8}{s:RS}{vo vt:ae}{m:Nat}(h:bH A K p src s vo vt m)(hp:s.pos<src.length)(Hz:bA (hd (src.drop s.pos))=true)(hb:s.out.length+s.cP.length<1000000) :
 bw (bj Tryz.prog LG GG) 58 [.pointer (some ⟨p,0,none⟩)] K λv K'=>∃gV,bH A K' p src (gL s (src.drop s.pos)) vo gV m:=by
 have kK:=h.sl;have ap:=h.ob;have eL:=h.pl;have dm:=h.bd.line;obtain⟨l,hl⟩ : ∃l,src.drop s.pos=l:=⟨_,rfl⟩;have Gr:l.length=src.length-s.pos:=by rw[<-hl];simp
 have R : ∀j,src.drop (s.pos+j)=l.drop j:=λj=>by rw[<-hl,gE]
 have mg : ∀j:Nat,(cp (l.drop j):Nat)<=l.length-j:=λj=>by have:=uR (l:=l.drop j);simpa using this
 rw[hl] at Hz⊢
 have ha0:0<cp l:=by
  have:=v8 (p:=bA) (l:=l) (j:=0) Om (by simpa using Hz);simp only[List.drop_zero] at this;unfold cp;omega
 refine ij Rl Kr (bq ?_);refine rn @ap ?_;refine(zX h Om).mono λv1 K1 h1=> ?_;rw[hl] at h1;obtain⟨a,ha⟩ : ∃a,cp l=a:=⟨_,rfl⟩;have pT:=uR (l:=l);rw[ha] at h1 pT ha0;have gz:=h1.ob;have z0:=h1.pl;have Lh:(ax s a).pos=s.pos+a:=rfl;have p0:= @lQ _ _ _ _ _ _ _ _ h1;have p1:= @PY _ _ _ _ _ _ _ _ h1;have p2:= @XO _ _ _ _ _ _ _ _ h1;simp only[Lh,jW,R] at p0 p1 p2;by_cases hf:hd (l.drop a)=46/\bA (hd (l.drop (a+1)))=true
 ·obtain⟨nI,pU⟩:=hf;have apv:a<l.length:=by
   have:=nY (l:=l.drop a) Om;simp at this;omega
  have hA:hC l=a+1+cp (l.drop (a+1)):=by
   unfold hC iJ;rw[ha,gE,iP ⟨nI,pU⟩];omega
  have hF:iJ (l.drop (cp l))≠0:=by
   unfold iJ;rw[ha,gE,iP ⟨nI,pU⟩];omega
  refine rn (zv @p0 @p1 @nI @jO @pU @gz @Lh @n1) ?_;refine(zX (s:=ax s (a+1)) (h1.set (s':=ax s (a+1)) rfl rfl (sN h.bd Om)) (by show s.pos+(a+1)<=_;omega)).mono λv2 K2 h2=> ?_;have hq:(ax s (a+1)).pos=s.pos+(a+1):=rfl;rw[hq,R] at h2;have h2:bH A K2 p src (ax s (hC l)) vo vt m:=by
   have e:ax (ax s (a+1)) (cp (l.drop (a+1)))=ax s (hC l):=by rw[hA];simp only[ax];congr 1;omega
   rw[<-e];exact h2
  obtain⟨b,M⟩ : ∃b,hC l=b:=⟨_,rfl⟩;have kf:b<=l.length:=by have:=mg (a+1);rw[<-M,hA];omega
  rw[M] at h2;have fe:=h2.ob;have zY:=h2.pl;have gK:(ax s b).pos=s.pos+b:=rfl;have q0:= @lQ _ _ _ _ _ _ _ _ h2;have q1:= @PY _ _ _ _ _ _ _ _ h2;have q2:= @XO _ _ _ _ _ _ _ _ h2;simp only[gK,jW,R] at q0 q1 q2;by_cases G:hd (l.drop b)=101
  ·by_cases X:bA (hd (l.drop (b+1)))=true
   ·have I:eR (l.drop b)=2+cp (l.drop (b+2)):=by
     have bn:b+1<l.length:=by
      rcases pE (b+1) l.length with g | g
      ·exact g
      rw[AX g] at X;cases X
     unfold eR;rw[iP G,gE,iP X];have:=v8 (p:=bA) bn X;unfold cp;rw[this];show 1+(nW bA (l.drop (b+2))+1)=_;omega
    refine rn (A3 @q0 @q1 @q2 @G @jO @X @fe @gK @n2) ?_;refine(zX (s:=ax s (b+2)) (h2.set (s':=ax s (b+2)) rfl rfl (sN h.bd Om)) (by show s.pos+(b+2)<=_;omega)).mono λv3 K3 h3=> ?_;have qD:(ax s (b+2)).pos=s.pos+(b+2):=rfl;rw[qD,R] at h3;have x:a8 l=b+(2+cp (l.drop (b+2))):=by unfold a8;rw[M,I]
    have HA:a8 l<=l.length+2:=by have:=mg (b+2);omega
    have h3:bH A K3 p src (ax s (a8 l)) vo vt m:=by
     have e:ax (ax s (b+2)) (cp (l.drop (b+2)))=ax s (a8 l):=by rw[x];simp only[ax];congr 1;omega
     rw[<-e];exact h3
    have o:dy l=6:=by unfold dy;rw[iN];rintro⟨_,g⟩;rw[M,I] at g;omega
    have N:a8 l<=l.length:=by rw[x];have:=mg (b+2);have:=yI X;omega
    obtain⟨n,hn⟩ : ∃n,a8 l=n:=⟨_,rfl⟩;rw[hn] at h3 N;have E:=h3.ob;have Z:=h3.pl;have y:(ax s n).pos=s.pos+n:=rfl;have z:= @lQ _ _ _ _ _ _ _ _ h3;simp only[y,R] at z;have c:(l.take n).length=n:=by simp;omega
    have O:0<n:=by omega
    have Q:(l.take n)[0]? = some l[0]:=by rw[mU,iP O];exact dx _
    have og:hd l=l[0].toNat:=by have:=mB (l:=l) (j:=0) Om;simpa using this
    cases i:fK (hd (l.drop n)) with
    | true=>
      have t:bZ l=true:=by unfold bZ;rw[hn,i];rfl
      refine rn (xF @E @y @cG @ia @gA @jb @hl @z @ik @i @c @Q) ?_;all_goals
       refine(kO h3 s.line 20 Om de).mono λS U h4=> ?_;have C:=h4.ob;have V:=h4.pl;have D:(dv (ax s n) s.line 20).line=s.line:=by unfold dv;split<;>rfl
       refine rn (an @C @D) ?_;refine(dG h4 6 s.line (l.take n) (by rw[eA.1,eA.2];exact hb)).mono λJ L ⟨u,h5⟩=> ?_;repeat' (first | (simp (disch:=first | omega | (decide +kernel)) only[↓RD,RU,ct]) | ((with_reducible first|apply bL|apply bM|apply bN)<;>intro _))
       all_goals exact⟨u,by unfold gL;rw[iP t,hn,o];exact h5⟩
    | false=>
      repeat' (first | (simp (disch:=first | omega | (decide +kernel)) only[↓RD,RU,↓cm,↓cV,↓du,dk,pop,bg,ρ0,ρ1,↓reduceIte,Nat.reduceEqDiff,reduceCtorEq,ρ5,ρ6,eJ,ρ28,ρ29,E,y,cG,gA,jb,hl,z,ik,i,c]) | ((with_reducible first|apply bL|apply bM|apply bN)<;>intro _))
      all_goals first
       | (have t:bZ l=true:=by
           unfold bZ;rw[hn,o,i];simp;omega
          refine(kO h3 s.line 20 Om de).mono λS U h4=> ?_;have C:=h4.ob;have V:=h4.pl;have D:(dv (ax s n) s.line 20).line=s.line:=by unfold dv;split<;>rfl
          repeat' (first | (simp (disch:=first | omega | (decide +kernel)) only[↓RD,RU,↓cm,↓cV,dk,pop,bg,ρ0,ρ1,↓reduceIte,Nat.reduceEqDiff,reduceCtorEq,ρ5,ρ6,C,D]) | ((with_reducible first|apply bL|apply bM|apply bN)<;>intro _))
          refine(dG h4 6 s.line (l.take n) (by rw[eA.1,eA.2];exact hb)).mono λJ L ⟨u,h5⟩=> ?_;repeat' (first | (simp (disch:=first | omega | (decide +kernel)) only[↓RD,RU,ct]) | ((with_reducible first|apply bL|apply bM|apply bN)<;>intro _))
          all_goals exact⟨u,by unfold gL;rw[iP t,hn,o];exact h5⟩)
       | (have t:bZ l=false:=by
           unfold bZ;rw[hn,o,i];simp;omega
          refine(dG h3 6 s.line (l.take n) hb).mono λJ L ⟨u,h5⟩=> ?_;refine dh ?_;all_goals exact⟨u,by unfold gL;rw[iN (by simp[t]),hn,o];exact h5⟩)
   have Y:bA (hd (l.drop (b+1)))=false:=by simpa using X
   by_cases oq:(hd (l.drop (b+1))=43\/hd (l.drop (b+1))=45)/\bA (hd (l.drop (b+2)))=true
   ·obtain⟨iB,W⟩:=oq;have I:eR (l.drop b)=2+cp (l.drop (b+2)):=by
     unfold eR;rw[iP G,gE,gE,iN (by rw[Y];simp),iP ⟨iB,W⟩]
    rcases iB with iB | iB
    ·repeat' (first | (simp (disch:=first | omega | (decide +kernel)) only[↓RD,RU,↓cm,↓kj,↓cV,↓du,dk,pop,bg,cy,isVal,ci,iI,ρ0,ρ1,↓reduceIte,Nat.reduceEqDiff,Nat.reduceAdd,reduceCtorEq,ρ5,ρ6,ρ7,ρ8,ρ17,ρ18,ρ19,ρ20,ρ22,ρ23,Kd.eM,ρ25,ρ26,Nat.reduceLeDiff,q0,q1,q2,G,jO,iB,(by simpa[iB] using Y:bA 43=false),W,fe,gK,n2]) | ((with_reducible first|apply bL|apply bM|apply bN)<;>intro _))
     refine(zX (s:=ax s (b+2)) (h2.set (s':=ax s (b+2)) rfl rfl (sN h.bd Om)) (by show s.pos+(b+2)<=_;omega)).mono λv3 K3 h3=> ?_;have qD:(ax s (b+2)).pos=s.pos+(b+2):=rfl;rw[qD,R] at h3;have x:a8 l=b+(2+cp (l.drop (b+2))):=by unfold a8;rw[M,I]
     have HA:a8 l<=l.length+2:=by have:=mg (b+2);omega
     have h3:bH A K3 p src (ax s (a8 l)) vo vt m:=by
      have e:ax (ax s (b+2)) (cp (l.drop (b+2)))=ax s (a8 l):=by rw[x];simp only[ax];congr 1;omega
      rw[<-e];exact h3
     have o:dy l=6:=by unfold dy;rw[iN];rintro⟨_,g⟩;rw[M,I] at g;omega
     have N:a8 l<=l.length:=by rw[x];have:=mg (b+2);have:=yI W;omega
     obtain⟨n,hn⟩ : ∃n,a8 l=n:=⟨_,rfl⟩;rw[hn] at h3 N;have E:=h3.ob;have Z:=h3.pl;have y:(ax s n).pos=s.pos+n:=rfl;have z:= @lQ _ _ _ _ _ _ _ _ h3;simp only[y,R] at z;have c:(l.take n).length=n:=by simp;omega
     have O:0<n:=by omega
     have Q:(l.take n)[0]? = some l[0]:=by rw[mU,iP O];exact dx _
     have og:hd l=l[0].toNat:=by have:=mB (l:=l) (j:=0) Om;simpa using this
     cases i:fK (hd (l.drop n)) with
     | true=>
       have t:bZ l=true:=by unfold bZ;rw[hn,i];rfl
       refine rn (xF @E @y @cG @ia @gA @jb @hl @z @ik @i @c @Q) ?_;all_goals
        refine(kO h3 s.line 20 Om de).mono λS U h4=> ?_;have C:=h4.ob;have V:=h4.pl;have D:(dv (ax s n) s.line 20).line=s.line:=by unfold dv;split<;>rfl
        refine rn (an @C @D) ?_;refine(dG h4 6 s.line (l.take n) (by rw[eA.1,eA.2];exact hb)).mono λJ L ⟨u,h5⟩=> ?_;repeat' (first | (simp (disch:=first | omega | (decide +kernel)) only[↓RD,RU,ct]) | ((with_reducible first|apply bL|apply bM|apply bN)<;>intro _))
        all_goals exact⟨u,by unfold gL;rw[iP t,hn,o];exact h5⟩
     | false=>
       repeat' (first | (simp (disch:=first | omega | (decide +kernel)) only[↓RD,RU,↓cm,↓cV,↓du,dk,pop,bg,ρ0,ρ1,↓reduceIte,Nat.reduceEqDiff,reduceCtorEq,ρ5,ρ6,eJ,ρ28,ρ29,E,y,cG,gA,jb,hl,z,ik,i,c]) | ((with_reducible first|apply bL|apply bM|apply bN)<;>intro _))
       all_goals first
        | (have t:bZ l=true:=by
            unfold bZ;rw[hn,o,i];simp;omega
           refine(kO h3 s.line 20 Om de).mono λS U h4=> ?_;have C:=h4.ob;have V:=h4.pl;have D:(dv (ax s n) s.line 20).line=s.line:=by unfold dv;split<;>rfl
           repeat' (first | (simp (disch:=first | omega | (decide +kernel)) only[↓RD,RU,↓cm,↓cV,dk,pop,bg,ρ0,ρ1,↓reduceIte,Nat.reduceEqDiff,reduceCtorEq,ρ5,ρ6,C,D]) | ((with_reducible first|apply bL|apply bM|apply bN)<;>intro _))
           refine(dG h4 6 s.line (l.take n) (by rw[eA.1,eA.2];exact hb)).mono λJ L ⟨u,h5⟩=> ?_;repeat' (first | (simp (disch:=first | omega | (decide +kernel)) only[↓RD,RU,ct]) | ((with_reducible first|apply bL|apply bM|apply bN)<;>intro _))
           all_goals exact⟨u,by unfold gL;rw[iP t,hn,o];exact h5⟩)
        | (have t:bZ l=false:=by
            unfold bZ;rw[hn,o,i];simp;omega
           refine(dG h3 6 s.line (l.take n) hb).mono λJ L ⟨u,h5⟩=> ?_;refine dh ?_;all_goals exact⟨u,by unfold gL;rw[iN (by simp[t]),hn,o];exact h5⟩)
    repeat' (first | (simp (disch:=first | omega | (decide +kernel)) only[↓RD,RU,↓cm,↓kj,↓cV,↓du,dk,pop,bg,cy,isVal,ci,iI,ρ0,ρ1,↓reduceIte,Nat.reduceEqDiff,Nat.reduceAdd,reduceCtorEq,ρ5,ρ6,ρ7,ρ8,ρ17,ρ18,ρ19,ρ20,ρ22,ρ23,Kd.eM,ρ25,ρ26,Nat.reduceLeDiff,q0,q1,q2,G,jO,iB,(by simpa[iB] using Y:bA 45=false),W,fe,gK,n2]) | ((with_reducible first|apply bL|apply bM|apply bN)<;>intro _))
    refine(zX (s:=ax s (b+2)) (h2.set (s':=ax s (b+2)) rfl rfl (sN h.bd Om)) (by show s.pos+(b+2)<=_;omega)).mono λv3 K3 h3=> ?_;have qD:(ax s (b+2)).pos=s.pos+(b+2):=rfl;rw[qD,R] at h3;have x:a8 l=b+(2+cp (l.drop (b+2))):=by unfold a8;rw[M,I]
    have HA:a8 l<=l.length+2:=by have:=mg (b+2);omega
    have h3:bH A K3 p src (ax s (a8 l)) vo vt m:=by
     have e:ax (ax s (b+2)) (cp (l.drop (b+2)))=ax s (a8 l):=by rw[x];simp only[ax];congr 1;omega
     rw[<-e];exact h3
    have o:dy l=6:=by unfold dy;rw[iN];rintro⟨_,g⟩;rw[M,I] at g;omega
    have N:a8 l<=l.length:=by rw[x];have:=mg (b+2);have:=yI W;omega
    obtain⟨n,hn⟩ : ∃n,a8 l=n:=⟨_,rfl⟩;rw[hn] at h3 N;have E:=h3.ob;have Z:=h3.pl;have y:(ax s n).pos=s.pos+n:=rfl;have z:= @lQ _ _ _ _ _ _ _ _ h3;simp only[y,R] at z;have c:(l.take n).length=n:=by simp;omega
    have O:0<n:=by omega
    have Q:(l.take n)[0]? = some l[0]:=by rw[mU,iP O];exact dx _
    have og:hd l=l[0].toNat:=by have:=mB (l:=l) (j:=0) Om;simpa using this
    cases i:fK (hd (l.drop n)) with
    | true=>
      have t:bZ l=true:=by unfold bZ;rw[hn,i];rfl
      refine rn (xF @E @y @cG @ia @gA @jb @hl @z @ik @i @c @Q) ?_;all_goals
       refine(kO h3 s.line 20 Om de).mono λS U h4=> ?_;have C:=h4.ob;have V:=h4.pl;have D:(dv (ax s n) s.line 20).line=s.line:=by unfold dv;split<;>rfl
       refine rn (an @C @D) ?_;refine(dG h4 6 s.line (l.take n) (by rw[eA.1,eA.2];exact hb)).mono λJ L ⟨u,h5⟩=> ?_;repeat' (first | (simp (disch:=first | omega | (decide +kernel)) only[↓RD,RU,ct]) | ((with_reducible first|apply bL|apply bM|apply bN)<;>intro _))
       all_goals exact⟨u,by unfold gL;rw[iP t,hn,o];exact h5⟩
    | false=>
      repeat' (first | (simp (disch:=first | omega | (decide +kernel)) only[↓RD,RU,↓cm,↓cV,↓du,dk,pop,bg,ρ0,ρ1,↓reduceIte,Nat.reduceEqDiff,reduceCtorEq,ρ5,ρ6,eJ,ρ28,ρ29,E,y,cG,gA,jb,hl,z,ik,i,c]) | ((with_reducible first|apply bL|apply bM|apply bN)<;>intro _))
      all_goals first
       | (have t:bZ l=true:=by
           unfold bZ;rw[hn,o,i];simp;omega
          refine(kO h3 s.line 20 Om de).mono λS U h4=> ?_;have C:=h4.ob;have V:=h4.pl;have D:(dv (ax s n) s.line 20).line=s.line:=by unfold dv;split<;>rfl
          repeat' (first | (simp (disch:=first | omega | (decide +kernel)) only[↓RD,RU,↓cm,↓cV,dk,pop,bg,ρ0,ρ1,↓reduceIte,Nat.reduceEqDiff,reduceCtorEq,ρ5,ρ6,C,D]) | ((with_reducible first|apply bL|apply bM|apply bN)<;>intro _))
          refine(dG h4 6 s.line (l.take n) (by rw[eA.1,eA.2];exact hb)).mono λJ L ⟨u,h5⟩=> ?_;repeat' (first | (simp (disch:=first | omega | (decide +kernel)) only[↓RD,RU,ct]) | ((with_reducible first|apply bL|apply bM|apply bN)<;>intro _))
          all_goals exact⟨u,by unfold gL;rw[iP t,hn,o];exact h5⟩)
       | (have t:bZ l=false:=by
           unfold bZ;rw[hn,o,i];simp;omega
          refine(dG h3 6 s.line (l.take n) hb).mono λJ L ⟨u,h5⟩=> ?_;refine dh ?_;all_goals exact⟨u,by unfold gL;rw[iN (by simp[t]),hn,o];exact h5⟩)
   have I:eR (l.drop b)=0:=by
    unfold eR;rw[iP G,gE,gE,iN (by rw[Y];simp),iN oq]
   by_cases yJ:hd (l.drop (b+1))=43\/hd (l.drop (b+1))=45
   ·have W:bA (hd (l.drop (b+2)))=false:=by
     cases q:bA (hd (l.drop (b+2))) with
     | true=>exact absurd ⟨yJ,q⟩ oq
     | false=>rfl
    rcases yJ with iB | iB
    ·skip
     have x:a8 l=b:=by unfold a8;rw[M,I];rfl
     have h3:bH A K2 p src (ax s (a8 l)) vo vt m:=by rw[x];exact h2
     have o:dy l=6:=by unfold dy;rw[iN];rintro⟨g,_⟩;exact hF g
     have N:a8 l<=l.length:=by rw[x];exact kf
     have hn:=x;rw[hn] at h3 N;have E:=h3.ob;have Z:=h3.pl;have y:(ax s b).pos=s.pos+b:=rfl;have z:= @lQ _ _ _ _ _ _ _ _ h3;simp only[y,R] at z;have c:(l.take b).length=b:=by simp;omega
     have O:0<b:=by omega
     have Q:(l.take b)[0]? = some l[0]:=by rw[mU,iP O];exact dx _
     have og:hd l=l[0].toNat:=by have:=mB (l:=l) (j:=0) Om;simpa using this
     have i:fK (hd (l.drop b))=true:=by rw[G];rfl
     have t:bZ l=true:=by unfold bZ;rw[hn,i];rfl
     repeat' (first | (simp (disch:=first | omega | (decide +kernel)) only[↓RD,RU,↓cm,↓cV,↓du,dk,pop,bg,ρ0,ρ1,↓reduceIte,Nat.reduceEqDiff,reduceCtorEq,ρ5,ρ6,eJ,ρ28,ρ29,q0,q1,q2,G,jO,iB,(by simpa[iB] using Y:bA 43=false),W,Es,E,y,cG,gA,jb,hl,ik]) | ((with_reducible first|apply bL|apply bM|apply bN)<;>intro _))
     all_goals
      refine(kO h3 s.line 20 Om de).mono λS U h4=> ?_;have C:=h4.ob;have V:=h4.pl;have D:(dv (ax s b) s.line 20).line=s.line:=by unfold dv;split<;>rfl
      refine rn (an @C @D) ?_;refine(dG h4 6 s.line (l.take b) (by rw[eA.1,eA.2];exact hb)).mono λJ L ⟨u,h5⟩=> ?_;refine dh ?_;all_goals exact⟨u,by unfold gL;rw[iP t,hn,o];exact h5⟩
    skip
    have x:a8 l=b:=by unfold a8;rw[M,I];rfl
    have h3:bH A K2 p src (ax s (a8 l)) vo vt m:=by rw[x];exact h2
    have o:dy l=6:=by unfold dy;rw[iN];rintro⟨g,_⟩;exact hF g
    have N:a8 l<=l.length:=by rw[x];exact kf
    have hn:=x;rw[hn] at h3 N;have E:=h3.ob;have Z:=h3.pl;have y:(ax s b).pos=s.pos+b:=rfl;have z:= @lQ _ _ _ _ _ _ _ _ h3;simp only[y,R] at z;have c:(l.take b).length=b:=by simp;omega
    have O:0<b:=by omega
    have Q:(l.take b)[0]? = some l[0]:=by rw[mU,iP O];exact dx _
    have og:hd l=l[0].toNat:=by have:=mB (l:=l) (j:=0) Om;simpa using this
    have i:fK (hd (l.drop b))=true:=by rw[G];rfl
    have t:bZ l=true:=by unfold bZ;rw[hn,i];rfl
    repeat' (first | (simp (disch:=first | omega | (decide +kernel)) only[↓RD,RU,↓cm,↓cV,↓du,dk,pop,bg,ρ0,ρ1,↓reduceIte,Nat.reduceEqDiff,reduceCtorEq,ρ5,ρ6,eJ,ρ28,ρ29,q0,q1,q2,G,jO,iB,(by simpa[iB] using Y:bA 45=false),W,Es,E,y,cG,gA,jb,hl,ik]) | ((with_reducible first|apply bL|apply bM|apply bN)<;>intro _))
    all_goals
     refine(kO h3 s.line 20 Om de).mono λS U h4=> ?_;have C:=h4.ob;have V:=h4.pl;have D:(dv (ax s b) s.line 20).line=s.line:=by unfold dv;split<;>rfl
     refine rn (an @C @D) ?_;refine(dG h4 6 s.line (l.take b) (by rw[eA.1,eA.2];exact hb)).mono λJ L ⟨u,h5⟩=> ?_;refine dh ?_;all_goals exact⟨u,by unfold gL;rw[iP t,hn,o];exact h5⟩
   obtain⟨Qf,Qg⟩:hd (l.drop (b+1))≠43/\hd (l.drop (b+1))≠45:=⟨λe=>yJ (.inl e),λe=>yJ (.inr e)⟩;have x:a8 l=b:=by unfold a8;rw[M,I];rfl
   have h3:bH A K2 p src (ax s (a8 l)) vo vt m:=by rw[x];exact h2
   have o:dy l=6:=by unfold dy;rw[iN];rintro⟨g,_⟩;exact hF g
   have N:a8 l<=l.length:=by rw[x];exact kf
   have hn:=x;rw[hn] at h3 N;have E:=h3.ob;have Z:=h3.pl;have y:(ax s b).pos=s.pos+b:=rfl;have z:= @lQ _ _ _ _ _ _ _ _ h3;simp only[y,R] at z;have c:(l.take b).length=b:=by simp;omega
   have O:0<b:=by omega
   have Q:(l.take b)[0]? = some l[0]:=by rw[mU,iP O];exact dx _
   have og:hd l=l[0].toNat:=by have:=mB (l:=l) (j:=0) Om;simpa using this
   have i:fK (hd (l.drop b))=true:=by rw[G];rfl
   have t:bZ l=true:=by unfold bZ;rw[hn,i];rfl
   refine rn (adl @q0 @q1 @q2 @G @jO @Y @Qf @Qg @Es @E @y @cG @ia @gA @jb @hl @z @ik @i @c @Q) ?_;all_goals
    refine(kO h3 s.line 20 Om de).mono λS U h4=> ?_;have C:=h4.ob;have V:=h4.pl;have D:(dv (ax s b) s.line 20).line=s.line:=by unfold dv;split<;>rfl
    refine rn (an @C @D) ?_;refine(dG h4 6 s.line (l.take b) (by rw[eA.1,eA.2];exact hb)).mono λJ L ⟨u,h5⟩=> ?_;refine dh ?_;all_goals exact⟨u,by unfold gL;rw[iP t,hn,o];exact h5⟩
  have I:eR (l.drop b)=0:=by
   unfold eR;rw[iN G]
  have x:a8 l=b:=by unfold a8;rw[M,I];rfl
  have h3:bH A K2 p src (ax s (a8 l)) vo vt m:=by rw[x];exact h2
  have o:dy l=6:=by unfold dy;rw[iN];rintro⟨g,_⟩;exact hF g
  have N:a8 l<=l.length:=by rw[x];exact kf
  have hn:=x;rw[hn] at h3 N;have E:=h3.ob;have Z:=h3.pl;have y:(ax s b).pos=s.pos+b:=rfl;have z:= @lQ _ _ _ _ _ _ _ _ h3;simp only[y,R] at z;have c:(l.take b).length=b:=by simp;omega
  have O:0<b:=by omega
  have Q:(l.take b)[0]? = some l[0]:=by rw[mU,iP O];exact dx _
  have og:hd l=l[0].toNat:=by have:=mB (l:=l) (j:=0) Om;simpa using this
  cases i:fK (hd (l.drop b)) with
  | true=>
    have t:bZ l=true:=by unfold bZ;rw[hn,i];rfl
    refine rn (adj @q0 @q1 @q2 @G @jO @E @y @cG @ia @gA @jb @hl @z @ik @i @c @Q) ?_;all_goals
     refine(kO h3 s.line 20 Om de).mono λS U h4=> ?_;have C:=h4.ob;have V:=h4.pl;have D:(dv (ax s b) s.line 20).line=s.line:=by unfold dv;split<;>rfl
     refine rn (an @C @D) ?_;refine(dG h4 6 s.line (l.take b) (by rw[eA.1,eA.2];exact hb)).mono λJ L ⟨u,h5⟩=> ?_;repeat' (first | (simp (disch:=first | omega | (decide +kernel)) only[↓RD,RU,ct]) | ((with_reducible first|apply bL|apply bM|apply bN)<;>intro _))
     all_goals exact⟨u,by unfold gL;rw[iP t,hn,o];exact h5⟩
  | false=>
    repeat' (first | (simp (disch:=first | omega | (decide +kernel)) only[↓RD,RU,↓cm,↓cV,↓du,dk,pop,bg,ρ0,ρ1,↓reduceIte,Nat.reduceEqDiff,reduceCtorEq,ρ5,ρ6,eJ,ρ28,ρ29,q0,E,y,cG,gA,jb,hl,ik,i,c]) | ((with_reducible first|apply bL|apply bM|apply bN)<;>intro _))
    all_goals first
     | (have t:bZ l=true:=by
         unfold bZ;rw[hn,o,i];simp;omega
        refine(kO h3 s.line 20 Om de).mono λS U h4=> ?_;have C:=h4.ob;have V:=h4.pl;have D:(dv (ax s b) s.line 20).line=s.line:=by unfold dv;split<;>rfl
        repeat' (first | (simp (disch:=first | omega | (decide +kernel)) only[↓RD,RU,↓cm,↓cV,dk,pop,bg,ρ0,ρ1,↓reduceIte,Nat.reduceEqDiff,reduceCtorEq,ρ5,ρ6,C,D]) | ((with_reducible first|apply bL|apply bM|apply bN)<;>intro _))
        refine(dG h4 6 s.line (l.take b) (by rw[eA.1,eA.2];exact hb)).mono λJ L ⟨u,h5⟩=> ?_;repeat' (first | (simp (disch:=first | omega | (decide +kernel)) only[↓RD,RU,ct]) | ((with_reducible first|apply bL|apply bM|apply bN)<;>intro _))
        all_goals exact⟨u,by unfold gL;rw[iP t,hn,o];exact h5⟩)
     | (have t:bZ l=false:=by
         unfold bZ;rw[hn,o,i];simp;omega
        refine(dG h3 6 s.line (l.take b) hb).mono λJ L ⟨u,h5⟩=> ?_;refine dh ?_;all_goals exact⟨u,by unfold gL;rw[iN (by simp[t]),hn,o];exact h5⟩)
 have hA:hC l=a:=by
  unfold hC iJ;rw[ha,gE,iN hf];rfl
 have hF:iJ (l.drop (cp l))=0:=by
  unfold iJ;rw[ha,gE,iN hf]
 by_cases nI:hd (l.drop a)=46
 ·have pU:bA (hd (l.drop (a+1)))=false:=by
   cases q:bA (hd (l.drop (a+1))) with
   | true=>exact absurd ⟨nI,q⟩ hf
   | false=>rfl
  have M:=hA;have kf:a<=l.length:=pT;have h2:=h1;have fe:=gz;have zY:=z0;have gK:=Lh;by_cases G:hd (l.drop a)=101
  ·rw[nI] at G;exact absurd G de
  have I:eR (l.drop a)=0:=by
   unfold eR;rw[iN G]
  have x:a8 l=a:=by unfold a8;rw[M,I];rfl
  have h3:bH A K1 p src (ax s (a8 l)) vo vt m:=by rw[x];exact h2
  have o:dy l=5:=by unfold dy;rw[iP ⟨hF,by rw[M,I]⟩]
  have N:a8 l<=l.length:=by rw[x];exact kf
  have hn:=x;rw[hn] at h3 N;have E:=h3.ob;have Z:=h3.pl;have y:(ax s a).pos=s.pos+a:=rfl;have z:= @lQ _ _ _ _ _ _ _ _ h3;simp only[y,R] at z;have c:(l.take a).length=a:=by simp;omega
  have O:0<a:=by omega
  have Q:(l.take a)[0]? = some l[0]:=by rw[mU,iP O];exact dx _
  have og:hd l=l[0].toNat:=by have:=mB (l:=l) (j:=0) Om;simpa using this
  cases i:fK (hd (l.drop a)) with
  | true=>
    have t:bZ l=true:=by unfold bZ;rw[hn,i];rfl
    refine rn (Ug @nI @pU @p0 @p1 @p2 @G @jO @X8 @E @y @cG @ia @gA @jb @hl @z @ik @i @c @Q) ?_;all_goals
     refine(kO h3 s.line 20 Om de).mono λS U h4=> ?_;have C:=h4.ob;have V:=h4.pl;have D:(dv (ax s a) s.line 20).line=s.line:=by unfold dv;split<;>rfl
     refine rn (an @C @D) ?_;refine(dG h4 5 s.line (l.take a) (by rw[eA.1,eA.2];exact hb)).mono λJ L ⟨u,h5⟩=> ?_;refine dh ?_;all_goals exact⟨u,by unfold gL;rw[iP t,hn,o];exact h5⟩
  | false=>
    refine rn (Ug @nI @pU @p0 @p1 @p2 @G @jO @X8 @E @y @cG @ia @gA @jb @hl @z @ik @i @c @Q) ?_;all_goals first
     | (have t:bZ l=true:=by
         unfold bZ;rw[hn,o,i];simp;omega
        refine(kO h3 s.line 20 Om de).mono λS U h4=> ?_;have C:=h4.ob;have V:=h4.pl;have D:(dv (ax s a) s.line 20).line=s.line:=by unfold dv;split<;>rfl
        refine rn (an @C @D) ?_;refine(dG h4 5 s.line (l.take a) (by rw[eA.1,eA.2];exact hb)).mono λJ L ⟨u,h5⟩=> ?_;refine dh ?_;all_goals exact⟨u,by unfold gL;rw[iP t,hn,o];exact h5⟩)
     | (have t:bZ l=false:=by
         unfold bZ;rw[hn,o,i];simp;omega
        refine(dG h3 5 s.line (l.take a) hb).mono λJ L ⟨u,h5⟩=> ?_;exact Ek;all_goals exact⟨u,by unfold gL;rw[iN (by simp[t]),hn,o];exact h5⟩)
 have M:=hA;have kf:a<=l.length:=pT;have h2:=h1;have fe:=gz;have zY:=z0;have gK:=Lh;by_cases G:hd (l.drop a)=101
 ·by_cases X:bA (hd (l.drop (a+1)))=true
  ·have I:eR (l.drop a)=2+cp (l.drop (a+2)):=by
    have bn:a+1<l.length:=by
     rcases pE (a+1) l.length with g | g
     ·exact g
     rw[AX g] at X;cases X
    unfold eR;rw[iP G,gE,iP X];have:=v8 (p:=bA) bn X;unfold cp;rw[this];show 1+(nW bA (l.drop (a+2))+1)=_;omega
   refine rn (xD @nI @p0 @p1 @p2 @G @jO @X @fe @gK @n2) ?_;refine(zX (s:=ax s (a+2)) (h2.set (s':=ax s (a+2)) rfl rfl (sN h.bd Om)) (by show s.pos+(a+2)<=_;omega)).mono λv3 K3 h3=> ?_;have qD:(ax s (a+2)).pos=s.pos+(a+2):=rfl;rw[qD,R] at h3;have x:a8 l=a+(2+cp (l.drop (a+2))):=by unfold a8;rw[M,I]
   have HA:a8 l<=l.length+2:=by have:=mg (a+2);omega
   have h3:bH A K3 p src (ax s (a8 l)) vo vt m:=by
    have e:ax (ax s (a+2)) (cp (l.drop (a+2)))=ax s (a8 l):=by rw[x];simp only[ax];congr 1;omega
    rw[<-e];exact h3
   have o:dy l=6:=by unfold dy;rw[iN];rintro⟨_,g⟩;rw[M,I] at g;omega
   have N:a8 l<=l.length:=by rw[x];have:=mg (a+2);have:=yI X;omega
   obtain⟨n,hn⟩ : ∃n,a8 l=n:=⟨_,rfl⟩;rw[hn] at h3 N;have E:=h3.ob;have Z:=h3.pl;have y:(ax s n).pos=s.pos+n:=rfl;have z:= @lQ _ _ _ _ _ _ _ _ h3;simp only[y,R] at z;have c:(l.take n).length=n:=by simp;omega
   have O:0<n:=by omega
   have Q:(l.take n)[0]? = some l[0]:=by rw[mU,iP O];exact dx _
   have og:hd l=l[0].toNat:=by have:=mB (l:=l) (j:=0) Om;simpa using this
   cases i:fK (hd (l.drop n)) with
   | true=>
     have t:bZ l=true:=by unfold bZ;rw[hn,i];rfl
     refine rn (xF @E @y @cG @ia @gA @jb @hl @z @ik @i @c @Q) ?_;all_goals
      refine(kO h3 s.line 20 Om de).mono λS U h4=> ?_;have C:=h4.ob;have V:=h4.pl;have D:(dv (ax s n) s.line 20).line=s.line:=by unfold dv;split<;>rfl
      refine rn (an @C @D) ?_;refine(dG h4 6 s.line (l.take n) (by rw[eA.1,eA.2];exact hb)).mono λJ L ⟨u,h5⟩=> ?_;repeat' (first | (simp (disch:=first | omega | (decide +kernel)) only[↓RD,RU,ct]) | ((with_reducible first|apply bL|apply bM|apply bN)<;>intro _))
      all_goals exact⟨u,by unfold gL;rw[iP t,hn,o];exact h5⟩
   | false=>
     repeat' (first | (simp (disch:=first | omega | (decide +kernel)) only[↓RD,RU,↓cm,↓cV,↓du,dk,pop,bg,ρ0,ρ1,↓reduceIte,Nat.reduceEqDiff,reduceCtorEq,ρ5,ρ6,eJ,ρ28,ρ29,E,y,cG,gA,jb,hl,z,ik,i,c]) | ((with_reducible first|apply bL|apply bM|apply bN)<;>intro _))
     all_goals first
      | (have t:bZ l=true:=by
          unfold bZ;rw[hn,o,i];simp;omega
         refine(kO h3 s.line 20 Om de).mono λS U h4=> ?_;have C:=h4.ob;have V:=h4.pl;have D:(dv (ax s n) s.line 20).line=s.line:=by unfold dv;split<;>rfl
         repeat' (first | (simp (disch:=first | omega | (decide +kernel)) only[↓RD,RU,↓cm,↓cV,dk,pop,bg,ρ0,ρ1,↓reduceIte,Nat.reduceEqDiff,reduceCtorEq,ρ5,ρ6,C,D]) | ((with_reducible first|apply bL|apply bM|apply bN)<;>intro _))
         refine(dG h4 6 s.line (l.take n) (by rw[eA.1,eA.2];exact hb)).mono λJ L ⟨u,h5⟩=> ?_;repeat' (first | (simp (disch:=first | omega | (decide +kernel)) only[↓RD,RU,ct]) | ((with_reducible first|apply bL|apply bM|apply bN)<;>intro _))
         all_goals exact⟨u,by unfold gL;rw[iP t,hn,o];exact h5⟩)
      | (have t:bZ l=false:=by
          unfold bZ;rw[hn,o,i];simp;omega
         refine(dG h3 6 s.line (l.take n) hb).mono λJ L ⟨u,h5⟩=> ?_;refine dh ?_;all_goals exact⟨u,by unfold gL;rw[iN (by simp[t]),hn,o];exact h5⟩)
  have Y:bA (hd (l.drop (a+1)))=false:=by simpa using X
  by_cases oq:(hd (l.drop (a+1))=43\/hd (l.drop (a+1))=45)/\bA (hd (l.drop (a+2)))=true
  ·obtain⟨iB,W⟩:=oq;have I:eR (l.drop a)=2+cp (l.drop (a+2)):=by
    unfold eR;rw[iP G,gE,gE,iN (by rw[Y];simp),iP ⟨iB,W⟩]
   rcases iB with iB | iB
   ·repeat' (first | (simp (disch:=first | omega | (decide +kernel)) only[↓RD,RU,↓cm,↓kj,↓cV,↓du,dk,pop,bg,cy,isVal,ci,iI,ρ0,ρ1,↓reduceIte,Nat.reduceEqDiff,Nat.reduceAdd,reduceCtorEq,ρ5,ρ6,ρ7,ρ8,ρ17,ρ18,ρ19,ρ20,ρ22,ρ23,Kd.eM,ρ25,ρ26,Nat.reduceLeDiff,p0,p1,p2,G,jO,iB,(by simpa[iB] using Y:bA 43=false),W,fe,gK,n2]) | ((with_reducible first|apply bL|apply bM|apply bN)<;>intro _))
    refine(zX (s:=ax s (a+2)) (h2.set (s':=ax s (a+2)) rfl rfl (sN h.bd Om)) (by show s.pos+(a+2)<=_;omega)).mono λv3 K3 h3=> ?_;have qD:(ax s (a+2)).pos=s.pos+(a+2):=rfl;rw[qD,R] at h3;have x:a8 l=a+(2+cp (l.drop (a+2))):=by unfold a8;rw[M,I]
    have HA:a8 l<=l.length+2:=by have:=mg (a+2);omega
    have h3:bH A K3 p src (ax s (a8 l)) vo vt m:=by
     have e:ax (ax s (a+2)) (cp (l.drop (a+2)))=ax s (a8 l):=by rw[x];simp only[ax];congr 1;omega
     rw[<-e];exact h3
    have o:dy l=6:=by unfold dy;rw[iN];rintro⟨_,g⟩;rw[M,I] at g;omega
    have N:a8 l<=l.length:=by rw[x];have:=mg (a+2);have:=yI W;omega
    obtain⟨n,hn⟩ : ∃n,a8 l=n:=⟨_,rfl⟩;rw[hn] at h3 N;have E:=h3.ob;have Z:=h3.pl;have y:(ax s n).pos=s.pos+n:=rfl;have z:= @lQ _ _ _ _ _ _ _ _ h3;simp only[y,R] at z;have c:(l.take n).length=n:=by simp;omega
    have O:0<n:=by omega
    have Q:(l.take n)[0]? = some l[0]:=by rw[mU,iP O];exact dx _
    have og:hd l=l[0].toNat:=by have:=mB (l:=l) (j:=0) Om;simpa using this
    cases i:fK (hd (l.drop n)) with
    | true=>
      have t:bZ l=true:=by unfold bZ;rw[hn,i];rfl
      refine rn (xF @E @y @cG @ia @gA @jb @hl @z @ik @i @c @Q) ?_;all_goals
       refine(kO h3 s.line 20 Om de).mono λS U h4=> ?_;have C:=h4.ob;have V:=h4.pl;have D:(dv (ax s n) s.line 20).line=s.line:=by unfold dv;split<;>rfl
       refine rn (an @C @D) ?_;refine(dG h4 6 s.line (l.take n) (by rw[eA.1,eA.2];exact hb)).mono λJ L ⟨u,h5⟩=> ?_;repeat' (first | (simp (disch:=first | omega | (decide +kernel)) only[↓RD,RU,ct]) | ((with_reducible first|apply bL|apply bM|apply bN)<;>intro _))
       all_goals exact⟨u,by unfold gL;rw[iP t,hn,o];exact h5⟩
    | false=>
      repeat' (first | (simp (disch:=first | omega | (decide +kernel)) only[↓RD,RU,↓cm,↓cV,↓du,dk,pop,bg,ρ0,ρ1,↓reduceIte,Nat.reduceEqDiff,reduceCtorEq,ρ5,ρ6,eJ,ρ28,ρ29,E,y,cG,gA,jb,hl,z,ik,i,c]) | ((with_reducible first|apply bL|apply bM|apply bN)<;>intro _))
      all_goals first
       | (have t:bZ l=true:=by
           unfold bZ;rw[hn,o,i];simp;omega
          refine(kO h3 s.line 20 Om de).mono λS U h4=> ?_;have C:=h4.ob;have V:=h4.pl;have D:(dv (ax s n) s.line 20).line=s.line:=by unfold dv;split<;>rfl
          repeat' (first | (simp (disch:=first | omega | (decide +kernel)) only[↓RD,RU,↓cm,↓cV,dk,pop,bg,ρ0,ρ1,↓reduceIte,Nat.reduceEqDiff,reduceCtorEq,ρ5,ρ6,C,D]) | ((with_reducible first|apply bL|apply bM|apply bN)<;>intro _))
          refine(dG h4 6 s.line (l.take n) (by rw[eA.1,eA.2];exact hb)).mono λJ L ⟨u,h5⟩=> ?_;repeat' (first | (simp (disch:=first | omega | (decide +kernel)) only[↓RD,RU,ct]) | ((with_reducible first|apply bL|apply bM|apply bN)<;>intro _))
          all_goals exact⟨u,by unfold gL;rw[iP t,hn,o];exact h5⟩)
       | (have t:bZ l=false:=by
           unfold bZ;rw[hn,o,i];simp;omega
          refine(dG h3 6 s.line (l.take n) hb).mono λJ L ⟨u,h5⟩=> ?_;refine dh ?_;all_goals exact⟨u,by unfold gL;rw[iN (by simp[t]),hn,o];exact h5⟩)
   repeat' (first | (simp (disch:=first | omega | (decide +kernel)) only[↓RD,RU,↓cm,↓kj,↓cV,↓du,dk,pop,bg,cy,isVal,ci,iI,ρ0,ρ1,↓reduceIte,Nat.reduceEqDiff,Nat.reduceAdd,reduceCtorEq,ρ5,ρ6,ρ7,ρ8,ρ17,ρ18,ρ19,ρ20,ρ22,ρ23,Kd.eM,ρ25,ρ26,Nat.reduceLeDiff,p0,p1,p2,G,jO,iB,(by simpa[iB] using Y:bA 45=false),W,fe,gK,n2]) | ((with_reducible first|apply bL|apply bM|apply bN)<;>intro _))
   refine(zX (s:=ax s (a+2)) (h2.set (s':=ax s (a+2)) rfl rfl (sN h.bd Om)) (by show s.pos+(a+2)<=_;omega)).mono λv3 K3 h3=> ?_;have qD:(ax s (a+2)).pos=s.pos+(a+2):=rfl;rw[qD,R] at h3;have x:a8 l=a+(2+cp (l.drop (a+2))):=by unfold a8;rw[M,I]
   have HA:a8 l<=l.length+2:=by have:=mg (a+2);omega
   have h3:bH A K3 p src (ax s (a8 l)) vo vt m:=by
    have e:ax (ax s (a+2)) (cp (l.drop (a+2)))=ax s (a8 l):=by rw[x];simp only[ax];congr 1;omega
    rw[<-e];exact h3
   have o:dy l=6:=by unfold dy;rw[iN];rintro⟨_,g⟩;rw[M,I] at g;omega
   have N:a8 l<=l.length:=by rw[x];have:=mg (a+2);have:=yI W;omega
   obtain⟨n,hn⟩ : ∃n,a8 l=n:=⟨_,rfl⟩;rw[hn] at h3 N;have E:=h3.ob;have Z:=h3.pl;have y:(ax s n).pos=s.pos+n:=rfl;have z:= @lQ _ _ _ _ _ _ _ _ h3;simp only[y,R] at z;have c:(l.take n).length=n:=by simp;omega
   have O:0<n:=by omega
   have Q:(l.take n)[0]? = some l[0]:=by rw[mU,iP O];exact dx _
   have og:hd l=l[0].toNat:=by have:=mB (l:=l) (j:=0) Om;simpa using this
   cases i:fK (hd (l.drop n)) with
   | true=>
     have t:bZ l=true:=by unfold bZ;rw[hn,i];rfl
     refine rn (xF @E @y @cG @ia @gA @jb @hl @z @ik @i @c @Q) ?_;all_goals
      refine(kO h3 s.line 20 Om de).mono λS U h4=> ?_;have C:=h4.ob;have V:=h4.pl;have D:(dv (ax s n) s.line 20).line=s.line:=by unfold dv;split<;>rfl
      refine rn (an @C @D) ?_;refine(dG h4 6 s.line (l.take n) (by rw[eA.1,eA.2];exact hb)).mono λJ L ⟨u,h5⟩=> ?_;repeat' (first | (simp (disch:=first | omega | (decide +kernel)) only[↓RD,RU,ct]) | ((with_reducible first|apply bL|apply bM|apply bN)<;>intro _))
      all_goals exact⟨u,by unfold gL;rw[iP t,hn,o];exact h5⟩
   | false=>
     repeat' (first | (simp (disch:=first | omega | (decide +kernel)) only[↓RD,RU,↓cm,↓cV,↓du,dk,pop,bg,ρ0,ρ1,↓reduceIte,Nat.reduceEqDiff,reduceCtorEq,ρ5,ρ6,eJ,ρ28,ρ29,E,y,cG,gA,jb,hl,z,ik,i,c]) | ((with_reducible first|apply bL|apply bM|apply bN)<;>intro _))
     all_goals first
      | (have t:bZ l=true:=by
          unfold bZ;rw[hn,o,i];simp;omega
         refine(kO h3 s.line 20 Om de).mono λS U h4=> ?_;have C:=h4.ob;have V:=h4.pl;have D:(dv (ax s n) s.line 20).line=s.line:=by unfold dv;split<;>rfl
         repeat' (first | (simp (disch:=first | omega | (decide +kernel)) only[↓RD,RU,↓cm,↓cV,dk,pop,bg,ρ0,ρ1,↓reduceIte,Nat.reduceEqDiff,reduceCtorEq,ρ5,ρ6,C,D]) | ((with_reducible first|apply bL|apply bM|apply bN)<;>intro _))
         refine(dG h4 6 s.line (l.take n) (by rw[eA.1,eA.2];exact hb)).mono λJ L ⟨u,h5⟩=> ?_;repeat' (first | (simp (disch:=first | omega | (decide +kernel)) only[↓RD,RU,ct]) | ((with_reducible first|apply bL|apply bM|apply bN)<;>intro _))
         all_goals exact⟨u,by unfold gL;rw[iP t,hn,o];exact h5⟩)
      | (have t:bZ l=false:=by
          unfold bZ;rw[hn,o,i];simp;omega
         refine(dG h3 6 s.line (l.take n) hb).mono λJ L ⟨u,h5⟩=> ?_;refine dh ?_;all_goals exact⟨u,by unfold gL;rw[iN (by simp[t]),hn,o];exact h5⟩)
  have I:eR (l.drop a)=0:=by
   unfold eR;rw[iP G,gE,gE,iN (by rw[Y];simp),iN oq]
  by_cases yJ:hd (l.drop (a+1))=43\/hd (l.drop (a+1))=45
  ·have W:bA (hd (l.drop (a+2)))=false:=by
    cases q:bA (hd (l.drop (a+2))) with
    | true=>exact absurd ⟨yJ,q⟩ oq
    | false=>rfl
   rcases yJ with iB | iB
   ·skip
    have x:a8 l=a:=by unfold a8;rw[M,I];rfl
    have h3:bH A K1 p src (ax s (a8 l)) vo vt m:=by rw[x];exact h2
    have o:dy l=5:=by unfold dy;rw[iP ⟨hF,by rw[M,I]⟩]
    have N:a8 l<=l.length:=by rw[x];exact kf
    have hn:=x;rw[hn] at h3 N;have E:=h3.ob;have Z:=h3.pl;have y:(ax s a).pos=s.pos+a:=rfl;have z:= @lQ _ _ _ _ _ _ _ _ h3;simp only[y,R] at z;have c:(l.take a).length=a:=by simp;omega
    have O:0<a:=by omega
    have Q:(l.take a)[0]? = some l[0]:=by rw[mU,iP O];exact dx _
    have og:hd l=l[0].toNat:=by have:=mB (l:=l) (j:=0) Om;simpa using this
    have i:fK (hd (l.drop a))=true:=by rw[G];rfl
    have t:bZ l=true:=by unfold bZ;rw[hn,i];rfl
    repeat' (first | (simp (disch:=first | omega | (decide +kernel)) only[↓RD,RU,↓cm,↓cV,↓du,dk,pop,bg,ρ0,ρ1,↓reduceIte,Nat.reduceEqDiff,reduceCtorEq,ρ5,ρ6,eJ,ρ28,ρ29,p0,p1,p2,G,jO,iB,(by simpa[iB] using Y:bA 43=false),W,Es,E,y,cG,gA,jb,hl,ik]) | ((with_reducible first|apply bL|apply bM|apply bN)<;>intro _))
    all_goals
     refine(kO h3 s.line 20 Om de).mono λS U h4=> ?_;have C:=h4.ob;have V:=h4.pl;have D:(dv (ax s a) s.line 20).line=s.line:=by unfold dv;split<;>rfl
     refine rn (an @C @D) ?_;refine(dG h4 5 s.line (l.take a) (by rw[eA.1,eA.2];exact hb)).mono λJ L ⟨u,h5⟩=> ?_;refine dh ?_;all_goals exact⟨u,by unfold gL;rw[iP t,hn,o];exact h5⟩
   skip
   have x:a8 l=a:=by unfold a8;rw[M,I];rfl
   have h3:bH A K1 p src (ax s (a8 l)) vo vt m:=by rw[x];exact h2
   have o:dy l=5:=by unfold dy;rw[iP ⟨hF,by rw[M,I]⟩]
   have N:a8 l<=l.length:=by rw[x];exact kf
   have hn:=x;rw[hn] at h3 N;have E:=h3.ob;have Z:=h3.pl;have y:(ax s a).pos=s.pos+a:=rfl;have z:= @lQ _ _ _ _ _ _ _ _ h3;simp only[y,R] at z;have c:(l.take a).length=a:=by simp;omega
   have O:0<a:=by omega
   have Q:(l.take a)[0]? = some l[0]:=by rw[mU,iP O];exact dx _
   have og:hd l=l[0].toNat:=by have:=mB (l:=l) (j:=0) Om;simpa using this
   have i:fK (hd (l.drop a))=true:=by rw[G];rfl
   have t:bZ l=true:=by unfold bZ;rw[hn,i];rfl
   repeat' (first | (simp (disch:=first | omega | (decide +kernel)) only[↓RD,RU,↓cm,↓cV,↓du,dk,pop,bg,ρ0,ρ1,↓reduceIte,Nat.reduceEqDiff,reduceCtorEq,ρ5,ρ6,eJ,ρ28,ρ29,p0,p1,p2,G,jO,iB,(by simpa[iB] using Y:bA 45=false),W,Es,E,y,cG,gA,jb,hl,ik]) | ((with_reducible first|apply bL|apply bM|apply bN)<;>intro _))
   all_goals
    refine(kO h3 s.line 20 Om de).mono λS U h4=> ?_;have C:=h4.ob;have V:=h4.pl;have D:(dv (ax s a) s.line 20).line=s.line:=by unfold dv;split<;>rfl
    refine rn (an @C @D) ?_;refine(dG h4 5 s.line (l.take a) (by rw[eA.1,eA.2];exact hb)).mono λJ L ⟨u,h5⟩=> ?_;refine dh ?_;all_goals exact⟨u,by unfold gL;rw[iP t,hn,o];exact h5⟩
  obtain⟨Qf,Qg⟩:hd (l.drop (a+1))≠43/\hd (l.drop (a+1))≠45:=⟨λe=>yJ (.inl e),λe=>yJ (.inr e)⟩;have x:a8 l=a:=by unfold a8;rw[M,I];rfl
  have h3:bH A K1 p src (ax s (a8 l)) vo vt m:=by rw[x];exact h2
  have o:dy l=5:=by unfold dy;rw[iP ⟨hF,by rw[M,I]⟩]
  have N:a8 l<=l.length:=by rw[x];exact kf
  have hn:=x;rw[hn] at h3 N;have E:=h3.ob;have Z:=h3.pl;have y:(ax s a).pos=s.pos+a:=rfl;have z:= @lQ _ _ _ _ _ _ _ _ h3;simp only[y,R] at z;have c:(l.take a).length=a:=by simp;omega
  have O:0<a:=by omega
  have Q:(l.take a)[0]? = some l[0]:=by rw[mU,iP O];exact dx _
  have og:hd l=l[0].toNat:=by have:=mB (l:=l) (j:=0) Om;simpa using this
  have i:fK (hd (l.drop a))=true:=by rw[G];rfl
  have t:bZ l=true:=by unfold bZ;rw[hn,i];rfl
  refine rn (adm @nI @p0 @p1 @p2 @G @jO @Y @Qf @Qg @Es @E @y @cG @ia @gA @jb @hl @z @ik @i @c @Q) ?_;all_goals
   refine(kO h3 s.line 20 Om de).mono λS U h4=> ?_;have C:=h4.ob;have V:=h4.pl;have D:(dv (ax s a) s.line 20).line=s.line:=by unfold dv;split<;>rfl
   refine rn (an @C @D) ?_;refine(dG h4 5 s.line (l.take a) (by rw[eA.1,eA.2];exact hb)).mono λJ L ⟨u,h5⟩=> ?_;refine dh ?_;all_goals exact⟨u,by unfold gL;rw[iP t,hn,o];exact h5⟩
 have I:eR (l.drop a)=0:=by
  unfold eR;rw[iN G]
 have x:a8 l=a:=by unfold a8;rw[M,I];rfl
 have h3:bH A K1 p src (ax s (a8 l)) vo vt m:=by rw[x];exact h2
 have o:dy l=5:=by unfold dy;rw[iP ⟨hF,by rw[M,I]⟩]
 have N:a8 l<=l.length:=by rw[x];exact kf
 have hn:=x;rw[hn] at h3 N;have E:=h3.ob;have Z:=h3.pl;have y:(ax s a).pos=s.pos+a:=rfl;have z:= @lQ _ _ _ _ _ _ _ _ h3;simp only[y,R] at z;have c:(l.take a).length=a:=by simp;omega
 have O:0<a:=by omega
 have Q:(l.take a)[0]? = some l[0]:=by rw[mU,iP O];exact dx _
 have og:hd l=l[0].toNat:=by have:=mB (l:=l) (j:=0) Om;simpa using this
 cases i:fK (hd (l.drop a)) with
 | true=>
   have t:bZ l=true:=by unfold bZ;rw[hn,i];rfl
   refine rn (adk @nI @p0 @p1 @p2 @G @jO @E @y @cG @ia @gA @jb @hl @z @ik @i @c @Q) ?_;all_goals
    refine(kO h3 s.line 20 Om de).mono λS U h4=> ?_;have C:=h4.ob;have V:=h4.pl;have D:(dv (ax s a) s.line 20).line=s.line:=by unfold dv;split<;>rfl
    refine rn (an @C @D) ?_;refine(dG h4 5 s.line (l.take a) (by rw[eA.1,eA.2];exact hb)).mono λJ L ⟨u,h5⟩=> ?_;repeat' (first | (simp (disch:=first | omega | (decide +kernel)) only[↓RD,RU,ct]) | ((with_reducible first|apply bL|apply bM|apply bN)<;>intro _))
    all_goals exact⟨u,by unfold gL;rw[iP t,hn,o];exact h5⟩
 | false=>
   repeat' (first | (simp (disch:=first | omega | (decide +kernel)) only[↓RD,RU,↓cm,↓cV,↓du,dk,pop,bg,ρ0,ρ1,ρ4,↓reduceIte,Nat.reduceEqDiff,reduceCtorEq,ρ5,ρ6,eJ,Int.reduceToNat,ρ28,ρ29,p0,E,y,cG,ia,gA,jb,hl,ik,i,c,Q]) | ((with_reducible first|apply bL|apply bM|apply bN)<;>intro _))
   all_goals first
    | (have t:bZ l=true:=by
        unfold bZ;rw[hn,o,i];simp;omega
       refine(kO h3 s.line 20 Om de).mono λS U h4=> ?_;have C:=h4.ob;have V:=h4.pl;have D:(dv (ax s a) s.line 20).line=s.line:=by unfold dv;split<;>rfl
       repeat' (first | (simp (disch:=first | omega | (decide +kernel)) only[↓RD,RU,↓cm,↓cV,dk,pop,bg,ρ0,ρ1,↓reduceIte,Nat.reduceEqDiff,reduceCtorEq,ρ5,ρ6,C,D]) | ((with_reducible first|apply bL|apply bM|apply bN)<;>intro _))
       refine(dG h4 5 s.line (l.take a) (by rw[eA.1,eA.2];exact hb)).mono λJ L ⟨u,h5⟩=> ?_;repeat' (first | (simp (disch:=first | omega | (decide +kernel)) only[↓RD,RU,ct]) | ((with_reducible first|apply bL|apply bM|apply bN)<;>intro _))
       all_goals exact⟨u,by unfold gL;rw[iP t,hn,o];exact h5⟩)
    | (have t:bZ l=false:=by
        unfold bZ;rw[hn,o,i];simp;omega
       refine(dG h3 5 s.line (l.take a) hb).mono λJ L ⟨u,h5⟩=> ?_;refine dh ?_;all_goals exact⟨u,by unfold gL;rw[iN (by simp[t]),hn,o];exact h5⟩)
end
end Can
end Go.Proofs.YtdfgkcoenagaaaaGreat
