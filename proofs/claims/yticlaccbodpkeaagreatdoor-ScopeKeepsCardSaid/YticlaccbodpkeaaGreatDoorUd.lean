/- Canonical runs: where they begin; what a slice reads as. Over any program. Canonical runs: calls that touch no memory of others (by evaluation, or by a run in an empty memory) as rules of a table. Over any program. Lex: the table of calls that are answered at once: the chapter's example, and the library's search for a byte. Lex: the reader in memory; its small steps. Lex: the reader's loops over bytes. Lex: escapes, strings. Lex: symbols. Lex: numbers. Lex: one token; the indentation. Lex: what stands behind a row's end turns nothing in it. No program in sight. Lex: a row. Lex: the words; the program's Lex. Lex: plain laws of the rows. Lex: the program's Lex. Lex: how long the answer is; bytes; the document's Same; Lex as tokens that lie. Lex, plain: lines counted on; rows that are blank. Canonical runs: panics. Over any program. Canonical runs: regions in parts; operations that the canonical run has no words for, at their end. Over any program. Canonical runs: a function that defers a closure and is saved by it. Over any program. Runs over trees: rows as pure lists. Values, and what they stand for in a canonical memory. Over any program. Runs over trees: pure operations and reads. Over any program. Runs over trees: reads and writes. Over any program. Runs over trees: an operation. Over any program. -/
import Derived.Test.YticlaccbodpkeaaGreatDoorUc
import Derived.OpenShut
import Derived.ChangeArms
import Derived.Laws.BitsAllLaws
import Derived.SizedLaws
import Derived.Deep.CondSized
import Derived.Test.YticlaccbodpkeaaGreatDoorRows
import Derived.Test.YticlaccbodpkeaaGreatDoorChecked
import Derived.Laws.Externs
import Derived.Test.YticlaccbodpkeaaGreatDoorUa
import Derived.RecoverIn
open And renaming intro → aj
open Array renaming ext' → tv, length_toList → NY
open Bool renaming and_eq_true → fV, and_true → pL
open Go renaming Addr → cB, DataW → pK, FuncId → aS, IntKind → qn, Operand → av, Program → aX, TypeId → aI, Value → ae, World → ay
open Go.IntKind renaming bits → Ca
open Go.Value renaming bool → vT, cells → ci
open Go.World renaming cell? → DR
open Iff renaming rfl → eM
open Int renaming fdiv_eq_ediv_of_nonneg → SD, toNat_natCast → fJ
open List renaming all_cons → qw, append_assoc → oY, append_nil → gY, cons_append → gZ, drop_drop → j9, drop_zero → gI, ext_getElem → N0, ext_getElem? → DV, flatMap_append → zZ, flatMap_cons → tw, flatten_cons → Cd, getElem?_append_left → qo, getElem?_drop → pI, getElem?_eq_getElem → cj, getElem?_eq_none → uA, getElem?_map → ka, getElem?_set_ne → Jf, getElem?_set_self → NV, getElem?_take_of_lt → sA, getElem_drop → YS, getElem_map → Jj, getElem_mem → Gr, length → tu, length_append → cG, length_cons → bN, length_drop → lB, length_map → eR, length_nil → bZ, length_replicate → Jo, length_set → Gs, length_singleton → SC, length_take → kW, map_congr_left → xd, map_cons → c8, mem_append → gu, mem_append_left → N4, mem_append_right → SB, mem_cons → mD, nil_append → ju, range → mB, sum_cons → Jp, take_append_drop → yv, take_length → ng, take_of_length_le → ux, take_zero → vU
open Nat renaming add_assoc → oa, add_mul → qt, add_zero → mA, le_max_left → yr, le_max_right → yt, le_of_ble_eq_true → DW, le_refl → ai, le_succ → mC, le_succ_of_le → xc, le_trans → cy, lt_of_lt_of_le → cQ, lt_succ_of_lt → qu, lt_succ_self → fN, mul_le_mul_right → zU, mul_one → fp, one_mul → xg, zero_add → ba, zero_mul → xf
open Option renaming map_eq_some_iff → nf, map_some → dC
set_option maxRecDepth 4000
set_option linter.unusedSimpArgs false
set_option linter.unusedVariables false
namespace Go.Proofs.YticlaccbodpkeaaGreatDoor
namespace Can
section
open Go Go.RowKit
variable {P:aX} {B:Nat}
structure ag(H K:CH):Prop where
 nx:H.nx<=K.nx
 ob : ∀l,l<H.nx->K.ob l=H.ob l
theorem ag.refl(H:CH):ag H H:=⟨ai _,λ_ _=>rfl⟩
theorem ag.trans{A H K:CH}(h:ag A H)(k:ag H K):ag A K:=⟨cy h.nx k.nx,λl hl=>(k.ob l (cQ hl h.nx)).trans (h.ob l hl)⟩
theorem ag.new{A H:CH}(h:ag A H)(o:dD):ag A (H.new o):=h.trans ⟨mC _,λl hl=>by simp[CH.new];intro e;omega⟩
theorem ag.set{A H:CH}(h:ag A H){l:Nat}(hl:A.nx<=l)(o:dD):ag A (H.set l o):=⟨h.nx,λk hk=>by simp only[CH.set];rw[iN Om];exact h.ob k hk⟩
abbrev uD(α:Type):=CH->List ae->α->Prop
def pY (k:qn):uD Int:=λ_ cs x=>cs= [.int k x]/\(Lit.int k x).wf=true
def ig {α:Type}(sz:Nat)(R:uD α)(H:CH)(a:Option cB)(c:Nat)(xs:List α):Prop:=
 (xs= []/\c=0/\(a=none\/a=some ⟨0,0,some 0⟩\/a=some ⟨0,0,some 1⟩))\/
 ∃l o os e k,a=some ⟨l,o,none⟩/\l<H.nx/\xs.length<=c/\c<=maxLen/\H.ob l= .cells os e k/\o+xs.length*sz<=os.length/\
  ∀i (h:i<xs.length),R H ((os.drop (o+i*sz)).take sz) xs[i]
def CSl {α:Type}(sz:Nat)(R:uD α):uD (List α):=λH cs xs=>∃a c,cs= [.slice a xs.length c]/\ig sz R H a c xs
def abe{α:Type}(R:uD α):Prop:=∀(H K:CH) (cs:List ae) (x:α),ag H K->R H cs x->R K cs x
theorem pY.jX(k:qn):abe (pY k):=λ_ _ _ _ _ h=>h
theorem ig.jX{α:Type}{sz:Nat}{R:uD α}(g:abe R){H K:CH}{a:Option cB}{c:Nat}{xs:List α}(hx:ag H K)(h:ig sz R H a c xs):ig sz R K a c xs:=by
 rcases h with h | ⟨l,o,os,e,k,b,h1,h2,h3,h4,h5,f⟩
 ·exact .inl h
 exact .inr ⟨l,o,os,e,k,b,cQ h1 hx.nx,h2,h3,(hx.ob l h1).trans h4,h5,λi hi=>g _ _ _ _ hx (f i hi)⟩
def cz:ae->ae
 | .slice (some _) 0 0=> .slice (some ⟨0,0,some 0⟩) 0 0
 | .slice (some _) 0 _=> .slice (some ⟨0,0,some 1⟩) 0 0
 | v=>v
def uC:ae->ae
 | .agg cs=> .agg (cs.toList.map cz).toArray
 | v=>cz v
open Classical in
noncomputable def mask(β:Nat->aA)(v:ae):ae:=if VR β (cz v) v then cz v else undef
theorem aiN(β:Nat->aA)(v:ae):VR β (mask β v) v:=by
 unfold mask;split;·assumption
 exact .undef _
theorem abf{β:Nat->aA}{v:ae}(h:VR β (cz v) v):mask β v=cz v:=by unfold mask;rw[iP h]
def kC(w:ay):Nat->aA:=λb=>match w.heap[b]? with
 | some (.cells cs _ _)=> .live (b,0) 0 cs.size .ro
 | some _=> .dead
 | none=> .od
noncomputable def tC(w:ay):CH:= { nx:=w.heap.size,ob:=λb=>match w.heap[b]? with
 | some (.cells cs _ _)=> .cells (cs.toList.map (mask (kC w))) 0 .ro
 | some _=> .dead
 | none=> .od }
theorem aiO(w:ay):aP P w.heap.size (kC w) (tC w) w:=by
 have c : ∀l b,¬(kC w l).owns b:=λl b ho=>by
  unfold kC at ho;split at ho;·exact ho.1 rfl
  ·exact ho
  exact ho
 refine⟨λl=> ?_,λl hl=> ?_,λl l' b h1 _=>absurd h1 (c l b),ai _,λl b sz n e=> ?_⟩
 ·have hb:kC w l=match w.heap[l]? with
   | some (.cells cs _ _)=> .live (l,0) 0 cs.size .ro
   | some _=> .dead
   | none=> .od:=rfl
  have ho:(tC w).ob l=match w.heap[l]? with
   | some (.cells cs _ _)=> .cells (cs.toList.map (mask (kC w))) 0 .ro
   | some _=> .dead
   | none=> .od:=rfl
  rw[hb,ho];cases hh:w.heap[l]? with
  | none=>exact trivial
  | some o=>
    cases o with
    | cells cs e fr=>
      refine⟨rfl,cs,e,fr,hh,rfl,Sm,λi v hv=> ?_,λh=>absurd rfl h,λh=>absurd rfl h,λ_=>⟨(Array.getElem?_eq_some_iff.1 hh).1,Sm⟩,λh=>by cases h⟩;rw[ka] at hv;cases hc:cs.toList[i]? with
      | none=>rw[hc] at hv;cases hv
      | some u=>rw[hc] at hv;cases hv;exact⟨u,by simpa using hc,aiN _ _⟩
    | _=>exact trivial
 ·show(match w.heap[l]? with | some (.cells cs _ _)=>_ | some _=>_ | none=>_)=_;have:w.heap[l]? = none:=Array.getElem?_eq_none hl;rw[this]
 unfold kC at e;split at e;·cases e;rfl
 ·cases e
 cases e
theorem aiP(w:ay)(b:Nat):Out (kC w) b:=λl ho=>by
 unfold kC at ho;split at ho;·exact ho.1 rfl
 ·exact ho
 exact ho
theorem aiQ{w w':ay}{β':Nat->aA}(h:cd (kC w) w β' w'):Below w.heap.size w w':=
 ⟨h.os,h.tape,h.output,h.size,λk hk=>(h.dk k hk (aiP w k)).1⟩
theorem abg{w:ay}{b o:Nat}{v:ae}(h:w.cell? ⟨b,o,none⟩=some v) : ∃(n:Nat) (os:List ae),kC w b= .live (b,0) 0 n .ro/\(tC w).ob b= .cells (os.map (mask (kC w))) 0 .ro/\∀i,w.cell? ⟨b,i,none⟩=os[i]? :=by
 unfold DR at h;cases hh:w.heap[b]? with
 | none=>simp[hh] at h
 | some ob=>
   cases ob with
   | cells cs e fr=>
     refine⟨cs.size,cs.toList,?_,?_,λi=> ?_⟩;·unfold kC;rw[hh]
     ·show(match w.heap[b]? with | some (.cells cs _ _)=>_ | some _=>_ | none=>_)=_;rw[hh]
     simp[DR,hh]
   | _=>simp[hh] at h
section
variable {H:Type} {enc:aI×ae->H} {w:ay} {base:Nat} {spare:Nat->Bool} {held:Bool}
def abh{α:Type}(enc:aI×ae->H)(P:aX)(w:ay)(base:Nat)(spare:Nat->Bool)(held:Bool)(t:aI)(sz:Nat)(R:uD α):Prop:=
 ∀fuel cs x,DataW.trod enc P w base spare held fuel t cs=some x->cs.length=sz/\(∀v∈cs,VR (kC w) (cz v) v)/\∃y,R (tC w) (cs.map cz) y
theorem arl{α:Type}{R:uD α}{t e:aI}{sz:Nat}(ht:P.underlying t=some (.slice e))(hc:P.cellsOf e=sz)(hp:0<sz)(he:abh enc P w base spare held e sz R) :
 abh enc P w base spare held t 1 (CSl sz R):=by
 intro fuel cs x h;rcases Deep.open_slice ht h with ⟨rfl,_⟩ | ⟨a,len,cap,m,n,D,U,rfl,hb,hl,s,F,_,hx⟩
 ·exact⟨rfl,λv hv=>by simp at hv;subst hv;exact .Af,[],none,0,rfl, .inl ⟨rfl,rfl, .inl rfl⟩⟩
 refine⟨rfl,?_⟩;cases len with
 | zero=>
   cases cap with
   | zero=>exact⟨λv hv=>by simp at hv;subst hv;exact .xi a,[],some ⟨0,0,some 0⟩,0,rfl, .inl ⟨rfl,rfl, .inr (.inl rfl)⟩⟩
   | succ c=>exact⟨λv hv=>by simp at hv;subst hv;exact .yy a (c+1),[],some ⟨0,0,some 1⟩,0,rfl, .inl ⟨rfl,rfl, .inr (.inr rfl)⟩⟩
 | succ len=>
   have V:len+1<=m:=by rw[F];split<;>omega
   have each : ∀i,i<len+1->∃y:α,∃es:List ae,es.length=sz/\(∀v∈es,VR (kC w) (cz v) v)/\R (tC w) (es.map cz) y/\∀j (l:j<es.length),w.cell? ((a.add (i*sz)).add j)=some es[j]:=by
    intro i hi;obtain⟨cs',h1,h2⟩:=hx i Om;obtain⟨G,hv,y,I⟩:=he _ _ _ h2;rw[hc] at h1;obtain⟨_,_,J⟩:=World.cells?_some h1;exact⟨y,cs',G,hv,I,λj l=>by rw[J j Om,cj l]⟩
   have u:a.spot=none:=by
    obtain⟨_,es,h1,_,_,h3⟩:=each 0 Om;have:=h3 0 Om;simp only[xf,Addr.add,iT] at this;unfold DR at this;cases hs:a.spot with
    | none=>rfl
    | some k=>
      split at this;·simp[hs] at this
      cases this
   obtain⟨f,b,L⟩:=a;simp only at u;subst u;have q : ∀k j,(((⟨f,b,none⟩:cB).add k).add j)=⟨f,b+k+j,none⟩:=by
    intro k j;unfold Addr.add
    (repeat' split)<;>simp_all
   obtain⟨ys,z,M⟩:=abd each;have N : ∃v,w.cell? ⟨f,b,none⟩=some v:=by
    obtain⟨_,es,h1,_,_,h3⟩:=each 0 Om;have:=h3 0 Om;rw[q] at this;simp only[xf,mA] at this;exact⟨_,this⟩
   obtain⟨v0,A⟩:=N;obtain⟨W,os,O,Q,C⟩:=abg A;have o : ∀i,i<len+1->b+(i+1)*sz<=os.length:=by
    intro i hi;obtain⟨_,es,h1,_,_,h3⟩:=each i hi;have:=h3 (sz-1) Om;rw[q,C] at this;have:=(List.getElem?_eq_some_iff.1 this).1;rw[qt,xg];omega
   have S : ∀i,i<len+1->∀es:List ae,es.length=sz->(∀v∈es,VR (kC w) (cz v) v)->(∀j (l:j<es.length),w.cell? (((⟨f,b,none⟩:cB).add (i*sz)).add j)=some es[j])->
    ((os.map (mask (kC w))).drop (b+i*sz)).take sz=es.map cz:=by
    intro i hi es h1 hv h3;apply DV;intro j;by_cases l:j<sz
    ·rw[sA l,pI,ka,ka,<-C];have:=h3 j Om;rw[q] at this;rw[this,cj Om];simp only[dC];rw[abf (hv _ (Gr _))]
    rw[uA Sq,uA Sq]
   refine⟨λv hv=> ?_,ys,some ⟨f,b,none⟩,cap,?_,(.inr ⟨f,b,_,0, .ro,rfl,World.block_lt_of_cell? _ _ A,Om,s,Q,?_,λi hi=> ?_⟩)⟩;·simp at hv;subst hv;exact .sl O hl (ai _) s (λh=>absurd rfl h) (λ_=>rfl)
   ·rw[z];rfl
   ·rw[z];simpa using o len Om
   obtain⟨es,h1,h2,h3,h4⟩:=M i hi;rw[S i Om es h1 h2 h4];exact h3
theorem Y0(v:ae):(uC v).cells.toList=v.cells.toList.map cz:=by
 cases v<;>try rfl
 rename_i a n c;cases a with
 | none=>rfl
 | some a=>cases n with
   | zero=>cases c<;>rfl
   | succ n=>rfl
theorem af6{v a b:ae}{r:List ae}(h:v.cells.toList=a::b::r):v= .agg (a::b::r).toArray:=by
 cases v<;>first | (exact congrArg Value.agg (by rw[<-h];simp[ci])) | (simp[ci] at h)
end
theorem agh{T:cw}{w:World}(hT:ww P w.heap.size T){f:FuncId}{args dZ:List Value}(hv:aT (kC w) args dZ)(h:aQ T f args (tC w) λv _=>v= .bool true)(hc:pP P f=true:=by kernel_rfl) :
 Calls P f dZ.toArray w λe w'=>e= .returned (.bool true)/\Below w.heap.size w w':=by
 obtain⟨n,v,H',h1,rfl⟩:=h;refine(Eu hT h1 (aiO w) hv hc).mono λe w' ⟨v',β',he,J6,hs,xn⟩=> ?_;cases J6;exact⟨he,aiQ xn⟩
end
section
open Go Go.RowKit
variable {P:aX} {B:Nat}
noncomputable def rF(P:aX)(f:Nat):yI:=(oA P (λN ops=>lX P N ops) f).getD ⟨0,[], .skip⟩
theorem sQ{T:cw}{f:aS}{args:List ae}{H H':CH}{v:ae}{Q:ae->CH->Prop}(h:aQ T f args H λu K=>u=v/\K=H'):aQ T f args H Q↔Q v H':=by
 constructor;·rintro⟨m,u,K,c,q⟩;obtain⟨n,_,_,e,rfl,rfl⟩:=h;have h1:=aan (T:=T) (yr m n) _ _ _ _ c;have h2:=aan (T:=T) (yt m n) _ _ _ _ e;rw[h1] at h2;cases h2;exact q
 exactλk=>h.mono λu K ⟨a,b⟩=>by subst a;subst b;exact k
end
section
open Go Go.RowKit
theorem aiR{a b:Int}(h1:0<=a)(h2:a<18446744073709551616)(h3:0<=b)(h4:b<18446744073709551616):bP (binOp .and 0 (.int .u64 a) (.int .u64 b))=some (.int .u64 ((a.toNat &&& b.toNat:Nat):Int)):=by
 rw[aiJ,<-u64_and a b h1 h2 h3 h4];rfl
theorem aiS{a b:Int}(h1:0<=a)(h2:a<18446744073709551616)(h3:0<=b)(h4:b<18446744073709551616):bP (binOp .or 0 (.int .u64 a) (.int .u64 b))=some (.int .u64 ((a.toNat ||| b.toNat:Nat):Int)):=by
 rw[aiK,<-u64_or a b h1 h2 h3 h4];rfl
theorem Uo(n:Nat){a b:Int}(hb:b=((2 ^ n-1:Nat):Int))(hn:n<=64)(h1:0<=a)(h2:a<18446744073709551616):bP (binOp .and 0 (.int .u64 a) (.int .u64 b))=some (.int .u64 (a % ((2 ^ n:Nat):Int))):=by
 have hp:2 ^ n<=2 ^ 64:=Nat.pow_le_pow_right de hn;have c:1<=2 ^ n:=Nat.one_le_two_pow;rw[aiR h1 h2 Om Om];congr 2
 rw[hb,fJ,Nat.and_two_pow_sub_one_eq_mod];obtain⟨A,rfl⟩:=Int.eq_ofNat_of_zero_le h1;simp
theorem abi{a:Int}(h1:0<=a)(h2:a<18446744073709551616):bP (binOp .and 0 (.int .u64 a) (.int .u64 3))=some (.int .u64 (a % 4)):=Uo 2 de de h1 h2
theorem abj{a:Int}(h1:0<=a)(h2:a<18446744073709551616):bP (binOp .and 0 (.int .u64 a) (.int .u64 255))=some (.int .u64 (a % 256)):=Uo 8 de de h1 h2
theorem abk{a:Int}(h1:0<=a)(h2:a<18446744073709551616):bP (binOp .and 0 (.int .u64 a) (.int .u64 16777215))=some (.int .u64 (a % 16777216)):=Uo 24 de de h1 h2
section
variable {k k':qn} {a:Int}
theorem abl:bP (binOp .shr 0 (.int .u64 a) (.int k' 2))=some (.int .u64 (a / 4)):=by rw[KR de];simp[Ca,SD]
theorem abm:bP (binOp .shr 0 (.int .i64 a) (.int k' 2))=some (.int .i64 (a / 4)):=by rw[KR de];simp[Ca,SD]
theorem abn:bP (binOp .shr 0 (.int .u64 a) (.int k' 8))=some (.int .u64 (a / 256)):=by rw[KR de];simp[Ca,SD]
theorem abo:bP (binOp .shr 0 (.int .u64 a) (.int k' 32))=some (.int .u64 (a / 4294967296)):=by rw[KR de];simp[Ca,SD]
theorem abp:bP (binOp .shr 0 (.int .u64 a) (.int k' 56))=some (.int .u64 (a / 72057594037927936)):=by rw[KR de];simp[Ca,SD]
theorem abq:bP (binOp .shl 0 (.int .u64 a) (.int k' 2))=some (.int .u64 (IntKind.u64.wrap (a*4))):=by rw[Ui de];simp[Ca]
theorem abr:bP (binOp .shl 0 (.int .u64 a) (.int k' 8))=some (.int .u64 (IntKind.u64.wrap (a*256))):=by rw[Ui de];simp[Ca]
theorem abt:bP (binOp .shl 0 (.int .u64 a) (.int k' 32))=some (.int .u64 (IntKind.u64.wrap (a*4294967296))):=by rw[Ui de];simp[Ca]
end
theorem abu{k:qn}{a:Int}:bP (Op.unary .neg (.int k a))=some (.int k (k.wrap (-a))):=by simp[Op.unary,Op.intArith,bP,Pure.pure]
theorem abv{b:Int}(h3:0<=b)(h4:b<18446744073709551616):bP (binOp .or 0 (.int .u64 0) (.int .u64 b))=some (.int .u64 b):=by
 rw[aiS Om Om h3 h4];simp;omega
theorem bS{H:CH}{o:dD}{k:Nat}:(H.new o).ob k=if k=H.nx then o else H.ob k:=rfl
theorem br{H:CH}{o:dD}{l k:Nat}:(H.set l o).ob k=if k=l then o else H.ob k:=rfl
theorem O'{H:CH}{l:Nat}{o:dD}:iY true H l o=H.new o:=rfl
theorem Pa{H:CH}{l:Nat}{o:dD}:iY false H l o=(H.set l .dead).new o:=rfl
theorem jD{cs us:List ae}:setCells cs 0 us=us++cs.drop us.length:=by simp[setCells]
theorem rM{c:ae}{cs us:List ae}{n:Nat}:setCells (c::cs) (n+1) us=c::setCells cs n us:=by
 simp[setCells,Nat.add_right_comm n 1]
theorem KS{a:Nat}:((a:Int)+1).toNat=a+1:=by omega
theorem abw{a:Nat}:((a:Int)+2).toNat=a+2:=by omega
theorem abx{a b:Nat}:((a:Int)+(b:Int)).toNat=a+b:=by omega
theorem aby{a b:Nat}:((a:Int)+2+(b:Int)).toNat=a+2+b:=by omega
theorem gE:maxLen=9223372036854775807:=rfl
theorem tR{z:ae}:jU [z] 1= [z]:=rfl
theorem abz{α β:Type}{f:α->β}{l:List α}:(l.map f).take l.length=l.map f:=by rw[<-eR f,ng]
theorem gi{p:Prop}[Decidable p](h:p):decide p=true:=decide_eq_true h
theorem oK{p:Prop}[Decidable p](h : ¬p):decide p=false:=decide_eq_false h
theorem aE{T:cw}{p:Prop}[Decidable p]{a b:bQ}{fr:Fr}{H:CH}{Q:bp->Fr->CH->Prop}(h1:p->dh T a fr H Q)(h2 : ¬p->dh T b fr H Q):EK T (.bool (decide p)) a b fr H Q:=
 aiG (λh=>h1 (of_decide_eq_true h)) (λh=>h2 (of_decide_eq_false h))
theorem aF{T:cw}{p:Prop}[Decidable p]{b:Bool}{d:Option Nat}{op:gB}{r:List Item}{fr:Fr}{H:CH}{K:Fr->CH->Prop}(h1:p->pV T (.bool true) b d op r fr H K)(h2 : ¬p->pV T (.bool false) b d op r fr H K):pV T (.bool (decide p)) b d op r fr H K:=
 aiH (λh=>h1 (of_decide_eq_true h)) (λh=>h2 (of_decide_eq_false h))
section
variable {T:cw}
def qF (T:cw)(af:List Item)(fr:Fr)(H:CH)(acc:List CH)(K:Fr->CH->List CH->Prop):Prop:=Cv T af fr H λf L l=>K f L (acc++l)
def xC (b:Bool)(H:CH)(acc:List CH):List CH:=if b then acc++ [H] else acc
theorem qG{H:CH}{acc:List CH}:xC true H acc=acc++ [H]:=rfl
theorem nK{H:CH}{acc:List CH}:xC false H acc=acc:=rfl
def EM(T:cw)(r:List Item)(fr:Fr)(d:Option Nat)(w:Bool)(acc:List CH)(K:Fr->CH->List CH->Prop):ae->CH->Prop:=λv H=>qF T r (bO fr d v) H (xC w H acc) K
theorem CL{r:List Item}{fr:Fr}{d:Option Nat}{w:Bool}{acc:List CH}{K:Fr->CH->List CH->Prop}{v:ae}{H:CH}:EM T r fr d w acc K v H↔qF T r (bO fr d v) H (xC w H acc) K:=eM
def sR(T:cw)(v:ae)(b:Bool)(d:Option Nat)(op:gB)(r:List Item)(fr:Fr)(H:CH)(acc:List CH)(K:Fr->CH->List CH->Prop):Prop:=match v with
 | .bool c=>if c=b then lW T fr H op (EM T r fr d (bT op) acc K) else qF T r (bO fr d kg) H (xC (bT op) H acc) K
 | .chan none=>qF T r (bO fr d kg) H (xC (bT op) H acc) K
 | _=>False
theorem KT{fr:Fr}{H:CH}{acc:List CH}{K:Fr->CH->List CH->Prop}:qF T [] fr H acc K↔K fr H acc:=by
 unfold qF;rw[aat];simp
theorem Hv{af:List Item}{fr:Fr}{H G:CH}{b:Bool}{acc:List CH}{K:Fr->CH->List CH->Prop}:(Cv T af fr H λf L l=>K f L (acc++if b then G::l else l))↔qF T af fr H (xC b G acc) K:=by
 unfold qF xC;cases b<;>simp
theorem CM{d:Option Nat}{op:gB}{r:List Item}{fr:Fr}{H:CH}{acc:List CH}{K:Fr->CH->List CH->Prop}:qF T (⟨d,op,none⟩::r) fr H acc K↔lW T fr H op (EM T r fr d (bT op) acc K):=by
 unfold qF;rw[OQ];simp only[eG];unfold EM;constructor<;>rintro⟨n,v,H',h1,h2⟩;·exact⟨n,v,H',h1,Hv.1 h2⟩
 exact⟨n,v,H',h1,Hv.2 h2⟩
theorem abA{d:Option Nat}{op:gB}{s:Nat}{b:Bool}{r:List Item}{fr:Fr}{H:CH}{acc:List CH}{K:Fr->CH->List CH->Prop}:qF T (⟨d,op,some (s,b)⟩::r) fr H acc K↔sR T (fr s) b d op r fr H acc K:=by
 unfold qF;rw[OQ];simp only[eG];generalize fr s=v;unfold sR;cases v with
 | bool c=>
   simp only;by_cases e:c=b
   ·subst e;simp only[beq_self_eq_true,iT];unfold EM;constructor<;>rintro⟨n,v,H',h1,h2⟩;·exact⟨n,v,H',h1,Hv.1 h2⟩
    exact⟨n,v,H',h1,Hv.2 h2⟩
   have:(c==b)=false:=by simpa using e
   simp only[this,iN e];exact Hv
 | chan r=>cases r<;>first | exact Hv | exact eM
 | _=>exact eM
variable {d:Option Nat} {op:gB} {r:List Item} {fr:Fr} {H:CH} {acc:List CH} {K:Fr->CH->List CH->Prop}
theorem abB:sR T (.bool true) true d op r fr H acc K↔lW T fr H op (EM T r fr d (bT op) acc K):=by simp[sR]
theorem abC:sR T (.bool false) false d op r fr H acc K↔lW T fr H op (EM T r fr d (bT op) acc K):=by simp[sR]
theorem abD:sR T (.bool true) false d op r fr H acc K↔qF T r (bO fr d kg) H (xC (bT op) H acc) K:=by simp[sR]
theorem abE:sR T (.bool false) true d op r fr H acc K↔qF T r (bO fr d kg) H (xC (bT op) H acc) K:=by simp[sR]
theorem abF{b:Bool}:sR T kg b d op r fr H acc K↔qF T r (bO fr d kg) H (xC (bT op) H acc) K:=by simp[sR,kg]
theorem aG{p:Prop}[Decidable p]{b:Bool}(h1:p->sR T (.bool true) b d op r fr H acc K)(h2 : ¬p->sR T (.bool false) b d op r fr H acc K):sR T (.bool (decide p)) b d op r fr H acc K:=by
 by_cases h:p
 ·rw[decide_eq_true h];exact h1 h
 rw[decide_eq_false h];exact h2 h
def uW:List (Item×Nat)->Fr->List CH->Prop->Prop
 | [],_,_,R=>R
 | (it,k)::cs,fr,l,R=>(∃G,l[k]? = some G/\wq fr G it)/\uW cs fr l R
theorem aiT{cs:List (Item×Nat)}{fr:Fr}{l:List CH}{R:Prop}:uW cs fr l R↔(∀p∈cs,∃G,l[p.2]? = some G/\wq fr G p.1)/\R:=by
 induction cs with
 | nil=>simp[uW]
 | cons c cs b=>obtain⟨it,k⟩:=c;simp only[uW,b,mD,forall_eq_or_imp,and_assoc]
def Up (nB:List (Item×Nat))(b:CH)(Q:bp->Fr->CH->Prop):Fr->CH->List CH->Prop:=λfr H l=>uW nB fr (b::l) (Q .normal fr H)
theorem KU{nB:List (Item×Nat)}{b:CH}{Q:bp->Fr->CH->Prop}{l:List CH}:Up nB b Q fr H l↔uW nB fr (b::l) (Q .normal fr H):=eM
theorem Pb{af:List Item}{pn:Option (List Item)}{c:Item×Nat}{cs:List (Item×Nat)}{Q:bp->Fr->CH->Prop}:dh T (.mJ ⟨af,c::cs,pn⟩) fr H Q↔qF T af fr H [] (Up (c::cs) H Q):=by
 rw[TN];unfold qF Up;simp only[ju,aiT]
def CN (o:Option ae)(v:ae)(R:Prop):Prop:=o=some v/\R
theorem KV{v:ae}{R:Prop}:CN (some v) v R↔R:=by simp[CN]
def wD (v:ae)(b:Bool)(g:Option CH)(x:iK)(d:Nat)(fr:Fr)(R:Prop):Prop:=
 (∃G,g=some G/\((match v with | .bool c=>some (c==b) | .chan none=>some false | _=>none)=some false\/aD G (aJ fr) x=some (fr d)))/\R
def Pc (g:Option CH)(x:iK)(d:Nat)(fr:Fr)(R:Prop):Prop:=(∃G,g=some G/\aD G (aJ fr) x=some (fr d))/\R
theorem KW{l:List CH}{R:Prop}:uW [] fr l R↔R:=eM
theorem KX{d:Nat}{x:iK}{k:Nat}{cs:List (Item×Nat)}{l:List CH}{R:Prop}:uW ((⟨some d, .l x,none⟩,k)::cs) fr l R↔Pc l[k]? x d fr (uW cs fr l R):=by
 simp[uW,Pc,wq,eG]
theorem abG{d:Nat}{x:iK}{s k:Nat}{b:Bool}{cs:List (Item×Nat)}{l:List CH}{R:Prop}:uW ((⟨some d, .l x,some (s,b)⟩,k)::cs) fr l R↔wD (fr s) b l[k]? x d fr (uW cs fr l R):=by
 simp only[uW,wD,wq];have:eG fr (some (s,b))=(match fr s with | .bool c=>some (c==b) | .chan none=>some false | _=>none):=by
  unfold eG;simp only;cases fr s<;>rfl
 rw[this];simp
theorem KY{G:CH}{x:iK}{d:Nat}{R:Prop}:Pc (some G) x d fr R↔CN (aD G (aJ fr) x) (fr d) R:=by simp[Pc,CN]
theorem abH{G:CH}{x:iK}{d:Nat}{R:Prop}:wD (.bool true) true (some G) x d fr R↔CN (aD G (aJ fr) x) (fr d) R:=by simp[wD,CN]
theorem abI{G:CH}{x:iK}{d:Nat}{R:Prop}:wD (.bool false) false (some G) x d fr R↔CN (aD G (aJ fr) x) (fr d) R:=by simp[wD,CN]
theorem abJ{G:CH}{x:iK}{d:Nat}{R:Prop}:wD (.bool true) false (some G) x d fr R↔R:=by simp[wD]
theorem abK{G:CH}{x:iK}{d:Nat}{R:Prop}:wD (.bool false) true (some G) x d fr R↔R:=by simp[wD]
theorem abL{b:Bool}{G:CH}{x:iK}{d:Nat}{R:Prop}:wD kg b (some G) x d fr R↔R:=by simp[wD,kg]
end
end
section
open Go Go.RowKit
variable {T:cw}
def EN (af:List Item):List Nat:=af.filterMap (·.dst)
def xD:bQ->List Nat
 | .mI af=>EN af
 | .mJ d=>EN d.af
 | .seq a b=>xD a++xD b
 | .cond _ a b=>xD a++xD b
 | .block _ c=>xD c
 | .loop c=>xD c
 | _=> []
def nw (c:bQ)(t:Nat):Bool:= !(xD c).elem t
theorem aiU{h:Hd}{it:Item}{fr fr':Fr}{H H':CH}(hs:cX h it fr H=some (fr',H')){t:Nat}(ht:it.dst≠some t):fr' t=fr t:=by
 have hp : ∀v,bO fr it.dst v t=fr t:=λv=>by
  cases hd:it.dst with
  | none=>rfl
  | some d=>simp only[bO];rw[iN];rintro rfl;exact ht hd
 simp only[cX] at hs;split at hs
 ·cases b:eA h fr H it.op with
  | none=>rw[b] at hs;cases hs
  | some q=>rw[b] at hs;cases hs;exact hp _
 ·cases hs;exact hp _
 cases hs
theorem abM{h:Hd}{t:Nat} : ∀ {af:List Item} {fr fr':Fr} {H H':CH},dP h af fr H=some (fr',H')->t∉EN af->fr' t=fr t
 | [],fr,fr',H,H',b,ht=>by simp only[dP,Option.some.injEq,Prod.mk.injEq] at b;rw[b.1]
 | it::af,fr,fr',H,H',b,ht=>by
   simp only[dP] at b;cases hs:cX h it fr H with
   | none=>rw[hs] at b;cases b
   | some q=>
     rw[hs] at b;have h1:it.dst≠some t:=λe=>ht (by simp[EN,e]);have h2:t∉EN af:=λc=>ht (by
      simp only[EN,List.mem_filterMap] at c⊢;obtain⟨x,hx,hd⟩:=c;exact⟨x,List.mem_cons_of_mem _ hx,hd⟩)
     exact(abM b h2).trans (aiU hs h1)
theorem abN{t:Nat}{f:Fr->CH->G3}(e : ∀fr H x fr' H',f fr H=some (x,fr',H')->fr' t=fr t) : ∀ {n:Nat} {fr fr':Fr} {H H':CH} {x:bp},pQ n f fr H=some (x,fr',H')->fr' t=fr t
 | 0,fr,fr',H,H',x,b=>by simp[pQ] at b
 | n+1,fr,fr',H,H',x,b=>by
   simp only[pQ] at b;cases c:f fr H with
   | none=>rw[c] at b;cases b
   | some q=>
     obtain⟨y,am,H1⟩:=q;rw[c] at b;have h1:=e _ _ _ _ _ c;cases y with
     | normal=>exact(abN e b).trans h1
     | exit i=>cases b;exact h1
     | ret=>cases b;exact h1
theorem aiV{h:Hd}{n t:Nat} : ∀ {c:bQ} {fr fr':Fr} {H H':CH} {x:bp},bE h n c fr H=some (x,fr',H')->t∉xD c->fr' t=fr t:=by
 intro c;induction c with
 | bad=>intro fr fr' H H' x f ht;simp[bE] at f
 | skip=>intro fr fr' H H' x f ht;simp only[bE,Option.some.injEq,Prod.mk.injEq] at f;rw[f.2.1]
 | mI af=>
   intro fr fr' H H' x f ht;simp only[bE] at f;cases hi:dP h af fr H with
   | none=>rw[hi] at f;cases f
   | some q=>rw[hi] at f;cases f;exact abM hi ht
 | mJ d=>
   intro fr fr' H H' x f ht;simp only[bE,uP] at f;cases hi:cH h d.af fr H with
   | none=>rw[hi] at f;cases f
   | some q=>
     obtain⟨f1,K,l⟩:=q;rw[hi] at f;simp only at f;split at f;·cases f;exact EA (λy p e=>ht (by simp only[xD,EN,List.mem_filterMap];exact⟨y,p,e⟩)) hi
     cases f
 | seq a b j m=>
   intro fr fr' H H' x f ht;simp only[xD,gu,not_or] at ht;simp only[bE] at f;cases ha:bE h n a fr H with
   | none=>rw[ha] at f;cases f
   | some q=>
     obtain⟨y,am,H1⟩:=q;rw[ha] at f;have h1:=j ha ht.1;cases y with
     | normal=>exact(m f ht.2).trans h1
     | exit i=>cases f;exact h1
     | ret=>cases f;exact h1
 | cond c a b j m=>
   intro fr fr' H H' x f ht;simp only[xD,gu,not_or] at ht;simp only[bE] at f;split at f;·exact j f ht.1
   ·exact m f ht.2
   cases f
 | block id c o=>
   intro fr fr' H H' x f ht;simp only[bE] at f;cases ha:bE h n c fr H with
   | none=>rw[ha] at f;cases f
   | some q=>
     obtain⟨y,am,H1⟩:=q;rw[ha] at f;have h1:=o ha ht;cases y with
     | normal=>cases f;exact h1
     | exit i=>simp only at f;split at f<;>(cases f;exact h1)
     | ret=>cases f;exact h1
 | loop c o=>
   intro fr fr' H H' x f ht;simp only[bE] at f;exact abN (λfr H x fr' H' s=>o s ht) f
 | exit id=>intro fr fr' H H' x f ht;simp only[bE,Option.some.injEq,Prod.mk.injEq] at f;rw[f.2.1]
 | ret=>intro fr fr' H H' x f ht;simp only[bE,Option.some.injEq,Prod.mk.injEq] at f;rw[f.2.1]
 | sN g key=>
   intro fr fr' H H' x f ht;simp only[bE] at f;split at f
   ·split at f
    ·split at f
     ·split at f;·cases f
      cases f;rfl
     cases f
    cases f
   cases f
theorem abO{c:bQ}{fr:Fr}{H:CH}{Q:bp->Fr->CH->Prop}(h:dh T c fr H Q):dh T c fr H λx fr' H'=>Q x fr' H'/\∀t,nw c t=true->fr' t=fr t:=by
 obtain⟨n,x,fr',H',h1,h2⟩:=h;exact⟨n,x,fr',H',h1,h2,λt ht=>aiV h1 (by simpa[nw] using ht)⟩
theorem ef{c:bQ}{Q:bp->Fr->CH->Prop}(I:Nat->Fr->CH->Prop){n:Nat}{fr:Fr}{H:CH}(e:I n fr H)(step : ∀n am H1,I n am H1->(∀t,nw c t=true->am t=fr t)->dh T c am H1 (Hr I n Q)):dh T (.loop c) fr H Q:=by
 refine aiI (λm am H1=>I m am H1/\∀t,nw c t=true->am t=fr t) ?_ ⟨e,λ_ _=>rfl⟩;rintro m am H1 ⟨hi,hk⟩;refine(abO (step m am H1 hi hk)).mono λx fr' H' ⟨b,f⟩=> ?_;cases x with
 | normal=>obtain⟨k,h,j⟩:=b;exact⟨k,h,j,λt ht=>(f t ht).trans (hk t ht)⟩
 | exit i=>exact b
 | ret=>exact b
def lY (e sz bytes:Nat)(s:ae)(xs:List ae)(m:Nat)(H:CH):Option (ae×CH):=match s with
 | .slice none 0 0=>if m=0 then some (.slice none 0 0,H) else if xs.all a8=true/\m*bytes<=140737488355328/\m<=maxLen then some (.slice (some ⟨H.nx,0,none⟩) m m,H.new (.cells xs e .gr)) else none
 | .slice (some ⟨a,b,some 0⟩) 0 0=>if m=0 then some (.slice (some ⟨a,b,some 0⟩) 0 0,H) else if xs.all a8=true/\m*bytes<=140737488355328/\m<=maxLen then some (.slice (some ⟨H.nx,0,none⟩) m m,H.new (.cells xs e .gr)) else none
 | .slice (some ⟨l,o,none⟩) n c=>match H.ob l with
   | .cells cs e' k=>
     if m=0 then some (.slice (some ⟨l,o,none⟩) n c,H)
     else if o=0/\e'=e/\k.bY=false/\n*sz<=cs.length/\xs.all a8=true/\(n+m)*bytes<=140737488355328/\n+m<=maxLen then
      some (.slice (some ⟨H.nx,0,none⟩) (n+m) (n+m),iY (k.jv&&decide (c<n+m)) H l (.cells (cs.take (n*sz)++xs) e .gr))
     else if k.jv=true/\c<n+m/\e'=e/\o+n*sz<=cs.length/\xs.all a8=true/\(n+m)*bytes<=140737488355328/\n+m<=maxLen then
      some (.slice (some ⟨H.nx,0,none⟩) (n+m) (n+m),H.new (.cells ((cs.drop o).take (n*sz)++xs) e .gr))
     else if (k.jv&&decide (c<n+m))=false/\e'=e/\k.bY=false/\o+n*sz<=cs.length/\xs.all a8=true/\(n+m+(n+m) / 4+192)*bytes<=281474976710656/\n+m<=maxLen then
      some (.slice (some ⟨H.nx,0,none⟩) (n+m) (n+m),(H.set l .dead).new (.cells ((cs.drop o).take (n*sz)++xs) e .gr))
     else none
   | _=>none
 | _=>none
theorem Pd{e sz bytes m:Nat}{xs:List ae}{H:CH}:lY e sz bytes (.slice none 0 0) xs m H=if m=0 then some (.slice none 0 0,H) else if xs.all a8=true/\m*bytes<=140737488355328/\m<=maxLen then some (.slice (some ⟨H.nx,0,none⟩) m m,H.new (.cells xs e .gr)) else none:=rfl
theorem Pe{e sz bytes m a b:Nat}{xs:List ae}{H:CH}:lY e sz bytes (.slice (some ⟨a,b,some 0⟩) 0 0) xs m H=if m=0 then some (.slice (some ⟨a,b,some 0⟩) 0 0,H) else if xs.all a8=true/\m*bytes<=140737488355328/\m<=maxLen then some (.slice (some ⟨H.nx,0,none⟩) m m,H.new (.cells xs e .gr)) else none:=rfl
def Uq (q:dD)(e sz bytes l o n c:Nat)(xs:List ae)(m:Nat)(H:CH):Option (ae×CH):=match q with
 | .cells cs e' k=>
   if m=0 then some (.slice (some ⟨l,o,none⟩) n c,H)
   else if o=0/\e'=e/\k.bY=false/\n*sz<=cs.length/\xs.all a8=true/\(n+m)*bytes<=140737488355328/\n+m<=maxLen then
    some (.slice (some ⟨H.nx,0,none⟩) (n+m) (n+m),iY (k.jv&&decide (c<n+m)) H l (.cells (cs.take (n*sz)++xs) e .gr))
   else if k.jv=true/\c<n+m/\e'=e/\o+n*sz<=cs.length/\xs.all a8=true/\(n+m)*bytes<=140737488355328/\n+m<=maxLen then
    some (.slice (some ⟨H.nx,0,none⟩) (n+m) (n+m),H.new (.cells ((cs.drop o).take (n*sz)++xs) e .gr))
   else if (k.jv&&decide (c<n+m))=false/\e'=e/\k.bY=false/\o+n*sz<=cs.length/\xs.all a8=true/\(n+m+(n+m) / 4+192)*bytes<=281474976710656/\n+m<=maxLen then
    some (.slice (some ⟨H.nx,0,none⟩) (n+m) (n+m),(H.set l .dead).new (.cells ((cs.drop o).take (n*sz)++xs) e .gr))
   else none
 | _=>none
theorem Ur{cs:List ae}{e':Nat}{k:Kd}{e sz bytes l o n c m:Nat}{xs:List ae}{H:CH}:Uq (.cells cs e' k) e sz bytes l o n c xs m H=if m=0 then some (.slice (some ⟨l,o,none⟩) n c,H)
 else if o=0/\e'=e/\k.bY=false/\n*sz<=cs.length/\xs.all a8=true/\(n+m)*bytes<=140737488355328/\n+m<=maxLen then
  some (.slice (some ⟨H.nx,0,none⟩) (n+m) (n+m),iY (k.jv&&decide (c<n+m)) H l (.cells (cs.take (n*sz)++xs) e .gr))
 else if k.jv=true/\c<n+m/\e'=e/\o+n*sz<=cs.length/\xs.all a8=true/\(n+m)*bytes<=140737488355328/\n+m<=maxLen then
  some (.slice (some ⟨H.nx,0,none⟩) (n+m) (n+m),H.new (.cells ((cs.drop o).take (n*sz)++xs) e .gr))
 else if (k.jv&&decide (c<n+m))=false/\e'=e/\k.bY=false/\o+n*sz<=cs.length/\xs.all a8=true/\(n+m+(n+m) / 4+192)*bytes<=281474976710656/\n+m<=maxLen then
  some (.slice (some ⟨H.nx,0,none⟩) (n+m) (n+m),(H.set l .dead).new (.cells ((cs.drop o).take (n*sz)++xs) e .gr))
 else none:=rfl
theorem Us{e sz bytes l o n c m:Nat}{xs:List ae}{H:CH}:lY e sz bytes (.slice (some ⟨l,o,none⟩) n c) xs m H=Uq (H.ob l) e sz bytes l o n c xs m H:=by
 simp only[lY,Uq]
def Pf (o:Option (List ae×Nat))(e sz bytes:Nat)(s:ae)(H:CH):Option (ae×CH):=match o with
 | some (xs,m)=>lY e sz bytes s xs m H
 | none=>none
theorem kO{xs:List ae}{m e sz bytes:Nat}{s:ae}{H:CH}:Pf (some (xs,m)) e sz bytes s H=lY e sz bytes s xs m H:=rfl
theorem mP{H:CH}{ev:av->ae}{e sz bytes:Nat}{s x:av}:bq H ev (.app e sz bytes s x)=Pf (oj H sz (ev x)) e sz bytes (ev s) H:=by
 simp only[bq];cases oj H sz (ev x) with
 | none=>rfl
 | some q=>rfl
theorem abP{z:ae}:jU [z] 2= [z,z]:=by simp[jU,mB,List.range.loop,Nat.mod_one]
theorem Pg{z:ae}:jU [z] 3= [z,z,z]:=by simp[jU,mB,List.range.loop,Nat.mod_one]
def Ut (o:dD)(off m sz:Nat):Option (List ae×Nat):=match o with
 | .cells cs _ _=>if off+m*sz<=cs.length then some ((cs.drop off).take (m*sz),m) else none
 | _=>none
theorem kQ{cs:List ae}{e off m sz:Nat}{k:Kd}:Ut (.cells cs e k) off m sz=if off+m*sz<=cs.length then some ((cs.drop off).take (m*sz),m) else none:=rfl
theorem Ph{H:CH}{sz:Nat}:oj H sz (.slice none 0 0)=some ([],0):=rfl
theorem Pj{H:CH}{sz a b k:Nat}:oj H sz (.slice (some ⟨a,b,some k⟩) 0 0)=some ([],0):=rfl
theorem pu{H:CH}{sz l o m c:Nat}:oj H sz (.slice (some ⟨l,o,none⟩) m c)=if m=0 then some ([],0) else Ut (H.ob l) o m sz:=by
 simp only[oj,Ut];split;·rfl
 cases H.ob l<;>rfl
theorem Pk{H:CH}{sz:Nat}{s:ByteArray}:oj H sz (.string s)=if sz=1 then some (s.data.toList.map λb=> .int .u8 b.toNat,s.size) else none:=rfl
def eV {α:Type}(A:CH)(e sz:Nat)(f:α->List ae)(K:CH)(v:ae)(xs:List α):Prop:=
 (xs= []/\v= .slice none 0 0)\/∃b kd,v= .slice (some ⟨b,0,none⟩) xs.length xs.length/\A.nx<=b/\b<K.nx/\K.ob b= .cells (xs.flatMap f) e kd/\kd.bY=false
theorem eV.nil{α:Type}{A:CH}{e sz:Nat}{f:α->List ae}{K:CH}:eV A e sz f K (.slice none 0 0) []:= .inl ⟨rfl,rfl⟩
theorem Pm{α:Type}{f:α->List ae}{sz:Nat}(b : ∀x,(f x).length=sz) : ∀xs:List α,(xs.flatMap f).length=xs.length*sz
 | []=>by simp
 | x::xs=>by simp only[tw,cG,b,Pm b xs,bN,Nat.succ_mul];omega
theorem aiW{α:Type}{A K:CH}{e sz bytes:Nat}{f:α->List ae}(q : ∀x,(f x).length=sz/\(f x).all a8=true){v:ae}{xs ys:List α}(hg:eV A e sz f K v xs)(hA:ag A K)(hb:(xs.length+ys.length)*bytes<=140737488355328)(s:xs.length+ys.length<=9223372036854775807) :
 ∃v' K',lY e sz bytes v (ys.flatMap f) ys.length K=some (v',K')/\eV A e sz f K' v' (xs++ys)/\ag A K'/\K.nx<=K'.nx/\∀l,l<K.nx->(∀o n c,v≠ .slice (some ⟨l,o,none⟩) n c)->K'.ob l=K.ob l:=by
 have t:(ys.flatMap f).all a8=true:=by
  rw[List.all_eq_true];intro x hx;obtain⟨y,_,C⟩:=List.mem_flatMap.1 hx;exact List.all_eq_true.1 (q y).2 x C
 rcases hg with ⟨rfl,rfl⟩ | ⟨b,kd,rfl,h1,h2,h3,u⟩
 ·by_cases j:ys.length=0
  ·have:ys= []:=List.length_eq_zero_iff.1 j;subst this;exact⟨_,K,by simp[lY], .inl ⟨rfl,rfl⟩,hA,ai _,λ_ _ _=>rfl⟩
  refine⟨_,_,by simp only[lY,j,iF];rw[iP ⟨t,by simpa using hb,by rw[gE];simpa using s⟩], .inr ⟨K.nx, .gr,Sm,hA.nx,fN _,by simp[bS],rfl⟩,hA.new _,mC _,λl hl _=>by rw[bS,iN Om]⟩
 by_cases j:ys.length=0
 ·have:ys= []:=List.length_eq_zero_iff.1 j;subst this;exact⟨.slice (some ⟨b,0,none⟩) xs.length xs.length,K,by simp[lY,h3], .inr ⟨b,kd,Sm,h1,h2,by simpa using h3,u⟩,hA,ai _,λ_ _ _=>rfl⟩
 have i:(xs.flatMap f).length=xs.length*sz:=Pm (λx=>(q x).1) xs;have m : ∀o,(iY (kd.jv&&decide (xs.length<xs.length+ys.length)) K b o).nx=K.nx+1:=λo=>by unfold iY;split<;>rfl
 have D : ∀o,(iY (kd.jv&&decide (xs.length<xs.length+ys.length)) K b o).ob K.nx=o:=λo=>by
  unfold iY;split<;>(simp only[CH.new,CH.set];simp)
 have z : ∀o l,l<K.nx->l≠b->(iY (kd.jv&&decide (xs.length<xs.length+ys.length)) K b o).ob l=K.ob l:=λo l hl hb=>by
  unfold iY;split;·rw[bS,iN Om]
  rw[bS,iN (by show l≠K.nx;omega),br,iN hb]
 refine⟨_,_,by simp only[lY,h3,j,iF];rw[iP ⟨trivial,trivial,u,by rw[i];exact ai _,t,hb,by rw[gE];exact s⟩], .inr ⟨K.nx, .gr,Sm,hA.nx,?_,?_,rfl⟩,?_,?_,λl hl aB=> ?_⟩;·rw[m];exact fN _
 ·rw[D,<-i,ng,zZ]
 ·refine⟨by rw[m];exact xc hA.nx,λl hl=> ?_⟩;rw[z _ l (cQ hl hA.nx) Om];exact hA.ob l hl
 ·rw[m];exact mC _
 refine z _ l hl ?_;rintro rfl;exact aB _ _ _ rfl
theorem eV.ext{α:Type}{A:CH}{e sz:Nat}{f:α->List ae}{K K':CH}{v:ae}{xs:List α}(h:eV A e sz f K v xs)(hx:ag K K'):eV A e sz f K' v xs:=by
 rcases h with h | ⟨b,kd,c,h1,h2,h3,h4⟩
 ·exact .inl h
 exact .inr ⟨b,kd,c,h1,cQ h2 hx.nx,(hx.ob b h2).trans h3,h4⟩
theorem eV.low{α:Type}{A c:CH}{e sz:Nat}{f:α->List ae}{K:CH}{v:ae}{xs:List α}(h:eV A e sz f K v xs)(hx:c.nx<=A.nx):eV c e sz f K v xs:=by
 rcases h with h | ⟨b,kd,i,h1,h2,h3,h4⟩
 ·exact .inl h
 exact .inr ⟨b,kd,i,cy hx h1,h2,h3,h4⟩
theorem yS{α:Type}{A K:CH}{e sz bytes:Nat}{f:α->List ae}(b : ∀x,(f x).length=sz/\(f x).all a8=true){v:ae}{xs ys:List α}(hg:eV A e sz f K v xs)(hA:ag A K)(hb:(xs.length+ys.length)*bytes<=140737488355328)(h:xs.length+ys.length<=9223372036854775807){us:List ae}{m:Nat}(hu:us=ys.flatMap f)(hl:m=ys.length)
 {Q:ae->CH->Prop} (k : ∀v' K',eV A e sz f K' v' (xs++ys)->ag A K'->K.nx<=K'.nx->(∀l,l<K.nx->(∀o n c,v≠ .slice (some ⟨l,o,none⟩) n c)->K'.ob l=K.ob l)->Q v' K'):uV (lY e sz bytes v us m K) Q:=by
 subst hu hl;obtain⟨v',K',h1,h2,h3,h4,h5⟩:=aiW b hg hA hb h;rw[h1];exact k v' K' h2 h3 h4 h5
def ints (k:qn):Int->List ae:=λx=> [.int k x]
theorem Uu(k:qn) : ∀x,(ints k x).length=1/\(ints k x).all a8=true:=λx=>⟨rfl,rfl⟩
theorem Pn(k:qn)(xs:List Int):xs.flatMap (ints k)=xs.map (.int k):=by
 induction xs with
 | nil=>rfl
 | cons x xs b=>simp only[tw,b,ints,c8,gZ,ju]
theorem abQ{k:qn}{H:CH}{q:Option cB}{c:Nat}{xs:List Int}(h:ig 1 (pY k) H q c xs):oj H 1 (.slice q xs.length c)=some (xs.flatMap (ints k),xs.length):=by
 rw[Pn];rcases h with ⟨rfl,rfl,rfl | rfl | rfl⟩ | ⟨l,o,os,e,kd,rfl,hl,hc,s,f,j,m⟩
 ·rfl
 ·rfl
 ·rfl
 by_cases b:xs.length=0
 ·have:xs= []:=List.length_eq_zero_iff.1 b;subst this;simp[oj]
 simp only[oj,iN b,f];rw[iP j];congr 2
 apply N0;·simp;omega
 intro i h1 h2;have hi:i<xs.length:=by simpa using h2
 have h3:=(m i hi).1;have h4:((os.drop (o+i*1)).take 1)[0]? = some (.int k xs[i]):=by rw[h3];rfl
 rw[sA Om,pI] at h4;have h5:os[o+i]? = some (.int k xs[i]):=by simpa using h4
 rw[List.getElem_take,YS,Jj];rw[List.getElem?_eq_some_iff] at h5;obtain⟨_,n⟩:=h5;exact n
end
section
open Go Go.RowKit
variable {P:aX} {B:Nat}
section
variable {H:Type} {enc:aI×ae->H} {w:ay} {base:Nat} {spare:Nat->Bool} {held:Bool} {Bk:pK H->Nat}
structure Uv(Bk:pK H->Nat):Prop where
 one : ∀d,1<=Bk d
 slice : ∀elems spare,(elems.map Bk).sum+1<=Bk (.slice elems spare)
 agg : ∀parts,(parts.map Bk).sum+1<=Bk (.agg parts)
 str : ∀bs,bs.length+1<=Bk (.lit (.string bs))
def CO {α:Type}(Bk:pK H->Nat)(enc:aI×ae->H)(P:aX)(w:ay)(base:Nat)(spare:Nat->Bool)(held:Bool)(t:aI)(sz:Nat)(R:uD α)(Z:α->Prop)(μ:α->Nat):Prop:=
 ∀fuel cs x,DataW.trod enc P w base spare held fuel t cs=some x->cs.length=sz/\(∀v∈cs,VR (kC w) (cz v) v)/\∃y,R (tC w) (cs.map cz) y/\((x.1.weights P t).all (· <=reachBytes)=true->Z y)/\μ y<=Bk x.1
theorem agf(b:Uv Bk){t:aI}{k:qn}(ht:P.underlying t=some (.int k)):CO Bk enc P w base spare held t 1 (pY k) (λ_=>True) (λ_=>1):=by
 intro fuel cs x h;obtain⟨n,rfl,_,h3⟩:=DataW.trod_int ht h;exact⟨rfl,λv hv=>by simp at hv;subst hv;exact .int _ _,n,⟨rfl,h3⟩,λ_=>trivial,b.one _⟩
theorem aiX{xs ys:List Nat}(hl:xs.length=ys.length)(h : ∀i (h1:i<xs.length) (h2:i<ys.length),xs[i]<=ys[i]):xs.sum<=ys.sum:=by
 induction xs generalizing ys with
 | nil=>simp
 | cons x xs b=>
   cases ys with
   | nil=>simp at hl
   | cons y ys=>
     have c:=h 0 Sm Sm;have:=b (ys:=ys) (by simpa using hl) (λi h1 h2=>h (i+1) (by simpa using h1) (by simpa using h2));simp at c⊢;omega
theorem abR{e:aI}{d:pK H} : ∀ {l:List (pK H)},(DataW.weightsAll P e l).all (· <=reachBytes)=true->d∈l->(d.weights P e).all (· <=reachBytes)=true
 | [],_,h=>by cases h
 | x::l,h,hd=>by
   simp only[DataW.weightsAll,List.all_append,fV] at h;rcases List.mem_cons.1 hd with rfl | hd
   ·exact h.1
   exact abR h.2 hd
theorem age(q:Uv Bk){α:Type}{R:uD α}{Z:α->Prop}{μ:α->Nat}{t e:aI}{sz:Nat}(ht:P.underlying t=some (.slice e))(hc:P.cellsOf e=sz)(hp:0<sz)(he:CO Bk enc P w base spare held e sz R Z μ) :
 CO Bk enc P w base spare held t 1 (CSl sz R) (λxs=>xs.length*P.bytesOf e<=reachBytes/\∀x∈xs,Z x) (λxs=>(xs.map μ).sum+1):=by
 intro fuel cs x h;rcases Deep.open_slice ht h with ⟨rfl,rfl⟩ | ⟨a,len,cap,m,n,D,Pl,rfl,hb,hl,s,J,C,hx⟩
 ·exact⟨rfl,λv hv=>by simp at hv;subst hv;exact .Af,[],⟨none,0,rfl, .inl ⟨rfl,rfl, .inl rfl⟩⟩,λ_=>⟨Sm,λx hx=>by cases hx⟩,by simpa using q.one _⟩
 refine⟨rfl,?_⟩;cases len with
 | zero=>
   cases cap with
   | zero=>exact⟨λv hv=>by simp at hv;subst hv;exact .xi a,[],⟨some ⟨0,0,some 0⟩,0,rfl, .inl ⟨rfl,rfl, .inr (.inl rfl)⟩⟩,λ_=>⟨Sm,λx hx=>by cases hx⟩,by simpa using q.one _⟩
   | succ c=>exact⟨λv hv=>by simp at hv;subst hv;exact .yy a (c+1),[],⟨some ⟨0,0,some 1⟩,0,rfl, .inl ⟨rfl,rfl, .inr (.inr rfl)⟩⟩,λ_=>⟨Sm,λx hx=>by cases hx⟩,by simpa using q.one _⟩
 | succ len=>
   have JB:len+1<=m:=by rw[J];split<;>omega
   have each : ∀i,i<len+1->∃y:α,∃es:List ae,es.length=sz/\(∀v∈es,VR (kC w) (cz v) v)/\(R (tC w) (es.map cz) y/\((((D i).weights P e).all (· <=reachBytes)=true->Z y)/\μ y<=Bk (D i)))/\∀j (f:j<es.length),w.cell? ((a.add (i*sz)).add j)=some es[j]:=by
    intro i hi;obtain⟨cs',h1,h2⟩:=hx i Om;obtain⟨L,hv,y,M,hz,s⟩:=he _ _ _ h2;rw[hc] at h1;obtain⟨_,_,N⟩:=World.cells?_some h1;exact⟨y,cs',L,hv,⟨M,hz,s⟩,λj f=>by rw[N j Om,cj f]⟩
   have F:a.spot=none:=by
    obtain⟨_,es,h1,_,_,h3⟩:=each 0 Om;have:=h3 0 Om;simp only[xf,Addr.add,iT] at this;unfold DR at this;cases hs:a.spot with
    | none=>rfl
    | some k=>
      split at this;·simp[hs] at this
      cases this
   obtain⟨l,b,O⟩:=a;simp only at F;subst F;have u : ∀k j,(((⟨l,b,none⟩:cB).add k).add j)=⟨l,b+k+j,none⟩:=by
    intro k j;unfold Addr.add
    (repeat' split)<;>simp_all
   obtain⟨ys,z,A⟩:=abd each;have Q : ∃v,w.cell? ⟨l,b,none⟩=some v:=by
    obtain⟨_,es,h1,_,_,h3⟩:=each 0 Om;have:=h3 0 Om;rw[u] at this;simp only[xf,mA] at this;exact⟨_,this⟩
   obtain⟨v0,G⟩:=Q;obtain⟨nn,os,S,U,I⟩:=abg G;have o : ∀i,i<len+1->b+(i+1)*sz<=os.length:=by
    intro i hi;obtain⟨_,es,h1,_,_,h3⟩:=each i hi;have:=h3 (sz-1) Om;rw[u,I] at this;have:=(List.getElem?_eq_some_iff.1 this).1;rw[qt,xg];omega
   have V : ∀i,i<len+1->∀es:List ae,es.length=sz->(∀v∈es,VR (kC w) (cz v) v)->(∀j (f:j<es.length),w.cell? (((⟨l,b,none⟩:cB).add (i*sz)).add j)=some es[j])->
    ((os.map (mask (kC w))).drop (b+i*sz)).take sz=es.map cz:=by
    intro i hi es h1 hv h3;apply DV;intro j;by_cases f:j<sz
    ·rw[sA f,pI,ka,ka,<-I];have:=h3 j Om;rw[u] at this;rw[this,cj Om];simp only[dC];rw[abf (hv _ (Gr _))]
    rw[uA Sq,uA Sq]
   refine⟨λv hv=> ?_,ys,⟨some ⟨l,b,none⟩,cap,?_,(.inr ⟨l,b,_,0, .ro,rfl,World.block_lt_of_cell? _ _ G,Om,s,U,?_,λi hi=> ?_⟩)⟩,λhz=> ?_,?_⟩;·simp at hv;subst hv;exact .sl S hl (ai _) s (λh=>absurd rfl h) (λ_=>rfl)
   ·rw[z];rfl
   ·rw[z];simpa using o len Om
   ·obtain⟨es,h1,h2,h3,h4⟩:=A i hi;rw[V i Om es h1 h2 h4];exact h3.1
   ·rw[C] at hz;simp only[DataW.weights,ht,qw,List.all_append,fV,decide_eq_true_eq,eR,List.length_range] at hz;refine⟨cy (zU _ Om) hz.1,λx W=> ?_⟩;obtain⟨i,hi,rfl⟩:=List.getElem_of_mem W;obtain⟨es,h1,h2,h3,h4⟩:=A i hi;refine h3.2.1 ?_;have Y:D i∈(mB (len+1)).map D:=List.mem_map.2 ⟨i,List.mem_range.2 Om,rfl⟩;exact abR hz.2.1 Y
   rw[C];refine cy ?_ (q.slice _ _);refine Nat.succ_le_succ ?_;refine aiX (by simp[z]) λi hi f=> ?_;simp only[Jj,List.getElem_range];obtain⟨es,h1,h2,h3,h4⟩:=A i (by simpa using hi);exact h3.2.2
theorem agd{α:Type}{t:aI}{sz:Nat}{R:uD α}{Z:α->Prop}{μ:α->Nat}(he:CO Bk enc P w base spare held t sz R Z μ){v:ae}{d:pK H}{p:List MemPlace}(h:DataW.Trod enc P w base spare held t v d p) :
 VR (kC w) (uC v) v/\(uC v).cells.toList.length=sz/\∃y,R (tC w) (uC v).cells.toList y/\((d.weights P t).all (· <=reachBytes)=true->Z y)/\μ y<=Bk d:=by
 obtain⟨fuel,b⟩:=h;obtain⟨h1,h2,h3⟩:=he fuel _ _ b;rw[Y0];refine⟨?_,by simpa using h1,h3⟩;by_cases hv : ∃cs,v= .agg cs
 ·obtain⟨cs,rfl⟩:=hv;refine .agg Sm λi i1 i2=> ?_;simp only[List.getElem_toArray,Jj,Array.getElem_toList];exact h2 _ (by simp[ci])
 have hc:v.cells= #[v]:=by cases v<;>first | rfl | exact absurd ⟨_,rfl⟩ hv
 have hz:uC v=cz v:=by cases v<;>first | rfl | exact absurd ⟨_,rfl⟩ hv
 rw[hz];exact h2 v (by rw[hc];simp)
theorem aga{ts:List aI}{b:List (pK H)}(h:(DataW.weightsEach P ts b).all (· <=reachBytes)=true){j:Nat}{t:aI}{d:pK H}(ht:ts[j]? = some t)(hd:b[j]? = some d):(d.weights P t).all (· <=reachBytes)=true:=
 List.all_eq_true.2 λn hn=>List.all_eq_true.1 h n (DataW.weights_mem_each ht hd n hn)
end
end
section
open Go Go.RowKit
theorem Uw{H:Type} : ∀l:List (pK H),Rows.uptoBulkAll l=(l.map Rows.uptoBulk).sum
 | []=>by simp[Rows.uptoBulkAll]
 | d::r=>by simp[Rows.uptoBulkAll,Uw r]
theorem Y5{H:Type}:Uv (H:=H) Rows.uptoBulk where
 one d:=by
  cases d with
  | lit l=>cases l<;>simp[Rows.uptoBulk]
  | nil=>simp[Rows.uptoBulk]
  | ptr d=>simp[Rows.uptoBulk]
  | slice elems spare=>simp[Rows.uptoBulk]
  | agg parts=>simp[Rows.uptoBulk]
  | iface t d=>simp[Rows.uptoBulk]
  | map entries=>simp[Rows.uptoBulk]
  | held h=>simp[Rows.uptoBulk]
 slice elems spare:=by simp only[Rows.uptoBulk,Uw];omega
 agg parts:=by simp only[Rows.uptoBulk,Uw];omega
 str bs:=by simp[Rows.uptoBulk]
end
section
open Go Go.RowKit
end
section
open Go Go.RowKit
theorem RD:type_of% (aj (aj (aj (aj (aj (@dx) (aj (@jN) (@cE))) (aj (@Hp) (aj (@KM) (@pU)))) (aj (aj (@Hq) (aj (@KN) (@pW))) (aj (aj (@Hs) (@KP)) (aj (@O5) (@O6))))) (aj (aj (aj (@ez) (aj (@kM) (@fj))) (aj (aj (@fZ) (@oJ)) (aj (@c9) (@CL)))) (aj (aj (@KT) (aj (@CM) (@abA))) (aj (aj (@abB) (@abC)) (aj (@abD) (@abE)))))) (aj (aj (aj (aj (@abF) (aj (@KU) (@Pb))) (aj (aj (@KW) (@KX)) (aj (@abG) (@nI)))) (aj (aj (@Ue) (aj (@nJ) (@rL))) (aj (aj (@Uf) (@AT)) (aj (@da) (@cM))))) (aj (aj (aj (@dL) (aj (@kj) (@iB))) (aj (aj (@KO) (@aaY)) (aj (@aaZ) (@aa0)))) (aj (aj (@aa1) (aj (@aa2) (@di))) (aj (aj (@jW) (@Kj)) (aj (@oD) (@mP))))))):=aj (aj (aj (aj (aj (@dx) (aj (@jN) (@cE))) (aj (@Hp) (aj (@KM) (@pU)))) (aj (aj (@Hq) (aj (@KN) (@pW))) (aj (aj (@Hs) (@KP)) (aj (@O5) (@O6))))) (aj (aj (aj (@ez) (aj (@kM) (@fj))) (aj (aj (@fZ) (@oJ)) (aj (@c9) (@CL)))) (aj (aj (@KT) (aj (@CM) (@abA))) (aj (aj (@abB) (@abC)) (aj (@abD) (@abE)))))) (aj (aj (aj (aj (@abF) (aj (@KU) (@Pb))) (aj (aj (@KW) (@KX)) (aj (@abG) (@nI)))) (aj (aj (@Ue) (aj (@nJ) (@rL))) (aj (aj (@Uf) (@AT)) (aj (@da) (@cM))))) (aj (aj (aj (@dL) (aj (@kj) (@iB))) (aj (aj (@KO) (@aaY)) (aj (@aaZ) (@aa0)))) (aj (aj (@aa1) (aj (@aa2) (@di))) (aj (aj (@jW) (@Kj)) (aj (@oD) (@mP))))))
theorem RU:type_of% (aj (aj (aj (aj (aj (aj (@KY) (@abH)) (aj (@abI) (aj (@abJ) (@abK)))) (aj (aj (@abL) (@KV)) (aj (@cL) (aj (@lj) (@ki))))) (aj (aj (aj (@EJ) (@gh)) (aj (@EL) (aj (@aa6) (@aa7)))) (aj (aj (@aa8) (@tQ)) (aj (@aa9) (aj (@mO) (@aa')))))) (aj (aj (aj (aj (@jg) (@KQ)) (aj (@eU) (aj (@aba) (@Uj)))) (aj (aj (@abb) (@abc)) (aj (@decide_true) (aj (@decide_false) (@jD))))) (aj (aj (aj (@rM) (@pu)) (aj (@Bool.or_false) (aj (@Bool.or_true) (@List.append_nil.{0})))) (aj (aj (@List.take_nil.{0}) (aj (@pL) (@List.getElem?_toArray.{0}))) (aj (@ai) (aj (@abu) (@abv))))))) (aj (aj (aj (aj (aj (@Int.zero_mul) (@Int.zero_add)) (aj (@Int.add_zero) (aj (@abi) (@abj)))) (aj (aj (@abk) (@abl)) (aj (@abm) (aj (@abn) (@abo))))) (aj (aj (aj (@abp) (@abq)) (aj (@abr) (aj (@abt) (@KS)))) (aj (aj (@abw) (aj (@abx) (@aby))) (aj (@abP) (aj (@Pg) (@abz)))))) (aj (aj (aj (aj (@List.length_map.{0,0}) (@List.map_append.{0,0})) (aj (@List.length_append.{0}) (aj (@beq_self_eq_true.{0}) (@beq_true)))) (aj (aj (@beq_false) (@Bool.false_xor)) (aj (@Bool.true_xor) (aj (@Bool.xor_false) (@Bool.xor_true))))) (aj (aj (aj (@gi) (@oK)) (aj (@Us) (aj (@Ur) (@iP.{1})))) (aj (aj (@iN.{1}) (aj (@fp) (@xg))) (aj (@ba) (aj (@true_and) (@and_true)))))))):=aj (aj (aj (aj (aj (aj (@KY) (@abH)) (aj (@abI) (aj (@abJ) (@abK)))) (aj (aj (@abL) (@KV)) (aj (@cL) (aj (@lj) (@ki))))) (aj (aj (aj (@EJ) (@gh)) (aj (@EL) (aj (@aa6) (@aa7)))) (aj (aj (@aa8) (@tQ)) (aj (@aa9) (aj (@mO) (@aa')))))) (aj (aj (aj (aj (@jg) (@KQ)) (aj (@eU) (aj (@aba) (@Uj)))) (aj (aj (@abb) (@abc)) (aj (@decide_true) (aj (@decide_false) (@jD))))) (aj (aj (aj (@rM) (@pu)) (aj (@Bool.or_false) (aj (@Bool.or_true) (@List.append_nil.{0})))) (aj (aj (@List.take_nil.{0}) (aj (@pL) (@List.getElem?_toArray.{0}))) (aj (@ai) (aj (@abu) (@abv))))))) (aj (aj (aj (aj (aj (@Int.zero_mul) (@Int.zero_add)) (aj (@Int.add_zero) (aj (@abi) (@abj)))) (aj (aj (@abk) (@abl)) (aj (@abm) (aj (@abn) (@abo))))) (aj (aj (aj (@abp) (@abq)) (aj (@abr) (aj (@abt) (@KS)))) (aj (aj (@abw) (aj (@abx) (@aby))) (aj (@abP) (aj (@Pg) (@abz)))))) (aj (aj (aj (aj (@List.length_map.{0,0}) (@List.map_append.{0,0})) (aj (@List.length_append.{0}) (aj (@beq_self_eq_true.{0}) (@beq_true)))) (aj (aj (@beq_false) (@Bool.false_xor)) (aj (@Bool.true_xor) (aj (@Bool.xor_false) (@Bool.xor_true))))) (aj (aj (aj (@gi) (@oK)) (aj (@Us) (aj (@Ur) (@iP.{1})))) (aj (aj (@iN.{1}) (aj (@fp) (@xg))) (aj (@ba) (aj (@true_and) (@and_true)))))))
theorem ρ0{α β:Type}{f:α->β}{a:α}{l:List α}:(a::l).map f=f a::l.map f:=rfl
theorem ρ1{α β:Type}{f:α->β}:([]:List α).map f= []:=rfl
theorem ρ2:(!true)=false:=rfl
theorem ρ3:(!false)=true:=rfl
theorem ρ4{α β:Type}{f:α->β}{a:α}:(some a).map f=some (f a):=rfl
theorem ρ5{α:Type}{a:α}{l:List α}:(a::l)[0]? = some a:=rfl
theorem ρ6{α:Type}{a:α}{l:List α}{n:Nat}:(a::l)[n+1]? = l[n]? :=rfl
theorem ρ7{α:Type}{a:α}{l:List α}:(a::l).length=l.length+1:=rfl
theorem ρ8{α:Type}:([]:List α).length=0:=rfl
theorem ρ9{α:Type}:(none:Option α).isSome=false:=rfl
theorem ρ10{α:Type}:(none:Option α).isNone=true:=rfl
theorem ρ11{α:Type}{a:α}:(some a).isSome=true:=rfl
theorem ρ12{α:Type}{a:α}:(some a).isNone=false:=rfl
theorem ρ13{b:Bool}:(true||b)=true:=rfl
theorem ρ14{b:Bool}:(false||b)=b:=rfl
theorem ρ15{α:Type}{a:α}{l:List α}{n:Nat}:(a::l).take (n+1)=a::l.take n:=rfl
theorem ρ16{α:Type}{l:List α}:l.take 0= []:=rfl
theorem ρ17{α:Type}{a:α}{l:List α}{n:Nat}:(a::l).drop (n+1)=l.drop n:=rfl
theorem ρ18{α:Type}{l:List α}:l.drop 0=l:=rfl
theorem ρ19{α:Type}{a:α}{l m:List α}:(a::l)++m=a::(l++m):=rfl
theorem ρ20{α:Type}{l:List α} : []++l=l:=rfl
theorem ρ21{α:Type}{n:Nat}:([]:List α).drop n= []:=List.drop_nil
theorem ρ22{α:Type}{p:α->Bool}{a:α}{l:List α}:(a::l).all p=(p a&&l.all p):=rfl
theorem ρ23{α:Type}{p:α->Bool}:([]:List α).all p=true:=rfl
theorem ρ24{b:Bool}:(true&&b)=b:=rfl
theorem ρ25{α:Type}{l:List α}:l.toArray.size=l.length:=rfl
theorem ρ26{α:Type}{l:List α}:l.toArray.toList=l:=rfl
theorem ρ27{b:Bool}:(false&&b)=false:=rfl
theorem ρ28{n:Nat}:n+0=n:=rfl
theorem ρ29{n:Nat}:(n:Int).toNat=n:=rfl
theorem an{F G:Prop}(f:F)(g:G):F/\G:=⟨f,g⟩
theorem rn{p q F:Prop}(f:F)(k:q)(h:F->q->p:=by
 intro f k;repeat' (first | (simp (disch:=first | omega | (decide +kernel) | (repeat first | assumption | exact ag.refl _ | refine ag.set ?_ Fo _ | refine ag.new ?_ _)) only[↓RD,RU,qG,nK,bT,↓aH,↓dA,↓aL,↓bf,↓O8,jK,kf,bS,br,cZ,eT,sP,pop,aD,cq,bq,cY,fQ,dU,db,isVal,a8,Value.cells,ρ0,ρ1,ρ2,ρ3,ρ4,↓reduceIte,Nat.reduceEqDiff,Nat.reduceAdd,Int.reduceOfNat,Int.reduceNegSucc,reduceCtorEq,ρ5,ρ6,ρ7,ρ8,kQ,Ph,Pj,Pk,gT,Ai,vY,ρ9,ρ10,ρ11,ρ12,ρ13,ρ14,ρ15,ρ16,ρ17,ρ18,ρ19,ρ20,ρ21,ρ22,ρ23,ρ24,Kd.bY,ρ25,ρ26,dv,Nat.reduceLeDiff,Int.reduceMul,Int.reduceAdd,Int.reduceSub,Int.reduceToNat,gE,tR,kO,Pd,Pe,O',Pa,Kd.jv,ρ27,vZ,CH.set_set,uO,uN,isKey,yD,GP,ρ28,ρ29,f]) | ((with_reducible first|apply aE|apply aF|apply aG)<;>intro _))
 exact k):p:=h f k
theorem rz{p F:Prop}(f:F)(h:F->p:=by
 intro f;repeat' (first | (simp (disch:=first | omega | (decide +kernel) | (repeat first | assumption | exact ag.refl _ | refine ag.set ?_ Fo _ | refine ag.new ?_ _)) only[↓RD,RU,qG,nK,bT,↓aH,↓dA,↓aL,↓bf,↓O8,jK,kf,bS,br,cZ,eT,sP,pop,aD,cq,bq,cY,fQ,dU,db,isVal,a8,Value.cells,ρ0,ρ1,ρ2,ρ3,ρ4,↓reduceIte,Nat.reduceEqDiff,Nat.reduceAdd,Int.reduceOfNat,Int.reduceNegSucc,reduceCtorEq,ρ5,ρ6,ρ7,ρ8,kQ,Ph,Pj,Pk,gT,Ai,vY,ρ9,ρ10,ρ11,ρ12,ρ13,ρ14,ρ15,ρ16,ρ17,ρ18,ρ19,ρ20,ρ21,ρ22,ρ23,ρ24,Kd.bY,ρ25,ρ26,dv,Nat.reduceLeDiff,Int.reduceMul,Int.reduceAdd,Int.reduceSub,Int.reduceToNat,gE,tR,kO,Pd,Pe,O',Pa,Kd.jv,ρ27,vZ,CH.set_set,uO,uN,isKey,yD,GP,ρ28,ρ29,f]) | ((with_reducible first|apply aE|apply aF|apply aG)<;>intro _))):p:=h f
theorem aM{p q:Prop}(k:q)(h:q->p:=by
 intro k;repeat' (first | (simp (disch:=first | omega | (decide +kernel) | (repeat first | assumption | exact ag.refl _ | refine ag.set ?_ Fo _ | refine ag.new ?_ _)) only[↓RD,RU,qG,nK,bT,↓aH,↓dA,↓aL,↓bf,↓O8,jK,kf,bS,br,cZ,eT,sP,pop,aD,cq,bq,cY,fQ,dU,db,isVal,a8,Value.cells,ρ0,ρ1,ρ2,ρ3,ρ4,↓reduceIte,Nat.reduceEqDiff,Nat.reduceAdd,Int.reduceOfNat,Int.reduceNegSucc,reduceCtorEq,ρ5,ρ6,ρ7,ρ8,kQ,Ph,Pj,Pk,gT,Ai,vY,ρ9,ρ10,ρ11,ρ12,ρ13,ρ14,ρ15,ρ16,ρ17,ρ18,ρ19,ρ20,ρ21,ρ22,ρ23,ρ24,Kd.bY,ρ25,ρ26,dv,Nat.reduceLeDiff,Int.reduceMul,Int.reduceAdd,Int.reduceSub,Int.reduceToNat,gE,tR,kO,Pd,Pe,O',Pa,Kd.jv,ρ27,vZ,CH.set_set,uO,uN,isKey,yD,GP,ρ28,ρ29]) | ((with_reducible first|apply aE|apply aF|apply aG)<;>intro _))
 exact k):p:=h k
theorem aV{p:Prop}(h:p:=by
 repeat' (first | (simp (disch:=first | omega | (decide +kernel) | (repeat first | assumption | exact ag.refl _ | refine ag.set ?_ Fo _ | refine ag.new ?_ _)) only[↓RD,RU,qG,nK,bT,↓aH,↓dA,↓aL,↓bf,↓O8,jK,kf,bS,br,cZ,eT,sP,pop,aD,cq,bq,cY,fQ,dU,db,isVal,a8,Value.cells,ρ0,ρ1,ρ2,ρ3,ρ4,↓reduceIte,Nat.reduceEqDiff,Nat.reduceAdd,Int.reduceOfNat,Int.reduceNegSucc,reduceCtorEq,ρ5,ρ6,ρ7,ρ8,kQ,Ph,Pj,Pk,gT,Ai,vY,ρ9,ρ10,ρ11,ρ12,ρ13,ρ14,ρ15,ρ16,ρ17,ρ18,ρ19,ρ20,ρ21,ρ22,ρ23,ρ24,Kd.bY,ρ25,ρ26,dv,Nat.reduceLeDiff,Int.reduceMul,Int.reduceAdd,Int.reduceSub,Int.reduceToNat,gE,tR,kO,Pd,Pe,O',Pa,Kd.jv,ρ27,vZ,CH.set_set,uO,uN,isKey,yD,GP,ρ28,ρ29]) | ((with_reducible first|apply aE|apply aF|apply aG)<;>intro _))):p:=h
end
section
open Go Go.RowKit
variable {P:aX} {B:Nat}
def Po:ae->ae->Bool
 | .bool a, .bool b=>a==b
 | .int k a, .int l b=>decide (k=l)&&decide (a=b)
 | .string a, .string b=>decide (a.data.toList=b.data.toList)
 | .pointer a, .pointer b=>decide (a=b)
 | .slice a n c, .slice b m d=>decide (a=b)&&(n==m&&c==d)
 | .nilFunc, .nilFunc=>true
 | .nilIface, .nilIface=>true
 | _,_=>false
theorem abS{a b:ae}(h:Po a b=true):a=b:=by
 unfold Po at h;split at h<;>simp_all;rename_i x y;obtain⟨⟨l⟩⟩:=x;obtain⟨⟨m⟩⟩:=y;simpa using h
def Hy:List ae->List ae->Bool
 | [],[]=>true
 | a::xs,b::ys=>Po a b&&Hy xs ys
 | _,_=>false
theorem Pp : ∀ {xs ys:List ae},Hy xs ys=true->xs=ys
 | [],[],_=>rfl
 | a::xs,b::ys,h=>by simp only[Hy,fV] at h;rw[abS h.1,Pp h.2]
 | [],_::_,h=>by cases h
 | _::_,[],h=>by cases h
def Ux:ae->ae->Bool
 | .agg xs, .agg ys=>Hy xs.toList ys.toList
 | .func (.func f) xs ys, .func (.func g) c vs=>decide (f=g)&&(Hy xs.toList c.toList&&Hy ys.toList vs.toList)
 | a,b=>Po a b
theorem aiY{a b:ae}(h:Ux a b=true):a=b:=by
 unfold Ux at h;split at h;·have:=Pp h;congr 1;exact tv this
 ·simp only[fV,decide_eq_true_eq] at h;obtain⟨rfl,h1,h2⟩:=h;rw[tv (Pp h1),tv (Pp h2)]
 exact abS h
def Uy (fr:Fr)(G:CH)(it:Item):Bool:=
 match eG fr it.guard with
 | some false=>true
 | _=>match it.op,it.dst with
   | .l x,some d=>match aD G (aJ fr) x with
     | some v=>Ux v (fr d)
     | none=>false
   | _,_=>false
theorem aiZ{fr:Fr}{G:CH}{it:Item}(h:Uy fr G it=true):wq fr G it:=by
 unfold Uy at h;split at h;·rename_i b;exact .inl b
 split at h
 ·rename_i x d h1 h2;split at h;·rename_i v h3;exact .inr ⟨x,d,h1,h2,by rw[h3,aiY h]⟩
  cases h
 cases h
def Pq (fr:Fr)(l:List CH):List (Item×Nat)->Bool
 | []=>true
 | p::r=>(match l[p.2]? with | some G=>Uy fr G p.1 | none=>false)&&Pq fr l r
theorem abT{fr:Fr}{l:List CH} : ∀ {c:List (Item×Nat)},Pq fr l c=true->∀p∈c,∃G,l[p.2]? = some G/\wq fr G p.1
 | [],_,p,hp=>by cases hp
 | q::r,h,p,hp=>by
   simp only[Pq,fV] at h;rcases List.mem_cons.1 hp with rfl | hp
   ·have h1:=h.1;split at h1;·rename_i G b;exact⟨G,b,aiZ h1⟩
    cases h1
   exact abT h.2 p hp
def Ps (h:Hd)(d:jB)(fr:Fr)(H:CH):Option (Fr×CH):=
 match cH h d.af fr H with
 | some (fr',H',l)=>if Pq fr' (H::l) d.nB then some (fr',H') else none
 | none=>none
theorem ai0{h h':Hd}(c:yN h h'){d:jB}{fr:Fr}{H:CH}{r:Fr×CH}(b:Ps h d fr H=some r):uP h' d fr H=some r:=by
 unfold Ps at b;split at b
 ·rename_i fr' H' l hd;split at b;·rename_i hc;cases b;unfold uP;rw[ON c hd];simp only;rw[iP (abT hc)]
  cases b
 cases b
def lZ (h:Hd)(n:Nat):bQ->Fr->CH->G3
 | .skip,fr,H=>some (.normal,fr,H)
 | .mI af,fr,H=>(dP h af fr H).map λ(f,K)=>(.normal,f,K)
 | .mJ d,fr,H=>(Ps h d fr H).map λ(f,K)=>(.normal,f,K)
 | .seq a b,fr,H=>match lZ h n a fr H with
   | some (.normal,fr',H')=>lZ h n b fr' H'
   | r=>r
 | .cond c a b,fr,H=>match aJ fr c with
   | .bool true=>lZ h n a fr H
   | .bool false=>lZ h n b fr H
   | _=>none
 | .block id c,fr,H=>match lZ h n c fr H with
   | some (.exit i,fr',H')=>if i=id then some (.normal,fr',H') else some (.exit i,fr',H')
   | r=>r
 | .loop c,fr,H=>pQ n (lZ h n c) fr H
 | .exit id,fr,H=>some (.exit id,fr,H)
 | .ret,fr,H=>some (.ret,fr,H)
 | .bad,_,_=>none
 | .sN g key,fr,H=>match aJ fr g with
   | .func (.func f) _ dF=>match h.call f (.func (.yield H.nx) #[] #[]::dF.toList) (H.new (.loop .ready none fr key)) with
     | some (_,e)=>match e.ob H.nx with
       | .loop st gv fr' j=>if st= .busy then none else some (OE gv,fr,e.set H.nx (.loop .exhausted gv fr' j))
       | _=>none
     | none=>none
   | _=>none
theorem Uz{h h':Hd}(l:yN h h'){n:Nat} : ∀ {c:bQ} {fr:Fr} {H:CH} {r:bp×Fr×CH},lZ h n c fr H=some r->bE h' n c fr H=some r:=by
 intro c;induction c with
 | bad=>intro fr H r j;simp[lZ] at j
 | skip=>intro fr H r j;exact j
 | mI af=>
   intro fr H r j;simp only[lZ,bE] at j⊢
   cases hi:dP h af fr H with
   | none=>rw[hi] at j;cases j
   | some q=>rw[hi] at j;rw[Ki l hi];exact j
 | mJ d=>
   intro fr H r j;simp only[lZ,bE] at j⊢
   cases hi:Ps h d fr H with
   | none=>rw[hi] at j;cases j
   | some q=>rw[hi] at j;rw[ai0 l hi];exact j
 | seq a b m o=>
   intro fr H r j;simp only[lZ,bE] at j⊢
   cases ha:lZ h n a fr H with
   | none=>rw[ha] at j;cases j
   | some q=>
     obtain⟨x,am,H1⟩:=q;rw[ha] at j;rw[m ha];cases x with
     | normal=>exact o j
     | exit i=>exact j
     | ret=>exact j
 | cond c a b m o=>
   intro fr H r j;simp only[lZ,bE] at j⊢;split at j;·rename_i e;rw[e];exact m j
   ·rename_i e;rw[e];exact o j
   cases j
 | block id c p=>
   intro fr H r j;simp only[lZ,bE] at j⊢
   cases ha:lZ h n c fr H with
   | none=>rw[ha] at j;cases j
   | some q=>rw[ha] at j;rw[p ha];exact j
 | loop c p=>
   intro fr H r j;simp only[lZ,bE] at j⊢;exact OO (ai n) (λ_ _ _ s=>p s) j
 | exit id=>intro fr H r j;exact j
 | ret=>intro fr H r j;exact j
 | sN g key=>
   intro fr H r j;simp only[lZ,bE] at j⊢;split at j
   ·rename_i f t dF hg;cases hc:h.call f (Value.func (.yield H.nx) #[] #[]::dF.toList) (H.new (.loop .ready none fr key)) with
    | none=>rw[hc] at j;cases j
    | some q=>rw[hc] at j;rw[hg];simp only;rw[l.call _ _ _ _ hc];exact j
   cases j
def wE (L:List aS)(xt:aS->List ae->Option ae)(fn:aS->Option yI)(lp:Nat×Nat->Option (List Nat×bQ×bQ)):Nat->Hd
 | 0=>⟨λ_ _ _=>none,λ_ _ _=>none⟩
 | n+1=>⟨λf args H=>if L.elem f then (xt f args).map λv=>(v,H) else match fn f with
   | some rf=>match lZ (wE L xt fn lp n) n rf.body (λt=>args.getD t undef) H with
     | some (.normal,fr',H')=>(cY fr' H' rf.res).map λvs=>(dU vs,H')
     | some (.ret,fr',H')=>(cY fr' H' rf.res).map λvs=>(dU vs,H')
     | _=>none
   | none=>none,λl args H=>match H.ob l with
   | .loop .ready _ fr key=>match lp key with
     | some (ps,lg,body)=>if args.length=ps.length then match lZ (wE L xt fn lp n) n lg (Cs fr ps args) H with
       | some (.normal,e,b)=>match b.ob l with
         | .loop .ready gv h i=>match lZ (wE L xt fn lp n) n body e (b.set l (.loop .busy gv h i)) with
           | some (x,_,c)=>match c.ob l with
             | .loop _ _ j m=>some (.bool (tL x).isNone,c.set l (.loop (if (tL x).isNone then .ready else .done) (tL x) j m))
             | _=>none
           | none=>none
         | _=>none
       | _=>none
       else none
     | none=>none
   | _=>none⟩
theorem abU{T:cw}{L:List aS}{xt:aS->List ae->Option ae}(he : ∀f,T.ext f=L.elem f)(hx : ∀f args H,T.xt.call f args H=(xt f args).map λv=>(v,H)) : ∀n,yN (wE L xt T.fn T.loop n) (dH T n)
 | 0=>⟨λf a H r b=>by simp[wE] at b,λf a H r b=>by simp[wE] at b⟩
 | n+1=>by
   have e:=abU he hx n;refine⟨λf a H r b=> ?_,λl a H r b=> ?_⟩
   ·simp only[wE] at b;simp only[dH,he];split at b;·rename_i hl;rw[iP hl,hx];exact b
    rename_i hl;rw[iN hl];split at b
    ·rename_i rf j;cases hb:lZ (wE L xt T.fn T.loop n) n rf.body (λt=>a.getD t undef) H with
     | none=>rw[hb] at b;cases b
     | some q=>rw[hb] at b;simp only[j];rw[Uz e hb];exact b
    cases b
   simp only[wE] at b;simp only[dH];split at b
   ·rename_i gv fr key ho;simp only[ho];split at b
    ·rename_i ps lg body hl;split at b
     ·rename_i c;simp only[hl,iP c];cases hb:lZ (wE L xt T.fn T.loop n) n lg (Cs fr ps a) H with
      | none=>rw[hb] at b;cases b
      | some q=>
        obtain⟨x,m,o⟩:=q;rw[hb] at b;rw[Uz e hb];cases x with
        | normal=>
          simp only at b⊢;split at b
          ·rename_i p s u y;cases h:lZ (wE L xt T.fn T.loop n) n body m (o.set l (.loop .busy p s u)) with
           | none=>rw[h] at b;cases b
           | some z=>rw[h] at b;rw[y];simp only;rw[Uz e h];exact b
          cases b
        | ret=>cases b
        | exit i=>cases b
     cases b
    cases b
   cases b
def Pt:CH:=⟨0,λ_=> .od⟩
theorem ai1(w:ay):aP P w.heap.size (λ_=> .od) Pt w:=
 ⟨λ_=>trivial,λ_ _=>rfl,λ_ _ _ h=>h.elim,ai _,λ_ _ _ _ e=>(by cases e)⟩
def KZ(P:aX)(f:aS)(args:List ae)(v:ae):Prop:=
 (pP P f=true/\J4 args=true/\wk v=true/\∀w,CallsIn Fence.wide 0 P f args.toArray w λe w'=>e= .returned v/\w'.os=w.os/\w'.tape=w.tape/\w'.output=w.output/\w.heap.size<=w'.heap.size/\∀b,b<w.heap.size->w'.heap[b]? = w.heap[b]?)\/OA P f args v
theorem ai2{T:cw}(hT : ∀B,ww P B T){f:aS}{args:List ae}{v:ae}(hc:pP P f=true)(ha:J4 args=true)(hv:wk v=true)(h:aQ T f args Pt λu _=>u=v):KZ P f args v:=by
 refine .inl ⟨hc,ha,hv,λw=> ?_⟩;obtain⟨n,u,H',h1,rfl⟩:=h;refine callsIn_wide.2 ((Eu (hT w.heap.size) h1 (ai1 w) (ahN ha _) hc).mono λe w' ⟨v',β',he,i,hs,c⟩=> ?_);rw[Z6 hv i] at he;exact⟨he,c.os,c.tape,c.output,c.size,λb hb=>(c.dk b hb (λ_ h=>h)).1⟩
noncomputable def bF(P:aX)(L:List aS)(G:aS->List ae->Option ae):cw:=
 ⟨oA P (λN ops=>lX P N ops),Kg P (λN ops=>lX P N ops),λf=>L.elem f,⟨λf args H=>(G f args).map λv=>(v,H),λ_ _ _=>none⟩⟩
theorem La{L:List aS}{G:aS->List ae->Option ae}(i : ∀f args v,G f args=some v->KZ P f args v):ww P B (bF P L G):=by
 refine⟨λf rf h=>aib (λN ops d h=>aaX h) h,λkey ps lg body h=>aia (λN ops d h=>aaX h) h,⟨λf args H v H' h=> ?_,λl args H v H' h=>(by cases h)⟩⟩;have h':(G f args).map (λv=>(v,H))=some (v,H'):=h;rw[nf] at h';obtain⟨u,hu,he⟩:=h';cases he;rcases i _ _ _ hu with ⟨hc,ha,hv,hw⟩ | hx
 case inr=>exact .inr ⟨hx,rfl⟩
 refine .inl ⟨hc,fun β w m c j=> ?_⟩;rw[Tk ha j];refine(hw w).mono λe w' ⟨he,h1,h2,h3,h4,h5⟩=>⟨v,β,he,J2 hv β,?_,?_⟩;·exact⟨λl=>(c.iV l).mono (eS.refl β) λb hb=>h5 b (Ck c hb),c.nx,c.inj,cy c.base h4,c.ro⟩
 exact⟨h1,h2,h3,h4,λb hb ho=>⟨h5 b hb,ho⟩,eS.refl β⟩
theorem l5{L:List aS}{G:aS->List ae->Option ae}{f:Nat}(he:L.elem f=false)(h:(oA P (λN ops=>lX P N ops) f).isSome=true){args:List ae}{H:CH}{Q:ae->CH->Prop}(k:dh (bF P L G) (rF P f).body (λt=>args.getD t undef) H (AS (rF P f).res Q)):aQ (bF P L G) f args H Q:=by
 refine Uh he ?_ k;unfold rF;show oA P (λN ops=>lX P N ops) f=some ((oA P (λN ops=>lX P N ops) f).getD ⟨0,[], .skip⟩);cases b:oA P (λN ops=>lX P N ops) f with
 | none=>rw[b] at h;cases h
 | some r=>rfl
noncomputable def UA(P:aX)(L:List aS)(G:aS->List ae->Option ae)(n:Nat)(f:aS)(args:List ae):Option ae:=
 ((wE L G (oA P (λN ops=>lX P N ops)) (Kg P (λN ops=>lX P N ops)) n).call f args Pt).map (·.1)
theorem ai3{L:List aS}{G:aS->List ae->Option ae}{n:Nat}{f:aS}{args:List ae}{v:ae}(h:UA P L G n f args=some v):aQ (bF P L G) f args Pt λu _=>u=v:=by
 unfold UA at h;rw[nf] at h;obtain⟨q,h1,rfl⟩:=h;exact⟨n,q.1,q.2,(abU (T:=bF P L G) (λ_=>rfl) (λ_ _ _=>rfl) n).call _ _ _ _ h1,rfl⟩
end
section
open Go Go.RowKit
noncomputable def GX(f:aS)(args:List ae):Option ae:=match args with
 | [.string s, .int .u8 c]=>if f=189 then some (.int .i64 (firstIdx s c.toNat.toUInt8)) else none
 | _=>none
theorem ai4(s:ByteArray)(c:Int):OA Tryz.prog 189 [.string s, .int .u8 c] (.int .i64 (firstIdx s c.toNat.toUInt8)):=by
 refine ahP rfl rfl λw=> ?_;rw[run_callFunc_extern (e:=Extern.BytealgIndexByte.indexByte) Tryz.func189 Kr Kr Kr Kr];have:=run_indexByte_string (P:=Tryz.prog) s c w;rw[show([Value.string s, .int .u8 c]:List ae).toArray= #[.string s, .int .u8 c] from rfl,this];rfl
theorem abV : ∀f args v,GX f args=some v->KZ Tryz.prog f args v:=by
 intro f args v h;unfold GX at h;split at h
 ·split at h;·rename_i e;subst e;cases h;exact .inr (ai4 _ _)
  cases h
 cases h
theorem ai5:UA Tryz.prog [189] GX 400 7 []=some (.bool true):=by kernel_rfl
def LG:List aS:= [7,189]
noncomputable def GG(f:aS)(args:List ae):Option ae:=match args with
 | []=>if f=7 then some (.bool true) else none
 | l=>GX f l
theorem Lb : ∀f args v,GG f args=some v->KZ Tryz.prog f args v:=by
 intro f args v h;unfold GG at h;split at h
 ·split at h;·rename_i e;subst e;cases h;exact ai2 (λB=>La abV) Kr rfl rfl (ai3 ai5)
  cases h
 exact abV _ _ _ h
theorem abW{B:Nat}:ww Tryz.prog B (bF Tryz.prog LG GG):=La Lb
abbrev str(l:List UInt8):ByteArray:=⟨⟨l⟩⟩
def AX (t:Tok):List ae:= [.int .i64 t.kind, .int .i64 t.line, .string (str t.text)]
theorem ai6 : ∀t,(AX t).length=3/\(AX t).all a8=true:=λ_=>⟨rfl,rfl⟩
theorem n1{a:Nat}:((a:Int)+1)=((a+1:Nat):Int):=rfl
theorem Pu{n:Nat}{h:n<2 ^ 8}:(UInt8.ofBitVec (BitVec.ofFin ⟨n,h⟩))=UInt8.ofNat n:=by
 apply UInt8.toNat.inj;simp[UInt8.toNat,UInt8.ofNat];omega
theorem dW{l:List UInt8}{i:Nat}:(str l)[i]? = l[i]? :=by
 show(if h:i<(str l).size then some ((str l)[i]'h) else none)=_;by_cases h:i<l.length
 ·have h':i<(str l).size:=h;rw[dif_pos h',cj h];rfl
 have h' : ¬i<(str l).size:=h;rw[dif_neg h',uA Om]
theorem cJ{l:List UInt8}:(str l).size=l.length:=rfl
theorem qH{l:List UInt8}{a b:Nat}:(str l).extract a b=str ((l.drop a).take (b-a)):=by
 apply ByteArray.ext;apply tv;simp[ByteArray.data_extract,List.extract_eq_take_drop]
theorem ai7{a b:List UInt8}:((str a).toList==(str b).toList)=decide (a=b):=by
 have h : ∀l:List UInt8,(str l).toList=l:=λl=>by simp[ByteArray.toList_eq]
 rw[h,h];by_cases e:a=b
 ·simp[e]
 rw[decide_eq_false e];simpa using e
theorem EO{a b:List UInt8}:bP (binOp .eql 0 (.string (str a)) (.string (str b)))=some (.bool (decide (a=b))):=by
 simp only[binOp,Op.stringOp,bP,Pure.pure,ai7]
structure RS where
 pos:Nat
 line:Nat
 dep:Nat
 ja:List Nat
 out:List Tok
 err:Nat
 wh:Nat
structure RS.Bd(s:RS):Prop where
 pos:s.pos<=100000
 line:s.line<=100000
 dep:s.dep<=100000
 err:s.err<=100
 wh:s.wh<=100000
 out:s.out.length+s.ja.length<=1000000
def CP(A K:CH)(v:ae)(ns:List Nat):Prop:=∃b kd c os,v= .slice (some ⟨b,0,none⟩) ns.length c/\A.nx<=b/\b<K.nx/\K.ob b= .cells os 3 kd/\kd.bY=false/\ns.length<=c/\c<=2000000/\ns.length<=os.length/\∀i,i<ns.length->os[i]? = some (.int .i64 (ns.getD i 0:Nat))
def ai8:Array MapEntry:=((Cg.zipIdx).map λx=>({ key:= .string (str x.1),val:= .int .i64 1,born:=x.2 }:MapEntry)).toArray
structure Lc(A K:CH)(p:Nat)(src:List UInt8)(s:RS)(vo vt:ae)(m:Nat):Prop where
 ob:K.ob p= .cells [.string (str src), .int .i64 s.pos, .int .i64 s.line, .int .i64 s.dep,vo,vt, .map (some m), .int .i64 s.err, .int .i64 s.wh] 110 .ex
 pl:p<K.nx
 pa:A.nx<=p
 ja:CP A K vo s.ja
 out:eV A 85 3 AX K vt s.out
 mp:K.ob m= .map ai8 31
 ml:m<K.nx
 ma:A.nx<=m
 E:ag A K
 bd:s.Bd
 sl:src.length<=20000
theorem Lc.set{A K:CH}{p:Nat}{src:List UInt8}{s s':RS}{vo vt:ae}{m:Nat}(h:Lc A K p src s vo vt m)(ho:s'.ja=s.ja)(ht:s'.out=s.out)(hb:s'.Bd) :
 Lc A (K.set p (.cells [.string (str src), .int .i64 s'.pos, .int .i64 s'.line, .int .i64 s'.dep,vo,vt, .map (some m), .int .i64 s'.err, .int .i64 s'.wh] 110 .ex)) p src s' vo vt m:=by
 have f:=h.ob;obtain⟨b,kd,c,os,h1,h2,h3,h4,h5⟩:=h.ja;have i:b≠p:=λe=>by
  rw[e,f] at h4;have:=(dD.cells.inj h4).2.1;revert this;decide
 have j:m≠p:=λe=>by have:=h.mp;rw[e,f] at this;cases this
 refine⟨by rw[br,iP rfl],h.pl,h.pa,?_,?_,by rw[br,iN j];exact h.mp,h.ml,h.ma,h.E.set h.pa _,hb,h.sl⟩;·rw[ho];exact⟨b,kd,c,os,h1,h2,h3,by rw[br,iN i];exact h4,h5⟩
 rw[ht];rcases h.out with g | ⟨b,kd,e,g1,g2,g3,g4⟩
 ·exact .inl g
 refine .inr ⟨b,kd,e,g1,g2,?_,g4⟩;rw[br,iN];·exact g3
 intro e;rw[e,f] at g3;have:=(dD.cells.inj g3).2.1;revert this;decide
def UB(s:RS)(line e:Nat):RS:=if s.err=0 then { s with err:=e,wh:=line } else s
theorem arm{A K:CH}{p:Nat}{src:List UInt8}{s:RS}{vo vt:ae}{m:Nat}(h:Lc A K p src s vo vt m)(line e:Nat)(h1:line<=100000)(h2:e<=100) :
 aQ (bF Tryz.prog LG GG) 130 [.pointer (some ⟨p,0,none⟩), .int .i64 line, .int .i64 e] K λv K'=>Lc A K' p src (UB s line e) vo vt m:=by
 have b:=h.ob;have hp:=h.pl;refine l5 Rl Kr (aK ?_);by_cases he:s.err=0
 ·refine rn (an @b @he) ?_;all_goals
   unfold UB;rw[iP he];exact h.set (s':= { s with err:=e,wh:=line }) rfl rfl ⟨h.bd.pos,h.bd.line,h.bd.dep,h2,h1,h.bd.out⟩
 refine rn (an @b @he) ?_;all_goals
  unfold UB;rw[iN he];exact h
theorem arn(H:CH)(n:Nat):aQ (bF Tryz.prog LG GG) 131 [.int .u8 n] H λv K=>v= .bool (tD n)/\K=H:=by
 refine l5 Rl Kr (aK ?_);repeat' (first | (simp (disch:=first | omega | (decide +kernel)) only[↓RD,RU,↓aH,↓aL,↓bf,cZ,pop,cY,fQ,dU,↓reduceIte,Nat.reduceEqDiff,Int.reduceOfNat,reduceCtorEq]) | ((with_reducible first|apply aE|apply aF|apply aG)<;>intro _))
 all_goals first | rfl | (apply congrArg vT;symm;apply decide_eq_true;omega) | (apply congrArg vT;symm;apply decide_eq_false;omega) | (apply congrArg vT;apply decide_eq_decide.2;omega)
theorem aro(H:CH)(n:Nat):aQ (bF Tryz.prog LG GG) 133 [.int .u8 n] H λv K=>v= .bool (iU n)/\K=H:=by
 refine l5 Rl Kr (aK ?_);repeat' (first | (simp (disch:=first | omega | (decide +kernel)) only[↓RD,RU,↓aH,↓aL,↓bf,cZ,pop,cY,fQ,dU,↓reduceIte,Nat.reduceEqDiff,Int.reduceOfNat,reduceCtorEq]) | ((with_reducible first|apply aE|apply aF|apply aG)<;>intro _))
 all_goals first | rfl | (apply congrArg vT;symm;apply decide_eq_true;omega) | (apply congrArg vT;symm;apply decide_eq_false;omega) | (apply congrArg vT;apply decide_eq_decide.2;omega)
theorem ai9(H:CH)(n:Nat):aQ (bF Tryz.prog LG GG) 73 [.int .u8 n] H λv K=>v= .bool (tD n)/\K=H:=by
 refine l5 Rl Kr (aK ?_);repeat' (first | (simp (disch:=first | omega | (decide +kernel)) only[↓RD,RU,↓aH,↓aL,↓bf,cZ,pop,cY,fQ,dU,↓reduceIte,Nat.reduceEqDiff,Int.reduceOfNat,reduceCtorEq]) | ((with_reducible first|apply aE|apply aF|apply aG)<;>intro _))
 all_goals first | rfl | (apply congrArg vT;symm;apply decide_eq_true;omega) | (apply congrArg vT;symm;apply decide_eq_false;omega) | (apply congrArg vT;apply decide_eq_decide.2;omega)
theorem uX{H:CH}{n:Nat}{Q:ae->CH->Prop}:aQ (bF Tryz.prog LG GG) 73 [.int .u8 n] H Q↔Q (.bool (tD n)) H:=sQ (ai9 H n)
theorem ai'(H:CH)(n:Nat):aQ (bF Tryz.prog LG GG) 74 [.int .u8 n] H λv K=>v= .bool (iU n)/\K=H:=by
 refine l5 Rl Kr (aK ?_);repeat' (first | (simp (disch:=first | omega | (decide +kernel)) only[↓RD,RU,↓aH,↓aL,↓bf,cZ,pop,cY,fQ,dU,↓reduceIte,Nat.reduceEqDiff,Int.reduceOfNat,reduceCtorEq]) | ((with_reducible first|apply aE|apply aF|apply aG)<;>intro _))
 all_goals first | rfl | (apply congrArg vT;symm;apply decide_eq_true;omega) | (apply congrArg vT;symm;apply decide_eq_false;omega) | (apply congrArg vT;apply decide_eq_decide.2;omega)
theorem mQ{H:CH}{n:Nat}{Q:ae->CH->Prop}:aQ (bF Tryz.prog LG GG) 74 [.int .u8 n] H Q↔Q (.bool (iU n)) H:=sQ (ai' H n)
def n10 (n:Nat):Bool:=decide (n≠10)
theorem n2{a:Nat}:((a:Int)+2)=((a+2:Nat):Int):=rfl
theorem UC{n:Nat}:rj n<=16:=by
 unfold rj
 (repeat' split)<;>omega
def nL (l:List UInt8):List Int:=l.map λc=>(c.toNat:Int)
theorem aja{l:List UInt8}:(nL l).flatMap (ints .u8)=(l.map λc=>(.int .u8 (c.toNat:Int):ae)):=by
 rw[Pn];simp[nL]
theorem abX : ∀ {l:List UInt8},sI (l.map λc=>(.int .u8 (c.toNat:Int):ae))=some l
 | []=>rfl
 | c::l=>by
   simp only[c8,sI,abX,dC,fJ];congr 2
   apply UInt8.toNat.inj;simp
theorem ajb{l:List UInt8}{b n:Nat}(h:rm l=some (b,n)):n<=l.length/\b<256:=by
 have hx:= @UC (hd (l.drop 1));unfold rm at h;split at h
 ·split at h
  ·rename_i g;cases h;have h2:hd (l.drop 2)≠0:=λe=>by have:=g.2;rw[e] at this;exact absurd this de
   have:=uG h2;simp at this;omega
  cases h
 split at h
 ·rename_i g1 g;cases h;have c:hd l≠0:=λe=>g (by rw[e];decide);have:=uG c;refine⟨Om,?_⟩;unfold Ae;have:= @SG l
  (repeat' split)<;>omega
 cases h
theorem UD{q:Nat} : ∀ {f g:Nat} {l:List UInt8},l.length<f->l.length<g->mE q f l=mE q g l
 | 0,_,_,h,_=>absurd h Om
 | _,0,_,_,h=>absurd h Om
 | f+1,g+1,l,e,hg=>by
   unfold mE;by_cases b:hd l=q
   ·rw[iP b,iP b]
   rw[iN b,iN b];by_cases c:hd l<32
   ·rw[iP c,iP c]
   rw[iN c,iN c];have hl:0<l.length:=uG Om;by_cases c3:hd l=92
   ·rw[iN (by simpa using c3),iN (by simpa using c3)];cases rm (l.drop 1) with
    | none=>rfl
    | some x=>
      simp only;rw[UD (f:=f) (g:=g) Sq Sq]
   rw[iP c3,iP c3,UD (f:=f) (g:=g) Sq Sq]
def B1:List UInt8:= [40,91,123]
end
section
open Go Go.RowKit
set_option maxHeartbeats 2000000
theorem UE{l:List UInt8}{j:Nat}(h:iU (hd (l.drop j))=true):j<l.length:=by
 rcases Nat.lt_or_ge j l.length with g | g
 ·exact g
 rw[List.drop_eq_nil_of_le g] at h;cases h
theorem ajc:tD 46=false:=by decide
theorem ajd{l:List UInt8}:lQ l<=l.length:=Gy
end
section
open Go Go.RowKit
theorem aje{A K:CH}{v:ae}{ns:List Nat}{n:Nat}(h:CP A K v ns)(hA:ag A K)(hl:ns.length<1000000){Q:ae->CH->Prop}(k : ∀v' K',CP A K' v' (ns++ [n])->ag A K'->K.nx<=K'.nx->(∀l,l<K.nx->(∀o n c,v≠ .slice (some ⟨l,o,none⟩) n c)->K'.ob l=K.ob l)->Q v' K') :
 uV (lY 3 1 8 v [.int .i64 n] 1 K) Q:=by
 obtain⟨b,kd,c,os,rfl,h1,h2,h3,h4,h5,u,m,q⟩:=h;rw[Us,h3,Ur,iN de,iP ⟨rfl,rfl,h4,Om,rfl,Om,by rw[gE];omega⟩,lj];have e : ∀H:CH,H.nx=K.nx->(H.new (.cells (os.take (ns.length*1)++ [.int .i64 (n:Int)]) 3 .gr)).ob K.nx= .cells (os.take (ns.length*1)++ [.int .i64 (n:Int)]) 3 .gr:=λH s=>by rw[bS,iP s.symm]
 have t : ∀i,i<(ns++ [n]).length->(os.take (ns.length*1)++ [.int .i64 (n:Int)])[i]? = some (.int .i64 ((ns++ [n]).getD i 0:Nat)):=λi hi=>by
  simp only[cG,SC] at hi;by_cases f:i<ns.length
  ·rw[qo Sq,List.getElem?_take,iP Om,q i f];simp[List.getD,qo f]
  have:i=ns.length:=by omega
  subst this;rw[List.getElem?_append_right Sq];simp[List.getD,m]
 have j : ∀K':CH,K'.nx=K.nx+1->K'.ob K.nx= .cells (os.take (ns.length*1)++ [.int .i64 (n:Int)]) 3 .gr->CP A K' (.slice (some ⟨K.nx,0,none⟩) (ns.length+1) (ns.length+1)) (ns++ [n]):=λK' g1 g2=>
  ⟨K.nx, .gr,ns.length+1,_,Sm,hA.nx,Om,g2,rfl,Sm,Om,Sq,t⟩
 unfold iY;split;·exact k _ _ (j _ rfl (e K rfl)) (hA.new _) (mC _) λl hl _=>by rw[bS,iN Om]
 refine k _ _ (j _ rfl (e (K.set b .dead) rfl)) ((hA.set h1 _).new _) (mC _) λl hl aB=> ?_;rw[bS,iN (by show ¬l=K.nx;omega),br,iN];rintro rfl;exact aB _ _ _ rfl
theorem UF{n:Nat} : ∀ {st:List Nat},st.getLast? = some 0->∃k,(st.takeWhile λx=>decide (n<x)).length=k/\k<st.length/\(∀i,i<k->n<st.getD i 0)/\¬n<st.getD k 0/\(st.dropWhile λx=>decide (n<x))=st.drop k
 | [],h=>by cases h
 | a::r,h=>by
   by_cases ha:n<a
   ·cases r with
    | nil=>simp at h;omega
    | cons b r=>
      obtain⟨k,h1,h2,h3,h4,h5⟩:=UF (n:=n) (st:=b::r) (by simpa using h);refine⟨k+1,by rw[List.takeWhile_cons_of_pos (by simpa using ha)];simp[h1],by simp at h2⊢;omega,λi hi=> ?_,by simpa using h4,by rw[List.dropWhile_cons_of_pos (by simpa using ha),h5];rfl⟩;cases i with
      | zero=>exact ha
      | succ i=>simpa using h3 i Om
   exact⟨0,by rw[List.takeWhile_cons_of_neg (by simpa using ha)];rfl,Sm,λi hi=>absurd hi Om,by simpa using ha,by rw[List.dropWhile_cons_of_neg (by simpa using ha)];rfl⟩
theorem ajf{b n c j:Nat}(h2:j+1<=c):tG 1 (.slice (some ⟨b,0,none⟩) n c) ((0:Nat):Int) ((j:Nat)+1:Int) (c:Int) false=some (.slice (some ⟨b,0,none⟩) (j+1) c):=by
 unfold tG;simp only[Bool.false_eq_true,iF];rw[iP Om,iN Om];have e:(((j:Nat):Int)+1-((0:Nat):Int)).toNat=j+1:=by omega
 have f:((c:Int)-((0:Nat):Int)).toNat=c:=by omega
 rw[e,f];rfl
theorem abY{K:CH}{b o n c e:Nat}{os:List ae}{kd:Kd}(h:K.ob b= .cells os e kd):ri K e (.slice (some ⟨b,o,none⟩) n c)=true:=by
 simp only[ri,h];cases kd<;>simp
end
section
def Nl (u:List UInt8):Prop:=u= []\/∃r,u=10::r
theorem Pv{t:List UInt8}:lQ t<=t.length:=Gy
theorem UG{t:List UInt8}{j:Nat}(h:iU (hd (t.drop j))=true):j+1<=t.length:=by
 have:hd (t.drop j)≠0:=λe=>by rw[e] at h;cases h
 have:=uG this;simp at this;omega
theorem ajg{l:List UInt8}:uH l<=l.length:=by
 unfold uH;split;·rename_i g;have h1:=UG g.2;have:=Pv (t:=l.drop 1);simp only[lB] at this;omega
 omega
theorem ajh{l:List UInt8}:yx l<=l.length:=by
 unfold yx;have h1:=Pv (t:=l.drop 1);have h2:=Pv (t:=l.drop 2);simp only[lB] at h1 h2;split
 ·split;·rename_i g;have:=UG g;omega
  split;·rename_i g;have:=UG g.2;omega
  omega
 omega
theorem abZ{l:List UInt8}:vW l<=l.length:=by
 have h1:=Pv (t:=l);have h2:=ajg (l:=l.drop (lQ l));simp only[lB] at h2;unfold vW;omega
theorem ab0{l:List UInt8}:sE l<=l.length:=by
 have h1:=abZ (l:=l);have h3:=ajh (l:=l.drop (vW l));simp only[lB] at h3;unfold sE;omega
theorem aji{l:List UInt8}{b n:Nat}(h:rm l=some (b,n)):n<=l.length:=by
 unfold rm at h;split at h
 ·split at h
  ·rename_i g;cases h;have h2:hd (l.drop 2)≠0:=λe=>by have:=g.2;rw[e] at this;exact absurd this de
   have:=uG h2;simp at this;omega
  cases h
 split at h
 ·rename_i g1 g;cases h;have c:hd l≠0:=λe=>g (by rw[e];decide);exact uG c
 cases h
theorem ajj{l:List UInt8}{n:Nat}(h:uJ l=some n):n<=l.length/\0<n:=by
 have h3 : ∀x∈S3,x.length=3:=by decide
 have h2 : ∀x∈S2,x.length=2:=by decide
 unfold uJ at h;split at h;·rename_i g;cases h;have:=h3 _ g;simp at this;omega
 split at h;·rename_i g;cases h;have:=h2 _ g;simp at this;omega
 split at h
 ·rename_i g;cases h;have:hd l≠0:=λe=>by rw[e] at g;revert g;decide
  have:=uG this;omega
 cases h
theorem UH{q:Nat} : ∀ {f:Nat} {l x:List UInt8} {n:Nat},32<=q->mE q f l=some (x,n)->n<=l.length
 | 0,_,_,_,_,h=>by cases h
 | f+1,l,x,n,j,h=>by
   simp only[mE] at h;split at h;·rename_i c;cases h;exact uG Om
   split at h;·cases h
   rename_i m o;have hl:0<l.length:=uG Om;split at h;·rw[nf] at h;obtain⟨⟨y,k⟩,h1,h2⟩:=h;cases h2;have:=UH j h1;simp only[lB] at this;show k+1<=_;omega
   cases i:rm (l.drop 1) with
   | none=>rw[i] at h;cases h
   | some z=>
     obtain⟨b,e⟩:=z;rw[i] at h;simp only at h;rw[nf] at h;obtain⟨⟨y,k⟩,h1,h2⟩:=h;cases h2;have h3:=UH j h1;have h4:=aji i;simp only[lB] at h3 h4;show k+(1+e)<=_;omega
theorem Ld{l:List UInt8}{k n:Nat}{x:List UInt8}(h:mF l=some (k,x,n)):0<n/\n<=l.length:=by
 unfold mF at h;split at h
 ·rename_i g;cases h;have hl:0<l.length:=uG λe=>by rw[e] at g;cases g
  have:=D2 (p:=kY) (l:=l) (j:=0) hl (by simp[kY,g]);simp only[gI] at this;exact⟨Om,Gy⟩
 split at h
 ·rename_i g;split at h;·cases h
  cases h;have hl:0<l.length:=uG λe=>by rw[e] at g;cases g
  have:=D2 (p:=iU) (l:=l) (j:=0) hl (by simpa using g);simp only[gI] at this;refine⟨?_,ab0⟩;unfold sE vW lQ;omega
 split at h;·rename_i g;rw[nf] at h;obtain⟨⟨y,m⟩,h1,h2⟩:=h;cases h2;have hl:0<l.length:=uG Om;have:=UH Om h1;simp only[lB] at this;show 0<m+1/\m+1<=_;omega
 rw[nf] at h;obtain⟨m,h1,h2⟩:=h;cases h2;have:=ajj h1;omega
theorem ab1{t:List UInt8}:du t<=t.length:=by
 have h1:=Gy (p:=λn=>decide (n=32)) (l:=t);unfold du;split;·have:=Gy (p:=λn=>decide (n≠10)) (l:=t.drop (nW (λn=>decide (n=32)) t));simp only[lB] at this;omega
 exact h1
end
section
open Go Go.RowKit
theorem ab2{d k:Nat}{x:List UInt8}:D3 d k x<=d+1:=by
 unfold D3
 (repeat' split)<;>omega
theorem ab3{line:Nat} : ∀ {f:Nat} {t:List UInt8} {d d':Nat} {x:List Tok},nj line f t d=some (x,d')->x.length<=t.length/\d'<=d+t.length
 | 0,_,_,_,_,h=>by cases h
 | f+1,t,d,d',x,h=>by
   simp only[nj] at h;split at h;·cases h;simp
   rename_i hb;cases ht:mF (t.drop (du t)) with
   | none=>rw[ht] at h;cases h
   | some z=>
     obtain⟨k,y,n⟩:=z;rw[ht] at h;simp only at h;rw[nf] at h;obtain⟨⟨xs,e⟩,h1,h2⟩:=h;cases h2;obtain⟨g1,g2⟩:=ab3 h1;have g3:=Ld ht;have g4:= @ab2 d k y;simp only[lB] at g1 g2 g3;simp only[bN];omega
theorem ab4{line n:Nat}{st:List Nat}:(kD line st n).1.length+(kD line st n).2.length<=st.length+2:=by
 unfold kD;split;·simp;omega
 have h1:(st.takeWhile λx=>decide (n<x)).length+(st.dropWhile λx=>decide (n<x)).length=st.length:=by
  rw[<-cG,List.takeWhile_append_dropWhile]
 simp only[Jo];omega
structure xF(s:RS)(t:List UInt8)(j f d:Nat)(ts:List Tok):Prop where
 tk:nj s.line (t.length+1) t s.dep=(nj s.line f (t.drop j) d).map λy=>(ts++y.1,y.2)
 fu:t.length-j<f
 fl:f<=t.length+1
 jl:j<=t.length
 dl:d<=s.dep+j
 tl:ts.length<=j
theorem xF.step{s:RS}{t:List UInt8}{j f d:Nat}{ts:List Tok}(h:xF s t j f d ts)(c : ¬(t.drop j).length<=du (t.drop j)){k n:Nat}{x:List UInt8}(ht:mF (t.drop (j+du (t.drop j)))=some (k,x,n)) :
 ∃b,b<f/\xF s t (j+du (t.drop j)+n) b (D3 d k x) (ts++ [⟨k,s.line,x⟩]):=by
 obtain⟨b,rfl⟩ : ∃b,f=b+1:=⟨f-1,by have:=h.fu;omega⟩;have g3:=Ld ht;simp only[lB] at g3 c;have i:=h.jl;have e:=h.fu;have l:=h.fl;have m:=h.dl;have o:=h.tl;have hd:= @ab2 d k x;refine⟨b,fN _,⟨?_,Om,Om,Om,Om,Sq⟩⟩;rw[h.tk];simp only[nj];rw[iN Sq,j9,ht];simp only[j9,<-oa];cases nj s.line b (t.drop (j+du (t.drop j)+n)) (D3 d k x) with
 | none=>rfl
 | some y=>simp
theorem xF.bad{s:RS}{t:List UInt8}{j f d:Nat}{ts:List Tok}(h:xF s t j f d ts)(c : ¬(t.drop j).length<=du (t.drop j))(ht:mF (t.drop (j+du (t.drop j)))=none):nj s.line (t.length+1) t s.dep=none:=by
 obtain⟨b,rfl⟩ : ∃b,f=b+1:=⟨f-1,by have:=h.fu;omega⟩;rw[h.tk];simp only[nj];rw[iN c,j9,ht];rfl
theorem xF.fin{s:RS}{t:List UInt8}{j f d:Nat}{ts:List Tok}(h:xF s t j f d ts)(c:(t.drop j).length<=du (t.drop j)):nj s.line (t.length+1) t s.dep=some (ts,d):=by
 obtain⟨b,rfl⟩ : ∃b,f=b+1:=⟨f-1,by have:=h.fu;omega⟩;rw[h.tk];simp only[nj];rw[iP c];simp
end
section
open Go Go.RowKit
theorem ajk : ∀ {l:List UInt8},iI l≠ []
 | []=>by simp[iI]
 | c::r=>by
   simp only[iI];split;·simp
   split<;>simp
theorem UJ{u:List UInt8}(hu:Nl u) : ∀ {t:List UInt8},(∀x∈t,x.toNat≠10)->iI (t++u)=t::(match u with | []=> [] | _::r=>iI r)
 | [],_=>by
   rcases hu with rfl | ⟨r,rfl⟩
   ·rfl
   simp only[ju,iI];rw[iP de]
 | c::t,h=>by
   simp only[gZ,iI];rw[iN (h c Sm),UJ hu (λx hx=>h x (by simp[hx]))]
theorem ab5{p:Nat->Bool}{a:Nat}(hp:p a=false) : ∀ {l:List Nat},l.getLast? = some a->(l.dropWhile p).getLast? = some a
 | [],h=>by cases h
 | [b],h=>by
   simp at h;subst h;simp[List.dropWhile_cons,hp]
 | b::c::l,h=>by
   rw[List.dropWhile_cons];split;·exact ab5 hp (by simpa[List.getLast?_cons_cons] using h)
   exact h
theorem ajl{line n:Nat}{st:List Nat}(h:st.getLast? = some 0):(kD line st n).2.getLast? = some 0:=by
 unfold kD;split
 ·cases st with
  | nil=>cases h
  | cons a st=>simpa[List.getLast?_cons_cons] using h
 exact ab5 Sm h
theorem ab6{line d d':Nat}{t:List UInt8}{st bB:List Nat}{x:List Tok}(h:lR line t d st= .ok (x,d',bB))(hz:st.getLast? = some 0):x.length+bB.length<=st.length+t.length+3/\d'<=d+t.length/\bB.getLast? = some 0:=by
 unfold lR at h;split at h;·cases h;refine⟨Sq,Om,hz⟩
 split at h;·cases h
 split at h;·cases h
 rename_i ts d1 ht;obtain⟨g1,g2⟩:=ab3 ht;have g3:= @ab4 line (du t) st;cases h;refine⟨?_,g2,?_⟩
 ·simp only[cG];split<;>split<;>simp only[bZ,bN]<;>omega
 split;·exact ajl hz
 exact hz
def EP (o:List Tok):Except (Nat×Nat) (List Tok×List Nat)->Except (Nat×Nat) (List Tok×List Nat)
 | .ok y=> .ok (o++y.1,y.2)
 | .error e=> .error e
theorem ajm{a b:List Tok}{r:Except (Nat×Nat) (List Tok×List Nat)}:EP a (EP b r)=EP (a++b) r:=by
 cases r<;>simp[EP]
theorem HA{line d:Nat}{t:List UInt8}{ts:List (List UInt8)}{st:List Nat}:kE line (t::ts) d st=match lR line t d st with | .error e=> .error (line,e) | .ok (x,d',bB)=>EP x (kE (line+1) ts d' bB):=by
 simp only[kE];cases lR line t d st with
 | error e=>rfl
 | ok y=>
   obtain⟨x,d',bB⟩:=y;simp only;cases kE (line+1) ts d' bB<;>rfl
def l6 (src:List UInt8):List Int:=src.map λc=>(c.toNat:Int)
def UK (H:CH):ae->Option ae
 | .slice none 0 0=>some (.string .empty)
 | .slice (some ⟨l,o,none⟩) n _=>match H.ob l with
   | .cells cs _ _=>if o+n<=cs.length then (sI ((cs.drop o).take n)).map λbs=> .string ⟨bs.toArray⟩ else none
   | _=>none
 | .slice (some ⟨_,_,some _⟩) 0 _=>some (.string .empty)
 | _=>none
theorem ajn{H:CH}{ev:av->ae}{x:av}:aD H ev (.b2s x)=UK H (ev x):=rfl
theorem ab7 : ∀ {src:List UInt8},sI (src.map λc=>Value.int .u8 (c.toNat:Int))=some src
 | []=>rfl
 | c::r=>by
   rw[c8];simp only[sI];rw[ab7];simp
theorem ajo{H:CH}{q:Option cB}{c:Nat}{src:List UInt8}(h:ig 1 (pY .u8) H q c (l6 src)):UK H (.slice q src.length c)=some (.string (str src)):=by
 rcases h with ⟨h,rfl,rfl | rfl | rfl⟩ | ⟨l,o,os,e,kd,rfl,hl,hc,n,m,b,f⟩
 ·have:src= []:=by simpa[l6] using h
  subst this;rfl
 ·have:src= []:=by simpa[l6] using h
  subst this;rfl
 ·have:src= []:=by simpa[l6] using h
  subst this;rfl
 simp only[l6,eR,fp] at b f;simp only[UK,m];rw[iP b];have:(os.drop o).take src.length=src.map λc=>Value.int .u8 (c.toNat:Int):=by
  apply N0;·simp;omega
  intro i h1 h2;have h3:=(f i (by simpa using h2)).1;simp only[eR] at h2;have j:((os.drop (o+i)).take 1)[0]? = some (.int .u8 (src[i].toNat:Int)):=by rw[h3];simp
  rw[sA Om,pI,mA] at j;simp only[List.getElem_take,YS,Jj];exact(List.getElem?_eq_some_iff.1 j).2
 rw[this,ab7];rfl
end
section
open Go Go.RowKit
def UL(H K:CH)(v:ae):Except (Nat×Nat) (List Tok)->Prop
 | .ok ts=>∃vt,v= .tuple #[vt, .int .i64 0, .int .i64 0]/\eV H 85 3 AX K vt ts
 | .error y=>v= .tuple #[.slice none 0 0, .int .i64 y.1, .int .i64 y.2]
theorem ajp{line d e:Nat}{t:List UInt8}{st:List Nat}(h:lR line t d st= .error e):e=20\/e=21:=by
 unfold lR at h;split at h;·cases h
 split at h;·cases h;exact .inr rfl
 split at h;·cases h;exact .inl rfl
 cases h
theorem UM : ∀ {src:List UInt8},∀t∈iI src,t.length<=src.length
 | [],t,h=>by simp[iI] at h;subst h;simp
 | c::r,t,h=>by
   simp only[iI] at h;split at h
   ·rcases List.mem_cons.1 h with rfl | h
    ·simp
    have:=UM t h;simp;omega
   have e:=λt h=>UM (src:=r) t h;split at h
   ·rename_i a b f;rcases List.mem_cons.1 h with rfl | h
    ·have:=e a (by rw[f];simp);simp;omega
    have:=e t (by rw[f];simp[h]);simp;omega
   simp at h;subst h;simp
theorem ab8 : ∀ {ts:List (List UInt8)} {line d:Nat} {st bB:List Nat} {x:List Tok},kE line ts d st= .ok (x,bB)->st.getLast? = some 0->x.length+bB.length<=st.length+(ts.map tu).sum+3*ts.length
 | [],line,d,st,bB,x,h,_=>by cases h;simp
 | t::ts,line,d,st,bB,x,h,hz=>by
   rw[HA] at h;cases c:lR line t d st with
   | error e=>rw[c] at h;cases h
   | ok y=>
     obtain⟨a,d1,bM⟩:=y;rw[c] at h;simp only at h;cases hw:kE (line+1) ts d1 bM with
     | error e=>rw[hw] at h;cases h
     | ok z=>
       obtain⟨b,f⟩:=z;rw[hw] at h;cases h;obtain⟨g1,g2,g3⟩:=ab6 c hz;have:=ab8 hw g3;simp only[cG,c8,Jp,bN];omega
theorem Pw : ∀ {src:List UInt8},((iI src).map tu).sum+(iI src).length=src.length+1
 | []=>rfl
 | c::r=>by
   have f:=Pw (src:=r);simp only[iI];split;·simp only[c8,Jp,bN,bZ];omega
   split;·rename_i a b e;rw[e] at f;simp only[c8,Jp,bN] at f⊢;omega
   rename_i e;exact absurd e ajk
theorem UO{src:List UInt8}{ts:List Tok}(h:lC src= .ok ts):ts.length<=100000:=by
 unfold lC at h;split at h;·cases h
 cases b:kE 1 (iI src) 0 [0] with
 | error e=>rw[b] at h;cases h
 | ok y=>
   obtain⟨x,st⟩:=y;rw[b] at h;cases h;have h1:=ab8 b rfl;have h2:=Pw (src:=src);simp only[D4,cG,Jo,bN,bZ] at h1⊢;omega
theorem ajq{x:Int}(h:(Lit.int .u8 x).wf=true):((x.toNat.toUInt8).toNat:Int)=x:=by
 have:=bounds_u8 h;have h1:x.toNat.toUInt8.toNat=x.toNat % 256:=by simp
 omega
theorem CQ{src:List UInt8}:(l6 src).length=src.length:=by simp[l6]
end
section
theorem ab9 : ∀ {ts:List (List UInt8)} {line d:Nat} {st:List Nat} {e:Nat×Nat},kE line ts d st= .error e->line<=e.1/\(e.2=20\/e.2=21)
 | [],line,d,st,e,h=>by cases h
 | t::ts,line,d,st,e,h=>by
   rw[HA] at h;cases b:lR line t d st with
   | error e'=>rw[b] at h;cases h;exact⟨ai _,ajp b⟩
   | ok y=>
     obtain⟨x,c,bB⟩:=y;rw[b] at h;simp only at h;cases hs:kE (line+1) ts c bB with
     | error f=>
       rw[hs] at h;cases h;have:=ab9 hs;omega
     | ok z=>rw[hs] at h;cases h
theorem ab'{src:List UInt8}{e:Nat×Nat}(hl:src.length<=20000)(h:lC src= .error e):1<=e.1/\(e.2=20\/e.2=21):=by
 unfold lC at h;rw[iN Om] at h;cases b:kE 1 (iI src) 0 [0] with
 | error e'=>rw[b] at h;cases h;exact ab9 b
 | ok y=>rw[b] at h;cases h
end
section
open Go Go.RowKit
variable {P:aX} {B:Nat}
abbrev dz:=aS->List ae->CH->ae->CH->Prop
inductive pZ(T:cw)(PC:dz):bQ->Fr->CH->ae->CH->Prop where
 | mI {A R:List Item} {k:Item} {f:aS} {args:List av} {fr am:Fr} {H H1 H':CH} {v:ae} (hn : ∃n,dP (dH T n) A fr H=some (am,H1)) (hw:eG am k.guard=some true) (hk:k.op= .call f args) (hp:PC f (args.map (aJ am)) H1 v H'):pZ T PC (.mI (A++k::R)) fr H v H'
 | mJ {d:jB} {A R:List Item} {k:Item} {f:aS} {args:List av} {fr am:Fr} {H H1 H':CH} {v:ae} {Zl:List Item} (hi:d.af=A++k::R) (hd:d.yG=some Zl) (hA : ∀x∈A,qD x.op=true) (hn : ∃n,dP (dH T n) A fr H=some (am,H1)) (hz : ∃n r,dP (dH T n) Zl am H1=some r) (hw:eG am k.guard=some true) (hk:k.op= .call f args) (hp:PC f (args.map (aJ am)) H1 v H'):pZ T PC (.mJ d) fr H v H'
 | seq1 {a b:bQ} {fr:Fr} {H H':CH} {v:ae} (h:pZ T PC a fr H v H'):pZ T PC (.seq a b) fr H v H'
 | ajr {a b:bQ} {fr am:Fr} {H H1 H':CH} {v:ae} (hn : ∃n,bE (dH T n) n a fr H=some (.normal,am,H1)) (h:pZ T PC b am H1 v H'):pZ T PC (.seq a b) fr H v H'
 | cond_t {c:av} {a b:bQ} {fr:Fr} {H H':CH} {v:ae} (hc:aJ fr c= .bool true) (h:pZ T PC a fr H v H'):pZ T PC (.cond c a b) fr H v H'
 | cond_f {c:av} {a b:bQ} {fr:Fr} {H H':CH} {v:ae} (hc:aJ fr c= .bool false) (h:pZ T PC b fr H v H'):pZ T PC (.cond c a b) fr H v H'
 | block {id:Nat} {c:bQ} {fr:Fr} {H H':CH} {v:ae} (h:pZ T PC c fr H v H'):pZ T PC (.block id c) fr H v H'
 | ajs {c:bQ} {fr:Fr} {H H':CH} {v:ae} (h:pZ T PC c fr H v H'):pZ T PC (.loop c) fr H v H'
 | ajt {c:bQ} {fr am:Fr} {H H1 H':CH} {v:ae} (hn : ∃n,bE (dH T n) n c fr H=some (.normal,am,H1)) (h:pZ T PC (.loop c) am H1 v H'):pZ T PC (.loop c) fr H v H'
def HB (T:cw)(X:dz):Nat->dz
 | 0=>X
 | n+1=>λf args H v H'=>X f args H v H'\/(T.ext f=false/\∃rf,T.fn f=some rf/\pZ T (HB T X n) rf.body (λt=>args.getD t undef) H v H')
variable {T:cw} {X:dz}
def EQ (T:cw)(X:dz)(f:aS)(args:List ae)(H:CH)(Q R:ae->CH->Prop):Prop:=aQ T f args H Q\/∃n v H',HB T X n f args H v H'/\R v H'
def WxO (T:cw)(X:dz)(fr:Fr)(H:CH)(o:gB)(Q R:ae->CH->Prop):Prop:=lW T fr H o Q\/∃f args,o= .call f args/\∃n v H',HB T X n f (args.map (aJ fr)) H v H'/\R v H'
def oM (T:cw)(X:dz)(c:bQ)(fr:Fr)(H:CH)(Q:bp->Fr->CH->Prop)(R:ae->CH->Prop):Prop:=dh T c fr H Q\/∃n v H',pZ T (HB T X n) c fr H v H'/\R v H'
def Le (T:cw)(X:dz)(n:Nat)(q:Option (List Item))(af:List Item)(fr:Fr)(H:CH)(v:ae)(H':CH):Prop:=∃A k b f args am H1,af=A++k::b/\(∀Zl,q=some Zl->(∀x∈A,qD x.op=true)/\∃n r,dP (dH T n) Zl am H1=some r)/\(∃m,dP (dH T m) A fr H=some (am,H1))/\eG am k.guard=some true/\k.op= .call f args/\HB T X n f (args.map (aJ am)) H1 v H'
def AY (T:cw)(X:dz)(af:List Item)(fr:Fr)(H:CH)(K:Fr->CH->Prop)(R:ae->CH->Prop):Prop:=qE T af fr H K\/∃n v H',Le T X n none af fr H v H'/\R v H'
theorem EQ.mono{f:aS}{args:List ae}{H:CH}{Q Q' R b:ae->CH->Prop}(h:EQ T X f args H Q R)(c : ∀v H',Q v H'->Q' v H')(e : ∀v H',R v H'->b v H'):EQ T X f args H Q' b:=by
 rcases h with h | ⟨n,v,H',h1,h2⟩
 ·exact .inl (h.mono c)
 exact .inr ⟨n,v,H',h1,e _ _ h2⟩
theorem oM.mono{c:bQ}{fr:Fr}{H:CH}{Q Q':bp->Fr->CH->Prop}{R b:ae->CH->Prop}(h:oM T X c fr H Q R)(e : ∀x fr' H',Q x fr' H'->Q' x fr' H')(f : ∀v H',R v H'->b v H'):oM T X c fr H Q' b:=by
 rcases h with h | ⟨n,v,H',h1,h2⟩
 ·exact .inl (h.mono e)
 exact .inr ⟨n,v,H',h1,f _ _ h2⟩
theorem aju{f:aS}{rf:yI}(he:T.ext f=false)(b:T.fn f=some rf){args:List ae}{H:CH}{Q R:ae->CH->Prop}(h:oM T X rf.body (λt=>args.getD t undef) H (AS rf.res Q) R):EQ T X f args H Q R:=by
 rcases h with h | ⟨n,v,H',h1,h2⟩
 ·exact .inl (Uh he b h)
 exact .inr ⟨n+1,v,H', .inr ⟨he,rf,b,h1⟩,h2⟩
theorem Px{n m:Nat}{q:Option (List Item)}{it:Item}{r:List Item}{fr am:Fr}{H H1 H':CH}{v:ae}(hs:cX (dH T m) it fr H=some (am,H1))(b : ∀Zl,q=some Zl->qD it.op=true)(h:Le T X n q r am H1 v H'):Le T X n q (it::r) fr H v H':=by
 obtain⟨A,k,c,f,args,i,j,rfl,h2,⟨m2,h3⟩,h4,h5,l⟩:=h;refine⟨it::A,k,c,f,args,i,j,rfl,λZl e=>⟨λx hx=> ?_,(h2 Zl e).2⟩,⟨max m m2,?_⟩,h4,h5,l⟩
 ·rcases List.mem_cons.1 hx with rfl | hx
  ·exact b Zl e
  exact(h2 Zl e).1 x hx
 simp only[dP];rw[TJ (tO (yr ..)) hs];exact Ki (tO (yt ..)) h3
theorem aca{n:Nat}{q:Option (List Item)}{it:Item}{r:List Item}{fr:Fr}{H H':CH}{v:ae}{f:aS}{args:List av}(hw:eG fr it.guard=some true)(hk:it.op= .call f args)(hz : ∀Zl,q=some Zl->∃n r,dP (dH T n) Zl fr H=some r)(h:HB T X n f (args.map (aJ fr)) H v H'):Le T X n q (it::r) fr H v H':=
 ⟨[],it,r,f,args,fr,H,rfl,λZl e=>⟨λx hx=>(by cases hx),hz Zl e⟩,⟨0,rfl⟩,hw,hk,h⟩
theorem ajv{it:Item}{r:List Item}{fr:Fr}{H:CH}{K:Fr->CH->Prop}{R:ae->CH->Prop}(hw:eG fr it.guard=some true)(h:WxO T X fr H it.op (λv b=>AY T X r (bO fr it.dst v) b K R) R):AY T X (it::r) fr H K R:=by
 rcases h with ⟨n,v,b,h1,h2⟩ | ⟨f,args,e,n,v,H',h1,h2⟩
 ·rcases h2 with h2 | ⟨m,u,H',h2,h3⟩
  ·left;rw[OP];simp only[hw];exact⟨n,v,b,h1,h2⟩
  exact .inr ⟨m,u,H',Px (m:=n) (by simp only[cX,hw,h1];rfl) (λ_ e=>by cases e) h2,h3⟩
 exact .inr ⟨n,v,H',aca hw e (λ_ e=>by cases e) h1,h2⟩
theorem ajw{it:Item}{r:List Item}{fr:Fr}{H:CH}{K:Fr->CH->Prop}{R:ae->CH->Prop}(hw:eG fr it.guard=some false)(h:AY T X r (bO fr it.dst kg) H K R):AY T X (it::r) fr H K R:=by
 rcases h with h | ⟨n,v,H',h1,h2⟩
 ·left;rw[OP];simp only[hw];exact h
 exact .inr ⟨n,v,H',Px (m:=0) (by simp only[cX,hw]) (λ_ e=>by cases e) h1,h2⟩
theorem ajx{af:List Item}{fr:Fr}{H:CH}{Q:bp->Fr->CH->Prop}{R:ae->CH->Prop}(h:AY T X af fr H (Q .normal) R):oM T X (.mI af) fr H Q R:=by
 rcases h with h | ⟨n,v,H',⟨A,k,c,f,args,am,H1,rfl,_,h3,h4,h5,b⟩,h2⟩
 ·exact .inl (aas.2 h)
 exact .inr ⟨n,v,H', .mI h3 h4 h5 b,h2⟩
theorem ajy{a b:bQ}{fr:Fr}{H:CH}{Q:bp->Fr->CH->Prop}{R:ae->CH->Prop}(h:oM T X a fr H (λx fr' H'=>match x with
 | .normal=>oM T X b fr' H' Q R
 | x=>Q x fr' H') R):oM T X (.seq a b) fr H Q R:=by
 rcases h with ⟨n,x,am,H1,h1,h2⟩ | ⟨n,v,H',h1,h2⟩
 ·cases x with
  | normal=>
    rcases h2 with h2 | ⟨m,v,H',h2,h3⟩
    ·exact .inl (OR.2 ⟨n, .normal,am,H1,h1,h2⟩)
    exact .inr ⟨m,v,H', .ajr ⟨n,h1⟩ h2,h3⟩
  | exit i=>exact .inl (OR.2 ⟨n, .exit i,am,H1,h1,h2⟩)
  | ret=>exact .inl (OR.2 ⟨n, .ret,am,H1,h1,h2⟩)
 exact .inr ⟨n,v,H', .seq1 h1,h2⟩
theorem ajz{c:av}{a b:bQ}{fr:Fr}{H:CH}{Q:bp->Fr->CH->Prop}{R:ae->CH->Prop}(hc:aJ fr c= .bool true)(h:oM T X a fr H Q R):oM T X (.cond c a b) fr H Q R:=by
 rcases h with h | ⟨n,v,H',h1,h2⟩
 ·left;rw[TO,hc];exact h
 exact .inr ⟨n,v,H', .cond_t hc h1,h2⟩
theorem ajA{c:av}{a b:bQ}{fr:Fr}{H:CH}{Q:bp->Fr->CH->Prop}{R:ae->CH->Prop}(hc:aJ fr c= .bool false)(h:oM T X b fr H Q R):oM T X (.cond c a b) fr H Q R:=by
 rcases h with h | ⟨n,v,H',h1,h2⟩
 ·left;rw[TO,hc];exact h
 exact .inr ⟨n,v,H', .cond_f hc h1,h2⟩
theorem ajB{id:Nat}{c:bQ}{fr:Fr}{H:CH}{Q:bp->Fr->CH->Prop}{R:ae->CH->Prop}(h:oM T X c fr H (λx fr' H'=>match x with
 | .exit i=>if i=id then Q .normal fr' H' else Q (.exit i) fr' H'
 | x=>Q x fr' H') R):oM T X (.block id c) fr H Q R:=by
 rcases h with h | ⟨n,v,H',h1,h2⟩
 ·exact .inl (aau.2 (h.mono λx fr' H' hx=>by cases x<;>exact hx))
 exact .inr ⟨n,v,H', .block h1,h2⟩
theorem ajC{c:bQ}{fr:Fr}{H:CH}{Q:bp->Fr->CH->Prop}{R:ae->CH->Prop}(h:oM T X c fr H (λx fr' H'=>match x with
 | .normal=>oM T X (.loop c) fr' H' Q R
 | x=>Q x fr' H') R):oM T X (.loop c) fr H Q R:=by
 rcases h with ⟨n,x,am,H1,h1,h2⟩ | ⟨n,v,H',h1,h2⟩
 ·cases x with
  | normal=>
    rcases h2 with h2 | ⟨m,v,H',h2,h3⟩
    ·exact .inl (OS.2 ⟨n, .normal,am,H1,h1,h2⟩)
    exact .inr ⟨m,v,H', .ajt ⟨n,h1⟩ h2,h3⟩
  | exit i=>exact .inl (OS.2 ⟨n, .exit i,am,H1,h1,h2⟩)
  | ret=>exact .inl (OS.2 ⟨n, .ret,am,H1,h1,h2⟩)
 exact .inr ⟨n,v,H', .ajs h1,h2⟩
theorem ajD{c:bQ}{Q:bp->Fr->CH->Prop}{R:ae->CH->Prop}(I:Nat->Fr->CH->Prop)(step : ∀n fr H,I n fr H->oM T X c fr H (Hr I n Q) R) : ∀ {n:Nat} {fr:Fr} {H:CH},I n fr H->oM T X (.loop c) fr H Q R:=by
 intro n;induction n using Nat.strongRecOn with
 | _ n b=>
   intro fr H h;refine ajC ((step n fr H h).mono (λx fr' H' hx=> ?_) λ_ _ h=>h);cases x with
   | normal=>obtain⟨m,e,hi⟩:=hx;exact b m e hi
   | exit i=>exact hx
   | ret=>exact hx
end
section
open Go Go.RowKit
variable {P:aX} {B:Nat}
end
section
open Go Go.RowKit
variable {P:aX} {B:Nat} {T:cw} {X:dz}
def HC(P:aX)(B:Nat)(f:aS)(args:List ae)(H:CH)(v:ae)(H':CH):Prop:=pP P f=true/\∀β w (b:List ae),aP P B β H w->aT β args b->
 CallsIn Fence.wide 0 P f b.toArray w λe w'=>∃v' β',e= .returned v'/\VR β' v v'/\aP P B β' H' w'/\cd β w β' w'
end
section
open Go Go.RowKit
inductive R2{α β:Type}(R:α->β->Prop):List α->List β->Prop where
 | nil:R2 R [] []
 | cons {x:α} {y:β} {xs:List α} {ys:List β} (h:R x y) (t:R2 R xs ys):R2 R (x::xs) (y::ys)
theorem R2.len{α β:Type}{R:α->β->Prop} : ∀ {xs:List α} {ys:List β},R2 R xs ys->ys.length=xs.length
 | _,_, .nil=>rfl
 | _,_, .cons _ t=>by simp[t.len]
theorem R2.get{α β:Type}{R:α->β->Prop} : ∀ {xs:List α} {ys:List β},R2 R xs ys->∀ {i:Nat} {x:α},xs[i]? = some x->∃y,ys[i]? = some y/\R x y
 | _,_, .nil,i,x,h=>by simp at h
 | _,_, .cons h t,0,x,e=>by simp at e;subst e;exact⟨_,rfl,h⟩
 | _,_, .cons h t,i+1,x,e=>by simpa using t.get (i:=i) (by simpa using e)
theorem R2.app{α β:Type}{R:α->β->Prop} : ∀ {xs b:List α} {ys c:List β},R2 R xs ys->R2 R b c->R2 R (xs++b) (ys++c)
 | _,_,_,_, .nil,g=>g
 | _,_,_,_, .cons h t,g=> .cons h (t.app g)
theorem R2.take{α β:Type}{R:α->β->Prop} : ∀ {xs:List α} {ys:List β} (n:Nat),R2 R xs ys->R2 R (xs.take n) (ys.take n)
 | _,_,n, .nil=>by simpa using .nil
 | _,_,0, .cons h t=>by simpa using .nil
 | _,_,n+1, .cons h t=>by simpa using .cons h (t.take n)
theorem R2.drop{α β:Type}{R:α->β->Prop} : ∀ {xs:List α} {ys:List β} (n:Nat),R2 R xs ys->R2 R (xs.drop n) (ys.drop n)
 | _,_,n, .nil=>by simpa using .nil
 | _,_,0, .cons h t=>by simpa using .cons h t
 | _,_,n+1, .cons h t=>by simpa using t.drop n
theorem R2.mono{α β:Type}{R b:α->β->Prop}(c : ∀x y,R x y->b x y) : ∀ {xs:List α} {ys:List β},R2 R xs ys->R2 b xs ys
 | _,_, .nil=> .nil
 | _,_, .cons h t=> .cons (c _ _ h) (t.mono c)
theorem R2.map{α β γ:Type}{R:α->β->Prop}{b:γ->β->Prop}{f:α->γ}(c : ∀x y,R x y->b (f x) y) : ∀ {xs:List α} {ys:List β},R2 R xs ys->R2 b (xs.map f) ys
 | _,_, .nil=> .nil
 | _,_, .cons h t=> .cons (c _ _ h) (t.map c)
inductive SV where
 | sc (v:ae)
 | row (sz:Nat) (gs:List (List SV))
 | lk (x:List UInt8)
 | sub (sz:Nat) (gs:List (List SV))
inductive CV where
 | s (x:SV)
 | own (t:Nat) (e:aI) (sz:Nat) (gs:List (List SV))
 | bad
inductive RV where
 | c (x:CV)
 | agg (cs:List CV)
inductive AV where
 | r (x:RV)
 | ptr (o off:Nat)
 | fS (t:Option Nat) (g:List SV) (off:Nat)
 | iC (l:List RV)
 | skip
 | bad
def AZ:aI:=26
def Lf (e sz:Nat):Bool:= !(Nat.beq sz 5)||Nat.beq e AZ
theorem acb{e sz:Nat}(h:Lf e sz=true):sz=5->e=AZ:=λh5=>by
 subst h5;exact Nat.eq_of_beq_eq_true h
mutual
inductive fk(K:CH)(A:Nat->Prop):SV->ae->Prop where
 | sc {v:ae} (h:a8 v=true):fk K A (.sc v) v
 | qI {sz:Nat}:fk K A (.row sz []) (.slice none 0 0)
 | row {b sz:Nat} {os:List ae} {e:aI} {kd:Kd} {gs:List (List SV)} (aB:gs≠ []/\gs.length<=maxLen) (hb:A b) (ho:K.ob b= .cells os e kd) (hk:kd.bY=false) (hg : ∀g∈gs,g.length=sz) (hs:bK K A gs.flatten os) (ht:sz=5->e=AZ):fk K A (.row sz gs) (.slice (some ⟨b,0,none⟩) gs.length gs.length)
 | lk {x:List UInt8} {v:ae} (h:a8 v=true):fk K A (.lk x) v
 | yT {sz c:Nat} {q:Option cB}:fk K A (.sub sz []) (.slice q 0 c)
 | sub {b o c sz:Nat} {os:List ae} {e:aI} {kd:Kd} {gs:List (List SV)} (aB:gs≠ []/\gs.length<=maxLen) (hb:A b) (ho:K.ob b= .cells os e kd) (hg : ∀g∈gs,g.length=sz) (hl:o+gs.length*sz<=os.length) (hs:bK K A gs.flatten ((os.drop o).take (gs.length*sz))) (ht:sz=5->e=AZ):fk K A (.sub sz gs) (.slice (some ⟨b,o,none⟩) gs.length c)
inductive bK(K:CH)(A:Nat->Prop):List SV->List ae->Prop where
 | nil:bK K A [] []
 | cons {x:SV} {v:ae} {xs:List SV} {vs:List ae} (h:fk K A x v) (t:bK K A xs vs):bK K A (x::xs) (v::vs)
end
theorem fk.mv{K K':CH}{A c:Nat->Prop}(hA : ∀b,A b->c b/\K'.ob b=K.ob b){x:SV}{v:ae}(h:fk K A x v):fk K' c x v:=
 fk.rec (motive_1:=λx v _=>fk K' c x v) (motive_2:=λx v _=>bK K' c x v) (λh=> .sc h) .qI (λaB hb ho hk hg _ ht e=> .row aB (hA _ hb).1 ((hA _ hb).2.trans ho) hk hg e ht) (λh=> .lk h) .yT (λaB hb ho hg hl _ ht e=> .sub aB (hA _ hb).1 ((hA _ hb).2.trans ho) hg hl e ht) .nil (λ_ _ i1 i2=> .cons i1 i2) h
theorem bK.mv{K K':CH}{A c:Nat->Prop}(hA : ∀b,A b->c b/\K'.ob b=K.ob b){x:List SV}{v:List ae}(h:bK K A x v):bK K' c x v:=
 bK.rec (motive_1:=λx v _=>fk K' c x v) (motive_2:=λx v _=>bK K' c x v) (λh=> .sc h) .qI (λaB hb ho hk hg _ ht e=> .row aB (hA _ hb).1 ((hA _ hb).2.trans ho) hk hg e ht) (λh=> .lk h) .yT (λaB hb ho hg hl _ ht e=> .sub aB (hA _ hb).1 ((hA _ hb).2.trans ho) hg hl e ht) .nil (λ_ _ i1 i2=> .cons i1 i2) h
theorem bK.r2{K:CH}{A:Nat->Prop} : ∀ {xs:List SV} {vs:List ae},bK K A xs vs->R2 (fk K A) xs vs
 | [],_,h=>by cases h;exact .nil
 | x::xs,_,h=>by
   cases h with
   | cons h t=>exact .cons h t.r2
theorem R2.Lg{K:CH}{A:Nat->Prop} : ∀ {xs:List SV} {vs:List ae},R2 (fk K A) xs vs->bK K A xs vs
 | _,_, .nil=> .nil
 | _,_, .cons h t=> .cons h t.Lg
abbrev uY(sz:Nat)(gs:List (List SV)):SV:= .row sz gs
theorem fk.cell{K:CH}{A:Nat->Prop}{x:SV}{v:ae}(h:fk K A x v):a8 v=true:=by
 cases h with
 | sc h=>exact h
 | qI=>rfl
 | row=>rfl
 | lk h=>exact h
 | yT=>rfl
 | sub=>rfl
structure TE where
 σ:Nat->Option Nat
 ρ:Nat->Option Nat
 hid:Nat->Prop
def ei (K:CH)(E:TE)(b:Nat):Prop:=b<K.nx/\¬E.hid b/\(∀t,E.σ t≠some b)/\∀o,E.ρ o≠some b
inductive fT(K:CH)(E:TE):CV->ae->Prop where
 | s {x:SV} {v:ae} (h:fk K (ei K E) x v):fT K E (.s x) v
 | wF {t sz:Nat} {e:aI}:fT K E (.own t e sz []) (.slice none 0 0)
 | own {t b sz:Nat} {os:List ae} {e:aI} {kd:Kd} {gs:List (List SV)} (aB:gs≠ []/\gs.length<=maxLen) (hb:E.σ t=some b) (ho:K.ob b= .cells os e kd) (hk:kd.bY=false) (hg : ∀g∈gs,g.length=sz) (hs:bK K (ei K E) gs.flatten os) (ht:sz=5->e=AZ):fT K E (.own t e sz gs) (.slice (some ⟨b,0,none⟩) gs.length gs.length)
 | bad {v:ae} (h:a8 v=true):fT K E .bad v
theorem fT.cell{K:CH}{E:TE}{x:CV}{v:ae}(h:fT K E x v):a8 v=true:=by
 cases h with
 | s h=>exact h.cell
 | wF=>rfl
 | own=>rfl
 | bad h=>exact h
inductive pz(K:CH)(E:TE):RV->ae->Prop where
 | c {x:CV} {v:ae} (h:fT K E x v):pz K E (.c x) v
 | agg {cs:List CV} {vs:List ae} (h:R2 (fT K E) cs vs):pz K E (.agg cs) (.agg vs.toArray)
inductive cp(K:CH)(E:TE):AV->ae->Prop where
 | r {x:RV} {v:ae} (h:pz K E x v):cp K E (.r x) v
 | ptr {o off l:Nat} (h:E.ρ o=some l):cp K E (.ptr o off) (.pointer (some ⟨l,off,none⟩))
 | fS {t:Option Nat} {g:List SV} {off b base:Nat} {os:List ae} {e:aI} {kd:Kd} (hb:match t with | none=>ei K E b | some t=>E.σ t=some b) (ho:K.ob b= .cells os e kd) (hl:base+g.length<=os.length) (hs:R2 (fk K (ei K E)) g ((os.drop base).take g.length)):cp K E (.fS t g off) (.pointer (some ⟨b,base+off,none⟩))
 | iC {l:List RV} {vs:List ae} (h:R2 (pz K E) l vs):cp K E (.iC l) (.tuple vs.toArray)
 | skip:cp K E .skip kg
 | bad {v:ae}:cp K E .bad v
inductive SA where
 | dk | fz | kill
def CV.act(g:Nat->SA):CV->CV
 | .own t e sz gs=>match g t with
   | .dk=> .own t e sz gs
   | .fz=> .s (uY sz gs)
   | .kill=> .bad
 | x=>x
def RV.act(g:Nat->SA):RV->RV
 | .c x=> .c (x.act g)
 | .agg cs=> .agg (cs.map (CV.act g))
def AV.act(g:Nat->SA):AV->AV
 | .r x=> .r (x.act g)
 | .fS (some t) l off=>match g t with
   | .dk=> .fS (some t) l off
   | .fz=> .fS none l off
   | .kill=> .bad
 | .iC l=> .iC (l.map (RV.act g))
 | x=>x
structure Mv(K:CH)(E:TE)(g:Nat->SA)(K':CH)(E':TE):Prop where
 iX : ∀b,ei K E b->ei K' E' b/\K'.ob b=K.ob b
 dk : ∀t b,E.σ t=some b->g t= .dk->E'.σ t=some b/\K'.ob b=K.ob b
 fz : ∀t b,E.σ t=some b->g t= .fz->ei K' E' b/\K'.ob b=K.ob b
 eW : ∀o b,E.ρ o=some b->E'.ρ o=some b
variable {K K':CH} {E E':TE} {g:Nat->SA}
theorem fT.mv(m:Mv K E g K' E'){x:CV}{v:ae}(h:fT K E x v):fT K' E' (x.act g) v:=by
 cases h with
 | s h=>exact .s (h.mv m.iX)
 | @wF t sz e=>
   show fT K' E' (match g t with | .dk=> .own t e sz [] | .fz=> .s (uY sz []) | .kill=> .bad) _;cases g t with
   | dk=>exact .wF
   | fz=>exact .s .qI
   | kill=>exact .bad rfl
 | @own t b sz os e kd gs aB hb ho hk hg hs ht=>
   show fT K' E' (match g t with | .dk=> .own t e sz gs | .fz=> .s (uY sz gs) | .kill=> .bad) _;cases c:g t with
   | dk=>exact .own aB (m.dk t b hb c).1 ((m.dk t b hb c).2.trans ho) hk hg (hs.mv m.iX) ht
   | fz=>exact .s (.row aB (m.fz t b hb c).1 ((m.fz t b hb c).2.trans ho) hk hg (hs.mv m.iX) ht)
   | kill=>exact .bad rfl
 | bad h=>exact .bad h
theorem pz.mv(m:Mv K E g K' E'){x:RV}{v:ae}(h:pz K E x v):pz K' E' (x.act g) v:=by
 cases h with
 | c h=>exact .c (h.mv m)
 | agg h=>exact .agg (h.map λ_ _ q=>q.mv m)
theorem cp.mv(m:Mv K E g K' E'){x:AV}{v:ae}(h:cp K E x v):cp K' E' (x.act g) v:=by
 cases h with
 | r h=>exact .r (h.mv m)
 | ptr h=>exact .ptr (m.eW _ _ h)
 | @fS t l off b base os e kd hb ho hl hs=>
   cases t with
   | none=>exact .fS (t:=none) (m.iX b hb).1 ((m.iX b hb).2.trans ho) hl (hs.mono λ_ _ q=>q.mv m.iX)
   | some t=>
     show cp K' E' (match g t with | .dk=> .fS (some t) l off | .fz=> .fS none l off | .kill=> .bad) _;cases c:g t with
     | dk=>exact .fS (t:=some t) (m.dk t b hb c).1 ((m.dk t b hb c).2.trans ho) hl (hs.mono λ_ _ q=>q.mv m.iX)
     | fz=>exact .fS (t:=none) (m.fz t b hb c).1 ((m.fz t b hb c).2.trans ho) hl (hs.mono λ_ _ q=>q.mv m.iX)
     | kill=>exact .bad
 | iC h=>exact .iC (h.map λ_ _ q=>q.mv m)
 | skip=>exact .skip
 | bad=>exact .bad
structure TS where
 nt:Nat
 ax:List (Nat×aI×List CV)
abbrev aO:=Nat->AV
def TS.act(g:Nat->SA)(s:TS):TS:=⟨s.nt,s.ax.map λ(v,e,cs)=>(v,e,cs.map (CV.act g))⟩
def aO.act(g:Nat->SA)(fr:aO):aO:=λt=>(fr t).act g
structure TP where
 N:Nat->Prop
 M:Nat->dD
 J:List (List UInt8)->List ae->CH->Nat->(Nat->Prop)->Prop
 jm : ∀ {xs:List (List UInt8)} {vs:List ae} {K K':CH} {p:Nat} {W:Nat->Prop},J xs vs K p W->(∀b,W b->K'.ob b=K.ob b)->K.nx<=K'.nx->J xs vs K' p W
abbrev TP.plain(N:Nat->Prop)(M:Nat->dD):TP:=⟨N,M,λ_ _ _ _ _=>False,λh _ _=>h⟩
def fy:List CV->List (List UInt8)
 | []=> []
 | .s (.lk x)::r=>x::fy r
 | _::r=>fy r
def ko:List CV->List ae->List ae
 | .s (.lk _)::r,v::vs=>v::ko r vs
 | _::r,_::vs=>ko r vs
 | _,_=> []
def lkO (l:List (Nat×aI×List CV)):List (List UInt8):=match l with
 | []=> []
 | (_,_,cs)::_=>fy cs
def JR (Z:TP)(l:List (Nat×aI×List CV))(K:CH)(sp:Option Nat)(W:Nat->Prop):Prop:=match l with
 | []=>∀b,¬W b
 | (_,e,cs)::_=>(fy cs= []/\∀b,¬W b)\/(fy cs≠ []/\∃p os,sp=some p/\K.ob p= .cells os e .ex/\os.length=cs.length/\Z.J (fy cs) (ko cs os) K p W)
structure TR(Z:TP)(K0:CH)(sp:Option Nat)(W0:Nat->Prop)(K:CH)(st:TS)(fr:aO)(aN:Fr)(E:TE):Prop where
 nx:K0.nx<=K.nx
 dk : ∀b,b<K0.nx->sp≠some b->¬W0 b->K.ob b=K0.ob b
 tS : ∀b,Z.N b->b<K0.nx/\sp≠some b/\¬W0 b/\K.ob b=Z.M b
 hid : ∀b,E.hid b->b<K.nx/\(∀t,E.σ t≠some b)/\∀o,E.ρ o≠some b
 wr : ∃W:Nat->Prop,(∀b,W b->E.hid b/\(W0 b\/K0.nx<=b))/\JR Z st.ax K (E.ρ 0) W
 sig : ∀t b,E.σ t=some b->K0.nx<=b/\b<K.nx/\t<st.nt
 inj : ∀t t' b,E.σ t=some b->E.σ t'=some b->t=t'
 sr : ∀t o b,E.σ t=some b->E.ρ o≠some b
 eW : ∀o b,E.ρ o=some b->b<K.nx/\(K0.nx<=b\/sp=some b)/\o<st.ax.length
 sS : ∀o o' b,E.ρ o=some b->E.ρ o'=some b->o=o'
 ax : ∀o v e cs,st.ax[o]? = some (v,e,cs)->∃b os,E.ρ o=some b/\K.ob b= .cells os e .ex/\R2 (fT K E) cs os
 jh : ∀t,cp K E (fr t) (aN t)
end
section
open Go Go.RowKit
theorem ajE{v:ae}(h:a8 v=true):v.cells= #[v]:=by cases v<;>first | rfl | cases h
theorem ajF{v:ae}(h:a8 v=true):isVal v=true:=by cases v<;>first | rfl | cases h
abbrev cS(v:ae):CV:= .s (.sc v)
abbrev rS(v:ae):AV:= .r (.c (.s (.sc v)))
abbrev iS(n:Int):AV:= .r (.c (.s (.sc (.int .i64 n))))
def nzS:Nat:=5
def cN (v:ae):CV:=match v with
 | .slice none 0 0=> .s (.row nzS [])
 | v=> .s (.sc v)
def ER (z:List ae):Option (List CV):=if z.all a8=true then some (z.map cN) else none
def Lh (v:ae):AV:=match v with
 | .agg cs=>match ER cs.toList with
   | some l=> .r (.agg l)
   | none=> .bad
 | v=>match a8 v with
   | true=> .r (.c (cN v))
   | false=> .bad
theorem acd{K:CH}{E:TE}{v:ae}(h:a8 v=true):fT K E (cN v) v:=by
 unfold cN;split;·exact .s .qI
 exact .s (.sc h)
def AV.raw:AV->Option ae
 | .r (.c (.s (.sc v)))=>some v
 | _=>none
def eJ (fr:aO):av->AV
 | .tmp t=>fr t
 | .const v=>Lh v
 | _=> .bad
def AV.wG:AV->Option (List CV)
 | .r (.c x)=>some [x]
 | .r (.agg cs)=>some cs
 | _=>none
def AV.rowOf:AV->Option (Option Nat×Option Nat×List (List SV))
 | .r (.c (.s (.row sz gs)))=>some (none,some sz,gs)
 | .r (.c (.s (.sc (.slice none 0 0))))=>some (none,none,[])
 | .r (.c (.own t _ sz gs))=>some (some t,some sz,gs)
 | _=>none
def AV.Py:AV->Option (Option Nat×Option Nat×List (List SV))
 | .r (.c (.s (.sub sz gs)))=>some (none,some sz,gs)
 | a=>a.rowOf
def HD(sz:Nat):Option Nat->Prop
 | none=>True
 | some og=>og=sz
instance {sz:Nat} : ∀ {o:Option Nat},Decidable (HD sz o)
 | none=>inferInstanceAs (Decidable True)
 | some og=>inferInstanceAs (Decidable (og=sz))
def lenOf:AV->Option Nat
 | .r (.c (.s (.row _ gs)))=>some gs.length
 | .r (.c (.own _ _ _ gs))=>some gs.length
 | .r (.c (.s (.sc (.slice _ n _))))=>some n
 | .r (.c (.s (.sub _ gs)))=>some gs.length
 | _=>none
def PA:dY->Option (List av)
 | .bin _ x y=>some [x,y]
 | .D6 _ x y=>some [x,y]
 | .un _ x=>some [x]
 | .conv _ x=>some [x]
 | .GD x=>some [x]
 | .GF x i=>some [x,i]
 | .lens x=>some [x]
 | .mx _ x y=>some [x,y]
 | .D7 x lo hi=>some (x::(lo.toList++hi.toList))
 | _=>none
def rev (fr:aO)(x:av):ae:=((eJ fr x).raw).getD undef
def Li:List CV->List (Nat×Nat×Option (List CV))->Option (List CV)
 | z,[]=>some z
 | z,(o,s,some cs)::r=>if cs.length=s/\o+s<=z.length then Li (z.take o++cs++z.drop (o+s)) r else none
 | _,_=>none
def rN (fr:aO):dY->Option AV
 | .vX x=>some (eJ fr x)
 | .pick c a b=>match (eJ fr c).raw with
   | some (.bool t)=>some (if t=true then eJ fr a else eJ fr b)
   | _=>none
 | .off x d=>match eJ fr x with
   | .ptr o off=>some (.ptr o (off+d))
   | .fS t g off=>some (.fS t g (off+d))
   | _=>none
 | .D8 x=>match eJ fr x with
   | .ptr o off=>some (.ptr o off)
   | .fS t g off=>some (.fS t g off)
   | _=>none
 | .kG x d n=>match eJ fr x,n with
   | .r (.agg cs),none=>(cs[d]?).map λx=> .r (.c x)
   | .r (.agg cs),some m=>if d+m<=cs.length then some (.r (.agg ((cs.drop d).take m))) else none
   | _,_=>none
 | .len x=>(lenOf (eJ fr x)).map λn=>iS n
 | .idx x i sz=>match (eJ fr x).Py,(eJ fr i).raw with
   | some (t,z,gs),some (.int _ j)=>if HD sz z/\0<=j then (gs[j.toNat]?).map λg=> .fS t g 0 else none
   | _,_=>none
 | .ext x i=>match eJ fr x with
   | .iC l=>(l[i]?).map .r
   | _=>none
 | .Ah z ps=>match ER z with
   | some z=>(Li z (ps.map λ(o,s,x)=>(o,s,(eJ fr x).wG))).map λcs=> .r (.agg cs)
   | none=>none
 | x=>match PA x with
   | some l=>if l.all (λy=>(eJ fr y).raw.isSome)=true then (pop (rev fr) x).map Lh else none
   | none=>none
variable {K K':CH} {E E':TE} {fr:aO} {aN:Fr}
theorem UP : ∀ {z:List ae} {l:List CV},ER z=some l->R2 (fT K E) l z:=λ{z l} h=>by
 unfold ER at h;split at h
 ·rename_i ha;injection h with h
  subst h;induction z with
  | nil=>exact .nil
  | cons v z b=>
    rw[qw,fV] at ha;exact .cons (acd ha.1) (b ha.2)
 cases h
theorem ace{v:ae}:cp K E (Lh v) v:=by
 unfold Lh;split
 ·rename_i cs;split;·rename_i l hl;exact .r (.agg (vs:=cs.toList) (UP hl))
  exact .bad
 split;·rename_i h;exact .r (.c (acd h))
 exact .bad
theorem uZ{a:AV}{u v:ae}(h:cp K E a v)(b:a.raw=some u):v=u:=by
 unfold AV.raw at b;split at b
 ·cases b;cases h with
  | r h=>
    cases h with
    | c h=>
      cases h with
      | s h=>cases h with | sc h=>rfl
 cases b
theorem jE(b : ∀t,cp K E (fr t) (aN t))(x:av):cp K E (eJ fr x) (aJ aN x):=by
 cases x with
 | tmp t=>exact b t
 | const v=>exact ace
 | _=>exact .bad
theorem Lj{a:AV}{v:ae}(h:cp K E a v){l:List CV}(b:a.wG=some l):R2 (fT K E) l v.cells.toList/\isVal v=true:=by
 unfold AV.wG at b;split at b
 ·cases b;cases h with
  | r h=>cases h with
    | c h=>rw[ajE h.cell];exact⟨.cons h .nil,ajF h.cell⟩
 ·cases b;cases h with
  | r h=>cases h with
    | agg h=>exact⟨h,rfl⟩
 cases b
theorem cp.A0{o off:Nat}{v:ae}(h:cp K E (.ptr o off) v) : ∃l,E.ρ o=some l/\v= .pointer (some ⟨l,off,none⟩):=by
 cases h with
 | ptr h=>exact⟨_,h,rfl⟩
def Own (K:CH)(E:TE)(t:Option Nat)(b:Nat):Prop:=match t with
 | none=>ei K E b
 | some t=>E.σ t=some b
theorem cp.PD{t:Option Nat}{g:List SV}{off:Nat}{v:ae}(h:cp K E (.fS t g off) v) : ∃b base os e kd,Own K E t b/\K.ob b= .cells os e kd/\base+g.length<=os.length/\R2 (fk K (ei K E)) g ((os.drop base).take g.length)/\v= .pointer (some ⟨b,base+off,none⟩):=by
 cases h with
 | fS hb ho hl hs=>exact⟨_,_,_,_,_,hb,ho,hl,hs,rfl⟩
theorem PE{α:Type}{sz:Nat} : ∀ {gs:List (List α)},(∀g∈gs,g.length=sz)->∀ {j:Nat} {g:List α},gs[j]? = some g->(gs.flatten.drop (j*sz)).take g.length=g/\j*sz+g.length<=gs.flatten.length
 | [],_,j,g,h=>by simp at h
 | a::gs,hg,0,g,h=>by
   simp at h;subst h;simp
 | a::gs,hg,j+1,g,h=>by
   have ha:=hg a Sm;have b:=PE (gs:=gs) (λx hx=>hg x (by simp[hx])) (j:=j) (g:=g) (by simpa using h);have e:(j+1)*sz=a.length+j*sz:=by rw[ha,qt];omega
   have hd:(a++gs.flatten).drop (a.length+j*sz)=gs.flatten.drop (j*sz):=by rw[<-j9,List.drop_left]
   rw[Cd,e,hd];exact⟨b.1,by rw[cG];omega⟩
theorem ES{α:Type}{sz:Nat} : ∀ {gs:List (List α)},(∀g∈gs,g.length=sz)->gs.flatten.length=gs.length*sz
 | [],_=>by simp
 | a::gs,hg=>by
   rw[Cd,cG,ES λx hx=>hg x (by simp[hx]),hg a Sm,bN,qt];omega
theorem ET{a:AV}{v:ae}(h:cp K E a v){t:Option Nat}{z:Option Nat}{gs:List (List SV)}(f:a.rowOf=some (t,z,gs)):(gs= []/\v= .slice none 0 0)\/(gs≠ []/\gs.length<=maxLen)/\∃sz b os e kd,z=some sz/\Own K E t b/\K.ob b= .cells os e kd/\kd.bY=false/\(∀g∈gs,g.length=sz)/\bK K (ei K E) gs.flatten os/\v= .slice (some ⟨b,0,none⟩) gs.length gs.length:=by
 unfold AV.rowOf at f;split at f
 ·cases f;cases h with
  | r h=>cases h with
    | c h=>cases h with
      | s h=>cases h with
        | qI=>exact .inl ⟨rfl,rfl⟩
        | row aB hb ho hk hg hs=>exact .inr ⟨aB,_,_,_,_,_,rfl,hb,ho,hk,hg,hs,rfl⟩
 ·cases f;exact .inl ⟨rfl,uZ h rfl⟩
 ·cases f;cases h with
  | r h=>cases h with
    | c h=>cases h with
      | wF=>exact .inl ⟨rfl,rfl⟩
      | own aB hb ho hk hg hs=>exact .inr ⟨aB,_,_,_,_,_,rfl,hb,ho,hk,hg,hs,rfl⟩
 cases f
theorem ajG{a:AV}{v:ae}(h:cp K E a v){t:Option Nat}{z:Option Nat}{gs:List (List SV)}(f:a.Py=some (t,z,gs))(aB:gs≠ []) : ∃sz b o c os e kd,z=some sz/\Own K E t b/\K.ob b= .cells os e kd/\(∀g∈gs,g.length=sz)/\o+gs.length*sz<=os.length/\bK K (ei K E) gs.flatten ((os.drop o).take (gs.length*sz))/\v= .slice (some ⟨b,o,none⟩) gs.length c:=by
 unfold AV.Py at f;split at f
 ·cases f;cases h with
  | r h=>cases h with
    | c h=>cases h with
      | s h=>cases h with
        | yT=>exact absurd rfl aB
        | sub _ hb ho hg hl hs=>exact⟨_,_,_,_,_,_,_,rfl,hb,ho,hg,hl,hs,rfl⟩
 rcases ET h f with ⟨e,_⟩ | ⟨_,sz,b,os,e,kd,m,n,q,A,i,j,u⟩
 ·exact absurd e aB
 have hl:os.length=gs.length*sz:=by
  rw[j.r2.len];have : ∀l:List (List SV),(∀g∈l,g.length=sz)->l.flatten.length=l.length*sz:=λl=>by
   induction l with
   | nil=>intro _;simp
   | cons a l y=>
     intro hg;rw[Cd,cG,y λx hx=>hg x (by simp[hx]),hg a Sm,bN,qt];omega
  exact this gs i
 exact⟨sz,b,0,gs.length,os,e,kd,m,n,q,i,Om,by rw[gI,ux Om];exact j,u⟩
theorem ajH{a:AV}{v:ae}(h:cp K E a v){n:Nat}(b:lenOf a=some n) : ∃q c,v= .slice q n c:=by
 unfold lenOf at b;split at b
 ·rename_i sz gs;cases b;rcases ET (t:=none) (z:=some sz) (gs:=gs) h rfl with ⟨rfl,hv⟩ | ⟨_,_,_,_,_,_,_,_,_,_,_,_,hv⟩
  ·exact⟨_,_,hv⟩
  exact⟨_,_,hv⟩
 ·rename_i t e sz gs;cases b;rcases ET (t:=some t) (z:=some sz) (gs:=gs) h rfl with ⟨rfl,hv⟩ | ⟨_,_,_,_,_,_,_,_,_,_,_,_,hv⟩
  ·exact⟨_,_,hv⟩
  exact⟨_,_,hv⟩
 ·cases b;exact⟨_,_,uZ h rfl⟩
 ·cases b;cases h with
  | r h=>cases h with
    | c h=>cases h with
      | s h=>cases h with
        | yT=>exact⟨_,_,rfl⟩
        | sub=>exact⟨_,_,rfl⟩
 cases b
theorem R2.set{α:Type}{R:α->ae->Prop}{xs us:List α}{ys vs:List ae}(h:R2 R xs ys)(g:R2 R us vs){o:Nat}:R2 R (xs.take o++us++xs.drop (o+us.length)) (setCells ys o vs):=by
 unfold setCells;rw[g.len];exact((h.take o).app g).app (h.drop _)
theorem acf : ∀ {ps:List (Nat×Nat×Option (List CV))} {qs:List (Nat×Nat×ae)} {z:List CV} {zs:List ae} {cs:List CV},R2 (fT K E) z zs->R2 (λ(p:Nat×Nat×Option (List CV)) (q:Nat×Nat×ae)=>p.1=q.1/\p.2.1=q.2.1/\∀l,p.2.2=some l->R2 (fT K E) l q.2.2.cells.toList/\isVal q.2.2=true) ps qs->Li z ps=some cs->∃vs,dv zs qs=some vs/\R2 (fT K E) cs vs
 | [],_,z,zs,cs,hz, .nil,h=>by
   cases h;exact⟨zs,rfl,hz⟩
 | (o,s,none)::ps,_,z,zs,cs,hz, .cons _ _,h=>by cases h
 | (o,s,some l)::ps,(o',m,v)::qs,z,zs,cs,hz, .cons ⟨b,c,e⟩ ht,h=>by
   cases b;cases c;obtain⟨g1,g2⟩:=e l rfl;simp only[Li] at h;split at h
   ·rename_i hc;have f:v.cells.size=s:=by rw[<-NY,g1.len];exact hc.1
    obtain⟨vs,i,j⟩:=acf (zs:=setCells zs o v.cells.toList) (by have:=hz.set g1 (o:=o);rw[hc.1] at this;exact this) ht h;refine⟨vs,?_,j⟩;show(if isVal v=true/\v.cells.size=s/\o+s<=zs.length then dv (setCells zs o v.cells.toList) qs else none)=_;rw[iP ⟨g2,f,by rw[hz.len];exact hc.2⟩];exact i
   cases h
theorem ajI{ev ev':av->ae}{x:dY}{l:List av}(h:PA x=some l)(he : ∀y∈l,ev' y=ev y):pop ev' x=pop ev x:=by
 cases x<;>simp only[PA,Option.some.injEq,reduceCtorEq] at h<;>subst h;case D7 x lo hi=>
  have hx:=he x Sm;have hl : ∀d,gT ev' d lo=gT ev d lo:=λd=>by
   cases lo with
   | none=>rfl
   | some y=>simp only[gT,he y Sm]
  have hh : ∀d,gT ev' d hi=gT ev d hi:=λd=>by
   cases hi with
   | none=>rfl
   | some y=>simp only[gT,he y Sm]
  simp only[pop,hx,hl,hh]
 all_goals simp only[mD,List.mem_singleton,List.not_mem_nil,or_false,forall_eq_or_imp,forall_eq] at he
 all_goals simp only[pop,he]
theorem ajJ(b : ∀t,cp K E (fr t) (aN t)){x:dY}{a:AV}(h:(match PA x with | some l=>if l.all (λy=>(eJ fr y).raw.isSome)=true then (pop (rev fr) x).map Lh else none | none=>none)=some a) : ∃v,pop (aJ aN) x=some v/\cp K E a v:=by
 split at h
 ·rename_i l hl;split at h
  ·rename_i ha;have he : ∀y∈l,aJ aN y=rev fr y:=λy c=>by
    have:=List.all_eq_true.1 ha y c;obtain⟨u,hu⟩:=Option.isSome_iff_exists.1 this;rw[uZ (jE b y) hu,rev,hu];rfl
   rw[<-ajI hl he] at h;cases hp:pop (aJ aN) x with
   | none=>rw[hp] at h;cases h
   | some v=>rw[hp] at h;cases h;exact⟨v,rfl,ace⟩
  cases h
 cases h
theorem acg(f : ∀t,cp K E (fr t) (aN t)){x:dY}{a:AV}(h:rN fr x=some a) : ∃v,pop (aJ aN) x=some v/\cp K E a v:=by
 cases x with
 | vX x=>cases h;exact⟨_,rfl,jE f x⟩
 | pick c x y=>
   simp only[rN] at h;split at h
   ·rename_i t hc;cases h;have:=uZ (jE f c) hc;refine⟨if t=true then aJ aN x else aJ aN y,by simp only[pop,this],?_⟩;cases t;·exact jE f y
    exact jE f x
   cases h
 | off x d=>
   simp only[rN] at h;have hx:=jE f x;split at h;·rename_i o off e;cases h;rw[e] at hx;obtain⟨l,hl,hv⟩:=hx.A0;exact⟨_,by simp only[pop,hv], .ptr hl⟩
   ·rename_i t g off e;cases h;rw[e] at hx;obtain⟨b,base,os,I,kd,hb,ho,hl,hs,hv⟩:=hx.PD;exact⟨.pointer (some ⟨b,base+(off+d),none⟩),by simp only[pop,hv,oa], .fS hb ho hl hs⟩
   cases h
 | D8 x=>
   simp only[rN] at h;have hx:=jE f x;split at h;·rename_i o off e;cases h;rw[e] at hx;obtain⟨l,hl,hv⟩:=hx.A0;exact⟨_,by simp only[pop,hv], .ptr hl⟩
   ·rename_i t g off e;cases h;rw[e] at hx;obtain⟨b,base,os,I,kd,hb,ho,hl,hs,hv⟩:=hx.PD;exact⟨_,by simp only[pop,hv], .fS hb ho hl hs⟩
   cases h
 | kG x d n=>
   simp only[rN] at h;have hx:=jE f x;split at h
   ·rename_i cs e;rw[e] at hx;cases hv:aJ aN x with
    | _=>
      rw[hv] at hx;cases hx;rename_i hx;cases hx;try(
       rename_i vs u;cases hc:cs[d]? with
       | none=>rw[hc] at h;cases h
       | some y=>
         rw[hc] at h;cases h;obtain⟨v,h1,h2⟩:=u.get hc;exact⟨v,by simp only[pop,hv,vZ,h1], .r (.c h2)⟩)
      try(rename_i A;cases A)
   ·rename_i cs m e;rw[e] at hx;split at h
    ·rename_i C;cases h;cases hv:aJ aN x with
     | _=>
       rw[hv] at hx;cases hx;rename_i hx;cases hx;try(
        rename_i vs u;exact⟨_,by simp only[pop,hv,vZ];rw[iP (by rw[u.len];exact C)], .r (.agg ((u.drop d).take m))⟩)
       try(rename_i A;cases A)
    cases h
   cases h
 | len x=>
   simp only[rN] at h;have hx:=jE f x;cases hl:lenOf (eJ fr x) with
   | none=>rw[hl] at h;cases h
   | some n=>
     rw[hl] at h;cases h;obtain⟨q,c,hv⟩:=ajH hx hl;exact⟨_,by simp only[pop,hv], .r (.c (.s (.sc rfl)))⟩
 | idx x i sz=>
   simp only[rN] at h;split at h
   ·rename_i t z gs k j L D;split at h
    ·rename_i hc;obtain⟨hz,M⟩:=hc;cases hg:gs[j.toNat]? with
     | none=>rw[hg] at h;cases h
     | some g=>
       rw[hg] at h;cases h;have hi:=uZ (jE f i) D;have S:=(List.getElem?_eq_some_iff.1 hg).1;obtain⟨og,b,o,c,os,I,kd,rfl,F,G,J,U,N,hv⟩:=ajG (jE f x) L (λe=>by rw[e] at hg;simp at hg);cases hz;obtain⟨O,V⟩:=PE J hg;refine⟨_,by simp only[pop,hv,hi];rw[iP ⟨M,Om⟩],?_⟩;have u:=((N.r2.drop (j.toNat*sz)).take g.length);rw[O] at u;have W:=ES J;have D:((((os.drop o).take (gs.length*sz)).drop (j.toNat*sz)).take g.length)=(os.drop (o+j.toNat*sz)).take g.length:=by
        rw[List.drop_take,List.take_take,j9,Nat.min_eq_left Om]
       rw[D] at u;exact .fS (base:=o+j.toNat*sz) (off:=0) F G Om u
    cases h
   cases h
 | ext x i=>
   simp only[rN] at h;have hx:=jE f x;split at h
   ·rename_i l e;rw[e] at hx;cases hc:l[i]? with
    | none=>rw[hc] at h;cases h
    | some y=>
      rw[hc] at h;cases h;cases hv:aJ aN x with
      | _=>
        rw[hv] at hx;cases hx;try(
         rename_i vs u;obtain⟨v,h1,h2⟩:=u.get hc;exact⟨v,by simp only[pop,hv];simpa using h1, .r h2⟩)
   cases h
 | Ah z ps=>
   simp only[rN] at h;split at h
   ·rename_i Q hz;cases hb:Li Q (ps.map λ(o,s,x)=>(o,s,(eJ fr x).wG)) with
    | none=>rw[hb] at h;cases h
    | some cs=>
      rw[hb] at h;cases h;obtain⟨vs,F,G⟩:=acf (K:=K) (E:=E) (qs:=ps.map λ(o,s,x)=>(o,s,aJ aN x)) (UP hz) (by
       clear hb;induction ps with
       | nil=>exact .nil
       | cons p ps R=>exact .cons ⟨rfl,rfl,λl hl=>Lj (jE f p.2.2) hl⟩ R) hb
      exact⟨_,by simp only[pop];rw[F];rfl, .r (.agg G)⟩
   cases h
 | _=>exact ajJ f h
end
section
open Go Go.RowKit
def UQ (fr:aO):Option av->Option Nat
 | none=>some 0
 | some x=>match (eJ fr x).raw with
   | some (.int .i64 n)=>if 0<=n then some n.toNat else none
   | _=>none
def yU (fr:aO)(st:TS):iK->Option AV
 | .ld x=>match eJ fr x with
   | .ptr o off=>match st.ax[o]? with
     | some (_,_,cs)=>(cs[off]?).map λx=> .r (.c x)
     | none=>none
   | .fS _ g off=>(g[off]?).map λx=> .r (.c (.s x))
   | _=>none
 | .kZ n x=>match eJ fr x with
   | .ptr o off=>match st.ax[o]? with
     | some (_,_,cs)=>if off+n<=cs.length then some (.r (.agg ((cs.drop off).take n))) else none
     | none=>none
   | .fS _ g off=>if off+n<=g.length then some (.r (.agg (((g.drop off).take n).map .s))) else none
   | _=>none
 | .Cl e sz x lo hi none=>match eJ fr x,UQ fr lo with
   | .r (.c (.s (.row z gs))),some n=>match hi with
     | none=>if z=sz/\sz=5/\e=AZ/\Nat.ble n gs.length=true then some (.r (.c (.s (.sub sz (gs.drop n))))) else none
     | some h=>match (eJ fr h).raw with
       | some (.int .i64 m)=>if z=sz/\sz=5/\e=AZ/\0<=m/\Nat.ble n m.toNat=true/\Nat.ble m.toNat gs.length=true then some (.r (.c (.s (.sub sz ((gs.drop n).take (m.toNat-n)))))) else none
       | _=>none
   | _,_=>none
 | _=>none
def CV.fA:CV->List Nat
 | .own t _ _ _=> [t]
 | _=> []
def CV.fz:CV->Option SV
 | .s x=>some x
 | .own _ _ sz gs=>some (uY sz gs)
 | .bad=>none
def u9:List CV->Option (List SV)
 | []=>some []
 | x::r=>match x.fz,u9 r with
   | some y,some ys=>some (y::ys)
   | _,_=>none
def nM (l:List Nat):Nat->SA:=λt=>if t∈l then .fz else .dk
def lG(o:Option Nat):Nat->SA:=λt=>if o=some t then .kill else .dk
def HE (l:List Nat)(fr:aO):aO:=match l with
 | []=>fr
 | l=>fr.act (nM l)
def yV (l:List Nat)(st:TS):TS:=match l with
 | []=>st
 | l=>st.act (nM l)
def HF (sz:Nat):List (Option (List CV))->Option (List (List CV))
 | []=>some []
 | some cs::r=>if cs.length=sz then (HF sz r).map (cs:: ·) else none
 | none::_=>none
def Lk:List (List CV)->Option (List (List SV))
 | []=>some []
 | g::r=>match u9 g,Lk r with
   | some y,some ys=>some (y::ys)
   | _,_=>none
def xH (fr:aO)(st:TS):qC->Option (AV×aO×TS)
 | .new e z=>match ER z with
   | some cs=>if fy cs= [] then some (.ptr st.ax.length 0,fr,⟨st.nt,st.ax++ [(0,e,cs)]⟩) else none
   | none=>none
 | .box e x=>match (eJ fr x).wG with
   | some cs=>if fy cs= [] then some (.ptr st.ax.length 0,fr,⟨st.nt,st.ax++ [(0,e,cs)]⟩) else none
   | none=>none
 | .Ao e sz n z ps=>if ps.map (·.1)=mB n/\0<n/\n*sz<=16777216/\n<=16777216/\Lf e sz=true then
    match HF sz (ps.map λp=>(eJ fr p.2).wG) with
    | some gs=>match Lk gs with
      | some hs=>some (.r (.c (.own st.nt e sz hs)),HE (gs.flatten.flatMap CV.fA) fr,⟨st.nt+1,(yV (gs.flatten.flatMap CV.fA) st).ax⟩)
      | none=>none
    | none=>none
   else none
 | _=>none
def AV.UR:AV->Option (Option (Nat×aI×Nat)×List (List SV))
 | .r (.c (.own t e sz gs))=>some (some (t,e,sz),gs)
 | .r (.c (.s (.row _ [])))=>some (none,[])
 | _=>none
def US(e sz:aI):Option (Nat×aI×Nat)->Prop
 | none=>True
 | some (_,e',og)=>e'=e/\og=sz
instance {e sz:aI} : ∀ {o:Option (Nat×aI×Nat)},Decidable (US e sz o)
 | none=>inferInstanceAs (Decidable True)
 | some (_,e',og)=>inferInstanceAs (Decidable (e'=e/\og=sz))
def PF (o:Option (Nat×aI×Nat))(fr:aO):aO:=match o with
 | none=>fr
 | some (t,_)=>fr.act (lG (some t))
def EU (o:Option (Nat×aI×Nat))(st:TS):TS:=match o with
 | none=>st
 | some (t,_)=>st.act (lG (some t))
def yW (fr:aO)(st:TS):iW->Option (AV×aO×TS)
 | .st n x v=>match eJ fr x,(eJ fr v).wG with
   | .ptr o off,some b=>match st.ax[o]? with
     | some (mR,e,cs)=>if b.length=n/\off+n<=cs.length/\fy b= []/\fy ((cs.drop off).take b.length)= [] then some (.bad,fr,⟨st.nt,st.ax.set o (mR+1,e,cs.take off++b++cs.drop (off+b.length))⟩) else none
     | none=>none
   | _,_=>none
 | .app e sz bytes s x=>match (eJ fr s).UR,(eJ fr x).rowOf with
   | some (o,gs),some (_,z,hs)=>if US e sz o/\HD sz z/\(gs.length+hs.length)*bytes<=140737488355328/\gs.length+hs.length<=maxLen/\Lf e sz=true then
      some (.r (.c (.own st.nt e sz (gs++hs))),PF o fr,⟨st.nt+1,(EU o st).ax⟩) else none
   | _,_=>none
 | _=>none
structure gQ(K:CH)(st:TS)(E:TE)(K':CH)(bB:TS)(E':TE):Prop where
 hid : ∀b,E.hid b->E'.hid b
 eW : ∀o b,E.ρ o=some b->E'.ρ o=some b
 mR : ∀o v e cs,st.ax[o]? = some (v,e,cs)->∃v' cs',bB.ax[o]? = some (v',e,cs')/\v<=v'/\(v'=v->∀b,E.ρ o=some b->K'.ob b=K.ob b)
variable {T:cw} {Z:TP} {K0 K K' rO:CH} {sp:Option Nat} {W0:Nat->Prop} {st bB vd:TS} {fr:aO} {aN:Fr} {E E' ve:TE}
theorem gQ.refl:gQ K st E K st E:=⟨λ_ h=>h,λ_ _ h=>h,λo v e cs h=>⟨v,cs,h,ai _,λ_ _ _=>rfl⟩⟩
theorem gQ.trans(h:gQ K st E K' bB E')(g:gQ K' bB E' rO vd ve):gQ K st E rO vd ve:=⟨λb q=>g.hid b (h.hid b q),λo b q=>g.eW o b (h.eW o b q),λo v e cs q=>by
 obtain⟨c,f,i,j,l⟩:=h.mR o v e cs q;obtain⟨v2,m,n,s,l3⟩:=g.mR o c e f i;exact⟨v2,m,n,cy j s,λe b hb=>(l3 Om b (h.eW o b hb)).trans (l Om b hb)⟩⟩
theorem ajK{A:Nat->Prop}(b : ∀t,cp K E (fr t) (aN t)){lo:Option av}{n:Nat}(h:UQ fr lo=some n):gT (aJ aN) 0 lo=some (n:Int):=by
 unfold UQ at h;split at h;·cases h;rfl
 rename_i x;split at h
 ·rename_i m e;split at h;·rename_i c;cases h;have:=uZ (jE b x) e;simp only[gT,this];rw[Int.toNat_of_nonneg c]
  cases h
 cases h
theorem ach{A:Nat->Prop}{gs:List (List SV)}{sz e:Nat}{v:ae}(h:fk K A (.row sz gs) v)(h5:sz=5)(he:e=AZ):ri K e v=true:=by
 cases h with
 | qI=>rfl
 | @row b _ os e' kd _ aB hb ho hk hg hs ht=>
   have:=ht h5;subst this he;simp only[ri,ho];cases kd with
   | ro=>cases hk
   | _=>exact beq_self_eq_true _
theorem aci{A:Nat->Prop}{gs:List (List SV)}{sz n m:Nat}{v:ae}(h:fk K A (.row sz gs) v)(h1:n<=m)(h2:m<=gs.length) : ∃w,tG sz v n m (vY v) false=some w/\fk K A (.sub sz ((gs.drop n).take (m-n))) w:=by
 cases h with
 | qI=>
   have:n=0/\m=0:=by simp at h2;omega
   obtain⟨f,q⟩:=this;subst f q;exact⟨.slice none 0 0,rfl, .yT⟩
 | @row b _ os e kd _ aB hb ho hk hg hs ht=>
   have s:os.length=gs.length*sz:=by rw[hs.r2.len,ES hg]
   have j:(n:Int)<=m:=by omega
   have t:tG sz (.slice (some ⟨b,0,none⟩) gs.length gs.length) n m (vY (.slice (some ⟨b,0,none⟩) gs.length gs.length)) false=if 0<=(n:Int)/\(n:Int)<=m/\(m:Int)<=(gs.length:Nat)/\((gs.length:Nat):Int)<=gs.length then (if (n:Int)=(gs.length:Nat) then some (.slice (some ⟨b,0+(n:Int).toNat*sz,none⟩) 0 0) else some (.slice (some ⟨b,0+(n:Int).toNat*sz,none⟩) ((m:Int)-n).toNat (((gs.length:Nat):Int)-n).toNat)) else none:=rfl
   rw[t,iP ⟨Om,j,Om,Int.le_refl _⟩];by_cases hn:n=gs.length
   ·have f:(gs.drop n).take (m-n)= []:=by rw[hn,List.drop_length,List.take_nil]
    rw[iP Om,f];exact⟨_,rfl, .yT⟩
   rw[iN Om];have f:((gs.drop n).take (m-n)).length=((m:Int)-n).toNat:=by rw[kW,lB];omega
   have u:Int.toNat (n:Int)=n:=by omega
   rw[u,ba];by_cases x:m=n
   ·subst x;rw[Nat.sub_self,vU];have y:((m:Int)-m).toNat=0:=by omega
    rw[y];exact⟨_,rfl, .yT⟩
   refine⟨_,rfl,?_⟩;rw[<-f];have c:((gs.drop n).take (m-n)).length=m-n:=by rw[kW,lB];omega
   have i:n*sz+(m-n)*sz<=gs.length*sz:=by rw[<-qt];exact zU _ Om
   refine .sub ⟨λe=> ?_,by rw[c];have:=aB.2;omega⟩ hb ho (λg z=>hg g (List.mem_of_mem_drop (List.mem_of_mem_take z))) (by rw[c,s];exact i) ?_ ht;·rw[e] at c;simp at c;omega
   have hd : ∀(l:List (List SV)) (n:Nat),(∀g∈l,g.length=sz)->(l.drop n).flatten=l.flatten.drop (n*sz):=λl=>by
    induction l with
    | nil=>intro n _;simp
    | cons a l o=>
      intro n hg;cases n with
      | zero=>simp
      | succ n=>
        rw[List.drop_succ_cons,o n λg h=>hg g (by simp[h]),Cd,qt,xg,Nat.add_comm,<-j9];congr 1
        have:=hg a Sm;rw[<-this,List.drop_left]
   have ht : ∀(l:List (List SV)) (n:Nat),(∀g∈l,g.length=sz)->(l.take n).flatten=l.flatten.take (n*sz):=λl=>by
    induction l with
    | nil=>intro n _;simp
    | cons a l o=>
      intro n hg;cases n with
      | zero=>simp
      | succ n=>
        have:=hg a Sm;rw[List.take_succ_cons,Cd,o n λg h=>hg g (by simp[h]),Cd,qt,xg,Nat.add_comm,<-this,List.take_append];congr 1
        ·rw[ux Om]
        congr 1;omega
   rw[c,ht _ _ λg h=>hg g (List.mem_of_mem_drop h),hd _ _ hg];exact((hs.r2.drop (n*sz)).take ((m-n)*sz)).Lg
theorem PG(h:TR Z K0 sp W0 K st fr aN E){x:iK}{a:AV}(hx:yU fr st x=some a) : ∃v,aD K (aJ aN) x=some v/\cp K E a v:=by
 cases x with
 | ld x=>
   simp only[yU] at hx;have f:=jE h.jh x;split at hx
   ·rename_i o off e;rw[e] at f;obtain⟨l,hl,hv⟩:=f.A0;split at hx
    ·rename_i mR G cs ho;obtain⟨b,os,u,I,D⟩:=h.ax o _ _ _ ho;rw[hl] at u;cases u;cases hc:cs[off]? with
     | none=>rw[hc] at hx;cases hx
     | some y=>
       rw[hc] at hx;cases hx;obtain⟨v,i,j⟩:=D.get hc;exact⟨v,by simp only[aD,hv,I,i], .r (.c j)⟩
    cases hx
   ·rename_i t g off e;rw[e] at f;obtain⟨b,base,os,G,kd,hb,ho,hl,hs,hv⟩:=f.PD;cases hc:g[off]? with
    | none=>rw[hc] at hx;cases hx
    | some y=>
      rw[hc] at hx;cases hx;obtain⟨v,i,j⟩:=hs.get hc;have M:=(List.getElem?_eq_some_iff.1 hc).1;rw[sA M,pI] at i;exact⟨v,by simp only[aD,hv,ho,i], .r (.c (.s j))⟩
   cases hx
 | kZ n x=>
   simp only[yU] at hx;have f:=jE h.jh x;split at hx
   ·rename_i o off e;rw[e] at f;obtain⟨l,hl,hv⟩:=f.A0;split at hx
    ·rename_i mR G cs ho;obtain⟨b,os,u,I,D⟩:=h.ax o _ _ _ ho;rw[hl] at u;cases u;split at hx;·rename_i C;cases hx;exact⟨_,by simp only[aD,hv,I];rw[iP (by rw[D.len];exact C)], .r (.agg ((D.drop off).take n))⟩
     cases hx
    cases hx
   ·rename_i t g off e;rw[e] at f;obtain⟨b,base,os,G,kd,hb,ho,hl,hs,hv⟩:=f.PD;split at hx
    ·rename_i C;cases hx;have q:=(hs.drop off).take n;have e:(((os.drop base).take g.length).drop off).take n=(os.drop (base+off)).take n:=by
      rw[List.drop_take,List.take_take,j9,Nat.min_eq_left Om]
     rw[e] at q;exact⟨_,by simp only[aD,hv,ho];rw[iP Om], .r (.agg (q.map λ_ _ q=> .s q))⟩
    cases hx
   cases hx
 | Cl e sz x lo hi mx=>
   cases mx with
   | some=>cases hx
   | none=>
     simp only[yU] at hx;split at hx
     ·rename_i z gs n N O;have f:=jE h.jh x;rw[N] at f;have L:=ajK (A:=λ_=>True) h.jh O;cases f with
      | r f=>cases f with
        | c f=>cases f with
          | s f=>
            obtain⟨v,hv⟩ : ∃v,aJ aN x=v:=⟨_,rfl⟩;rw[hv] at f;have Q:Ai v=gs.length:=by cases f<;>rfl
            split at hx
            ·split at hx
             ·rename_i hc;obtain⟨rfl,h5,he,hc⟩:=hc;cases hx;have hn:=DW hc;have J:=ach f h5 he;obtain⟨w,i,j⟩:=aci (n:=n) (m:=gs.length) f hn (ai _);rw[ux (by rw[lB];omega)] at j;refine⟨w,?_, .r (.c (.s j))⟩;show(match gT (aJ aN) 0 lo,gT (aJ aN) (Ai (aJ aN x)) none,gT (aJ aN) (vY (aJ aN x)) none with
               | some l,some h,some m=>if ri K e (aJ aN x)&&((none:Option av).isNone||(none:Option av).isSome) then tG z (aJ aN x) l h m (none:Option av).isSome else none
               | _,_,_=>none)=some w
              rw[L,hv,Q];show(if ri K e v&&true then _ else _)=some w;rw[J];exact i
             cases hx
            rename_i F;split at hx
            ·rename_i m R;split at hx
             ·rename_i hc;obtain⟨rfl,h5,he,S,U,V⟩:=hc;cases hx;have hh:=uZ (jE h.jh F) R;have J:=ach f h5 he;obtain⟨w,i,j⟩:=aci (n:=n) (m:=m.toNat) f (DW U) (DW V);refine⟨w,?_, .r (.c (.s j))⟩;rw[Int.toNat_of_nonneg S] at i;show(match gT (aJ aN) 0 lo,gT (aJ aN) (Ai (aJ aN x)) (some F),gT (aJ aN) (vY (aJ aN x)) none with
               | some l,some h,some m=>if ri K e (aJ aN x)&&((none:Option av).isNone||(some F).isSome) then tG z (aJ aN x) l h m (none:Option av).isSome else none
               | _,_,_=>none)=some w
              have hb : ∀d,gT (aJ aN) d (some F)=some m:=λd=>by simp only[gT,hh]
              rw[L,hv,hb];show(if ri K e v&&true then _ else _)=some w;rw[J];exact i
             cases hx
            cases hx
     cases hx
 | _=>cases hx
theorem CV.lH{x:CV}:x.act (λ_=> .dk)=x:=by cases x<;>rfl
theorem RV.lH{x:RV}:x.act (λ_=> .dk)=x:=by
 cases x with
 | c x=>exact congrArg RV.c CV.lH
 | agg cs=>exact congrArg RV.agg ((xd λx _=>CV.lH).trans (List.map_id' cs))
theorem AV.lH{x:AV}:x.act (λ_=> .dk)=x:=by
 cases x with
 | r x=>exact congrArg AV.r RV.lH
 | fS t g off=>cases t<;>rfl
 | iC l=>exact congrArg AV.iC ((xd λx _=>RV.lH).trans (List.map_id' l))
 | _=>rfl
theorem aO.lH{fr:aO}:fr.act (λ_=> .dk)=fr:=funext λt=>AV.lH
theorem TS.lH{st:TS}:(st.act (λ_=> .dk)).ax=st.ax:=by
 show st.ax.map _=_;refine(xd λx _=> ?_).trans (List.map_id' _);obtain⟨v,e,cs⟩:=x;show(v,e,cs.map (CV.act λ_=> .dk))=(v,e,cs);rw[(xd λx _=>CV.lH).trans (List.map_id' cs)]
theorem acj:nM []=λ_=> .dk:=by funext t;simp[nM]
theorem PH{l:List Nat}:HE l fr=fr.act (nM l):=by
 cases l with
 | nil=>rw[acj,aO.lH];rfl
 | cons=>rfl
theorem PI{l:List Nat}:(yV l st).ax=(st.act (nM l)).ax:=by
 cases l with
 | nil=>rw[acj,TS.lH];rfl
 | cons=>rfl
theorem HG : ∀ {a b:List CV},fy (a++b)=fy a++fy b
 | [],b=>rfl
 | x::a,b=>by
   have c:=HG (a:=a) (b:=b);cases x with
   | s y=>cases y with
     | lk z=>show z::fy (a++b)=z::fy a++fy b;rw[c];rfl
     | sc v=>exact c
     | row sz gs=>exact c
     | sub sz gs=>exact c
   | own=>exact c
   | bad=>exact c
theorem EV{x:CV}{l:List CV}:fy (x::l)=fy [x]++fy l:=HG (a:= [x]) (b:=l)
theorem ack{g:Nat->SA} : ∀ {cs:List CV},fy (cs.map (CV.act g))=fy cs
 | []=>rfl
 | x::cs=>by
   rw[c8,EV,EV (x:=x),ack];congr 1
   cases x with
   | s y=>rfl
   | bad=>rfl
   | own t e sz gs=>
     show fy [match g t with | .dk=>CV.own t e sz gs | .fz=> .s (uY sz gs) | .kill=> .bad]= [];cases g t<;>rfl
theorem A4{x:CV}{v:ae}{l:List CV}{vs:List ae}:ko (x::l) (v::vs)=ko [x] [v]++ko l vs:=by
 cases x with
 | s y=>cases y<;>rfl
 | bad=>rfl
 | own=>rfl
theorem Lm : ∀ {a b:List CV} {us vs:List ae},a.length=us.length->ko (a++b) (us++vs)=ko a us++ko b vs
 | [],b,[],vs,_=>by simp[ko]
 | x::a,b,u::us,vs,h=>by
   rw[gZ,gZ,A4,Lm (by simpa using h),A4 (l:=a),oY]
theorem UT : ∀ {a:List CV} {us:List ae},fy a= []->ko a us= []
 | [],us,_=>by cases us<;>rfl
 | x::a,us,h=>by
   rw[EV] at h;obtain⟨h1,h2⟩:=List.append_eq_nil_iff.1 h;cases us with
   | nil=>cases x with
     | s y=>cases y<;>rfl
     | bad=>rfl
     | own=>rfl
   | cons u us=>
     rw[A4,UT h2];cases x with
     | s y=>
       cases y with
       | lk x=>cases h1
       | _=>rfl
     | bad=>rfl
     | own=>rfl
theorem acl{g:Nat->SA} : ∀ {cs:List CV} {vs:List ae},ko (cs.map (CV.act g)) vs=ko cs vs
 | [],vs=>rfl
 | x::cs,[]=>by
   cases x with
   | s y=>cases y<;>rfl
   | bad=>rfl
   | own t e sz gs=>
     rw[c8];show ko ((match g t with | .dk=>CV.own t e sz gs | .fz=> .s (uY sz gs) | .kill=> .bad)::_) []= [];cases g t<;>rfl
 | x::cs,v::vs=>by
   rw[c8,A4,A4 (x:=x),acl];congr 1
   cases x with
   | s y=>rfl
   | bad=>rfl
   | own t e sz gs=>
     show ko [match g t with | .dk=>CV.own t e sz gs | .fz=> .s (uY sz gs) | .kill=> .bad] [v]= [];cases g t<;>rfl
theorem ajL{cs us:List CV}{off:Nat}(h1:fy us= [])(h2:fy ((cs.drop off).take us.length)= []):fy (cs.take off++us++cs.drop (off+us.length))=fy cs:=by
 have e:cs=cs.take off++((cs.drop off).take us.length++cs.drop (off+us.length)):=by
  rw[<-j9,yv,yv]
 rw[HG,HG,h1,gY];conv=>rhs;rw[e,HG,HG,h2,ju]
theorem ajM{cs us:List CV}{os vs:List ae}{off:Nat}(h1:fy us= [])(h2:fy ((cs.drop off).take us.length)= [])(hl:cs.length=os.length)(hu:us.length=vs.length)(ho:off+us.length<=cs.length):ko (cs.take off++us++cs.drop (off+us.length)) (setCells os off vs)=ko cs os:=by
 have e : ∀ {α:Type} (cs:List α),cs=cs.take off++((cs.drop off).take us.length++cs.drop (off+us.length)):=λcs=>by
  rw[<-j9,yv,yv]
 have b:(cs.take off).length=(os.take off).length:=by simp[hl]
 have a2:((cs.drop off).take us.length).length=((os.drop off).take us.length).length:=by simp[hl]
 unfold setCells;rw[Lm (by rw[cG,cG,b,hu]),Lm b,UT h1,gY,<-hu];conv=>rhs;rw[e cs,e os,Lm b,Lm a2,UT h2,ju]
theorem JR.mv{l l':List (Nat×aI×List CV)}{W:Nat->Prop}(h:JR Z l K sp W)(hl:l'.length=l.length)(c : ∀v e cs,l[0]? = some (v,e,cs)->∃v' cs',l'[0]? = some (v',e,cs')/\fy cs'=fy cs/\cs'.length=cs.length/\(fy cs≠ []->∀p os,sp=some p->K.ob p= .cells os e .ex->∃os',K'.ob p= .cells os' e .ex/\os'.length=os.length/\ko cs' os'=ko cs os))(hw : ∀b,W b->K'.ob b=K.ob b)(hn:K.nx<=K'.nx):JR Z l' K' sp W:=by
 match l,l',h,hl,c with
 | [],[],h,_,_=>exact h
 | (v,e,cs)::r,(v',e',cs')::n,h,_,c=>
   obtain⟨v2,o,i,f,j,m⟩:=c v e cs rfl;cases i;rcases h with ⟨h1,h2⟩ | ⟨h1,p,os,h2,h3,h4,h5⟩
   ·exact .inl ⟨f.trans h1,h2⟩
   obtain⟨os',g1,g2,g3⟩:=m h1 p os h2 h3;refine .inr ⟨by rw[f];exact h1,p,os',h2,g1,by rw[g2,h4,j],?_⟩;rw[f,g3];exact Z.jm h5 hw hn
theorem JR.act{l:List (Nat×aI×List CV)}{W:Nat->Prop}{g:Nat->SA}(h:JR Z l K sp W)(hp : ∀p,sp=some p->K'.ob p=K.ob p)(hw : ∀b,W b->K'.ob b=K.ob b)(hn:K.nx<=K'.nx):JR Z (l.map λ(v,e,cs)=>(v,e,cs.map (CV.act g))) K' sp W:=by
 refine h.mv (by rw[eR]) (λv e cs q=>⟨v,cs.map (CV.act g),by rw[ka,q];rfl,ack,by rw[eR],λ_ p os h1 h2=>⟨os,(hp p h1).trans h2,rfl,acl⟩⟩) hw hn
theorem TR.step(h:TR Z K0 sp W0 K st fr aN E){g:Nat->SA}(m:Mv K E g K' E'){EW:Nat}(n:K.nx<=K'.nx)(hk : ∀b,b<K.nx->(∀t,E.σ t≠some b)->K'.ob b=K.ob b)(A:E'.hid=E.hid)(u : ∀t b,E'.σ t=some b->K0.nx<=b/\b<K'.nx/\t<EW/\(∀o,E.ρ o≠some b)/\¬E.hid b)(x : ∀t t' b,E'.σ t=some b->E'.σ t'=some b->t=t')(l:E'.ρ=E.ρ):TR Z K0 sp W0 K' ⟨EW,(st.act g).ax⟩ (fr.act g) aN E':=by
 have j : ∀b,b<K0.nx->K'.ob b=K.ob b:=λb hb=>hk b (cQ hb h.nx) λt ht=>by have:=(h.sig t b ht).1;omega
 refine⟨cy h.nx n,λb hb hp hw=>(j b hb).trans (h.dk b hb hp hw),λb hb=> ?_,λb hb=> ?_,?_,λt b q=> ?_,x,λt o b q=> ?_,λo b q=> ?_,λo o' b q s=> ?_,λo v e cs q=> ?_,λt=>(h.jh t).mv m⟩;·obtain⟨c,f,i,D⟩:=h.tS b hb;exact⟨c,f,i,(j b c).trans D⟩
 ·rw[A] at hb;obtain⟨c,f,i⟩:=h.hid b hb;exact⟨cQ c n,λt q=>(u t b q).2.2.2.2 hb,λo q=>i o (by rwa [l] at q)⟩
 ·obtain⟨W,C,F⟩:=h.wr;refine⟨W,λb hb=>by rw[A];exact C b hb,?_⟩;rw[l];refine F.act (λp q=>hk p (h.eW 0 p q).1 λt s=>h.sr t 0 p s q) (λb hb=> ?_) n;obtain⟨c,f,_⟩:=h.hid b (C b hb).1;exact hk b c f
 ·obtain⟨c,f,i,_⟩:=u t b q;exact⟨c,f,i⟩
 ·rw[l];exact(u t b q).2.2.2.1 o
 ·rw[l] at q;obtain⟨c,f,i⟩:=h.eW o b q;exact⟨cQ c n,f,by show o<(st.ax.map _).length;rw[eR];exact i⟩
 ·rw[l] at q s;exact h.sS o o' b q s
 have q:(st.ax.map λ(v,e,cs)=>(v,e,cs.map (CV.act g)))[o]? = some (v,e,cs):=q;rw[ka] at q;cases z:st.ax[o]? with
 | none=>rw[z] at q;cases q
 | some y=>
   rw[z] at q;obtain⟨G,I,J⟩:=y;cases q;obtain⟨b,os,c,f,i⟩:=h.ax o _ _ _ z;refine⟨b,os,by rw[l];exact c,(hk b (h.eW o b c).1 λt ht=>h.sr t o b ht c).trans f,i.map λ_ _ q=>q.mv m⟩
theorem gQ.act{g:Nat->SA}(c:E'.hid=E.hid)(f:E'.ρ=E.ρ)(ho : ∀o b,E.ρ o=some b->K'.ob b=K.ob b){EW:Nat}:gQ K st E K' ⟨EW,(st.act g).ax⟩ E':=⟨λb q=>(by rw[c];exact q),λo b h=>by rw[f];exact h,λo v e cs h=>⟨v,cs.map (CV.act g),by
 show(st.ax.map _)[o]? = _;rw[ka,h];rfl,ai _,λ_ b hb=>ho o b hb⟩⟩
theorem TR.fz(h:TR Z K0 sp W0 K st fr aN E)(l:List Nat) : ∃E',TR Z K0 sp W0 K ⟨st.nt,(st.act (nM l)).ax⟩ (fr.act (nM l)) aN E'/\Mv K E (nM l) K E'/\gQ K st E K ⟨st.nt,(st.act (nM l)).ax⟩ E'/\E'=⟨λt=>if t∈l then none else E.σ t,E.ρ,E.hid⟩:=by
 have hs : ∀t b,(if t∈l then none else E.σ t)=some b->t∉l/\E.σ t=some b:=λt b q=>by
  split at q;·cases q
  rename_i hn;exact⟨hn,q⟩
 have m:Mv K E (nM l) K ⟨λt=>if t∈l then none else E.σ t,E.ρ,E.hid⟩:=by
  refine⟨λb hb=>⟨⟨hb.1,hb.2.1,λt q=>hb.2.2.1 t (hs t b q).2,hb.2.2.2⟩,rfl⟩,λt b q e=>⟨?_,rfl⟩,λt b q e=>⟨?_,rfl⟩,λo b q=>q⟩
  ·show(if t∈l then none else E.σ t)=some b;unfold nM at e;split at e;·cases e
   rename_i hn;rw[iN hn];exact q
  unfold nM at e;split at e;·rename_i hn;obtain⟨i,c,j⟩:=h.sig t b q;refine⟨c,λhh=>(h.hid b hh).2.1 t q,λt' f=> ?_,λo=>h.sr t o b q⟩;obtain⟨g1,g2⟩:=hs t' b f;exact g1 (h.inj t t' b q g2▸hn)
  cases e
 exact⟨_,h.step m (ai _) (λ_ _ _=>rfl) rfl (λt b q=>by
  obtain⟨g1,g2⟩:=hs t b q;obtain⟨i,c,j⟩:=h.sig t b g2;exact⟨i,c,j,λo=>h.sr t o b g2,λhh=>(h.hid b hh).2.1 t g2⟩) (λt t' b q f=>h.inj t t' b (hs t b q).2 (hs t' b f).2) rfl,m,gQ.act (E:=E) (E':=⟨λt=>if t∈l then none else E.σ t,E.ρ,E.hid⟩) rfl rfl (λ_ _ _=>rfl),rfl⟩
theorem TR.row(h:TR Z K0 sp W0 K st fr aN E){os:List ae}{e:aI}{kd:Kd}{sz:Nat}{gs:List (List SV)}(aB:gs≠ []/\gs.length<=maxLen)(hk:kd.bY=false)(hg : ∀g∈gs,g.length=sz)(hs:bK K (ei K E) gs.flatten os)(n:sz=5->e=AZ) : ∃E',TR Z K0 sp W0 (K.new (.cells os e kd)) ⟨st.nt+1,st.ax⟩ fr aN E'/\gQ K st E (K.new (.cells os e kd)) ⟨st.nt+1,st.ax⟩ E'/\cp (K.new (.cells os e kd)) E' (.r (.c (.own st.nt e sz gs))) (.slice (some ⟨K.nx,0,none⟩) gs.length gs.length):=by
 have s : ∀b,E.σ st.nt≠some b:=λb q=>by have:=(h.sig _ b q).2.2;omega
 have i : ∀b,b<K.nx->(K.new (.cells os e kd)).ob b=K.ob b:=λb hb=>bL Om;have j : ∀t b,(if t=st.nt then some K.nx else E.σ t)=some b->(t=st.nt/\b=K.nx)\/(t≠st.nt/\E.σ t=some b):=λt b q=>by
  split at q;·rename_i e;cases q;exact .inl ⟨e,rfl⟩
  rename_i e;exact .inr ⟨e,q⟩
 have m:Mv K E (λ_=> .dk) (K.new (.cells os e kd)) ⟨λt=>if t=st.nt then some K.nx else E.σ t,E.ρ,E.hid⟩:=by
  refine⟨λb hb=>⟨⟨qu hb.1,hb.2.1,λt q=> ?_,hb.2.2.2⟩,i b hb.1⟩,λt b q _=>⟨?_,i b (h.sig t b q).2.1⟩,(λ_ _ _ q=>(by cases q)),λo b q=>q⟩
  ·have:=hb.1;rcases j t b q with ⟨_,e⟩ | ⟨_,e⟩
   ·omega
   exact hb.2.2.1 t e
  show(if t=st.nt then some K.nx else E.σ t)=some b;rw[iN (λe=>s b (by rw[<-e];exact q))];exact q
 have ht:=h.step m (EW:=st.nt+1) (mC _) (λb hb _=>i b hb) rfl (λt b q=>by
  rcases j t b q with ⟨l,f⟩ | ⟨l,f⟩
  ·subst f;exact⟨h.nx,fN _,Om,λo q=>by have:=(h.eW o _ q).1;omega,λhh=>by have:=(h.hid _ hh).1;omega⟩
  ·obtain⟨v,x,z⟩:=h.sig t b f;exact⟨v,qu x,Om,λo=>h.sr t o b f,λhh=>(h.hid b hh).2.1 t f⟩) (λt t' b q y=>by
  rcases j t b q with ⟨l,f⟩ | ⟨l,f⟩<;>rcases j t' b y with ⟨f1,f2⟩ | ⟨f1,f2⟩
  ·omega
  ·have:=(h.sig t' b f2).2.1;omega
  ·have:=(h.sig t b f).2.1;omega
  exact h.inj t t' b f f2) rfl
 rw[aO.lH,TS.lH] at ht;refine⟨_,ht,?_, .r (.c (.own aB (iP rfl) (aa3 rfl) hk hg (hs.mv m.iX) n))⟩;have:=gQ.act (K:=K) (st:=st) (E:=E) (K':=K.new (.cells os e kd)) (E':=⟨λt=>if t=st.nt then some K.nx else E.σ t,E.ρ,E.hid⟩) (g:=λ_=> .dk) (EW:=st.nt+1) rfl rfl λo b q=>i b (h.eW o b q).1;rwa [TS.lH] at this
theorem TR.kil(h:TR Z K0 sp W0 K st fr aN E)(t:Nat){o:dD} : ∃E',TR Z K0 sp W0 (match E.σ t with | some b=>K.set b o | none=>K) ⟨st.nt,(st.act (lG (some t))).ax⟩ (fr.act (lG (some t))) aN E'/\Mv K E (lG (some t)) (match E.σ t with | some b=>K.set b o | none=>K) E'/\gQ K st E (match E.σ t with | some b=>K.set b o | none=>K) ⟨st.nt,(st.act (lG (some t))).ax⟩ E':=by
 obtain⟨K',i⟩ : ∃K',(match E.σ t with | some b=>K.set b o | none=>K)=K':=⟨_,rfl⟩;rw[i];have j:K'.nx=K.nx:=by rw[<-i];cases E.σ t<;>rfl
 have f : ∀b,E.σ t≠some b->K'.ob b=K.ob b:=λb hb=>by
  rw[<-i];cases he:E.σ t with
  | none=>rfl
  | some s=>exact aa5 (λe=>hb (by rw[he,e]))
 have hs : ∀t' b,(if t'=t then none else E.σ t')=some b->t'≠t/\E.σ t'=some b:=λt' b q=>by
  split at q;·cases q
  rename_i hn;exact⟨hn,q⟩
 have aB : ∀t' b,t'≠t->E.σ t'=some b->E.σ t≠some b:=λt' b hn q c=>hn (h.inj t' t b q c);have m:Mv K E (lG (some t)) K' ⟨λt'=>if t'=t then none else E.σ t',E.ρ,E.hid⟩:=by
  refine⟨λb hb=>⟨⟨by rw[j];exact hb.1,hb.2.1,λt' q=>hb.2.2.1 t' (hs t' b q).2,hb.2.2.2⟩,f b (hb.2.2.1 t)⟩,λt' b q e=> ?_,λt' b q e=> ?_,λo b q=>q⟩
  ·unfold lG at e;split at e;·cases e
   rename_i hn;have hn:t'≠t:=λe=>hn (by rw[e]);exact⟨(iN hn).trans q,f b (aB t' b hn q)⟩
  unfold lG at e;split at e<;>cases e
 refine⟨_,h.step m (by rw[j];exact ai _) (λb _ hb=>f b (hb t)) rfl (λt' b q=> ?_) (λt1 t2 b q c=>h.inj t1 t2 b (hs t1 b q).2 (hs t2 b c).2) rfl,m,gQ.act (E:=E) (E':=⟨λt'=>if t'=t then none else E.σ t',E.ρ,E.hid⟩) rfl rfl λo b q=>f b λc=>h.sr t o b c q⟩;obtain⟨g1,g2⟩:=hs t' b q;obtain⟨l,n,p⟩:=h.sig t' b g2;exact⟨l,by rw[j];exact n,p,λo=>h.sr t' o b g2,λhh=>(h.hid b hh).2.1 t' g2⟩
theorem TR.acm(h:TR Z K0 sp W0 K st fr aN E)(t:Nat) : ∃E',TR Z K0 sp W0 K ⟨st.nt,(st.act (lG (some t))).ax⟩ (fr.act (lG (some t))) aN E'/\Mv K E (lG (some t)) K E'/\gQ K st E K ⟨st.nt,(st.act (lG (some t))).ax⟩ E'/\∀b,E.σ t=some b->K0.nx<=b/\b<K.nx/\(∀t,E'.σ t≠some b)/\∀o,E'.ρ o≠some b:=by
 have hs : ∀t' b,(if t'=t then none else E.σ t')=some b->t'≠t/\E.σ t'=some b:=λt' b q=>by
  split at q;·cases q
  rename_i hn;exact⟨hn,q⟩
 have m:Mv K E (lG (some t)) K ⟨λt'=>if t'=t then none else E.σ t',E.ρ,E.hid⟩:=by
  refine⟨λb hb=>⟨⟨hb.1,hb.2.1,λt' q=>hb.2.2.1 t' (hs t' b q).2,hb.2.2.2⟩,rfl⟩,λt' b q e=> ?_,λt' b q e=> ?_,λo b q=>q⟩
  ·unfold lG at e;split at e;·cases e
   rename_i hn;have hn:t'≠t:=λe=>hn (by rw[e]);exact⟨(iN hn).trans q,rfl⟩
  unfold lG at e;split at e<;>cases e
 refine⟨_,h.step m (ai _) (λb _ hb=>rfl) rfl (λt' b q=> ?_) (λt1 t2 b q c=>h.inj t1 t2 b (hs t1 b q).2 (hs t2 b c).2) rfl,m,gQ.act (E:=E) (E':=⟨λt'=>if t'=t then none else E.σ t',E.ρ,E.hid⟩) rfl rfl λo b q=>rfl,λb q=>⟨(h.sig t b q).1,(h.sig t b q).2.1,λt' c=>(hs t' b c).1 (h.inj t' t b (hs t' b c).2 q),λo=>h.sr t o b q⟩⟩;obtain⟨g1,g2⟩:=hs t' b q;obtain⟨f,i,j⟩:=h.sig t' b g2;exact⟨f,i,j,λo=>h.sr t' o b g2,λhh=>(h.hid b hh).2.1 t' g2⟩
theorem TR.obj(h:TR Z K0 sp W0 K st fr aN E){os:List ae}{e:aI}{cs:List CV}(hs:R2 (fT K E) cs os)(I:fy cs= []) : ∃E',TR Z K0 sp W0 (K.new (.cells os e .ex)) ⟨st.nt,st.ax++ [(0,e,cs)]⟩ fr aN E'/\gQ K st E (K.new (.cells os e .ex)) ⟨st.nt,st.ax++ [(0,e,cs)]⟩ E'/\cp (K.new (.cells os e .ex)) E' (.ptr st.ax.length 0) (.pointer (some ⟨K.nx,0,none⟩)):=by
 have j : ∀b,b<K.nx->(K.new (.cells os e .ex)).ob b=K.ob b:=λb hb=>bL Om;have s : ∀o b,(if o=st.ax.length then some K.nx else E.ρ o)=some b->(o=st.ax.length/\b=K.nx)\/(o≠st.ax.length/\E.ρ o=some b):=λt b q=>by
  split at q;·rename_i e;cases q;exact .inl ⟨e,rfl⟩
  rename_i e;exact .inr ⟨e,q⟩
 have z : ∀o b,E.ρ o=some b->(if o=st.ax.length then some K.nx else E.ρ o)=some b:=λo b q=>by
  rw[iN (λe=>by have:=(h.eW o b q).2.2;omega)];exact q
 have m:Mv K E (λ_=> .dk) (K.new (.cells os e .ex)) ⟨E.σ,λo=>if o=st.ax.length then some K.nx else E.ρ o,E.hid⟩:=by
  refine⟨λb hb=>⟨⟨qu hb.1,hb.2.1,hb.2.2.1,λt q=> ?_⟩,j b hb.1⟩,λt b q _=>⟨q,j b (h.sig t b q).2.1⟩,(λ_ _ _ q=>(by cases q)),z⟩;have:=hb.1;rcases s t b q with ⟨_,e⟩ | ⟨_,e⟩
  ·omega
  exact hb.2.2.2 t e
 have J : ∀ {x v},cp K E x v->cp (K.new (.cells os e .ex)) ⟨E.σ,λo=>if o=st.ax.length then some K.nx else E.ρ o,E.hid⟩ x v:=λq=>by
  have:=q.mv m;rwa [AV.lH] at this
 have F : ∀x v,fT K E x v->fT (K.new (.cells os e .ex)) ⟨E.σ,λo=>if o=st.ax.length then some K.nx else E.ρ o,E.hid⟩ x v:=λx v q=>by
  have:=q.mv m;rwa [CV.lH] at this
 refine⟨⟨E.σ,λo=>if o=st.ax.length then some K.nx else E.ρ o,E.hid⟩,⟨xc h.nx,λb hb hp hw=> ?_,λb hb=> ?_,λb hb=> ?_,?_,λt b q=> ?_,h.inj,λt o b q A=> ?_,λo b q=> ?_,λo o' b q A=> ?_,λo v e' cs' q=> ?_,λt=>J (h.jh t)⟩,⟨λ_ q=>q,z,λo v e' cs' q=> ?_⟩, .ptr (iP rfl)⟩;·have:=h.nx;exact(j b Om).trans (h.dk b hb hp hw)
 ·obtain⟨c,f,n,L⟩:=h.tS b hb;have:=h.nx;exact⟨c,f,n,(j b Om).trans L⟩
 ·obtain⟨c,f,n⟩:=h.hid b hb;refine⟨qu c,f,λo q=> ?_⟩;rcases s o b q with ⟨_,e⟩ | ⟨_,e⟩
  ·omega
  exact n o e
 ·obtain⟨W,G,u⟩:=h.wr;refine⟨W,G,?_⟩;have C:st.ax≠ []->(if 0=st.ax.length then some K.nx else E.ρ 0)=E.ρ 0:=λaB=>iN λe=>aB (List.length_eq_zero_iff.1 e.symm);show JR Z (st.ax++ [(0,e,cs)]) _ (if 0=st.ax.length then some K.nx else E.ρ 0) W;match hl:st.ax,u,C with
  | [],u,_=>exact .inl ⟨I,u⟩
  | (v,e',cs')::r,u,C=>
    rw[C Sm];refine JR.mv (l:=(v,e',cs')::r) (l':=(v,e',cs')::r) u rfl (λv e cs q=>⟨v,cs,q,rfl,rfl,λ_ p os h1 h2=>⟨os,(j p (h.eW 0 p h1).1).trans h2,rfl,rfl⟩⟩) (λb hb=>j b (h.hid b (G b hb).1).1) (mC _)
 ·obtain⟨c,f,n⟩:=h.sig t b q;exact⟨c,qu f,n⟩
 ·rcases s o b A with ⟨y,i⟩ | ⟨y,i⟩
  ·have:=(h.sig t b q).2.1;omega
  exact h.sr t o b q i
 ·show b<K.nx+1/\_/\o<(st.ax++ [(0,e,cs)]).length;rw[cG,SC];rcases s o b q with ⟨y,i⟩ | ⟨y,i⟩
  ·have:=h.nx;exact⟨Om, .inl Om,Om⟩
  obtain⟨c,f,n⟩:=h.eW o b i;exact⟨Om,f,Om⟩
 ·rcases s o b q with ⟨y,i⟩ | ⟨y,i⟩<;>rcases s o' b A with ⟨f1,f2⟩ | ⟨f1,f2⟩
  ·omega
  ·have:=(h.eW o' b f2).1;omega
  ·have:=(h.eW o b i).1;omega
  exact h.sS o o' b i f2
 ·have q:(st.ax++ [(0,e,cs)])[o]? = some (v,e',cs'):=q;rw[List.getElem?_append] at q;split at q;·obtain⟨b,D,c,f,n⟩:=h.ax o v e' cs' q;exact⟨b,D,z o b c,(j b (h.eW o b c).1).trans f,n.mono F⟩
  rename_i M;have ho:o=st.ax.length:=by
   have:=(List.getElem?_eq_some_iff.1 q).1;simp at this;omega
  subst ho;simp at q;obtain⟨rfl,rfl,rfl⟩:=q;exact⟨K.nx,os,iP rfl,aa3 rfl,hs.mono F⟩
 refine⟨v,cs',?_,ai _,λ_ b hb=>j b (h.eW o b hb).1⟩;show(st.ax++ [(0,e,cs)])[o]? = _;rw[qo (List.getElem?_eq_some_iff.1 q).1];exact q
theorem TR.sto(h:TR Z K0 sp W0 K st fr aN E){o b v:Nat}{e:aI}{cs us:List CV}{os:List ae}(f:E.ρ o=some b)(ho:st.ax[o]? = some (v,e,cs))(hs:R2 (fT K E) us os)(y:fy us=fy cs/\us.length=cs.length/\(fy cs≠ []->∀j,K.ob b= .cells j e .ex->os.length=j.length/\ko us os=ko cs j)):TR Z K0 sp W0 (K.set b (.cells os e .ex)) ⟨st.nt,st.ax.set o (v+1,e,us)⟩ fr aN E/\gQ K st E (K.set b (.cells os e .ex)) ⟨st.nt,st.ax.set o (v+1,e,us)⟩ E:=by
 have i : ∀l,l≠b->(K.set b (.cells os e .ex)).ob l=K.ob l:=λl hl=>aa5 hl;have m:Mv K E (λ_=> .dk) (K.set b (.cells os e .ex)) E:=by
  refine⟨λl hl=>⟨hl,i l λe=>hl.2.2.2 o (e▸f)⟩,λt l q _=>⟨q,i l λe=>h.sr t o l q (e▸f)⟩,(λ_ _ _ q=>(by cases q)),λ_ _ q=>q⟩
 have F : ∀ {x v},cp K E x v->cp (K.set b (.cells os e .ex)) E x v:=λq=>by
  have:=q.mv m;rwa [AV.lH] at this
 have C : ∀x v,fT K E x v->fT (K.set b (.cells os e .ex)) E x v:=λx v q=>by
  have:=q.mv m;rwa [CV.lH] at this
 obtain⟨M,r2,z⟩:=h.eW o b f;refine⟨⟨h.nx,λl hl hp hw=> ?_,λl hl=> ?_,h.hid,?_,h.sig,h.inj,h.sr,λo' l q=> ?_,h.sS,λo' v' e' cs' q=> ?_,λt=>F (h.jh t)⟩,⟨λ_ q=>q,λ_ _ q=>q,λo' v' e' cs' q=> ?_⟩⟩
 ·refine(i l λe=> ?_).trans (h.dk l hl hp hw);subst e;rcases r2 with r2 | r2
  ·omega
  exact hp r2
 ·obtain⟨n,s,u,G⟩:=h.tS l hl;refine⟨n,s,u,(i l λe=> ?_).trans G⟩;subst e;rcases r2 with r2 | r2
  ·omega
  exact s r2
 ·obtain⟨W,D,I⟩:=h.wr;refine⟨W,D,JR.mv I (by show(st.ax.set o _).length=_;rw[Gs]) (λv' e' cs' q=> ?_) (λl hl=>i l λe=>(h.hid l (D l hl).1).2.2 o (e▸f)) (ai _)⟩;show ∃N J,(st.ax.set o (v+1,e,us))[0]? = _/\_;by_cases c:o=0
  ·subst c;rw[ho] at q;cases q;refine⟨v+1,us,NV z,y.1,y.2.1,λaB p j h1 h2=> ?_⟩;have L:p=b:=by rw[f] at h1;cases h1;rfl
   subst L;obtain⟨g1,g2⟩:=y.2.2 aB j h2;exact⟨os,aa4,g1,g2⟩
  refine⟨v',cs',(Jf c).trans q,rfl,rfl,λ_ p j h1 h2=>⟨j,(i p λe=>c ?_).trans h2,rfl,rfl⟩⟩;exact h.sS o 0 b f (e▸h1)
 ·obtain⟨n,s,u⟩:=h.eW o' l q;exact⟨n,s,by show o'<(st.ax.set o _).length;rw[Gs];exact u⟩
 ·have q:(st.ax.set o (v+1,e,us))[o']? = some (v',e',cs'):=q;by_cases c:o=o'
  ·subst c;rw[NV z] at q;cases q;exact⟨b,os,f,aa4,hs.mono C⟩
  rw[Jf c] at q;obtain⟨l,A,n,s,u⟩:=h.ax o' v' e' cs' q;exact⟨l,A,n,(i l λe=>c (h.sS o o' b f (e▸n))).trans s,u.mono C⟩
 by_cases c:o=o'
 ·subst c;rw[ho] at q;cases q;exact⟨v+1,us,NV z,mC _,λe=>by omega⟩
 refine⟨v',cs',(Jf c).trans q,ai _,λ_ l hl=>i l λe=>c (h.sS o o' b f (e▸hl))⟩
end
section
open Go Go.RowKit
variable {T:cw} {Z:TP} {K0 K K' rO:CH} {sp:Option Nat} {W0:Nat->Prop} {st bB vd bM:TS} {fr am:aO} {aN:Fr} {E E' ve:TE}
theorem bK.app{A:Nat->Prop}{xs ys:List SV}{vs us:List ae}(h:bK K A xs vs)(g:bK K A ys us):bK K A (xs++ys) (vs++us):=(h.r2.app g.r2).Lg
theorem ajO{a:AV}{v:ae}(h:cp K E a v){t:Option Nat}{z:Option Nat}{hs:List (List SV)}(i:a.rowOf=some (t,z,hs)){sz:Nat}(hz:HD sz z) : ∃xs,oj K sz v=some (xs,hs.length)/\bK K (ei K E) hs.flatten xs/\(∀g∈hs,g.length=sz):=by
 rcases ET h i with ⟨rfl,rfl⟩ | ⟨aB,og,b,os,m,kd,rfl,n,j,o,c,f,rfl⟩
 ·exact⟨[],rfl, .nil,(λ_ q=>(by cases q))⟩
 cases hz;refine⟨os,?_,f,c⟩;have hl:os.length=hs.length*sz:=by rw[f.r2.len,ES c]
 have l:hs.length≠0:=λe=>aB.1 (List.length_eq_zero_iff.1 e);simp only[oj,l,iF,j];rw[iP Om,gI,ux Om]
theorem acn{A:Nat->Prop} : ∀ {xs:List SV} {vs:List ae},R2 (fk K A) xs vs->vs.all a8=true
 | _,_, .nil=>rfl
 | _,_, .cons h t=>by rw[qw,fk.cell h,acn t];rfl
theorem bK.cells{A:Nat->Prop}{xs:List SV}{vs:List ae}(h:bK K A xs vs):vs.all a8=true:=acn h.r2
theorem ajP.cells{xs:List CV}{vs:List ae}(h:R2 (fT K E) xs vs):vs.all a8=true:=by
 induction h with
 | nil=>rfl
 | cons h t b=>rw[qw,h.cell,b];rfl
theorem TR.ren(h:TR Z K0 sp W0 K st fr aN E)(t:Nat) : ∃E',TR Z K0 sp W0 K ⟨st.nt+1,(st.act (lG (some t))).ax⟩ (fr.act (lG (some t))) aN E'/\gQ K st E K ⟨st.nt+1,(st.act (lG (some t))).ax⟩ E'/\(∀b,ei K E b->ei K E' b)/\E'.σ st.nt=E.σ t:=by
 have n : ∀b,E.σ st.nt≠some b:=λb q=>by have:=(h.sig _ b q).2.2;omega
 have hs : ∀t' b,(if t'=st.nt then E.σ t else if t'=t then none else E.σ t')=some b->(t'=st.nt/\E.σ t=some b)\/(t'≠st.nt/\t'≠t/\E.σ t'=some b):=λt' b q=>by
  split at q;·rename_i e;exact .inl ⟨e,q⟩
  rename_i e;split at q;·cases q
  rename_i e';exact .inr ⟨e,e',q⟩
 have l : ∀b,ei K E b->ei K ⟨λt'=>if t'=st.nt then E.σ t else if t'=t then none else E.σ t',E.ρ,E.hid⟩ b:=λb hb=>⟨hb.1,hb.2.1,λt' q=>by
  rcases hs t' b q with ⟨_,e⟩ | ⟨_,_,e⟩
  ·exact hb.2.2.1 t e
  exact hb.2.2.1 t' e,hb.2.2.2⟩
 have m:Mv K E (lG (some t)) K ⟨λt'=>if t'=st.nt then E.σ t else if t'=t then none else E.σ t',E.ρ,E.hid⟩:=by
  refine⟨λb hb=>⟨l b hb,rfl⟩,λt' b q e=> ?_,λt' b q e=> ?_,λo b q=>q⟩
  ·unfold lG at e;split at e;·cases e
   rename_i hn;have hn:t'≠t:=λe=>hn (by rw[e]);refine⟨?_,rfl⟩;show(if t'=st.nt then E.σ t else if t'=t then none else E.σ t')=some b;rw[iN (λe=>n b (by rw[<-e];exact q)),iN hn];exact q
  unfold lG at e;split at e<;>cases e
 refine⟨_,h.step m (ai _) (λb _ hb=>rfl) rfl (λt' b q=> ?_) (λt1 t2 b q s=> ?_) rfl,gQ.act (E:=E) (E':=⟨λt'=>if t'=st.nt then E.σ t else if t'=t then none else E.σ t',E.ρ,E.hid⟩) rfl rfl λo b q=>rfl,l,iP rfl⟩
 ·rcases hs t' b q with ⟨c,e⟩ | ⟨c,_,e⟩
  ·obtain⟨i,j,u⟩:=h.sig t b e;exact⟨i,j,Om,λo=>h.sr t o b e,λhh=>(h.hid b hh).2.1 t e⟩
  obtain⟨i,j,u⟩:=h.sig t' b e;exact⟨i,j,Om,λo=>h.sr t' o b e,λhh=>(h.hid b hh).2.1 t' e⟩
 rcases hs t1 b q with ⟨c,e⟩ | ⟨c,v,e⟩<;>rcases hs t2 b s with ⟨f1,f⟩ | ⟨f1,f2,f⟩
 ·omega
 ·exact absurd (h.inj t2 t b f e) f2
 ·exact absurd (h.inj t1 t b e f) v
 exact h.inj t1 t2 b e f
theorem ajQ(h:TR Z K0 sp W0 K st fr aN E){e sz bytes:Nat}{s x:av}{a:AV}(ht:yW fr st (.app e sz bytes s x)=some (a,am,bM)) : ∃v l f,bq K (aJ aN) (.app e sz bytes s x)=some (v,l)/\TR Z K0 sp W0 l bM am aN f/\cp l f a v/\gQ K st E l bM f:=by
 simp only[yW] at ht;split at ht
 ·rename_i o gs tq z hs C e2;split at ht
  ·rename_i hc;obtain⟨c1,c2,c3,J,c5⟩:=hc;have D:=acb c5;cases ht;obtain⟨xs,y,L,N⟩:=ajO (jE h.jh x) e2 c2;have O:=L.cells;have n:=jE h.jh s;have lV:o=none->gs= []->aJ aN s= .slice none 0 0->∃v l f,bq K (aJ aN) (.app e sz bytes s x)=some (v,l)/\TR Z K0 sp W0 l ⟨st.nt+1,(EU o st).ax⟩ (PF o fr) aN f/\cp l f (.r (.c (.own st.nt e sz (gs++hs)))) v/\gQ K st E l ⟨st.nt+1,(EU o st).ax⟩ f:=λho hg hv=>by
    subst ho;subst hg;rw[ju];have hh:hs.length*bytes<=140737488355328/\hs.length<=maxLen:=by simpa using aj c3 J
    by_cases i:hs.length=0
    ·have:hs= []:=List.length_eq_zero_iff.1 i;subst this;refine⟨.slice none 0 0,K,E,by simp only[bq,y,hv];rfl,⟨h.nx,h.dk,h.tS,h.hid,h.wr,λt b q=> ?_,h.inj,h.sr,h.eW,h.sS,h.ax,h.jh⟩, .r (.c .wF),λ_ h=>h,λ_ _ h=>h,λo v e cs h=>⟨v,cs,h,ai _,λ_ _ _=>rfl⟩⟩;obtain⟨j,u,A⟩:=h.sig t b q;exact⟨j,u,qu A⟩
    obtain⟨f,t1,t2,t3⟩:=h.row (e:=e) (kd:= .gr) (sz:=sz) (gs:=hs) (os:=xs) ⟨λe=>i (by rw[e];rfl),hh.2⟩ rfl N L D;exact⟨_,_,f,by simp only[bq,y,hv,i,iF];rw[iP ⟨O,hh.1,hh.2⟩],t1,t3,t2⟩
   unfold AV.UR at C;split at C
   ·rename_i t e' og yZ M;cases C;obtain⟨rfl,rfl⟩:=c1;rcases ET (t:=some t) n (by rw[M];rfl) with ⟨rfl,hv⟩ | ⟨aB,sz2,b,os,F,kd,Q,j,u,A,R,S,hv⟩
    ·
     rw[ju];obtain⟨U,t1,m,t2⟩:=h.acm t;by_cases i:hs.length=0
     ·have:hs= []:=List.length_eq_zero_iff.1 i;subst this;refine⟨.slice none 0 0,K,U,by simp only[bq,y,hv];rfl,⟨t1.nx,t1.dk,t1.tS,t1.hid,t1.wr,λt b q=> ?_,t1.inj,t1.sr,t1.eW,t1.sS,t1.ax,t1.jh⟩, .r (.c .wF),t2.1.1,t2.1.2,t2.1.3⟩;obtain⟨j,u,A⟩:=t1.sig t b q;exact⟨j,u,qu A⟩
     have hh:hs.length*bytes<=140737488355328/\hs.length<=maxLen:=by simpa using aj c3 J
     obtain⟨f,G,s2,I⟩:=t1.row (e:=e') (kd:= .gr) (sz:=og) (gs:=hs) (os:=xs) ⟨λe=>i (by rw[e];rfl),hh.2⟩ rfl N (L.mv m.iX) D;exact⟨_,_,f,by simp only[bq,y,hv,i,iF];rw[iP ⟨O,hh.1,hh.2⟩],G,I,t2.1.trans s2⟩
    have Ln:F=e':=by
     rw[M] at n;cases n with
     | r n=>cases n with
       | c n=>
         rw[hv] at n;cases n with
         | own aB hb ho hk hg hs=>
           have j:E.σ t=some b:=j;rw[u] at ho;cases ho;rfl
    subst Ln;cases Q;have j:E.σ t=some b:=j;have hl:os.length=gs.length*og:=by rw[S.r2.len,ES R]
    by_cases i:hs.length=0
    ·have:hs= []:=List.length_eq_zero_iff.1 i;subst this;obtain⟨f,t1,t2,t3,t4⟩:=h.ren t;refine⟨.slice (some ⟨b,0,none⟩) gs.length gs.length,K,f,by simp only[bq,y,hv,u];rfl,t1,?_,t2⟩;rw[gY];exact .r (.c (.own aB (t4.trans j) u A R (S.mv λb hb=>⟨t3 b hb,rfl⟩) D))
    have hx:bq K (aJ aN) (.app F og bytes s x)=some (.slice (some ⟨K.nx,0,none⟩) (gs.length+hs.length) (gs.length+hs.length),iY (kd.jv&&decide (gs.length<gs.length+hs.length)) K b (.cells (os++xs) F .gr)):=by
     simp only[bq,y,hv,u,i,iF];rw[iP ⟨trivial,trivial,A,Om,O,c3,J⟩,ux Om]
    rw[<-cG] at hx;have V:bK K (ei K E) (gs++hs).flatten (os++xs):=by rw[List.flatten_append];exact S.app L
    have W : ∀g∈gs++hs,g.length=og:=λg hg=>(List.mem_append.1 hg).elim (R g) (N g);have Y:gs++hs≠ []/\(gs++hs).length<=maxLen:=⟨λe=>aB.1 (List.append_eq_nil_iff.1 e).1,by rw[cG];exact J⟩;unfold iY at hx;split at hx;·obtain⟨U,t1,m,t2⟩:=h.acm t;obtain⟨f,G,s2,I⟩:=t1.row (e:=F) (kd:= .gr) Y rfl W (V.mv m.iX) D;exact⟨_,_,f,hx,G,I,t2.1.trans s2⟩
    obtain⟨U,t1,m,t2⟩:=h.kil t (o:= .dead);rw[j] at t1 m t2;obtain⟨f,G,s2,I⟩:=t1.row (e:=F) (kd:= .gr) Y rfl W (V.mv m.iX) D;exact⟨_,_,f,hx,G,I,t2.trans s2⟩
   ·rename_i M;cases C;rcases ET (t:=none) (gs:= []) n (by rw[M];rfl) with ⟨_,hv⟩ | ⟨aB,_⟩
    ·exact lV rfl rfl hv
    exact absurd rfl aB.1
   cases C
  cases ht
 cases ht
theorem acp{sz:Nat} : ∀ {l:List (Option (List CV))} {gs:List (List CV)},HF sz l=some gs->l=gs.map some/\∀g∈gs,g.length=sz
 | [],gs,h=>by cases h;exact⟨rfl,(λ_ q=>(by cases q))⟩
 | none::r,gs,h=>by cases h
 | some cs::r,gs,h=>by
   simp only[HF] at h;split at h
   ·rename_i hc;cases b:HF sz r with
    | none=>rw[b] at h;cases h
    | some f=>
      rw[b] at h;cases h;obtain⟨c,e⟩:=acp b;refine⟨by rw[c];rfl,λg hg=> ?_⟩;rcases List.mem_cons.1 hg with rfl | hg
      ·exact hc
      exact e g hg
   cases h
theorem acq{x:CV}{v:ae}(h:fT K E x v){y:SV}(c:x.fz=some y){K':CH}{A:Nat->Prop}(h1 : ∀b,ei K E b->A b/\K'.ob b=K.ob b)(h2 : ∀t b,t∈x.fA->E.σ t=some b->A b/\K'.ob b=K.ob b):fk K' A y v:=by
 cases h with
 | s h=>cases c;exact h.mv h1
 | wF=>cases c;exact .qI
 | own aB hb ho hk hg hs ht=>
   cases c;obtain⟨e,f⟩:=h2 _ _ (List.mem_singleton.2 rfl) hb;exact .row aB e (f.trans ho) hk hg (hs.mv h1) ht
 | bad=>cases c
theorem Lq{K':CH}{A:Nat->Prop}(h1 : ∀b,ei K E b->A b/\K'.ob b=K.ob b) : ∀ {xs:List CV} {vs:List ae} {ys:List SV},R2 (fT K E) xs vs->u9 xs=some ys->(∀t b,t∈xs.flatMap CV.fA->E.σ t=some b->A b/\K'.ob b=K.ob b)->R2 (fk K' A) ys vs
 | _,_,ys, .nil,h,_=>by cases h;exact .nil
 | x::xs,_,ys, .cons hx ht,h,h2=>by
   simp only[u9] at h;split at h;·rename_i y f c e;cases h;exact .cons (acq hx c h1 λt b q=>h2 t b (by rw[tw];exact N4 _ q)) (Lq h1 ht e λt b q=>h2 t b (by rw[tw];exact SB _ q))
   cases h
theorem acr{K':CH}{A:Nat->Prop}(h1 : ∀b,ei K E b->A b/\K'.ob b=K.ob b) : ∀ {gs:List (List CV)} {hs:List (List SV)} {vs:List ae},R2 (fT K E) gs.flatten vs->Lk gs=some hs->(∀t b,t∈gs.flatten.flatMap CV.fA->E.σ t=some b->A b/\K'.ob b=K.ob b)->R2 (fk K' A) hs.flatten vs/\hs.length=gs.length/\∀sz,(∀g∈gs,g.length=sz)->∀g∈hs,g.length=sz
 | [],hs,vs,c,h,_=>by
   cases h;exact⟨(by cases c;exact .nil),rfl,λ_ _ _ q=>(by cases q)⟩
 | g::gs,hs,vs,c,h,h2=>by
   simp only[Lk] at h;split at h
   ·rename_i y ys j l;cases h;rw[Cd] at c h2;have e:=c.take g.length;have r2:=c.drop g.length;rw[List.take_left] at e;rw[List.drop_left] at r2;have f:=Lq h1 e j λt b q=>h2 t b (by rw[zZ];exact N4 _ q);obtain⟨m,n,o⟩:=acr h1 r2 l λt b q=>h2 t b (by rw[zZ];exact SB _ q);have s:y.length=g.length:=by rw[<-f.len,e.len]
    refine⟨?_,by simp[n],λsz i x hx=> ?_⟩;·rw[Cd,<-yv g.length vs];exact f.app m
    rcases List.mem_cons.1 hx with rfl | hx
    ·rw[s];exact i g Sm
    exact o sz (λg hg=>i g (by simp[hg])) x hx
   cases h
theorem acs{sz:Nat}{ev:av->ae} : ∀ {ps:List (Nat×av)} {k:Nat} {z:List ae},ps.map (·.1)=List.range' k ps.length->z.length=(k+ps.length)*sz->(∀p∈ps,isVal (ev p.2)=true/\(ev p.2).cells.size=sz)->dv z (ps.map λ(i,x)=>(i*sz,sz,ev x))=some (z.take (k*sz)++ps.flatMap λp=>(ev p.2).cells.toList)
 | [],k,z,_,hz,_=>by
   rw[ux (by simpa using Nat.le_of_eq hz)];simp[dv]
 | (i,x)::ps,k,z,hi,hz,hv=>by
   rw[c8,bN,List.range'_succ] at hi;injection hi with Cx b
   have Cx:i=k:=Cx;subst Cx;obtain⟨h1,h2⟩:=hv (i,x) Sm;have c:i*sz+sz<=z.length:=by
    rw[hz,bN,show i+(ps.length+1)=(i+1)+ps.length from by omega,qt (i+1),qt i];omega
   have e:((ev x).cells.toList).length=sz:=by rw[NY];exact h2
   have f:=acs (sz:=sz) (ev:=ev) (ps:=ps) (k:=i+1) (z:=setCells z (i*sz) (ev x).cells.toList) b (by rw[Oh Om,hz,bN,show i+(ps.length+1)=(i+1)+ps.length from by omega]) λp hp=>hv p (by simp[hp]);show(if isVal (ev x)=true/\(ev x).cells.size=sz/\i*sz+sz<=z.length then dv (setCells z (i*sz) (ev x).cells.toList) _ else none)=_;rw[iP ⟨h1,h2,c⟩,f];congr 1
   rw[tw,<-oY];congr 1
   unfold setCells;rw[List.take_append_of_le_length (by rw[cG,kW,e,qt];omega),ux (by rw[cG,kW,e,qt];omega)]
theorem ajR{z:List ae}{n:Nat}:(jU z n).length=n:=by simp[jU]
theorem ajS(h:TR Z K0 sp W0 K st fr aN E){x:qC}{a:AV}(ht:xH fr st x=some (a,am,bM)) : ∃cs e k mk c,cq (aJ aN) x=some (cs,e,k,mk)/\TR Z K0 sp W0 (K.new (.cells cs e k)) bM am aN c/\cp (K.new (.cells cs e k)) c a (db mk K.nx)/\gQ K st E (K.new (.cells cs e k)) bM c:=by
 cases x with
 | new e z=>
   simp only[xH] at ht;cases hz:ER z with
   | none=>rw[hz] at ht;cases ht
   | some cs=>
     rw[hz] at ht;simp only at ht;split at ht;·rename_i u;cases ht;obtain⟨c,t1,t2,t3⟩:=h.obj (e:=e) (UP hz) u;exact⟨_,_,_,_,c,rfl,t1,t3,t2⟩
     cases ht
 | box e x=>
   simp only[xH] at ht;cases hz:(eJ fr x).wG with
   | none=>rw[hz] at ht;cases ht
   | some cs=>
     rw[hz] at ht;simp only at ht;split at ht;·rename_i u;cases ht;obtain⟨j,l⟩:=Lj (jE h.jh x) hz;obtain⟨c,t1,t2,t3⟩:=h.obj (e:=e) j u;exact⟨_,_,_, .ptr,c,by simp only[cq];rw[iP l],t1,t3,t2⟩
     cases ht
 | Ao e sz n z ps=>
   simp only[xH] at ht;split at ht
   ·rename_i hc;obtain⟨v,G,c3,y,c5⟩:=hc;split at ht
    ·rename_i gs C;split at ht
     ·rename_i hs o;cases ht;obtain⟨g1,g2⟩:=acp C;have hn:ps.length=n:=by have:=congrArg tu v;simpa using this
      subst hn;have q : ∀p∈ps,∃g∈gs,(eJ fr p.2).wG=some g:=λp hp=>by
       have:(eJ fr p.2).wG∈gs.map some:=by rw[<-g1];exact List.mem_map_of_mem hp
       obtain⟨g,s,i⟩:=List.mem_map.1 this;exact⟨g,s,i.symm⟩
      have D : ∀p∈ps,isVal (aJ aN p.2)=true/\(aJ aN p.2).cells.size=sz:=λp hp=>by
       obtain⟨g,s,i⟩:=q p hp;obtain⟨j,l⟩:=Lj (jE h.jh p.2) i;exact⟨l,by rw[<-NY,j.len];exact g2 g s⟩
      have hb:=acs (ev:=aJ aN) (k:=0) (z:=jU z (ps.length*sz)) (by rw[v,List.range_eq_range']) (by rw[ajR,ba]) D;rw[xf,vU,ju] at hb;have hrel:R2 (fT K E) gs.flatten (ps.flatMap λp=>(aJ aN p.2).cells.toList):=by
       clear hb D q C o v G c3 y;induction ps generalizing gs with
       | nil=>
         cases gs with
         | nil=>exact .nil
         | cons=>simp at g1
       | cons p ps I=>
         cases gs with
         | nil=>simp at g1
         | cons g gs=>
           rw[c8,c8] at g1;injection g1 with J L
           rw[Cd,tw];exact(Lj (jE h.jh p.2) J).1.app (I gs L λg hg=>g2 g (by simp[hg]))
      obtain⟨c,t1,m,t2,t3⟩:=h.fz (gs.flatten.flatMap CV.fA);obtain⟨s,i,M⟩:=acr (K':=K) (A:=ei K c) m.iX hrel o λt b j l=>m.fz t b l (by unfold nM;rw[iP j]);have aB:hs≠ []:=λe=>by
       have:gs.length=0:=by rw[<-i,e];rfl
       have h3:=congrArg tu g1;simp at h3;omega
      have f:hs.length=ps.length:=by
       have h3:=congrArg tu g1;rw[i];simpa using h3.symm
      obtain⟨N,O,s2,F⟩:=t1.row (e:=e) (kd:= .ex) (sz:=sz) (gs:=hs) ⟨aB,by rw[f,gE];omega⟩ rfl (M sz g2) s.Lg (acb c5);rw[f] at F;rw[PH,PI];exact⟨_,e, .ex, .sl ps.length ps.length,N,by simp only[cq];rw[iP ⟨c3,y⟩,hb];rfl,O,F,t2.trans s2⟩
     cases ht
    cases ht
   cases ht
 | _=>cases ht
theorem ajT(h:TR Z K0 sp W0 K st fr aN E){x:iW}{a:AV}(ht:yW fr st x=some (a,am,bM)) : ∃v f j,bq K (aJ aN) x=some (v,f)/\TR Z K0 sp W0 f bM am aN j/\cp f j a v/\gQ K st E f bM j:=by
 cases x with
 | app e sz bytes s x=>exact ajQ h ht
 | st n x v=>
   simp only[yW] at ht;split at ht
   ·rename_i o off I z A;split at ht
    ·rename_i mR e cs ho;split at ht
     ·rename_i hc;cases ht;have m:=jE h.jh x;rw[z] at m;obtain⟨l,hl,hv⟩:=m.A0;obtain⟨c,C⟩:=Lj (jE h.jh v) A;obtain⟨b,os,q,t,i⟩:=h.ax o _ _ _ ho;rw[hl] at q;cases q;obtain⟨D,F,c3,u⟩:=hc;obtain⟨t1,t2⟩:=h.sto hl ho (i.set c (o:=off)) ⟨ajL c3 u,(by simp only[cG,kW,lB];omega),λ_ J y=>by
       rw[t] at y;cases y;exact⟨Oh (by rw[c.len,i.len];omega),ajM c3 u i.len.symm c.len.symm Om⟩⟩
      refine⟨undef,_,E,?_,t1, .bad,t2⟩;have G:(aJ aN v).cells.size=n:=by rw[<-NY,c.len];exact D
      simp only[bq,hv,t];rw[iP ⟨rfl,C,G,by rw[i.len];exact F,ajP.cells c⟩]
     cases ht
    cases ht
   cases ht
 | _=>cases ht
end
end Can
end Go.Proofs.YticlaccbodpkeaaGreatDoor
