/- Scope, Check: what trees of sources have. No program in sight. Rename, the document: kids that lie apart in the memory; comp. Rename, the document: rename. Show: trees without long texts. No program in sight. Parse: no tree has a text that is longer than a token's; a for has three kids. No program in sight. Lex: no token's text is longer than a source. No program in sight. ScopeAgain: sources' trees are small. No program in sight. The round trip: gr answers trees as XRtW says. No program in sight. The round trip: a source's tokens are tokens; a source's tree is as XRtW says. No program in sight. ScopeRenames: the trees that both rename; what is told; the law. Scope, Check: trees of sources. ScopeClosed: what is told; name, Find. ScopeClosed, the plain law: what Check answers is closed. No program in sight. ScopeClosed: the law. The library's table lies where the card says. -/
import Derived.Test.YticlaccbodpkeaaGreatDoorVa
import Derived.Test.YticlaccbodpkeaaGreatDoorVi
import Derived.Test.YticlaccbodpkeaaGreatDoorVh
import Derived.Test.YticlaccbodpkeaaGreatDoorVf
import Derived.Test.YticlaccbodpkeaaGreatDoorVe
import Derived.Test.YticlaccbodpkeaaGreatDoorVg
import Derived.Test.YticlaccbodpkeaaGreatDoorVd
import Derived.Test.YticlaccbodpkeaaGreatDoorRows
import Derived.Lib.LaidU8
import Derived.LaidSub
open Go renaming Value → ae
open Go.Value renaming cells → dp
open Iff renaming rfl → dS
open Int renaming toNat_natCast → gj
open List renaming cons_append → jU, eq_of_mem_replicate → YE, ext_getElem? → Ca, filter_cons → GL, flatMap_cons → vU, foldl_cons → yt, getElem?_eq_getElem → bM, getElem?_map → hY, getElem?_modify → vV, getElem_mem → yy, getElem_of_mem → Ae, getElem_take → RN, length → rN, length_append → cO, length_cons → cw, length_drop → ky, length_map → fh, length_nil → cX, length_take → ny, map_cons → dG, mem_append → ia, mem_append_left → tQ, mem_cons → ox, mem_cons_of_mem → hU, mem_of_getElem? → fi, mem_singleton → lR
open Nat renaming add_assoc → mP, add_zero → lP, le_refl → al, le_trans → bW, lt_of_lt_of_le → cj, lt_succ_self → iC, not_lt_zero → fM, zero_add → bJ, zero_le → cx
open Option renaming map_eq_some_iff → nB
open SizeOf renaming sizeOf → dR
set_option maxRecDepth 4000
set_option maxHeartbeats 40000000
set_option linter.unusedSimpArgs false
set_option linter.unusedVariables false
namespace Go.Proofs.YticlaccbodpkeaaGreatDoor
namespace Can
section
mutual
def tN:Nd->List Bs
 | .mk _ _ x _ ks=>x::Gs ks
def Gs:List Nd->List Bs
 | []=> []
 | n::ks=>tN n++Gs ks
end
mutual
theorem afx : ∀n:Nd,(tN n).length=cf n
 | .mk k l x o ks=>by simp only[tN,cf,cw,afy ks]
theorem afy : ∀ks:List Nd,(Gs ks).length=a8 ks
 | []=>rfl
 | n::ks=>by simp only[Gs,a8,cO,afx n,afy ks]
end
mutual
theorem afz{T:List Bs} : ∀n:Nd,(∀s∈tN n,s∈T)->vL T n
 | .mk k l x o ks,h=>⟨h x (by simp[tN]),afA ks λs hs=>h s (by simp[tN,hs])⟩
theorem afA{T:List Bs} : ∀ks:List Nd,(∀s∈Gs ks,s∈T)->qw T ks
 | [],_=>trivial
 | n::ks,h=>⟨afz n λs hs=>h s (by simp[Gs,hs]),afA ks λs hs=>h s (by simp[Gs,hs])⟩
end
theorem Ya{T:List Bs}(N:Nat):(∀t:Nd,dR t<N->vL T t->(∀s∈fy t,s∈T)/\(fy t).length<=cf t)/\(∀ks:List Nd,dR ks<N->qw T ks->(∀s∈eE ks,s∈T)/\(eE ks).length<=a8 ks):=by
 induction N with
 | zero=>exact⟨λ_ h=>absurd h (fM _),λ_ h=>absurd h (fM _)⟩
 | succ N a=>
   refine⟨λt b hT=> ?_,λks b hT=> ?_⟩
   ·obtain⟨k,l,x,o,ks⟩:=t;simp at b;rw[Dx];simp only[cf];split;·exact⟨λs hs=>by rw[lR] at hs;rw[hs];exact hT.1,Sm⟩
    split;·have h:=a.2 ks Om hT.2;exact⟨h.1,by have:=h.2;omega⟩
    exact⟨λs hs=>(by cases hs),cx _⟩
   cases ks with
   | nil=>exact⟨λs hs=>(by cases hs),al _⟩
   | cons n ks=>
     simp at b;have h1:=a.1 n Om hT.1;have h2:=a.2 ks Om hT.2;simp only[eE,a8];refine⟨λs hs=> ?_,by rw[cO];have:=h1.2;have:=h2.2;omega⟩;rcases List.mem_append.1 hs with hs | hs
     ·exact h1.1 s hs
     exact h2.1 s hs
theorem afB{T:List Bs} : ∀ {ks:List Nd},(∀n∈ks,vL T n)->qw T ks
 | [],_=>trivial
 | n::ks,h=>⟨h n Sm,afB λm a=>h m (by simp[a])⟩
def Bd (T:List Bs)(m:Nat)(L:List Bs):Prop:=(∀s∈L,s∈T)/\L.length<=m
theorem afC{T:List Bs}{e:Ev}(hT:vL T e.1):(∀s∈kT e,s∈T)/\(kT e).length<=cf e.1:=by
 obtain⟨⟨k,l,x,o,ks⟩,h⟩:=e;have a:(∀s∈fy (cC ks),s∈T)/\(fy (cC ks)).length<=a8 ks:=by
  cases ks with
  | nil=>exact⟨λs hs=>(by rw[cC,Dx] at hs;simp at hs),by rw[cC,Dx];simp⟩
  | cons n ks=>
    have h1:=(Ya (T:=T) (dR n+1)).1 n (iC _) hT.2.1;exact⟨h1.1,by simp only[a8,cC];have:=h1.2;omega⟩
 have h1 : ∀s∈ [x],s∈T:=λs hs=>by rw[lR] at hs;rw[hs];exact hT.1
 show Bd T (a8 ks+1) (kT (.mk k l x o ks,h));unfold kT;show Bd T (a8 ks+1) (if k=3 then (if h.mb=true then [] else eE ks.dropLast) else if k=4\/k=7\/k=58 then fy (cC ks) else if k=19 then (if (cC ks).kind=36 then [(cC ks).text] else []) else if k=8 then (if h.mb=true then [] else [x]) else if k=9\/k=16\/k=21 then [x] else []);split
 ·split;·exact⟨λs hs=>(by cases hs),cx _⟩
  have hd:=(Ya (T:=T) (dR ks.dropLast+1)).2 ks.dropLast (iC _) (afB λn hn=>MZ hT.2 (List.dropLast_subset ks hn));have hl:=(Ya (T:=T) (dR ks+1)).2 ks (iC _) hT.2;refine⟨hd.1,?_⟩;have h3:=ad2 (i:=ks.length-1) (ks:=ks);rw[<-List.dropLast_eq_take] at h3;have:=hl.2;omega
 split;·exact⟨a.1,by have:=a.2;omega⟩
 split
 ·split
  ·rename_i hk;refine⟨λs hs=> ?_,Sm⟩;cases ks with
   | nil=>cases hk
   | cons n ks=>
     rw[lR] at hs;rw[hs];obtain⟨nk,nl,nx,no,b⟩:=n;exact hT.2.1.1
  exact⟨λs hs=>(by cases hs),cx _⟩
 split
 ·split;·exact⟨λs hs=>(by cases hs),cx _⟩
  exact⟨h1,Sm⟩
 split;·exact⟨h1,Sm⟩
 exact⟨λs hs=>(by cases hs),cx _⟩
def zZ (T:List Bs)(i:Nat)(F:ah):Prop:=(-1<=F.par/\F.par<(i:Int))/\F.ps.length<=100000/\F.ls.Nodup/\(∀s∈F.ls,s∈T)/\F.cs= []/\F.fs= []
theorem Rs{Q:Nat->ah->Prop}{fns:List ah}(h : ∀i F,fns[i]? = some F->Q i F){k:Nat}{u:ah->ah}(hu : ∀F,Q k F->Q k (u F)) : ∀i F,(dC fns k u)[i]? = some F->Q i F:=λi F a=>by
 unfold dC at a;rw[vV] at a;cases hg:fns[i]? with
 | none=>rw[hg] at a;simp at a
 | some G=>
   rw[hg] at a;by_cases b:k=i
   ·have e:u G=F:=by simpa[b] using a
    rw[<-e];subst b;exact hu G (h k G hg)
   have e:G=F:=by simpa[b] using a
   rw[<-e];exact h i G hg
theorem afD{T:List Bs}{i f:Nat} : ∀(xs:List Bs) (F:ah),(∀s∈xs,s∈T)->zZ T i F->zZ T i (xs.foldl (tE f) F)
 | [],F,_,h=>h
 | s::xs,F,hx,h=>by
   rw[yt];refine afD xs _ (λy hy=>hx y (by simp[hy])) ?_;unfold tE;split;·exact h
   rename_i hc;obtain⟨h1,h2,h3,h4,h5,a⟩:=h;refine⟨h1,h2,IT h3 λb=>hc (.inr (.inr (.inl b))),λy hy=> ?_,h5,a⟩;rcases List.mem_append.1 hy with hy | hy
   ·exact h4 y hy
   rw[lR] at hy;rw[hy];exact hx s Sm
theorem afE{T:List Bs} : ∀(es:List Ev) (fns:List ah),(∀i F,fns[i]? = some F->zZ T i F)->∀i F,(sG fns es)[i]? = some F->zZ T i F
 | [],fns,h=>h
 | e::es,fns,h=>afE es _ (Rs h λF a=>a)
theorem Yc{T:List Bs} : ∀(es:List Ev) (fns:List ah),(∀e∈es,∀s∈kT e,s∈T)->(∀i F,fns[i]? = some F->zZ T i F)->∀i F,(tG fns es)[i]? = some F->zZ T i F
 | [],fns,_,h=>h
 | e::es,fns,hb,h=>Yc es _ (λe' he=>hb e' (by simp[he])) (Rs h λF a=>afD _ F (hb e Sm) a)
theorem Yd{T:List Bs} : ∀(es:List Ev) (c:Nat),DV c es->(∀e∈es,kQ 100000 e.1)->∀i F,((es.filter λe=>jZ e.1).map MB)[i]? = some F->zZ T (c+i+1) F
 | [],c,_,_,i,F,h=>by simp at h
 | e::es,c,hp,hk,i,F,h=>by
   rw[GL] at h;have d : ∀e'∈es,kQ 100000 e'.1:=λe' he=>hk e' (by simp[he]);by_cases b:jZ e.1=true
   ·rw[iP b,dG] at h;have a:=hp.2;rw[iP b] at a;cases i with
    | zero=>
      have j:MB e=F:=by simpa using h
      rw[<-j];have m:(cC e.1.kids).kids.length<=100000:=by
       have q:=hk e Sm;obtain⟨⟨k,l,x,o,ks⟩,w⟩:=e;cases ks with
       | nil=>exact cx _
       | cons n ks=>
         obtain⟨nk,nl,nx,no,g⟩:=n;have h3:2*g.length<=100000+16:=q.2.1.1;show g.length<=100000;omega
      exact⟨⟨by show(-1:Int)<=(e.2.f:Int);omega,by show(e.2.f:Int)<_;have:=hp.1;omega⟩,by show(List.map _ _).length<=_;rw[fh];exact m, .nil,λs hs=>(by cases hs),rfl,rfl⟩
    | succ i=>
      have:=Yd (T:=T) es (c+1) a d i F (by simpa using h);rw[show c+(i+1)+1=c+1+i+1 by omega];exact this
   rw[iN b] at h;have a:=hp.2;rw[iN b,lP] at a;exact Yd es c a d i F h
theorem aqC{T:List Bs}{es:List Ev}(hp:DV 0 es)(hk : ∀e∈es,kQ 100000 e.1) : ∀i F,(jG es)[i]? = some F->zZ T i F:=λi F h=>by
 unfold jG at h;cases i with
 | zero=>
   have e:rv=F:=by simpa using h
   rw[<-e];exact⟨⟨de,de⟩,de, .nil,λs hs=>(by cases hs),rfl,rfl⟩
 | succ i=>
   have:=Yd (T:=T) es 0 hp hk i F (by simpa using h);rw[bJ] at this;exact this
theorem aqD{Pr:ah->Prop}(hp : ∀F x,Pr F->Pr { F with fs:=x })(N:Nat):(∀(t:Nd) (st:List ah×Nat) (f:Nat) (mb:Bool),dR t<N->mL t->(∀F∈st.1,Pr F)->∀F∈(ci st f mb t).1,Pr F)/\(∀(ks:List Nd) (st:List ah×Nat) (f:Nat),dR ks<N->kS ks->(∀F∈st.1,Pr F)->∀F∈(lM st f ks).1,Pr F)/\(∀(ks:List Nd) (st:List ah×Nat) (f:Nat),dR ks<N->kS ks->(∀F∈st.1,Pr F)->∀F∈(iU st f ks).1,Pr F):=by
 have e : ∀(st:List ah) (f:Nat) (x:Bs),(∀F∈st,Pr F)->∀F∈dv st f x,Pr F:=λst f x h F d=>by
  unfold dv at d;rcases XC d with h1 | ⟨G,h1,rfl⟩
  ·exact h F h1
  split;·exact h G h1
  exact hp G _ (h G h1)
 have u : ∀(xs:List Bs) (F:ah),Pr F->Pr (xs.foldl iR F):=λxs=>by
  induction xs with
  | nil=>exactλF h=>h
  | cons s xs i=>
    intro F h;rw[yt];refine i _ ?_;unfold iR;split;·exact h
    exact hp F _ h
 have w : ∀(st:List ah) (f g:Nat),(∀F∈st,Pr F)->∀F∈rA st f g,Pr F:=λst f g h F d=>by
  unfold rA at d;rcases XC d with h1 | ⟨G,h1,rfl⟩
  ·exact h F h1
  exact u _ _ (h G h1)
 induction N with
 | zero=>exact⟨λ_ _ _ _ h=>absurd h (fM _),λ_ _ _ h=>absurd h (fM _),λ_ _ _ h=>absurd h (fM _)⟩
 | succ N i=>
   obtain⟨i1,i2,i3⟩:=i;refine⟨λt st f mb c hc hs=> ?_,λks st f c hc hs=> ?_,λks st f c hc hs=> ?_⟩
   ·obtain⟨k,l,x,o,ks⟩:=t;by_cases m:k=17
    ·subst m;rw[IU];exact hs
    by_cases j:k=8\/k=50
    ·have h2:ks.length=2:=hc.1.1 (.inr j);match ks,h2 with
     | [p,b],_=>
       simp at c;rw[M4 j];refine w _ _ _ (i1 b _ _ _ Om hc.2.2.1 ?_);show ∀F∈(if k=8/\mb=false then dv st.1 f x else st.1),Pr F;split;·exact e _ _ _ hs
       exact hs
    by_cases q:k=9
    ·subst q;have h2:ks.length=2:=hc.1.1 (.inl rfl);match ks,h2 with
     | [a, .mk bk bl bx bo bs],_=>
       simp at c;rw[Gf];exact i3 bs _ f Om hc.2.2.1.2 (i1 a _ f false Om hc.2.1 (e _ _ _ hs))
    rw[M5 m j q];simp at c;refine i2 ks _ f Om hc.2 ?_;split;·exact e _ _ _ hs
    exact hs
   ·cases ks with
    | nil=>rw[Gh];exact hs
    | cons n ks=>
      simp at c;rw[Gg];exact i2 ks _ f Om hc.2 (i1 n st f false Om hc.1 hs)
   cases ks with
   | nil=>rw[DR];exact hs
   | cons n ms=>
     simp at c;by_cases hn:n.kind=3/\2<=n.kids.length
     ·obtain⟨k,l,x,o,ks⟩:=n;obtain⟨rfl,h2⟩:k=3/\2<=ks.length:=hn;match ks,h2 with
      | p::v::r,_=>
        simp at c;rw[Gi];exact i3 ms _ f Om hc.2 (i1 v st f false Om hc.1.2.2.1 hs)
     rw[Gj hn];exact i3 ms _ f Om hc.2 (i1 n st f true Om hc.1 hs)
theorem aqE{ks:List Nd}{n:Nd}(h:n∈ks):cf n<=a8 ks:=by
 induction ks with
 | nil=>cases h
 | cons m ks a=>
   simp only[a8];rcases List.mem_cons.1 h with rfl | h
   ·omega
   have:=a h;omega
theorem ckH{t:Nd}(hh:eV t<=1000)(g:mL t)(hz:cf t<=100000000)(hk:kQ 100000 t)(hx:ru 2199023255552 t):Ni (tN t) 100000 t:=by
 have hT:vL (tN t) t:=afz t λs hs=>hs;have w:(tN t).length<=100000000:=by rw[afx];exact hz
 have hv:=(ae7 (P:=λn=>kQ 100000 n/\ru 2199023255552 n/\vL (tN t) n/\cf n<=100000000) (λk l x o ks h n hn=>⟨Mm h.1.2 hn,QK h.2.1.2 hn,MZ h.2.2.1.2 hn,by have h1:=aqE hn;have h2:a8 ks+1<=100000000:=h.2.2.2;omega⟩) (dR t+1)).1 t 0 fU (iC _) g ⟨hk,hx,hT,hz⟩ (al _);obtain⟨h1,h2,h3,h4⟩:=hv;have hb : ∀e∈(bj 0 fU t).1,∀s∈kT e,s∈tN t:=λe he=>(afC (h4 e he).2.2.1).1;have hA:=aqC (T:=tN t) h2 λe he=>(h4 e he).1;have d:=afE (bj 0 fU t).1 _ hA;have r:=Yc (bj 0 fU t).1 _ hb d;have j:(jG (bj 0 fU t).1).length=1+qy (bj 0 fU t).1:=by unfold jG qy;rw[cw,fh];omega
 have B:qy (bj 0 fU t).1<=(bj 0 fU t).1.length:=List.length_filter_le _ _;have m : ∀ {i F},zZ (tN t) i F->F.ls.length<=100000000:=λh=>bW (MY h.2.2.1 h.2.2.2.1) w;have q : ∀F∈gG (bj 0 fU t).1,∃i,zZ (tN t) i F:=λF b=>by
  obtain⟨i,hi,e⟩:=Ae b;exact⟨i,r i F (by rw[<-e];exact bM hi)⟩
 have y : ∀(es:List Ev) (c:Nat),DV c es->∀e∈es,e.2.f<=c+qy es:=λes=>by
  induction es with
  | nil=>exactλc _ e he=>by cases he
  | cons a es z=>
    intro c h e he;rw[Q6];rcases List.mem_cons.1 he with rfl | he
    ·have:=h.1;omega
    have:=z _ h.2 e he;omega
 refine⟨hh,g,Om,de,Om,λe he=>(h4 e he).1,λe he=> ?_,λF b=> ?_,λF b=> ?_,λpre e rest F u b=> ?_,λe he=>(h4 e he).2.1,Om,hT,?_,?_,?_,?_⟩;·have:=y _ 0 h2 e he;rw[j];omega
 ·obtain⟨i,hi⟩:=q F b;exact⟨by have:=hi.2.1;omega,by have:=m hi;omega,hi.2.2.2.2⟩
 ·obtain⟨i,hi,e⟩:=Ae b;have:=(hA i F (by rw[<-e];exact bM hi)).2.1;omega
 ·have v:e∈(bj 0 fU t).1:=by rw[<-u];simp
  have hi:=Yc pre _ (λe' A=>hb e' (by rw[<-u];simp[A])) d _ F b;have C:=m hi;have D:=(afC (h4 e v).2.2.1).2;have E:=(h4 e v).2.2.2;omega
 ·exact⟨λi F b=>(r i F b).1,by rw[Nh,j];omega,λF b=>by
   obtain⟨i,hi⟩:=q F b;rw[hi.2.2.2.2.2];exact⟨.nil,λs hs=>by cases hs⟩⟩
 ·rw[Nh,j];omega
 ·exact(aqD (Pr:=λF=>F.ps.length<=1099511627776/\F.ls.length<=1099511627776/\F.cs= []) (λF x h=>h) (dR t+1)).1 t _ 0 false (iC _) g λF b=>by
   obtain⟨i,hi⟩:=q F b;exact⟨by have:=hi.2.1;omega,by have:=m hi;omega,hi.2.2.2.2.1⟩
 have h5:=(apO (dR t+1)).1 t (gG (bj 0 fU t).1,0) 0 false 0 fU (iC _) g (al _);rw[h1] at h5;rw[Nh,j];omega
end
section
open Go Go.RowKit
def cmp (k:Nat):Prop:=k=55\/k=56\/k=57
instance (k:Nat):Decidable (cmp k):=inferInstanceAs (Decidable (_\/_))
abbrev aqF(t:Nd):Nd:=(c9 cI 0 t).1
end
section
mutual
def Gt:Nd->Prop
 | .mk k _ x _ ks=>x.length<=20000/\(k=7->ks.length=3)/\tO ks
def tO:List Nd->Prop
 | []=>True
 | n::ks=>Gt n/\tO ks
end
theorem aqG(k:Int):GY k=7->False:=by
 unfold GY
 (repeat' split)<;>decide
theorem Ru : ∀ {a b:List Nd},tO (a++b)↔tO a/\tO b
 | [],b=>by simp[tO]
 | n::a,b=>by simp only[jU,tO,Ru,and_assoc]
def TB:PR->Prop
 | some (.ok (l,j))=>tO l
 | _=>True
theorem Nr{c:Prop}[Decidable c]{a b:PR}(h1:TB a)(h2:TB b):TB (if c then a else b):=by
 split;·exact h1
 exact h2
theorem aqH{ts:List PT}{s:List UInt8}{i:Nat}{k:Nat->PR}(h:TB (k (i+1))):TB (gV ts s i k):=Nr h trivial
theorem aqI{ts:List PT}(a : ∀i,(ay ts i).text.length<=20000){kd:Int}{i:Nat}{k:List UInt8->Nat->PR}(h : ∀x,x.length<=20000->TB (k x (i+1))):TB (mS ts kd i k):=Nr (h _ (a i)) trivial
theorem afF{r:PR}{k:List Nd->Nat->PR}(h:TB r)(hk : ∀l j,tO l->TB (k l j)):TB (pb r k):=by
 match r,h with
 | none,_=>exact trivial
 | some (.error e),_=>exact trivial
 | some (.ok (l,j)),h=>exact hk l j h
theorem Rv{r:PR}{k:Nd->Nat->PR}(h:TB r)(hk : ∀n j,Gt n->TB (k n j)):TB (bF r k):=afF h λl j h2=>by
 match l,h2 with
 | [],_=>exact trivial
 | _::_::_,_=>exact trivial
 | [n],h2=>exact hk n j h2.1
theorem aqJ{e:Nat}:TB (some (.error e)):=trivial
theorem aqK{j:Nat}{l:List Nd}(h2:tO l):TB (some (.ok (l,j))):=h2
theorem Ye{j:Nat}{n:Nd}(h2:Gt n):TB (bR n j):=⟨h2,trivial⟩
def NT.tx:NT->Prop
 | .names k _ acc=>k≠7/\tO acc
 | .params _ _ acc | .row _ acc | .vX _ acc | .clauses acc | .yG _ acc | .placesL _ acc | .mg _ acc | .yH acc | .pV acc | .top acc | .sU _ acc=>tO acc
 | .cmpL n acc=>Gt n/\tO acc
 | .Ao n | .Ap n | .yE n | .vY n | .xh n | .index n=>Gt n
 | .maybe k _ _=>k≠7
 | _=>True
def aqL (ts:List PT)(f:Nat):Prop:=∀a i,a.tx->TB (gr ts f a i)
theorem afG{ts:List PT}{p:Nat}{A:PR}{B:Nat->Nat->PR}(hA:TB A)(a : ∀op j,TB (B op j)):TB (match jk ts p with | .error e=>some (.error e) | .ok (0,_)=>A | .ok (op+1,j)=>B op j):=by
 match jk ts p with
 | .error e=>exact trivial
 | .ok (0,_)=>exact hA
 | .ok (op+1,j)=>exact a op j
theorem aqM{ts:List PT}(e : ∀i,(ay ts i).text.length<=20000) : ∀f,aqL ts f:=by
 intro f;induction f with
 | zero=>intro a i h;exact trivial
 | succ f b=>
 have c : ∀(all:Bool) i,TB (gr ts f (if all=true then .exprs else .expr) i):=λall i=>by
  cases all;·exact b .expr i trivial
  exact b .exprs i trivial
 have h1 : ∀a i,a.tx->TB (gr ts f a i):=b;intro a i ha;cases a;case mg l acc=>
  simp only[gr];refine Nr ?_ (Ye ⟨cx _,λh=>absurd h de,ha⟩);cases g:acc.getLast? with
  | none=>exact trivial
  | some n=>exact Nr (Rv (b .value (i+1) trivial) λv j hv=>b _ _ (Ru.2 ⟨ha,hv,trivial⟩)) trivial
 case cmpL n acc=>
  obtain⟨hn,d⟩:=ha;simp only[gr];refine afG (Ye ?_) λop j=>Rv (b .arith j trivial) λm k c=>b _ _ ⟨hn,Ru.2 ⟨d,⟨cx _,λh=>absurd h de,c,trivial⟩,trivial⟩⟩;split;·exact hn
  exact⟨cx _,λh=>absurd h de,hn,d⟩
 all_goals simp only[NT.tx] at ha
 all_goals simp only[gr]
 all_goals (repeat' first
  | exact aqJ
  | (with_reducible refine Nr ?_ ?_)
  | (with_reducible refine afG ?_ λop j=> ?_)
  | (with_reducible refine aqH ?_)
  | (with_reducible refine aqI e λx hx=> ?_)
  | (with_reducible refine Rv (c _ _) λn j hn=> ?_)
  | (with_reducible refine Rv (h1 _ _ ?_) λn j hn=> ?_)
  | (with_reducible refine afF (h1 _ _ ?_) λl j hl=> ?_)
  | (with_reducible refine Ye ?_)
  | (with_reducible refine aqK ?_)
  | (with_reducible refine h1 _ _ ?_)
  | (with_reducible assumption)
  | exact True.intro
  | exact cx _
  | decide
  | exact e _
  | exact aqG _
  | (obtain⟨d,o⟩:=ha)
  | (simp only[NT.tx,tO,Gt,Ru,and_true,true_and,ne_eq,cX,cx,cw,implies_true,Nat.reduceEqDiff,Nat.reduceAdd,reduceCtorEq,not_false_eq_true,false_implies])
  | (refine⟨?_,?_⟩)
  | (intro q;omega))
theorem Yf{q:Nat} : ∀ {f:Nat} {l s:List UInt8} {n:Nat},kJ q f l=some (s,n)->s.length<=n
 | 0,_,_,_,h=>by cases h
 | f+1,l,s,n,h=>by
   simp only[kJ] at h;split at h;·cases h;simp
   split at h;·cases h
   split at h;·rw[nB] at h;obtain⟨⟨y,m⟩,h1,h2⟩:=h;cases h2;have:=Yf h1;simp only[cw];omega
   split at h;·rw[nB] at h;obtain⟨⟨y,m⟩,h1,h2⟩:=h;cases h2;have:=Yf h1;simp only[cw];omega
   cases h
theorem aqN{l:List UInt8}{k n:Nat}{x:List UInt8}(h:kg l=some (k,x,n)):x.length<=l.length:=by
 have hn:=(U0 h).2;unfold kg at h;split at h;·cases h;rw[ny];omega
 split at h
 ·split at h;·cases h
  cases h;rw[ny];omega
 split at h;·rw[nB] at h;obtain⟨⟨y,m⟩,h1,h2⟩:=h;cases h2;have:=Yf h1;simp only at hn⊢;omega
 rw[nB] at h;obtain⟨m,h1,h2⟩:=h;cases h2;rw[ny];omega
theorem afH{line:Nat} : ∀ {f:Nat} {t:List UInt8} {d d':Nat} {x:List Tok},qe line f t d=some (x,d')->∀y∈x,y.text.length<=t.length
 | 0,_,_,_,_,h=>by cases h
 | f+1,t,d,d',x,h=>by
   simp only[qe] at h;split at h;·cases h;intro y a;cases a
   cases ht:kg (t.drop (eB t)) with
   | none=>rw[ht] at h;cases h
   | some z=>
     obtain⟨k,y,n⟩:=z;rw[ht] at h;simp only at h;rw[nB] at h;obtain⟨⟨w,e⟩,h1,h2⟩:=h;cases h2;have h3:=aqN ht;have h4:=afH h1;intro v hv;rcases List.mem_cons.1 hv with rfl | hv
     ·simp only[ky] at h3⊢;omega
     have:=h4 v hv;simp only[ky] at this;omega
theorem aqO{line d d':Nat}{t:List UInt8}{st aX:List Nat}{x:List Tok}(h:jW line t d st= .ok (x,d',aX)) : ∀y∈x,y.text.length<=t.length:=by
 unfold jW at h;split at h;·cases h;intro y hy;cases hy
 split at h;·cases h
 split at h;·cases h
 rename_i ts d1 ht;cases h;intro y hy;simp only[ia] at hy;rcases hy with (hy | hy) | hy
 ·split at hy
  ·unfold jP at hy;split at hy;·simp at hy;rw[hy];simp
   rw[YE hy];simp
  cases hy
 ·exact afH ht y hy
 split at hy;·simp at hy;rw[hy];simp
 cases hy
theorem afI{B:Nat} : ∀ {ts:List (List UInt8)} {line d:Nat} {st aX:List Nat} {x:List Tok},mB line ts d st= .ok (x,aX)->(∀t∈ts,t.length<=B)->∀y∈x,y.text.length<=B
 | [],line,d,st,aX,x,h,_=>by cases h;intro y hy;cases hy
 | t::ts,line,d,st,aX,x,h,c=>by
   rw[Fh] at h;cases a:jW line t d st with
   | error e=>rw[a] at h;cases h
   | ok q=>
     obtain⟨i,d1,g⟩:=q;rw[a] at h;simp only at h;cases b:mB (line+1) ts d1 g with
     | error e=>rw[b] at h;cases h
     | ok w=>
       rw[b] at h;cases h;intro y hy;rcases List.mem_append.1 hy with hy | hy
       ·exact bW (aqO a y hy) (c t Sm)
       exact afI b (λu hu=>c u (by simp[hu])) y hy
theorem afJ{t:List UInt8} : ∀ {ts:List (List UInt8)},t∈ts->t.length+ts.length<=(ts.map rN).sum+ts.length
 | a::ts,h=>by
   rcases List.mem_cons.1 h with rfl | h
   ·simp only[dG,List.sum_cons];omega
   have:=afJ h;simp only[dG,List.sum_cons,cw];omega
theorem aqP{src:List UInt8}{ts:List Tok}(h:kL src= .ok ts) : ∀y∈ts,y.text.length<=20000:=by
 unfold kL at h;split at h;·cases h
 cases a:mB 1 (kK src) 0 [0] with
 | error e=>rw[a] at h;cases h
 | ok w=>
   obtain⟨x,st⟩:=w;rw[a] at h;cases h;have h2:=U9 (src:=src);intro y hy;rcases List.mem_append.1 hy with hy | hy
   ·refine afI a (λt ht=> ?_) y hy;have h3:=afJ ht;have h4:0<(kK src).length:=List.length_pos_of_mem ht;omega
   unfold C1 at hy;rcases List.mem_append.1 hy with hy | hy
   ·rw[YE hy];simp
   simp at hy;rw[hy];simp
theorem aqQ{ts:List PT}(h : ∀t∈ts,t.text.length<=20000)(i:Nat):(ay ts i).text.length<=20000:=by
 unfold ay;split;·rename_i t ht;exact h t (fi ht)
 split;·exact cx _
 exact cx _
mutual
theorem aqR : ∀n:Nd,Gt n->zt n
 | .mk k l x o ks,h=>⟨bW h.1 Om,Yg ks h.2.2⟩
theorem Yg : ∀ks:List Nd,tO ks->BG ks
 | [],_=>trivial
 | n::ks,h=>⟨aqR n h.1,Yg ks h.2⟩
end
def Yh (t:Nd):Prop:=kQ 100000 t/\eV t<=1000/\cf t<=1125899906842624/\zt t
theorem afK(src:List UInt8):Yh (iO src).1:=by
 have hz:Yh vA:=⟨⟨cx _,trivial⟩,de,de,⟨cx _,trivial⟩⟩;unfold iO;cases d:kL src with
 | error y=>exact hz
 | ok ts=>
   have b:=U' d;have i:=aqP d;show Yh (n7 (ts.map qn)).1;generalize g:ts.map qn=a;have m:a.length<=100000:=by rw[<-g,fh];exact b
   have c : ∀t∈a,t.text.length<=20000:=by
    rw[<-g];intro t ht;obtain⟨y,k,rfl⟩:=List.mem_map.1 ht;exact i y k
   have h1:=aqM (aqQ c) (a.length*64+100) (.top []) 0 trivial;have h2:=Ql (ts:=a) (a.length*64+100) (.top []) 0 (by first | trivial | simp[NT.jN]) (cx _) (by simp only[NT.lU];omega);have h3:=BB (ts:=a) (a.length*64+100) (.top []) 0 (by first | trivial | simp[NT.jN]) (cx _) (by simp only[NT.lU];omega);have h4:=aox (ts:=a) (a.length*64+100) (.top []) 0 ⟨trivial,Sm⟩;unfold n7;generalize gr a (a.length*64+100) (.top []) 0=r at h1 h2 h3 h4;match r,h1,h2,h3,h4 with
   | none,_,_,_,_=>exact hz
   | some (.error e),_,_,_,_=>exact hz
   | some (.ok (l,j)),h1,h2,h3,h4=>
     simp only;split;·exact hz
     have h5:a8 l+64*0+0<=0+64*j+0:=h2;have n:j<=a.length:=h3.2.1;refine⟨⟨?_,Wq h4.2.1 Om⟩,?_,?_,⟨cx _,Yg _ h1⟩⟩;·have:=h4.2.2;omega
     ·show eD l+1<=1000;omega
     show a8 l+1<=_;omega
theorem vN{a b:List Nd}:qo (a++b)↔qo a/\qo b:=by simp only[qo,ia];exact⟨λh=>⟨λn hn=>h n (.inl hn),λn hn=>h n (.inr hn)⟩,λh n hn=>hn.elim (h.1 n) (h.2 n)⟩
theorem vO{n:Nd}{b:List Nd}:qo (n::b)↔eK n/\qo b:=by simp only[qo,ox,forall_eq_or_imp]
theorem vP:qo []:=λn hn=>by cases hn
theorem I5{a b:List Nd}:vE (a++b)↔vE a/\vE b:=by simp only[vE,ia];exact⟨λh=>⟨λn hn=>h n (.inl hn),λn hn=>h n (.inr hn)⟩,λh n hn=>hn.elim (h.1 n) (h.2 n)⟩
theorem I6{n:Nd}{b:List Nd}:vE (n::b)↔(n.kind=58\/n.kind=59)/\vE b:=by simp only[vE,ox,forall_eq_or_imp]
theorem I7:vE []:=λn hn=>by cases hn
theorem I8{a b:List Nd}:rq (a++b)↔rq a/\rq b:=by simp only[rq,ia];exact⟨λh=>⟨λn hn=>h n (.inl hn),λn hn=>h n (.inr hn)⟩,λh n hn=>hn.elim (h.1 n) (h.2 n)⟩
theorem I9{n:Nd}{b:List Nd}:rq (n::b)↔n.kind=36/\rq b:=by simp only[rq,ox,forall_eq_or_imp]
theorem Ja:rq []:=λn hn=>by cases hn
theorem uL : ∀ {a b:List Nd},kz (a++b)=(kz a&&kz b)
 | [],b=>by simp[kz]
 | n::a,b=>by simp only[jU,kz,uL,Bool.and_assoc]
theorem vQ{k:Nat}{l:Int}{x:List UInt8}{o:Nat}{ks:List Nd}:lK (.mk k l x o ks)↔eW k x o ks/\eX ks:=dS
theorem sN{k:Nat}{l:Int}{ks:List Nd}:nd k l ks= .mk k l [] 0 ks:=rfl
theorem uM{k:Nat}{l:Int}{x:List UInt8}{o:Nat}{ks:List Nd}:eK (.mk k l x o ks)↔30<=k/\k<=57/\k≠43/\k≠48:=dS
theorem vR{k:Nat}{l:Int}{x:List UInt8}{o:Nat}{ks:List Nd}:(Nd.mk k l x o ks).kind=k:=rfl
def wS(ts:List PT):Prop:=∀(i:Nat) (k:Nat),(ay ts i).kind=k->4<=k->k<=7->rm k (ay ts i).text
theorem wT{n:Nd}:xE [n]↔lK n/\eK n:=⟨λ⟨m,e,h⟩=>by cases e;exact h,λh=>⟨n,rfl,h⟩⟩
theorem Yi{n:Nd}:xP [n]↔lK n/\eK n/\gz n=true:=⟨λ⟨m,e,h⟩=>by cases e;exact h,λh=>⟨n,rfl,h⟩⟩
theorem Rw{n:Nd}:xV [n]↔lK n/\vK n:=⟨λ⟨m,e,h⟩=>by cases e;exact h,λh=>⟨n,rfl,h⟩⟩
theorem D1{n:Nd}:xS [n]↔lK n/\sK n:=⟨λ⟨m,e,h⟩=>by cases e;exact h,λh=>⟨n,rfl,h⟩⟩
theorem B3{k:Nat}{n:Nd}:xK k [n]↔lK n/\n.kind=k:=⟨λ⟨m,e,h⟩=>by cases e;exact h,λh=>⟨n,rfl,h⟩⟩
theorem sO{k:Nat}{l:Int}{x:List UInt8}{o:Nat}{ks:List Nd}:sK (.mk k l x o ks)↔2<=k/\k<=20:=dS
theorem Rx{P Q:List Nd->Prop}{r:PR}(h:TW P r)(a : ∀l,P l->Q l):TW Q r:=by
 match r,h with
 | none,_=>exact trivial
 | some (.error e),_=>exact trivial
 | some (.ok (l,j)),h=>exact a l h
theorem Ry{ts:List PT}(a:wS ts){i:Nat}{P:List Nd->Prop}{k:List UInt8->Nat->PR}(h : ∀x,rm 4 x->TW P (k x (i+1))):TW P (mS ts 4 i k):=QE λhk=>h _ (a i 4 hk Om Om)
theorem aqS(ts:List PT)(i:Nat):j7 ts i<=7:=by
 unfold j7
 (repeat' split)<;>omega
section
variable {ts:List PT} {f:Nat}
theorem aqT(e:wS ts)(c:zz ts f)(i:Nat)(h:NT.lL ts i .plain):TW (NT.out ts i .plain) (gr ts (f+1) .plain i):=by
 have h1 : ∀a i,a.lL ts i->TW (a.out ts i) (gr ts f a i):=c;simp only[gr];refine uB (h1 .exprs i trivial) λn j hn=> ?_;have hn:=wT.1 hn;refine qt (λhc=>Rx (h1 (.mg n.line [n]) j ⟨⟨hn.1,trivial⟩,⟨[],n,rfl, .inl hn.2,λm b=>by cases b⟩, .inr hc⟩) λl hl=>hl) λhc=>qt (λd=>vF ?_) λd=>qt (λhs=>uB (h1 .exprs _ trivial) λm k b=>vF ?_) λ_=>FL
 ·clear h1 c;refine D1.2 ?_;simp_all [sN,vQ,eX,qp,eW,uM,sO,vR,vK,vN,vO,vP,kz,uL,gz,and_assoc,yc,ia,lR,or_imp,forall_and,forall_eq]
 clear h1 c;have b:=wT.1 b;refine D1.2 ?_;have ha:=aqS ts j;have hb:1<=j7 ts j:=by omega
 clear d;simp_all [sN,vQ,eX,qp,eW,uM,sO,vR,vK,vN,vO,vP,kz,uL,gz,and_assoc,yc,ia,lR,or_imp,forall_and,forall_eq]
theorem aqU(c:wS ts)(b:zz ts f)(acc:List Nd)(i:Nat)(h:NT.lL ts i (.clauses acc)):TW (NT.out ts i (.clauses acc)) (gr ts (f+1) (.clauses acc) i):=by
 have h1 : ∀a i,a.lL ts i->TW (a.out ts i) (gr ts f a i):=b;rcases acc with _ | ⟨d,acc⟩
 all_goals simp only[gr]
 all_goals repeat' (first
  | exact FL
  | with_reducible refine qt (λhc=> ?_) (λhc=> ?_)
  | with_reducible refine FK ?_
  | with_reducible refine Ry c λx hx=> ?_
  | with_reducible refine QE λhk=> ?_
  | with_reducible refine uB (h1 _ _ ?_) λn j hn=> ?_
  | with_reducible refine QF (h1 _ _ ?_) λl j hl=> ?_
  | with_reducible refine vF ?_
  | with_reducible refine Mu ?_
  | with_reducible refine Rx (h1 _ _ ?_) λl hl=> ?_)
 all_goals clear h1 b
 all_goals simp only[NT.out,NT.lL,wT,Yi,Rw,D1,B3] at *
 all_goals first | assumption | trivial | (simp_all [sN,vQ,eX,qp,eW,uM,sO,vR,vK,vN,vO,vP,I5,I6,I7,I8,I9,Ja,kz,uL,gz,and_assoc,QD,ia,lR,or_imp,forall_and,forall_eq,FJ,Nd.kind];done) | (simp_all [sN,vQ,eX,qp,eW,uM,sO,vR,vK,vN,vO,vP,I5,I6,I7,I8,I9,Ja,kz,uL,gz,FJ,Nd.kind];done) | (obtain⟨n,rfl,g1,g2⟩:=hl;refine⟨n,rfl,g1,?_⟩;first | (show 2<=n.kind/\n.kind<=20;omega) | exact .inl g2 | exact .inr g2) | exact⟨_,[],rfl,⟨hn.1,trivial⟩,hn.2,λn hn=>(by cases hn),λn hn=>(by cases hn)⟩ | skip
theorem aqV(c:wS ts)(b:zz ts f)(k:Nat)(l:Int)(acc:List Nd)(i:Nat)(h:NT.lL ts i (.names k l acc)):TW (NT.out ts i (.names k l acc)) (gr ts (f+1) (.names k l acc) i):=by
 rcases(show k=17\/k=18 from h.1) with rfl | rfl
 all_goals
  have h1 : ∀a i,a.lL ts i->TW (a.out ts i) (gr ts f a i):=b;simp only[gr];repeat' (first
   | exact FL
   | with_reducible refine qt (λhc=> ?_) (λhc=> ?_)
   | with_reducible refine FK ?_
   | with_reducible refine Ry c λx hx=> ?_
   | with_reducible refine QE λhk=> ?_
   | with_reducible refine uB (h1 _ _ ?_) λn j hn=> ?_
   | with_reducible refine QF (h1 _ _ ?_) λl j hl=> ?_
   | with_reducible refine vF ?_
   | with_reducible refine Mu ?_
   | with_reducible refine Rx (h1 _ _ ?_) λl hl=> ?_)
  all_goals clear h1 b
  all_goals simp only[NT.out,NT.lL,wT,Yi,Rw,D1,B3] at *
  all_goals first | assumption | trivial | (simp_all [sN,vQ,eX,qp,eW,uM,sO,vR,vK,vN,vO,vP,I5,I6,I7,I8,I9,Ja,kz,uL,gz,and_assoc,QD,ia,lR,or_imp,forall_and,forall_eq];done) | (simp_all [sN,vQ,eX,qp,eW,uM,sO,vR,vK,vN,vO,vP,I5,I6,I7,I8,I9,Ja,kz,uL,gz];done) | (obtain⟨n,rfl,g1,g2⟩:=hl;refine⟨n,rfl,g1,?_⟩;first | (show 2<=n.kind/\n.kind<=20;omega) | exact .inl g2 | exact .inr g2) | exact⟨_,[],rfl,⟨hn.1,trivial⟩,hn.2,λn hn=>(by cases hn),λn hn=>(by cases hn)⟩ | skip
theorem aqW(e:wS ts)(c:zz ts f)(k:Nat)(l:Int)(b:Bool)(i:Nat)(h:NT.lL ts i (.maybe k l b)):TW (NT.out ts i (.maybe k l b)) (gr ts (f+1) (.maybe k l b) i):=by
 have h1 : ∀a i,a.lL ts i->TW (a.out ts i) (gr ts f a i):=c;have d:TW xE (gr ts f (if b=true then .exprs else .expr) i):=by
  cases b;·exact h1 .expr i trivial
  exact h1 .exprs i trivial
 simp only[gr];rcases(show k=60\/k=10\/k=14 from h) with rfl | rfl | rfl
 all_goals
  refine qt (λhc=>uB d λn j hn=>vF (B3.2 ?_)) λhc=>vF (B3.2 ?_)
  ·have hn:=wT.1 hn;clear h1 c d;simp_all [sN,vQ,eX,qp,eW,uM,sO,vR,vK,vN,vO,vP,kz,uL,gz,and_assoc,yc,ia,lR,or_imp,forall_and,forall_eq]
  clear h1 c d;simp_all [sN,vQ,eX,qp,eW,uM,sO,vR,vK,vN,vO,vP,kz,uL,gz,and_assoc,yc,ia,lR,or_imp,forall_and,forall_eq]
theorem aqX(d:wS ts)(b:zz ts f)(n:Nd)(acc:List Nd)(i:Nat)(h:NT.lL ts i (.cmpL n acc)):TW (NT.out ts i (.cmpL n acc)) (gr ts (f+1) (.cmpL n acc) i):=by
 have h1 : ∀a i,a.lL ts i->TW (a.out ts i) (gr ts f a i):=b;obtain⟨g1,g2,g3,g4⟩:=h;simp only[gr];refine aoO (vF (wT.2 ?_)) λop j ho=>uB (h1 .arith j trivial) λm k c=>h1 (.cmpL n _) k ⟨g1,g2,?_,?_⟩
 ·clear h1 b;cases acc with
  | nil=>exact⟨g1,g2⟩
  | cons a acc=>
    show lK (nd 42 n.line (n::a::acc))/\eK _;simp_all [sN,vQ,eX,qp,eW,uM,sO,vR,vK,vN,vO,vP,kz,uL,gz,and_assoc,yc,ia,lR,or_imp,forall_and,forall_eq]
 ·have c:=wT.1 c;clear h1 b;simp_all [sN,vQ,eX,qp,eW,uM,sO,vR,vK,vN,vO,vP,kz,uL,gz,and_assoc,yc,ia,lR,or_imp,forall_and,forall_eq]
 intro y hy;rcases List.mem_append.1 hy with hy | hy
 ·exact g4 y hy
 rw[List.mem_singleton.1 hy];rfl
theorem aqY(c:wS ts)(b:zz ts f)(l:Int)(acc:List Nd)(i:Nat)(h:NT.lL ts i (.mg l acc)):TW (NT.out ts i (.mg l acc)) (gr ts (f+1) (.mg l acc) i):=by
 have h1 : ∀a i,a.lL ts i->TW (a.out ts i) (gr ts f a i):=b;obtain⟨g1,⟨p,v,rfl,g2,g3⟩,g4⟩:=h;simp only[gr,List.getLast?_append,List.getLast?_singleton,Option.some_or];refine qt (λhc=>qt (λhp=>uB (h1 .value (i+1) trivial) λw k hw=>h1 (.mg l _) k ?_) λ_=>FL) λhc=>vF (D1.2 ?_)
 ·have hw:=Rw.1 hw;refine⟨qp.2 ⟨g1,hw.1,trivial⟩,⟨p++ [v],w,rfl,hw.2,λy hy=> ?_⟩, .inl Sm⟩;rcases List.mem_append.1 hy with hy | hy
  ·exact g3 y hy
  rw[List.mem_singleton.1 hy];refine⟨?_,hp⟩;rcases g2 with g2 | g2
  ·exact g2
  exfalso;obtain⟨k,ln,x,o,ks⟩:=v;have g2:k=60:=g2;subst g2;exact absurd hp (by simp[gz])
 have hp:p≠ []:=λe=>by
  subst e;rcases g4 with g4 | g4
  ·simp at g4
  exact hc g4
 refine⟨⟨?_,g1⟩,by simp[sO,sN]⟩;have:eW 3 [] 0 (p++ [v]):=by
  simp only[eW,Nat.reduceEqDiff,false_and,false_or,or_false,true_and,or_self];exact⟨p,v,rfl,hp,g2,g3⟩
 exact this
theorem aqZ(c:wS ts)(b:zz ts f)(i:Nat)(h:NT.lL ts i .atom):TW (NT.out ts i .atom) (gr ts (f+1) .atom i):=by
 have h1 : ∀a i,a.lL ts i->TW (a.out ts i) (gr ts f a i):=b;simp only[gr];refine qt (λhc=>vF (wT.2 ?_)) λhc=> ?_
 ·obtain⟨k,hk⟩ : ∃k:Nat,(ay ts i).kind=k:=⟨(ay ts i).kind.toNat,Om⟩;have ht:=c i k hk Om Om;rw[hk];clear h1 b;obtain rfl | rfl | rfl | rfl:k=4\/k=5\/k=6\/k=7:=by omega
  all_goals
   refine⟨⟨?_,trivial⟩,by simp[uM,GY]⟩;simp_all [eW,GY]
 repeat' (first
  | exact FL
  | with_reducible refine qt (λhc=> ?_) (λhc=> ?_)
  | with_reducible refine FK ?_
  | with_reducible refine uB (h1 _ _ ?_) λn j hn=> ?_
  | with_reducible refine vF ?_)
 all_goals clear h1 b
 all_goals simp only[NT.out,NT.lL,wT] at *
 all_goals first | assumption | trivial | (simp_all [sN,vQ,eX,qp,eW,uM,sO,vR,vK,vN,vO,vP,kz,uL,gz,and_assoc,ia,lR,or_imp,forall_and,forall_eq];done)
theorem aq0(l:wS ts)(m:zz ts f)(acc:List Nd)(i:Nat)(h:NT.lL ts i (.pV acc)):TW (NT.out ts i (.pV acc)) (gr ts (f+1) (.pV acc) i):=by
 have h1 : ∀a i,a.lL ts i->TW (a.out ts i) (gr ts f a i):=m;obtain⟨b,h,rfl,g1,g2,g3,g4⟩:=h;have o : ∀n∈h.dropLast,n.kids.length=2:=λn hn=>g4 n (List.dropLast_subset _ hn);have d : ∀y,y.kind=21->yc (h++ [y]):=λy c n hn=>by
  rcases List.mem_append.1 hn with hn | hn
  ·exact g3 n hn
  rw[List.mem_singleton.1 hn];exact c
 have g : ∀y,lK y->y.kind=21->y.kids.length=2->NT.lL ts 0 (.pV ((b::h)++ [y])):=λy c hk hl=>⟨b,h++ [y],rfl,qp.2 ⟨g1,c,trivial⟩,g2,d y hk,λn hn=>by
  rcases List.mem_append.1 hn with hn | hn
  ·exact g4 n hn
  rw[List.mem_singleton.1 hn];exact hl⟩
 simp only[gr];refine qt (λhc=>qt (λhb=>uB (h1 .block _ trivial) λn j hn=>Mu ?_) λhb=>uB (h1 .expr _ trivial) λe j he=>qt (λha=>Ry l λx hx=>FK (uB (h1 .block _ trivial) λn k hn=>h1 _ _ ?_)) λha=>FK (uB (h1 .block _ trivial) λn k hn=>h1 _ _ ?_)) λhc=>Mu ⟨b,h,rfl,g1,g2,g3,o⟩
 ·have hn:=B3.1 hn;refine⟨b,h++ [nd 21 (ay ts i).line [n]],rfl,qp.2 ⟨g1,⟨?_,hn.1,trivial⟩,trivial⟩,g2,d _ rfl,?_⟩;·simp[eW,hn.2]
  rw[List.dropLast_concat];exact g4
 ·have hn:=B3.1 hn;have he:=wT.1 he;refine g _ ⟨?_,he.1,hn.1,trivial⟩ rfl rfl;simp[eW,hn.2,he.2,hx,and_assoc]
 have hn:=B3.1 hn;have he:=wT.1 he;refine g _ ⟨?_,he.1,hn.1,trivial⟩ rfl rfl;simp[eW,hn.2,he.2,and_assoc]
theorem aq1(d:wS ts)(c:zz ts f)(l:Int)(acc:List Nd)(i:Nat)(h:NT.lL ts i (.sU l acc)):TW (NT.out ts i (.sU l acc)) (gr ts (f+1) (.sU l acc) i):=by
 have h1 : ∀a i,a.lL ts i->TW (a.out ts i) (gr ts f a i):=c;obtain⟨b,h,rfl,g1,g2,g3,g4⟩:=h;simp only[gr];refine qt (λhc=>FK (uB (h1 .block _ trivial) λn j hn=>vF (D1.2 ⟨⟨?_,?_⟩,by simp[sO,sN]⟩))) λhc=>qt (λ_=>FL) λhl=>vF (D1.2 ⟨⟨?_,g1⟩,by simp[sO,sN]⟩)
 ·have e:eW 15 [] 0 ((b::h)++ [nd 22 (ay ts i).line [n]]):=by
   simp only[eW,Nat.reduceEqDiff,false_and,false_or,or_false,true_and,or_self];exact⟨b,h++ [nd 22 (ay ts i).line [n]],rfl,g2,Sm,h,_,rfl,g3,g4, .inr ⟨_,rfl,rfl⟩⟩
  exact e
 ·have hn:=B3.1 hn;refine qp.2 ⟨g1,⟨?_,hn.1,trivial⟩,trivial⟩;simp[eW,hn.2]
 have e:eW 15 [] 0 (b::h):=by
  simp only[eW,Nat.reduceEqDiff,false_and,false_or,or_false,true_and,or_self];refine⟨b,h,rfl,g2,λe=>hl (by rw[e];rfl),h,[],Sm,g3,g4, .inl rfl⟩
 exact e
end
theorem aq2{ts:List PT}(d:wS ts) : ∀f,zz ts f:=by
 intro f;induction f with
 | zero=>intro a i h;exact trivial
 | succ f c=>
   intro a i h;cases a;case plain=>exact aqT d c i h
   case clauses acc=>exact aqU d c acc i h
   case names k l acc=>exact aqV d c k l acc i h
   case maybe k l b=>exact aqW d c k l b i h
   case cmpL n acc=>exact aqX d c n acc i h
   case mg l acc=>exact aqY d c l acc i h
   case atom=>exact aqZ d c i h
   case pV acc=>exact aq0 d c acc i h
   case sU l acc=>exact aq1 d c l acc i h
   all_goals
    have h1 : ∀a i,a.lL ts i->TW (a.out ts i) (gr ts f a i):=c;simp only[gr];repeat' (first
     | exact FL
     | with_reducible refine qt (λhc=> ?_) (λhc=> ?_)
     | with_reducible refine FK ?_
     | with_reducible refine Ry d λx hx=> ?_
     | with_reducible refine QE λhk=> ?_
     | with_reducible refine uB (h1 _ _ ?_) λn j hn=> ?_
     | with_reducible refine QF (h1 _ _ ?_) λl j hl=> ?_
     | with_reducible refine vF ?_
     | with_reducible refine Mu ?_
     | with_reducible refine Rx (h1 _ _ ?_) λl hl=> ?_)
    all_goals clear h1 c
    all_goals simp only[NT.out,NT.lL,wT,Yi,Rw,D1,B3] at *
    all_goals first | assumption | trivial | (simp_all [sN,vQ,eX,qp,eW,uM,sO,vR,vK,vN,vO,vP,I5,I6,I7,I8,I9,Ja,kz,uL,gz,and_assoc,QD,ia,lR,or_imp,forall_and,forall_eq];done) | (simp_all [sN,vQ,eX,qp,eW,uM,sO,vR,vK,vN,vO,vP,I5,I6,I7,I8,I9,Ja,kz,uL,gz];done) | (obtain⟨n,rfl,g1,g2⟩:=hl;refine⟨n,rfl,g1,?_⟩;first | (show 2<=n.kind/\n.kind<=20;omega) | exact .inl g2 | exact .inr g2) | exact⟨_,[],rfl,⟨hn.1,trivial⟩,hn.2,λn hn=>(by cases hn),λn hn=>(by cases hn)⟩ | skip
theorem afL{line:Nat} : ∀ {f:Nat} {t:List UInt8} {d d':Nat} {x:List Tok},qe line f t d=some (x,d')->∀y∈x,rm y.kind y.text
 | 0,_,_,_,_,h=>by cases h
 | f+1,t,d,d',x,h=>by
   simp only[qe] at h;split at h;·cases h;intro y a;cases a
   cases ht:kg (t.drop (eB t)) with
   | none=>rw[ht] at h;cases h
   | some z=>
     obtain⟨k,y,n⟩:=z;rw[ht] at h;simp only at h;rw[nB] at h;obtain⟨⟨w,e⟩,h1,h2⟩:=h;cases h2;have h4:=afL h1;intro v hv;rcases List.mem_cons.1 hv with rfl | hv
     ·exact⟨_,_,ht⟩
     exact h4 v hv
theorem aq3{line d d':Nat}{t:List UInt8}{st aX:List Nat}{x:List Tok}(h:jW line t d st= .ok (x,d',aX)) : ∀y∈x,4<=y.kind->rm y.kind y.text:=by
 unfold jW at h;split at h;·cases h;intro y hy;cases hy
 split at h;·cases h
 split at h;·cases h
 rename_i ts d1 ht;cases h;intro y hy h4;simp only[ia] at hy;rcases hy with (hy | hy) | hy
 ·split at hy
  ·unfold jP at hy;split at hy;·simp at hy;rw[hy] at h4;simp at h4
   rw[YE hy] at h4;simp at h4
  cases hy
 ·exact afL ht y hy
 split at hy;·simp at hy;rw[hy] at h4;simp at h4
 cases hy
theorem afM : ∀ {ts:List (List UInt8)} {line d:Nat} {st aX:List Nat} {x:List Tok},mB line ts d st= .ok (x,aX)->∀y∈x,4<=y.kind->rm y.kind y.text
 | [],line,d,st,aX,x,h=>by cases h;intro y hy;cases hy
 | t::ts,line,d,st,aX,x,h=>by
   rw[Fh] at h;cases a:jW line t d st with
   | error e=>rw[a] at h;cases h
   | ok q=>
     obtain⟨g,d1,c⟩:=q;rw[a] at h;simp only at h;cases b:mB (line+1) ts d1 c with
     | error e=>rw[b] at h;cases h
     | ok w=>
       rw[b] at h;cases h;intro y hy h4;rcases List.mem_append.1 hy with hy | hy
       ·exact aq3 a y hy h4
       exact afM b y hy h4
theorem aq4{src:List UInt8}{ts:List Tok}(h:kL src= .ok ts) : ∀y∈ts,4<=y.kind->rm y.kind y.text:=by
 unfold kL at h;split at h;·cases h
 cases a:mB 1 (kK src) 0 [0] with
 | error e=>rw[a] at h;cases h
 | ok w=>
   obtain⟨x,st⟩:=w;rw[a] at h;cases h;intro y hy h4;rcases List.mem_append.1 hy with hy | hy
   ·exact afM a y hy h4
   unfold C1 at hy;rcases List.mem_append.1 hy with hy | hy
   ·rw[YE hy] at h4;simp at h4
   simp at hy;rw[hy] at h4;simp at h4
theorem aq5{src:List UInt8}{ts:List Tok}(h:kL src= .ok ts):wS (ts.map qn):=by
 intro i k hk h4 b;cases ht:(ts.map qn)[i]? with
 | some t=>
   have e:ay (ts.map qn) i=t:=by unfold ay;rw[ht]
   rw[e] at hk⊢;obtain⟨y,a,rfl⟩:=List.mem_map.1 (fi ht);have e:(y.kind:Int)=k:=hk;have e:y.kind=k:=by omega
   have:=aq4 h y a Om;rw[e] at this;exact this
 | none=>
   exfalso;have e:(ay (ts.map qn) i).kind=0:=by
    unfold ay;rw[ht];simp only;split<;>rfl
   omega
theorem Yj{src:List UInt8}(h:(iO src).2.2=0) : ∃ln l,(iO src).1=nd 1 ln l/\eX l/\(∀n∈l,sK n)/\eD l+1<=60:=by
 unfold iO at h⊢
 cases a:kL src with
 | error y=>
   rw[a] at h;exfalso;have h:(y.2:Int)=0:=h;have:y.2=20\/y.2=21\/y.2=24:=by
    by_cases hl:src.length<=20000
    ·rcases(acE hl a).2 with e | e
     ·exact .inl e
     exact .inr (.inl e)
    unfold kL at a;rw[iP Om] at a;cases a;exact .inr (.inr rfl)
   omega
 | ok ts=>
   rw[a] at h;simp only at h⊢;have h1:=aq2 (aq5 a) ((ts.map qn).length*64+100) (.top []) 0 ⟨trivial,λn hn=>by cases hn⟩;have h3:=BB (ts:=ts.map qn) ((ts.map qn).length*64+100) (.top []) 0 trivial (cx _) (by simp only[NT.lU];omega);generalize ts.map qn=b at *;unfold n7 at h⊢;generalize gr b (b.length*64+100) (.top []) 0=r at *;match r,h1,h3 with
   | some (.error e),_,_=>exact absurd (show(22:Int)=0 from h) de
   | some (.ok (l,j)),h1,h3=>
     simp only at h⊢;split at h;·exact absurd (show(11:Int)=0 from h) de
     rename_i hh;rw[iN hh];exact⟨_,l,rfl,h1.1,h1.2,Om⟩
end
section
open Go Go.RowKit
mutual
theorem afN : ∀n:Nd,zt n->ru 1099511627776 n
 | .mk k l x o ks,h=>⟨h.1,afO ks h.2⟩
theorem afO : ∀ks:List Nd,BG ks->tD 1099511627776 ks
 | [],_=>trivial
 | n::ks,h=>⟨afN n h.1,afO ks h.2⟩
end
theorem aq6(src:List UInt8):cf (iO src).1<=10000000:=by
 unfold iO;cases c:kL src with
 | error y=>exact(show cf vA<=_ by decide)
 | ok ts=>
   have b:=U' c;show cf (n7 (ts.map qn)).1<=_;generalize d:ts.map qn=a;have g:a.length<=100000:=by rw[<-d,fh];exact b
   have h2:=Ql (ts:=a) (a.length*64+100) (.top []) 0 (by first | trivial | simp[NT.jN]) (cx _) (by simp only[NT.lU];omega);have h3:=BB (ts:=a) (a.length*64+100) (.top []) 0 (by first | trivial | simp[NT.jN]) (cx _) (by simp only[NT.lU];omega);unfold n7;generalize gr a (a.length*64+100) (.top []) 0=r at h2 h3;match r,h2,h3 with
   | none,_,_=>exact(show cf vA<=_ by decide)
   | some (.error e),_,_=>exact(show cf vA<=_ by decide)
   | some (.ok (l,j)),h2,h3=>
     simp only;split;·show cf vA<=_;decide
     have h5:a8 l+64*0+0<=0+64*j+0:=h2;have h:j<=a.length:=h3.2.1;show a8 l+1<=_;omega
theorem afP{src:List UInt8}(h:(iO src).2.2=0):WE (iO src).1/\lJ (iO src).1=aqF (iO src).1:=by
 obtain⟨ln,l,e,hw,_,_⟩:=Yj h;rw[e];refine⟨⟨⟨λe=>(by cases e),λe=>(by rcases e with e | e | e<;>cases e)⟩,λe=>(by cases e),aey.c l hw⟩,?_⟩;show(dw cI (λ_=>0) 0 (.mk 1 ln [] 0 l)).1=(c9 cI 0 (.mk 1 ln [] 0 l)).1;have:=(ao2 cI (dR l+1)).2.1 l [] 0 (iC _) hw (λp hp=>by cases hp) (.inl rfl);rw[dw,iN de,BM cI de];show Nd.mk 1 ln (if (1:Nat)=36/\0<0 then []++ [46]++cI 0 else []) 0 (jn cI (if (1:Nat)=8\/(1:Nat)=50 then wo (λ_=>0) (cC l).kids else λ_=>0) 0 l).1=_;rw[iN de,iN de,show(λ_:Bs=>0)=dm [] from rfl,this];rfl
theorem aq7{H:CH}{q:Option Addr}{c:Nat}{xs:List Int}(h:gU 1 (pG .u8) H q c xs) : ∃src,xs=mF src:=by
 refine⟨xs.map λx=>x.toNat.toUInt8,?_⟩;have hw : ∀x∈xs,(Lit.int .u8 x).wf=true:=by
  rcases h with ⟨rfl,_⟩ | ⟨l,o,os,e,kd,_,_,_,_,_,_,a⟩
  ·intro x hx;cases hx
  intro x hx;obtain⟨i,hi,rfl⟩:=Ae hx;exact(a i hi).2
 clear h;induction xs with
 | nil=>rfl
 | cons x xs b=>
   simp only[mF,dG];rw[alg (hw x Sm)];congr 1
   exact b λy d=>hw y (by simp[d])
theorem aq8{k:Nat}{x:Bs}{o:Nat}{ks:List Nd}(h:eW k x o ks)(hk:k=9\/k=8\/k=50):ks.length=2:=by
 rcases hk with rfl | rfl | rfl
 all_goals
  unfold eW at h;simp at h
 ·obtain⟨_,_,a,b,rfl,_⟩:=h;rfl
 ·obtain⟨_,_,a,b,rfl,_⟩:=h;rfl
 obtain⟨_,_,a,b,rfl,_⟩:=h;rfl
theorem aq9{x:Bs}{o:Nat}{ks:List Nd}(h:eW 3 x o ks):2<=ks.length:=by
 unfold eW at h;simp at h;obtain⟨_,_,l,v,rfl,hl,_⟩:=h;rw[cO];have:l.length≠0:=λe=>hl (List.length_eq_zero_iff.1 e);show 2<=l.length+1;omega
theorem afQ : ∀n:Nd,lK n->mL n
 | .mk k l x o ks,h=>⟨⟨λe=>aq8 h.1 e,λe=>by subst e;exact aq9 h.1⟩,a ks h.2⟩
where a : ∀ks:List Nd,eX ks->kS ks
 | [],_=>trivial
 | n::ks,h=>⟨afQ n h.1,a ks h.2⟩
theorem Rz{src:List UInt8}(h:(iO src).2.2=0):Ni (tN (lJ (iO src).1)) 100000 (lJ (iO src).1):=by
 obtain⟨c,b⟩:=afP h;have hs:=afK src;have g:=aq6 src;have d:mL (iO src).1:=by
  obtain⟨ln,l,e,hw,_,_⟩:=Yj h;rw[e];exact⟨⟨λe=>(by rcases e with e | e | e<;>cases e),λe=>(by cases e)⟩,afQ.a l hw⟩
 have a:nk (lJ (iO src).1)=nk (iO src).1:=by rw[b];exact WN cI 0 _
 refine ckH ?_ ?_ ?_ ?_ ?_;·rw[<-WH,a,WH];exact hs.2.1
 ·rw[<-WT,a,WT];exact d
 ·rw[<-WI,a,WI];omega
 ·rw[<-WJ,a,WJ];exact hs.1
 rw[b];have h1:=aex cI (M:=1099511627776) (C:=10000000) (T:=10000002) (λi hi=>by have:=aef i;omega) (iO src).1 0 Om (afN _ hs.2.2.2);refine QM ?_ _ h1;have h2:eV (iO src).1<=1000:=hs.2.1;have h3:=Nat.mul_le_mul_right 10000002 h2;omega
def SCk:Spec:=λf args H v H'=>(f=17->aR TL f args H λu K=>u=v/\K=H')/\(f=13->aR gE f args H λu K=>u=v/\K=H')
def LCk:List FuncId:= [17,13]
noncomputable abbrev B4:bZ:=wF Tryz.prog LG GG LCk SCk
theorem agx{B:Nat}:uf Tryz.prog B B4:=Us O9
theorem aq'{args:List ae}{H:CH}{Q:ae->CH->Prop}(h:aR TL 17 args H Q):aR B4 17 args H Q:=by
 obtain⟨n,v,H',h1,h2⟩:=h;have hx:aR TL 17 args H λu K=>u=v/\K=H':=⟨n,v,H',h1,rfl,rfl⟩;have hc:qJ Tryz.prog 17=true:=by kernel_rfl
 refine H7 Rl ⟨v,H',⟨λ_=>hx,λe=>by cases e⟩,λB=>⟨hc,fun β w b a ha=>callsIn_wide.2 (J9 an1 h1 a ha hc)⟩⟩ λv2 c a=> ?_;exact(ve (a.1 rfl)).1 ⟨n,v,H',h1,h2⟩
theorem ara{args:List ae}{H:CH}{Q:ae->CH->Prop}(h:aR gE 13 args H Q):aR B4 13 args H Q:=by
 obtain⟨n,v,H',h1,h2⟩:=h;have hx:aR gE 13 args H λu K=>u=v/\K=H':=⟨n,v,H',h1,rfl,rfl⟩;have hc:qJ Tryz.prog 13=true:=by kernel_rfl
 refine H7 Rl ⟨v,H',⟨λe=>(by cases e),λ_=>hx⟩,λB=>⟨hc,fun β w b a ha=>callsIn_wide.2 (J9 aoc h1 a ha hc)⟩⟩ λv2 c a=> ?_;exact(ve (a.2 rfl)).1 ⟨n,v,H',h1,h2⟩
theorem arb{H:CH}{Q:ae->CH->Prop}:aR B4 7 [] H Q↔Q (.bool true) H:=ajR Rl Rl Rl
def RA (K:CH)(v:ae)(xs:List Bs):Prop:=∃a n,v= .slice a xs.length n/\(xs≠ []->∃r L kd,a=some ⟨r,0,none⟩/\K.ob r= .cells L 9 kd/\∀i (h:i<xs.length),L[i]? = some (.string (tx xs[i]))/\i<L.length)
theorem jg.rd{K:CH}{ow:Ow}{b:Nat×Nat}{v:ae}{xs:List Bs}(h:jg K ow b v xs):RA K v xs:=by
 obtain⟨a,rfl⟩:=tM h;refine⟨a,_,rfl,λaA=> ?_⟩;rcases h with ⟨h,_⟩ | ⟨r,kd,h1,h2,h3,h4,h5⟩
 ·exact absurd h aA
 cases h1;exact⟨r,_,kd,rfl,h4,λi hi=>M7 (bM hi)⟩
def NmJ (K:CH)(s:Bs)(xs:List Bs)(n:Nat)(v:ae)(a:CH):Prop:=∃i:Nat,n=xs.length-i/\i<=xs.length/\v= .int .i64 (i:Nat)/\a=K/\∀j (h:j<xs.length),j<i->xs[j]≠s
theorem RB{K:CH}{v:ae}{xs:List Bs}(h:RA K v xs)(hl:xs.length<=4398046511104)(s:Bs):aR B4 20 [v, .string (tx s)] K λr K'=>K'=K/\r= .bool (decide (s∈xs)):=by
 obtain⟨a,z,rfl,w⟩:=h;refine du Rl Kr (aV ?_);refine aC ?_;refine fC (λn fr m=>NmJ K s xs n (fr 5) m) (n:=xs.length) ⟨0,rfl,cx _,by(refine aC ?_;all_goals rfl),rfl,λj _ h=>absurd h (fM _)⟩ ?_;rintro n fr m ⟨i,rfl,hi,f5,rfl,hn⟩ g;by_cases c:i<xs.length
 ·obtain⟨r,L,kd,rfl,o,x⟩:=w λe=>by rw[e] at c;exact absurd c (fM _)
  obtain⟨t,u⟩:=x i c;have d:=zb (a:=xs[i]) (b:=s);by_cases he:xs[i]=s
  ·rw[decide_eq_true he] at d;refine rn (rR @g @f5 @o @t @u @d) ?_;rw[decide_eq_true (show s∈xs from he▸yy c)]
  rw[decide_eq_false he] at d;refine rn (rR @g @f5 @o @t @u @d) ?_;exact⟨xs.length-(i+1),Om,i+1,rfl,c,rfl,rfl,λj l A=>by
   by_cases e:j=i
   ·subst e;exact he
   exact hn j l Om⟩
 refine rn (an @g @f5) ?_;rw[decide_eq_false (show ¬s∈xs fromλy=>by
  obtain⟨j,l,e⟩:=Ae y;exact hn j l Om e)]
def fix (s:Bs):List Bs->Nat->Int
 | [],_=> -1
 | x::r,i=>if x=s then (i:Nat) else fix s r (i+1)
def arc (K:CH)(s:Bs)(xs:List Bs)(n:Nat)(v:ae)(a:CH):Prop:=∃i:Nat,n=xs.length-i/\i<=xs.length/\v= .int .i64 (i:Nat)/\a=K/\fix s xs 0=fix s (xs.drop i) i
theorem RC{K:CH}{v:ae}{xs:List Bs}(h:RA K v xs)(hl:xs.length<=4398046511104)(s:Bs):aR B4 39 [v, .string (tx s)] K λr K'=>K'=K/\r= .int .i64 (fix s xs 0):=by
 obtain⟨a,y,rfl,u⟩:=h;refine du Rl Kr (aV ?_);refine aC ?_;refine fC (λn fr l=>arc K s xs n (fr 8) l) (n:=xs.length) ⟨0,rfl,cx _,by(refine aC ?_;all_goals rfl),rfl,rfl⟩ ?_;rintro n fr l ⟨i,rfl,hi,f8,rfl,hn⟩ j;by_cases c:i<xs.length
 ·obtain⟨r,L,kd,rfl,m,w⟩:=u λe=>by rw[e] at c;exact absurd c (fM _)
  obtain⟨o,t⟩:=w i c;have d:=zb (a:=s) (b:=xs[i]);have g:=zb (a:=xs[i]) (b:=s);have x:xs.drop i=xs[i]::xs.drop (i+1):=List.drop_eq_getElem_cons c;rw[x,fix] at hn;by_cases he:xs[i]=s
  ·rw[decide_eq_true he] at g;rw[decide_eq_true he.symm] at d;rw[iP he] at hn;exact rz (oA @j @f8 @m @o @t @d @g @hn)
  rw[decide_eq_false he] at g;rw[decide_eq_false (Ne.symm he)] at d;rw[iN he] at hn;refine rn (rT @j @f8 @m @o @t @d @g) ?_;exact⟨xs.length-(i+1),Om,i+1,rfl,c,rfl,rfl,hn⟩
 have c:i=xs.length:=by omega
 subst c;rw[List.drop_length] at hn;have hn:fix s xs 0= -1:=hn;exact rz (gK @j @f8 @hn)
theorem afR{s:Bs} : ∀(xs:List Bs) (i:Nat),-1<=fix s xs i/\fix s xs i<=(i:Int)+xs.length
 | [],i=>⟨by show(-1:Int)<= -1;omega,by show(-1:Int)<=_;omega⟩
 | x::r,i=>by
   rw[fix];split;·exact⟨Om,Om⟩
   have:=afR (s:=s) r (i+1);rw[cw];omega
theorem Yk : ∀ {LL:List F7} {i:Nat} {L:F7},LL[i]? = some L->List.take 7 (List.drop (i*7) (LL.flatMap uK))=uK L/\i*7+7<=(LL.flatMap uK).length
 | [],i,L,h=>by simp at h
 | a::LL,0,L,h=>by
   have h:a=L:=by simpa using h
   subst h;rw[vU,Nat.zero_mul,List.drop_zero,cO];exact⟨rfl,by show 7<=7+_;omega⟩
 | a::LL,i+1,L,h=>by
   have h:LL[i]? = some L:=by simpa using h
   obtain⟨h1,h2⟩:=Yk h;rw[vU,Nat.succ_mul,Nat.add_comm,cO];have e:(uK a).length=7:=rfl;refine⟨?_,Om⟩;rw[<-e,<-List.drop_drop,List.drop_left,e];exact h1
def findF(st:List ah)(f:Int)(s:Bs):Int×Int:=if f<0 then (0,0) else match st[f.toNat]? with
 | none=>(0,0)
 | some F=>if 0<=fix s F.cs 0 then (2,fix s F.cs 0) else if 0<=fix s F.ps 0 then (1,fix s F.ps 0) else if 0<=fix s F.ls 0 then (1,F.ps.length+fix s F.ls 0) else if 0<=fix s F.fs 0 then (3,fix s F.fs 0) else (0,0)
structure Ns(K:CH)(ow:Ow)(r:Nat)(kd:Kd)(LL:List F7)(st:List ah):Prop where
 ob:K.ob r= .cells (LL.flatMap uK) 40 kd
 rn:r<K.nx
 len:LL.length=st.length
 lt : ∀y,ow y≠none->y<K.nx
 row : ∀i F L,st[i]? = some F->LL[i]? = some L->BY K ow i F (uK L)
 sm:st.length<=4398046511104/\∀F∈st,F.ps.length<=4398046511104/\F.ls.length<=4398046511104/\F.cs.length<=4398046511104/\F.fs.length<=4398046511104
theorem afS{K:CH}{ow:Ow}{r:Nat}{kd:Kd}{LL:List F7}{st:List ah}(h:Ns K ow r kd LL st){f:Int}(Q:f<st.length)(s:Bs):aR B4 19 [.slice (some ⟨r,0,none⟩) st.length st.length, .int .i64 f, .string (tx s)] K λv K'=>ag K K'/\v= .tuple #[.int .i64 (findF st f s).1, .int .i64 (findF st f s).2]:=by
 refine du Rl Kr (aV ?_);by_cases x:f<0
 ·have e:findF st f s=(0,0):=iP x;rw[e];refine rn @x ?_;exact ag.refl _
 obtain⟨n,rfl⟩ : ∃n:Nat,f=n:=⟨f.toNat,Om⟩;have hn:n<st.length:=by omega
 obtain⟨F,m⟩ : ∃F,st[n]? = some F:=⟨_,bM hn⟩;obtain⟨L,z⟩ : ∃L,LL[n]? = some L:=⟨_,bM (by rw[h.len];exact hn)⟩;obtain⟨C,D,b3,b4⟩:=h.sm.2 F (fi m);have hs:=h.sm.1;obtain⟨hd,E⟩:=Yk z;obtain⟨vp,vl,vc,vf,G,A,B,rc,rf⟩:=h.row n F L m z;rw[G] at hd;have H:=h.ob;have e:findF st n s=if 0<=fix s F.cs 0 then (2,fix s F.cs 0) else if 0<=fix s F.ps 0 then (1,fix s F.ps 0) else if 0<=fix s F.ls 0 then (1,F.ps.length+fix s F.ls 0) else if 0<=fix s F.fs 0 then (3,fix s F.fs 0) else (0,0):=by
  unfold findF;rw[iN Om,gj,m]
 obtain⟨pa,rfl⟩:=tM A;obtain⟨I,rfl⟩:=tM B;obtain⟨ca,rfl⟩:=tM rc;obtain⟨J,rfl⟩:=tM rf;repeat' (first | (simp (disch:=first | omega | (decide +kernel)) only[↓RD,RU,↓aP,↓ez,↓aT,↓bf,cV,bP,bK,fS,pop,aD,da,bD,fj,isVal,bu,dp,ρ0,ρ1,↓reduceIte,Nat.reduceEqDiff,Nat.reduceAdd,Int.reduceOfNat,reduceCtorEq,ρ5,ρ6,ρ7,ρ8,ρ17,ρ21,ρ22,ρ23,Kd.cD,ρ25,ρ26,ρ29,H,hd,E]) | ((with_reducible first|apply aF|apply aG|apply aH)<;>intro _))
 refine MK (λc=>ag K c/\c.ob K.nx= .cells [.string (tx F.nm), .int .i64 F.par, .slice pa F.ps.length F.ps.length, .slice I F.ls.length F.ls.length, .slice ca F.cs.length F.cs.length, .slice J F.fs.length F.fs.length, .bool F.gen] 40 .ex) ⟨by(repeat (first | assumption | exact ag.refl _ | (refine ag.set ?_ Fo _) | (refine ag.new ?_ _))),by(exact aZ;all_goals rfl)⟩ ?_;rintro c ⟨hx,d⟩;have g:pd ow ow K c:=⟨hx.nx,λ_ _=>rfl⟩;have o:=(A.mv g λy a _=>hx.ob y a).rd;have t:=(B.mv g λy a _=>hx.ob y a).rd;have u:=(rc.mv g λy a _=>hx.ob y a).rd;have w:=(rf.mv g λy a _=>hx.ob y a).rd;rw[e];refine(RC u b3 s).mono λR S ⟨M,b⟩=> ?_;subst b;rw[M];by_cases i:0<=fix s F.cs 0
 ·rw[iP i];refine rn @i ?_;exact hx
 rw[iN i];refine rn (an @i @d) ?_;refine(RC o C s).mono λv2 T ⟨N,b⟩=> ?_;subst b;rw[N];by_cases j:0<=fix s F.ps 0
 ·rw[iP j];refine rn @j ?_;exact hx
 rw[iN j];refine rn (an @j @d) ?_;refine(RC t D s).mono λv3 U ⟨O,b⟩=> ?_;subst b;rw[O];by_cases c3:0<=fix s F.ls 0
 ·rw[iP c3];have hb:=afR (s:=s) F.ls 0;refine rn (an @c3 @d) ?_;exact hx
 rw[iN c3];refine rn (an @c3 @d) ?_;refine(RC w b4 s).mono λv4 V ⟨P,b⟩=> ?_;subst b;rw[P];by_cases l:0<=fix s F.fs 0
 ·rw[iP l];refine rn @l ?_;exact hx
 rw[iN l];refine rn @l ?_;exact hx
end
section
structure FnC(st:List ah)(f:Nat)(F:ah):Prop where
 par : -1<=F.par/\F.par<(f:Int)
 main:F.par<0↔f=0
 fs0:f=0->F.fs= []
 fr : ∀(i:Nat) (s:Bs),F.fs[i]? = some s->((findF st F.par s).1=2\/(findF st F.par s).1=3)/\findF st f s=(3,(i:Int))
 cs : ∀s∈F.cs,s∈F.ps\/s∈F.ls
 ls : ∀(i:Nat) (s:Bs),F.ls[i]? = some s->s∉F.ps/\s∉F.ls.take i
mutual
def yp:Nd->Prop
 | .mk k _ _ _ ks=>(k≠8/\k≠50/\k≠9)/\D2 ks
def D2:List Nd->Prop
 | []=>True
 | n::ks=>yp n/\D2 ks
end
mutual
def D3:Nd->Prop
 | .mk k _ _ _ ks=>((k=8\/k=50->yp (cC ks))/\(k=17->D2 ks))/\D4 ks
def D4:List Nd->Prop
 | []=>True
 | n::ks=>D3 n/\D4 ks
end
mutual
theorem afT : ∀n:Nd,yp (nk n)↔yp n
 | .mk k l x o ks=>by simp only[nk,yp,Yl ks]
theorem Yl : ∀ks:List Nd,D2 (jF ks)↔D2 ks
 | []=>dS
 | n::ks=>by simp only[jF,D2,afT n,Yl ks]
end
theorem ard{ks:List Nd}:yp (cC (jF ks))↔yp (cC ks):=by
 cases ks with
 | nil=>exact dS
 | cons n ks=>exact afT n
mutual
theorem Ym : ∀n:Nd,D3 (nk n)↔D3 n
 | .mk k l x o ks=>by simp only[nk,D3,ard,Yl,afU ks]
theorem afU : ∀ks:List Nd,D4 (jF ks)↔D4 ks
 | []=>dS
 | n::ks=>by simp only[jF,D4,Ym n,afU ks]
end
theorem arf{n:Nd}(h:lK n)(hk:n.kind=36):yp n:=by
 obtain⟨k,l,x,o,ks⟩:=n;have hk:k=36:=hk;subst hk;have h1:=h.1;unfold eW at h1;simp at h1;rw[h1.2.2];exact⟨⟨de,de,de⟩,trivial⟩
theorem Yn : ∀ {ks:List Nd},eX ks->rq ks->D2 ks
 | [],_,_=>trivial
 | n::ks,h,g=>⟨arf h.1 (g n Sm),Yn h.2 λm a=>g m (by simp[a])⟩
theorem arh{n:Nd}(h:lK n)(hk:n.kind=23):yp n:=by
 obtain⟨k,l,x,o,ks⟩:=n;have hk:k=23:=hk;subst hk;have h1:=h.1;unfold eW at h1;simp at h1;exact⟨⟨de,de,de⟩,Yn h.2 h1.2.2⟩
theorem ari{k:Nat}{x:Bs}{o:Nat}{ks:List Nd}(h:eW k x o ks)(hk:k=8\/k=50) : ∃a b,ks= [a,b]/\a.kind=23:=by
 rcases hk with rfl | rfl
 all_goals
  unfold eW at h;simp at h
 ·obtain⟨_,_,a,b,rfl,h,_⟩:=h;exact⟨a,b,rfl,h⟩
 obtain⟨_,_,a,b,rfl,h,_⟩:=h;exact⟨a,b,rfl,h⟩
theorem arj{x:Bs}{o:Nat}{ks:List Nd}(h:eW 17 x o ks):rq ks:=by
 unfold eW at h;simp at h;exact h.2.2.2
mutual
theorem ark : ∀n:Nd,lK n->D3 n
 | .mk k l x o ks,h=>⟨⟨λe=>by
    obtain⟨a,b,rfl,ha⟩:=ari h.1 e;exact arh h.2.1 ha,λe=>by subst e;exact Yn h.2 (arj h.1)⟩,Yo ks h.2⟩
theorem Yo : ∀ks:List Nd,eX ks->D4 ks
 | [],_=>trivial
 | n::ks,h=>⟨ark n h.1,Yo ks h.2⟩
end
mutual
theorem Yp : ∀(t:Nd) (c:Nat) (h:Wh),yp t->(bj c h t).2=c
 | .mk k l x o ks,c,h,hn=>by
   obtain⟨⟨h1,h2,h3⟩,h4⟩:=hn;rw[zE h3];have e:(if k=8\/k=50 then c+1 else c)=c:=iN λe=>e.elim h1 h2;rw[e];exact Yq ks c _ h4
theorem Yq : ∀(ks:List Nd) (c:Nat) (h:Wh),D2 ks->(mK c h ks).2=c
 | [],c,h,_=>by rw[DF]
 | n::ks,c,h,hn=>by
   rw[zF];show(mK (bj c h n).2 h ks).2=c;rw[Yp n c h hn.1];exact Yq ks c h hn.2
end
def stat (F:ah):ah:= { F with fs:= [] }
theorem Jc{A B:List ah}(h:A.map stat=B.map stat)(i:Nat):(A[i]? = none/\B[i]? = none)\/∃F G,A[i]? = some F/\B[i]? = some G/\stat F=stat G:=by
 have h1:(A[i]?).map stat=(B[i]?).map stat:=by rw[<-hY,<-hY,h]
 cases ha:A[i]? with
 | none=>
   cases hb:B[i]? with
   | none=>exact .inl ⟨rfl,rfl⟩
   | some G=>rw[ha,hb] at h1;cases h1
 | some F=>
   cases hb:B[i]? with
   | none=>rw[ha,hb] at h1;cases h1
   | some G=>
     rw[ha,hb] at h1;exact .inr ⟨F,G,rfl,rfl,Option.some.inj h1⟩
theorem RE{F G:ah}(h:stat F=stat G)(s:Bs):F.binds s↔G.binds s:=by
 have a:F.ps=G.ps:=by have e:=congrArg ah.ps h;exact e
 have b:F.ls=G.ls:=by have e:=congrArg ah.ls h;exact e
 unfold ah.binds;rw[a,b]
theorem arl{F G:ah}(h:stat F=stat G):F.g=G.g:=by have e:=congrArg ah.g h;exact e
theorem Nt{F G:ah}(h:stat F=stat G):F.par=G.par:=by have e:=congrArg ah.par h;exact e
theorem afV{A B:List ah}(h:A.map stat=B.map stat)(s:Bs)(l:Int) : ∀(n:Nat) (g:Int),ry A s l n g=ry B s l n g
 | 0,g=>rfl
 | n+1,g=>by
   rw[ry,ry];split;·rfl
   rcases Jc h g.toNat with ⟨h1,h2⟩ | ⟨F,G,h1,h2,h3⟩
   ·rw[h1,h2]
   rw[h1,h2];simp only[RE h3,arl h3,Nt h3,afV h s l n]
theorem afW{A B:List ah}(h:A.map stat=B.map stat)(f:Nat)(s:Bs)(l:Int):iQ A f s l=iQ B f s l:=by
 have hl:A.length=B.length:=by have:=congrArg rN h;simpa using this
 unfold iQ;rcases Jc h f with ⟨h1,h2⟩ | ⟨F,G,h1,h2,h3⟩
 ·rw[h1,h2]
 rw[h1,h2,hl];simp only[Nt h3,afV h s l]
theorem afX{A:List ah}{s:Bs}{l:Int} : ∀(n:Nat) (g:Int),ry A s l n g=true->ry A s l (n+1) g=true
 | 0,g,h=>by cases h
 | n+1,g,h=>by
   rw[ry] at h⊢;split at h;·cases h
   rename_i hg;rw[iN hg];cases ha:A[g.toNat]? with
   | none=>rw[ha] at h;cases h
   | some G=>
     rw[ha] at h;simp only at h⊢;split at h;·rename_i h1;rw[iP h1]
     rename_i h1;rw[iN h1];split at h;·cases h
     rename_i h2;rw[iN h2];exact afX n _ h
def IV (st:List ah):Prop:=∀i F,st[i]? = some F->F.fs.Nodup/\∀s∈F.fs,¬F.binds s/\iQ st i s 0=true
def RG (st:List ah)(i:Nat):Prop:=∀F P,st[i]? = some F->0<=F.par->st[F.par.toNat]? = some P->∀s∈F.fs,P.binds s\/s∈P.fs
structure ji(f:Nat)(a b:List ah×Nat):Prop where
 le:a.2<=b.2
 st:b.1.map stat=a.1.map stat
 gr : ∀(i:Nat) (F G:ah),a.1[i]? = some F->b.1[i]? = some G->∀s∈F.fs,s∈G.fs
 fr : ∀i,i≠f->(i<=a.2\/b.2<i)->b.1[i]? = a.1[i]?
 ok:IV a.1->IV b.1
 RH : ∀i,a.2<i->i<=b.2->RG b.1 i
theorem RG.mv{A B:List ah}{i:Nat}(h:RG A i)(hs:B.map stat=A.map stat)(hg : ∀(i:Nat) (F G:ah),A[i]? = some F->B[i]? = some G->∀s∈F.fs,s∈G.fs)(hi:B[i]? = A[i]?):RG B i:=λF P h1 h2 h3 s b=>by
 rcases Jc hs F.par.toNat with ⟨g1,_⟩ | ⟨c,a,g1,g2,g3⟩
 ·rw[g1] at h3;cases h3
 rw[g1] at h3;cases h3;rcases h F a (by rw[<-hi];exact h1) h2 g2 s b with k | k
 ·exact .inl ((RE g3 s).2 k)
 exact .inr (hg _ a _ g2 g1 s k)
theorem ji.refl(f:Nat)(a:List ah×Nat):ji f a a:=⟨al _,rfl,λi F G h1 h2 s hs=>by rw[h1] at h2;cases h2;exact hs,λ_ _ _=>rfl,id,λi h1 h2=>absurd h1 Om⟩
theorem afY{A B C:List ah}(hs:B.map stat=A.map stat)(h1 : ∀(i:Nat) (F G:ah),A[i]? = some F->B[i]? = some G->∀s∈F.fs,s∈G.fs)(h2 : ∀(i:Nat) (F G:ah),B[i]? = some F->C[i]? = some G->∀s∈F.fs,s∈G.fs) : ∀(i:Nat) (F G:ah),A[i]? = some F->C[i]? = some G->∀s∈F.fs,s∈G.fs:=λi F G ha hc s b=>by
 rcases Jc hs i with ⟨_,g1⟩ | ⟨a,c,g1,g2,g3⟩
 ·rw[g1] at ha;cases ha
 exact h2 i a G g1 hc s (h1 i F a ha g1 s b)
theorem ji.trans{f:Nat}{a b c:List ah×Nat}(j:f<=a.2)(h:ji f a b)(g:ji f b c):ji f a c:=by
 have d:=h.le;have e:=g.le;refine⟨bW h.le g.le,g.st.trans h.st,afY h.st h.gr g.gr,λi hi hc=> ?_,λk=>g.ok (h.ok k),λi h1 h2=> ?_⟩;·rw[g.fr i hi Om,h.fr i hi Om]
 by_cases hb:i<=b.2
 ·exact(h.RH i h1 hb).mv g.st g.gr (g.fr i Om (.inl hb))
 exact g.RH i Om h2
theorem Jd{A:List ah}{f:Nat}{u:ah->ah}(i:Nat):(dC A f u)[i]? = (A[i]?).map λF=>if f=i then u F else F:=by
 unfold dC;rw[vV];rfl
theorem Yr{A:List ah}{f:Nat}{u:ah->ah}(hu : ∀F,stat (u F)=stat F):(dC A f u).map stat=A.map stat:=by
 apply Ca;intro i;rw[hY,hY,Jd,Option.map_map];congr 1
 funext F
 show stat (if f=i then u F else F)=stat F;split;·exact hu F
 rfl
theorem ji.mod{A:List ah}{f c:Nat}{u:ah->ah}(hu : ∀F,stat (u F)=stat F)(hg : ∀F s,s∈F.fs->s∈(u F).fs)(g:IV A->∀F,A[f]? = some F->(u F).fs.Nodup/\∀s∈(u F).fs,¬F.binds s/\iQ A f s 0=true):ji f (A,c) (dC A f u,c):=by
 refine⟨al _,Yr hu,λi F G h1 h2 s hs=> ?_,λi hi _=> ?_,λh i F a=> ?_,λi h1 h2=>absurd h1 (by show ¬c<i;have h2:i<=c:=h2;omega)⟩
 ·have h2:(dC A f u)[i]? = some G:=h2;have h1:A[i]? = some F:=h1;rw[Jd,h1] at h2;have e:(if f=i then u F else F)=G:=Option.some.inj h2;rw[<-e];split;·exact hg F s hs
  exact hs
 ·show(dC A f u)[i]? = A[i]?;rw[Jd];cases A[i]? with
  | none=>rfl
  | some F=>exact congrArg some (iN (Ne.symm hi))
 have a:(dC A f u)[i]? = some F:=a;show F.fs.Nodup/\∀s∈F.fs,¬F.binds s/\iQ (dC A f u) i s 0=true;rw[Jd] at a;cases ha:A[i]? with
 | none=>rw[ha] at a;cases a
 | some G=>
   rw[ha] at a;have e:(if f=i then u G else G)=F:=Option.some.inj a;by_cases hi:f=i
   ·rw[iP hi] at e;rw[<-e];subst hi;obtain⟨d,b⟩:=g h G ha;refine⟨d,λs hs=>⟨λhb=>(b s hs).1 ((RE (hu G) s).1 hb),?_⟩⟩;rw[afW (Yr hu)];exact(b s hs).2
   rw[iN hi] at e;rw[<-e];obtain⟨d,b⟩:=h i G ha;refine⟨d,λs hs=>⟨(b s hs).1,?_⟩⟩;rw[afW (Yr hu)];exact(b s hs).2
theorem ji.ka{A:List ah}{f c:Nat}{x:Bs}:ji f (A,c) (dv A f x,c):=by
 unfold dv;refine ji.mod (λF=> ?_) (λF s hs=> ?_) λh F a=> ?_;·split<;>rfl
 ·split;·exact hs
  exact tQ _ hs
 obtain⟨h1,h2⟩:=h f F a;split;·exact⟨h1,h2⟩
 rename_i hc;refine⟨IT h1 λb=>hc (.inr (.inr (.inr (.inl b)))),λs hs=> ?_⟩;rcases List.mem_append.1 hs with hs | hs
 ·exact h2 s hs
 rw[lR] at hs;rw[hs];refine⟨λhb=>hc (.inr (.inl hb)),?_⟩;cases d:iQ A f x 0 with
 | true=>rfl
 | false=>exact absurd (.inr (.inr (.inr (.inr d)))) hc
theorem Ys{Q:Bs->Prop} : ∀(xs:List Bs) (F:ah),(∀s∈xs,¬F.binds s->Q s)->F.fs.Nodup->(∀s∈F.fs,¬F.binds s/\Q s)->stat (xs.foldl iR F)=stat F/\(xs.foldl iR F).fs.Nodup/\(∀s∈(xs.foldl iR F).fs,¬F.binds s/\Q s)/\(∀s∈F.fs,s∈(xs.foldl iR F).fs)/\∀s∈xs,F.binds s\/s∈(xs.foldl iR F).fs
 | [],F,_,h2,h3=>⟨rfl,h2,h3,λs h=>h,λs h=>by cases h⟩
 | x::xs,F,h1,h2,h3=>by
   rw[yt];by_cases hc:F.binds x\/x∈F.fs
   ·have e:iR F x=F:=iP hc;rw[e];obtain⟨b,c,d,a,g⟩:=Ys xs F (λs hs=>h1 s (hU _ hs)) h2 h3;refine⟨b,c,d,a,λs hs=> ?_⟩;rcases List.mem_cons.1 hs with rfl | hs
    ·exact hc.imp id (a _)
    exact g s hs
   have e:iR F x= { F with fs:=F.fs++ [x] }:=iN hc;rw[e];obtain⟨b,c,d,a,g⟩:=Ys (Q:=Q) xs { F with fs:=F.fs++ [x] } (λs hs=>h1 s (hU _ hs)) (IT h2 λi=>hc (.inr i)) λs hs=>by
    rcases List.mem_append.1 hs with hs | hs
    ·exact h3 s hs
    rw[lR] at hs;rw[hs];exact⟨λhb=>hc (.inl hb),h1 x Sm λhb=>hc (.inl hb)⟩
   refine⟨b,c,d,λs hs=>a s (tQ _ hs),λs hs=> ?_⟩;rcases List.mem_cons.1 hs with rfl | hs
   ·exact .inr (a _ Sm)
   exact g s hs
theorem Nu : ∀(xs:List Bs) (F:ah),stat (xs.foldl iR F)=stat F/\(∀s∈F.fs,s∈(xs.foldl iR F).fs)/\∀s∈xs,F.binds s\/s∈(xs.foldl iR F).fs
 | [],F=>⟨rfl,λs h=>h,λs h=>by cases h⟩
 | x::xs,F=>by
   rw[yt];by_cases hc:F.binds x\/x∈F.fs
   ·have e:iR F x=F:=iP hc;rw[e];obtain⟨b,a,c⟩:=Nu xs F;refine⟨b,a,λs hs=> ?_⟩;rcases List.mem_cons.1 hs with rfl | hs
    ·exact hc.imp id (a _)
    exact c s hs
   have e:iR F x= { F with fs:=F.fs++ [x] }:=iN hc;rw[e];obtain⟨b,a,c⟩:=Nu xs { F with fs:=F.fs++ [x] };refine⟨b,λs hs=>a s (tQ _ hs),λs hs=> ?_⟩;rcases List.mem_cons.1 hs with rfl | hs
   ·exact .inr (a _ Sm)
   exact c s hs
theorem arm{B:List ah}{f g:Nat}{F G:ah}{s:Bs}(c:B[g]? = some G)(b:B[f]? = some F)(hp:G.par=(f:Int))(a:iQ B g s 0=true)(hn : ¬F.binds s):iQ B f s 0=true:=by
 unfold iQ at a⊢;rw[c] at a;rw[b];simp only at a⊢
 cases hl:B.length with
 | zero=>rw[hl] at a;cases a
 | succ n=>
   rw[hl,ry,hp,iN Om,gj,b] at a;simp only at a;rw[iN hn] at a;split at a;·cases a
   exact afX n _ a
theorem ji.fn{A B:List ah}{f c c':Nat}(h:ji (c+1) (A,c+1) (B,c'))(z:f<=c)(hp:(A.map ah.par)[c+1]? = some (f:Int)):ji f (A,c) (rA B f (c+1),c'):=by
 have t:c+1<=c':=h.le;obtain⟨j,a,u⟩ : ∃j,A[c+1]? = some j/\j.par=(f:Int):=by
  rw[hY] at hp;cases ha:A[c+1]? with
  | none=>rw[ha] at hp;cases hp
  | some G=>rw[ha] at hp;exact⟨G,rfl,Option.some.inj hp⟩
 obtain⟨G,d,b⟩ : ∃G,B[c+1]? = some G/\G.par=(f:Int):=by
  rcases Jc h.st (c+1) with ⟨_,g⟩ | ⟨G,v,g1,g2,g3⟩
  ·rw[a] at g;cases g
  rw[a] at g2;cases g2;exact⟨G,g1,(Nt g3).trans u⟩
 have n:B.getD (c+1) rv=G:=by rw[List.getD_eq_getElem?_getD,d];rfl
 have h2:ji f (B,c') (rA B f (c+1),c'):=by
  unfold rA;rw[n];refine ji.mod (λF=>(Nu _ F).1) (λF=>(Nu _ F).2.1) λo F q=> ?_;obtain⟨i1,i2⟩:=o f F q;obtain⟨_,w,l,_,_⟩:=Ys (Q:=λs=>iQ B f s 0=true) G.fs F (λs hs hn=>arm d q b ((o (c+1) G d).2 s hs).2 hn) i1 i2;exact⟨w,l⟩
 refine⟨by show c<=c';omega,h2.st.trans h.st,afY h.st h.gr h2.gr,λi hi hc=> ?_,λk=>h2.ok (h.ok k),λi h1 h3=> ?_⟩;·have hc:i<=c\/c'<i:=hc;rw[h2.fr i hi (by show i<=c'\/c'<i;omega)];exact h.fr i Om (by show i<=c+1\/c'<i;omega)
 have h1:c<i:=h1;by_cases hi:i=c+1
 ·subst hi;intro F P g1 g2 g3 s hs;have x:(rA B f (c+1))[c+1]? = B[c+1]? :=h2.fr (c+1) Om (by show c+1<=c'\/c'<c+1;omega);have g1:(rA B f (c+1))[c+1]? = some F:=g1;rw[x,d] at g1;cases g1;rw[b,gj] at g3;have g3:(rA B f (c+1))[f]? = some P:=g3;unfold rA at g3;rw[Jd,n] at g3;cases r:B[f]? with
  | none=>rw[r] at g3;cases g3
  | some m=>
    rw[r] at g3;have e:(if f=f then List.foldl iR m G.fs else m)=P:=Option.some.inj g3;rw[iP rfl] at e;rw[<-e];obtain⟨y,_,l⟩:=Nu G.fs m;rcases l s hs with k | k
    ·exact .inl ((RE y s).2 k)
    exact .inr k
 exact(h.RH i (by show c+1<i;omega) h3).mv h2.st h2.gr (h2.fr i Om (.inl h3))
def vS (pl:List Int):Nat->List Ev->Prop
 | _,[]=>True
 | c,e::es=>(jZ e.1=true->pl[c+1]? = some (e.2.f:Int))/\vS pl (c+if jZ e.1=true then 1 else 0) es
theorem Je{pl:List Int} : ∀ {a b:List Ev} {c:Nat},vS pl c (a++b)↔vS pl c a/\vS pl (c+qy a) b
 | [],b,c=>by show vS pl c b↔True/\vS pl c b;exact⟨λh=>⟨trivial,h⟩,λh=>h.2⟩
 | e::a,b,c=>by
   show(_/\vS pl _ (a++b))↔(_/\vS pl _ a)/\_;rw[Je,Q6,and_assoc,mP]
theorem Yt : ∀(es:List Ev) (c:Nat) (pre:List Int),pre.length=c+1->vS (pre++(es.filter λe=>jZ e.1).map λe=>(e.2.f:Int)) c es
 | [],c,pre,h=>trivial
 | e::es,c,pre,h=>by
   by_cases a:jZ e.1=true
   ·rw[GL,iP a,dG];refine⟨λ_=> ?_,?_⟩;·rw[List.getElem?_append_right Om,h,Nat.sub_self];rfl
    rw[iP a];have:=Yt es (c+1) (pre++ [(e.2.f:Int)]) (by rw[cO];simp;omega);rwa [List.append_assoc,List.singleton_append] at this
   rw[GL,iN a];refine⟨λg=>absurd g a,?_⟩;rw[iN a,lP];exact Yt es c pre h
theorem arn{A B:List ah}(h:A.map stat=B.map stat):A.map ah.par=B.map ah.par:=by
 have e : ∀L:List ah,L.map ah.par=(L.map stat).map ah.par:=λL=>by rw[List.map_map];rfl
 rw[e A,e B,h]
theorem Jf{t:Nd}(h:mL t){c:Nat}{w:Wh}(hw:w.f<=c):(bj c w t).2=c+qy (bj c w t).1:=((ae7 (P:=λ_=>True) (λ_ _ _ _ _ _ _ _=>trivial) (dR t+1)).1 t c w (iC _) h trivial hw).n
abbrev pi(st:List ah×Nat):List Int:=st.1.map ah.par
theorem ji.pi{f:Nat}{a b:List ah×Nat}(h:ji f a b):Can.pi b=Can.pi a:=arn h.st
theorem aro(N:Nat):(∀(t:Nd) (st:List ah×Nat) (f:Nat) (mb:Bool) (h:Wh),dR t<N->mL t->D3 t->f<=st.2->h.f=f->vS (pi st) st.2 (bj st.2 h t).1->ji f st (ci st f mb t)/\(ci st f mb t).2=(bj st.2 h t).2)/\(∀(ks:List Nd) (st:List ah×Nat) (f:Nat) (h:Wh),dR ks<N->kS ks->D4 ks->f<=st.2->h.f=f->vS (pi st) st.2 (mK st.2 h ks).1->ji f st (lM st f ks)/\(lM st f ks).2=(mK st.2 h ks).2)/\(∀(ks:List Nd) (st:List ah×Nat) (f:Nat) (h:Wh),dR ks<N->kS ks->D4 ks->f<=st.2->h.f=f->vS (pi st) st.2 (im st.2 h ks).1->ji f st (iU st f ks)/\(iU st f ks).2=(im st.2 h ks).2):=by
 induction N with
 | zero=>exact⟨λ_ _ _ _ _ h=>absurd h (fM _),λ_ _ _ _ h=>absurd h (fM _),λ_ _ _ _ h=>absurd h (fM _)⟩
 | succ N O=>
   obtain⟨i1,i2,i3⟩:=O;refine⟨λt st f mb h u hc hp j hh d=> ?_,λks st f h u hc hp j hh d=> ?_,λks st f h u hc hp j hh d=> ?_⟩
   ·obtain⟨k,l,x,o,ks⟩:=t;by_cases K:k=17
    ·subst K;rw[IU,zE de];exact⟨ji.refl _ _,(Yq ks st.2 _ (hp.1.2 rfl)).symm⟩
    by_cases q:k=8\/k=50
    ·have h2:ks.length=2:=hc.1.1 (.inr q);match ks,h2 with
     | [p,b],_=>
       simp at u;have E:k≠9:=by rcases q with rfl | rfl<;>decide
       have y:jZ (.mk k l x o [p,b])=true:=by unfold jZ;exact decide_eq_true q
       obtain⟨z,L⟩ : ∃z,z=(if k=8/\mb=false then dv st.1 f x else st.1):=⟨_,rfl⟩;have s:ji f st (z,st.2):=by
        rw[L];split;·exact ji.ka
        exact ji.refl _ _
       rw[zE E,iP q] at d⊢;rw[M4 q,<-L];obtain⟨F,m⟩:=d;have F:=F y;rw[iP y] at m;have F:(pi st)[st.2+1]? = some (f:Int):=by rw[<-hh];exact F
       obtain⟨w,hw⟩ : ∃w,w=qv k (st.2+1) h:=⟨_,rfl⟩;rw[<-hw] at m⊢
       have H:w.f=st.2+1:=by rw[hw];unfold qv;rw[iP q]
       rw[zF,zF,DF] at m⊢;simp only at m⊢;have M:yp p:=hp.1.1 q;rw[Yp p (st.2+1) w M] at m⊢;rw[Je] at m;have G:=m.2;rw[<-Jf hc.2.1 Om,Yp p (st.2+1) w M,List.append_nil] at G;obtain⟨i,g⟩:=i1 b (z,st.2+1) (st.2+1) false w Om hc.2.2.1 hp.2.2.1 (al _) H (by rw[show pi (z,st.2+1)=pi st from s.pi];exact G);obtain⟨r,A⟩ : ∃r,r=ci (z,st.2+1) (st.2+1) false b:=⟨_,rfl⟩;rw[<-A] at i g⊢;obtain⟨B,c'⟩:=r;refine⟨s.trans j (ji.fn i j (by have e:z.map ah.par=pi st:=s.pi;rw[e];exact F)),g⟩
    by_cases E:k=9
    ·subst E;have h2:ks.length=2:=hc.1.1 (.inl rfl);match ks,h2 with
     | [a, .mk bk bl bx bo bs],_=>
       simp at u;rw[Gf];rw[DE] at d⊢;obtain⟨_,d⟩:=d;rw[Je] at d;have y:jZ (.mk 9 l x o [a, .mk bk bl bx bo bs])=false:=rfl;rw[y,iN de,lP] at d;have s:ji f st (dv st.1 f x,st.2):=ji.ka;obtain⟨i,g⟩:=i1 a (dv st.1 f x,st.2) f false h.no Om hc.2.1 hp.2.1 j hh (by rw[show pi (dv st.1 f x,st.2)=pi st from s.pi];exact d.1);have hn:=Jf (w:=h.no) hc.2.1 (c:=st.2) (by show h.f<=_;omega);obtain⟨r,A⟩ : ∃r,r=ci (dv st.1 f x,st.2) f false a:=⟨_,rfl⟩;rw[<-A] at i g⊢;have g:r.2=(bj st.2 h.no a).2:=g;have I:=s.trans j i;rw[<-hn,<-g,<-I.pi] at d;obtain⟨C,D⟩:=i3 bs r f h.no Om hc.2.2.1.2 hp.2.2.1.2 (bW j I.le) hh d.2;rw[D,<-g];exact⟨I.trans j C,rfl⟩
    rw[M5 K q E];rw[zE E,iN q] at d⊢;simp at u;obtain⟨_,d⟩:=d;have y:jZ (.mk k l x o ks)=false:=by unfold jZ;exact decide_eq_false q
    rw[y,iN de,lP] at d;have H:(qv k (st.2+1) h).f=f:=by unfold qv;rw[iN q];exact hh
    obtain⟨r,A⟩ : ∃r,r=(if k=36\/k=16\/k=21 then (dv st.1 f x,st.2) else st):=⟨_,rfl⟩;have s:ji f st r:=by
     rw[A];split;·exact ji.ka
     exact ji.refl _ _
    have J:r.2=st.2:=by rw[A];split<;>rfl
    rw[<-A];rw[<-J,<-s.pi] at d;obtain⟨i,g⟩:=i2 ks r f _ Om hc.2 hp.2 Om H (by rw[J] at d⊢;exact d);rw[J] at g;exact⟨s.trans j i,g⟩
   ·cases ks with
    | nil=>rw[Gh,DF];exact⟨ji.refl _ _,rfl⟩
    | cons n ks=>
      simp at u;rw[Gg];rw[zF] at d⊢;rw[Je,<-Jf hc.1 Om] at d;obtain⟨i,g⟩:=i1 n st f false h Om hc.1 hp.1 j hh d.1;have m:=d.2;rw[<-g,<-i.pi] at m;obtain⟨C,D⟩:=i2 ks _ f h Om hc.2 hp.2 (bW j i.le) hh m;refine⟨i.trans j C,?_⟩;rw[D,g]
   cases ks with
   | nil=>rw[DR,MD];exact⟨ji.refl _ _,rfl⟩
   | cons n ms=>
     simp at u;by_cases hn:n.kind=3/\2<=n.kids.length
     ·obtain⟨k,l,x,o,ks⟩:=n;obtain⟨rfl,h2⟩:k=3/\2<=ks.length:=hn;match ks,h2 with
      | p::v::r,_=>
        simp at u;rw[Gi];rw[ME] at d⊢;obtain⟨_,d⟩:=d;have y:jZ (.mk 3 l x o (p::v::r))=false:=rfl;rw[y,iN de,lP,Je,<-Jf hc.1.2.2.1 Om] at d;obtain⟨i,g⟩:=i1 v st f false h Om hc.1.2.2.1 hp.1.2.2.1 j hh d.1;have m:=d.2;rw[<-g,<-i.pi] at m;obtain⟨C,D⟩:=i3 ms _ f h Om hc.2 hp.2 (bW j i.le) hh m;refine⟨i.trans j C,?_⟩;rw[D,g]
     rw[Gj hn];rw[MF hn] at d⊢;rw[Je,<-Jf hc.1 (by show h.f<=_;omega)] at d;obtain⟨i,g⟩:=i1 n st f true h.me Om hc.1 hp.1 j hh d.1;have m:=d.2;rw[<-g,<-i.pi] at m;obtain⟨C,D⟩:=i3 ms _ f h Om hc.2 hp.2 (bW j i.le) hh m;refine⟨i.trans j C,?_⟩;rw[D,g]
def D5 (i:Nat)(F:ah):Prop:=F.ls.Nodup/\∀s∈F.ls,s∉F.ps
theorem afZ : ∀(es:List Ev) (fns:List ah),(∀i F,fns[i]? = some F->D5 i F)->∀i F,(tG fns es)[i]? = some F->D5 i F
 | [],fns,h=>h
 | e::es,fns,h=>afZ es _ (Rs h λF b=>by
    have : ∀(xs:List Bs) (F:ah),D5 e.2.f F->D5 e.2.f (xs.foldl (tE e.2.f) F):=λxs=>by
     induction xs with
     | nil=>exactλF h=>h
     | cons s xs c=>
       intro F h;rw[yt];refine c _ ?_;unfold tE;split;·exact h
       rename_i hc;refine⟨IT h.1 λa=>hc (.inr (.inr (.inl a))),λy hy=> ?_⟩;rcases List.mem_append.1 hy with hy | hy
       ·exact h.2 y hy
       rw[lR] at hy;rw[hy];exactλa=>hc (.inr (.inl a))
    exact this _ F b)
theorem af0 : ∀(es:List Ev) (fns:List ah),(∀i F,fns[i]? = some F->D5 i F)->∀i F,(sG fns es)[i]? = some F->D5 i F
 | [],fns,h=>h
 | e::es,fns,h=>af0 es _ (Rs h λF a=>a)
theorem arp{es:List Ev} : ∀i F,(jG es)[i]? = some F->D5 i F:=λi F h=>by
 have hm:=fi h;unfold jG at hm;rcases List.mem_cons.1 hm with rfl | hm
 ·exact⟨.nil,λs hs=>by cases hs⟩
 obtain⟨e,_,rfl⟩:=List.mem_map.1 hm;exact⟨.nil,λs hs=>by cases hs⟩
theorem af1{A:List ah}{f:Nat}{u:ah->ah}(hu : ∀F,(u F).par=F.par):(dC A f u).map ah.par=A.map ah.par:=by
 apply Ca;intro i;rw[hY,hY,Jd,Option.map_map];congr 1
 funext F
 show(if f=i then u F else F).par=F.par;split;·exact hu F
 rfl
theorem af2{f:Nat} : ∀(xs:List Bs) (F:ah),(xs.foldl (tE f) F).par=F.par
 | [],F=>rfl
 | s::xs,F=>by
   rw[yt,af2 xs];unfold tE;split<;>rfl
theorem af3 : ∀(es:List Ev) (fns:List ah),(tG fns es).map ah.par=fns.map ah.par
 | [],fns=>rfl
 | e::es,fns=>(af3 es _).trans (af1 λF=>af2 _ F)
theorem af4 : ∀(es:List Ev) (fns:List ah),(sG fns es).map ah.par=fns.map ah.par
 | [],fns=>rfl
 | e::es,fns=>(af4 es _).trans (af1 λF=>rfl)
theorem arq{es:List Ev}:(jG es).map ah.par= [-1]++(es.filter λe=>jZ e.1).map λe=>(e.2.f:Int):=by
 unfold jG;rw[dG,List.map_map];rfl
theorem af5{es:List Ev}:(gG es).map ah.par= [-1]++(es.filter λe=>jZ e.1).map λe=>(e.2.f:Int):=by
 unfold gG;rw[af3,af4,arq]
theorem af6{tk:List Bs} : ∀(xs cs:List Bs) {s:Bs},s∈nu tk xs cs->s∈xs\/s∈cs
 | [],cs,s,h=> .inr h
 | x::xs,cs,s,h=>by
   rw[nu] at h;rcases af6 xs _ h with h | h
   ·exact .inl (hU _ h)
   split at h
   ·rcases List.mem_append.1 h with h | h
    ·exact .inr h
    rw[lR] at h;exact .inl (by rw[h];simp)
   exact .inr h
theorem af7{tk:List Bs} : ∀(xs cs:List Bs) {s:Bs},s∈cs->s∈nu tk xs cs
 | [],cs,s,h=>h
 | x::xs,cs,s,h=>by
   rw[nu];refine af7 xs _ ?_;split;·exact tQ _ h
   exact h
theorem af8{tk:List Bs} : ∀(xs cs:List Bs) {s:Bs},s∈xs->s∈tk->s∈nu tk xs cs
 | x::xs,cs,s,h,ht=>by
   rw[nu];rcases List.mem_cons.1 h with rfl | h
   ·refine af7 xs _ ?_;split;·simp
    rename_i hc;by_cases a:s∈cs
    ·exact a
    exact absurd ⟨ht,a⟩ hc
   exact af8 xs _ h ht
theorem RI{s:Bs} : ∀ {xs:List Bs} {i:Nat},0<=fix s xs i->s∈xs
 | [],i,h=>absurd h (by show ¬(0:Int)<= -1;omega)
 | x::xs,i,h=>by
   rw[fix] at h;split at h;·rename_i e;rw[e];simp
   exact hU _ (RI h)
theorem af9{s:Bs} : ∀ {xs:List Bs} {i j:Nat},xs.Nodup->xs[j]? = some s->fix s xs i=((i+j:Nat):Int)
 | [],i,j,_,h=>by simp at h
 | x::xs,i,0,hn,h=>by
   have e:x=s:=by simpa using h
   rw[fix,iP e];rfl
 | x::xs,i,j+1,hn,h=>by
   have h:xs[j]? = some s:=by simpa using h
   rw[List.nodup_cons] at hn;have aA:x≠s:=λe=>hn.1 (e▸fi h);rw[fix,iN aA,af9 hn.2 h,mP,Nat.add_comm 1 j]
theorem RJ{s:Bs} : ∀ {xs:List Bs} {i:Nat},s∈xs->0<=fix s xs i
 | x::xs,i,h=>by
   rw[fix];split;·omega
   rename_i aA;rcases List.mem_cons.1 h with e | h
   ·exact absurd e.symm aA
   exact RJ h
theorem ars{T:List Bs}{B:Nat}{t:Nd}(h:Ni T B t)(hp:D3 t){st:List ah}(d:yd t= .ok st) : ∀(f:Nat) (F:ah),st[f]? = some F->FnC st f F:=by
 obtain⟨es,x⟩ : ∃es,es=(bj 0 fU t).1:=⟨_,rfl⟩;have hE:vS ((gG es).map ah.par) 0 es:=by
  rw[af5];exact Yt es 0 [-1] rfl
 obtain⟨r,Q⟩ : ∃r,r=ci (gG es,0) 0 false t:=⟨_,rfl⟩;obtain⟨q,y⟩:=(aro (dR t+1)).1 t (gG es,0) 0 false fU (iC _) h.cl hp (al _) rfl (by rw[<-x];exact hE);rw[<-Q] at q y;obtain⟨fr,c'⟩:=r;have Cp:c'=qy es:=by
  have y:c'=(bj 0 fU t).2:=y;rw[y,Jf (w:=fU) (c:=0) h.cl (al _),<-x,bJ]
 have d:st=fr.mapIdx λf F=>ku fr f F:=by
  unfold yd at d;simp only at d;rw[<-show fU=⟨0,false,false,false⟩ from rfl,<-x,<-Q] at d;split at d;·cases d
  exact(Except.ok.inj d).symm
 have R:=h.ps;have S:=h.P;rw[<-x] at R S;have A:IV (gG es):=λi F a=>by
  rw[(R F (fi a)).2.2.2];exact⟨.nil,λs hs=>by cases hs⟩
 have U:IV fr:=q.ok A;have V:fr.length=1+qy es:=by
  have h1:=congrArg rN (show fr.map stat=(gG es).map stat from q.st);rw[fh,fh,Nh] at h1;rw[h1];unfold jG qy;rw[cw,fh];omega
 have C : ∀i F,(gG es)[i]? = some F->D5 i F:=afZ es _ (af0 es _ arp);have fW : ∀ {f:Nat} {G:ah},st[f]? = some G->∃F,fr[f]? = some F/\G=ku fr f F:=λ{f G} l=>by
  rw[d,List.getElem?_mapIdx] at l;cases W:fr[f]? with
  | none=>rw[W] at l;cases l
  | some F=>rw[W] at l;exact⟨F,rfl,(Option.some.inj l).symm⟩
 have D : ∀ {f:Nat} {F:ah},fr[f]? = some F->st[f]? = some (ku fr f F):=λ{f F} a=>by
  rw[d,List.getElem?_mapIdx,a];rfl
 have m : ∀ {f:Nat} {F:ah},fr[f]? = some F->∃b,(gG es)[f]? = some b/\stat F=stat b:=λ{f F} a=>by
  rcases Jc (show fr.map stat=(gG es).map stat from q.st) f with ⟨g,_⟩ | ⟨F1,b,g1,g2,g3⟩
  ·rw[a] at g;cases g
  rw[a] at g1;cases g1;exact⟨b,g2,g3⟩
 have z : ∀ {f:Nat} {F:ah},fr[f]? = some F->(F.par<0↔f=0):=λ{f F} a=>by
  obtain⟨b,g2,g3⟩:=m a;have e:((gG es).map ah.par)[f]? = some F.par:=by rw[hY,g2,Nt g3];rfl
  rw[af5] at e;cases f with
  | zero=>
    have e:(-1:Int)=F.par:=by simpa using e
    exact⟨λ_=>rfl,λ_=>by omega⟩
  | succ n=>
    have e:((es.filter λe=>jZ e.1).map λe=>(e.2.f:Int))[n]? = some F.par:=by simpa using e
    rw[hY] at e;cases he:(es.filter λe=>jZ e.1)[n]? with
    | none=>rw[he] at e;cases e
    | some e'=>
      rw[he] at e;have e:(e'.2.f:Int)=F.par:=Option.some.inj e;exact⟨λg=>by omega,λg=>by omega⟩
 intro f G l;obtain⟨F,a,rfl⟩:=fW l;obtain⟨b,X,E⟩:=m a;have Y:=S.par f b X;rw[<-Nt E] at Y;obtain⟨H,I⟩:=U f F a;have Z : ∀ {g:Nat} {P:ah} {s:Bs},s∈(ku fr g P).cs->P.binds s:=λ{g P s} hs=>by
  rcases af6 _ _ hs with hs | hs
  ·exact List.mem_append.1 hs
  cases hs
 have lD:f=0->F.fs= []:=λe=>by
  apply List.eq_nil_iff_forall_not_mem.2;intro s hs;have h1:=(I s hs).2;have h2:=(z a).2 e;unfold iQ at h1;rw[a] at h1;simp only at h1;cases hl:fr.length with
  | zero=>rw[hl] at h1;cases h1
  | succ n=>
    rw[hl,ry,iP h2] at h1;cases h1
 have tp : ∀ {g:Nat} {P:ah} {s:Bs},fr[g]? = some P->s∈P.fs->¬ 0<=fix s (ku fr g P).cs 0/\¬ 0<=fix s P.ps 0/\¬ 0<=fix s P.ls 0:=λ{g P s} u hs=>by
  have hb:=((U g P u).2 s hs).1;exact⟨λk=>hb (Z (RI k)),λk=>hb (.inl (RI k)),λk=>hb (.inr (RI k))⟩
 refine⟨Y,(show F.par<0↔f=0 from z a),lD,λi s hi=> ?_,λs hs=>Z hs,λi s hi=> ?_⟩
 ·have hi:F.fs[i]? = some s:=hi;have o:=fi hi;refine⟨?_,?_⟩
  ·have hfp : ¬F.par<0:=λg=>by
    have:=lD ((z a).1 g);rw[this] at o;cases o
   obtain⟨p,J⟩ : ∃p:Nat,F.par=p:=⟨F.par.toNat,Om⟩;show(findF st F.par s).1=2\/(findF st F.par s).1=3;rw[J];have K:p<fr.length:=by
    have:f<fr.length:=(List.getElem?_eq_some_iff.1 a).1;omega
   obtain⟨P,u⟩ : ∃P,fr[p]? = some P:=⟨_,bM K⟩;have gd:f<fr.length:=(List.getElem?_eq_some_iff.1 a).1;have cR:=q.RH f (by show 0<f;have:=(z a).2;omega) (by show f<=c';omega);have hk:=cR F P a Om (by rw[J,gj];exact u) s o;unfold findF;rw[iN Om,gj,D u];simp only;by_cases v:0<=fix s (ku fr p P).cs 0
   ·rw[iP v];exact .inl rfl
   have L : ¬P.binds s:=λhb=>v (RJ (af8 _ _ (List.mem_append.2 hb) (by
    unfold uC;refine List.mem_flatMap.2 ⟨F,List.mem_filter.2 ⟨fi a,decide_eq_true J⟩,o⟩)))
   have uT:=hk.resolve_left L;obtain⟨_,M,c3⟩:=tp u uT;rw[iN v,iN (show ¬ 0<=fix s (ku fr p P).ps 0 from M),iN (show ¬ 0<=fix s (ku fr p P).ls 0 from c3),iP (show 0<=fix s (ku fr p P).fs 0 from RJ uT)];exact .inr rfl
  obtain⟨v,M,c3⟩:=tp a o;have c4:fix s F.fs 0=((0+i:Nat):Int):=af9 H hi;unfold findF;rw[iN Om,gj,l];simp only;rw[iN v,iN (show ¬ 0<=fix s (ku fr f F).ps 0 from M),iN (show ¬ 0<=fix s (ku fr f F).ls 0 from c3),iP (show 0<=fix s (ku fr f F).fs 0 from RJ o)];show(3,fix s F.fs 0)=_;rw[c4,bJ]
 have hi:F.ls[i]? = some s:=hi;have Nq:F.ls=b.ls:=by have e:=congrArg ah.ls E;exact e
 have N:F.ps=b.ps:=by have e:=congrArg ah.ps E;exact e
 obtain⟨k1,O⟩:=C f b X;rw[<-Nq] at k1 O;rw[<-N] at O;refine⟨O s (fi hi),λo=> ?_⟩;obtain⟨j,hj,e⟩:=Ae o;rw[ny] at hj;rw[RN] at e;obtain⟨aw,e2⟩:=List.getElem?_eq_some_iff.1 hi;exact List.pairwise_iff_getElem.1 k1 j i Om aw Om (e.trans e2.symm)
theorem af'{tk:List Bs} : ∀(xs cs:List Bs),(nu tk xs cs).length<=xs.length+cs.length
 | [],cs=>by rw[nu,cX];omega
 | x::xs,cs=>by
   rw[nu,cw];have h:=af' (tk:=tk) xs (if x∈tk/\x∉cs then cs++ [x] else cs);have h2:(if x∈tk/\x∉cs then cs++ [x] else cs).length<=cs.length+1:=by
    split;·rw[cO];exact al _
    omega
   omega
theorem aga{T:List Bs}{B:Nat}{t:Nd}(h:Ni T B t){st:List ah}(a:yd t= .ok st):st.length<=4398046511104/\∀F∈st,F.ps.length<=4398046511104/\F.ls.length<=4398046511104/\F.cs.length<=4398046511104/\F.fs.length<=4398046511104:=by
 obtain⟨es,e⟩ : ∃es,es=(bj 0 fU t).1:=⟨_,rfl⟩;obtain⟨r,g⟩ : ∃r,r=ci (gG es,0) 0 false t:=⟨_,rfl⟩;have a:st=r.1.mapIdx λf F=>ku r.1 f F:=by
  unfold yd at a;simp only at a;rw[<-show fU=⟨0,false,false,false⟩ from rfl,<-e,<-g] at a;split at a;·cases a
  exact(Except.ok.inj a).symm
 have c:=h.fw;have j:=h.P;have n:=h.sl;rw[<-e] at c j n;obtain⟨k,b,_⟩:=M6 (T:=T) t (gG es,0) 0 false h.cl h.Tx;rw[<-g] at c k b;have d:=k j;have b:r.1.length=(gG es).length:=b;refine⟨by rw[a,List.length_mapIdx,b];omega,λF l=> ?_⟩;rw[a] at l;obtain⟨i,hi,rfl⟩:=List.mem_mapIdx.1 l;have m:=yy hi;obtain⟨o,p,_⟩:=c _ m;have b4:=d.fs _ m;have q:=MY b4.1 b4.2;have s:=h.Tl;have b3:=af' (tk:=uC r.1 i) (r.1[i].ps++r.1[i].ls) [];rw[cO] at b3;refine⟨by show r.1[i].ps.length<=_;omega,by show r.1[i].ls.length<=_;omega,?_,by show r.1[i].fs.length<=_;omega⟩;show(nu (uC r.1 i) (r.1[i].ps++r.1[i].ls) []).length<=_;rw[cX] at b3;omega
theorem arx{src:List UInt8}(h:(iO src).2.2=0):D3 (lJ (iO src).1):=by
 obtain⟨a,b⟩:=afP h;have c:nk (lJ (iO src).1)=nk (iO src).1:=by rw[b];exact WN cI 0 _
 rw[<-Ym,c,Ym];obtain⟨ln,l,e,hw,_,_⟩:=Yj h;rw[e];exact⟨⟨λe=>(by rcases e with e | e<;>cases e),λe=>(by cases e)⟩,Yo l hw⟩
end
section
open Go Go.RowKit
def RK (K0:CH)(len n:Nat)(v:ae)(a:CH):Prop:=∃i:Nat,n=len-i/\i<=len/\v= .int .i64 (i:Nat)/\ag K0 a
theorem Ns.hx{K K':CH}{ow:Ow}{r:Nat}{kd:Kd}{LL:List F7}{st:List ah}(h:Ns K ow r kd LL st)(hx:ag K K'):Ns K' ow r kd LL st:=⟨(hx.ob r h.rn).trans h.ob,cj h.rn hx.nx,h.len,λy a=>cj (h.lt y a) hx.nx,λi F L h1 h2=>(h.row i F L h1 h2).mv ⟨hx.nx,λ_ _=>rfl⟩ λy j h1 _ _=>hx.ob y h1,h.sm⟩
theorem ary{b n c j:Nat}(h2:j<=c)(h3:0<c):sX 1 (.slice (some ⟨b,0,none⟩) n c) ((0:Nat):Int) (j:Int) (c:Int) false=some (.slice (some ⟨b,0,none⟩) j c):=by
 unfold sX;simp only;rw[iP ⟨Om,Om,Om,Om⟩,iN Om];simp
theorem Yu{K:CH}{ow:Ow}{b:Nat×Nat}{a:Option Addr}{n c:Nat}{xs:List Bs}(h:jg K ow b (.slice a n c) xs)(aA:xs≠ []) : ∃r L kd,a=some ⟨r,0,none⟩/\r<K.nx/\K.ob r= .cells L 9 kd/\∀i (h:i<xs.length),L[i]? = some (.string (tx xs[i]))/\i<L.length:=by
 rcases h with ⟨h,_⟩ | ⟨r,kd,h1,h2,h3,h4,h5⟩
 ·exact absurd h aA
 cases h1;exact⟨r,_,kd,rfl,h3,h4,λi hi=>M7 (bM hi)⟩
theorem arz{H:CH}(hp:wG H){q:Option Addr}{c:Nat}{src:List UInt8}(cR : ∀st,(iO src).2.2=0->yd (lJ (iO src).1)= .ok st->st.length<=4398046511104/\(∀F∈st,F.ps.length<=4398046511104/\F.ls.length<=4398046511104/\F.cs.length<=4398046511104/\F.fs.length<=4398046511104)/\∀(f:Nat) (F:ah),st[f]? = some F->FnC st f F)(h:gU 1 (pG .u8) H q c (mF src)):aR B4 6 [.slice q src.length c] H λv K=>v= .bool true:=by
 refine du Rl Kr (aV ?_);refine aC ?_;rw[arb];refine aC ?_;refine(aq' (aoa h)).mono λv K ⟨vs,e,hx,os,e2,hs⟩=> ?_;subst e e2;obtain⟨n1,rfl⟩:=tz hs;have ht:=afK src;have hK:ag K ((K.new (.cells [.int .i64 0, .int .i64 0, .string ⟨⟨[]⟩⟩, .int .i64 0, .slice none 0 0] 26 .ex)).set K.nx (.cells [.int .i64 n1.k, .int .i64 n1.l, .string n1.x, .int .i64 n1.o, .slice n1.a n1.n n1.c] 26 .ex)):=((ag.refl K).new _).set (al _) _;by_cases bC:(iO src).2.2=0
 ·repeat' (first | (simp (disch:=first | omega | (decide +kernel)) only[↓RD,RU,↓aP,↓ez,↓aT,↓bf,cV,bP,pop,aD,da,bD,dV,fj,isVal,bu,dp,ρ0,ρ1,↓reduceIte,Nat.reduceEqDiff,Nat.reduceAdd,ρ5,ρ6,ρ7,ρ8,ρ15,ρ17,ρ18,ρ21,ρ22,ρ23,Kd.cD,ρ25,ρ26,fD,bC]) | ((with_reducible first|apply aF|apply aG|apply aH)<;>intro _))
  refine(ara (aqd (B:=100000) de ht.2.1 ht.2.2.1 ht.1 ht.2.2.2 (Rz bC) (A:=λb=>H.nx<=b/\b<K.nx) (hs.mv λb hb=>⟨hb,hK.ob b hb.2⟩) (λb hb=>Nat.lt_succ_of_lt hb.2) ((hp.hx hx).hx hK))).mono λv K2 ⟨dt,M⟩=> ?_;cases hc:yd (lJ (iO src).1) with
  | error l=>
    rw[hc] at M;have M:v= .tuple #[.slice none 0 0, .int .i64 l, .int .i64 23]:=M;subst M;exact aZ
  | ok st=>
    rw[hc] at M;obtain⟨ow,r,kd,LL,ev,pD,arA,Fu,fc,Le,eT⟩:=M;subst ev;obtain⟨s1,s2,AF⟩:=cR st bC hc;have hR:Ns K2 ow r kd LL st:=⟨Fu,(pD r (by rw[arA];simp)).2,Le,λy I=>(pD y I).2,eT,s1,s2⟩;refine aC ?_;refine fC (λn fr m=>RK K2 st.length n (fr 8) m) (n:=st.length) ⟨0,rfl,cx _,by(refine aC ?_;all_goals rfl),ag.refl _⟩ ?_;rintro n fr m ⟨f,rfl,hi,f8,gF⟩ d;by_cases aw:f<st.length
    ·have Yv:=hR.hx gF;obtain⟨F,hF⟩ : ∃F,st[f]? = some F:=⟨_,bM aw⟩;obtain⟨L,hL⟩ : ∃L,LL[f]? = some L:=⟨_,bM (by rw[Le];exact aw)⟩;obtain⟨b1,b2,b3,b4⟩:=s2 F (fi hF);obtain⟨hd,l9⟩:=Yk hL;obtain⟨vp,vl,vc,vf,eL,rp,rl,rc,rf⟩:=Yv.row f F L hF hL;rw[eL] at hd;have ai:=Yv.ob;have N:=AF f F hF;obtain⟨aO,jL⟩:=N.par;obtain⟨pa,rfl⟩:=tM rp;obtain⟨la,rfl⟩:=tM rl;obtain⟨ca,rfl⟩:=tM rc;obtain⟨fa,rfl⟩:=tM rf;obtain⟨O,jw⟩ : ∃O,O=(m.new (.cells [.string ⟨⟨[]⟩⟩, .int .i64 0, .slice none 0 0, .slice none 0 0, .slice none 0 0, .slice none 0 0, .bool false] 40 .ex)).set m.nx (.cells [.string (tx F.nm), .int .i64 F.par, .slice pa F.ps.length F.ps.length, .slice la F.ls.length F.ls.length, .slice ca F.cs.length F.cs.length, .slice fa F.fs.length F.fs.length, .bool F.gen] 40 .ex):=⟨_,rfl⟩;have dF:ag m O:=by rw[jw];exact((ag.refl m).new _).set (al _) _
     have tK:O.ob m.nx= .cells [.string (tx F.nm), .int .i64 F.par, .slice pa F.ps.length F.ps.length, .slice la F.ls.length F.ls.length, .slice ca F.cs.length F.cs.length, .slice fa F.fs.length F.fs.length, .bool F.gen] 40 .ex:=by rw[jw,bP,iP rfl]
     have tp:O.nx=m.nx+1:=by rw[jw];rfl
     have arB : ¬F.par>=(f:Int):=by omega
     have V:f=0->F.fs.length=0:=λe=>by rw[N.fs0 e];rfl
     have kN:=N.main;by_cases J:f=0
     focus
      have W:F.par<0:=kN.2 J;have uY:=V J;have hz:fr 8= .int .i64 0:=by rw[f8,J];rfl
      have Hf:=hd;rw[J] at Hf;have X:0*7+7<=(LL.flatMap uK).length:=by omega
      have aL:0<st.length:=by omega
      have CZ : ¬F.par>=0:=by omega
      have s7 : ¬(F.fs.length:Int)>0:=by omega
      refine rn (Eh @d @hz @ai @Hf @X @CZ @W @s7 @aL) ?_;clear W uY hz Hf X aL CZ s7 J
     rotate_left
     focus
      have W : ¬F.par<0:=λg=>J (kN.1 g);have Y : ¬(f:Int)=0:=by omega
      repeat' (first | (simp (disch:=first | omega | (decide +kernel)) only[↓RD,RU,↓aP,↓ez,↓aT,↓bf,cV,bP,pop,aD,da,bD,fj,isVal,bu,dp,ρ2,↓reduceIte,Nat.reduceEqDiff,Nat.reduceAdd,reduceCtorEq,ρ5,ρ6,ρ7,ρ8,ρ17,ρ21,ρ22,ρ23,Kd.cD,ρ25,ρ26,ρ29,d,f8,ai,hd,l9,arB,W,Y]) | ((with_reducible first|apply aF|apply aG|apply aH)<;>intro _))
      clear W Y J
     all_goals
      clear V kN;rw[<-jw];refine fC (λn EK K4=>RK O F.fs.length n (EK 10) K4) (n:=F.fs.length) ⟨0,rfl,cx _,by(refine aC ?_;all_goals rfl),ag.refl _⟩ ?_;rintro n EK K4 ⟨i,rfl,hi4,f10,Z⟩ s;have zw:=dF.trans Z;have hR4:=Yv.hx zw;have P:=(Z.ob m.nx Om).trans tK;by_cases Nv:i<F.fs.length
      ·obtain⟨r4,L4,kd4,rfl,hr4n,Q,XJ⟩:=Yu rf λe=>by rw[e] at Nv;exact absurd Nv (fM _)
       have Q:=(zw.ob r4 hr4n).trans Q;obtain⟨t,u⟩:=XJ i Nv;obtain⟨hk,hj⟩:=N.fr i F.fs[i] (bM Nv);refine rn (rT @d @s @f10 @P @Q @t @u) ?_;refine(afS hR4 Om F.fs[i]).mono λv K5 ⟨w,e5⟩=> ?_;subst e5;have asJ:=zw.nx;have BI:=Z.nx;have zy:=w.nx;have z:=(w.ob m.nx Om).trans P;have C:=(w.ob r4 Om).trans Q;refine rn (xf @d @f8 @s @f10 @P @Q @t @u @z @C) ?_;refine(afS (hR4.hx w) (f:=(f:Int)) Om F.fs[i]).mono λv R ⟨G,e6⟩=> ?_;subst e6;rw[hj];have hn6:=G.nx;have S:=(G.ob m.nx Om).trans z;have D:=(G.ob r4 Om).trans C;rcases hk with hk | hk
       all_goals
        rw[hk];refine rn (yB @d @f8 @s @f10 @P @Q @t @u @z @C @S @D) ?_;exact⟨F.fs.length-(i+1),Om,i+1,rfl,Nv,rfl,(Z.trans w).trans G⟩
      refine rn (gK @s @f10 @P) ?_;have BI:=Z.nx;refine fC (λn td K5=>RK K4 F.cs.length n (td 15) K5) (n:=F.cs.length) ⟨0,rfl,cx _,by(refine aC ?_;all_goals rfl),ag.refl _⟩ ?_;rintro n td K5 ⟨i5,rfl,hi5,f15,w⟩ E;have T:=zw.trans w;have zy:=w.nx;have z:=(w.ob m.nx Om).trans P;have rp5:=(rp.mv (bY:=ow) ⟨T.nx,λ_ _=>rfl⟩ λy I _=>T.ob y I).rd;have rl5:=(rl.mv (bY:=ow) ⟨T.nx,λ_ _=>rfl⟩ λy I _=>T.ob y I).rd;by_cases U:i5<F.cs.length
      ·obtain⟨r5,L5,kd5,rfl,hr5n,C,hL5⟩:=Yu rc λe=>by rw[e] at U;exact absurd U (fM _)
       have C:=(T.ob r5 hr5n).trans C;obtain⟨t,u⟩:=hL5 i5 U;refine rn (oA @d @s @E @f15 @z @C @t @u) ?_;refine(RB rp5 b1 F.cs[i5]).mono λv R ⟨e6,e⟩=> ?_;subst e;rw[e6];by_cases hm:F.cs[i5]∈F.ps
       ·rw[decide_eq_true hm];refine rn (oA @d @s @E @f15 @z @C @t @u) ?_;exact⟨F.cs.length-(i5+1),Om,i5+1,rfl,U,rfl,w⟩
       rw[decide_eq_false hm];refine rn (oA @d @s @E @f15 @z @C @t @u) ?_;refine(RB rl5 b2 F.cs[i5]).mono λv K7 ⟨e7,e⟩=> ?_;subst e;rw[e7,decide_eq_true ((N.cs _ (yy U)).resolve_left hm)];refine rn (oA @d @s @E @f15 @z @C @t @u) ?_;exact⟨F.cs.length-(i5+1),Om,i5+1,rfl,U,rfl,w⟩
      refine rn (iD @d @s @E @f15 @z) ?_;refine fC (λn fr6 R=>RK K5 F.ls.length n (fr6 16) R) (n:=F.ls.length) ⟨0,rfl,cx _,by(refine aC ?_;all_goals rfl),ag.refl _⟩ ?_;rintro n fr6 R ⟨i6,rfl,hi6,f16,G⟩ RL;have RM:=T.trans G;have S:=(G.ob m.nx Om).trans z;have rp6:=(rp.mv (bY:=ow) ⟨RM.nx,λ_ _=>rfl⟩ λy I _=>RM.ob y I).rd;by_cases Nw:i6<F.ls.length
      ·obtain⟨r6,L6,kd6,rfl,hr6n,D,hL6⟩:=Yu rl λe=>by rw[e] at Nw;exact absurd Nw (fM _)
       have D:=(RM.ob r6 hr6n).trans D;obtain⟨t,u⟩:=hL6 i6 Nw;obtain⟨dT,cA⟩:=N.ls i6 F.ls[i6] (bM Nw);refine rn (Eh @d @s @E @RL @f16 @S @D @t @u) ?_;refine(RB rp6 b1 F.ls[i6]).mono λv K7 ⟨e7,e⟩=> ?_;subst e;rw[e7,decide_eq_false dT];have age:pT R 9 (.slice (some ⟨r6,0,none⟩) F.ls.length F.ls.length)=true:=by simp only[pT,D];cases kd6<;>rfl
       have agf:=ary (b:=r6) (n:=F.ls.length) (c:=F.ls.length) (j:=i6) Om Om;have rt6:RA R (.slice (some ⟨r6,0,none⟩) i6 F.ls.length) (F.ls.take i6):=⟨_,_,by rw[ny,Nat.min_eq_left hi6],λ_=>⟨r6,L6,kd6,rfl,D,λi h=>by
        rw[ny] at h;rw[RN];exact hL6 i Om⟩⟩
       refine rn (Sb @d @s @E @RL @f16 @S @D @t @u @age @agf) ?_;refine(RB rt6 (by rw[ny];omega) F.ls[i6]).mono λv K8 ⟨e8,e⟩=> ?_;subst e;rw[e8,decide_eq_false cA];refine rn (Sb @d @s @E @RL @f16 @S @D @t @u @age @agf) ?_;exact⟨F.ls.length-(i6+1),Om,i6+1,rfl,Nw,rfl,G⟩
      refine rn (rT @d @f8 @s @E @RL @f16 @S) ?_;exact⟨st.length-(f+1),Om,f+1,rfl,aw,rfl,gF.trans RM⟩
    exact rz (an @d @f8)
 repeat' (first | (simp (disch:=first | omega | (decide +kernel)) only[↓RD,RU,↓aP,↓ez,↓aT,↓bf,cV,pop,da,bD,bT,jc,dV,fj,isVal,bu,dp,↓reduceIte,Nat.reduceEqDiff,Nat.reduceAdd,ρ5,ρ6,ρ7,ρ8,ρ17,ρ21,ρ22,ρ23,Kd.cD,ρ25,ρ26,fD]) | ((with_reducible first|apply aF|apply aG|apply aH)<;>intro _))
theorem agy{H:CH}(hp:wG H){q:Option Addr}{c:Nat}{xs:List Int}(h:gU 1 (pG .u8) H q c xs):aR B4 6 [.slice q xs.length c] H λv _=>v= .bool true:=by
 obtain⟨a,rfl⟩:=aq7 h;rw[Dd];exact arz hp (λst h1 h2=>⟨(aga (Rz h1) h2).1,(aga (Rz h1) h2).2,ars (Rz h1) (arx h1) h2⟩) h
end
section
open Go Go.RowKit Go.Lib
theorem agz{w:World}{l:List (String×DataW Unit)}(h:laidMetH Tryz.prog l w)(hp:(l.all λx=>x.2.handleName?.isNone)=true)(b:("internal/strconv.uint64pow10",(Rows.laid_internal_strconv_uint64pow10:DataW Unit))∈l):wG (tU w):=by
 have c:l.filter (λx=>x.2.handleName?.isSome)= []:=List.filter_eq_nil_iff.2 λx hx=>by
  have:=List.all_eq_true.1 hp x hx;cases d:x.2.handleName? with
  | none=>simp
  | some y=>rw[d] at this;cases this
 unfold laidMetH at h;rw[c] at h;obtain⟨g,t,cs,fuel,p,hg,i,a,hd⟩:=laidMet.reads h b;obtain rfl:=Option.some.inj ((show Tryz.prog.globalNamed "internal/strconv.uint64pow10" = some 0 by kernel_rfl).symm.trans hg);obtain rfl:=Option.some.inj ((show(Tryz.prog.globals[0]?).map (·.type)=some 143 by kernel_rfl).symm.trans i);have e:(Rows.laid_internal_strconv_uint64pow10:DataW Unit)=tabData .u64 pow10Tab:=by rfl
 rw[e] at hd;have j:=cells_of_tab Tryz.underlying143 Tryz.underlying132 Kr Kr hd;unfold World.var? at a;rw[hg] at a;simp only[Option.bind_some] at a;cases hb:w.heap[0]? with
 | none=>rw[hb] at a;cases a
 | some ob=>
   rw[hb] at a;cases ob with
   | cells cs' t' fr=>
     cases a;refine⟨(Array.getElem?_eq_some_iff.1 hb).1,0,?_⟩;unfold tU;simp only[hb,j];congr 1
     rw[List.map_map];exact List.map_congr_left λz _=>by
      show mask (kU w) (.int .u64 z)=_;unfold mask;rw[iP (show VR (kU w) (cz (.int .u64 z)) (.int .u64 z) from .int .u64 z)];rfl
   | _=>cases a
end
end Can
end Go.Proofs.YticlaccbodpkeaaGreatDoor
