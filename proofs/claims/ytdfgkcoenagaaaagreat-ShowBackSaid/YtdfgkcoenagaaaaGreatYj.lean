/- The round trip: a token's piece is that token again, if what stands behind it ends it. No program in sight. The round trip: lines of pieces, blocks of lines; what Lex answers for them. No program in sight. The round trip: the lines of a rule's pieces are cut into tokens again: expressions. No program in sight. The round trip: the pieces of lists, calls, displays, operators are cut into tokens again. No program in sight. The round trip: the pieces of displays and operators are cut into tokens again. No program in sight. The round trip: the pieces of statements are lines and blocks. No program in sight. The round trip: how long the text of a tree is. No program in sight. The round trip: the text of a tree is no longer than its bound. No program in sight. The round trip: the text of a tree is no longer than its bound: operators and statements. No program in sight. The round trip: a tree's bound is paid by its tokens. No program in sight. The round trip: each rule pays for the nodes that it answers. No program in sight. The round trip: the tokens of a short source pay for no more than a text has room. No program in sight. The round trip: what Show prints of a short source's tree is read as that tree. No program in sight. Show: ShowBack walked. -/
import Derived.Test.YtdfgkcoenagaaaaGreatYa
import Derived.Test.YtdfgkcoenagaaaaGreatYh
import Derived.Test.YtdfgkcoenagaaaaGreatYi
import Derived.Test.YtdfgkcoenagaaaaGreatYe
open Bool renaming false_and → NK, false_eq_true → aM, true_and → zm
open List renaming append_assoc → aG, append_nil → cp, cons_append → aS, cons_ne_nil → xy, dropWhile_cons → Jv, drop_left' → AS, drop_succ_cons → FJ, drop_zero → sg, getElem?_append_right → th, getLast?_singleton → gS, length_append → bW, length_cons → ay, length_drop → iE, length_nil → aF, length_replicate → Ju, length_take → nP, map_append → ql, map_cons → dk, mem_append → fo, mem_cons → js, nil_append → a6, not_mem_nil → zo, replicate → kR, replicate_succ → Df, take_append_drop → xu, take_left' → Dg, take_of_length_le → qk
open Nat renaming add_assoc → jS, add_zero → qQ, le_refl → ag, lt_or_ge → pv, not_lt_zero → tj, sub_self → Jo, zero_add → iX, zero_le → eZ
open Option renaming map_eq_some_iff → jT, map_some → fm
open UInt8 renaming ofNat → al
set_option maxHeartbeats 4000000
set_option linter.unusedSimpArgs false
set_option linter.unusedVariables false
namespace Go.Proofs.YtdfgkcoenagaaaaGreat
namespace Can
section
def Fx:List (List UInt8):= [[40],[41],[91],[93],[123],[125],[44],[58],[46]]
def vM (k:Nat)(x:List UInt8)(c:Nat):Prop:=(k=4\/k=8->ej c=false)/\(k=5\/k=6->ej c=false/\c≠46)/\(k=9->x∈Fx\/(c≠61/\c≠42/\c≠47))
def pk(k:Nat)(x:List UInt8):Prop:=(∀r,vM k x (hd r)->fp ((Pc.tk k x).tx++r)=some (k,x,(Pc.tk k x).tx.length))/\(∃c u,(Pc.tk k x).tx=c::u/\c.toNat≠32/\c.toNat≠35)/\∀c∈(Pc.tk k x).tx,c.toNat≠10
theorem ana{D F E R:List UInt8}(v:AE D)(o:Nj F)(q:Nk E)(d:ej (hd R)=false)(r2:hd R≠46):cq (D++F++E++R)=D.length/\iH ((D++F++E++R).drop D.length)=F.length/\eR ((D++F++E++R).drop (D.length+F.length))=E.length:=by
 have rd:bA (hd R)=false:=by unfold ej at d;simp at d;exact d.2
 have r:fJ (hd R)=false:=by unfold ej at d;simp at d;exact d.1
 have w:hd R≠101:=λe=>by rw[e] at r;revert r;decide
 have t:hd (E++R)=hd R\/hd (E++R)=101:=by
  rcases q with rfl | ⟨c,G,k | ⟨s,_,k⟩,b,_⟩
  ·exact .inl rfl
  ·rw[k];exact .inr b
  rw[k];exact .inr b
 have u:bA (hd (E++R))=false:=by
  rcases t with g | g<;>rw[g]
  ·exact rd
  decide
 have f0:bA (hd (F++(E++R)))=false:=by
  rcases o with rfl | ⟨c,G,rfl,b,_⟩
  ·exact u
  show bA c.toNat=false;rw[b];decide
 have d1:(D++F++E++R).drop D.length=F++(E++R):=by
  rw[aG,aG,AS rfl]
 have d2:(D++F++E++R).drop (D.length+F.length)=E++R:=by
  rw[aG,AS s0]
 refine⟨?_,?_,?_⟩;·rw[aG,aG];exact xf f0 v
 ·rw[d1];rcases o with rfl | ⟨c,G,rfl,b,l,j⟩
  ·unfold iH;rw[iN (λg=>by
    have:=g.1;rcases t with h | h<;>rw[a6,h] at this
    ·exact r2 this
    cases this)];rfl
  have m:hd (G++(E++R))=hd G:=zd l;have n:bA (hd G)=true:=by cases G with
   | nil=>exact absurd rfl l
   | cons a G=>exact j a s0
  unfold iH;rw[iP ⟨b,by show bA (hd (G++_))=true;rw[m];exact n⟩];show 1+nW bA (G++_)=_;rw[xf u j];simp;omega
 rw[d2];rcases q with rfl | ⟨c,G,k,b,l,j⟩
 ·unfold eR;rw[iN (by rw[a6];exact w)];rfl
 have m:hd (G++R)=hd G:=zd l;have n:bA (hd G)=true:=by cases G with
  | nil=>exact absurd rfl l
  | cons a G=>exact j a s0
 rcases k with rfl | ⟨s,hs,rfl⟩
 ·unfold eR;rw[iP (show hd (c::G++R)=101 from b),iP (by show bA (hd (G++_))=true;rw[m];exact n)];show 1+nW bA (G++_)=_;rw[xf rd j];simp;omega
 unfold eR;rw[iP (show hd (c::s::G++R)=101 from b),iN (by show ¬bA s.toNat=true;rcases hs with g | g<;>rw[g]<;>decide),iP ⟨hs,by show bA (hd (G++_))=true;rw[m];exact n⟩];show 2+nW bA (G++_)=_;rw[xf rd j];simp;omega
theorem S4{k:Nat}{x:List UInt8}(h:k≠7):(Pc.tk k x).tx=x:=iN h
theorem anb{l:List UInt8}(d:bA (hd l)=true)(hb:bZ l=false):pk (dw l) (l.take (a8 l)):=by
 have hg:=am9 d hb;obtain⟨D,e⟩ : ∃D,l.take (cq l)=D:=⟨_,rfl⟩;obtain⟨b,g⟩ : ∃b,l.drop (cq l)=b:=⟨_,rfl⟩;obtain⟨F,w⟩ : ∃F,b.take (iH b)=F:=⟨_,rfl⟩;obtain⟨a,x⟩ : ∃a,b.drop (iH b)=a:=⟨_,rfl⟩;obtain⟨E,z⟩ : ∃E,a.take (eR a)=E:=⟨_,rfl⟩;have A:D.length=cq l:=by rw[<-e];have:=uM (l:=l);simp;omega
 obtain⟨B,j⟩:=abK b;obtain⟨C,m⟩:=abL a;have Q:AE D:=by rw[<-e];exact I4.1
 have G:D≠ []:=by rw[<-e];exact(AF d).1
 rw[w] at B j;rw[z] at C m;have hA:hC l=D.length+F.length:=by unfold hC;rw[g,A,j]
 have H:l.drop (hC l)=a:=by rw[<-x,<-g,List.drop_drop,hA,A,j,<-g]
 have I:a8 l=D.length+F.length+E.length:=by unfold a8;rw[H,hA,m]
 have hx:l.take (a8 l)=D++F++E:=by
  have S:l=D++b:=by rw[<-e,<-g,xu]
  have T:b=F++a:=by rw[<-w,<-x,xu]
  have U:a=E++a.drop (eR a):=by rw[<-z,xu]
  rw[I];have V:l=D++F++E++a.drop (eR a):=by rw[aG,<-U,aG,<-T,<-S]
  rw[V,Dg (by simp only[bW])]
 have n:dw l=if F.length=0/\E.length=0 then 5 else 6:=by unfold dw;rw[g,H,j,m]
 have J:dw l≠7:=by rw[n];split<;>decide
 have W:dw l=5\/dw l=6:=by rw[n];split<;>simp
 rw[hx] at hg⊢
 have X : ∀y,hd (D++F++E++y)=hd l:=λy=>by
  rw[aG,aG,zd G,<-e,I3 (AF d).2]
 have Y:fJ (hd l)=false:=by
  unfold bA at d;unfold fJ;simp at d⊢;omega
 have K:AD (dw l) (D++F++E)=D++F++E++ [al 32]:=by unfold AD;rw[iN J]
 unfold pk;rw[S4 J];refine⟨λR Z=> ?_,?_,?_⟩
 ·obtain⟨k,r2⟩:=Z.2.1 W;obtain⟨o,q,r⟩:=ana (R:=R) Q B C k r2;obtain⟨L,s⟩ : ∃L,D++F++E++R=L:=⟨_,rfl⟩;have t:=X R;rw[s] at o q r t⊢
  have M:hC L=D.length+F.length:=by unfold hC;rw[o,q]
  have v:a8 L=D.length+F.length+E.length:=by unfold a8;rw[M,r]
  have wF:L.drop (cq L)=L.drop D.length:=by rw[o]
  have wE:L.drop (hC L)=L.drop (D.length+F.length):=by rw[M]
  have N:dw L=dw l:=by rw[n];unfold dw;rw[wF,wE,q,r]
  have wd:L.drop (a8 L)=R:=by
   rw[v,<-s,AS Sq]
  have wb:bZ L=false:=by
   unfold bZ at hb⊢;rw[wd,v,N,t];rw[I] at hb;simp only[Bool.or_eq_false_iff] at hb⊢;refine⟨⟨⟨?_,decide_eq_false r2⟩,hb.1.2⟩,hb.2⟩;unfold ej at k;simp at k;exact k.1
  unfold fp;rw[t,iN (by rw[Y];decide),iP d,iN (by rw[wb];decide),N,v];have:L.take (D.length+F.length+E.length)=D++F++E:=by rw[<-s,Dg Sq]
  rw[this];simp only[bW]
 ·obtain⟨c,u,h1,h2⟩:=hg.2.1;rw[K] at h1;cases O:D++F++E with
  | nil=>simp[G] at O
  | cons c' u'=>
    rw[O] at h1;cases h1;exact⟨c,u',rfl,h2⟩
 intro c hc;exact hg.2.2 c (by rw[K];simp only[fo];exact .inl (by simpa only[fo] using hc))
theorem abO{x:List UInt8}(h:fJ (hd x)=true)(g : ∀c∈x,ej c.toNat=true):pk (if x∈jV then 8 else 4) x:=by
 have av:x≠ []:=by rintro rfl;cases h
 have a:(if x∈jV then 8 else 4)≠7:=by split<;>decide
 unfold pk;rw[S4 a];refine⟨λR b=> ?_,?_,λc hc=>(abM (g c hc)).1⟩;·have d:ej (hd R)=false:=b.1 (by split<;>simp);have hn:nW ej (x++R)=x.length:=xf d g;unfold fp;rw[zd av,iP h,hn,Dg rfl]
 cases x with
 | nil=>exact absurd rfl av
 | cons c u=>exact⟨c,u,rfl,(abM (g c s0)).2⟩
theorem AG{x:List UInt8}(h:x∈jV):pk 8 x:=by
 have:=abO ((by decide : ∀x∈jV,fJ (hd x)=true) x h) ((by decide : ∀x∈jV,∀c∈x,ej c.toNat=true) x h);rwa [iP h] at this
theorem ane{l:List UInt8}(h:fJ (hd l)=true):pk (if l.take (nW ej l)∈jV then 8 else 4) (l.take (nW ej l)):=by
 obtain⟨a,_⟩:=SX (p:=ej) de (l:=l);have b:0<nW ej l:=by
  cases l with
  | nil=>cases h
  | cons c r=>rw[nW,iP (show ej c.toNat=true by unfold ej;rw[show fJ c.toNat=true from h];rfl)];omega
 exact abO (by rw[I3 b];exact h) a
theorem CJ{x:List UInt8}(h:x∈S3++S2++S1.map (λc=> [c])):pk 9 x:=by
 obtain⟨h1,h2,h3,⟨c,u,hx⟩,h5,m,r⟩:=am' x h;have av:x≠ []:=by rw[hx];simp
 unfold pk;rw[S4 de];refine⟨λR s=> ?_,⟨c,u,hx,by rw[hx] at h5;exact h5,by rw[hx] at m;exact m⟩,r⟩;have hs:lB (x++R)=some x.length:=by
  have d:=s.2.2 rfl;rcases List.mem_append.1 h with h | h
  ·rcases List.mem_append.1 h with h | h
   ·have hl:x.length=3:=(by decide : ∀x∈S3,x.length=3) _ h;unfold lB;rw[Dg hl,iP h,hl]
   have hl:x.length=2:=(by decide : ∀x∈S2,x.length=2) _ h;have t:x∉Fx:=(by decide : ∀x∈S2,x∉Fx) _ h;obtain⟨j,k,l⟩:=d.resolve_left t;unfold lB;have h3:(x++R).take 3∉S3:=by
    cases R with
    | nil=>
      rw[cp,qk Om];exact(by decide : ∀x∈S2,x∉S3) _ h
    | cons a R=>
      have e:(x++a::R).take 3=x++ [a]:=by rw[List.take_append,hl,qk Om];rfl
      rw[e];intro b;have:=(by decide : ∀y∈S3,y[2]? = some (al 61)) _ b;rw[th Om,hl] at this;simp at this;exact j (by rw[show hd (a::R)=a.toNat from rfl,this];rfl)
   rw[iN h3,Dg hl,iP h,hl]
  obtain⟨c,hc,rfl⟩:=List.mem_map.1 h;unfold lB;have q : ∀y,y∈S3\/y∈S2->∀a n,y=c::a::n->hd R=a.toNat->False:=by
   intro y o a n e v;rcases d with d | ⟨j,k,l⟩
   ·have : ∀y∈S3++S2,∀z∈Fx,y.head? ≠z.head? :=by decide
    exact this y (List.mem_append.2 o) [c] d (by rw[e];rfl)
   have : ∀y∈S3++S2,y[1]? = some (al 61)\/y[1]? = some (al 42)\/y[1]? = some (al 47):=by decide
   have:=this y (List.mem_append.2 o);rw[e] at this;simp at this;rcases this with g | g | g<;>rw[v,g] at j k l
   ·exact j rfl
   ·exact k rfl
   exact l rfl
  have w:([c]++R).take 3∉S3:=λb=>by
   cases R with
   | nil=>exact absurd ((by decide : ∀y∈S3,y.length=3) _ b) s0
   | cons a R=>exact q _ (.inl b) a (R.take 1) rfl rfl
  have n2:([c]++R).take 2∉S2:=λb=>by
   cases R with
   | nil=>exact absurd ((by decide : ∀y∈S2,y.length=2) _ b) s0
   | cons a R=>exact q _ (.inr b) a [] rfl rfl
  rw[iN w,iN n2,iP (show hd ([c]++R)∈S1.map UInt8.toNat from List.mem_map.2 ⟨c,hc,rfl⟩)];rfl
 have hh:hd (x++R)=hd x:=zd av;unfold fp;rw[hh,iN (by rw[h1];decide),iN (by rw[h2];decide),iN h3,hs];simp only[fm];rw[Dg rfl]
theorem Nn{c:UInt8}{x:List UInt8}:gj (c::x)=(iC c).flatten++gj x:=by simp[gj]
theorem anf : ∀n,n<32->mU ((lP.getD (n / 16) 0).toNat)=n / 16/\mU ((lP.getD (n % 16) 0).toNat)=n % 16:=by decide
theorem abP{r:List UInt8} : ∀ {f:Nat} {x:List UInt8},x.length<f->gM 34 f (gj x++al 34::r)=some (x,(gj x).length+1)
 | 0,x,h=>absurd h Om
 | f+1,[],_=>by
   simp only[gM,gj,List.flatMap_nil,a6];rw[iP (by show 34=34;rfl)];rfl
 | f+1,c::x,h=>by
   have o:gM 34 f (gj x++al 34::r)=some (x,(gj x).length+1):=abP (by simp at h;omega);have key : ∀(b:Nat) (e:List UInt8),(iC c).flatten=92::e->(∀t,ie (e++t)=some (b,e.length))->al b=c->gM 34 (f+1) (gj (c::x)++al 34::r)=some (c::x,(gj (c::x)).length+1):=by
    intro b e h1 h2 h3;rw[Nn,h1,aG,aS];simp only[gM];have hh:hd (92::(e++(gj x++al 34::r)))=92:=rfl;rw[hh,iN de,iN de,iN de];have j:(92::(e++(gj x++al 34::r)):List UInt8).drop 1=e++(gj x++al 34::r):=rfl;have q:(92::(e++(gj x++al 34::r)):List UInt8).drop (1+e.length)=gj x++al 34::r:=by
     rw[Nat.add_comm,FJ,AS rfl]
    rw[j,h2];simp only[q,o,fm,h3];simp;omega
   by_cases k:c=10
   ·subst k;exact key 10 [110] rfl (λt=>rfl) rfl
   by_cases l:c=9
   ·subst l;exact key 9 [116] rfl (λt=>rfl) rfl
   by_cases a:c=34
   ·subst a;exact key 34 [34] rfl (λt=>rfl) rfl
   by_cases d:c=92
   ·subst d;exact key 92 [92] rfl (λt=>rfl) rfl
   by_cases g:c.toNat<32
   ·have m:(iC c).flatten= [92,120,lP.getD (c.toNat / 16) 0,lP.getD (c.toNat % 16) 0]:=by
     unfold iC;rw[iN k,iN l,iN (by simp[a,d]),iP g];rfl
    obtain⟨s,u⟩:=anf c.toNat g;refine key c.toNat _ m (λt=> ?_) s0;unfold ie;have v:hd ([120,lP.getD (c.toNat / 16) 0,lP.getD (c.toNat % 16) 0]++t)=120:=rfl;have w:hd (([120,lP.getD (c.toNat / 16) 0,lP.getD (c.toNat % 16) 0]++t).drop 1)=(lP.getD (c.toNat / 16) 0).toNat:=rfl;have y:hd (([120,lP.getD (c.toNat / 16) 0,lP.getD (c.toNat % 16) 0]++t).drop 2)=(lP.getD (c.toNat % 16) 0).toNat:=rfl;rw[v,w,y,s,u,iP rfl,iP ⟨Om,Om⟩];simp only[ay,aF,Option.some.injEq,Prod.mk.injEq];exact⟨Nat.div_add_mod c.toNat 16,trivial⟩
   have m:(iC c).flatten= [c]:=by
    unfold iC;rw[iN k,iN l,iN (by simp[a,d]),iN g];rfl
   rw[Nn,m];simp only[aS,a6,gM];have hh:hd (c::(gj x++al 34::r))=c.toNat:=rfl;have z:c.toNat≠34:=λe=>a (UInt8.toNat.inj (by rw[e];rfl));have n:c.toNat≠92:=λe=>d (UInt8.toNat.inj (by rw[e];rfl));rw[hh,iN z,iN g,iP n];have j:(c::(gj x++al 34::r)).drop 1=gj x++al 34::r:=rfl;rw[j,o];simp
theorem ang : ∀x:List UInt8,∀c∈gj x,c.toNat≠10:=by
 intro x c hc;unfold gj at hc;obtain⟨b,_,hb⟩:=List.mem_flatMap.1 hc;obtain⟨y,a,d⟩:=List.mem_flatten.1 hb;have j : ∀n,(lP.getD n 0).toNat≠10:=λn=>by
  rcases pv n 16 with h | h
  ·exact(by decide : ∀n,n<16->(lP.getD n 0).toNat≠10) n h
  have e:lP.getD n 0=0:=by rw[List.getD_eq_getElem?_getD,List.getElem?_eq_none (by show 16<=n;exact h)];rfl
  rw[e];decide
 unfold iC at a;split at a;·simp at a;subst a;simp at d;rcases d with rfl | rfl<;>decide
 rename_i g;split at a;·simp at a;subst a;simp at d;rcases d with rfl | rfl<;>decide
 split at a
 ·rename_i h;simp at a;rcases a with rfl | rfl<;>simp at d<;>subst d
  ·decide
  rcases h with rfl | rfl<;>decide
 split at a
 ·simp at a;rcases a with rfl | rfl | rfl
  ·simp at d;rcases d with rfl | rfl<;>decide
  ·rw[List.mem_singleton.1 d];exact j _
  rw[List.mem_singleton.1 d];exact j _
 simp at a;subst a;rw[List.mem_singleton.1 d];exactλe=>g (UInt8.toNat.inj (by rw[e];rfl))
theorem abQ : ∀x:List UInt8,x.length<=(gj x).length
 | []=>ag _
 | c::x=>by
   rw[Nn,bW,ay];have:1<=(iC c).flatten.length:=by
    unfold iC;repeat' split
    all_goals simp
   have:=abQ x;omega
theorem anh(x:List UInt8):pk 7 x:=by
 have a:(Pc.tk 7 x).tx=34::(gj x++ [34]):=rfl;unfold pk;rw[a];refine⟨λR _=> ?_,⟨_,_,rfl,de,de⟩,?_⟩
 ·have e:(34::(gj x++ [34])++R:List UInt8)=34::(gj x++34::R):=by simp
  rw[e];unfold fp;have hh:hd (34::(gj x++34::R))=34:=rfl;rw[hh,iN de,iN de,iP de];show Option.map _ (lX 34 (gj x++34::R))=_;unfold lX;have hl:=abQ x;have:=abP (r:=R) (f:=(gj x++34::R).length+1) (x:=x) Sq;rw[show(al 34::R)=34::R from rfl] at this;rw[this];simp
 intro c hc;rcases List.mem_cons.1 hc with rfl | hc
 ·decide
 rcases List.mem_append.1 hc with hc | hc
 ·exact ang x c hc
 rw[List.mem_singleton.1 hc];decide
theorem CK{k:Nat}{x:List UInt8}(h:iV k x):pk k x:=by
 obtain⟨l,n,h⟩:=h;unfold fp at h;split at h;·rename_i g;cases h;exact ane g
 split at h
 ·rename_i g;split at h;·cases h
  rename_i hb;cases h;exact anb g (by simpa using hb)
 split at h
 ·cases ht:lX (hd l) (l.drop 1) with
  | none=>rw[ht] at h;cases h
  | some y=>rw[ht] at h;cases h;exact anh _
 cases ht:lB l with
 | none=>rw[ht] at h;cases h
 | some y=>
   rw[ht] at h;cases h;refine CJ ?_;unfold lB at ht;split at ht;·rename_i g;cases ht;simp only[fo];exact .inl (.inl g)
   split at ht;·rename_i g;cases ht;simp only[fo];exact .inl (.inr g)
   split at ht
   ·rename_i g;cases ht;cases l with
    | nil=>exact absurd g de
    | cons c u=>
      have hc:c∈S1:=by
       obtain⟨y,a,e⟩:=List.mem_map.1 g;rwa [<-UInt8.toNat.inj e]
      simp only[fo];exact .inr (List.mem_map.2 ⟨c,hc,rfl⟩)
   cases ht
def cT:List Pc->Nat->Nat
 | [],c=>c
 | .sp::_,_=>32
 | .tk k x::_,_=>if k=7 then 34 else hd x
 | .nl::_,_=>10
 | .kO::r,c=>cT r c
 | .out::r,c=>cT r c
def dz:List Pc->Nat->Prop
 | [],_=>True
 | .sp::r,c=>dz r c
 | .tk k x::r,c=>pk k x/\vM k x (cT r c)/\dz r c
 | _::_,_=>False
def fH:Nat->List Pc->Nat
 | d,[]=>d
 | d, .tk k x::r=>fH (ja d k x) r
 | d,_::r=>fH d r
def gR:List Pc->List PT
 | []=> []
 | .sp::r=>gR r
 | .nl::r=>⟨1,0,[]⟩::gR r
 | .kO::r=>⟨2,0,[]⟩::gR r
 | .out::r=>⟨3,0,[]⟩::gR r
 | .tk k x::r=>⟨k,0,x⟩::gR r
theorem qh : ∀ {a b:List Pc} {c:Nat},cT (a++b) c=cT a (cT b c)
 | [],b,c=>rfl
 | .sp::r,b,c=>rfl
 | .tk k x::r,b,c=>rfl
 | .nl::r,b,c=>rfl
 | .kO::r,b,c=>qh (a:=r)
 | .out::r,b,c=>qh (a:=r)
theorem mr : ∀ {a b:List Pc} {c:Nat},dz (a++b) c↔dz a (cT b c)/\dz b c
 | [],b,c=>by simp[dz]
 | .sp::r,b,c=>by simp only[aS,dz,mr]
 | .tk k x::r,b,c=>by simp only[aS,dz,mr,qh,and_assoc]
 | .nl::r,b,c=>by simp[dz]
 | .kO::r,b,c=>by simp[dz]
 | .out::r,b,c=>by simp[dz]
theorem lx : ∀ {a b:List Pc} {d:Nat},fH d (a++b)=fH (fH d a) b
 | [],b,d=>rfl
 | .sp::r,b,d=>lx (a:=r)
 | .tk k x::r,b,d=>lx (a:=r)
 | .nl::r,b,d=>lx (a:=r)
 | .kO::r,b,d=>lx (a:=r)
 | .out::r,b,d=>lx (a:=r)
theorem xg : ∀ {a b:List Pc},gR (a++b)=gR a++gR b
 | [],b=>rfl
 | .sp::r,b=>xg (a:=r)
 | .tk k x::r,b=>congrArg _ (xg (a:=r))
 | .nl::r,b=>congrArg _ (xg (a:=r))
 | .kO::r,b=>congrArg _ (xg (a:=r))
 | .out::r,b=>congrArg _ (xg (a:=r))
theorem Ja(a b:List Pc):bf (a++b)=bf a++bf b:=by simp[bf]
theorem zg(a:Pc)(b:List Pc):bf (a::b)=a.tx++bf b:=by simp[bf]
theorem abR : ∀ {ps:List Pc},dz ps 0->hd (bf ps)=cT ps 0
 | [],_=>rfl
 | .sp::r,_=>rfl
 | .tk k x::r,h=>by
   obtain⟨c,u,h1,_⟩:=h.1.2.1;rw[zg,zd (by rw[h1];simp)];show hd (if k=7 then _ else x)=if k=7 then 34 else hd x
   split<;>rfl
 | .nl::r,h=>h.elim
 | .kO::r,h=>h.elim
 | .out::r,h=>h.elim
def tz (t:c8):PT:=⟨t.kind,0,t.text⟩
theorem ani{t:List UInt8}(h1:hd t≠32)(h2:hd t≠35):cr t=0:=by
 have e:nW (λn=>decide (n=32)) t=0:=xC (.inr (by simpa using h1));unfold cr;rw[e,sg,iN h2]
theorem anj{t:List UInt8}:cr (32::t)=cr t+1:=by
 have e:nW (λn=>decide (n=32)) (32::t)=nW (λn=>decide (n=32)) t+1:=by
  show(if decide ((32:UInt8).toNat=32)=true then _ else _)=_;rw[iP de]
 unfold cr;rw[e,FJ];split<;>omega
theorem ank{line f d:Nat}{t:List UInt8}:jb line f (32::t) d=jb line f t d:=by
 cases f with
 | zero=>rfl
 | succ f=>
   simp only[jb,anj,ay,Nat.add_le_add_iff_right,FJ];split;·rfl
   split;·rfl
   rename_i k x n _;rw[show cr t+1+n=(cr t+n)+1 by omega,FJ]
theorem S6{line:Nat} : ∀ {ps:List Pc} {f d:Nat},dz ps 0->(bf ps).length<f->∃x,jb line f (bf ps) d=some (x,fH d ps)/\x.map tz=gR ps
 | [],f+1,d,_,_=>⟨[],by simp[jb,bf,fH],rfl⟩
 | .sp::r,f,d,h,a=>by
   have e:bf (.sp::r)=32::bf r:=rfl;rw[e] at a⊢;rw[ank];exact S6 h (by simp at a;omega)
 | .tk k x::r,f+1,d,⟨h1,h2,h3⟩,a=>by
   obtain⟨c,u,b,g,j⟩:=h1.2.1;have hh:hd ((Pc.tk k x).tx++bf r)=c.toNat:=by rw[b];rfl
   have hb:cr ((Pc.tk k x).tx++bf r)=0:=ani (by rw[hh];exact g) (by rw[hh];exact j);have hl:1<=(Pc.tk k x).tx.length:=by rw[b];simp
   rw[zg] at a⊢;rw[bW] at a;have ht:=h1.1 (bf r) (by rw[abR h3];exact h2);obtain⟨y,l,m⟩:=S6 (line:=line) (f:=f) (d:=ja d k x) h3 Om;refine⟨⟨k,line,x⟩::y,?_,?_⟩;·simp only[jb,hb,sg,iX,ht,bW];rw[iN Om,AS rfl,l];rfl
   rw[dk,m];rfl
 | .nl::r,_,_,h,_=>h.elim
 | .kO::r,_,_,h,_=>h.elim
 | .out::r,_,_,h,_=>h.elim
 | [],0,_,_,h=>absurd h (tj _)
 | .tk _ _::_,0,_,_,h=>absurd h (tj _)
theorem S7 : ∀ {ps:List Pc},dz ps 0->∀c∈bf ps,c.toNat≠10
 | [],_,c,hc=>by cases hc
 | .sp::r,h,c,hc=>by
   rcases List.mem_cons.1 (show c∈32::bf r from hc) with rfl | hc
   ·decide
   exact S7 (ps:=r) h c hc
 | .tk k x::r,h,c,hc=>by
   rw[zg] at hc;rcases List.mem_append.1 hc with hc | hc
   ·exact h.1.2.2 c hc
   exact S7 (ps:=r) h.2.2 c hc
 | .nl::r,h,_,_=>h.elim
 | .kO::r,h,_,_=>h.elim
 | .out::r,h,_,_=>h.elim
def kr (c:Nat):Prop:=c≠61/\c≠42/\c≠47/\c≠32/\c≠35/\c≠0
def Jd (ps:List Pc):Prop:=dz ps 0/\fH 0 ps=0/\kr (cT ps 0)
inductive ku:Nat->List Pc->Prop where
 | line {d ps} (h:Jd ps):ku d (dW d++(ps++ [.nl]))
 | app {d a b} (ha:ku d a) (hb:ku d b):ku d (a++b)
 | head {d ps b} (h:Jd ps) (hb:ku (d+1) b):ku d (dW d++(ps++([.nl, .kO]++(b++ [.out]))))
def jG:Nat->List Nat
 | 0=> [0]
 | d+1=>4*(d+1)::jG d
def outs (m:Nat):List PT:=kR m ⟨3,0,[]⟩
theorem S8 : ∀d,(jG d).headD 0=4*d
 | 0=>rfl
 | d+1=>rfl
theorem abS{line d:Nat} : ∀m,(dZ line (jG (d+m)) (4*d)).2=jG d/\(dZ line (jG (d+m)) (4*d)).1.map tz=outs m:=by
 have key : ∀m,((jG (d+m)).takeWhile λx=>decide (4*d<x)).length=m/\((jG (d+m)).dropWhile λx=>decide (4*d<x))=jG d:=by
  intro m;induction m with
  | zero=>cases d<;>simp[jG]
  | succ m a=>
    have e:jG (d+(m+1))=4*(d+m+1)::jG (d+m):=rfl;rw[e,List.takeWhile_cons,Jv,iP Sq,iP Sq,ay,a.1];exact⟨rfl,a.2⟩
 intro m;have h1 : ¬(jG (d+m)).headD 0<4*d:=by rw[S8];omega
 unfold dZ;rw[iN h1];refine⟨(key m).2,?_⟩;simp only[(key m).1,List.map_replicate];rfl
theorem anl{line d:Nat}:(dZ line (jG d) (4*(d+1))).2=jG (d+1)/\(dZ line (jG d) (4*(d+1))).1.map tz= [⟨2,0,[]⟩]:=by
 unfold dZ;rw[iP (by rw[S8];omega)];exact⟨rfl,rfl⟩
theorem S9{d:Nat}:bf (dW d)=kR (4*d) 32:=by
 unfold dW;generalize 4*d=n;induction n with
 | zero=>rfl
 | succ n a=>rw[Df,Df,zg,a];rfl
theorem Np{d:Nat}{ps:List Pc}{c e:Nat}:(dz (dW d++ps) c↔dz ps c)/\fH e (dW d++ps)=fH e ps/\gR (dW d++ps)=gR ps:=by
 unfold dW;generalize 4*d=n;induction n with
 | zero=>exact⟨Iff.rfl,rfl,rfl⟩
 | succ n a=>rw[Df,aS];exact a
theorem anm{line d:Nat}{ps:List Pc}{st:List Nat}{Q:List PT}(h:Jd ps)(a:(dZ line st (4*d)).2=jG d/\(dZ line st (4*d)).1.map tz=Q) : ∃x,gD line (bf (dW d++ps)) 0 st= .ok (x,0,jG d)/\x.map tz=Q++(gR ps++ [⟨1,0,[]⟩]):=by
 obtain⟨h1,h2,h3⟩:=h;obtain⟨k,l,m⟩:=Np (d:=d) (ps:=ps) (c:=0) (e:=0);obtain⟨y,b,j⟩:=S6 (line:=line) (d:=0) (f:=(bf (dW d++ps)).length+1) (k.2 h1) (Nat.lt_succ_self _);rw[l,h2] at b;rw[m] at j;have hh:=abR h1;have av:1<=(bf ps).length:=by
  cases o:bf ps with
  | nil=>rw[o] at hh;exact absurd hh.symm h3.2.2.2.2.2
  | cons _ _=>simp
 have hb:cr (bf (dW d++ps))=4*d:=by
  rw[Ja,S9];have e:nW (λn=>decide (n=32)) (kR (4*d) 32++bf ps)=4*d:=agd (by rw[hh];exact h3.2.2.2.1);unfold cr;rw[e,AS s0,iN (by rw[hh];exact h3.2.2.2.2.1)]
 unfold gD;rw[hb,iN (by rw[Ja,bW,S9];simp;omega),iN (by rintro⟨_,g⟩;exact g (by rw[a.1,S8])),b];refine⟨(dZ line st (4*d)).1++y++ [⟨1,line,[]⟩],?_,?_⟩;·rw[<-a.1];rfl
 rw[ql,ql,a.2,j,aG];rfl
theorem ann{d:Nat}{ps:List Pc}(h:ku d ps) : ∀ {st:List Nat} {Q:List PT},(∀line,(dZ line st (4*d)).2=jG d/\(dZ line st (4*d)).1.map tz=Q)->∃m X,gR ps=X++outs m/\∀rest line,∃Y l,Y.map tz=Q++X/\gE line (eT (bf ps++rest)) 0 st=uR Y (gE l (eT rest) 0 (jG (d+m))):=by
 have row : ∀ {d:Nat} {ps:List Pc} {st:List Nat} {Q:List PT},Jd ps->(∀line,(dZ line st (4*d)).2=jG d/\(dZ line st (4*d)).1.map tz=Q)->∀rest line,∃Y,Y.map tz=Q++(gR ps++ [⟨1,0,[]⟩])/\gE line (eT (bf (dW d++ps)++al 10::rest)) 0 st=uR Y (gE (line+1) (eT rest) 0 (jG d)):=by
  intro d ps st Q h g rest line;obtain⟨x,j,k⟩:=anm (line:=line) h (g line);refine⟨x,k,?_⟩;rw[Yi,Yj (S7 ((Np (c:=0) (e:=0)).1.2 h.1)),List.singleton_append,yH,j]
 induction h with
 | line h=>
   rename_i d ps;intro st Q g;refine⟨0,gR ps++ [⟨1,0,[]⟩],?_,λrest line=> ?_⟩;·rw[(Np (c:=0) (e:=0)).2.2,xg];simp[outs,gR]
   obtain⟨Y,j,k⟩:=row h g rest line;refine⟨Y,line+1,j,?_⟩;rw[<-aG,Ja (dW d++ps),aG];exact k
 | app ha hb y n=>
   rename_i d a b;intro st Q g;obtain⟨m,X,j,k⟩:=y g;obtain⟨z,A,o,p⟩:=n (st:=jG (d+m)) (Q:=outs m) λline=>abS m;refine⟨z,gR a++A,by rw[xg,o,aG],λrest line=> ?_⟩;obtain⟨Y,q,r,s⟩:=k (bf b++rest) line;obtain⟨t,u,v,w⟩:=p rest q;refine⟨Y++t,u,?_,?_⟩;·rw[ql,r,v,j];simp only[aG]
   rw[Ja,aG,s,w,Qm]
 | head h hb n=>
   rename_i d ps b;intro st Q g;obtain⟨m,X,o,p⟩:=n (st:=jG d) (Q:= [⟨2,0,[]⟩]) λline=>anl;refine⟨m+1,gR ps++ [⟨1,0,[]⟩]++ [⟨2,0,[]⟩]++X,?_,λrest line=> ?_⟩
   ·rw[(Np (c:=0) (e:=0)).2.2,xg,xg,xg,o];have e:outs (m+1)=outs m++ [⟨3,0,[]⟩]:=by unfold outs;rw[List.replicate_succ']
    rw[e];simp[gR]
   obtain⟨Y,r,s⟩:=row h g (bf b++rest) line;obtain⟨t,u,v,w⟩:=p rest (line+1);refine⟨Y++t,u,?_,?_⟩;·rw[ql,r,v];simp only[aG]
   have e:bf (dW d++(ps++([.nl, .kO]++(b++ [.out]))))++rest=bf (dW d++ps)++al 10::(bf b++rest):=by
    have j:bf [.nl, .kO]= [al 10]:=rfl;have k:bf [.out]= []:=rfl;simp only[Ja,j,k,aG,cp];rfl
   rw[e,s,w,Qm];rw[show d+1+m=d+(m+1) by omega]
theorem anq{ps:List Pc}(h:ku 0 ps)(hl:(bf ps).length<=20000) : ∃ts,gT (bf ps)= .ok ts/\ts.map tz=gR ps++ [⟨0,0,[]⟩]:=by
 obtain⟨m,X,b,c⟩:=ann h (st:= [0]) (Q:= []) λline=>abS (d:=0) 0;obtain⟨Y,line,e,a⟩:=c [] 1;have g:gE line (eT []) 0 (jG (0+m))= .ok ([],jG (0+m)):=by
  show gE line [[]] 0 _=_;rw[agf s0];rfl
 rw[cp,g] at a;have j:(jG (0+m)).length-1=m:=by
  rw[iX];have : ∀m,(jG m).length=m+1:=λm=>by
   induction m with
   | zero=>rfl
   | succ m k=>simp[jG,k]
  rw[this];rfl
 unfold gT;rw[iN Om,a];refine⟨_,rfl,?_⟩;simp only[tp,j,ql,List.map_replicate,cp];rw[e,a6,b,aG];rfl
theorem Fy : ∀ {ps:List Pc} {pre post:List PT},bt (pre++(gR ps++post)) ps pre.length (pre.length+(gR ps).length)
 | [],pre,post=>rfl
 | .sp::r,pre,post=>Fy (ps:=r)
 | .nl::r,pre,post=>a (x:=⟨1,0,[]⟩) (Fy (ps:=r))
 | .kO::r,pre,post=>a (x:=⟨2,0,[]⟩) (Fy (ps:=r))
 | .out::r,pre,post=>a (x:=⟨3,0,[]⟩) (Fy (ps:=r))
 | .tk k x::r,pre,post=>a (x:=⟨k,0,x⟩) (Fy (ps:=r))
where
 a {r:List Pc} {pre post:List PT} {x:PT} (h:bt ((pre++ [x])++(gR r++post)) r (pre++ [x]).length ((pre++ [x]).length+(gR r).length)):ah (pre++(x::gR r++post)) pre.length=x/\bt (pre++(x::gR r++post)) r (pre.length+1) (pre.length+(x::gR r).length):=by
  constructor;·unfold ah;rw[th (ag _),Jo];rfl
  have b:(pre++ [x])++(gR r++post)=pre++(x::gR r++post):=by simp
  have c:(pre++ [x]).length=pre.length+1:=by simp
  rw[b,c] at h;rw[ay,show pre.length+((gR r).length+1)=pre.length+1+(gR r).length by omega];exact h
def mP (c:Nat):Bool:= [32,41,44,58,93,125,40,91,0].contains c
theorem CL{k c:Nat}{x:List UInt8}(hk:k≠9)(h:mP c=true):vM k x c:=by
 have h1:ej c=false/\c≠46:=by
  simp only[mP,List.contains_eq_mem,js,zo,or_false,decide_eq_true_eq] at h;rcases h with rfl | rfl | rfl | rfl | rfl | rfl | rfl | rfl | rfl<;>exact⟨de,de⟩
 exact⟨λ_=>h1.1,λ_=>h1,λe=>absurd e hk⟩
theorem Ta{k:Nat}{x:List UInt8}(hk:k=4\/k=7\/k=8):vM k x 46:=⟨λ_=>by decide,λ_=>by omega,λ_=>by omega⟩
theorem Tb{x:List UInt8}{c:Nat}(h:x∈Fx):vM 9 x c:=⟨λe=>by omega,λe=>by omega,λ_=> .inl h⟩
theorem tg{k:Nat}{x:List UInt8}:vM k x 32:=⟨λ_=>by decide,λ_=>⟨de,de⟩,λ_=> .inr ⟨de,de,de⟩⟩
theorem anr{x:List UInt8}{c:Nat}(h:kr c):vM 9 x c:=⟨λe=>by omega,λe=>by omega,λ_=> .inr ⟨h.1,h.2.1,h.2.2.1⟩⟩
theorem AH{d k:Nat}{x:List UInt8}(hk:k≠9):ja d k x=d:=by
 unfold ja;rw[iN (λh=>hk h.1),iN (λh=>hk h.1)]
theorem Tc{k:Nat}{x:List UInt8}(h:iV k x)(hk:k=4\/k=5\/k=6):ej (hd x)=true:=by
 obtain⟨l,n,h⟩:=h;unfold fp at h;split at h
 ·rename_i g;cases h;have a:0<nW ej l:=by
   cases l with
   | nil=>cases g
   | cons c r=>rw[nW,iP (show ej c.toNat=true by unfold ej;rw[show fJ c.toNat=true from g];rfl)];omega
  rw[I3 a];unfold ej;rw[g];rfl
 split at h
 ·rename_i g;split at h;·cases h
  cases h;have a:0<a8 l:=by
   have:=(AF g).2;unfold a8 hC;omega
  rw[I3 a];unfold ej;rw[g];simp
 split at h
 ·cases ht:lX (hd l) (l.drop 1) with
  | none=>rw[ht] at h;cases h
  | some y=>rw[ht] at h;cases h;omega
 cases ht:lB l with
 | none=>rw[ht] at h;cases h
 | some y=>rw[ht] at h;cases h;omega
theorem Nq{c:Nat}(h:ej c=true):kr c:=by
 refine⟨?_,?_,?_,?_,?_,?_⟩<;>(rintro rfl;revert h;decide)
def EL (ps:List Pc):Prop:=(∀c,mP c=true->dz ps c)/\∀d,fH d ps=d
def tY (n:Nd):Prop:=bC n\/(∃l,n= .mk 48 l [] 0 [])\/(∃l,n= .mk 60 l [] 0 [])\/∃l a,n= .mk 60 l [] 0 [a]/\bC a
def Fz (s:List UInt8):Prop:=pk (if s=qD\/s=qC then 8 else 9) s/\∀d,ja d (if s=qD\/s=qC then 8 else 9) s=d
def LX (r:SR)(d:Nat)(ps:List Pc):Prop:=match r with
 | .at n a=>tY n->EL ps/\(n.kind≠48->∀c,kr (cT ps c))/\(bC n->n.kind≠30->n.kind≠31->9<=a->dz ps 46)
 | .expr n=>tY n->EL ps/\(n.kind≠48->∀c,kr (cT ps c))/\(bC n->n.kind≠30->n.kind≠31->9<=gz n->dz ps 46)
 | .dJ n=>bC n->(37<=n.kind/\n.kind<=42)\/n.kind=49\/n.kind=50->EL ps/\∀c,kr (cT ps c)
 | .dB n=>bC n->44<=n.kind/\n.kind<=47->EL ps/\(∀c,kr (cT ps c))/\dz ps 46
 | .shown n=>bC n->51<=n.kind->EL ps/\(∀c,kr (cT ps c))/\dz ps 46
 | .bc b l=>(∀n∈l,tY n)->EL ps/\(b=true->∀c,mP c=true->mP (cT ps c)=true)/\(b=false->l≠ []->(∀n∈l,n.kind≠48)->∀c,kr (cT ps c))
 | .bF b l=>(∀n∈l,tY n)->EL ps/\(b=true->∀c,mP c=true->mP (cT ps c)=true)/\(b=false->l≠ []->(∀n∈l,n.kind≠48)->∀c,kr (cT ps c))
 | .two n l s r=>∀a b ks,n.kids=a::b::ks->bC a->bC b->Fz s->EL ps/\∀c,kr (cT ps c)
 | .clauses l=>(∀n∈l,qe n)->EL ps/\∀c,mP c=true->mP (cT ps c)=true
 | .cV l=>(∀n∈l,Fl n)->EL ps/\∀c,mP c=true->mP (cT ps c)=true
 | .bO b l=>pj l->EL ps/\(b=true->∀c,mP c=true->mP (cT ps c)=true)
 | .maybe s n=>s∈jV->n.kids= []\/(∃a,n.kids= [a]/\bC a)->EL ps/\∀c,kr (cT ps c)
 | .block n=>okB n->∃b,ps= .tk 9 [58]:: .nl:: .kO::(b++ [.out])/\ku (d+1) b
 | .a9 l=>l≠ []->(∀n∈l,lT n)->ku d ps
 | .ifs s n=>lT n->n.kind=5->ku d ps
 | .cQ l=>(∀n∈l,vJ n\/okF n)->(l= []->ps= [])/\(l≠ []->ku d ps)
 | .tries n=>n.kind=15->lT n->ku d ps
 | .stmt n=>lT n->ku d ps
 | .head n=>n.kind=6\/n.kind=7\/n.kind=8\/n.kind=9\/n.kind=16->lT n->ku d ps
 | .simple n=>¬(n.kind=5\/n.kind=15\/n.kind=6\/n.kind=7\/n.kind=8\/n.kind=9\/n.kind=16)->lT n->EL ps/\∀c,kr (cT ps c)
def ly (f:Nat):Prop:=∀(r:SR) (d:Nat),r.me<f->LX r d (pp f r d)
theorem ant{k:Nat}{x:List UInt8}{r:List Pc}{c:Nat}:cT (.tk k x::r) c=if k=7 then 34 else hd x:=rfl
theorem CM{x:List UInt8}(h:x∈ [[40],[91],[123],[43],[45]]):kr (hd x):=by
 simp only[js,zo,or_false] at h;rcases h with rfl | rfl | rfl | rfl | rfl<;>(refine⟨?_,?_,?_,?_,?_,?_⟩<;>decide)
theorem xh{x:List UInt8}(h:x∈jV):kr (hd x):=Nq (by
 have h1:=(by decide : ∀x∈jV,ej (hd x)=true);exact h1 x h)
theorem anu:kr 34:=by refine⟨?_,?_,?_,?_,?_,?_⟩<;>decide
theorem bC.E7{n:Nd}(h:bC n):n.kind≠48:=h.2.2.2.2
theorem bC.y{n:Nd}(h:bC n):tY n:= .inl h
section
variable {f:Nat}
theorem abT{k:Nat}{x:List UInt8}(hg:pk k x)(hk:k≠9)(hb:k=7\/kr (hd x)):EL [.tk k x]/\(∀c,kr (cT [.tk k x] c))/\(k=4\/k=7\/k=8->dz [.tk k x] 46):=by
 refine⟨⟨λc hc=>⟨hg,CL hk hc,trivial⟩,λd=> ?_⟩,λc=> ?_,λh=>⟨hg,Ta h,trivial⟩⟩;·show ja d k x=d;exact AH hk
 rw[ant];split;·exact anu
 exact hb.resolve_left ‹_›
theorem anv(b:ly f){n:Nd}{a d:Nat}(j:SR.me (.at n a)<f+1):LX (.at n a) d (pp (f+1) (.at n a) d):=by
 intro ho;obtain⟨h1,h2,h3⟩:=b (.expr n) d (by simp only[SR.me] at j⊢;omega) ho;simp only[pp];by_cases hc:gz n<a
 ·simp only[hc,iT,aG,aS,a6];have g : ∀c,dz (sy [40]::(pp f (.expr n) d++ [sy [41]])) c:=λc=>by
   simp only[dz,mr,qh,cT];exact⟨CJ de,Tb de,h1.1 _ rfl,CJ de,Tb de,trivial⟩
  refine⟨⟨λc _=>g c,λd=> ?_⟩,λ_ c=>CM (x:= [40]) s0,λ_ _ _ _=>g 46⟩;simp only[fH,lx,h1.2];rfl
 simp only[hc,iF];exact⟨h1,h2,λe k l ha=>h3 e k l Om⟩
theorem anw(b:ly f){s:List UInt8}{n:Nd}{d:Nat}(e:SR.me (.maybe s n)<f+1):LX (.maybe s n) d (pp (f+1) (.maybe s n) d):=by
 intro hs ho;rcases ho with hk | ⟨a,hk,ha⟩
 ·simp only[pp,hk];have:=abT (AG hs) de (.inr (xh hs));exact⟨this.1,this.2.1⟩
 simp only[pp,hk,aG,aS,a6];obtain⟨⟨h1,h2⟩,_,_⟩:=b (.at a 0) d (by simp only[SR.me,hk,aq,aL] at e⊢;omega) ha.y;refine⟨⟨λc hc=> ?_,λd=> ?_⟩,λc=>xh hs⟩;·simp only[dz,cT];exact⟨AG hs,tg,h1 c hc⟩
 simp only[fH,AH (show 8≠9 by decide),h2]
theorem anx(q:ly f){n:Nd}{d:Nat}(r:SR.me (.expr n)<f+1):LX (.expr n) d (pp (f+1) (.expr n) d):=by
 intro ho;have leaf : ∀ {k:Nat} {x:List UInt8},pk k x->k≠9->(k=7\/kr (hd x))->((k=5\/k=6)->n.kind=30\/n.kind=31)->(k=4\/k=5\/k=6\/k=7\/k=8)->EL [.tk k x]/\(n.kind≠48->∀c,kr (cT [.tk k x] c))/\(bC n->n.kind≠30->n.kind≠31->9<=gz n->dz [.tk k x] 46):=by
  intro k x hg hk hb h5 v;obtain⟨j,m,u⟩:=abT hg hk hb;exact⟨j,λ_=>m,λ_ w y _=>u Om⟩
 have xF : ∀ {ks},n.kind=60->n.kids=ks->(ks= []\/∃a,ks= [a]/\bC a)->EL (pp f (.maybe nJ n) d)/\(n.kind≠48->∀c,kr (cT (pp f (.maybe nJ n) d) c))/\(bC n->n.kind≠30->n.kind≠31->9<=gz n->dz (pp f (.maybe nJ n) d) 46):=by
  intro ks hk bq t;obtain⟨j,s⟩:=q (.maybe nJ n) d (by simp only[SR.me] at r⊢;omega) de (by rw[bq];exact t);exact⟨j,λ_=>s,λe=>by have:=e.2.2.1;omega⟩
 rcases ho with ho | ⟨l,rfl⟩ | ⟨l,rfl⟩ | ⟨l,a,rfl,ha⟩
 ·cases qN ho with
  | int h1=>exact leaf (CK h1) de (.inr (Nq (Tc h1 Om))) (λ_=> .inl rfl) Om
  | Cy h1=>exact leaf (CK h1) de (.inr (Nq (Tc h1 Om))) (λ_=> .inr rfl) Om
  | str h1=>exact leaf (CK h1) de (.inl rfl) Om Om
  | M0 h1=>exact leaf (CK h1) de (.inr (Nq (Tc h1 Om))) Om Om
  | qf h1=>
    rcases h1 with rfl | rfl | rfl
    ·exact leaf (k:=8) (x:=qE) (AG de) de (.inr (xh de)) Om Om
    ·exact leaf (k:=8) (x:=qF) (AG de) de (.inr (xh de)) Om Om
    exact leaf (k:=8) (x:=qG) (AG de) de (.inr (xh de)) Om Om
  | call _ _ | attr _ _ | idx _ _ | pC _ _ _=>
    obtain⟨j,s,m⟩:=q (.dB _) d (SE r) ho (by simp[Nd.kind]);exact⟨j,λ_=>s,λ_ _ _ _=>m⟩
  | uZ _ | eE _ | set _ _ | Cz _ _ | CA _ _ _ | CB _ _ _ | CC _ _ _ _=>
    obtain⟨j,s,m⟩:=q (.shown _) d (SF r) ho (by simp[Nd.kind]);exact⟨j,λ_=>s,λ_ _ _ _=>m⟩
  | bin o1 o2 _ _=>
    rename_i l o a b _ _;obtain⟨j,m⟩:=q (.dJ _) d (M6 r) ho (by simp[Nd.kind]);refine⟨j,λ_=>m,λ_ _ _ g=> ?_⟩;exfalso;obtain rfl | rfl | rfl | rfl | rfl | rfl | rfl:o=1\/o=2\/o=3\/o=4\/o=5\/o=6\/o=7:=by omega
    all_goals revert g;simp[gz,Nd.kind,Nd.op]
  | un _ _ | and _ _ | or _ _ | not _ | cmp _ _ _ | cond _ _ _ | lam _ _=>
    obtain⟨j,m⟩:=q (.dJ _) d (M6 r) ho (by simp[Nd.kind]);exact⟨j,λ_=>m,λ_ _ _ g=>absurd g (by simp[gz,Nd.kind])⟩
 ·exact⟨⟨λ_ _=>trivial,λ_=>rfl⟩,λh=>absurd rfl h,λe=>by have:=e.E7;exact absurd rfl this⟩
 ·exact xF rfl rfl (.inl rfl)
 exact xF rfl rfl (.inr ⟨a,rfl,ha⟩)
end
section
variable {f:Nat}
theorem ly.at(b:ly f){n:Nd}{a d:Nat}(ho:bC n)(e:16*aq n.kids+7<f):EL (pp f (.at n a) d)/\(∀c,kr (cT (pp f (.at n a) d) c))/\(n.kind≠30->n.kind≠31->9<=a->dz (pp f (.at n a) d) 46):=by
 obtain⟨g,h,j⟩:=b (.at n a) d e ho.y;exact⟨g,h ho.E7,j ho⟩
theorem gs{x:List UInt8}(h:x∈S3++S2++S1.map (λc=> [c]):=by decide):pk 9 x:=CJ h
theorem gw{x:List UInt8}(h:x∈jV:=by decide):pk 8 x:=AG h
theorem fc{x:List UInt8}{c:Nat}(h:x∈Fx:=by decide):vM 9 x c:=Tb h
theorem anA(e:ly f){b:Bool}{l:List Nd}{d:Nat}(a:SR.me (.bc b l)<f+1):LX (.bc b l) d (pp (f+1) (.bc b l) d):=by
 intro ho;rcases l with _ | ⟨n,l⟩
 ·exact⟨⟨λ_ _=>trivial,λ_=>rfl⟩,λ_ c hc=>hc,λ_ h=>absurd rfl h⟩
 simp only[SR.me,aq,aL] at a;obtain⟨⟨g,j⟩,q,_⟩:=e (.at n 0) d Mt (ho n s0);obtain⟨⟨k1,k⟩,o,_⟩:=e (.bc true l) d Mt (λm a=>ho m (by simp[a]));cases b
 ·simp only[pp,aM,iF,aG,aS,a6];refine⟨⟨λc hc=> ?_,λd=> ?_⟩,λh=>(by cases h),λ_ _ h c=> ?_⟩;·simp only[mr];exact⟨g _ (o rfl c hc),k1 c hc⟩
  ·simp only[lx,j,k]
  rw[qh];exact q (h n s0) _
 simp only[pp,iT,aG,aS,a6];refine⟨⟨λc hc=> ?_,λd=> ?_⟩,λ_ c hc=>rfl,λh=>(by cases h)⟩;·simp only[dz,mr,cT];exact⟨gs,fc,g _ (o rfl c hc),k1 c hc⟩
 simp only[fH,lx,j,k];rfl
theorem anB(e:ly f){b:Bool}{l:List Nd}{d:Nat}(a:SR.me (.bF b l)<f+1):LX (.bF b l) d (pp (f+1) (.bF b l) d):=by
 intro ho;rcases l with _ | ⟨n,l⟩
 ·exact⟨⟨λ_ _=>trivial,λ_=>rfl⟩,λ_ c hc=>hc,λ_ h=>absurd rfl h⟩
 simp only[SR.me,aq,aL] at a;obtain⟨⟨g,j⟩,q,_⟩:=e (.at n 0) d Mt (ho n s0);obtain⟨⟨k1,k⟩,o,_⟩:=e (.bF true l) d Mt (λm a=>ho m (by simp[a]));cases b
 ·simp only[pp,aM,iF,aG,aS,a6];refine⟨⟨λc hc=> ?_,λd=> ?_⟩,λh=>(by cases h),λ_ _ h c=> ?_⟩;·simp only[mr];exact⟨g _ (o rfl c hc),k1 c hc⟩
  ·simp only[lx,j,k]
  rw[qh];exact q (h n s0) _
 simp only[pp,iT,aG,aS,a6];refine⟨⟨λc hc=> ?_,λd=> ?_⟩,λ_ c hc=>rfl,λh=>(by cases h)⟩;·simp only[dz,mr,cT];exact⟨gs,tg,g _ (o rfl c hc),k1 c hc⟩
 simp only[fH,lx,j,k];rfl
theorem anC(e:ly f){b:Bool}{l:List Nd}{d:Nat}(g:SR.me (.bO b l)<f+1):LX (.bO b l) d (pp (f+1) (.bO b l) d):=by
 intro ho;rcases l with _ | ⟨n,_ | ⟨m,l⟩⟩
 ·exact⟨⟨λ_ _=>trivial,λ_=>rfl⟩,λ_ c hc=>hc⟩
 ·exact⟨⟨λ_ _=>trivial,λ_=>rfl⟩,λ_ c hc=>hc⟩
 simp only[SR.me,aq,aL] at g;obtain⟨⟨j,k⟩,_,_⟩:=e.at (a:=0) (d:=d) (ho n s0) Om;obtain⟨⟨o,q⟩,_,_⟩:=e.at (a:=0) (d:=d) (ho m s0) Om;obtain⟨⟨k1,r⟩,s⟩:=e (.bO true l) d Mt (λm g=>ho m (by simp[g]));cases b
 ·simp only[pp,aM,iF,aG,aS,a6];refine⟨⟨λc hc=> ?_,λd=> ?_⟩,λh=>(by cases h)⟩;·simp only[dz,mr,cT];exact⟨j _ rfl,gs,fc,o _ (s rfl c hc),k1 c hc⟩
  simp only[fH,lx,k,r,q];rfl
 simp only[pp,iT,aG,aS,a6];refine⟨⟨λc hc=> ?_,λd=> ?_⟩,λ_ c hc=>rfl⟩;·simp only[dz,mr,cT];exact⟨gs,fc,j _ rfl,gs,fc,o _ (s rfl c hc),k1 c hc⟩
 simp only[fH,lx,k,r,q];rfl
theorem anD{s:List UInt8}{r:List Pc}{c:Nat}(hs:Fz s)(h:dz r c)(e:cT r c=32):dz (vG s::r) c:=by
 obtain⟨h1,_⟩:=hs;have key:dz (.tk (if s=qD\/s=qC then 8 else 9) s::r) c:=⟨h1,by rw[e];exact tg,h⟩;unfold vG;show dz ((if s=qD\/s=qC then wd s else sy s)::r) c;split;·rename_i hc;rw[iP hc] at key;exact key
 rename_i hc;rw[iN hc] at key;exact key
theorem anE{s:List UInt8}{r:List Pc}{d:Nat}(hs:Fz s):fH d (vG s::r)=fH d r:=by
 obtain⟨_,h2⟩:=hs;have key:fH d (.tk (if s=qD\/s=qC then 8 else 9) s::r)=fH d r:=by rw[fH,h2]
 unfold vG;show fH d ((if s=qD\/s=qC then wd s else sy s)::r)=_;split;·rename_i hc;rw[iP hc] at key;exact key
 rename_i hc;rw[iN hc] at key;exact key
theorem anF(e:ly f){n:Nd}{l r:Nat}{s:List UInt8}{d:Nat}(g:SR.me (.two n l s r)<f+1):LX (.two n l s r) d (pp (f+1) (.two n l s r) d):=by
 intro a b ks hk ha hb hs;simp only[SR.me,hk,aq,aL] at g;obtain⟨⟨j,k⟩,m,_⟩:=e.at (a:=l) (d:=d) ha Om;obtain⟨⟨k1,o⟩,_,_⟩:=e.at (a:=r) (d:=d) hb Om;simp only[pp,hk,aG,aS,a6];refine⟨⟨λc hc=> ?_,λd=> ?_⟩,λc=> ?_⟩;·simp only[mr,cT];exact⟨j _ rfl,anD hs (show dz (pp f (.at b r) d) c from k1 c hc) rfl⟩
 ·rw[lx,k];exact(anE (r:= .sp::pp f (.at b r) _) hs).trans (o d)
 rw[qh];exact m _
theorem anG(g:ly f){l:List Nd}{d:Nat}(e:SR.me (.clauses l)<f+1):LX (.clauses l) d (pp (f+1) (.clauses l) d):=by
 intro ho;rcases l with _ | ⟨n,l⟩
 ·exact⟨⟨λ_ _=>trivial,λ_=>rfl⟩,λc hc=>hc⟩
 simp only[SR.me,aq,aL] at e;obtain⟨⟨k1,o⟩,q⟩:=g (.clauses l) d Mt (λm e=>ho m (by simp[e]));rcases ho n s0 with ⟨ln,a,b,rfl,ha,hp,hb⟩ | ⟨ln,a,rfl,ha⟩
 ·simp only[am,aq,aL] at e;obtain⟨⟨j,k⟩,_,_⟩:=g.at (a:=9) (d:=d) ha Om;obtain⟨⟨r,s⟩,_,_⟩:=g.at (a:=1) (d:=d) hb Om;simp only[pp,aE,am,Nat.reduceEqDiff,iF,aG,aS,a6];refine⟨⟨λc hc=> ?_,λd=> ?_⟩,λc hc=>rfl⟩;·simp only[dz,mr,qh,cT];exact⟨gw,tg,j _ rfl,gw,tg,r _ (q c hc),k1 c hc⟩
  simp only[fH,lx,k,o,s];rfl
 simp only[am,aq,aL] at e;obtain⟨⟨j,k⟩,_,_⟩:=g.at (a:=1) (d:=d) ha Om;simp only[pp,aE,am,Nat.reduceEqDiff,iT,aG,aS,a6];refine⟨⟨λc hc=> ?_,λd=> ?_⟩,λc hc=>rfl⟩;·simp only[dz,mr,qh,cT];exact⟨gw,tg,j _ (q c hc),k1 c hc⟩
 simp only[fH,lx,k,o];rfl
theorem abU{o:Nat}{r:List Pc}{c d:Nat}(h1:1<=o)(h2:o<=10)(h:dz r c)(e:cT r c=32):dz (vF o++r) c/\fH d (vF o++r)=fH d r:=by
 have a : ∀ {k x},vM k x (cT r c):=by rw[e];exact tg
 obtain rfl | rfl | rfl | rfl | rfl | rfl | rfl | rfl | rfl | rfl:o=1\/o=2\/o=3\/o=4\/o=5\/o=6\/o=7\/o=8\/o=9\/o=10:=by omega
 all_goals first
  | exact⟨⟨gs,a,h⟩,rfl⟩
  | exact⟨⟨gw,a,h⟩,rfl⟩
  | exact⟨⟨gw,tg,gw,a,h⟩,rfl⟩
theorem anH(g:ly f){l:List Nd}{d:Nat}(b:SR.me (.cV l)<f+1):LX (.cV l) d (pp (f+1) (.cV l) d):=by
 intro ho;rcases l with _ | ⟨n,l⟩
 ·exact⟨⟨λ_ _=>trivial,λ_=>rfl⟩,λc hc=>hc⟩
 simp only[SR.me,aq,aL] at b;obtain⟨⟨k1,q⟩,j⟩:=g (.cV l) d Mt (λm b=>ho m (by simp[b]));obtain⟨ln,o,a,rfl,o1,o2,ha⟩:=ho n s0;simp only[am,aq,aL] at b;obtain⟨⟨k,r⟩,_,_⟩:=g.at (a:=5) (d:=d) ha Om;simp only[pp,fx,am,aG,aS,a6];refine⟨⟨λc hc=> ?_,λe=> ?_⟩,λc hc=>rfl⟩;·refine(abU (d:=0) o1 o2 ?_ rfl).1;simp only[dz,mr];exact⟨k _ (j c hc),k1 c hc⟩
 refine((abU (c:=0) (d:=e) o1 o2 ?_ rfl).2).trans ?_;·simp only[dz,mr];exact⟨k _ (j 0 rfl),k1 0 rfl⟩
 simp only[fH,lx,r,q]
theorem anI(g:ly f){n:Nd}{d:Nat}(o:SR.me (.dB n)<f+1):LX (.dB n) d (pp (f+1) (.dB n) d):=by
 intro ho hk;cases qN ho with
 | call ha bq=>
   rename_i l a ks;simp only[SR.me,am,aq,aL] at o;obtain⟨⟨q,j⟩,k,_⟩:=g.at (a:=9) (d:=d) ha Om;obtain⟨⟨k1,r⟩,_,_⟩:=g (.bc false ks) d Mt (λm o=>(bq m o).y);simp only[pp,aE,am,Nat.reduceEqDiff,false_and,iF,iT,aG,aS,a6];have key : ∀c,dz (pp f (.at a 9) d++sy [40]::(pp f (.bc false ks) d++ [sy [41]])) c:=λc=>by
    simp only[dz,mr,cT];exact⟨q _ rfl,gs,fc,k1 _ rfl,gs,fc,trivial⟩
   refine⟨⟨λc _=>key c,λd=> ?_⟩,λc=>by rw[qh];exact k _,key 46⟩;simp only[fH,lx,j,r];rfl
 | attr hx ha=>
   rename_i l x a;simp only[SR.me,am,aq,aL] at o;have hn:=CK hx;by_cases hc:a.kind=30\/a.kind=31
   ·simp only[pp,aE,am,dy,true_and,hc,Nat.reduceEqDiff,iF,iT,aG,aS,a6];have ht:iV (if a.kind=30 then 5 else 6) a.text:=by
     cases qN ha with
     | int h1=>exact h1
     | Cy h1=>exact h1
     | qf hx=>simp only[aE] at hc;omega
     | _=>simp[Nd.kind] at hc
    have t:(if a.kind=30 then 5 else 6)=5\/(if a.kind=30 then 5 else 6)=6:=by split<;>simp
    generalize (if a.kind=30 then 5 else 6)=kk at ht t;have key : ∀c,vM 4 x c->dz (sy [40]:: .tk kk a.text::sy [41]::sy [46]:: [.tk 4 x]) c:=λc h=>⟨gs,fc,CK ht,CL Om rfl,gs,fc,gs,fc,hn,h,trivial⟩;refine⟨⟨λc hc=>key c (CL de hc),λd=> ?_⟩,λc=>CM (x:= [40]) s0,key 46 (Ta s0)⟩;simp only[fH,AH (show kk≠9 by omega),AH (show 4≠9 by decide)];rfl
   obtain⟨⟨q,j⟩,k,u⟩:=g.at (a:=9) (d:=d) ha Om;simp only[pp,aE,am,dy,true_and,hc,Nat.reduceEqDiff,iF,iT,aG,aS,a6];have key : ∀c,vM 4 x c->dz (pp f (.at a 9) d++ [sy [46], .tk 4 x]) c:=λc h=>by
    simp only[dz,mr,cT];exact⟨u (λe=>hc (.inl e)) (λe=>hc (.inr e)) (ag 9),gs,fc,hn,h,trivial⟩
   refine⟨⟨λc hc=>key c (CL de hc),λd=> ?_⟩,λc=>by rw[qh];exact k _,key 46 (Ta s0)⟩;simp only[fH,lx,j,AH (show 4≠9 by decide)];rfl
 | idx ha hb=>
   rename_i l a b;simp only[SR.me,am,aq,aL] at o;obtain⟨⟨q,j⟩,k,_⟩:=g.at (a:=9) (d:=d) ha Om;obtain⟨⟨k1,r⟩,_,_⟩:=g.at (a:=0) (d:=d) hb Om;simp only[pp,aE,am,Nat.reduceEqDiff,false_and,iF,iT,aG,aS,a6];have key : ∀c,dz (pp f (.at a 9) d++sy [91]::(pp f (.at b 0) d++ [sy [93]])) c:=λc=>by
    simp only[dz,mr,cT];exact⟨q _ rfl,gs,fc,k1 _ rfl,gs,fc,trivial⟩
   refine⟨⟨λc _=>key c,λd=> ?_⟩,λc=>by rw[qh];exact k _,key 46⟩;simp only[fH,lx,j,r];rfl
 | pC ha hb hc=>
   rename_i l a b c;have s : ∀ {n},Cv n->tY n:=λh=>h.imp_right λh=> .inl h;simp only[SR.me,am,aq,aL] at o;obtain⟨⟨q,j⟩,k,_⟩:=g.at (a:=9) (d:=d) ha Om;obtain⟨⟨k1,r⟩,_,_⟩:=g (.at b 0) d Mt (s hb);obtain⟨⟨v,w⟩,_,_⟩:=g (.at c 0) d Mt (s hc);simp only[pp,aE,am,Nat.reduceEqDiff,false_and,iF,iT,aG,aS,a6];have key : ∀e,dz (pp f (.at a 9) d++sy [91]::(pp f (.at b 0) d++sy [58]::(pp f (.at c 0) d++ [sy [93]]))) e:=λe=>by
    simp only[dz,mr,cT];exact⟨q _ rfl,gs,fc,k1 _ rfl,gs,fc,v _ rfl,gs,fc,trivial⟩
   refine⟨⟨λc _=>key c,λd=> ?_⟩,λc=>by rw[qh];exact k _,key 46⟩;simp only[fH,lx,j,r,w];rfl
 | qf h=>simp only[aE] at hk;omega
 | _=>simp[Nd.kind] at hk
end
section
variable {f:Nat}
theorem zh{o c:List UInt8}{b:List Pc}(hb:EL b)(ho:o= [40]/\c= [41]\/o= [91]/\c= [93]\/o= [123]/\c= [125]):EL (sy o::(b++ [sy c]))/\(∀e,kr (cT (sy o::(b++ [sy c])) e))/\dz (sy o::(b++ [sy c])) 46:=by
 obtain⟨h1,h2⟩:=hb;have key : ∀e,dz (sy o::(b++ [sy c])) e:=λe=>by
  simp only[dz,mr,cT];rcases ho with ⟨rfl,rfl⟩ | ⟨rfl,rfl⟩ | ⟨rfl,rfl⟩<;>exact⟨gs,fc,h1 _ rfl,gs,fc,trivial⟩
 refine⟨⟨λe _=>key e,λd=> ?_⟩,λe=> ?_,key 46⟩
 ·simp only[fH,lx,h2];rcases ho with ⟨rfl,rfl⟩ | ⟨rfl,rfl⟩ | ⟨rfl,rfl⟩<;>rfl
 rcases ho with ⟨rfl,rfl⟩ | ⟨rfl,rfl⟩ | ⟨rfl,rfl⟩
 ·exact CM (x:= [40]) s0
 ·exact CM (x:= [91]) s0
 exact CM (x:= [123]) s0
theorem FA{a b:List Pc}(ha:EL a)(hb:EL b)(hn : ∀c,mP c=true->mP (cT b c)=true):EL (a++b):=
 ⟨λc hc=>mr.2 ⟨ha.1 _ (hn c hc),hb.1 c hc⟩,λd=>by rw[lx,ha.2,hb.2]⟩
theorem anJ(j:ly f){n:Nd}{d:Nat}(g:SR.me (.shown n)<f+1):LX (.shown n) d (pp (f+1) (.shown n) d):=by
 intro ho hk;have row : ∀ {ks:List Nd},pj ks->16*aq ks<f->EL (pp f (.bc false ks) d):=λh g=>(j (.bc false _) d Mt (λm g=>(h m g).y)).1;have cls : ∀ {ks:List Nd},(∀n∈ks,qe n)->16*aq ks<f->EL (pp f (.clauses ks) d)/\∀c,mP c=true->mP (cT (pp f (.clauses ks) d) c)=true:=λh g=>j (.clauses _) d Mt h;cases qN ho with
 | uZ bq=>
   simp only[SR.me,am,aq,aL] at g;simp only[pp,aE,am,Nat.reduceEqDiff,true_or,or_true,false_or,or_false,or_self,iF,iT,aG,aS,a6];exact zh (row bq Om) s0
 | eE bq=>
   rename_i l ks;simp only[SR.me,am] at g;by_cases h1:ks.length=1
   ·simp only[pp,aE,am,Nat.reduceEqDiff,true_or,or_true,false_or,or_false,or_self,h1,iF,iT,aG,aS,a6];have q:=row bq Om;have e:sy [40]::(pp f (.bc false ks) d++ [sy [44],sy [41]])=sy [40]::((pp f (.bc false ks) d++ [sy [44]])++ [sy [41]]):=by simp
    rw[e];exact zh (FA q (b:= [sy [44]]) ⟨λc _=>⟨gs,fc,trivial⟩,λd=>rfl⟩ λc _=>rfl) s0
   simp only[pp,aE,am,Nat.reduceEqDiff,true_or,or_true,false_or,or_false,or_self,h1,iF,iT,aG,aS,a6];exact zh (row bq Om) s0
 | set ha bq=>
   rename_i l a ks;simp only[SR.me,am] at g;simp only[pp,aE,am,Nat.reduceEqDiff,true_or,or_true,false_or,or_false,or_self,iF,iT,aG,aS,a6];exact zh (row (ks:=a::ks) (λn hn=>by
    rcases List.mem_cons.1 hn with rfl | hn
    ·exact ha
    exact bq n hn) Om) s0
 | Cz bq he=>
   rename_i l ks;simp only[SR.me,am] at g;simp only[pp,aE,am,Nat.reduceEqDiff,true_or,or_true,false_or,or_false,or_self,iF,iT,aG,aS,a6];exact zh (j (.bO false ks) d Mt bq).1 s0
 | CA ha av bq=>
   rename_i l a ks;simp only[SR.me,am,aq,aL] at g;simp only[pp,aE,am,Nat.reduceEqDiff,true_or,or_true,false_or,or_false,or_self,iF,iT,aG,aS,a6];obtain⟨k,o⟩:=cls bq Om;rw[<-aG (pp f (.at a 0) d)];exact zh (FA (j.at (a:=0) (d:=d) ha Om).1 k o) s0
 | CB ha av bq=>
   rename_i l a ks;simp only[SR.me,am,aq,aL] at g;simp only[pp,aE,am,Nat.reduceEqDiff,true_or,or_true,false_or,or_false,or_self,iF,iT,aG,aS,a6];obtain⟨k,o⟩:=cls bq Om;rw[<-aG (pp f (.at a 0) d)];exact zh (FA (j.at (a:=0) (d:=d) ha Om).1 k o) s0
 | CC ha hb av bq=>
   rename_i l a b ks;simp only[SR.me,am,aq,aL] at g;simp only[pp,aE,am,Nat.reduceEqDiff,true_or,or_true,false_or,or_false,or_self,iF,iT,aG,aS,a6];obtain⟨k,o⟩:=cls bq Om;rw[<-aG (pp f (.bO false [a,b]) d)];exact zh (FA (j (.bO false [a,b]) d (by simp only[SR.me,aq,aL];omega) (λn hn=>by
    rcases List.mem_cons.1 hn with rfl | hn
    ·exact ha
    rw[List.mem_singleton.1 hn];exact hb)).1 k o) s0
 | qf h=>simp only[aE] at hk;omega
 | _=>simp[Nd.kind] at hk
theorem FB{n:Nd}(h:Cx n):bC n:=by
 obtain⟨l,x,rfl,hx⟩:=h;exact⟨⟨.inr (.inr (.inr (.inl ⟨rfl,hx,rfl,rfl⟩))),trivial⟩,by show 30<=36;omega,by show 36<=57;omega,by show 36≠43;omega,by show 36≠48;omega⟩
theorem abV{o:Nat}(h1:1<=o)(h2:o<=7):Fz (jP mO o)/\Fz (jP mO o++ [61]):=by
 obtain rfl | rfl | rfl | rfl | rfl | rfl | rfl:o=1\/o=2\/o=3\/o=4\/o=5\/o=6\/o=7:=by omega
 all_goals exact⟨⟨CJ de,λd=>rfl⟩,⟨CJ de,λd=>rfl⟩⟩
theorem anK(g:ly f){n:Nd}{d:Nat}(m:SR.me (.dJ n)<f+1):LX (.dJ n) d (pp (f+1) (.dJ n) d):=by
 intro ho hk;have two : ∀ {l r:Nat} {s:List UInt8} {a b:Nd} {ks:List Nd},n.kids=a::b::ks->bC a->bC b->Fz s->EL (pp f (.two n l s r) d)/\∀c,kr (cT (pp f (.two n l s r) d) c):=λhk ha hb hs=>g (.two n _ _ _) d (by simp only[SR.me] at m⊢;omega) _ _ _ hk ha hb hs;cases qN ho with
 | bin o1 o2 ha hb=>
   rename_i l o a b;by_cases v:o=7
   ·subst v;simp only[pp,aE,fx,Nat.reduceEqDiff,iF,iT];exact two rfl ha hb ⟨CJ de,λd=>rfl⟩
   simp only[pp,aE,fx,Nat.reduceEqDiff,v,iF,iT];exact two rfl ha hb (abV o1 o2).1
 | un z ha=>
   rename_i l o a;simp only[SR.me,am,aq,aL] at m;obtain⟨⟨j,k⟩,t,_⟩:=g.at (a:=7) (d:=d) ha Om;have key : ∀s:List UInt8,s= [45]\/s= [43]->EL (sy s::pp f (.at a 7) d)/\∀c,kr (cT (sy s::pp f (.at a 7) d) c):=by
    intro s hs;refine⟨⟨λc hc=>⟨?_,anr (t c),j c hc⟩,λe=> ?_⟩,λc=> ?_⟩;·rcases hs with rfl | rfl<;>exact gs
    ·have:ja e 9 s=e:=by rcases hs with rfl | rfl<;>rfl
     simp only[fH,this,k]
    rcases hs with rfl | rfl
    ·exact CM (x:= [45]) s0
    exact CM (x:= [43]) s0
   rcases z with rfl | rfl
   ·exact key [45] s0
   exact key [43] s0
 | and ha hb=>
   simp only[pp,aE,fx,Nat.reduceEqDiff,iF,iT];exact two rfl ha hb ⟨AG de,λd=>rfl⟩
 | or ha hb=>
   simp only[pp,aE,fx,Nat.reduceEqDiff,iF,iT];exact two rfl ha hb ⟨AG de,λd=>rfl⟩
 | not ha=>
   rename_i l a;simp only[SR.me,am,aq,aL] at m;obtain⟨⟨j,k⟩,t,_⟩:=g.at (a:=3) (d:=d) ha Om;simp only[pp,aE,am,fx,Nat.reduceEqDiff,iF,iT,aS,a6];refine⟨⟨λc hc=>⟨gw,tg,j c hc⟩,λe=> ?_⟩,λc=>xh (x:=lM) de⟩;simp only[fH,k];rfl
 | cmp ha hn bq=>
   rename_i l a ks;simp only[SR.me,am,aq,aL] at m;obtain⟨j,t,_⟩:=g.at (a:=5) (d:=d) ha Om;obtain⟨k1,q⟩:=g (.cV ks) d Mt bq;simp only[pp,aE,am,fx,Nat.reduceEqDiff,iF,iT];exact⟨FA j k1 q,λc=>by rw[qh];exact t _⟩
 | cond ha hb hc=>
   rename_i l a b c;simp only[SR.me,am,aq,aL] at m;obtain⟨⟨j,k⟩,_,_⟩:=g.at (a:=1) (d:=d) ha Om;obtain⟨⟨k1,q⟩,w,_⟩:=g.at (a:=1) (d:=d) hb Om;obtain⟨⟨A,B⟩,_,_⟩:=g.at (a:=0) (d:=d) hc Om;simp only[pp,aE,am,fx,Nat.reduceEqDiff,iF,iT,aG,aS,a6];refine⟨⟨λc hc=> ?_,λe=> ?_⟩,λc=>by rw[qh];exact w _⟩;·simp only[dz,mr,cT];exact⟨k1 _ rfl,gw,tg,j _ rfl,gw,tg,A c hc⟩
   simp only[fH,lx,k,q,B];rfl
 | lam hp he=>
   rename_i l l' ps e;simp only[SR.me,am,aq,aL] at m;obtain⟨⟨j,k⟩,_,_⟩:=g.at (a:=0) (d:=d) he Om;obtain⟨⟨k1,q⟩,_,w⟩:=g (.bc false ps) d Mt (λn hn=>(FB (hp n hn)).y);rcases ps with _ | ⟨p,ps⟩
   ·have u : ¬ 0<([]:List Nd).length:=by simp
    simp only[pp,aE,am,fx,Nat.reduceEqDiff,u,iF,iT,aG,aS,a6];cases f with
    | zero=>omega
    | succ f=>
      refine⟨⟨λc hc=>⟨gw,CL de rfl,gs,fc,j c hc⟩,λe=> ?_⟩,λc=>xh (x:=qB) de⟩;exact(k e)
   have u:0<(p::ps).length:=by simp
   simp only[pp,aE,am,fx,Nat.reduceEqDiff,u,iF,iT,aG,aS,a6];refine⟨⟨λc hc=> ?_,λe=> ?_⟩,λc=>xh (x:=qB) de⟩;·simp only[dz,mr,cT];exact⟨gw,tg,k1 _ rfl,gs,fc,j c hc⟩
   simp only[fH,lx,k,q];rfl
 | qf h=>simp only[aE] at hk;omega
 | _=>simp[Nd.kind] at hk
end
section
variable {f:Nat}
def XL (ps:List Pc):Prop:=EL ps/\∀c,kr (cT ps c)
theorem abW{ps:List Pc}(h:XL ps):Jd ps:=⟨h.1.1 0 rfl,h.1.2 0,h.2 0⟩
theorem Nr{a b:List Pc}(ha:XL a)(hb:EL b)(hn : ∀c,mP c=true->mP (cT b c)=true):XL (a++b):=
 ⟨FA ha.1 hb hn,λc=>by rw[qh];exact ha.2 _⟩
theorem abX{r:List Pc}(h:EL r):EL (.sp::r):=⟨λc hc=>h.1 c hc,λd=>h.2 d⟩
theorem qi{x:List UInt8}{r:List Pc}(hx:x∈jV)(h:EL r):XL (wd x:: .sp::r):=
 ⟨⟨λc hc=>⟨gw hx,tg,h.1 c hc⟩,λd=>by simp only[fH,AH (show 8≠9 by decide),h.2]⟩,λc=>xh hx⟩
theorem CN{x:List UInt8}(hx:x∈jV):XL [wd x]:=
 ⟨⟨λc hc=>⟨gw hx,CL de hc,trivial⟩,λd=>by simp only[fH,AH (show 8≠9 by decide)]⟩,λc=>xh hx⟩
theorem Ns{x:List UInt8}{r:List Pc}(hx:iV 4 x)(h:EL r)(hn : ∀c,mP c=true->mP (cT r c)=true):EL (.tk 4 x::r):=
 ⟨λc hc=>⟨CK hx,CL de (hn c hc),h.1 c hc⟩,λd=>by simp only[fH,AH (show 4≠9 by decide),h.2]⟩
theorem abY:EL []:=⟨λ_ _=>trivial,λ_=>rfl⟩
theorem abZ{x:List UInt8}(hx:iV 4 x):EL [.sp,wd [97,115], .sp, .tk 4 x]:=abX (qi de (Ns hx abY λ_ h=>h)).1
theorem qP{d:Nat}{X B:List Pc}(a:XL X)(g : ∃b,B= .tk 9 [58]:: .nl:: .kO::(b++ [.out])/\ku (d+1) b):ku d (dW d++(X++B)):=by
 obtain⟨b,rfl,hb⟩:=g;have h:=ku.head (d:=d) (ps:=X++ [sy [58]]) (abW (Nr a (b:= [sy [58]]) ⟨λc _=>⟨gs,fc,trivial⟩,λd=>rfl⟩ λc _=>rfl)) hb;have e:dW d++(X++(Pc.tk 9 [58]:: .nl:: .kO::(b++ [.out])))=dW d++(X++ [sy [58]]++([.nl, .kO]++(b++ [.out]))):=by simp
 rw[e];exact h
theorem anL(a:ly f){n:Nd}{d:Nat}(b:SR.me (.block n)<f+1):LX (.block n) d (pp (f+1) (.block n) d):=by
 rintro⟨l,ks,rfl,av,bq⟩;refine⟨pp f (.a9 ks) (d+1),?_,a (.a9 ks) (d+1) (by simp only[SR.me,am] at b⊢;omega) av bq⟩;simp only[pp,am,aG,aS,a6]
theorem anM(a:ly f){l:List Nd}{d:Nat}(b:SR.me (.a9 l)<f+1):LX (.a9 l) d (pp (f+1) (.a9 l) d):=by
 intro av ho;rcases l with _ | ⟨n,l⟩
 ·exact absurd rfl av
 simp only[SR.me,aq,aL] at b;have h1:=a (.stmt n) d Mt (ho n s0);simp only[pp];rcases l with _ | ⟨m,l⟩
 ·have e:pp f (.a9 []) d= []:=by cases f<;>rfl
  rw[e,cp];exact h1
 exact .app h1 (a (.a9 (m::l)) d (by simp only[SR.me,aq,aL] at b⊢;omega) s0 λn hn=>ho n (by simp only[js] at hn⊢;exact .inr hn))
theorem anN(c:ly f){n:Nd}{d:Nat}(e:SR.me (.simple n)<f+1):LX (.simple n) d (pp (f+1) (.simple n) d):=by
 intro hk ho;have r : ∀ {v},AA v->tY v:=λh=>h.imp_right λh=> .inr h;have j : ∀ {v},AA v->v.kind≠48:=by
  rintro v (h | ⟨l,rfl⟩ | ⟨l,a,rfl,ha⟩);·exact h.E7
  ·show 60≠48;decide
  show 60≠48;decide
 cases tX ho with
 | exp hv=>
   rename_i l v;simp only[SR.me,am] at e;simp only[pp,aE,am,Nat.reduceEqDiff,iF,iT];obtain⟨m,_,q⟩:=c (.bc false [v]) d Mt (λn hn=>by rw[List.mem_singleton.1 hn];exact r hv);exact⟨m,q rfl s0 λn hn=>by rw[List.mem_singleton.1 hn];exact j hv⟩
 | bF hn bq hv=>
   rename_i l ks v;simp only[SR.me,am] at e;simp only[pp,aE,am,Nat.reduceEqDiff,iF,iT];obtain⟨m,_,q⟩:=c (.bF false (ks++ [v])) d Mt (λn hn=>by
    rcases List.mem_append.1 hn with hn | hn
    ·exact(bq n hn).1.y
    rw[List.mem_singleton.1 hn];exact r hv)
   exact⟨m,q rfl s0 λn hn=>by
    rcases List.mem_append.1 hn with hn | hn
    ·exact(bq n hn).1.E7
    rw[List.mem_singleton.1 hn];exact j hv⟩
 | M9 o1 o2 ha hs hb=>
   rename_i l o a b;simp only[pp,aE,fx,Nat.reduceEqDiff,iF,iT];exact c (.two (.mk 4 l [] o [a,b]) 0 (jP mO o++ [61]) 0) d (by simp only[SR.me] at e⊢;omega) a b [] rfl ha hb (abV o1 o2).2
 | tb g=>
   rename_i k l;rcases g with rfl | rfl
   ·exact c (.maybe ou (.mk 10 l [] 0 [])) d (by simp only[SR.me] at e⊢;omega) de (.inl rfl)
   exact c (.maybe pW (.mk 14 l [] 0 [])) d (by simp only[SR.me] at e⊢;omega) de (.inl rfl)
 | tc g ha=>
   rename_i k l a;rcases g with rfl | rfl
   ·exact c (.maybe ou (.mk 10 l [] 0 [a])) d (by simp only[SR.me] at e⊢;omega) de (.inr ⟨a,rfl,ha⟩)
   exact c (.maybe pW (.mk 14 l [] 0 [a])) d (by simp only[SR.me] at e⊢;omega) de (.inr ⟨a,rfl,ha⟩)
 | Na ha=>
   rename_i l a;exact c (.maybe Aj (.mk 20 l [] 0 [a])) d (by simp only[SR.me] at e⊢;omega) de (.inr ⟨a,rfl,ha⟩)
 | td g=>
   rename_i k l;rcases g with rfl | rfl | rfl
   ·exact CN (x:=pV) de
   ·exact CN (x:=qH) de
   exact CN (x:=rL) de
 | te g hn bq=>
   rename_i k l ks;have h1:EL (pp f (.bc false ks) d):=(c (.bc false ks) d (by simp only[SR.me,am] at e⊢;omega) λn hn=>(FB (bq n hn)).y).1;rcases g with rfl | rfl
   ·exact qi (x:=yS) de h1
   exact qi (x:=Ai) de h1
 | del ha hs=>
   rename_i l a;exact qi (x:=Me) de (c.at (a:=9) (d:=d) ha (by simp only[SR.me,am,aq,aL] at e⊢;omega)).1
 | _=>exact absurd (by simp[Nd.kind]) hk
theorem anO(a:ly f){n:Nd}{d:Nat}(b:SR.me (.stmt n)<f+1):LX (.stmt n) d (pp (f+1) (.stmt n) d):=by
 intro ho;by_cases h5:n.kind=5
 ·simp only[pp,h5,iT];exact a (.ifs [105,102,32] n) d (by simp only[SR.me] at b⊢;omega) ho h5
 by_cases c:n.kind=15
 ·simp only[pp,c,Nat.reduceEqDiff,iT,iF];exact a (.tries n) d (by simp only[SR.me] at b⊢;omega) c ho
 by_cases hh:n.kind=6\/n.kind=7\/n.kind=8\/n.kind=9\/n.kind=16
 ·simp only[pp,iN h5,iN c,iP hh];exact a (.head n) d (by simp only[SR.me] at b⊢;omega) hh ho
 simp only[pp,iN h5,iN c,iN hh,aG];exact .line (abW (a (.simple n) d (by simp only[SR.me] at b⊢;omega) Om ho))
theorem anP(c:ly f){n:Nd}{s:List UInt8}{d:Nat}(g:SR.me (.ifs s n)<f+1):LX (.ifs s n) d (pp (f+1) (.ifs s n) d):=by
 intro ho hk;have hw:(if s= [105,102,32] then [105,102] else [101,108,105,102]:List UInt8)∈jV:=by split<;>decide
 cases tX ho with
 | Nb ha hb=>
   rename_i l a b;simp only[SR.me,am,aq,aL] at g;have h1:=(c.at (a:=0) (d:=d) ha Om).1;have h2:=c (.block b) d Mt hb;simp only[pp,am,aG,aS,a6,cp];exact qP (qi hw h1) h2
 | Nc ha hb he=>
   rename_i l a b e;obtain⟨le,es,rfl,av,j⟩:=he;simp only[SR.me,am,aq,aL] at g;have h1:=(c.at (a:=0) (d:=d) ha Om).1;have h2:=c (.block b) d Mt hb;have h3:=qP (d:=d) (qi hw h1) h2;have h4:ku d (dW d++([wd wR]++pp f (.block (.mk 1 le [] 0 es)) d)):=qP (CN de) (c (.block (.mk 1 le [] 0 es)) d (by simp only[SR.me,am];omega) ⟨le,es,rfl,av,j⟩);have step : ∀X:List Pc,ku d X->ku d (dW d++ [wd (if s= [105,102,32] then [105,102] else [101,108,105,102]), .sp]++pp f (.at a 0) d++pp f (.block b) d++X):=by
    intro X k;have:=ku.app h3 k;simp only[aG,aS,a6] at this⊢;exact this
   match es,av,j,g,h4 with
   | [x],_,j,g,h4=>
     simp only[pp,am];by_cases hx:x.kind=5
     ·simp only[hx,iT];exact step _ (c (.ifs [101,108,105,102,32] x) d (by simp only[SR.me,aq,aL] at g⊢;omega) (j x s0) hx)
     simp only[hx,iF];refine step _ ?_;simp only[aG];exact h4
   | x::y::es,_,j,g,h4=>
     simp only[pp,am];refine step _ ?_;simp only[aG];exact h4
 | tb h | tc h _ | td h | te h _ _=>simp only[aE] at hk;omega
 | _=>simp[Nd.kind] at hk
theorem anQ(g:ly f){l:List Nd}{d:Nat}(q:SR.me (.cQ l)<f+1):LX (.cQ l) d (pp (f+1) (.cQ l) d):=by
 intro hl;rcases l with _ | ⟨c,l⟩
 ·exact⟨λ_=>rfl,λh=>absurd rfl h⟩
 refine⟨λh=>(by cases h),λ_=> ?_⟩;have j:=q;simp only[SR.me,aq,aL] at j;obtain⟨r,s⟩:=g (.cQ l) d Mt λn hn=>hl n (by simp[hn]);have step : ∀X:List Pc,ku d X->ku d (X++pp f (.cQ l) d):=by
  intro X m;by_cases h:l= []
  ·rw[r h,cp];exact m
  exact .app m (s h)
 rcases hl c s0 with (⟨ln,b,rfl,hb⟩ | ⟨ln,x,e,b,rfl,hx,he,hb⟩) | ⟨ln,b,rfl,hb⟩
 ·simp only[am,aq,aL] at j;have h2:=g (.block b) d Mt hb;have h3:=step _ (qP (d:=d) (CN (x:=rM) de) h2);simp only[pp,aE,am,dy,Nat.reduceEqDiff,iT,iF,gS,aG,aS,a6,cp] at h3⊢;exact h3
 ·simp only[am,aq,aL] at j;have o : [e,b].getLast? = some b:=rfl;have h1:=(g.at (a:=0) (d:=d) he Om).1;have h2:=g (.block b) d Mt hb;by_cases k:x= []
  ·subst k;have h3:=step _ (qP (d:=d) (qi (x:=rM) de h1) h2);simp only[pp,aE,am,dy,Nat.reduceEqDiff,iT,iF,o,aG,aS,a6,cp] at h3⊢;exact h3
  have h3:=step _ (qP (d:=d) (Nr (qi (x:=rM) de h1) (abZ (hx.resolve_left k)) λc _=>rfl) h2);simp only[pp,aE,am,dy,Nat.reduceEqDiff,k,iT,iF,o,aG,aS,a6,cp] at h3⊢;exact h3
 simp only[am,aq,aL] at j;have h2:=g (.block b) d Mt hb;have h3:=step _ (qP (d:=d) (CN (x:=B6) de) h2);simp only[pp,aE,am,dy,Nat.reduceEqDiff,iT,iF,gS,aG,aS,a6,cp] at h3⊢;exact h3
theorem anR(a:ly f){n:Nd}{d:Nat}(hm:SR.me (.tries n)<f+1):LX (.tries n) d (pp (f+1) (.tries n) d):=by
 intro hk ho;cases tX ho with
 | tr hb hh hd ht hn=>
   rename_i l b h' t;simp only[SR.me,am,aq,aL] at hm;have c : ∀n∈h'++t,vJ n\/okF n:=λn hm=>by
    rcases List.mem_append.1 hm with hm | hm
    ·exact .inl (hh n hm)
    rcases ht with rfl | ⟨y,rfl,e⟩
    ·cases hm
    rw[List.mem_singleton.1 hm];exact .inr e
   have h2:=a (.block b) d Mt hb;have h3:=(a (.cQ (h'++t)) d Mt c).2 hn;have h4:=ku.app (qP (d:=d) (CN (x:=B7) de) h2) h3;simp only[pp,am,aG,aS,a6,cp] at h4⊢;exact h4
 | tb h | tc h _ | td h | te h _ _=>simp only[aE] at hk;omega
 | _=>simp[Nd.kind] at hk
theorem ab0{ks:List Nd}{d:Nat}(a:ly f)(h : ∀n∈ks,bC n)(b:16*aq ks<f):EL (sy [40]::(pp f (.bc false ks) d++ [sy [41]])):=
 (zh (a (.bc false ks) d Mt λn hn=>(h n hn).y).1 s0).1
theorem anS(g:ly f){n:Nd}{d:Nat}(j:SR.me (.head n)<f+1):LX (.head n) d (pp (f+1) (.head n) d):=by
 intro hk ho;cases tX ho with
 | Nf ha hb=>
   rename_i l a b;simp only[SR.me,am,aq,aL] at j;have h3:=qP (d:=d) (qi (x:=tK) de (g.at (a:=0) (d:=d) ha Om).1) (g (.block b) d Mt hb);simp only[pp,aE,am,dy,Nat.reduceEqDiff,iT,iF,aG,aS,a6,cp] at h3⊢;exact h3
 | fr ha hp hb hc=>
   rename_i l a b c;simp only[SR.me,am,aq,aL] at j;have h3:=qP (d:=d) (Nr (qi (x:=jN) de (g.at (a:=9) (d:=d) ha Om).1) (abX (qi (x:=tJ) de (g.at (a:=0) (d:=d) hb Om).1).1) λc _=>rfl) (g (.block c) d Mt hc);simp only[pp,aE,am,dy,Nat.reduceEqDiff,iT,iF,aG,aS,a6,cp] at h3⊢;exact h3
 | df hx hp hb=>
   rename_i l x l' ps b;simp only[SR.me,am,aq,aL] at j;have h3:=qP (d:=d) (qi (x:=wT) de (Ns hx (ab0 (d:=d) g (λn hn=>FB (hp n hn)) Om) λc _=>rfl)) (g (.block b) d Mt hb);simp only[pp,aE,am,dy,Nat.reduceEqDiff,iT,iF,aG,aS,a6,cp] at h3⊢;exact h3
 | cls hx hp hb=>
   rename_i l x l' ps b;simp only[SR.me,am,aq,aL] at j;by_cases hl:0<ps.length
   ·have h3:=qP (d:=d) (qi (x:=wU) de (Ns hx (ab0 (d:=d) g hp Om) λc _=>rfl)) (g (.block b) d Mt hb);simp only[pp,aE,am,dy,Nat.reduceEqDiff,hl,iT,iF,aG,aS,a6,cp] at h3⊢;exact h3
   have h3:=qP (d:=d) (qi (x:=wU) de (Ns hx abY λc h=>h)) (g (.block b) d Mt hb);simp only[pp,aE,am,dy,Nat.reduceEqDiff,hl,iT,iF,aG,aS,a6,cp] at h3⊢;exact h3
 | Ng hx he hb=>
   rename_i l x e b;simp only[SR.me,am,aq,aL] at j;have h1:=(g.at (a:=0) (d:=d) he Om).1;have h2:=g (.block b) d Mt hb;by_cases k:x= []
   ·subst k;have h3:=qP (d:=d) (qi (x:=B8) de h1) h2;simp only[pp,aE,am,dy,Nat.reduceEqDiff,iT,iF,aG,aS,a6,cp] at h3⊢;exact h3
   have h3:=qP (d:=d) (Nr (qi (x:=B8) de h1) (abZ (hx.resolve_left k)) λc _=>rfl) h2;simp only[pp,aE,am,dy,Nat.reduceEqDiff,k,iT,iF,aG,aS,a6,cp] at h3⊢;exact h3
 | tb h | tc h _ | td h | te h _ _=>simp only[aE] at hk;omega
 | _=>simp[Nd.kind] at hk
theorem ab1 : ∀f,ly f
 | 0=>λr d c=>absurd c (tj _)
 | f+1=>λr d c=>by
   have e:=ab1 f;cases r;case «at» n a=>exact anv e c
   case expr n=>exact anx e c
   case bc b l=>exact anA e c
   case two n l s r=>exact anF e c
   case clauses l=>exact anG e c
   case bO b l=>exact anC e c
   case shown n=>exact anJ e c
   case dB n=>exact anI e c
   case dJ n=>exact anK e c
   case cV l=>exact anH e c
   case maybe s n=>exact anw e c
   case block n=>exact anL e c
   case a9 l=>exact anM e c
   case ifs s n=>exact anP e c
   case tries n=>exact anR e c
   case cQ l=>exact anQ e c
   case stmt n=>exact anO e c
   case head n=>exact anS e c
   case bF b l=>exact anB e c
   case simple n=>exact anN e c
end
def ow:Nat->Nat->Nat
 | 30,n=>5+n | 31,n=>5+n | 36,n=>5+n | 32,n=>7+4*n
 | 33,_=>10 | 34,_=>10 | 35,_=>10 | 37,_=>9 | 38,_=>6 | 39,_=>10 | 40,_=>9 | 41,_=>9 | 42,_=>5 | 43,_=>8
 | 44,_=>7 | 45,n=>6+n | 46,_=>7 | 47,_=>8 | 48,_=>5 | 49,_=>15 | 50,_=>14
 | 51,_=>8 | 52,_=>8 | 53,_=>8 | 54,_=>8 | 55,_=>8 | 56,_=>8 | 57,_=>8 | 58,_=>9 | 59,_=>4 | 60,_=>11
 | 4,_=>5 | 10,_=>7 | 14,_=>6 | 20,_=>7 | 11,_=>4 | 12,_=>5 | 13,_=>8 | 17,_=>7 | 18,_=>9 | 19,_=>4
 | 5,_=>5 | 6,_=>6 | 7,_=>8 | 8,n=>6+n | 9,n=>8+n | 15,_=>3 | 16,n=>9+n | 21,n=>11+n | 22,_=>7
 | _,_=>0
def sd (k d:Nat):Nat:=if k=2\/k=3\/k=4\/k=10\/k=11\/k=12\/k=13\/k=14\/k=17\/k=18\/k=19\/k=20 then 4*d+1 else 0
def FC:List Nd->Bool
 | [n]=>decide (n.kind=5)
 | _=>false
mutual
def uN (d:Nat)(e:Bool):Nd->Nat
 | .mk k _ x _ ks=>ow k x.length+sd k d+(if k=1 then (if (e&&FC ks)=true then 0 else 4*d+2+(if e=true then 4 else 0)) else 0)+uL (if k=1/\(e&&FC ks)=false then d+1 else d) (decide (k=5)) 0 ks
def uL (d:Nat)(b:Bool)(i:Nat):List Nd->Nat
 | []=>0
 | n::ks=>uN d (b&&decide (i=2)) n+uL d b (i+1) ks
end
def uS (d:Nat):List Nd->Nat
 | []=>0
 | n::ks=>uN d false n+uS d ks
theorem FD{d:Nat} : ∀ {i:Nat} {ks:List Nd},uL d false i ks=uS d ks
 | _,[]=>rfl
 | i,n::ks=>by simp only[uL,uS,NK,FD]
theorem AI{d:Nat} : ∀ {a b:List Nd},uS d (a++b)=uS d a+uS d b
 | [],b=>(iX _).symm
 | n::a,b=>by simp only[aS,uS,AI,jS]
mutual
theorem ab2{d:Nat}{e:Bool} : ∀n:Nd,uN d e n<=uN (d+1) e n
 | .mk k l x o ks=>by
   simp only[uN];have h1:sd k d<=sd k (d+1):=by unfold sd;split<;>omega
   have h2:=Td (d:=d) (b:=decide (k=5)) (i:=0) ks;have h3:=Td (d:=d+1) (b:=decide (k=5)) (i:=0) ks;by_cases hk:k=1
   ·subst hk;cases hb:(e&&FC ks);·simp only[iT,aM,iF,and_self];omega
    simp only[iT,Bool.true_eq_false,and_false,iF];omega
   simp only[hk,iF,false_and];omega
theorem Td{d:Nat}{b:Bool}{i:Nat} : ∀ks:List Nd,uL d b i ks<=uL (d+1) b i ks
 | []=>ag _
 | n::ks=>by
   simp only[uL];have h1:=ab2 (d:=d) (e:=b&&decide (i=2)) n;have h2:=Td (d:=d) (b:=b) (i:=i+1) ks;omega
end
theorem dQ{d:Nat}{e:Bool}{k:Nat}{l:Int}{x:List UInt8}{o:Nat}{ks:List Nd}(h1:k≠1)(h5:k≠5):uN d e (.mk k l x o ks)=ow k x.length+sd k d+uS d ks:=by
 simp only[uN,h1,h5,iF,false_and,decide_false,FD,qQ]
theorem Je{d:Nat}{l:Int}{x:List UInt8}{o:Nat}{ks:List Nd}:uN d false (.mk 1 l x o ks)=4*d+2+uS (d+1) ks:=by
 simp only[uN,NK,iT,aM,iF,and_self,FD,ow,sd,decide_false,Nat.reduceEqDiff,or_self,iX,qQ]
theorem ab3{d:Nat}{e:Bool}{l:Int}{x:List UInt8}{o:Nat}{a b:Nd}:uN d e (.mk 5 l x o [a,b])=5+uN d false a+uN d false b:=by
 simp only[uN,uL,ow,sd,Nat.reduceEqDiff,or_self,false_and,iF,decide_true,zm,iX,Nat.reduceAdd,decide_false,qQ,jS]
theorem Te{d:Nat}{e:Bool}{l:Int}{x:List UInt8}{o:Nat}{a b c:Nd}:uN d e (.mk 5 l x o [a,b,c])=5+uN d false a+uN d false b+uN d true c:=by
 simp only[uN,uL,ow,sd,Nat.reduceEqDiff,or_self,false_and,iF,decide_true,zm,iX,Nat.reduceAdd,decide_false,qQ,jS]
theorem Tf{d:Nat}{l:Int}{x:List UInt8}{o:Nat}{ks:List Nd}(h:FC ks=false):uN d true (.mk 1 l x o ks)=4*d+6+uS (d+1) ks:=by
 simp only[uN,h,Bool.and_false,iT,aM,iF,and_self,FD,ow,sd,decide_false,Nat.reduceEqDiff,or_self,iX,qQ]
theorem Tg{d:Nat}{l:Int}{x:List UInt8}{o:Nat}{n:Nd}(h:n.kind=5):uN d true (.mk 1 l x o [n])=uN d false n:=by
 have e:FC [n]=true:=decide_eq_true h;simp only[uN,e,Bool.and_self,iT,Bool.true_eq_false,and_false,iF,FD,uS,ow,sd,decide_false,Nat.reduceEqDiff,or_self,iX,qQ]
theorem anT{d:Nat}{l:Int}{x:List UInt8}{o:Nat}{ks:List Nd}:uN d true (.mk 1 l x o ks)<=uN d false (.mk 1 l x o ks)+4:=by
 cases h:FC ks with
 | false=>rw[Tf h,Je];omega
 | true=>
   match ks,h with
   | [n],h=>
     rw[Tg (of_decide_eq_true h),Je];have:=ab2 (d:=d) (e:=false) n;simp only[uS];omega
def tl:List Pc->Nat
 | []=>0
 | .sp::r=>1+tl r
 | .nl::r=>1+tl r
 | .kO::r=>tl r
 | .out::r=>tl r
 | .tk k x::r=>(if k=7 then (gj x).length+2 else x.length)+tl r
theorem CQ : ∀ps:List Pc,(bf ps).length=tl ps
 | []=>rfl
 | .sp::r=>by rw[zg,bW,CQ r];rfl
 | .nl::r=>by rw[zg,bW,CQ r];rfl
 | .kO::r=>by rw[zg,bW,CQ r];exact iX _
 | .out::r=>by rw[zg,bW,CQ r];exact iX _
 | .tk k x::r=>by
   rw[zg,bW,CQ r];show(if k=7 then _ else x).length+_=(if k=7 then _ else x.length)+_;split;·simp
   rfl
theorem dY : ∀ {a b:List Pc},tl (a++b)=tl a+tl b
 | [],b=>(iX _).symm
 | .sp::r,b=>by simp only[aS,tl,dY,jS]
 | .nl::r,b=>by simp only[aS,tl,dY,jS]
 | .kO::r,b=>by simp only[aS,tl,dY,jS]
 | .out::r,b=>by simp only[aS,tl,dY,jS]
 | .tk k x::r,b=>by simp only[aS,tl,dY,jS]
theorem pm{d:Nat}:tl (dW d)=4*d:=by
 rw[<-CQ,S9,Ju]
theorem ab4 : ∀x:List UInt8,(gj x).length<=4*x.length
 | []=>ag _
 | c::x=>by
   rw[Nn,bW,ay];have:(iC c).flatten.length<=4:=by
    unfold iC;repeat' split
    all_goals simp
   have:=ab4 x;omega
def Ub (r:SR)(d n:Nat):Prop:=match r with
 | .at m _=>tY m->n+3<=uN d false m
 | .expr m=>tY m->n+5<=uN d false m
 | .dJ m=>bC m->(37<=m.kind/\m.kind<=42)\/m.kind=49\/m.kind=50->n+5<=uN d false m
 | .dB m=>bC m->44<=m.kind/\m.kind<=47->n+5<=uN d false m
 | .shown m=>bC m->51<=m.kind->n+5<=uN d false m
 | .bc _ l | .bF _ l=>(∀m∈l,tY m)->n<=uS d l
 | .two m _ s _=>∀a b ks,m.kids=a::b::ks->bC a->bC b->n+4<=uN d false a+uN d false b+s.length
 | .clauses l=>(∀m∈l,qe m)->n<=uS d l
 | .cV l=>(∀m∈l,Fl m)->n<=uS d l
 | .bO _ l=>pj l->n<=uS d l
 | .maybe s m=>m.kids= []\/(∃a,m.kids= [a]/\bC a)->n<=s.length+1+uS d m.kids
 | .block m=>okB m->n+4*d<=uN d false m
 | .a9 l=>(∀m∈l,lT m)->n<=uS d l
 | .ifs s m=>lT m->m.kind=5->n<=uN d false m
 | .cQ l=>(∀m∈l,vJ m\/okF m)->n<=uS d l
 | .tries m=>m.kind=15->lT m->n<=uN d false m
 | .stmt m=>lT m->n<=uN d false m
 | .head m=>m.kind=6\/m.kind=7\/m.kind=8\/m.kind=9\/m.kind=16->lT m->n<=uN d false m
 | .simple m=>¬(m.kind=5\/m.kind=15\/m.kind=6\/m.kind=7\/m.kind=8\/m.kind=9\/m.kind=16)->lT m->n+4*d+1<=uN d false m
def lU (f:Nat):Prop:=∀(r:SR) (d:Nat),r.me<f->Ub r d (tl (pp f r d))
section
variable {f:Nat}
theorem lU.at(b:lU f){n:Nd}{a d:Nat}(ho:bC n)(c:16*aq n.kids+7<f):tl (pp f (.at n a) d)+3<=uN d false n:=b (.at n a) d c ho.y
theorem anU(b:lU f){n:Nd}{a d:Nat}(c:SR.me (.at n a)<f+1):Ub (.at n a) d (tl (pp (f+1) (.at n a) d)):=by
 intro ho;have h1:=b (.expr n) d (by simp only[SR.me] at c⊢;omega) ho;simp only[pp];by_cases hc:gz n<a
 ·simp only[hc,iT,dY,tl,ay,aF,Nat.reduceEqDiff,iF];omega
 simp only[hc,iF];omega
theorem anV(b:lU f){s:List UInt8}{n:Nd}{d:Nat}(c:SR.me (.maybe s n)<f+1):Ub (.maybe s n) d (tl (pp (f+1) (.maybe s n) d)):=by
 intro ho;rcases ho with hk | ⟨a,hk,ha⟩
 ·simp only[pp,hk,tl,Nat.reduceEqDiff,iF,uS];omega
 have h1:=b.at (a:=0) (d:=d) ha (by simp only[SR.me,hk,aq,aL] at c⊢;omega);simp only[pp,hk,dY,tl,Nat.reduceEqDiff,iF,uS];omega
theorem anW(b:lU f){n:Nd}{d:Nat}(c:SR.me (.expr n)<f+1):Ub (.expr n) d (tl (pp (f+1) (.expr n) d)):=by
 intro ho;have g:=c;simp only[SR.me] at g;rcases ho with ho | ⟨l,rfl⟩ | ⟨l,rfl⟩ | ⟨l,a,rfl,ha⟩
 ·cases qN ho with
  | int h1 | Cy h1 | M0 h1=>
    rw[dQ de de];simp only[pp,aE,dy,Nat.reduceEqDiff,iT,iF,tl,ow];omega
  | str h1=>
    rename_i l x;have:=ab4 x;rw[dQ de de];simp only[pp,aE,dy,Nat.reduceEqDiff,iT,iF,tl,ow];omega
  | qf h1=>
    rcases h1 with rfl | rfl | rfl<;>rw[dQ de de]<;>simp only[pp,aE,dy,Nat.reduceEqDiff,iT,iF,tl,ow,ay,aF]<;>omega
  | call _ _ | attr _ _ | idx _ _ | pC _ _ _=>exact b (.dB _) d (SE c) ho (by simp[Nd.kind])
  | uZ _ | eE _ | set _ _ | Cz _ _ | CA _ _ _ | CB _ _ _ | CC _ _ _ _=>exact b (.shown _) d (SF c) ho (by simp[Nd.kind])
  | bin _ _ _ _ | un _ _ | and _ _ | or _ _ | not _ | cmp _ _ _ | cond _ _ _ | lam _ _=>exact b (.dJ _) d (M6 c) ho (by simp[Nd.kind])
 ·rw[dQ de de];simp only[pp,aE,Nat.reduceEqDiff,iT,iF,tl,ow];omega
 ·have h1:=b (.maybe nJ (.mk 60 l [] 0 [])) d Mt (.inl rfl);rw[dQ de de];simp only[pp,aE,am,Nat.reduceEqDiff,iT,iF,ow,ay,aF] at h1⊢;have e:tl (pp f (SR.maybe [121,105,101,108,100] (Nd.mk 60 l [] 0 [])) d)=tl (pp f (SR.maybe nJ (Nd.mk 60 l [] 0 [])) d):=rfl;rw[e];omega
 have h1:=b (.maybe nJ (.mk 60 l [] 0 [a])) d Mt (.inr ⟨a,rfl,ha⟩);rw[dQ de de];simp only[pp,aE,am,Nat.reduceEqDiff,iT,iF,ow,ay,aF] at h1⊢;have e:tl (pp f (SR.maybe [121,105,101,108,100] (Nd.mk 60 l [] 0 [a])) d)=tl (pp f (SR.maybe nJ (Nd.mk 60 l [] 0 [a])) d):=rfl;rw[e];omega
theorem anX(c:lU f){b:Bool}{l:List Nd}{d:Nat}(a:SR.me (.bc b l)<f+1):Ub (.bc b l) d (tl (pp (f+1) (.bc b l) d)):=by
 intro ho;rcases l with _ | ⟨n,l⟩
 ·exact eZ _
 simp only[SR.me,aq,aL] at a;have h1:=c (.at n 0) d Mt (ho n s0);have h2:=c (.bc true l) d Mt (λm a=>ho m (by simp[a]));cases b<;>simp only[pp,aM,iT,iF,dY,tl,Nat.reduceEqDiff,ay,aF,uS]<;>omega
theorem anY(c:lU f){b:Bool}{l:List Nd}{d:Nat}(a:SR.me (.bF b l)<f+1):Ub (.bF b l) d (tl (pp (f+1) (.bF b l) d)):=by
 intro ho;rcases l with _ | ⟨n,l⟩
 ·exact eZ _
 simp only[SR.me,aq,aL] at a;have h1:=c (.at n 0) d Mt (ho n s0);have h2:=c (.bF true l) d Mt (λm a=>ho m (by simp[a]));cases b<;>simp only[pp,aM,iT,iF,dY,tl,Nat.reduceEqDiff,ay,aF,uS]<;>omega
theorem anZ(c:lU f){b:Bool}{l:List Nd}{d:Nat}(e:SR.me (.bO b l)<f+1):Ub (.bO b l) d (tl (pp (f+1) (.bO b l) d)):=by
 intro ho;rcases l with _ | ⟨n,_ | ⟨m,l⟩⟩
 ·exact eZ _
 ·exact eZ _
 simp only[SR.me,aq,aL] at e;have h1:=c.at (a:=0) (d:=d) (ho n s0) Om;have h3:=c.at (a:=0) (d:=d) (ho m s0) Om;have h2:=c (.bO true l) d Mt (λm e=>ho m (by simp[e]));cases b<;>simp only[pp,aM,iT,iF,dY,tl,Nat.reduceEqDiff,ay,aF,uS]<;>omega
theorem an0{s:List UInt8}{r:List Pc}:tl (vG s::r)=s.length+tl r:=by
 unfold vG;split<;>rfl
theorem an1(c:lU f){n:Nd}{l r:Nat}{s:List UInt8}{d:Nat}(e:SR.me (.two n l s r)<f+1):Ub (.two n l s r) d (tl (pp (f+1) (.two n l s r) d)):=by
 intro a b ks hk ha hb;simp only[SR.me,hk,aq,aL] at e;have h1:=c.at (a:=l) (d:=d) ha Om;have h2:=c.at (a:=r) (d:=d) hb Om;simp only[pp,hk,dY,tl,an0];omega
theorem an2(e:lU f){l:List Nd}{d:Nat}(c:SR.me (.clauses l)<f+1):Ub (.clauses l) d (tl (pp (f+1) (.clauses l) d)):=by
 intro ho;rcases l with _ | ⟨n,l⟩
 ·exact eZ _
 simp only[SR.me,aq,aL] at c;have h2:=e (.clauses l) d Mt (λm c=>ho m (by simp[c]));rcases ho n s0 with ⟨ln,a,b,rfl,ha,hp,hb⟩ | ⟨ln,a,rfl,ha⟩
 ·simp only[am,aq,aL] at c;have h1:=e.at (a:=9) (d:=d) ha Om;have h3:=e.at (a:=1) (d:=d) hb Om;simp only[pp,aE,am,Nat.reduceEqDiff,iF,dY,tl,ay,aF,uS];rw[dQ de de];simp only[uS,ow];omega
 simp only[am,aq,aL] at c;have h1:=e.at (a:=1) (d:=d) ha Om;simp only[pp,aE,am,Nat.reduceEqDiff,iT,iF,dY,tl,ay,aF,uS];rw[dQ de de];simp only[uS,ow];omega
theorem an3{o:Nat}(h1:1<=o)(h2:o<=10):tl (vF o)<=6:=by
 obtain rfl | rfl | rfl | rfl | rfl | rfl | rfl | rfl | rfl | rfl:o=1\/o=2\/o=3\/o=4\/o=5\/o=6\/o=7\/o=8\/o=9\/o=10:=by omega
 all_goals decide
theorem an4(c:lU f){l:List Nd}{d:Nat}(b:SR.me (.cV l)<f+1):Ub (.cV l) d (tl (pp (f+1) (.cV l) d)):=by
 intro ho;rcases l with _ | ⟨n,l⟩
 ·exact eZ _
 simp only[SR.me,aq,aL] at b;have h2:=c (.cV l) d Mt (λm b=>ho m (by simp[b]));obtain⟨ln,o,a,rfl,o1,o2,ha⟩:=ho n s0;simp only[am,aq,aL] at b;have h1:=c.at (a:=5) (d:=d) ha Om;have h3:=an3 o1 o2;simp only[pp,fx,am,dY,tl,uS];rw[dQ de de];simp only[uS,ow];omega
theorem an5(g:lU f){n:Nd}{d:Nat}(j:SR.me (.dB n)<f+1):Ub (.dB n) d (tl (pp (f+1) (.dB n) d)):=by
 intro ho hk;cases qN ho with
 | call ha bq=>
   rename_i l a ks;simp only[SR.me,am,aq,aL] at j;have h1:=g.at (a:=9) (d:=d) ha Om;have h2:=g (.bc false ks) d Mt (λm j=>(bq m j).y);rw[dQ de de];simp only[pp,aE,am,Nat.reduceEqDiff,false_and,iF,iT,dY,tl,ay,aF,uS,ow] at h2⊢;omega
 | attr hx ha=>
   rename_i l x a;simp only[SR.me,am,aq,aL] at j;rw[dQ de de];by_cases hc:a.kind=30\/a.kind=31
   ·have e:a.text.length+5<=uN d false a:=by
     cases qN ha with
     | int h1=>rw[dQ de de];simp only[ow,dy];omega
     | Cy h1=>rw[dQ de de];simp only[ow,dy];omega
     | qf hx=>simp only[aE] at hc;omega
     | _=>simp[Nd.kind] at hc
    simp only[pp,aE,am,dy,true_and,hc,Nat.reduceEqDiff,iF,iT,dY,tl,ay,aF,uS,ow];have o : ¬(if a.kind=30 then 5 else 6)=7:=by split<;>decide
    rw[iN o];omega
   have h1:=g.at (a:=9) (d:=d) ha Om;simp only[pp,aE,am,dy,true_and,hc,Nat.reduceEqDiff,iF,iT,dY,tl,ay,aF,uS,ow];omega
 | idx ha hb=>
   rename_i l a b;simp only[SR.me,am,aq,aL] at j;have h1:=g.at (a:=9) (d:=d) ha Om;have h2:=g.at (a:=0) (d:=d) hb Om;rw[dQ de de];simp only[pp,aE,am,Nat.reduceEqDiff,false_and,iF,iT,dY,tl,ay,aF,uS,ow];omega
 | pC ha hb hc=>
   rename_i l a b c;have k : ∀ {n},Cv n->tY n:=λh=>h.imp_right λh=> .inl h;simp only[SR.me,am,aq,aL] at j;have h1:=g.at (a:=9) (d:=d) ha Om;have h2:=g (.at b 0) d Mt (k hb);have h3:=g (.at c 0) d Mt (k hc);rw[dQ de de];simp only[pp,aE,am,Nat.reduceEqDiff,false_and,iF,iT,dY,tl,ay,aF,uS,ow];omega
 | qf h=>simp only[aE] at hk;omega
 | _=>simp[Nd.kind] at hk
theorem an6(e:lU f){n:Nd}{d:Nat}(c:SR.me (.shown n)<f+1):Ub (.shown n) d (tl (pp (f+1) (.shown n) d)):=by
 intro ho hk;have row : ∀ {ks:List Nd},pj ks->16*aq ks<f->tl (pp f (.bc false ks) d)<=uS d ks:=λh c=>e (.bc false _) d Mt (λm c=>(h m c).y);have cls : ∀ {ks:List Nd},(∀n∈ks,qe n)->16*aq ks<f->tl (pp f (.clauses ks) d)<=uS d ks:=λh c=>e (.clauses _) d Mt h;cases qN ho with
 | uZ bq=>
   simp only[SR.me,am,aq,aL] at c;have h1:=row bq Om;rw[dQ de de];simp only[pp,aE,am,Nat.reduceEqDiff,true_or,or_true,false_or,or_false,or_self,iF,iT,dY,tl,ay,aF,ow];omega
 | eE bq=>
   rename_i l ks;simp only[SR.me,am] at c;have h1:=row bq Om;rw[dQ de de];by_cases g:ks.length=1
   ·simp only[pp,aE,am,Nat.reduceEqDiff,true_or,or_true,false_or,or_false,or_self,g,iF,iT,dY,tl,ay,aF,ow];omega
   simp only[pp,aE,am,Nat.reduceEqDiff,true_or,or_true,false_or,or_false,or_self,g,iF,iT,dY,tl,ay,aF,ow];omega
 | set ha bq=>
   rename_i l a ks;simp only[SR.me,am] at c;have h1:=row (ks:=a::ks) (λn hn=>by
    rcases List.mem_cons.1 hn with rfl | hn
    ·exact ha
    exact bq n hn) Om
   rw[dQ de de];simp only[pp,aE,am,Nat.reduceEqDiff,true_or,or_true,false_or,or_false,or_self,iF,iT,dY,tl,ay,aF,ow];omega
 | Cz bq he=>
   rename_i l ks;simp only[SR.me,am] at c;have h1:=e (.bO false ks) d Mt bq;rw[dQ de de];simp only[pp,aE,am,Nat.reduceEqDiff,true_or,or_true,false_or,or_false,or_self,iF,iT,dY,tl,ay,aF,ow];omega
 | CA ha av bq | CB ha av bq=>
   rename_i l a ks;simp only[SR.me,am,aq,aL] at c;have h1:=e.at (a:=0) (d:=d) ha Om;have h2:=cls bq Om;rw[dQ de de];simp only[pp,aE,am,Nat.reduceEqDiff,true_or,or_true,false_or,or_false,or_self,iF,iT,dY,tl,ay,aF,uS,ow];omega
 | CC ha hb av bq=>
   rename_i l a b ks;simp only[SR.me,am,aq,aL] at c;have h1:=e (.bO false [a,b]) d (by simp only[SR.me,aq,aL];omega) (λn hn=>by
    rcases List.mem_cons.1 hn with rfl | hn
    ·exact ha
    rw[List.mem_singleton.1 hn];exact hb)
   have h2:=cls bq Om;rw[dQ de de];simp only[pp,aE,am,Nat.reduceEqDiff,true_or,or_true,false_or,or_false,or_self,iF,iT,dY,tl,ay,aF,uS,ow] at h1⊢;omega
 | qf h=>simp only[aE] at hk;omega
 | _=>simp[Nd.kind] at hk
end
section
variable {f:Nat}
theorem ab5{o:Nat}(h1:1<=o)(h2:o<=7):(jP mO o).length<=2:=by
 obtain rfl | rfl | rfl | rfl | rfl | rfl | rfl:o=1\/o=2\/o=3\/o=4\/o=5\/o=6\/o=7:=by omega
 all_goals decide
theorem an7(g:lU f){n:Nd}{d:Nat}(j:SR.me (.dJ n)<f+1):Ub (.dJ n) d (tl (pp (f+1) (.dJ n) d)):=by
 intro ho hk;have two : ∀ {l r:Nat} {s:List UInt8} {a b:Nd} {ks:List Nd},n.kids=a::b::ks->bC a->bC b->tl (pp f (.two n l s r) d)+4<=uN d false a+uN d false b+s.length:=λhk ha hb=>g (.two n _ _ _) d (by simp only[SR.me] at j⊢;omega) _ _ _ hk ha hb;cases qN ho with
 | bin o1 o2 ha hb=>
   rename_i l o a b;rw[dQ de de];have q:=ab5 o1 o2;by_cases k:o=7
   ·subst k;have h1:=two (l:=9) (r:=7) (s:= [42,42]) rfl ha hb;simp only[pp,aE,fx,Nat.reduceEqDiff,iF,iT,uS,ow,ay,aF] at h1⊢;omega
   have h1:=two (l:=gz (.mk 37 l [] o [a,b])) (r:=gz (.mk 37 l [] o [a,b])+1) (s:=jP mO o) rfl ha hb;simp only[pp,aE,fx,Nat.reduceEqDiff,k,iF,iT,uS,ow] at h1⊢;omega
 | un m ha=>
   rename_i l o a;simp only[SR.me,am,aq,aL] at j;have h1:=g.at (a:=7) (d:=d) ha Om;rw[dQ de de];rcases m with rfl | rfl<;>simp only[pp,aE,am,fx,Nat.reduceEqDiff,iF,iT,dY,tl,ay,aF,uS,ow]<;>omega
 | and ha hb=>
   rename_i l a b;have h1:=two (l:=2) (r:=3) (s:= [97,110,100]) rfl ha hb;rw[dQ de de];simp only[pp,aE,fx,Nat.reduceEqDiff,iF,iT,uS,ow,ay,aF] at h1⊢;omega
 | or ha hb=>
   rename_i l a b;have h1:=two (l:=1) (r:=2) (s:= [111,114]) rfl ha hb;rw[dQ de de];simp only[pp,aE,fx,Nat.reduceEqDiff,iF,iT,uS,ow,ay,aF] at h1⊢;omega
 | not ha=>
   rename_i l a;simp only[SR.me,am,aq,aL] at j;have h1:=g.at (a:=3) (d:=d) ha Om;rw[dQ de de];simp only[pp,aE,am,fx,Nat.reduceEqDiff,iF,iT,dY,tl,ay,aF,uS,ow];omega
 | cmp ha hn bq=>
   rename_i l a ks;simp only[SR.me,am,aq,aL] at j;have h1:=g.at (a:=5) (d:=d) ha Om;have h2:=g (.cV ks) d Mt bq;rw[dQ de de];simp only[pp,aE,am,fx,Nat.reduceEqDiff,iF,iT,dY,uS,ow];omega
 | cond ha hb hc=>
   rename_i l a b c;simp only[SR.me,am,aq,aL] at j;have h1:=g.at (a:=1) (d:=d) ha Om;have h2:=g.at (a:=1) (d:=d) hb Om;have h3:=g.at (a:=0) (d:=d) hc Om;rw[dQ de de];simp only[pp,aE,am,fx,Nat.reduceEqDiff,iF,iT,dY,tl,ay,aF,uS,ow];omega
 | lam hp he=>
   rename_i l l' ps e;simp only[SR.me,am,aq,aL] at j;have h1:=g.at (a:=0) (d:=d) he Om;have h2:=g (.bc false ps) d Mt (λn hn=>(FB (hp n hn)).y);have h3 : ∀ {c:Prop} [Decidable c],tl (if c then [Pc.sp] else [])<=1:=λ{c} _=>by split<;>simp[tl]
   rw[dQ de de];have h4:tl (if 0<(Nd.mk 23 l' [] 0 ps).kids.length then [Pc.sp] else [])<=1:=h3;simp only[pp,aE,am,fx,Nat.reduceEqDiff,iF,iT,dY,tl,ay,aF,uS,ow] at h4⊢;rw[dQ de de];omega
 | qf h=>simp only[aE] at hk;omega
 | _=>simp[Nd.kind] at hk
theorem an8(a:lU f){n:Nd}{d:Nat}(b:SR.me (.block n)<f+1):Ub (.block n) d (tl (pp (f+1) (.block n) d)):=by
 rintro⟨l,ks,rfl,av,bq⟩;have h1:=a (.a9 ks) (d+1) (by simp only[SR.me,am] at b⊢;omega) bq;rw[Je];simp only[pp,am,dY,tl,Nat.reduceEqDiff,iF,ay,aF];omega
theorem an9(b:lU f){l:List Nd}{d:Nat}(a:SR.me (.a9 l)<f+1):Ub (.a9 l) d (tl (pp (f+1) (.a9 l) d)):=by
 intro ho;rcases l with _ | ⟨n,l⟩
 ·exact eZ _
 simp only[SR.me,aq,aL] at a;have h1:=b (.stmt n) d Mt (ho n s0);have h2:=b (.a9 l) d Mt (λm a=>ho m (by simp[a]));simp only[pp,dY,uS];omega
theorem an'(g:lU f){n:Nd}{d:Nat}(j:SR.me (.simple n)<f+1):Ub (.simple n) d (tl (pp (f+1) (.simple n) d)):=by
 intro hk ho;have m : ∀ {v},AA v->tY v:=λh=>h.imp_right λh=> .inr h;have q:=j;simp only[SR.me] at q;have c : ∀ {s:List UInt8},n.kids= []\/(∃a,n.kids= [a]/\bC a)->tl (pp f (.maybe s n) d)<=s.length+1+uS d n.kids:=λh=>g (.maybe _ n) d Mt h;cases tX ho with
 | exp hv=>
   rename_i l v;have h1:=g (.bc false [v]) d (by simp only[SR.me,am] at j⊢;omega) (λn hn=>by rw[List.mem_singleton.1 hn];exact m hv);rw[dQ de de];simp only[pp,aE,am,Nat.reduceEqDiff,iF,iT,sd,true_or,or_true,ow];omega
 | bF hn bq hv=>
   rename_i l ks v;have h1:=g (.bF false (ks++ [v])) d (by simp only[SR.me,am] at j⊢;omega) (λn hn=>by
    rcases List.mem_append.1 hn with hn | hn
    ·exact(bq n hn).1.y
    rw[List.mem_singleton.1 hn];exact m hv)
   rw[dQ de de];simp only[pp,aE,am,Nat.reduceEqDiff,iF,iT,sd,true_or,or_true,ow];omega
 | M9 o1 o2 ha hs hb=>
   rename_i l o a b;have r:=ab5 o1 o2;have h1:=g (.two (.mk 4 l [] o [a,b]) 0 (jP mO o++ [61]) 0) d (by simp only[SR.me] at j⊢;omega) a b [] rfl ha hb;rw[dQ de de];simp only[pp,aE,fx,Nat.reduceEqDiff,iF,iT,sd,true_or,or_true,ow,uS,bW,ay,aF] at h1⊢;omega
 | tb e=>
   rename_i k l;rcases e with rfl | rfl
   ·have h1:=c (s:= [114,101,116,117,114,110]) (.inl rfl);rw[dQ de de];simp only[pp,aE,am,Nat.reduceEqDiff,iF,iT,sd,true_or,or_true,ow,uS,ay,aF] at h1⊢;omega
   have h1:=c (s:= [114,97,105,115,101]) (.inl rfl);rw[dQ de de];simp only[pp,aE,am,Nat.reduceEqDiff,iF,iT,sd,true_or,or_true,ow,uS,ay,aF] at h1⊢;omega
 | tc e ha=>
   rename_i k l a;rcases e with rfl | rfl
   ·have h1:=c (s:= [114,101,116,117,114,110]) (.inr ⟨a,rfl,ha⟩);rw[dQ de de];simp only[pp,aE,am,Nat.reduceEqDiff,iF,iT,sd,true_or,or_true,ow,uS,ay,aF] at h1⊢;omega
   have h1:=c (s:= [114,97,105,115,101]) (.inr ⟨a,rfl,ha⟩);rw[dQ de de];simp only[pp,aE,am,Nat.reduceEqDiff,iF,iT,sd,true_or,or_true,ow,uS,ay,aF] at h1⊢;omega
 | Na ha=>
   rename_i l a;have h1:=c (s:= [97,115,115,101,114,116]) (.inr ⟨a,rfl,ha⟩);rw[dQ de de];simp only[pp,aE,am,Nat.reduceEqDiff,iF,iT,sd,true_or,or_true,ow,uS,ay,aF] at h1⊢;omega
 | td e=>
   rename_i k l;rcases e with rfl | rfl | rfl<;>rw[dQ de de]<;>simp only[pp,aE,am,Nat.reduceEqDiff,iF,iT,sd,true_or,or_true,ow,uS,tl,ay,aF]<;>omega
 | te e hn bq=>
   rename_i k l ks;have h1:=g (.bc false ks) d (by simp only[SR.me,am] at j⊢;omega) λn hn=>(FB (bq n hn)).y;rcases e with rfl | rfl<;>rw[dQ de de]<;>simp only[pp,aE,am,Nat.reduceEqDiff,iF,iT,sd,true_or,or_true,ow,uS,dY,tl,ay,aF]<;>omega
 | del ha hs=>
   rename_i l a;have h1:=g.at (a:=9) (d:=d) ha (by simp only[SR.me,am,aq,aL] at j⊢;omega);rw[dQ de de];simp only[pp,aE,am,Nat.reduceEqDiff,iF,iT,sd,true_or,or_true,ow,uS,dY,tl,ay,aF];omega
 | _=>exact absurd (by simp[Nd.kind]) hk
theorem aoa(a:lU f){n:Nd}{d:Nat}(b:SR.me (.stmt n)<f+1):Ub (.stmt n) d (tl (pp (f+1) (.stmt n) d)):=by
 intro ho;by_cases h5:n.kind=5
 ·simp only[pp,h5,iT];exact a (.ifs [105,102,32] n) d (by simp only[SR.me] at b⊢;omega) ho h5
 by_cases c:n.kind=15
 ·simp only[pp,c,Nat.reduceEqDiff,iT,iF];exact a (.tries n) d (by simp only[SR.me] at b⊢;omega) c ho
 by_cases hh:n.kind=6\/n.kind=7\/n.kind=8\/n.kind=9\/n.kind=16
 ·simp only[pp,iN h5,iN c,iP hh];exact a (.head n) d (by simp only[SR.me] at b⊢;omega) hh ho
 have h1:=a (.simple n) d (by simp only[SR.me] at b⊢;omega) Om ho;simp only[pp,iN h5,iN c,iN hh,dY,tl,pm];omega
theorem aob(c:lU f){n:Nd}{s:List UInt8}{d:Nat}(g:SR.me (.ifs s n)<f+1):Ub (.ifs s n) d (tl (pp (f+1) (.ifs s n) d)):=by
 intro ho hk;have hw:(if s= [105,102,32] then [105,102] else [101,108,105,102]:List UInt8).length<=4:=by split<;>decide
 cases tX ho with
 | Nb ha hb=>
   rename_i l a b;simp only[SR.me,am,aq,aL] at g;have h1:=c.at (a:=0) (d:=d) ha Om;have h2:=c (.block b) d Mt hb;rw[ab3];simp only[pp,am,dY,tl,pm,Nat.reduceEqDiff,iF];omega
 | Nc ha hb he=>
   rename_i l a b e;obtain⟨le,es,rfl,av,j⟩:=he;simp only[SR.me,am,aq,aL] at g;have h1:=c.at (a:=0) (d:=d) ha Om;have h2:=c (.block b) d Mt hb;have h3:=c (.block (.mk 1 le [] 0 es)) d (by simp only[SR.me,am];omega) ⟨le,es,rfl,av,j⟩;rw[Te];match es,av,j,g,h3 with
   | [x],_,j,g,h3=>
     by_cases hx:x.kind=5
     ·have h4:=c (.ifs [101,108,105,102,32] x) d (by simp only[SR.me,aq,aL] at g⊢;omega) (j x s0) hx;rw[Tg hx];simp only[pp,am,hx,iT,dY,tl,pm,Nat.reduceEqDiff,iF];omega
     rw[Je] at h3;rw[Tf (ks:= [x]) (decide_eq_false hx)];simp only[pp,am,hx,iF,dY,tl,pm,Nat.reduceEqDiff,ay,aF];omega
   | x::y::es,_,j,g,h3=>
     rw[Je] at h3;rw[Tf rfl];simp only[pp,am,iF,dY,tl,pm,Nat.reduceEqDiff,ay,aF];omega
 | tb h | tc h _ | td h | te h _ _=>simp only[aE] at hk;omega
 | _=>simp[Nd.kind] at hk
theorem aoc(g:lU f){l:List Nd}{d:Nat}(o:SR.me (.cQ l)<f+1):Ub (.cQ l) d (tl (pp (f+1) (.cQ l) d)):=by
 intro hl;rcases l with _ | ⟨c,l⟩
 ·exact eZ _
 have j:=o;simp only[SR.me,aq,aL] at j;have q:=g (.cQ l) d Mt λn hn=>hl n (by simp[hn]);simp only[uS];rcases hl c s0 with (⟨ln,b,rfl,hb⟩ | ⟨ln,x,e,b,rfl,hx,he,hb⟩) | ⟨ln,b,rfl,hb⟩
 ·simp only[am,aq,aL] at j;have h2:=g (.block b) d Mt hb;rw[dQ de de];simp only[pp,aE,am,dy,Nat.reduceEqDiff,iT,iF,gS,cp,dY,tl,pm,ay,aF,ow,uS];omega
 ·simp only[am,aq,aL] at j;have k : [e,b].getLast? = some b:=rfl;have h1:=g.at (a:=0) (d:=d) he Om;have h2:=g (.block b) d Mt hb;rw[dQ de de];by_cases m:x= []
  ·subst m;simp only[pp,aE,am,dy,Nat.reduceEqDiff,iT,iF,k,cp,dY,tl,pm,ay,aF,ow,uS];omega
  simp only[pp,aE,am,dy,Nat.reduceEqDiff,m,iT,iF,k,cp,dY,tl,pm,ay,aF,ow,uS];omega
 simp only[am,aq,aL] at j;have h2:=g (.block b) d Mt hb;rw[dQ de de];simp only[pp,aE,am,dy,Nat.reduceEqDiff,iT,iF,gS,cp,dY,tl,pm,ay,aF,ow,uS];omega
theorem aod(a:lU f){n:Nd}{d:Nat}(hm:SR.me (.tries n)<f+1):Ub (.tries n) d (tl (pp (f+1) (.tries n) d)):=by
 intro hk ho;cases tX ho with
 | tr hb hh hd ht hn=>
   rename_i l b h' t;simp only[SR.me,am,aq,aL] at hm;have c : ∀n∈h'++t,vJ n\/okF n:=λn hm=>by
    rcases List.mem_append.1 hm with hm | hm
    ·exact .inl (hh n hm)
    rcases ht with rfl | ⟨y,rfl,e⟩
    ·cases hm
    rw[List.mem_singleton.1 hm];exact .inr e
   have h2:=a (.block b) d Mt hb;have h3:=a (.cQ (h'++t)) d Mt c;rw[dQ de de];simp only[pp,am,Nat.reduceEqDiff,iF,dY,tl,pm,ay,aF,ow,uS];omega
 | tb h | tc h _ | td h | te h _ _=>simp only[aE] at hk;omega
 | _=>simp[Nd.kind] at hk
theorem aoe(g:lU f){n:Nd}{d:Nat}(j:SR.me (.head n)<f+1):Ub (.head n) d (tl (pp (f+1) (.head n) d)):=by
 intro hk ho;cases tX ho with
 | Nf ha hb=>
   rename_i l a b;simp only[SR.me,am,aq,aL] at j;have h1:=g.at (a:=0) (d:=d) ha Om;have h2:=g (.block b) d Mt hb;rw[dQ de de];simp only[pp,aE,am,dy,Nat.reduceEqDiff,iT,iF,dY,tl,pm,ay,aF,ow,uS];omega
 | fr ha hp hb hc=>
   rename_i l a b c;simp only[SR.me,am,aq,aL] at j;have h1:=g.at (a:=9) (d:=d) ha Om;have h3:=g.at (a:=0) (d:=d) hb Om;have h2:=g (.block c) d Mt hc;rw[dQ de de];simp only[pp,aE,am,dy,Nat.reduceEqDiff,iT,iF,dY,tl,pm,ay,aF,ow,uS];omega
 | df hx hp hb=>
   rename_i l x l' ps b;simp only[SR.me,am,aq,aL] at j;have h1:=g (.bc false ps) d Mt (λn hn=>(FB (hp n hn)).y);have h2:=g (.block b) d Mt hb;rw[dQ de de];simp only[pp,aE,am,dy,Nat.reduceEqDiff,iT,iF,dY,tl,pm,ay,aF,ow,uS];rw[dQ de de];omega
 | cls hx hp hb=>
   rename_i l x l' ps b;simp only[SR.me,am,aq,aL] at j;have h1:=g (.bc false ps) d Mt (λn hn=>(hp n hn).y);have h2:=g (.block b) d Mt hb;rw[dQ de de];simp only[uS,ow];rw[dQ de de];by_cases hl:0<ps.length
   ·simp only[pp,aE,am,dy,Nat.reduceEqDiff,hl,iT,iF,dY,tl,pm,ay,aF];omega
   simp only[pp,aE,am,dy,Nat.reduceEqDiff,hl,iT,iF,dY,tl,pm,ay,aF];omega
 | Ng hx he hb=>
   rename_i l x e b;simp only[SR.me,am,aq,aL] at j;have h1:=g.at (a:=0) (d:=d) he Om;have h2:=g (.block b) d Mt hb;rw[dQ de de];by_cases k:x= []
   ·subst k;simp only[pp,aE,am,dy,Nat.reduceEqDiff,iT,iF,dY,tl,pm,ay,aF,ow,uS];omega
   simp only[pp,aE,am,dy,Nat.reduceEqDiff,k,iT,iF,dY,tl,pm,ay,aF,ow,uS];omega
 | tb h | tc h _ | td h | te h _ _=>simp only[aE] at hk;omega
 | _=>simp[Nd.kind] at hk
theorem ab6 : ∀f,lU f
 | 0=>λr d c=>absurd c (tj _)
 | f+1=>λr d c=>by
   have e:=ab6 f;cases r;case «at» n a=>exact anU e c
   case expr n=>exact anW e c
   case bc b l=>exact anX e c
   case two n l s r=>exact an1 e c
   case clauses l=>exact an2 e c
   case bO b l=>exact anZ e c
   case shown n=>exact an6 e c
   case dB n=>exact an5 e c
   case dJ n=>exact an7 e c
   case cV l=>exact an4 e c
   case maybe s n=>exact anV e c
   case block n=>exact an8 e c
   case a9 l=>exact an9 e c
   case ifs s n=>exact aob e c
   case tries n=>exact aod e c
   case cQ l=>exact aoc e c
   case stmt n=>exact aoa e c
   case head n=>exact aoe e c
   case bF b l=>exact anY e c
   case simple n=>exact an' e c
end
def Dp (ts:List PT):Nat->Nat
 | 0=>0
 | i+1=>if (ah ts i).kind=2 then Dp ts i+1 else if (ah ts i).kind=3 then Dp ts i-1 else Dp ts i
def Sm (ts:List PT):Nat->Nat
 | 0=>0
 | i+1=>Sm ts i+(if (ah ts i).kind=1 then 8*Dp ts i+16 else if 4<=(ah ts i).kind then 14+4*(ah ts i).text.length else 0)
def NT.cH(e:Nat):NT->Nat
 | .params _ _ acc | .row _ acc | .pY _ acc | .clauses acc | .rO _ acc | .placesL _ acc | .names _ _ acc | .jo _ acc | .lN acc | .nL _ acc | .top acc=>uS e acc
 | .tL n | .tM n | .sP n | .qI n | .rN n | .index n=>uN e false n
 | .jO n acc=>uN e false n+uS e acc+(if acc.isEmpty=true then 0 else 5)
 | .a9 acc=>uS (e+1) acc
 | _=>0
def NT.cD(e:Nat):NT->Nat
 | .exprs | .pY _ _ | .value | .list _ | .qJ _ | .rO _ _ | .sO | .placesL _ _=>8
 | .index _=>15
 | .plain=>4*e+9
 | .jo _ _=>4*e+1
 | .simple=>4*e+10
 | .maybe k _ _=>ow k 0+sd k e+8
 | .names k _ _=>ow k 0+sd k e
 | .a9 _=>4*e+2
 | .nL _ _=>3
 | _=>0
def NT.cL:NT->Nat
 | .a9 _=>1
 | _=>0
def NT.cB:NT->Prop
 | .block | .a9 _ | .ifs _ | .tries _ | .lN _ | .nL _ _ | .stmt | .top _=>True
 | _=>False
def NT.cI:NT->Prop
 | .maybe k _ _=>k=60\/k=10\/k=14
 | .names k _ _=>k=17\/k=18
 | _=>True
def NT.cK:NT->List Nd->Prop
 | .ifs _=>λl=>∀n∈l,n.kind=5
 | _=>λ_=>True
abbrev Cp(ts:List PT)(a:NT)(i e:Nat)(l:List Nd)(j:Nat):Prop:=uS e l+Sm ts i<=Sm ts j+a.cH e+a.cD e/\Dp ts j+a.cL=Dp ts i/\a.cK l
def Cw (P:List Nd->Nat->Prop):PR->Prop
 | some (.ok (l,j))=>P l j
 | _=>True
def Th (ts:List PT)(f:Nat):Prop:=∀(a:NT) (i e:Nat),a.cI->(a.cB->Dp ts i=e+a.cL)->Cw (Cp ts a i e) (gr ts f a i)
section
variable {ts:List PT} {i:Nat} {P:List Nd->Nat->Prop}
theorem Nt(h:4<=(ah ts i).kind):Sm ts (i+1)=Sm ts i+14+4*(ah ts i).text.length/\Dp ts (i+1)=Dp ts i:=by
 simp only[Sm,Dp];rw[iN Om,iP h,iN Om,iN Om];exact⟨Om,rfl⟩
theorem Jf(h:(ah ts i).kind=1):Sm ts (i+1)=Sm ts i+8*Dp ts i+16/\Dp ts (i+1)=Dp ts i:=by
 simp only[Sm,Dp];rw[iP h,iN Om,iN Om];exact⟨Om,rfl⟩
theorem ab7(h:(ah ts i).kind=2):Sm ts (i+1)=Sm ts i/\Dp ts (i+1)=Dp ts i+1:=by
 simp only[Sm,Dp];rw[iN Om,iN Om,iP h];exact⟨rfl,rfl⟩
theorem ab8(h:(ah ts i).kind=3):Sm ts (i+1)=Sm ts i/\Dp ts (i+1)=Dp ts i-1:=by
 simp only[Sm,Dp];rw[iN Om,iN Om,iN Om,iP h];exact⟨rfl,rfl⟩
theorem zi{s:List UInt8}(h:ai ts i s=true)(hs:s≠ []):Sm ts i+18<=Sm ts (i+1)/\Dp ts (i+1)=Dp ts i:=by
 have h1:=of_decide_eq_true h;obtain⟨b,a⟩:=Nt (ts:=ts) (i:=i) Om;refine⟨?_,a⟩;have:1<=(ah ts i).text.length:=by
  rw[h1.2.1];cases s with
  | nil=>exact absurd rfl hs
  | cons _ _=>simp
 omega
theorem ab9{r:PR}{Q:List Nd->Nat->Prop}{k:List Nd->Nat->PR}(h:Cw Q r)(hk : ∀l j,Q l j->Cw P (k l j)):Cw P (pb r k):=by
 match r,h with
 | none,_=>exact trivial
 | some (.error e),_=>exact trivial
 | some (.ok (l,j)),h=>exact hk l j h
theorem vO{r:PR}{Q:List Nd->Nat->Prop}{k:Nd->Nat->PR}(h:Cw Q r)(hk : ∀n j,Q [n] j->Cw P (k n j)):Cw P (bu r k):=ab9 h λl j h2=>by
 match l,h2 with
 | [],_=>exact trivial
 | _::_::_,_=>exact trivial
 | [n],h2=>exact hk n j h2
theorem AJ{r:PR}{Q:List Nd->Nat->Prop}(h:Cw Q r)(hk : ∀l j,Q l j->P l j):Cw P r:=by
 match r,h with
 | none,_=>exact trivial
 | some (.error e),_=>exact trivial
 | some (.ok (l,j)),h=>exact hk l j h
theorem tZ{c:Prop}[Decidable c]{a b:PR}(h1:c->Cw P a)(h2 : ¬c->Cw P b):Cw P (if c then a else b):=by
 split;·exact h1 ‹_›
 exact h2 ‹_›
theorem CR{s:List UInt8}{a b:PR}(hs:s≠ [])(h1:Sm ts i+18<=Sm ts (i+1)->Dp ts (i+1)=Dp ts i->Cw P a)(h2:Cw P b):Cw P (if ai ts i s=true then a else b):=
 tZ (λh=>h1 (zi h hs).1 (zi h hs).2) λ_=>h2
theorem Nu{s:List UInt8}{k:Nat->PR}(hs:s≠ [])(h1:Sm ts i+18<=Sm ts (i+1)->Dp ts (i+1)=Dp ts i->Cw P (k (i+1))):Cw P (eX ts s i k):=
 tZ (λh=>h1 (zi h hs).1 (zi h hs).2) λ_=>trivial
theorem ab'{k:List UInt8->Nat->PR}(h1:Sm ts (i+1)=Sm ts i+14+4*(ah ts i).text.length->Dp ts (i+1)=Dp ts i->Cw P (k (ah ts i).text (i+1))):Cw P (jk ts 4 i k):=
 tZ (λh=>h1 (Nt Om).1 (Nt Om).2) λ_=>trivial
theorem aca{k:List UInt8->Nat->PR}(h1:Sm ts (i+1)=Sm ts i+8*Dp ts i+16->Dp ts (i+1)=Dp ts i->Cw P (k (ah ts i).text (i+1))):Cw P (jk ts 1 i k):=
 tZ (λh=>h1 (Jf h).1 (Jf h).2) λ_=>trivial
theorem aof{k:List UInt8->Nat->PR}(h1:Sm ts (i+1)=Sm ts i->Dp ts (i+1)=Dp ts i+1->Cw P (k (ah ts i).text (i+1))):Cw P (jk ts 2 i k):=
 tZ (λh=>h1 (ab7 h).1 (ab7 h).2) λ_=>trivial
theorem acb{e:Nat}:Cw P (some (.error e)):=trivial
theorem aog{l:List Nd}{j:Nat}(h:P l j):Cw P (some (.ok (l,j))):=h
theorem r9{n:Nd}{j:Nat}(h:P [n] j):Cw P (bI n j):=h
theorem aoh{A:PR}{B:Nat->Nat->PR}(hA:Cw P A)(a : ∀op j,Sm ts i+18<=Sm ts j->Dp ts j=Dp ts i->Cw P (B op j)):Cw P (match eB ts i with | .error e=>some (.error e) | .ok (0,_)=>A | .ok (op+1,j)=>B op j):=by
 have h : ∀o j,eB ts i= .ok (o,j)->o=0\/(Sm ts i+18<=Sm ts j/\Dp ts j=Dp ts i):=by
  intro o j h;unfold eB at h;repeat' split at h
  all_goals first
   | (cases h;done)
   | (cases h;exact .inl rfl)
   | (cases h;exact .inr (zi ‹_› s0))
   | (cases h;have h1:=zi (ts:=ts) (i:=i) ‹_› s0;have h2:Sm ts (i+1)+18<=Sm ts (i+2)/\Dp ts (i+2)=Dp ts (i+1):=zi (ts:=ts) (i:=i+1) ‹_› s0;exact .inr ⟨Om,Om⟩)
 match b:eB ts i with
 | .error e=>exact trivial
 | .ok (0,_)=>exact hA
 | .ok (op+1,j)=>
   obtain⟨h1,h2⟩:=(h _ _ b).resolve_left s0;exact a op j h1 h2
theorem aoi{a b:PR}(h1:Cw P a)(h2:Sm ts i+18<=Sm ts (i+1)->Dp ts (i+1)=Dp ts i->Cw P b):Cw P (if fk ts i=0 then a else b):=by
 refine tZ (λ_=>h1) λh=> ?_;have : ∃s:List UInt8,s≠ []/\ai ts i s=true:=by
  unfold fk at h;repeat' split at h
  all_goals first
   | (refine⟨_,?_,‹ai ts i _=true›⟩;simp;done)
   | exact absurd rfl h
 obtain⟨s,h3,h4⟩:=this;exact h2 (zi h4 h3).1 (zi h4 h3).2
end
theorem ua{d k:Nat}{l:Int}{x:List UInt8}{o:Nat}{ks:List Nd}:uN d false (.mk k l x o ks)=ow k x.length+sd k d+(if k=1 then 4*d+2+uS (d+1) ks else if k=5 then uL d true 0 ks else uS d ks):=by
 by_cases h1:k=1
 ·subst h1;simp only[uN,NK,iT,aM,iF,and_self,FD,decide_false,Nat.reduceEqDiff,qQ];omega
 by_cases h5:k=5
 ·subst h5;simp only[uN,Nat.reduceEqDiff,false_and,iF,iT,decide_true,qQ]
 rw[dQ h1 h5,iN h1,iN h5]
theorem aoj{d:Nat}(n:Nd):uN d true n<=uN d false n+4:=by
 obtain⟨k,l,x,o,ks⟩:=n;by_cases h1:k=1
 ·subst h1;exact anT
 have:uN d true (.mk k l x o ks)=uN d false (.mk k l x o ks):=by simp only[uN,h1,iF,false_and]
 omega
theorem aok{d:Nat}{k:Int}{l:Int}{x:List UInt8}:uN d false (.mk (yT k) l x 0 [])<=7+4*x.length:=by
 unfold yT;repeat' split
 all_goals (rw[dQ de de];simp only[ow,sd,uS,Nat.reduceEqDiff,or_self,iF];omega)
theorem aol{ts:List PT}{f:Nat}(g:Th ts f):Th ts (f+1):=by
 intro a i e hi hb;have g : ∀(a:NT) (i e:Nat),a.cI->(a.cB->Dp ts i=e+a.cL)->Cw (Cp ts a i e) (gr ts f a i):=g;cases a;case block=>
  have hb:Dp ts i=e+0:=hb trivial;simp only[gr];refine tZ (λh=>aof λq m=>AJ (g (.a9 []) (i+1+1) e trivial λ_=> ?_) λl j ⟨h1,h2,_⟩=>⟨?_,?_,trivial⟩) λh=>vO (g .simple i (e+1) trivial λh=>h.elim) λn j ⟨h1,h2,_⟩=>aca λq m=>r9 ⟨?_,?_,trivial⟩;·obtain⟨r,s⟩:=Jf h;simp only[NT.cL];omega
  ·obtain⟨r,s⟩:=Jf h;simp only[NT.cH,NT.cD,NT.cL,uS] at h1 h2⊢;omega
  ·obtain⟨r,s⟩:=Jf h;simp only[NT.cL] at h2⊢;omega
  ·simp only[uS,ua,ow,sd,NT.cH,NT.cD,NT.cL,Nat.reduceEqDiff,or_self,iT,iF] at h1 h2⊢;omega
  simp only[NT.cL] at h2⊢;omega
 case a9 acc=>
  have hb:Dp ts i=e+1:=hb trivial;simp only[gr];refine vO (g .stmt i (e+1) trivial λ_=>hb) λn j ⟨h1,h2,_⟩=>tZ (λh=>r9 ⟨?_,?_,trivial⟩) λh=>AJ (g (.a9 (acc++ [n])) j e trivial λ_=> ?_) λl w ⟨h3,h4,_⟩=>⟨?_,?_,trivial⟩;·obtain⟨r,s⟩:=ab8 h;simp only[uS,AI,ua,ow,sd,NT.cH,NT.cD,NT.cL,Nat.reduceEqDiff,or_self,iT,iF] at h1 h2⊢;omega
  ·obtain⟨r,s⟩:=ab8 h;simp only[NT.cL] at h2⊢;omega
  ·simp only[NT.cL] at h2⊢;omega
  ·simp only[uS,AI,NT.cH,NT.cD,NT.cL] at h1 h2 h3 h4⊢;omega
  simp only[NT.cL] at h2 h4⊢;omega
 case maybe k l c=>
  have key:Cw (Cp ts (.maybe k l c) i e) (if iO ts i=true then bu (gr ts f (if c=true then .exprs else .expr) i) λe i1=>bI (nd k l [e]) i1 else bI (nd k l []) i):=by
   refine tZ (λ_=> ?_) λ_=>r9 ⟨?_,rfl,trivial⟩
   ·have z:Cw (λl j=>uS e l+Sm ts i<=Sm ts j+8/\Dp ts j=Dp ts i) (gr ts f (if c=true then .exprs else .expr) i):=by
     cases c;·exact AJ (g .expr i e trivial λh=>h.elim) λl j ⟨h1,h2,_⟩=>⟨by simp only[NT.cH,NT.cD] at h1;omega,h2⟩
     exact AJ (g .exprs i e trivial λh=>h.elim) λl j ⟨h1,h2,_⟩=>⟨by simp only[NT.cH,NT.cD] at h1;omega,h2⟩
    refine vO z λn j ⟨h1,h2⟩=>r9 ⟨?_,h2,trivial⟩;rcases hi with rfl | rfl | rfl<;>simp only[uS,ua,ow,sd,NT.cH,NT.cD,Nat.reduceEqDiff,or_self,or_true,true_or,iT,iF] at h1⊢<;>omega
   rcases hi with rfl | rfl | rfl<;>simp only[uS,ua,ow,sd,NT.cH,NT.cD,Nat.reduceEqDiff,or_self,or_true,true_or,iT,iF,aF]<;>omega
  simp only[gr];exact key
 case names k l acc=>
  simp only[gr];have hn : ∀(l:Int) (x:List UInt8),uN e false (.mk 36 l x 0 [])=5+x.length:=λl x=>by simp only[ua,ow,sd,uS,Nat.reduceEqDiff,or_self,iF];omega
  refine ab' λq m=>CR (xy _ _) (λA B=>AJ (g (.names k l _) _ e hi λh=>h.elim) λl j ⟨h1,h2,_⟩=>⟨?_,?_,trivial⟩) (r9 ⟨?_,?_,trivial⟩);·simp only[uS,AI,hn,NT.cH,NT.cD] at h1⊢;omega
  ·simp only[NT.cL] at h2⊢;omega
  ·rcases hi with rfl | rfl<;>simp only[uS,AI,ua,ow,sd,NT.cH,NT.cD,Nat.reduceEqDiff,or_self,or_true,true_or,iT,iF,aF]<;>omega
  simp only[NT.cL];omega
 case ifs l=>
  have hb:Dp ts i=e+0:=hb trivial;simp only[gr];refine vO (g .expr i e trivial λh=>h.elim) λc i1 ⟨F,G,_⟩=>Nu (xy _ _) λA B=>vO (g .block (i1+1) e trivial λ_=> ?_) λb i3 ⟨H,I,_⟩=>CR (xy _ _) (λC r2=>vO (g (.ifs _) (i3+1) e trivial λ_=> ?_) λx i4 ⟨J,K,D⟩=>r9 ⟨?_,?_,?_⟩) (CR (xy _ _) (λC r2=>Nu (xy _ _) λL s2=>vO (g .block _ e trivial λ_=> ?_) λy i5 ⟨M,N,_⟩=>r9 ⟨?_,?_,?_⟩) (r9 ⟨?_,?_,?_⟩));all_goals simp only[NT.cH,NT.cD,NT.cL,NT.cK,List.mem_singleton,forall_eq] at *
  ·omega
  ·omega
  ·have u:=Tg (d:=e) (l:=(ah ts i3).line) (x:= []) (o:=0) D;rw[uS,Te,u];simp only[uS] at *;omega
  ·omega
  ·rfl
  ·omega
  ·have u:=aoj (d:=e) y;rw[uS,Te];simp only[uS] at *;omega
  ·omega
  ·rfl
  ·rw[uS,ab3];simp only[uS] at *;omega
  ·omega
  rfl
 case jO n acc=>
  simp only[gr];refine aoh (r9 ⟨?_,rfl,trivial⟩) λop j q m=>vO (g .arith j e trivial λh=>h.elim) λt w ⟨h1,h2,_⟩=>AJ (g (.jO n _) w e trivial λh=>h.elim) λl E ⟨h3,h4,_⟩=>⟨?_,?_,trivial⟩
  ·simp only[NT.cH,NT.cD];split;·simp only[uS];omega
   simp only[uS,ua,ow,sd,Nat.reduceEqDiff,or_self,iF];omega
  ·have u:(acc++ [Nd.mk 43 (ah ts i).line [] (op+1) [t]]).isEmpty=false:=by simp
   simp only[NT.cH,NT.cD,u,uS,AI,ua,ow,sd,Nat.reduceEqDiff,or_self,aM,iF] at h1 h3⊢
   split<;>omega
  simp only[NT.cL] at h2 h4⊢;omega
 case jo l acc=>
  simp only[gr];cases acc.getLast? with
  | none=>
    refine CR (xy _ _) (λ_ _=>trivial) (r9 ⟨?_,rfl,trivial⟩);simp only[uS,ua,ow,sd,NT.cH,NT.cD,Nat.reduceEqDiff,or_self,or_true,true_or,iT,iF];omega
  | some p=>
    refine CR (xy _ _) (λq m=>tZ (λ_=>vO (g .value (i+1) e trivial λh=>h.elim) λv j ⟨h1,h2,_⟩=>AJ (g (.jo l _) j e trivial λh=>h.elim) λl w ⟨h3,h4,_⟩=>⟨?_,?_,trivial⟩) λ_=>trivial) (r9 ⟨?_,rfl,trivial⟩);·simp only[uS,AI,NT.cH,NT.cD] at h1 h3⊢;omega
    ·simp only[NT.cL] at h2 h4⊢;omega
    simp only[uS,ua,ow,sd,NT.cH,NT.cD,Nat.reduceEqDiff,or_self,or_true,true_or,iT,iF];omega
 case atom=>
  simp only[gr];refine tZ (λh=>r9 ?_) λ_=> ?_;·obtain⟨q,m⟩:=Nt (ts:=ts) (i:=i) Om;refine⟨?_,m,trivial⟩;have:=aok (d:=e) (k:=(ah ts i).kind) (l:=(ah ts i).line) (x:=(ah ts i).text);simp only[uS,NT.cH,NT.cD];omega
  repeat' first
   | exact acb
   | (with_reducible refine CR (xy _ _) (λ_ _=> ?_) ?_)
   | (with_reducible refine Nu (xy _ _) (λ_ _=> ?_))
   | (with_reducible refine vO (g _ _ e ?_ ?_) λt j ⟨_,_,_⟩=> ?_)
   | (with_reducible refine r9 ⟨?_,?_,?_⟩)
  all_goals try first | exact trivial | exactλh=>h.elim
  all_goals clear g hb hi
  all_goals try simp only[uS,ua,ow,sd,NT.cH,NT.cD,NT.cL,aF,Nat.reduceEqDiff,jS,Nat.reduceAdd,or_self,iT,iF] at *
  all_goals omega
 all_goals simp only[gr]
 all_goals repeat' first
  | exact acb
  | (with_reducible refine CR (xy _ _) (λ_ _=> ?_) ?_)
  | (with_reducible refine Nu (xy _ _) (λ_ _=> ?_))
  | (with_reducible refine ab' (λ_ _=> ?_))
  | (with_reducible refine aca (λ_ _=> ?_))
  | (with_reducible refine aoi ?_ (λ_ _=> ?_))
  | (with_reducible refine vO (g _ _ e ?_ ?_) λt j ⟨_,_,_⟩=> ?_)
  | (with_reducible refine ab9 (g _ _ e ?_ ?_) λl j ⟨_,_,_⟩=> ?_)
  | (with_reducible refine r9 ⟨?_,?_,?_⟩)
  | (with_reducible refine aog ⟨?_,?_,?_⟩)
  | (with_reducible refine AJ (g _ _ e ?_ ?_) λl j ⟨_,_,_⟩=>⟨?_,?_,?_⟩)
  | (with_reducible refine tZ (λ_=> ?_) (λ_=> ?_))
 all_goals first
  | exact trivial
  | exactλh=>h.elim
  | exactλ_ _=>trivial
  | skip
 all_goals clear g
 all_goals try clear g
 all_goals simp only[List.isEmpty_nil,jS,Nat.reduceAdd,uS,AI,ua,uL,ow,sd,NT.cH,NT.cD,NT.cL,NT.cB,NT.cI,NT.cK,aF,Nat.reduceEqDiff,or_self,or_true,true_or,iT,iF,true_imp_iff,false_imp_iff,forall_const] at *
 all_goals first
  | omega
  | skip
def wP (t:PT)(d:Nat):Nat:=if t.kind=1 then 8*d+16 else if 4<=t.kind then 14+4*t.text.length else 0
def dP (t:PT)(d:Nat):Nat:=if t.kind=2 then d+1 else if t.kind=3 then d-1 else d
def cs:Nat->List PT->Nat
 | _,[]=>0
 | d,t::r=>wP t d+cs (dP t d) r
def ds:Nat->List PT->Nat
 | d,[]=>d
 | d,t::r=>ds (dP t d) r
theorem FE : ∀ {a b:List PT} {d:Nat},cs d (a++b)=cs d a+cs (ds d a) b
 | [],b,d=>(iX _).symm
 | t::a,b,d=>by simp only[aS,cs,ds,FE,jS]
theorem Ti : ∀ {a b:List PT} {d:Nat},ds d (a++b)=ds (ds d a) b
 | [],b,d=>rfl
 | t::a,b,d=>by simp only[aS,ds,Ti]
theorem acd{ts:List PT} : ∀ {r:List PT} {i:Nat},ts.drop i=r->Sm ts ts.length=Sm ts i+cs (Dp ts i) r\/ts.length<i
 | [],i,h=>by
   have h1:ts.length<=i:=List.drop_eq_nil_iff.1 h;rcases pv ts.length i with g | g
   ·exact .inr g
   obtain rfl:i=ts.length:=by omega
   exact .inl rfl
 | t::r,i,h=>by
   left;have hi:i<ts.length:=by
    rcases pv i ts.length with g | g
    ·exact g
    rw[List.drop_eq_nil_of_le g] at h;cases h
   rw[List.drop_eq_getElem_cons hi] at h;have h1:ts[i]=t:=(List.cons.inj h).1;have h2:ts.drop (i+1)=r:=(List.cons.inj h).2;have hn:ah ts i=t:=by unfold ah;rw[List.getElem?_eq_getElem hi,h1]
   have a:=(acd h2).resolve_right Om;rw[a];simp only[cs,Sm,Dp,hn,wP,dP];omega
theorem aom{ts:List PT} : ∀ {i j:Nat},i<=j->Sm ts i<=Sm ts j:=λh=>by
 induction h with
 | refl=>exact ag _
 | step _ a=>simp only[Sm];omega
theorem aon{ts:List PT}{j:Nat}(h:j<=ts.length):Sm ts j<=cs 0 ts:=by
 have h1:=(acd (ts:=ts) (i:=0) rfl).resolve_right Om;have h2:=aom (ts:=ts) h;have h3:Sm ts 0=0:=rfl;have h4:Dp ts 0=0:=rfl;rw[h3,h4] at h1;simp only[sg,iX] at h1;omega
def tq (t:c8):PT:=⟨t.kind,0,t.text⟩
theorem Tj{q:Nat} : ∀ {f:Nat} {l s:List UInt8} {n:Nat},gM q f l=some (s,n)->s.length<=n
 | 0,_,_,_,h=>by cases h
 | f+1,l,s,n,h=>by
   simp only[gM] at h;split at h;·cases h;simp
   split at h;·cases h
   split at h;·rw[jT] at h;obtain⟨⟨y,m⟩,h1,h2⟩:=h;cases h2;have:=Tj h1;simp only[ay];omega
   split at h;·rw[jT] at h;obtain⟨⟨y,m⟩,h1,h2⟩:=h;cases h2;have:=Tj h1;simp only[ay];omega
   cases h
theorem aoo{l:List UInt8}{k n:Nat}{x:List UInt8}(h:fp l=some (k,x,n)):x.length<=n:=by
 unfold fp at h;split at h;·cases h;rw[nP];omega
 split at h
 ·split at h;·cases h
  cases h;rw[nP];omega
 split at h;·rw[jT] at h;obtain⟨⟨y,m⟩,h1,h2⟩:=h;cases h2;have:=Tj h1;simp only;omega
 rw[jT] at h;obtain⟨m,h1,h2⟩:=h;cases h2;rw[nP];omega
theorem Tk{line D:Nat} : ∀ {f:Nat} {t:List UInt8} {d d':Nat} {x:List c8},jb line f t d=some (x,d')->ds D (x.map tq)=D/\(x= []\/cs D (x.map tq)+18*cr t<=18*t.length)
 | 0,_,_,_,_,h=>by cases h
 | f+1,t,d,d',x,h=>by
   simp only[jb] at h;split at h;·cases h;exact⟨rfl, .inl rfl⟩
   rename_i hb;cases ht:fp (t.drop (cr t)) with
   | none=>rw[ht] at h;cases h
   | some z=>
     obtain⟨k,y,n⟩:=z;rw[ht] at h;simp only at h;rw[jT] at h;obtain⟨⟨xs,e⟩,h1,h2⟩:=h;cases h2;have hk:=abI ht;have hn:=aoo ht;obtain⟨c,a⟩:=Lj ht;rw[iE] at a;obtain⟨b,g2⟩:=Tk (D:=D) h1;have hd:dP (tq ⟨k,line,y⟩) D=D:=by
      unfold dP tq;simp only;rw[iN Om,iN Om]
     have hw:wP (tq ⟨k,line,y⟩) D=14+4*y.length:=by
      unfold wP tq;simp only;rw[iN Om,iP Om]
     rw[dk];simp only[cs,ds,hd,hw];refine⟨b, .inr ?_⟩;rcases g2 with rfl | g2
     ·simp only[List.map_nil,cs];omega
     rw[iE] at g2;omega
def vP:List Nat->Prop
 | []=>False
 | [n]=>n=0
 | n::m::r=>m<n/\vP (m::r)
theorem vP.len : ∀ {st:List Nat},vP st->1<=st.length/\st.length<=st.headD 0+1
 | [],h=>h.elim
 | [n],_=>⟨s0,s0⟩
 | n::m::r,⟨h1,h2⟩=>by
   have:=(vP.len h2).2;simp only[ay,List.headD_cons] at this⊢;omega
theorem ace{n:Nat} : ∀ {st:List Nat},vP st->vP (st.dropWhile λx=>decide (n<x))
 | [],h=>h.elim
 | [k],h=>by
   obtain rfl:k=0:=h;rw[Jv,iN s0];rfl
 | a::b::r,⟨h1,h2⟩=>by
   rw[Jv];split;·exact ace h2
   exact⟨h1,h2⟩
theorem acf{m:Nat}{line:Nat} : ∀ {D:Nat},cs D ((kR m (⟨3,line,[]⟩:c8)).map tq)=0/\ds D ((kR m (⟨3,line,[]⟩:c8)).map tq)=D-m:=by
 induction m with
 | zero=>exactλ{D}=>⟨rfl,rfl⟩
 | succ m a=>
   intro D;rw[Df,dk];constructor;·show 0+cs (D-1) _=0;rw[a.1]
   show ds (D-1) _=_;rw[a.2];omega
theorem aoq{line n:Nat}{st:List Nat}(h:vP st):vP (dZ line st n).2/\cs (st.length-1) ((dZ line st n).1.map tq)=0/\ds (st.length-1) ((dZ line st n).1.map tq)=(dZ line st n).2.length-1:=by
 have hl:=h.len;unfold dZ;split
 ·rename_i hn;refine⟨?_,rfl,?_⟩
  ·match st,h,hn with
   | a::r,h,hn=>exact⟨hn,h⟩
  show dP (tq ⟨2,line,[]⟩) _=_;have hd : ∀D,dP (tq ⟨2,line,[]⟩) D=D+1:=λD=>rfl;rw[hd,ay];omega
 obtain⟨o1,o2⟩:=acf (m:=(st.takeWhile λx=>decide (n<x)).length) (line:=line) (D:=st.length-1);refine⟨ace h,o1,?_⟩;rw[o2];have:=congrArg List.length (List.takeWhile_append_dropWhile (p:=λx=>decide (n<x)) (l:=st));rw[bW] at this;show _=(st.dropWhile λx=>decide (n<x)).length-1;omega
theorem aor{line d d':Nat}{t:List UInt8}{st aT:List Nat}{x:List c8}(h:gD line t d st= .ok (x,d',aT))(hs:vP st):vP aT/\ds (st.length-1) (x.map tq)=aT.length-1/\cs (st.length-1) (x.map tq)+(if d'=0 then 0 else 8*(aT.length-1))<=18*(t.length+1)+(if d=0 then 0 else 8*(st.length-1)):=by
 unfold gD at h;split at h;·cases h;refine⟨hs,rfl,?_⟩;simp only[List.map_nil,cs];omega
 rename_i hb;split at h;·cases h
 rename_i hi;cases ht:jb line (t.length+1) t d with
 | none=>rw[ht] at h;cases h
 | some z=>
   obtain⟨y,e⟩:=z;rw[ht] at h;simp only[Except.ok.injEq,Prod.mk.injEq] at h;obtain⟨h1,rfl,h3⟩:=h;have c:y≠ []:=(abJ ht).2 hb;obtain⟨i1,i2,i3⟩:=aoq (line:=line) (n:=cr t) hs;have b : ∀D,cs D ((if e=0 then [(⟨1,line,[]⟩:c8)] else []).map tq)=(if e=0 then 8*D+16 else 0)/\ds D ((if e=0 then [(⟨1,line,[]⟩:c8)] else []).map tq)=D:=λD=>by
    split;·exact⟨rfl,rfl⟩
    exact⟨rfl,rfl⟩
   by_cases hd:d=0
   ·simp only[hd,iT] at h1 h3;subst h3;obtain⟨t1,t2⟩:=Tk (D:=(dZ line st (cr t)).2.length-1) ht;have t2:=t2.resolve_left c;have hh:(dZ line st (cr t)).2.headD 0=cr t:=by
     by_cases g:(dZ line st (cr t)).2.headD 0=cr t
     ·exact g
     exact absurd ⟨hd,g⟩ hi
    have a:=i1.len.2;rw[hh] at a;rw[<-h1];simp only[ql,FE,Ti,i2,i3,t1,(b _).1,(b _).2,hd,iT];refine⟨i1,trivial,?_⟩;split<;>omega
   simp only[hd,iF] at h1 h3;subst h3;obtain⟨t1,t2⟩:=Tk (D:=st.length-1) ht;have t2:=t2.resolve_left c;rw[<-h1];simp only[a6,ql,FE,Ti,t1,(b _).1,(b _).2,hd,iF];refine⟨hs,trivial,?_⟩;split<;>omega
theorem acg : ∀ {ts:List (List UInt8)} {line d:Nat} {st aT:List Nat} {x:List c8},gE line ts d st= .ok (x,aT)->vP st->cs (st.length-1) (x.map tq)<=18*((ts.map List.length).sum+ts.length)+(if d=0 then 0 else 8*(st.length-1))
 | [],line,d,st,aT,x,h,hs=>by
   cases h;exact eZ _
 | t::ts,line,d,st,aT,x,h,hs=>by
   simp only[gE] at h;cases a:gD line t d st with
   | error e=>rw[a] at h;cases h
   | ok z=>
     obtain⟨y,d1,c⟩:=z;rw[a] at h;simp only at h;cases b:gE (line+1) ts d1 c with
     | error e=>rw[b] at h;cases h
     | ok z=>
       obtain⟨j,k⟩:=z;rw[b] at h;simp only[Except.ok.injEq,Prod.mk.injEq] at h;obtain⟨rfl,rfl⟩:=h;obtain⟨g,r2,l⟩:=aor a hs;have m:=acg b g;rw[ql,FE,r2];simp only[dk,List.sum_cons,ay];omega
theorem aos{src:List UInt8}{ts:List c8}(h:gT src= .ok ts):cs 0 (ts.map tq)<=18*(src.length+1):=by
 unfold gT at h;split at h;·cases h
 cases a:gE 1 (eT src) 0 [0] with
 | error e=>rw[a] at h;cases h
 | ok z=>
   obtain⟨x,st⟩:=z;rw[a] at h;simp only[Except.ok.injEq] at h;have h1:=acg a rfl;rw[<-h,ql,FE];have h2:=HC (src:=src);rw[h2] at h1;simp only[iT,qQ,List.length_singleton,Jo] at h1;have h3 : ∀D,cs D ((tp (eT src).length st).map tq)=0:=λD=>by
    unfold tp;rw[ql,FE,acf.1];rfl
   rw[h3];omega
theorem ach{ts:List PT} : ∀f,Th ts f
 | 0=>λa i e _ _=>trivial
 | f+1=>aol (ach f)
theorem aci : ∀(f:Nat) (n:Nd),u7 n<=f->nN f n=false
 | 0, .mk _ _ _ _ ks,h=>by simp only[u7] at h;omega
 | f+1, .mk k l x o ks,h=>by
   simp only[u7] at h;show ks.any (nN f)=false;rw[List.any_eq_false];intro m a;have h1:=RC a;rw[aci f m Om];decide
theorem acj(p:Nd->Bool)(h : ∀n,p (nl n)=p n) : ∀ks:List Nd,(aK ks).any p=ks.any p
 | []=>rfl
 | n::ks=>by simp only[aK,List.any_cons,h n,acj p h ks]
theorem Tl : ∀(f:Nat) (n:Nd),nN f (nl n)=nN f n
 | 0,n=>rfl
 | f+1, .mk k l x o ks=>acj (nN f) (Tl f) ks
mutual
theorem aot : ∀n:Nd,u7 (nl n)=u7 n
 | .mk k l x o ks=>by simp only[nl,u7,Nv ks]
theorem Nv : ∀ks:List Nd,gK (aK ks)=gK ks
 | []=>rfl
 | n::ks=>by simp only[aK,gK,aot n,Nv ks]
end
theorem ack : ∀ {ts:List c8} {d:Nat},cs d (ts.map lg)=cs d (ts.map tq)
 | [],d=>rfl
 | t::ts,d=>by
   rw[dk,dk];show wP (tq t) d+cs (dP (tq t) d) (ts.map lg)=wP (tq t) d+cs (dP (tq t) d) (ts.map tq);rw[ack]
abbrev AL:Nat:=16000000
theorem Nw{ln:Int}{l:List Nd}(h:tO=nd 1 ln l):False:=by
 have:=congrArg Nd.kind h;exact absurd (show(0:Nat)=1 from this) de
theorem aou{src:List UInt8}{ts:List c8}(h:gT src= .ok ts):ts.length<=3*(src.length+1)+2:=by
 unfold gT at h;split at h;·cases h
 cases a:gE 1 (eT src) 0 [0] with
 | error e=>rw[a] at h;cases h
 | ok y=>
   obtain⟨x,st⟩:=y;rw[a] at h;cases h;have h1:=Qp a rfl;have h2:=HC (src:=src);simp only[tp,bW,Ju,ay,aF] at h1⊢;omega
theorem acl{src:List UInt8}(h:(dV src).2.2=0)(hl:src.length<=1000) : ∃ln l,(dV src).1=nd 1 ln l/\ef l/\(∀n∈l,sK n)/\gK l+1<=60/\16*aq l<AL/\(bf (pp AL (.a9 l) 0)).length<=20000:=by
 obtain⟨ln,l,a,d,g,p⟩:=amg h;refine⟨ln,l,a,d,g,p,?_⟩;cases c:gT src with
 | error y=>
   have:dV src=(tO,(y.1:Int),(y.2:Int)):=by unfold dV;rw[c]
   rw[this] at a;exact(Nw a).elim
 | ok ts=>
   have q:dV src=nh (ts.map lg):=by unfold dV;rw[c]
   rw[q] at a;have k:=aou c;have m:=aos c;rw[<-ack] at m;have s:(ts.map lg).length=ts.length:=List.length_map ..;generalize ts.map lg=b at a m s;have h1:=ach (ts:=b) (b.length*64+100) (.top []) 0 0 trivial λ_=>rfl;have h2:=Mp (ts:=b) (b.length*64+100) (.top []) 0 (by first | trivial | simp[NT.iz]) (eZ _) (by simp only[NT.kE];omega);have h3:=wV (ts:=b) (b.length*64+100) (.top []) 0 (by first | trivial | simp[NT.iz]) (eZ _) (by simp only[NT.kE];omega);unfold nh at a;generalize gr b (b.length*64+100) (.top []) 0=r at a h1 h2 h3;match r,a,h1,h2,h3 with
   | none,a,_,_,_=>exact(Nw a).elim
   | some (.error e),a,_,_,_=>exact(Nw a).elim
   | some (.ok (l',j)),a,h1,h2,h3=>
     simp only at a;split at a;·exact(Nw a).elim
     have t:l'=l:=congrArg Nd.kids a;subst t;have h4:aq l'+64*0+0<=0+64*j+0:=h2;have h5:j<=b.length:=h3.2.1;have o:16*aq l'<AL:=by show _<16000000;omega
     refine⟨o,?_⟩;have u:uS 0 l'+0<=Sm b j+0+0:=h1.1;have v:=aon h5;have w:tl (pp AL (.a9 l') 0)<=uS 0 l':=ab6 AL (.a9 l') 0 o λn hn=>⟨rZ d n hn,g n hn⟩;rw[CQ];omega
theorem aov{l:List Nd}{F:Nat}(hw:ef l)(hs : ∀n∈l,sK n)(hh:gK l+1<=60)(k:16*aq l<F)(ht:(bf (pp F (.a9 l) 0)).length<=20000) : ∃ln l',dV (bf (pp F (.a9 l) 0))=(nd 1 ln l',0,0)/\aK l'=aK l:=by
 have m : ∀n∈l,lT n:=λn hn=>⟨rZ hw n hn,hs n hn⟩;by_cases av:l= []
 ·subst av;have e:pp F (.a9 []) 0= []:=by cases F<;>rfl
  rw[e];refine⟨1,[],?_,rfl⟩
  kernel_rfl
 have hb:ku 0 (pp F (.a9 l) 0):=ab1 F (.a9 l) 0 k av m;obtain⟨c,s,t⟩:=anq hb ht;have u:(c.map lg).map PT.z=gR (pp F (.a9 l) 0)++ [⟨0,0,[]⟩]:=by
  rw[<-t,List.map_map];rfl
 have o:=Fy (ps:=pp F (.a9 l) 0) (pre:= []) (post:= [⟨0,0,[]⟩]);rw[a6,aF,iX] at o;have hk:(ah (gR (pp F (.a9 l) 0)++ [⟨0,0,[]⟩]) (gR (pp F (.a9 l) 0)).length).kind=0:=by
  unfold ah;rw[th (ag _),Jo];rfl
 obtain⟨f0,d⟩:=amY k m o hk;rw[<-u] at d;have v:dV (bf (pp F (.a9 l) 0))=nh (c.map lg):=by unfold dV;rw[s]
 rw[v];generalize c.map lg=a at d;have h3:=wV (ts:=a) (a.length*64+100) (.top []) 0 (by first | trivial | simp[NT.iz]) (eZ _) (by simp only[NT.kE];omega);have hz:=abH a (max (a.length*64+100) f0) (.top []) 0;have w:gr (a.map PT.z) (max (a.length*64+100) f0) (.top []) 0=some (.ok (aK l,(gR (pp F (.a9 l) 0)).length)):=d (max (a.length*64+100) f0) (Nat.le_max_right _ _);have b:gr (a.map PT.z) (max (a.length*64+100) f0) (.top []) 0=prz (gr a (max (a.length*64+100) f0) (.top []) 0):=hz;rw[w] at b;cases g:gr a (a.length*64+100) (.top []) 0 with
 | none=>rw[g] at h3;exact h3.elim
 | some r=>
   rw[ZN (Nat.le_max_left _ _) g] at b;unfold nh;rw[g];match r,b with
   | .error e,b=>cases b
   | .ok (l',j),b=>
     have q:aK l=aK l':=congrArg (λx:PR=>match x with | some (.ok (l,_))=>l | _=> []) b;have y:gK l'=gK l:=by rw[<-Nv l',<-q,Nv]
     simp only;rw[iN Om];exact⟨_,l',rfl,q.symm⟩
theorem aow{src:List UInt8}(h:(dV src).2.2=0)(hl:src.length<=1000):(gQ AL (dV src).1).2=0:=by
 obtain⟨ln,l,j,b,c,d,e,g⟩:=acl h hl;obtain⟨k,s2⟩:=amh (ln:=ln) b c e (ag _) g;obtain⟨a,l',t1,t2⟩:=aov b c d e g;rw[j];unfold gQ;have hh:nN 60 (nd 1 ln l)=false:=aci 60 _ (by show gK l+1<=60;exact d);have hs:lO false (nd 1 a l') (nd 1 ln l)=true:=by
  rw[Cn];simp only[nl,t2]
 rw[hh,s2,k,t1,iN de,iN de,iP ⟨rfl,hs⟩]
theorem aox{F:Nat}{ln:Int}{l:List Nd}(hw:ef l)(hs : ∀n∈l,sK n)(a:16*aq l<F)(b:F<=16000000)(ht:(bf (pp F (.a9 l) 0)).length<=20000):(jQ F (nd 1 ln l)).w<=20000:=by
 obtain⟨_,h2,_,_⟩:=aba F b (.a9 l) tS 0 Om ⟨hw,hs⟩ a rfl rfl (by show 0+_<=20000;omega);have:(jQ F (nd 1 ln l)).w=0+(bf (pp F (.a9 l) 0)).length:=h2;omega
theorem aoy{src:List UInt8}(h:(dV src).2.2=0)(hl:src.length<=1000):(jQ AL (dV src).1).w<=20000:=by
 obtain⟨ln,l,a,b,c,g,d,e⟩:=acl h hl;rw[a];exact aox b c d (ag _) e
theorem aoz{F:Nat}{n m:Nd}(h:nl n=nl m)(c:jQ F n=jQ F m):gQ F n=gQ F m:=by
 unfold gQ;have h1:nN 60 n=nN 60 m:=by rw[<-Tl,h,Tl]
 have h2 : ∀a,lO false a n=lO false a m:=λa=>by
  cases b:lO false a m with
  | true=>rw[Cn] at b⊢;rw[b,h]
  | false=>
    cases hp:lO false a n with
    | false=>rfl
    | true=>
      rw[Cn] at hp;exact absurd ((Cn a m).2 (hp.trans h)) (by rw[b];decide)
 rw[h1,c,h2]
end
section
open Go Go.RowKit
set_option maxRecDepth 4000
theorem aoA{s:List UInt8}(h:(dV s).2.2=0):s.length<=20000:=by
 rcases pv 20000 s.length with g | g
 ·exfalso;have e:dV s=(tO,0,24):=by unfold dV gT;rw[iP g];rfl
  rw[e] at h;exact absurd h de
 exact g
theorem aoB(F:Nat)(n:Nd):(gQ F n).2=0\/(gQ F n).2=3:=by
 unfold gQ;repeat' split
 all_goals simp
theorem aoC{F:Nat}{n:Nd}(h:(gQ F n).2=0):(dV (gQ F n).1).2.2=0/\lO false (dV (gQ F n).1).1 n=true/\gQ F (dV (gQ F n).1).1=gQ F n/\jQ F (dV (gQ F n).1).1=jQ F n:=by
 have c:gQ F n=((gQ F n).1,0):=by rw[<-h]
 obtain⟨d,a⟩:=als c;have b:=alr F _ _ a;refine⟨?_,(Cn _ _).2 a,aoz a b,b⟩;have h2:=h;unfold gQ at h2;split at h2;·cases h2
 split at h2;·cases h2
 split at h2;·rename_i hh;rw[d];exact hh.1
 cases h2
theorem acm{H:CH}{q:Option Addr}{c:Nat}{a:List UInt8}(h:gB 1 (nb .u8) H q c (mf a)){F:Nat}(o:(jQ F (dV a).1).w<=nk)(hk:(dV a).2.2=0->(gQ F (dV a).1).2≠0->1000<a.length):bw TL 3 [.slice q a.length c] H λv _=>v= .bool true:=by
 refine wY Rl Kr (br ?_);refine db ?_;refine alq.mono ?_;rintro v K1 ⟨gv,rfl⟩;refine db ?_;refine(Mx (gB.iz (nb.iz _) gv h)).mono ?_;rintro v d ⟨vs,rfl,l9,yG,rfl,uB⟩;obtain⟨i1,i2,i3,i4,r,s,t,rfl⟩:=Cf uB;have Er:=gv.nx;have EX:=l9.nx;have eL:= @aoC F (dV a).1;have L:=aoB F (dV a).1;by_cases he:(dV a).2.2=0
 ·have hk:=hk he;rw[he];refine db ?_;have u:aJ d ((d.new (.cells [.int .i64 0, .int .i64 0, .string ⟨⟨[]⟩⟩, .int .i64 0, .slice none 0 0] 26 .ex)).set d.nx (.cells [.int .i64 i1, .int .i64 i2, .string i3, .int .i64 i4, .slice r s t] 26 .ex)):=((aJ.refl d).new _).set (ag _) _;have M:((d.new (.cells [.int .i64 0, .int .i64 0, .string ⟨⟨[]⟩⟩, .int .i64 0, .slice none 0 0] 26 .ex)).set d.nx (.cells [.int .i64 i1, .int .i64 i2, .string i3, .int .i64 i4, .slice r s t] 26 .ex)).nx=d.nx+1:=rfl;have oa:((d.new (.cells [.int .i64 0, .int .i64 0, .string ⟨⟨[]⟩⟩, .int .i64 0, .slice none 0 0] 26 .ex)).set d.nx (.cells [.int .i64 i1, .int .i64 i2, .string i3, .int .i64 i4, .slice r s t] 26 .ex)).ob d.nx= .cells [.int .i64 i1, .int .i64 i2, .string i3, .int .i64 i4, .slice r s t] 26 .ex:=hY.trans (iP rfl);generalize (d.new (.cells [.int .i64 0, .int .i64 0, .string ⟨⟨[]⟩⟩, .int .i64 0, .slice none 0 0] 26 .ex)).set d.nx (.cells [.int .i64 i1, .int .i64 i2, .string i3, .int .i64 i4, .slice r s t] 26 .ex)=N at u M oa⊢
  have GZ:=uB.mv (K':=N) (A':=λb=>b<d.nx) λb hb=>⟨hb.2,u.ob b hb.2⟩;refine(R5 (λq l=>show q<N.nx by have:q<d.nx:=l;omega) GZ (f:=F) (λ_=>o)).mono ?_;rintro v m ⟨Q,rfl⟩;have hn4:=Q.nx;have R:=(Q.ob d.nx Om).trans oa;by_cases n:(gQ F (dV a).1).2=0
  ·obtain⟨J,S,T,p4⟩:=eL n;have kT:=aoA J;rw[n];rw[<-p4] at o;generalize gQ F (dV a).1=ra at J S T n kT o⊢;obtain⟨j,ga⟩:=ra;simp only at J S T n kT o⊢;have pi:(⟨⟨j⟩⟩:ByteArray).size=j.length:=rfl;refine rn @pi ?_;have K:aJ m (m.new (.cells (p7 j) 5 .gr)):=(aJ.refl m).new _;have IH:gB 1 (nb .u8) (m.new (.cells (p7 j) 5 .gr)) (some ⟨m.nx,0,none⟩) j.length (mf j):=RI (by rw[gC];omega) (fW.trans (iP rfl)) (by rw[oc];omega);show bw TL 7 _ (m.new (.cells (p7 j) 5 .gr)) _;generalize m.new (.cells (p7 j) 5 .gr)=K5 at K IH;refine(Mx IH).mono ?_;rintro v g ⟨vs,rfl,U,os6,rfl,E9⟩;have hn5:=K.nx;have hn6:=U.nx;obtain⟨x,y,z,A,B,C,D,rfl⟩:=Cf E9;have V:=(U.ob d.nx Om).trans ((K.ob d.nx Om).trans R);have av : ¬d.nx=g.nx:=by omega
   rw[J];refine rn (an @V @av) ?_;have W:aJ g ((g.new (.cells [.int .i64 0, .int .i64 0, .string ⟨⟨[]⟩⟩, .int .i64 0, .slice none 0 0] 26 .ex)).set g.nx (.cells [.int .i64 x, .int .i64 y, .string z, .int .i64 A, .slice B C D] 26 .ex)):=((aJ.refl g).new _).set (ag _) _;have R8:((g.new (.cells [.int .i64 0, .int .i64 0, .string ⟨⟨[]⟩⟩, .int .i64 0, .slice none 0 0] 26 .ex)).set g.nx (.cells [.int .i64 x, .int .i64 y, .string z, .int .i64 A, .slice B C D] 26 .ex)).nx=g.nx+1:=rfl;have E:((g.new (.cells [.int .i64 0, .int .i64 0, .string ⟨⟨[]⟩⟩, .int .i64 0, .slice none 0 0] 26 .ex)).set g.nx (.cells [.int .i64 x, .int .i64 y, .string z, .int .i64 A, .slice B C D] 26 .ex)).ob g.nx= .cells [.int .i64 x, .int .i64 y, .string z, .int .i64 A, .slice B C D] 26 .ex:=hY.trans (iP rfl);generalize (g.new (.cells [.int .i64 0, .int .i64 0, .string ⟨⟨[]⟩⟩, .int .i64 0, .slice none 0 0] 26 .ex)).set g.nx (.cells [.int .i64 x, .int .i64 y, .string z, .int .i64 A, .slice B C D] 26 .ex)=G at W R8 E⊢;have X:aJ N G:=((Q.trans K).trans U).trans W;have Y:=GZ.mv (K':=G) (A':=λb=>b<d.nx) λb hb=>⟨hb,X.ob b Om⟩;have I:=E9.mv (K':=G) (A':=λb=>b<g.nx) λb hb=>⟨hb.2,W.ob b hb.2⟩;have yp:=ajp false (λq l=>show q<G.nx by have:q<g.nx:=l;omega) (λq l=>show q<G.nx by have:q<d.nx:=l;omega) I Y;rw[S] at yp;refine yp.mono ?_;rintro v K8 ⟨Z,rfl⟩;have hn8:=Z.nx;have ob8:=(Z.ob g.nx Om).trans E;refine rn @ob8 ?_;have aoE:=I.mv (K':=K8) (A':=λb=>b<g.nx) λb hb=>⟨hb,Z.ob b Om⟩;refine(R5 (λq l=>show q<K8.nx by have:q<g.nx:=l;omega) aoE (f:=F) (λ_=>o)).mono ?_;rintro v K9 ⟨rT,rfl⟩;rw[T];exact rz (an @n @Ef)
  have hk:=hk n;have h3:=L.resolve_left n;rw[h3];have h5:(1000:Int)<(a.length:Int):=by omega
  exact rz @h5
 generalize (dV a).2.2=ea at he⊢;exact rz @he
theorem acE{H:CH}{q:Option Addr}{c:Nat}{xs:List Int}(h:gB 1 (nb .u8) H q c xs):bw TL 3 [.slice q xs.length c] H λv _=>v= .bool true:=by
 obtain⟨a,rfl⟩:=agc h;rw[HD];by_cases hs:a.length<=1000/\(dV a).2.2=0
 ·obtain⟨F,b,d⟩ : ∃F:Nat,(jQ F (dV a).1).w<=20000/\(gQ F (dV a).1).2=0:=⟨AL,aoy hs.2 hs.1,aow hs.2 hs.1⟩;exact acm h (Nat.le_trans b de) λ_ g=>absurd d g
 obtain⟨F,e⟩ : ∃F:Nat,110000000<=F:=⟨_,ag _⟩;exact acm h (alh e a) λhe _=>by
  rcases pv 1000 a.length with g | g
  ·exact g
  exact absurd ⟨g,he⟩ hs
end
end Can
end Go.Proofs.YtdfgkcoenagaaaaGreat
