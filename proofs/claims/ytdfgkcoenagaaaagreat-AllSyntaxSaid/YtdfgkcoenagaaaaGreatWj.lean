/- The round trip: a token's piece is that token again, if what stands behind it ends it. No program in sight. The round trip: lines of pieces, blocks of lines; what Lex answers for them. No program in sight. The round trip: the lines of a rule's pieces are cut into tokens again: expressions. No program in sight. The round trip: the pieces of lists, calls, displays, operators are cut into tokens again. No program in sight. The round trip: the pieces of displays and operators are cut into tokens again. No program in sight. The round trip: the pieces of statements are lines and blocks. No program in sight. The round trip: how long the text of a tree is. No program in sight. The round trip: the text of a tree is no longer than its bound. No program in sight. The round trip: the text of a tree is no longer than its bound: operators and statements. No program in sight. The round trip: a tree's bound is paid by its tokens. No program in sight. The round trip: each rule pays for the nodes that it answers. No program in sight. The round trip: the tokens of a short source pay for no more than a text has room. No program in sight. The round trip: what Show prints of a short source's tree is read as that tree. No program in sight. Show: ShowBack walked. AllSyntax: Height over the table in which Parse and Lex are told. AllSyntax walked. -/
import Derived.Test.YtdfgkcoenagaaaaGreatWa
import Derived.Test.YtdfgkcoenagaaaaGreatWh
import Derived.Test.YtdfgkcoenagaaaaGreatWi
import Derived.Test.YtdfgkcoenagaaaaGreatWe
open Bool renaming false_and → NW, false_eq_true → aM, true_and → zq
open List renaming append_assoc → aG, append_nil → cn, cons_append → aS, cons_ne_nil → xB, dropWhile_cons → JA, drop_left' → AY, drop_succ_cons → FP, drop_zero → sn, getElem?_append_right → tu, getElem?_eq_getElem → dx, getLast?_singleton → gT, length_append → bW, length_cons → ay, length_drop → iH, length_map → kZ, length_nil → aF, length_replicate → Jz, length_take → nU, map_append → qt, map_cons → dq, mem_append → fp, mem_cons → jw, mem_of_getElem? → sq, nil_append → a6, not_mem_nil → zt, replicate → kY, replicate_succ → Dk, take_append_drop → xy, take_left' → Dl, take_of_length_le → qq
open Nat renaming add_assoc → jW, add_zero → qX, le_refl → ag, lt_or_ge → pE, lt_succ_self → nX, not_lt_zero → su, sub_self → Ju, zero_add → iZ, zero_le → fa
open Option renaming map_eq_some_iff → jX, map_some → fo
open UInt8 renaming ofNat → al
set_option maxHeartbeats 4000000
set_option linter.unusedSimpArgs false
set_option linter.unusedVariables false
namespace Go.Proofs.YtdfgkcoenagaaaaGreat
namespace Can
section
def FD:List (List UInt8):= [[40],[41],[91],[93],[123],[125],[44],[58],[46]]
def vQ (k:Nat)(x:List UInt8)(c:Nat):Prop:=(k=4\/k=8->en c=false)/\(k=5\/k=6->en c=false/\c≠46)/\(k=9->x∈FD\/(c≠61/\c≠42/\c≠47))
def px(k:Nat)(x:List UInt8):Prop:=(∀r,vQ k x (hd r)->fq ((Pc.tk k x).tx++r)=some (k,x,(Pc.tk k x).tx.length))/\(∃c u,(Pc.tk k x).tx=c::u/\c.toNat≠32/\c.toNat≠35)/\∀c∈(Pc.tk k x).tx,c.toNat≠10
theorem anv{D F E R:List UInt8}(v:AJ D)(o:Nu F)(q:Nv E)(d:en (hd R)=false)(r2:hd R≠46):cp (D++F++E++R)=D.length/\iJ ((D++F++E++R).drop D.length)=F.length/\eR ((D++F++E++R).drop (D.length+F.length))=E.length:=by
 have rd:bA (hd R)=false:=by unfold en at d;simp at d;exact d.2
 have r:fK (hd R)=false:=by unfold en at d;simp at d;exact d.1
 have w:hd R≠101:=λe=>by rw[e] at r;revert r;decide
 have t:hd (E++R)=hd R\/hd (E++R)=101:=by
  rcases q with rfl | ⟨c,G,k | ⟨s,_,k⟩,b,_⟩
  ·exact .inl rfl
  ·rw[k];exact .inr b
  rw[k];exact .inr b
 have u:bA (hd (E++R))=false:=by
  rcases t with g | g<;>rw[g]
  ·exact rd
  decide
 have f0:bA (hd (F++(E++R)))=false:=by
  rcases o with rfl | ⟨c,G,rfl,b,_⟩
  ·exact u
  show bA c.toNat=false;rw[b];decide
 have d1:(D++F++E++R).drop D.length=F++(E++R):=by
  rw[aG,aG,AY rfl]
 have d2:(D++F++E++R).drop (D.length+F.length)=E++R:=by
  rw[aG,AY s0]
 refine⟨?_,?_,?_⟩;·rw[aG,aG];exact xi f0 v
 ·rw[d1];rcases o with rfl | ⟨c,G,rfl,b,l,j⟩
  ·unfold iJ;rw[iN (λg=>by
    have:=g.1;rcases t with h | h<;>rw[a6,h] at this
    ·exact r2 this
    cases this)];rfl
  have m:hd (G++(E++R))=hd G:=zh l;have n:bA (hd G)=true:=by cases G with
   | nil=>exact absurd rfl l
   | cons a G=>exact j a s0
  unfold iJ;rw[iP ⟨b,by show bA (hd (G++_))=true;rw[m];exact n⟩];show 1+nW bA (G++_)=_;rw[xi u j];simp;omega
 rw[d2];rcases q with rfl | ⟨c,G,k,b,l,j⟩
 ·unfold eR;rw[iN (by rw[a6];exact w)];rfl
 have m:hd (G++R)=hd G:=zh l;have n:bA (hd G)=true:=by cases G with
  | nil=>exact absurd rfl l
  | cons a G=>exact j a s0
 rcases k with rfl | ⟨s,hs,rfl⟩
 ·unfold eR;rw[iP (show hd (c::G++R)=101 from b),iP (by show bA (hd (G++_))=true;rw[m];exact n)];show 1+nW bA (G++_)=_;rw[xi rd j];simp;omega
 unfold eR;rw[iP (show hd (c::s::G++R)=101 from b),iN (by show ¬bA s.toNat=true;rcases hs with g | g<;>rw[g]<;>decide),iP ⟨hs,by show bA (hd (G++_))=true;rw[m];exact n⟩];show 2+nW bA (G++_)=_;rw[xi rd j];simp;omega
theorem Th{k:Nat}{x:List UInt8}(h:k≠7):(Pc.tk k x).tx=x:=iN h
theorem anw{l:List UInt8}(d:bA (hd l)=true)(hb:bZ l=false):px (dy l) (l.take (a8 l)):=by
 have hg:=ant d hb;obtain⟨D,e⟩ : ∃D,l.take (cp l)=D:=⟨_,rfl⟩;obtain⟨b,g⟩ : ∃b,l.drop (cp l)=b:=⟨_,rfl⟩;obtain⟨F,w⟩ : ∃F,b.take (iJ b)=F:=⟨_,rfl⟩;obtain⟨a,x⟩ : ∃a,b.drop (iJ b)=a:=⟨_,rfl⟩;obtain⟨E,z⟩ : ∃E,a.take (eR a)=E:=⟨_,rfl⟩;have A:D.length=cp l:=by rw[<-e];have:=uR (l:=l);simp;omega
 obtain⟨B,j⟩:=ab' b;obtain⟨C,m⟩:=aca a;have Q:AJ D:=by rw[<-e];exact I5.1
 have G:D≠ []:=by rw[<-e];exact(AL d).1
 rw[w] at B j;rw[z] at C m;have hA:hC l=D.length+F.length:=by unfold hC;rw[g,A,j]
 have H:l.drop (hC l)=a:=by rw[<-x,<-g,List.drop_drop,hA,A,j,<-g]
 have I:a8 l=D.length+F.length+E.length:=by unfold a8;rw[H,hA,m]
 have hx:l.take (a8 l)=D++F++E:=by
  have S:l=D++b:=by rw[<-e,<-g,xy]
  have T:b=F++a:=by rw[<-w,<-x,xy]
  have U:a=E++a.drop (eR a):=by rw[<-z,xy]
  rw[I];have V:l=D++F++E++a.drop (eR a):=by rw[aG,<-U,aG,<-T,<-S]
  rw[V,Dl (by simp only[bW])]
 have n:dy l=if F.length=0/\E.length=0 then 5 else 6:=by unfold dy;rw[g,H,j,m]
 have J:dy l≠7:=by rw[n];split<;>decide
 have W:dy l=5\/dy l=6:=by rw[n];split<;>simp
 rw[hx] at hg⊢
 have Y : ∀y,hd (D++F++E++y)=hd l:=λy=>by
  rw[aG,aG,zh G,<-e,I4 (AL d).2]
 have Tg:fK (hd l)=false:=by
  unfold bA at d;unfold fK;simp at d⊢;omega
 have K:AI (dy l) (D++F++E)=D++F++E++ [al 32]:=by unfold AI;rw[iN J]
 unfold px;rw[Th J];refine⟨λR hR=> ?_,?_,?_⟩
 ·obtain⟨k,r2⟩:=hR.2.1 W;obtain⟨o,q,r⟩:=anv (R:=R) Q B C k r2;obtain⟨L,s⟩ : ∃L,D++F++E++R=L:=⟨_,rfl⟩;have t:=Y R;rw[s] at o q r t⊢
  have M:hC L=D.length+F.length:=by unfold hC;rw[o,q]
  have v:a8 L=D.length+F.length+E.length:=by unfold a8;rw[M,r]
  have wF:L.drop (cp L)=L.drop D.length:=by rw[o]
  have wE:L.drop (hC L)=L.drop (D.length+F.length):=by rw[M]
  have N:dy L=dy l:=by rw[n];unfold dy;rw[wF,wE,q,r]
  have wd:L.drop (a8 L)=R:=by
   rw[v,<-s,AY Sq]
  have wb:bZ L=false:=by
   unfold bZ at hb⊢;rw[wd,v,N,t];rw[I] at hb;simp only[Bool.or_eq_false_iff] at hb⊢;refine⟨⟨⟨?_,decide_eq_false r2⟩,hb.1.2⟩,hb.2⟩;unfold en at k;simp at k;exact k.1
  unfold fq;rw[t,iN (by rw[Tg];decide),iP d,iN (by rw[wb];decide),N,v];have:L.take (D.length+F.length+E.length)=D++F++E:=by rw[<-s,Dl Sq]
  rw[this];simp only[bW]
 ·obtain⟨c,u,h1,h2⟩:=hg.2.1;rw[K] at h1;cases O:D++F++E with
  | nil=>simp[G] at O
  | cons c' u'=>
    rw[O] at h1;cases h1;exact⟨c,u',rfl,h2⟩
 intro c hc;exact hg.2.2 c (by rw[K];simp only[fp];exact .inl (by simpa only[fp] using hc))
theorem ace{x:List UInt8}(h:fK (hd x)=true)(g : ∀c∈x,en c.toNat=true):px (if x∈jY then 8 else 4) x:=by
 have av:x≠ []:=by rintro rfl;cases h
 have a:(if x∈jY then 8 else 4)≠7:=by split<;>decide
 unfold px;rw[Th a];refine⟨λR b=> ?_,?_,λc hc=>(acb (g c hc)).1⟩;·have d:en (hd R)=false:=b.1 (by split<;>simp);have hn:nW en (x++R)=x.length:=xi d g;unfold fq;rw[zh av,iP h,hn,Dl rfl]
 cases x with
 | nil=>exact absurd rfl av
 | cons c u=>exact⟨c,u,rfl,(acb (g c s0)).2⟩
theorem AM{x:List UInt8}(h:x∈jY):px 8 x:=by
 have:=ace ((by decide : ∀x∈jY,fK (hd x)=true) x h) ((by decide : ∀x∈jY,∀c∈x,en c.toNat=true) x h);rwa [iP h] at this
theorem anx{l:List UInt8}(h:fK (hd l)=true):px (if l.take (nW en l)∈jY then 8 else 4) (l.take (nW en l)):=by
 obtain⟨a,_⟩:=Tf (p:=en) de (l:=l);have b:0<nW en l:=by
  cases l with
  | nil=>cases h
  | cons c r=>rw[nW,iP (show en c.toNat=true by unfold en;rw[show fK c.toNat=true from h];rfl)];omega
 exact ace (by rw[I4 b];exact h) a
theorem CN{x:List UInt8}(h:x∈S3++S2++S1.map (λc=> [c])):px 9 x:=by
 obtain⟨h1,h2,h3,⟨c,u,hx⟩,h5,m,r⟩:=anu x h;have av:x≠ []:=by rw[hx];simp
 unfold px;rw[Th de];refine⟨λR s=> ?_,⟨c,u,hx,by rw[hx] at h5;exact h5,by rw[hx] at m;exact m⟩,r⟩;have hs:lH (x++R)=some x.length:=by
  have d:=s.2.2 rfl;rcases List.mem_append.1 h with h | h
  ·rcases List.mem_append.1 h with h | h
   ·have hl:x.length=3:=(by decide : ∀x∈S3,x.length=3) _ h;unfold lH;rw[Dl hl,iP h,hl]
   have hl:x.length=2:=(by decide : ∀x∈S2,x.length=2) _ h;have t:x∉FD:=(by decide : ∀x∈S2,x∉FD) _ h;obtain⟨j,k,l⟩:=d.resolve_left t;unfold lH;have h3:(x++R).take 3∉S3:=by
    cases R with
    | nil=>
      rw[cn,qq Om];exact(by decide : ∀x∈S2,x∉S3) _ h
    | cons a R=>
      have e:(x++a::R).take 3=x++ [a]:=by rw[List.take_append,hl,qq Om];rfl
      rw[e];intro b;have:=(by decide : ∀y∈S3,y[2]? = some (al 61)) _ b;rw[tu Om,hl] at this;simp at this;exact j (by rw[show hd (a::R)=a.toNat from rfl,this];rfl)
   rw[iN h3,Dl hl,iP h,hl]
  obtain⟨c,hc,rfl⟩:=List.mem_map.1 h;unfold lH;have q : ∀y,y∈S3\/y∈S2->∀a n,y=c::a::n->hd R=a.toNat->False:=by
   intro y o a n e v;rcases d with d | ⟨j,k,l⟩
   ·have : ∀y∈S3++S2,∀z∈FD,y.head? ≠z.head? :=by decide
    exact this y (List.mem_append.2 o) [c] d (by rw[e];rfl)
   have : ∀y∈S3++S2,y[1]? = some (al 61)\/y[1]? = some (al 42)\/y[1]? = some (al 47):=by decide
   have:=this y (List.mem_append.2 o);rw[e] at this;simp at this;rcases this with g | g | g<;>rw[v,g] at j k l
   ·exact j rfl
   ·exact k rfl
   exact l rfl
  have w:([c]++R).take 3∉S3:=λb=>by
   cases R with
   | nil=>exact absurd ((by decide : ∀y∈S3,y.length=3) _ b) s0
   | cons a R=>exact q _ (.inl b) a (R.take 1) rfl rfl
  have n2:([c]++R).take 2∉S2:=λb=>by
   cases R with
   | nil=>exact absurd ((by decide : ∀y∈S2,y.length=2) _ b) s0
   | cons a R=>exact q _ (.inr b) a [] rfl rfl
  rw[iN w,iN n2,iP (show hd ([c]++R)∈S1.map UInt8.toNat from List.mem_map.2 ⟨c,hc,rfl⟩)];rfl
 have hh:hd (x++R)=hd x:=zh av;unfold fq;rw[hh,iN (by rw[h1];decide),iN (by rw[h2];decide),iN h3,hs];simp only[fo];rw[Dl rfl]
theorem Nx{c:UInt8}{x:List UInt8}:gu (c::x)=(iE c).flatten++gu x:=by simp[gu]
theorem anz : ∀n,n<32->mZ ((lU.getD (n / 16) 0).toNat)=n / 16/\mZ ((lU.getD (n % 16) 0).toNat)=n % 16:=by decide
theorem acf{r:List UInt8} : ∀ {f:Nat} {x:List UInt8},x.length<f->gO 34 f (gu x++al 34::r)=some (x,(gu x).length+1)
 | 0,x,h=>absurd h Om
 | f+1,[],_=>by
   simp only[gO,gu,List.flatMap_nil,a6];rw[iP (by show 34=34;rfl)];rfl
 | f+1,c::x,h=>by
   have o:gO 34 f (gu x++al 34::r)=some (x,(gu x).length+1):=acf (by simp at h;omega);have key : ∀(b:Nat) (e:List UInt8),(iE c).flatten=92::e->(∀t,ie (e++t)=some (b,e.length))->al b=c->gO 34 (f+1) (gu (c::x)++al 34::r)=some (c::x,(gu (c::x)).length+1):=by
    intro b e h1 h2 h3;rw[Nx,h1,aG,aS];simp only[gO];have hh:hd (92::(e++(gu x++al 34::r)))=92:=rfl;rw[hh,iN de,iN de,iN de];have j:(92::(e++(gu x++al 34::r)):List UInt8).drop 1=e++(gu x++al 34::r):=rfl;have q:(92::(e++(gu x++al 34::r)):List UInt8).drop (1+e.length)=gu x++al 34::r:=by
     rw[Nat.add_comm,FP,AY rfl]
    rw[j,h2];simp only[q,o,fo,h3];simp;omega
   by_cases k:c=10
   ·subst k;exact key 10 [110] rfl (λt=>rfl) rfl
   by_cases l:c=9
   ·subst l;exact key 9 [116] rfl (λt=>rfl) rfl
   by_cases a:c=34
   ·subst a;exact key 34 [34] rfl (λt=>rfl) rfl
   by_cases d:c=92
   ·subst d;exact key 92 [92] rfl (λt=>rfl) rfl
   by_cases g:c.toNat<32
   ·have m:(iE c).flatten= [92,120,lU.getD (c.toNat / 16) 0,lU.getD (c.toNat % 16) 0]:=by
     unfold iE;rw[iN k,iN l,iN (by simp[a,d]),iP g];rfl
    obtain⟨s,u⟩:=anz c.toNat g;refine key c.toNat _ m (λt=> ?_) s0;unfold ie;have v:hd ([120,lU.getD (c.toNat / 16) 0,lU.getD (c.toNat % 16) 0]++t)=120:=rfl;have w:hd (([120,lU.getD (c.toNat / 16) 0,lU.getD (c.toNat % 16) 0]++t).drop 1)=(lU.getD (c.toNat / 16) 0).toNat:=rfl;have y:hd (([120,lU.getD (c.toNat / 16) 0,lU.getD (c.toNat % 16) 0]++t).drop 2)=(lU.getD (c.toNat % 16) 0).toNat:=rfl;rw[v,w,y,s,u,iP rfl,iP ⟨Om,Om⟩];simp only[ay,aF,Option.some.injEq,Prod.mk.injEq];exact⟨Nat.div_add_mod c.toNat 16,trivial⟩
   have m:(iE c).flatten= [c]:=by
    unfold iE;rw[iN k,iN l,iN (by simp[a,d]),iN g];rfl
   rw[Nx,m];simp only[aS,a6,gO];have hh:hd (c::(gu x++al 34::r))=c.toNat:=rfl;have z:c.toNat≠34:=λe=>a (UInt8.toNat.inj (by rw[e];rfl));have n:c.toNat≠92:=λe=>d (UInt8.toNat.inj (by rw[e];rfl));rw[hh,iN z,iN g,iP n];have j:(c::(gu x++al 34::r)).drop 1=gu x++al 34::r:=rfl;rw[j,o];simp
theorem anA : ∀x:List UInt8,∀c∈gu x,c.toNat≠10:=by
 intro x c hc;unfold gu at hc;obtain⟨b,_,hb⟩:=List.mem_flatMap.1 hc;obtain⟨y,a,d⟩:=List.mem_flatten.1 hb;have j : ∀n,(lU.getD n 0).toNat≠10:=λn=>by
  rcases pE n 16 with h | h
  ·exact(by decide : ∀n,n<16->(lU.getD n 0).toNat≠10) n h
  have e:lU.getD n 0=0:=by rw[List.getD_eq_getElem?_getD,List.getElem?_eq_none (by show 16<=n;exact h)];rfl
  rw[e];decide
 unfold iE at a;split at a;·simp at a;subst a;simp at d;rcases d with rfl | rfl<;>decide
 rename_i g;split at a;·simp at a;subst a;simp at d;rcases d with rfl | rfl<;>decide
 split at a
 ·rename_i h;simp at a;rcases a with rfl | rfl<;>simp at d<;>subst d
  ·decide
  rcases h with rfl | rfl<;>decide
 split at a
 ·simp at a;rcases a with rfl | rfl | rfl
  ·simp at d;rcases d with rfl | rfl<;>decide
  ·rw[List.mem_singleton.1 d];exact j _
  rw[List.mem_singleton.1 d];exact j _
 simp at a;subst a;rw[List.mem_singleton.1 d];exactλe=>g (UInt8.toNat.inj (by rw[e];rfl))
theorem acg : ∀x:List UInt8,x.length<=(gu x).length
 | []=>ag _
 | c::x=>by
   rw[Nx,bW,ay];have:1<=(iE c).flatten.length:=by
    unfold iE;repeat' split
    all_goals simp
   have:=acg x;omega
theorem anB(x:List UInt8):px 7 x:=by
 have a:(Pc.tk 7 x).tx=34::(gu x++ [34]):=rfl;unfold px;rw[a];refine⟨λR _=> ?_,⟨_,_,rfl,de,de⟩,?_⟩
 ·have e:(34::(gu x++ [34])++R:List UInt8)=34::(gu x++34::R):=by simp
  rw[e];unfold fq;have hh:hd (34::(gu x++34::R))=34:=rfl;rw[hh,iN de,iN de,iP de];show Option.map _ (l8 34 (gu x++34::R))=_;unfold l8;have hl:=acg x;have:=acf (r:=R) (f:=(gu x++34::R).length+1) (x:=x) Sq;rw[show(al 34::R)=34::R from rfl] at this;rw[this];simp
 intro c hc;rcases List.mem_cons.1 hc with rfl | hc
 ·decide
 rcases List.mem_append.1 hc with hc | hc
 ·exact anA x c hc
 rw[List.mem_singleton.1 hc];decide
theorem CQ{k:Nat}{x:List UInt8}(h:iX k x):px k x:=by
 obtain⟨l,n,h⟩:=h;unfold fq at h;split at h;·rename_i g;cases h;exact anx g
 split at h
 ·rename_i g;split at h;·cases h
  rename_i hb;cases h;exact anw g (by simpa using hb)
 split at h
 ·cases ht:l8 (hd l) (l.drop 1) with
  | none=>rw[ht] at h;cases h
  | some y=>rw[ht] at h;cases h;exact anB _
 cases ht:lH l with
 | none=>rw[ht] at h;cases h
 | some y=>
   rw[ht] at h;cases h;refine CN ?_;unfold lH at ht;split at ht;·rename_i g;cases ht;simp only[fp];exact .inl (.inl g)
   split at ht;·rename_i g;cases ht;simp only[fp];exact .inl (.inr g)
   split at ht
   ·rename_i g;cases ht;cases l with
    | nil=>exact absurd g de
    | cons c u=>
      have hc:c∈S1:=by
       obtain⟨y,a,e⟩:=List.mem_map.1 g;rwa [<-UInt8.toNat.inj e]
      simp only[fp];exact .inr (List.mem_map.2 ⟨c,hc,rfl⟩)
   cases ht
def cU:List Pc->Nat->Nat
 | [],c=>c
 | .sp::_,_=>32
 | .tk k x::_,_=>if k=7 then 34 else hd x
 | .nl::_,_=>10
 | .kV::r,c=>cU r c
 | .out::r,c=>cU r c
def dA:List Pc->Nat->Prop
 | [],_=>True
 | .sp::r,c=>dA r c
 | .tk k x::r,c=>px k x/\vQ k x (cU r c)/\dA r c
 | _::_,_=>False
def fI:Nat->List Pc->Nat
 | d,[]=>d
 | d, .tk k x::r=>fI (jd d k x) r
 | d,_::r=>fI d r
def gS:List Pc->List PT
 | []=> []
 | .sp::r=>gS r
 | .nl::r=>⟨1,0,[]⟩::gS r
 | .kV::r=>⟨2,0,[]⟩::gS r
 | .out::r=>⟨3,0,[]⟩::gS r
 | .tk k x::r=>⟨k,0,x⟩::gS r
theorem qn : ∀ {a b:List Pc} {c:Nat},cU (a++b) c=cU a (cU b c)
 | [],b,c=>rfl
 | .sp::r,b,c=>rfl
 | .tk k x::r,b,c=>rfl
 | .nl::r,b,c=>rfl
 | .kV::r,b,c=>qn (a:=r)
 | .out::r,b,c=>qn (a:=r)
theorem mw : ∀ {a b:List Pc} {c:Nat},dA (a++b) c↔dA a (cU b c)/\dA b c
 | [],b,c=>by simp[dA]
 | .sp::r,b,c=>by simp only[aS,dA,mw]
 | .tk k x::r,b,c=>by simp only[aS,dA,mw,qn,and_assoc]
 | .nl::r,b,c=>by simp[dA]
 | .kV::r,b,c=>by simp[dA]
 | .out::r,b,c=>by simp[dA]
theorem lD : ∀ {a b:List Pc} {d:Nat},fI d (a++b)=fI (fI d a) b
 | [],b,d=>rfl
 | .sp::r,b,d=>lD (a:=r)
 | .tk k x::r,b,d=>lD (a:=r)
 | .nl::r,b,d=>lD (a:=r)
 | .kV::r,b,d=>lD (a:=r)
 | .out::r,b,d=>lD (a:=r)
theorem xj : ∀ {a b:List Pc},gS (a++b)=gS a++gS b
 | [],b=>rfl
 | .sp::r,b=>xj (a:=r)
 | .tk k x::r,b=>congrArg _ (xj (a:=r))
 | .nl::r,b=>congrArg _ (xj (a:=r))
 | .kV::r,b=>congrArg _ (xj (a:=r))
 | .out::r,b=>congrArg _ (xj (a:=r))
theorem Jd(a b:List Pc):bf (a++b)=bf a++bf b:=by simp[bf]
theorem zk(a:Pc)(b:List Pc):bf (a::b)=a.tx++bf b:=by simp[bf]
theorem ach : ∀ {ps:List Pc},dA ps 0->hd (bf ps)=cU ps 0
 | [],_=>rfl
 | .sp::r,_=>rfl
 | .tk k x::r,h=>by
   obtain⟨c,u,h1,_⟩:=h.1.2.1;rw[zk,zh (by rw[h1];simp)];show hd (if k=7 then _ else x)=if k=7 then 34 else hd x
   split<;>rfl
 | .nl::r,h=>h.elim
 | .kV::r,h=>h.elim
 | .out::r,h=>h.elim
def tz (t:da):PT:=⟨t.kind,0,t.text⟩
theorem anC{t:List UInt8}(h1:hd t≠32)(h2:hd t≠35):cq t=0:=by
 have e:nW (λn=>decide (n=32)) t=0:=xG (.inr (by simpa using h1));unfold cq;rw[e,sn,iN h2]
theorem anD{t:List UInt8}:cq (32::t)=cq t+1:=by
 have e:nW (λn=>decide (n=32)) (32::t)=nW (λn=>decide (n=32)) t+1:=by
  show(if decide ((32:UInt8).toNat=32)=true then _ else _)=_;rw[iP de]
 unfold cq;rw[e,FP];split<;>omega
theorem anE{line f d:Nat}{t:List UInt8}:je line f (32::t) d=je line f t d:=by
 cases f with
 | zero=>rfl
 | succ f=>
   simp only[je,anD,ay,Nat.add_le_add_iff_right,FP];split;·rfl
   split;·rfl
   rename_i k x n _;rw[show cq t+1+n=(cq t+n)+1 by omega,FP]
theorem Tj{line:Nat} : ∀ {ps:List Pc} {f d:Nat},dA ps 0->(bf ps).length<f->∃x,je line f (bf ps) d=some (x,fI d ps)/\x.map tz=gS ps
 | [],f+1,d,_,_=>⟨[],by simp[je,bf,fI],rfl⟩
 | .sp::r,f,d,h,a=>by
   have e:bf (.sp::r)=32::bf r:=rfl;rw[e] at a⊢;rw[anE];exact Tj h (by simp at a;omega)
 | .tk k x::r,f+1,d,⟨h1,h2,h3⟩,a=>by
   obtain⟨c,u,b,g,j⟩:=h1.2.1;have hh:hd ((Pc.tk k x).tx++bf r)=c.toNat:=by rw[b];rfl
   have hb:cq ((Pc.tk k x).tx++bf r)=0:=anC (by rw[hh];exact g) (by rw[hh];exact j);have hl:1<=(Pc.tk k x).tx.length:=by rw[b];simp
   rw[zk] at a⊢;rw[bW] at a;have ht:=h1.1 (bf r) (by rw[ach h3];exact h2);obtain⟨y,l,m⟩:=Tj (line:=line) (f:=f) (d:=jd d k x) h3 Om;refine⟨⟨k,line,x⟩::y,?_,?_⟩;·simp only[je,hb,sn,iZ,ht,bW];rw[iN Om,AY rfl,l];rfl
   rw[dq,m];rfl
 | .nl::r,_,_,h,_=>h.elim
 | .kV::r,_,_,h,_=>h.elim
 | .out::r,_,_,h,_=>h.elim
 | [],0,_,_,h=>absurd h (su _)
 | .tk _ _::_,0,_,_,h=>absurd h (su _)
theorem Tk : ∀ {ps:List Pc},dA ps 0->∀c∈bf ps,c.toNat≠10
 | [],_,c,hc=>by cases hc
 | .sp::r,h,c,hc=>by
   rcases List.mem_cons.1 (show c∈32::bf r from hc) with rfl | hc
   ·decide
   exact Tk (ps:=r) h c hc
 | .tk k x::r,h,c,hc=>by
   rw[zk] at hc;rcases List.mem_append.1 hc with hc | hc
   ·exact h.1.2.2 c hc
   exact Tk (ps:=r) h.2.2 c hc
 | .nl::r,h,_,_=>h.elim
 | .kV::r,h,_,_=>h.elim
 | .out::r,h,_,_=>h.elim
def kB (c:Nat):Prop:=c≠61/\c≠42/\c≠47/\c≠32/\c≠35/\c≠0
def Je (ps:List Pc):Prop:=dA ps 0/\fI 0 ps=0/\kB (cU ps 0)
inductive kC:Nat->List Pc->Prop where
 | line {d ps} (h:Je ps):kC d (dW d++(ps++ [.nl]))
 | app {d a b} (ha:kC d a) (hb:kC d b):kC d (a++b)
 | head {d ps b} (h:Je ps) (hb:kC (d+1) b):kC d (dW d++(ps++([.nl, .kV]++(b++ [.out]))))
def jH:Nat->List Nat
 | 0=> [0]
 | d+1=>4*(d+1)::jH d
def outs (m:Nat):List PT:=kY m ⟨3,0,[]⟩
theorem Tl : ∀d,(jH d).headD 0=4*d
 | 0=>rfl
 | d+1=>rfl
theorem aci{line d:Nat} : ∀m,(dZ line (jH (d+m)) (4*d)).2=jH d/\(dZ line (jH (d+m)) (4*d)).1.map tz=outs m:=by
 have key : ∀m,((jH (d+m)).takeWhile λx=>decide (4*d<x)).length=m/\((jH (d+m)).dropWhile λx=>decide (4*d<x))=jH d:=by
  intro m;induction m with
  | zero=>cases d<;>simp[jH]
  | succ m a=>
    have e:jH (d+(m+1))=4*(d+m+1)::jH (d+m):=rfl;rw[e,List.takeWhile_cons,JA,iP Sq,iP Sq,ay,a.1];exact⟨rfl,a.2⟩
 intro m;have h1 : ¬(jH (d+m)).headD 0<4*d:=by rw[Tl];omega
 unfold dZ;rw[iN h1];refine⟨(key m).2,?_⟩;simp only[(key m).1,List.map_replicate];rfl
theorem anF{line d:Nat}:(dZ line (jH d) (4*(d+1))).2=jH (d+1)/\(dZ line (jH d) (4*(d+1))).1.map tz= [⟨2,0,[]⟩]:=by
 unfold dZ;rw[iP (by rw[Tl];omega)];exact⟨rfl,rfl⟩
theorem Tm{d:Nat}:bf (dW d)=kY (4*d) 32:=by
 unfold dW;generalize 4*d=n;induction n with
 | zero=>rfl
 | succ n a=>rw[Dk,Dk,zk,a];rfl
theorem Ny{d:Nat}{ps:List Pc}{c e:Nat}:(dA (dW d++ps) c↔dA ps c)/\fI e (dW d++ps)=fI e ps/\gS (dW d++ps)=gS ps:=by
 unfold dW;generalize 4*d=n;induction n with
 | zero=>exact⟨Iff.rfl,rfl,rfl⟩
 | succ n a=>rw[Dk,aS];exact a
theorem anG{line d:Nat}{ps:List Pc}{st:List Nat}{Q:List PT}(h:Je ps)(a:(dZ line st (4*d)).2=jH d/\(dZ line st (4*d)).1.map tz=Q) : ∃x,gF line (bf (dW d++ps)) 0 st= .ok (x,0,jH d)/\x.map tz=Q++(gS ps++ [⟨1,0,[]⟩]):=by
 obtain⟨h1,h2,h3⟩:=h;obtain⟨k,l,m⟩:=Ny (d:=d) (ps:=ps) (c:=0) (e:=0);obtain⟨y,b,j⟩:=Tj (line:=line) (d:=0) (f:=(bf (dW d++ps)).length+1) (k.2 h1) (nX _);rw[l,h2] at b;rw[m] at j;have hh:=ach h1;have av:1<=(bf ps).length:=by
  cases o:bf ps with
  | nil=>rw[o] at hh;exact absurd hh.symm h3.2.2.2.2.2
  | cons _ _=>simp
 have hb:cq (bf (dW d++ps))=4*d:=by
  rw[Jd,Tm];have e:nW (λn=>decide (n=32)) (kY (4*d) 32++bf ps)=4*d:=agR (by rw[hh];exact h3.2.2.2.1);unfold cq;rw[e,AY s0,iN (by rw[hh];exact h3.2.2.2.2.1)]
 unfold gF;rw[hb,iN (by rw[Jd,bW,Tm];simp;omega),iN (by rintro⟨_,g⟩;exact g (by rw[a.1,Tl])),b];refine⟨(dZ line st (4*d)).1++y++ [⟨1,line,[]⟩],?_,?_⟩;·rw[<-a.1];rfl
 rw[qt,qt,a.2,j,aG];rfl
theorem anH{d:Nat}{ps:List Pc}(h:kC d ps) : ∀ {st:List Nat} {Q:List PT},(∀line,(dZ line st (4*d)).2=jH d/\(dZ line st (4*d)).1.map tz=Q)->∃m X,gS ps=X++outs m/\∀rest line,∃Y l,Y.map tz=Q++X/\gG line (eT (bf ps++rest)) 0 st=uW Y (gG l (eT rest) 0 (jH (d+m))):=by
 have row : ∀ {d:Nat} {ps:List Pc} {st:List Nat} {Q:List PT},Je ps->(∀line,(dZ line st (4*d)).2=jH d/\(dZ line st (4*d)).1.map tz=Q)->∀rest line,∃Y,Y.map tz=Q++(gS ps++ [⟨1,0,[]⟩])/\gG line (eT (bf (dW d++ps)++al 10::rest)) 0 st=uW Y (gG (line+1) (eT rest) 0 (jH d)):=by
  intro d ps st Q h g rest line;obtain⟨x,j,k⟩:=anG (line:=line) h (g line);refine⟨x,k,?_⟩;rw[YJ,YK (Tk ((Ny (c:=0) (e:=0)).1.2 h.1)),List.singleton_append,yK,j]
 induction h with
 | line h=>
   rename_i d ps;intro st Q g;refine⟨0,gS ps++ [⟨1,0,[]⟩],?_,λrest line=> ?_⟩;·rw[(Ny (c:=0) (e:=0)).2.2,xj];simp[outs,gS]
   obtain⟨Y,j,k⟩:=row h g rest line;refine⟨Y,line+1,j,?_⟩;rw[<-aG,Jd (dW d++ps),aG];exact k
 | app ha hb y n=>
   rename_i d a b;intro st Q g;obtain⟨m,X,j,k⟩:=y g;obtain⟨z,A,o,p⟩:=n (st:=jH (d+m)) (Q:=outs m) λline=>aci m;refine⟨z,gS a++A,by rw[xj,o,aG],λrest line=> ?_⟩;obtain⟨Y,q,r,s⟩:=k (bf b++rest) line;obtain⟨t,u,v,w⟩:=p rest q;refine⟨Y++t,u,?_,?_⟩;·rw[qt,r,v,j];simp only[aG]
   rw[Jd,aG,s,w,Qy]
 | head h hb n=>
   rename_i d ps b;intro st Q g;obtain⟨m,X,o,p⟩:=n (st:=jH d) (Q:= [⟨2,0,[]⟩]) λline=>anF;refine⟨m+1,gS ps++ [⟨1,0,[]⟩]++ [⟨2,0,[]⟩]++X,?_,λrest line=> ?_⟩
   ·rw[(Ny (c:=0) (e:=0)).2.2,xj,xj,xj,o];have e:outs (m+1)=outs m++ [⟨3,0,[]⟩]:=by unfold outs;rw[List.replicate_succ']
    rw[e];simp[gS]
   obtain⟨Y,r,s⟩:=row h g (bf b++rest) line;obtain⟨t,u,v,w⟩:=p rest (line+1);refine⟨Y++t,u,?_,?_⟩;·rw[qt,r,v];simp only[aG]
   have e:bf (dW d++(ps++([.nl, .kV]++(b++ [.out]))))++rest=bf (dW d++ps)++al 10::(bf b++rest):=by
    have j:bf [.nl, .kV]= [al 10]:=rfl;have k:bf [.out]= []:=rfl;simp only[Jd,j,k,aG,cn];rfl
   rw[e,s,w,Qy];rw[show d+1+m=d+(m+1) by omega]
theorem anK{ps:List Pc}(h:kC 0 ps)(hl:(bf ps).length<=20000) : ∃ts,gv (bf ps)= .ok ts/\ts.map tz=gS ps++ [⟨0,0,[]⟩]:=by
 obtain⟨m,X,b,c⟩:=anH h (st:= [0]) (Q:= []) λline=>aci (d:=0) 0;obtain⟨Y,line,e,a⟩:=c [] 1;have g:gG line (eT []) 0 (jH (0+m))= .ok ([],jH (0+m)):=by
  show gG line [[]] 0 _=_;rw[agT s0];rfl
 rw[cn,g] at a;have j:(jH (0+m)).length-1=m:=by
  rw[iZ];have : ∀m,(jH m).length=m+1:=λm=>by
   induction m with
   | zero=>rfl
   | succ m k=>simp[jH,k]
  rw[this];rfl
 unfold gv;rw[iN Om,a];refine⟨_,rfl,?_⟩;simp only[tB,j,qt,List.map_replicate,cn];rw[e,a6,b,aG];rfl
theorem FE : ∀ {ps:List Pc} {pre post:List PT},bt (pre++(gS ps++post)) ps pre.length (pre.length+(gS ps).length)
 | [],pre,post=>rfl
 | .sp::r,pre,post=>FE (ps:=r)
 | .nl::r,pre,post=>a (x:=⟨1,0,[]⟩) (FE (ps:=r))
 | .kV::r,pre,post=>a (x:=⟨2,0,[]⟩) (FE (ps:=r))
 | .out::r,pre,post=>a (x:=⟨3,0,[]⟩) (FE (ps:=r))
 | .tk k x::r,pre,post=>a (x:=⟨k,0,x⟩) (FE (ps:=r))
where
 a {r:List Pc} {pre post:List PT} {x:PT} (h:bt ((pre++ [x])++(gS r++post)) r (pre++ [x]).length ((pre++ [x]).length+(gS r).length)):ah (pre++(x::gS r++post)) pre.length=x/\bt (pre++(x::gS r++post)) r (pre.length+1) (pre.length+(x::gS r).length):=by
  constructor;·unfold ah;rw[tu (ag _),Ju];rfl
  have b:(pre++ [x])++(gS r++post)=pre++(x::gS r++post):=by simp
  have c:(pre++ [x]).length=pre.length+1:=by simp
  rw[b,c] at h;rw[ay,show pre.length+((gS r).length+1)=pre.length+1+(gS r).length by omega];exact h
def mS (c:Nat):Bool:= [32,41,44,58,93,125,40,91,0].contains c
theorem CR{k c:Nat}{x:List UInt8}(hk:k≠9)(h:mS c=true):vQ k x c:=by
 have h1:en c=false/\c≠46:=by
  simp only[mS,List.contains_eq_mem,jw,zt,or_false,decide_eq_true_eq] at h;rcases h with rfl | rfl | rfl | rfl | rfl | rfl | rfl | rfl | rfl<;>exact⟨de,de⟩
 exact⟨λ_=>h1.1,λ_=>h1,λe=>absurd e hk⟩
theorem To{k:Nat}{x:List UInt8}(hk:k=4\/k=7\/k=8):vQ k x 46:=⟨λ_=>by decide,λ_=>by omega,λ_=>by omega⟩
theorem Tp{x:List UInt8}{c:Nat}(h:x∈FD):vQ 9 x c:=⟨λe=>by omega,λe=>by omega,λ_=> .inl h⟩
theorem tt{k:Nat}{x:List UInt8}:vQ k x 32:=⟨λ_=>by decide,λ_=>⟨de,de⟩,λ_=> .inr ⟨de,de,de⟩⟩
theorem anL{x:List UInt8}{c:Nat}(h:kB c):vQ 9 x c:=⟨λe=>by omega,λe=>by omega,λ_=> .inr ⟨h.1,h.2.1,h.2.2.1⟩⟩
theorem AN{d k:Nat}{x:List UInt8}(hk:k≠9):jd d k x=d:=by
 unfold jd;rw[iN (λh=>hk h.1),iN (λh=>hk h.1)]
theorem Tq{k:Nat}{x:List UInt8}(h:iX k x)(hk:k=4\/k=5\/k=6):en (hd x)=true:=by
 obtain⟨l,n,h⟩:=h;unfold fq at h;split at h
 ·rename_i g;cases h;have a:0<nW en l:=by
   cases l with
   | nil=>cases g
   | cons c r=>rw[nW,iP (show en c.toNat=true by unfold en;rw[show fK c.toNat=true from g];rfl)];omega
  rw[I4 a];unfold en;rw[g];rfl
 split at h
 ·rename_i g;split at h;·cases h
  cases h;have a:0<a8 l:=by
   have:=(AL g).2;unfold a8 hC;omega
  rw[I4 a];unfold en;rw[g];simp
 split at h
 ·cases ht:l8 (hd l) (l.drop 1) with
  | none=>rw[ht] at h;cases h
  | some y=>rw[ht] at h;cases h;omega
 cases ht:lH l with
 | none=>rw[ht] at h;cases h
 | some y=>rw[ht] at h;cases h;omega
theorem Nz{c:Nat}(h:en c=true):kB c:=by
 refine⟨?_,?_,?_,?_,?_,?_⟩<;>(rintro rfl;revert h;decide)
def EL (ps:List Pc):Prop:=(∀c,mS c=true->dA ps c)/\∀d,fI d ps=d
def ue (n:Nd):Prop:=bC n\/(∃l,n= .mk 48 l [] 0 [])\/(∃l,n= .mk 60 l [] 0 [])\/∃l a,n= .mk 60 l [] 0 [a]/\bC a
def FF (s:List UInt8):Prop:=px (if s=qK\/s=qJ then 8 else 9) s/\∀d,jd d (if s=qK\/s=qJ then 8 else 9) s=d
def LX (r:SR)(d:Nat)(ps:List Pc):Prop:=match r with
 | .at n a=>ue n->EL ps/\(n.kind≠48->∀c,kB (cU ps c))/\(bC n->n.kind≠30->n.kind≠31->9<=a->dA ps 46)
 | .expr n=>ue n->EL ps/\(n.kind≠48->∀c,kB (cU ps c))/\(bC n->n.kind≠30->n.kind≠31->9<=gC n->dA ps 46)
 | .dK n=>bC n->(37<=n.kind/\n.kind<=42)\/n.kind=49\/n.kind=50->EL ps/\∀c,kB (cU ps c)
 | .dC n=>bC n->44<=n.kind/\n.kind<=47->EL ps/\(∀c,kB (cU ps c))/\dA ps 46
 | .shown n=>bC n->51<=n.kind->EL ps/\(∀c,kB (cU ps c))/\dA ps 46
 | .bc b l=>(∀n∈l,ue n)->EL ps/\(b=true->∀c,mS c=true->mS (cU ps c)=true)/\(b=false->l≠ []->(∀n∈l,n.kind≠48)->∀c,kB (cU ps c))
 | .bF b l=>(∀n∈l,ue n)->EL ps/\(b=true->∀c,mS c=true->mS (cU ps c)=true)/\(b=false->l≠ []->(∀n∈l,n.kind≠48)->∀c,kB (cU ps c))
 | .two n l s r=>∀a b ks,n.kids=a::b::ks->bC a->bC b->FF s->EL ps/\∀c,kB (cU ps c)
 | .clauses l=>(∀n∈l,qk n)->EL ps/\∀c,mS c=true->mS (cU ps c)=true
 | .cW l=>(∀n∈l,Fv n)->EL ps/\∀c,mS c=true->mS (cU ps c)=true
 | .bO b l=>pw l->EL ps/\(b=true->∀c,mS c=true->mS (cU ps c)=true)
 | .maybe s n=>s∈jY->n.kids= []\/(∃a,n.kids= [a]/\bC a)->EL ps/\∀c,kB (cU ps c)
 | .block n=>okB n->∃b,ps= .tk 9 [58]:: .nl:: .kV::(b++ [.out])/\kC (d+1) b
 | .a9 l=>l≠ []->(∀n∈l,lY n)->kC d ps
 | .ifs s n=>lY n->n.kind=5->kC d ps
 | .cR l=>(∀n∈l,vO n\/okF n)->(l= []->ps= [])/\(l≠ []->kC d ps)
 | .tries n=>n.kind=15->lY n->kC d ps
 | .stmt n=>lY n->kC d ps
 | .head n=>n.kind=6\/n.kind=7\/n.kind=8\/n.kind=9\/n.kind=16->lY n->kC d ps
 | .simple n=>¬(n.kind=5\/n.kind=15\/n.kind=6\/n.kind=7\/n.kind=8\/n.kind=9\/n.kind=16)->lY n->EL ps/\∀c,kB (cU ps c)
def lE (f:Nat):Prop:=∀(r:SR) (d:Nat),r.me<f->LX r d (pp f r d)
theorem anM{k:Nat}{x:List UInt8}{r:List Pc}{c:Nat}:cU (.tk k x::r) c=if k=7 then 34 else hd x:=rfl
theorem CS{x:List UInt8}(h:x∈ [[40],[91],[123],[43],[45]]):kB (hd x):=by
 simp only[jw,zt,or_false] at h;rcases h with rfl | rfl | rfl | rfl | rfl<;>(refine⟨?_,?_,?_,?_,?_,?_⟩<;>decide)
theorem xk{x:List UInt8}(h:x∈jY):kB (hd x):=Nz (by
 have h1:=(by decide : ∀x∈jY,en (hd x)=true);exact h1 x h)
theorem anN:kB 34:=by refine⟨?_,?_,?_,?_,?_,?_⟩<;>decide
theorem bC.Fe{n:Nd}(h:bC n):n.kind≠48:=h.2.2.2.2
theorem bC.y{n:Nd}(h:bC n):ue n:= .inl h
section
variable {f:Nat}
theorem acj{k:Nat}{x:List UInt8}(hg:px k x)(hk:k≠9)(hb:k=7\/kB (hd x)):EL [.tk k x]/\(∀c,kB (cU [.tk k x] c))/\(k=4\/k=7\/k=8->dA [.tk k x] 46):=by
 refine⟨⟨λc hc=>⟨hg,CR hk hc,trivial⟩,λd=> ?_⟩,λc=> ?_,λh=>⟨hg,To h,trivial⟩⟩;·show jd d k x=d;exact AN hk
 rw[anM];split;·exact anN
 exact hb.resolve_left ‹_›
theorem anO(b:lE f){n:Nd}{a d:Nat}(j:SR.me (.at n a)<f+1):LX (.at n a) d (pp (f+1) (.at n a) d):=by
 intro ho;obtain⟨h1,h2,h3⟩:=b (.expr n) d (by simp only[SR.me] at j⊢;omega) ho;simp only[pp];by_cases hc:gC n<a
 ·simp only[hc,iT,aG,aS,a6];have g : ∀c,dA (sy [40]::(pp f (.expr n) d++ [sy [41]])) c:=λc=>by
   simp only[dA,mw,qn,cU];exact⟨CN de,Tp de,h1.1 _ rfl,CN de,Tp de,trivial⟩
  refine⟨⟨λc _=>g c,λd=> ?_⟩,λ_ c=>CS (x:= [40]) s0,λ_ _ _ _=>g 46⟩;simp only[fI,lD,h1.2];rfl
 simp only[hc,iF];exact⟨h1,h2,λe k l ha=>h3 e k l Om⟩
theorem anP(b:lE f){s:List UInt8}{n:Nd}{d:Nat}(e:SR.me (.maybe s n)<f+1):LX (.maybe s n) d (pp (f+1) (.maybe s n) d):=by
 intro hs ho;rcases ho with hk | ⟨a,hk,ha⟩
 ·simp only[pp,hk];have:=acj (AM hs) de (.inr (xk hs));exact⟨this.1,this.2.1⟩
 simp only[pp,hk,aG,aS,a6];obtain⟨⟨h1,h2⟩,_,_⟩:=b (.at a 0) d (by simp only[SR.me,hk,aq,aL] at e⊢;omega) ha.y;refine⟨⟨λc hc=> ?_,λd=> ?_⟩,λc=>xk hs⟩;·simp only[dA,cU];exact⟨AM hs,tt,h1 c hc⟩
 simp only[fI,AN (show 8≠9 by decide),h2]
theorem anQ(q:lE f){n:Nd}{d:Nat}(r:SR.me (.expr n)<f+1):LX (.expr n) d (pp (f+1) (.expr n) d):=by
 intro ho;have leaf : ∀ {k:Nat} {x:List UInt8},px k x->k≠9->(k=7\/kB (hd x))->((k=5\/k=6)->n.kind=30\/n.kind=31)->(k=4\/k=5\/k=6\/k=7\/k=8)->EL [.tk k x]/\(n.kind≠48->∀c,kB (cU [.tk k x] c))/\(bC n->n.kind≠30->n.kind≠31->9<=gC n->dA [.tk k x] 46):=by
  intro k x hg hk hb h5 v;obtain⟨j,m,u⟩:=acj hg hk hb;exact⟨j,λ_=>m,λ_ w y _=>u Om⟩
 have xI : ∀ {ks},n.kind=60->n.kids=ks->(ks= []\/∃a,ks= [a]/\bC a)->EL (pp f (.maybe nP n) d)/\(n.kind≠48->∀c,kB (cU (pp f (.maybe nP n) d) c))/\(bC n->n.kind≠30->n.kind≠31->9<=gC n->dA (pp f (.maybe nP n) d) 46):=by
  intro ks hk br t;obtain⟨j,s⟩:=q (.maybe nP n) d (by simp only[SR.me] at r⊢;omega) de (by rw[br];exact t);exact⟨j,λ_=>s,λe=>by have:=e.2.2.1;omega⟩
 rcases ho with ho | ⟨l,rfl⟩ | ⟨l,rfl⟩ | ⟨l,a,rfl,ha⟩
 ·cases qU ho with
  | int h1=>exact leaf (CQ h1) de (.inr (Nz (Tq h1 Om))) (λ_=> .inl rfl) Om
  | CC h1=>exact leaf (CQ h1) de (.inr (Nz (Tq h1 Om))) (λ_=> .inr rfl) Om
  | str h1=>exact leaf (CQ h1) de (.inl rfl) Om Om
  | M9 h1=>exact leaf (CQ h1) de (.inr (Nz (Tq h1 Om))) Om Om
  | ql h1=>
    rcases h1 with rfl | rfl | rfl
    ·exact leaf (k:=8) (x:=qL) (AM de) de (.inr (xk de)) Om Om
    ·exact leaf (k:=8) (x:=qM) (AM de) de (.inr (xk de)) Om Om
    exact leaf (k:=8) (x:=qN) (AM de) de (.inr (xk de)) Om Om
  | call _ _ | attr _ _ | idx _ _ | pI _ _ _=>
    obtain⟨j,s,m⟩:=q (.dC _) d (S5 r) ho (by simp[Nd.kind]);exact⟨j,λ_=>s,λ_ _ _ _=>m⟩
  | vc _ | eF _ | set _ _ | CD _ _ | CE _ _ _ | CF _ _ _ | CG _ _ _ _=>
    obtain⟨j,s,m⟩:=q (.shown _) d (S6 r) ho (by simp[Nd.kind]);exact⟨j,λ_=>s,λ_ _ _ _=>m⟩
  | bin o1 o2 _ _=>
    rename_i l o a b _ _;obtain⟨j,m⟩:=q (.dK _) d (Nh r) ho (by simp[Nd.kind]);refine⟨j,λ_=>m,λ_ _ _ g=> ?_⟩;exfalso;obtain rfl | rfl | rfl | rfl | rfl | rfl | rfl:o=1\/o=2\/o=3\/o=4\/o=5\/o=6\/o=7:=by omega
    all_goals revert g;simp[gC,Nd.kind,Nd.op]
  | un _ _ | and _ _ | or _ _ | not _ | cmp _ _ _ | cond _ _ _ | lam _ _=>
    obtain⟨j,m⟩:=q (.dK _) d (Nh r) ho (by simp[Nd.kind]);exact⟨j,λ_=>m,λ_ _ _ g=>absurd g (by simp[gC,Nd.kind])⟩
 ·exact⟨⟨λ_ _=>trivial,λ_=>rfl⟩,λh=>absurd rfl h,λe=>by have:=e.Fe;exact absurd rfl this⟩
 ·exact xI rfl rfl (.inl rfl)
 exact xI rfl rfl (.inr ⟨a,rfl,ha⟩)
end
section
variable {f:Nat}
theorem lE.at(b:lE f){n:Nd}{a d:Nat}(ho:bC n)(e:16*aq n.kids+7<f):EL (pp f (.at n a) d)/\(∀c,kB (cU (pp f (.at n a) d) c))/\(n.kind≠30->n.kind≠31->9<=a->dA (pp f (.at n a) d) 46):=by
 obtain⟨g,h,j⟩:=b (.at n a) d e ho.y;exact⟨g,h ho.Fe,j ho⟩
theorem gs{x:List UInt8}(h:x∈S3++S2++S1.map (λc=> [c]):=by decide):px 9 x:=CN h
theorem gw{x:List UInt8}(h:x∈jY:=by decide):px 8 x:=AM h
theorem fc{x:List UInt8}{c:Nat}(h:x∈FD:=by decide):vQ 9 x c:=Tp h
theorem anS(e:lE f){b:Bool}{l:List Nd}{d:Nat}(a:SR.me (.bc b l)<f+1):LX (.bc b l) d (pp (f+1) (.bc b l) d):=by
 intro ho;rcases l with _ | ⟨n,l⟩
 ·exact⟨⟨λ_ _=>trivial,λ_=>rfl⟩,λ_ c hc=>hc,λ_ h=>absurd rfl h⟩
 simp only[SR.me,aq,aL] at a;obtain⟨⟨g,j⟩,q,_⟩:=e (.at n 0) d Mt (ho n s0);obtain⟨⟨k1,k⟩,o,_⟩:=e (.bc true l) d Mt (λm a=>ho m (by simp[a]));cases b
 ·simp only[pp,aM,iF,aG,aS,a6];refine⟨⟨λc hc=> ?_,λd=> ?_⟩,λh=>(by cases h),λ_ _ h c=> ?_⟩;·simp only[mw];exact⟨g _ (o rfl c hc),k1 c hc⟩
  ·simp only[lD,j,k]
  rw[qn];exact q (h n s0) _
 simp only[pp,iT,aG,aS,a6];refine⟨⟨λc hc=> ?_,λd=> ?_⟩,λ_ c hc=>rfl,λh=>(by cases h)⟩;·simp only[dA,mw,cU];exact⟨gs,fc,g _ (o rfl c hc),k1 c hc⟩
 simp only[fI,lD,j,k];rfl
theorem anT(e:lE f){b:Bool}{l:List Nd}{d:Nat}(a:SR.me (.bF b l)<f+1):LX (.bF b l) d (pp (f+1) (.bF b l) d):=by
 intro ho;rcases l with _ | ⟨n,l⟩
 ·exact⟨⟨λ_ _=>trivial,λ_=>rfl⟩,λ_ c hc=>hc,λ_ h=>absurd rfl h⟩
 simp only[SR.me,aq,aL] at a;obtain⟨⟨g,j⟩,q,_⟩:=e (.at n 0) d Mt (ho n s0);obtain⟨⟨k1,k⟩,o,_⟩:=e (.bF true l) d Mt (λm a=>ho m (by simp[a]));cases b
 ·simp only[pp,aM,iF,aG,aS,a6];refine⟨⟨λc hc=> ?_,λd=> ?_⟩,λh=>(by cases h),λ_ _ h c=> ?_⟩;·simp only[mw];exact⟨g _ (o rfl c hc),k1 c hc⟩
  ·simp only[lD,j,k]
  rw[qn];exact q (h n s0) _
 simp only[pp,iT,aG,aS,a6];refine⟨⟨λc hc=> ?_,λd=> ?_⟩,λ_ c hc=>rfl,λh=>(by cases h)⟩;·simp only[dA,mw,cU];exact⟨gs,tt,g _ (o rfl c hc),k1 c hc⟩
 simp only[fI,lD,j,k];rfl
theorem anU(e:lE f){b:Bool}{l:List Nd}{d:Nat}(g:SR.me (.bO b l)<f+1):LX (.bO b l) d (pp (f+1) (.bO b l) d):=by
 intro ho;rcases l with _ | ⟨n,_ | ⟨m,l⟩⟩
 ·exact⟨⟨λ_ _=>trivial,λ_=>rfl⟩,λ_ c hc=>hc⟩
 ·exact⟨⟨λ_ _=>trivial,λ_=>rfl⟩,λ_ c hc=>hc⟩
 simp only[SR.me,aq,aL] at g;obtain⟨⟨j,k⟩,_,_⟩:=e.at (a:=0) (d:=d) (ho n s0) Om;obtain⟨⟨o,q⟩,_,_⟩:=e.at (a:=0) (d:=d) (ho m s0) Om;obtain⟨⟨k1,r⟩,s⟩:=e (.bO true l) d Mt (λm g=>ho m (by simp[g]));cases b
 ·simp only[pp,aM,iF,aG,aS,a6];refine⟨⟨λc hc=> ?_,λd=> ?_⟩,λh=>(by cases h)⟩;·simp only[dA,mw,cU];exact⟨j _ rfl,gs,fc,o _ (s rfl c hc),k1 c hc⟩
  simp only[fI,lD,k,r,q];rfl
 simp only[pp,iT,aG,aS,a6];refine⟨⟨λc hc=> ?_,λd=> ?_⟩,λ_ c hc=>rfl⟩;·simp only[dA,mw,cU];exact⟨gs,fc,j _ rfl,gs,fc,o _ (s rfl c hc),k1 c hc⟩
 simp only[fI,lD,k,r,q];rfl
theorem anV{s:List UInt8}{r:List Pc}{c:Nat}(hs:FF s)(h:dA r c)(e:cU r c=32):dA (vL s::r) c:=by
 obtain⟨h1,_⟩:=hs;have key:dA (.tk (if s=qK\/s=qJ then 8 else 9) s::r) c:=⟨h1,by rw[e];exact tt,h⟩;unfold vL;show dA ((if s=qK\/s=qJ then wd s else sy s)::r) c;split;·rename_i hc;rw[iP hc] at key;exact key
 rename_i hc;rw[iN hc] at key;exact key
theorem anW{s:List UInt8}{r:List Pc}{d:Nat}(hs:FF s):fI d (vL s::r)=fI d r:=by
 obtain⟨_,h2⟩:=hs;have key:fI d (.tk (if s=qK\/s=qJ then 8 else 9) s::r)=fI d r:=by rw[fI,h2]
 unfold vL;show fI d ((if s=qK\/s=qJ then wd s else sy s)::r)=_;split;·rename_i hc;rw[iP hc] at key;exact key
 rename_i hc;rw[iN hc] at key;exact key
theorem anX(e:lE f){n:Nd}{l r:Nat}{s:List UInt8}{d:Nat}(g:SR.me (.two n l s r)<f+1):LX (.two n l s r) d (pp (f+1) (.two n l s r) d):=by
 intro a b ks hk ha hb hs;simp only[SR.me,hk,aq,aL] at g;obtain⟨⟨j,k⟩,m,_⟩:=e.at (a:=l) (d:=d) ha Om;obtain⟨⟨k1,o⟩,_,_⟩:=e.at (a:=r) (d:=d) hb Om;simp only[pp,hk,aG,aS,a6];refine⟨⟨λc hc=> ?_,λd=> ?_⟩,λc=> ?_⟩;·simp only[mw,cU];exact⟨j _ rfl,anV hs (show dA (pp f (.at b r) d) c from k1 c hc) rfl⟩
 ·rw[lD,k];exact(anW (r:= .sp::pp f (.at b r) _) hs).trans (o d)
 rw[qn];exact m _
theorem anY(g:lE f){l:List Nd}{d:Nat}(e:SR.me (.clauses l)<f+1):LX (.clauses l) d (pp (f+1) (.clauses l) d):=by
 intro ho;rcases l with _ | ⟨n,l⟩
 ·exact⟨⟨λ_ _=>trivial,λ_=>rfl⟩,λc hc=>hc⟩
 simp only[SR.me,aq,aL] at e;obtain⟨⟨k1,o⟩,q⟩:=g (.clauses l) d Mt (λm e=>ho m (by simp[e]));rcases ho n s0 with ⟨ln,a,b,rfl,ha,hp,hb⟩ | ⟨ln,a,rfl,ha⟩
 ·simp only[am,aq,aL] at e;obtain⟨⟨j,k⟩,_,_⟩:=g.at (a:=9) (d:=d) ha Om;obtain⟨⟨r,s⟩,_,_⟩:=g.at (a:=1) (d:=d) hb Om;simp only[pp,aE,am,Nat.reduceEqDiff,iF,aG,aS,a6];refine⟨⟨λc hc=> ?_,λd=> ?_⟩,λc hc=>rfl⟩;·simp only[dA,mw,qn,cU];exact⟨gw,tt,j _ rfl,gw,tt,r _ (q c hc),k1 c hc⟩
  simp only[fI,lD,k,o,s];rfl
 simp only[am,aq,aL] at e;obtain⟨⟨j,k⟩,_,_⟩:=g.at (a:=1) (d:=d) ha Om;simp only[pp,aE,am,Nat.reduceEqDiff,iT,aG,aS,a6];refine⟨⟨λc hc=> ?_,λd=> ?_⟩,λc hc=>rfl⟩;·simp only[dA,mw,qn,cU];exact⟨gw,tt,j _ (q c hc),k1 c hc⟩
 simp only[fI,lD,k,o];rfl
theorem ack{o:Nat}{r:List Pc}{c d:Nat}(h1:1<=o)(h2:o<=10)(h:dA r c)(e:cU r c=32):dA (vJ o++r) c/\fI d (vJ o++r)=fI d r:=by
 have a : ∀ {k x},vQ k x (cU r c):=by rw[e];exact tt
 obtain rfl | rfl | rfl | rfl | rfl | rfl | rfl | rfl | rfl | rfl:o=1\/o=2\/o=3\/o=4\/o=5\/o=6\/o=7\/o=8\/o=9\/o=10:=by omega
 all_goals first
  | exact⟨⟨gs,a,h⟩,rfl⟩
  | exact⟨⟨gw,a,h⟩,rfl⟩
  | exact⟨⟨gw,tt,gw,a,h⟩,rfl⟩
theorem anZ(g:lE f){l:List Nd}{d:Nat}(b:SR.me (.cW l)<f+1):LX (.cW l) d (pp (f+1) (.cW l) d):=by
 intro ho;rcases l with _ | ⟨n,l⟩
 ·exact⟨⟨λ_ _=>trivial,λ_=>rfl⟩,λc hc=>hc⟩
 simp only[SR.me,aq,aL] at b;obtain⟨⟨k1,q⟩,j⟩:=g (.cW l) d Mt (λm b=>ho m (by simp[b]));obtain⟨ln,o,a,rfl,o1,o2,ha⟩:=ho n s0;simp only[am,aq,aL] at b;obtain⟨⟨k,r⟩,_,_⟩:=g.at (a:=5) (d:=d) ha Om;simp only[pp,fy,am,aG,aS,a6];refine⟨⟨λc hc=> ?_,λe=> ?_⟩,λc hc=>rfl⟩;·refine(ack (d:=0) o1 o2 ?_ rfl).1;simp only[dA,mw];exact⟨k _ (j c hc),k1 c hc⟩
 refine((ack (c:=0) (d:=e) o1 o2 ?_ rfl).2).trans ?_;·simp only[dA,mw];exact⟨k _ (j 0 rfl),k1 0 rfl⟩
 simp only[fI,lD,r,q]
theorem an0(g:lE f){n:Nd}{d:Nat}(o:SR.me (.dC n)<f+1):LX (.dC n) d (pp (f+1) (.dC n) d):=by
 intro ho hk;cases qU ho with
 | call ha br=>
   rename_i l a ks;simp only[SR.me,am,aq,aL] at o;obtain⟨⟨q,j⟩,k,_⟩:=g.at (a:=9) (d:=d) ha Om;obtain⟨⟨k1,r⟩,_,_⟩:=g (.bc false ks) d Mt (λm o=>(br m o).y);simp only[pp,aE,am,Nat.reduceEqDiff,false_and,iF,iT,aG,aS,a6];have key : ∀c,dA (pp f (.at a 9) d++sy [40]::(pp f (.bc false ks) d++ [sy [41]])) c:=λc=>by
    simp only[dA,mw,cU];exact⟨q _ rfl,gs,fc,k1 _ rfl,gs,fc,trivial⟩
   refine⟨⟨λc _=>key c,λd=> ?_⟩,λc=>by rw[qn];exact k _,key 46⟩;simp only[fI,lD,j,r];rfl
 | attr hx ha=>
   rename_i l x a;simp only[SR.me,am,aq,aL] at o;have hn:=CQ hx;by_cases hc:a.kind=30\/a.kind=31
   ·simp only[pp,aE,am,dz,true_and,hc,Nat.reduceEqDiff,iF,iT,aG,aS,a6];have ht:iX (if a.kind=30 then 5 else 6) a.text:=by
     cases qU ha with
     | int h1=>exact h1
     | CC h1=>exact h1
     | ql hx=>simp only[aE] at hc;omega
     | _=>simp[Nd.kind] at hc
    have t:(if a.kind=30 then 5 else 6)=5\/(if a.kind=30 then 5 else 6)=6:=by split<;>simp
    generalize (if a.kind=30 then 5 else 6)=kk at ht t;have key : ∀c,vQ 4 x c->dA (sy [40]:: .tk kk a.text::sy [41]::sy [46]:: [.tk 4 x]) c:=λc h=>⟨gs,fc,CQ ht,CR Om rfl,gs,fc,gs,fc,hn,h,trivial⟩;refine⟨⟨λc hc=>key c (CR de hc),λd=> ?_⟩,λc=>CS (x:= [40]) s0,key 46 (To s0)⟩;simp only[fI,AN (show kk≠9 by omega),AN (show 4≠9 by decide)];rfl
   obtain⟨⟨q,j⟩,k,u⟩:=g.at (a:=9) (d:=d) ha Om;simp only[pp,aE,am,dz,true_and,hc,Nat.reduceEqDiff,iF,iT,aG,aS,a6];have key : ∀c,vQ 4 x c->dA (pp f (.at a 9) d++ [sy [46], .tk 4 x]) c:=λc h=>by
    simp only[dA,mw,cU];exact⟨u (λe=>hc (.inl e)) (λe=>hc (.inr e)) (ag 9),gs,fc,hn,h,trivial⟩
   refine⟨⟨λc hc=>key c (CR de hc),λd=> ?_⟩,λc=>by rw[qn];exact k _,key 46 (To s0)⟩;simp only[fI,lD,j,AN (show 4≠9 by decide)];rfl
 | idx ha hb=>
   rename_i l a b;simp only[SR.me,am,aq,aL] at o;obtain⟨⟨q,j⟩,k,_⟩:=g.at (a:=9) (d:=d) ha Om;obtain⟨⟨k1,r⟩,_,_⟩:=g.at (a:=0) (d:=d) hb Om;simp only[pp,aE,am,Nat.reduceEqDiff,false_and,iF,iT,aG,aS,a6];have key : ∀c,dA (pp f (.at a 9) d++sy [91]::(pp f (.at b 0) d++ [sy [93]])) c:=λc=>by
    simp only[dA,mw,cU];exact⟨q _ rfl,gs,fc,k1 _ rfl,gs,fc,trivial⟩
   refine⟨⟨λc _=>key c,λd=> ?_⟩,λc=>by rw[qn];exact k _,key 46⟩;simp only[fI,lD,j,r];rfl
 | pI ha hb hc=>
   rename_i l a b c;have s : ∀ {n},CA n->ue n:=λh=>h.imp_right λh=> .inl h;simp only[SR.me,am,aq,aL] at o;obtain⟨⟨q,j⟩,k,_⟩:=g.at (a:=9) (d:=d) ha Om;obtain⟨⟨k1,r⟩,_,_⟩:=g (.at b 0) d Mt (s hb);obtain⟨⟨v,w⟩,_,_⟩:=g (.at c 0) d Mt (s hc);simp only[pp,aE,am,Nat.reduceEqDiff,false_and,iF,iT,aG,aS,a6];have key : ∀e,dA (pp f (.at a 9) d++sy [91]::(pp f (.at b 0) d++sy [58]::(pp f (.at c 0) d++ [sy [93]]))) e:=λe=>by
    simp only[dA,mw,cU];exact⟨q _ rfl,gs,fc,k1 _ rfl,gs,fc,v _ rfl,gs,fc,trivial⟩
   refine⟨⟨λc _=>key c,λd=> ?_⟩,λc=>by rw[qn];exact k _,key 46⟩;simp only[fI,lD,j,r,w];rfl
 | ql h=>simp only[aE] at hk;omega
 | _=>simp[Nd.kind] at hk
end
section
variable {f:Nat}
theorem zl{o c:List UInt8}{b:List Pc}(hb:EL b)(ho:o= [40]/\c= [41]\/o= [91]/\c= [93]\/o= [123]/\c= [125]):EL (sy o::(b++ [sy c]))/\(∀e,kB (cU (sy o::(b++ [sy c])) e))/\dA (sy o::(b++ [sy c])) 46:=by
 obtain⟨h1,h2⟩:=hb;have key : ∀e,dA (sy o::(b++ [sy c])) e:=λe=>by
  simp only[dA,mw,cU];rcases ho with ⟨rfl,rfl⟩ | ⟨rfl,rfl⟩ | ⟨rfl,rfl⟩<;>exact⟨gs,fc,h1 _ rfl,gs,fc,trivial⟩
 refine⟨⟨λe _=>key e,λd=> ?_⟩,λe=> ?_,key 46⟩
 ·simp only[fI,lD,h2];rcases ho with ⟨rfl,rfl⟩ | ⟨rfl,rfl⟩ | ⟨rfl,rfl⟩<;>rfl
 rcases ho with ⟨rfl,rfl⟩ | ⟨rfl,rfl⟩ | ⟨rfl,rfl⟩
 ·exact CS (x:= [40]) s0
 ·exact CS (x:= [91]) s0
 exact CS (x:= [123]) s0
theorem FG{a b:List Pc}(ha:EL a)(hb:EL b)(hn : ∀c,mS c=true->mS (cU b c)=true):EL (a++b):=
 ⟨λc hc=>mw.2 ⟨ha.1 _ (hn c hc),hb.1 c hc⟩,λd=>by rw[lD,ha.2,hb.2]⟩
theorem an1(j:lE f){n:Nd}{d:Nat}(g:SR.me (.shown n)<f+1):LX (.shown n) d (pp (f+1) (.shown n) d):=by
 intro ho hk;have row : ∀ {ks:List Nd},pw ks->16*aq ks<f->EL (pp f (.bc false ks) d):=λh g=>(j (.bc false _) d Mt (λm g=>(h m g).y)).1;have cls : ∀ {ks:List Nd},(∀n∈ks,qk n)->16*aq ks<f->EL (pp f (.clauses ks) d)/\∀c,mS c=true->mS (cU (pp f (.clauses ks) d) c)=true:=λh g=>j (.clauses _) d Mt h;cases qU ho with
 | vc br=>
   simp only[SR.me,am,aq,aL] at g;simp only[pp,aE,am,Nat.reduceEqDiff,true_or,or_true,false_or,or_false,or_self,iF,iT,aG,aS,a6];exact zl (row br Om) s0
 | eF br=>
   rename_i l ks;simp only[SR.me,am] at g;by_cases h1:ks.length=1
   ·simp only[pp,aE,am,Nat.reduceEqDiff,true_or,or_true,false_or,or_false,or_self,h1,iF,iT,aG,aS,a6];have q:=row br Om;have e:sy [40]::(pp f (.bc false ks) d++ [sy [44],sy [41]])=sy [40]::((pp f (.bc false ks) d++ [sy [44]])++ [sy [41]]):=by simp
    rw[e];exact zl (FG q (b:= [sy [44]]) ⟨λc _=>⟨gs,fc,trivial⟩,λd=>rfl⟩ λc _=>rfl) s0
   simp only[pp,aE,am,Nat.reduceEqDiff,true_or,or_true,false_or,or_false,or_self,h1,iF,iT,aG,aS,a6];exact zl (row br Om) s0
 | set ha br=>
   rename_i l a ks;simp only[SR.me,am] at g;simp only[pp,aE,am,Nat.reduceEqDiff,true_or,or_true,false_or,or_false,or_self,iF,iT,aG,aS,a6];exact zl (row (ks:=a::ks) (λn hn=>by
    rcases List.mem_cons.1 hn with rfl | hn
    ·exact ha
    exact br n hn) Om) s0
 | CD br he=>
   rename_i l ks;simp only[SR.me,am] at g;simp only[pp,aE,am,Nat.reduceEqDiff,true_or,or_true,false_or,or_false,or_self,iF,iT,aG,aS,a6];exact zl (j (.bO false ks) d Mt br).1 s0
 | CE ha av br=>
   rename_i l a ks;simp only[SR.me,am,aq,aL] at g;simp only[pp,aE,am,Nat.reduceEqDiff,true_or,or_true,false_or,or_false,or_self,iF,iT,aG,aS,a6];obtain⟨k,o⟩:=cls br Om;rw[<-aG (pp f (.at a 0) d)];exact zl (FG (j.at (a:=0) (d:=d) ha Om).1 k o) s0
 | CF ha av br=>
   rename_i l a ks;simp only[SR.me,am,aq,aL] at g;simp only[pp,aE,am,Nat.reduceEqDiff,true_or,or_true,false_or,or_false,or_self,iF,iT,aG,aS,a6];obtain⟨k,o⟩:=cls br Om;rw[<-aG (pp f (.at a 0) d)];exact zl (FG (j.at (a:=0) (d:=d) ha Om).1 k o) s0
 | CG ha hb av br=>
   rename_i l a b ks;simp only[SR.me,am,aq,aL] at g;simp only[pp,aE,am,Nat.reduceEqDiff,true_or,or_true,false_or,or_false,or_self,iF,iT,aG,aS,a6];obtain⟨k,o⟩:=cls br Om;rw[<-aG (pp f (.bO false [a,b]) d)];exact zl (FG (j (.bO false [a,b]) d (by simp only[SR.me,aq,aL];omega) (λn hn=>by
    rcases List.mem_cons.1 hn with rfl | hn
    ·exact ha
    rw[List.mem_singleton.1 hn];exact hb)).1 k o) s0
 | ql h=>simp only[aE] at hk;omega
 | _=>simp[Nd.kind] at hk
theorem FH{n:Nd}(h:CB n):bC n:=by
 obtain⟨l,x,rfl,hx⟩:=h;exact⟨⟨.inr (.inr (.inr (.inl ⟨rfl,hx,rfl,rfl⟩))),trivial⟩,by show 30<=36;omega,by show 36<=57;omega,by show 36≠43;omega,by show 36≠48;omega⟩
theorem acl{o:Nat}(h1:1<=o)(h2:o<=7):FF (jT mR o)/\FF (jT mR o++ [61]):=by
 obtain rfl | rfl | rfl | rfl | rfl | rfl | rfl:o=1\/o=2\/o=3\/o=4\/o=5\/o=6\/o=7:=by omega
 all_goals exact⟨⟨CN de,λd=>rfl⟩,⟨CN de,λd=>rfl⟩⟩
theorem an2(g:lE f){n:Nd}{d:Nat}(m:SR.me (.dK n)<f+1):LX (.dK n) d (pp (f+1) (.dK n) d):=by
 intro ho hk;have two : ∀ {l r:Nat} {s:List UInt8} {a b:Nd} {ks:List Nd},n.kids=a::b::ks->bC a->bC b->FF s->EL (pp f (.two n l s r) d)/\∀c,kB (cU (pp f (.two n l s r) d) c):=λhk ha hb hs=>g (.two n _ _ _) d (by simp only[SR.me] at m⊢;omega) _ _ _ hk ha hb hs;cases qU ho with
 | bin o1 o2 ha hb=>
   rename_i l o a b;by_cases v:o=7
   ·subst v;simp only[pp,aE,fy,Nat.reduceEqDiff,iF,iT];exact two rfl ha hb ⟨CN de,λd=>rfl⟩
   simp only[pp,aE,fy,Nat.reduceEqDiff,v,iF,iT];exact two rfl ha hb (acl o1 o2).1
 | un z ha=>
   rename_i l o a;simp only[SR.me,am,aq,aL] at m;obtain⟨⟨j,k⟩,t,_⟩:=g.at (a:=7) (d:=d) ha Om;have key : ∀s:List UInt8,s= [45]\/s= [43]->EL (sy s::pp f (.at a 7) d)/\∀c,kB (cU (sy s::pp f (.at a 7) d) c):=by
    intro s hs;refine⟨⟨λc hc=>⟨?_,anL (t c),j c hc⟩,λe=> ?_⟩,λc=> ?_⟩;·rcases hs with rfl | rfl<;>exact gs
    ·have:jd e 9 s=e:=by rcases hs with rfl | rfl<;>rfl
     simp only[fI,this,k]
    rcases hs with rfl | rfl
    ·exact CS (x:= [45]) s0
    exact CS (x:= [43]) s0
   rcases z with rfl | rfl
   ·exact key [45] s0
   exact key [43] s0
 | and ha hb=>
   simp only[pp,aE,fy,Nat.reduceEqDiff,iF,iT];exact two rfl ha hb ⟨AM de,λd=>rfl⟩
 | or ha hb=>
   simp only[pp,aE,fy,Nat.reduceEqDiff,iF,iT];exact two rfl ha hb ⟨AM de,λd=>rfl⟩
 | not ha=>
   rename_i l a;simp only[SR.me,am,aq,aL] at m;obtain⟨⟨j,k⟩,t,_⟩:=g.at (a:=3) (d:=d) ha Om;simp only[pp,aE,am,fy,Nat.reduceEqDiff,iF,iT,aS,a6];refine⟨⟨λc hc=>⟨gw,tt,j c hc⟩,λe=> ?_⟩,λc=>xk (x:=lS) de⟩;simp only[fI,k];rfl
 | cmp ha hn br=>
   rename_i l a ks;simp only[SR.me,am,aq,aL] at m;obtain⟨j,t,_⟩:=g.at (a:=5) (d:=d) ha Om;obtain⟨k1,q⟩:=g (.cW ks) d Mt br;simp only[pp,aE,am,fy,Nat.reduceEqDiff,iF,iT];exact⟨FG j k1 q,λc=>by rw[qn];exact t _⟩
 | cond ha hb hc=>
   rename_i l a b c;simp only[SR.me,am,aq,aL] at m;obtain⟨⟨j,k⟩,_,_⟩:=g.at (a:=1) (d:=d) ha Om;obtain⟨⟨k1,q⟩,w,_⟩:=g.at (a:=1) (d:=d) hb Om;obtain⟨⟨A,B⟩,_,_⟩:=g.at (a:=0) (d:=d) hc Om;simp only[pp,aE,am,fy,Nat.reduceEqDiff,iF,iT,aG,aS,a6];refine⟨⟨λc hc=> ?_,λe=> ?_⟩,λc=>by rw[qn];exact w _⟩;·simp only[dA,mw,cU];exact⟨k1 _ rfl,gw,tt,j _ rfl,gw,tt,A c hc⟩
   simp only[fI,lD,k,q,B];rfl
 | lam hp he=>
   rename_i l l' ps e;simp only[SR.me,am,aq,aL] at m;obtain⟨⟨j,k⟩,_,_⟩:=g.at (a:=0) (d:=d) he Om;obtain⟨⟨k1,q⟩,_,w⟩:=g (.bc false ps) d Mt (λn hn=>(FH (hp n hn)).y);rcases ps with _ | ⟨p,ps⟩
   ·have u : ¬ 0<([]:List Nd).length:=by simp
    simp only[pp,aE,am,fy,Nat.reduceEqDiff,u,iF,iT,aG,aS,a6];cases f with
    | zero=>omega
    | succ f=>
      refine⟨⟨λc hc=>⟨gw,CR de rfl,gs,fc,j c hc⟩,λe=> ?_⟩,λc=>xk (x:=qI) de⟩;exact(k e)
   have u:0<(p::ps).length:=by simp
   simp only[pp,aE,am,fy,Nat.reduceEqDiff,u,iF,iT,aG,aS,a6];refine⟨⟨λc hc=> ?_,λe=> ?_⟩,λc=>xk (x:=qI) de⟩;·simp only[dA,mw,cU];exact⟨gw,tt,k1 _ rfl,gs,fc,j c hc⟩
   simp only[fI,lD,k,q];rfl
 | ql h=>simp only[aE] at hk;omega
 | _=>simp[Nd.kind] at hk
end
section
variable {f:Nat}
def XL (ps:List Pc):Prop:=EL ps/\∀c,kB (cU ps c)
theorem acm{ps:List Pc}(h:XL ps):Je ps:=⟨h.1.1 0 rfl,h.1.2 0,h.2 0⟩
theorem NA{a b:List Pc}(ha:XL a)(hb:EL b)(hn : ∀c,mS c=true->mS (cU b c)=true):XL (a++b):=
 ⟨FG ha.1 hb hn,λc=>by rw[qn];exact ha.2 _⟩
theorem acn{r:List Pc}(h:EL r):EL (.sp::r):=⟨λc hc=>h.1 c hc,λd=>h.2 d⟩
theorem qo{x:List UInt8}{r:List Pc}(hx:x∈jY)(h:EL r):XL (wd x:: .sp::r):=
 ⟨⟨λc hc=>⟨gw hx,tt,h.1 c hc⟩,λd=>by simp only[fI,AN (show 8≠9 by decide),h.2]⟩,λc=>xk hx⟩
theorem CT{x:List UInt8}(hx:x∈jY):XL [wd x]:=
 ⟨⟨λc hc=>⟨gw hx,CR de hc,trivial⟩,λd=>by simp only[fI,AN (show 8≠9 by decide)]⟩,λc=>xk hx⟩
theorem NB{x:List UInt8}{r:List Pc}(hx:iX 4 x)(h:EL r)(hn : ∀c,mS c=true->mS (cU r c)=true):EL (.tk 4 x::r):=
 ⟨λc hc=>⟨CQ hx,CR de (hn c hc),h.1 c hc⟩,λd=>by simp only[fI,AN (show 4≠9 by decide),h.2]⟩
theorem aco:EL []:=⟨λ_ _=>trivial,λ_=>rfl⟩
theorem acp{x:List UInt8}(hx:iX 4 x):EL [.sp,wd [97,115], .sp, .tk 4 x]:=acn (qo de (NB hx aco λ_ h=>h)).1
theorem qW{d:Nat}{X B:List Pc}(a:XL X)(g : ∃b,B= .tk 9 [58]:: .nl:: .kV::(b++ [.out])/\kC (d+1) b):kC d (dW d++(X++B)):=by
 obtain⟨b,rfl,hb⟩:=g;have h:=kC.head (d:=d) (ps:=X++ [sy [58]]) (acm (NA a (b:= [sy [58]]) ⟨λc _=>⟨gs,fc,trivial⟩,λd=>rfl⟩ λc _=>rfl)) hb;have e:dW d++(X++(Pc.tk 9 [58]:: .nl:: .kV::(b++ [.out])))=dW d++(X++ [sy [58]]++([.nl, .kV]++(b++ [.out]))):=by simp
 rw[e];exact h
theorem an3(a:lE f){n:Nd}{d:Nat}(b:SR.me (.block n)<f+1):LX (.block n) d (pp (f+1) (.block n) d):=by
 rintro⟨l,ks,rfl,av,br⟩;refine⟨pp f (.a9 ks) (d+1),?_,a (.a9 ks) (d+1) (by simp only[SR.me,am] at b⊢;omega) av br⟩;simp only[pp,am,aG,aS,a6]
theorem an4(a:lE f){l:List Nd}{d:Nat}(b:SR.me (.a9 l)<f+1):LX (.a9 l) d (pp (f+1) (.a9 l) d):=by
 intro av ho;rcases l with _ | ⟨n,l⟩
 ·exact absurd rfl av
 simp only[SR.me,aq,aL] at b;have h1:=a (.stmt n) d Mt (ho n s0);simp only[pp];rcases l with _ | ⟨m,l⟩
 ·have e:pp f (.a9 []) d= []:=by cases f<;>rfl
  rw[e,cn];exact h1
 exact .app h1 (a (.a9 (m::l)) d (by simp only[SR.me,aq,aL] at b⊢;omega) s0 λn hn=>ho n (by simp only[jw] at hn⊢;exact .inr hn))
theorem an5(c:lE f){n:Nd}{d:Nat}(e:SR.me (.simple n)<f+1):LX (.simple n) d (pp (f+1) (.simple n) d):=by
 intro hk ho;have r : ∀ {v},AF v->ue v:=λh=>h.imp_right λh=> .inr h;have j : ∀ {v},AF v->v.kind≠48:=by
  rintro v (h | ⟨l,rfl⟩ | ⟨l,a,rfl,ha⟩);·exact h.Fe
  ·show 60≠48;decide
  show 60≠48;decide
 cases ud ho with
 | exp hv=>
   rename_i l v;simp only[SR.me,am] at e;simp only[pp,aE,am,Nat.reduceEqDiff,iF,iT];obtain⟨m,_,q⟩:=c (.bc false [v]) d Mt (λn hn=>by rw[List.mem_singleton.1 hn];exact r hv);exact⟨m,q rfl s0 λn hn=>by rw[List.mem_singleton.1 hn];exact j hv⟩
 | bF hn br hv=>
   rename_i l ks v;simp only[SR.me,am] at e;simp only[pp,aE,am,Nat.reduceEqDiff,iF,iT];obtain⟨m,_,q⟩:=c (.bF false (ks++ [v])) d Mt (λn hn=>by
    rcases List.mem_append.1 hn with hn | hn
    ·exact(br n hn).1.y
    rw[List.mem_singleton.1 hn];exact r hv)
   exact⟨m,q rfl s0 λn hn=>by
    rcases List.mem_append.1 hn with hn | hn
    ·exact(br n hn).1.Fe
    rw[List.mem_singleton.1 hn];exact j hv⟩
 | Nk o1 o2 ha hs hb=>
   rename_i l o a b;simp only[pp,aE,fy,Nat.reduceEqDiff,iF,iT];exact c (.two (.mk 4 l [] o [a,b]) 0 (jT mR o++ [61]) 0) d (by simp only[SR.me] at e⊢;omega) a b [] rfl ha hb (acl o1 o2).2
 | ti g=>
   rename_i k l;rcases g with rfl | rfl
   ·exact c (.maybe oC (.mk 10 l [] 0 [])) d (by simp only[SR.me] at e⊢;omega) de (.inl rfl)
   exact c (.maybe p9 (.mk 14 l [] 0 [])) d (by simp only[SR.me] at e⊢;omega) de (.inl rfl)
 | tj g ha=>
   rename_i k l a;rcases g with rfl | rfl
   ·exact c (.maybe oC (.mk 10 l [] 0 [a])) d (by simp only[SR.me] at e⊢;omega) de (.inr ⟨a,rfl,ha⟩)
   exact c (.maybe p9 (.mk 14 l [] 0 [a])) d (by simp only[SR.me] at e⊢;omega) de (.inr ⟨a,rfl,ha⟩)
 | Nm ha=>
   rename_i l a;exact c (.maybe Am (.mk 20 l [] 0 [a])) d (by simp only[SR.me] at e⊢;omega) de (.inr ⟨a,rfl,ha⟩)
 | tm g=>
   rename_i k l;rcases g with rfl | rfl | rfl
   ·exact CT (x:=p8) de
   ·exact CT (x:=qO) de
   exact CT (x:=rT) de
 | tn g hn br=>
   rename_i k l ks;have h1:EL (pp f (.bc false ks) d):=(c (.bc false ks) d (by simp only[SR.me,am] at e⊢;omega) λn hn=>(FH (br n hn)).y).1;rcases g with rfl | rfl
   ·exact qo (x:=yV) de h1
   exact qo (x:=Al) de h1
 | del ha hs=>
   rename_i l a;exact qo (x:=Ml) de (c.at (a:=9) (d:=d) ha (by simp only[SR.me,am,aq,aL] at e⊢;omega)).1
 | _=>exact absurd (by simp[Nd.kind]) hk
theorem an6(a:lE f){n:Nd}{d:Nat}(b:SR.me (.stmt n)<f+1):LX (.stmt n) d (pp (f+1) (.stmt n) d):=by
 intro ho;by_cases h5:n.kind=5
 ·simp only[pp,h5,iT];exact a (.ifs [105,102,32] n) d (by simp only[SR.me] at b⊢;omega) ho h5
 by_cases c:n.kind=15
 ·simp only[pp,c,Nat.reduceEqDiff,iT,iF];exact a (.tries n) d (by simp only[SR.me] at b⊢;omega) c ho
 by_cases hh:n.kind=6\/n.kind=7\/n.kind=8\/n.kind=9\/n.kind=16
 ·simp only[pp,iN h5,iN c,iP hh];exact a (.head n) d (by simp only[SR.me] at b⊢;omega) hh ho
 simp only[pp,iN h5,iN c,iN hh,aG];exact .line (acm (a (.simple n) d (by simp only[SR.me] at b⊢;omega) Om ho))
theorem an7(c:lE f){n:Nd}{s:List UInt8}{d:Nat}(g:SR.me (.ifs s n)<f+1):LX (.ifs s n) d (pp (f+1) (.ifs s n) d):=by
 intro ho hk;have hw:(if s= [105,102,32] then [105,102] else [101,108,105,102]:List UInt8)∈jY:=by split<;>decide
 cases ud ho with
 | Nn ha hb=>
   rename_i l a b;simp only[SR.me,am,aq,aL] at g;have h1:=(c.at (a:=0) (d:=d) ha Om).1;have h2:=c (.block b) d Mt hb;simp only[pp,am,aG,aS,a6,cn];exact qW (qo hw h1) h2
 | Np ha hb he=>
   rename_i l a b e;obtain⟨le,es,rfl,av,j⟩:=he;simp only[SR.me,am,aq,aL] at g;have h1:=(c.at (a:=0) (d:=d) ha Om).1;have h2:=c (.block b) d Mt hb;have h3:=qW (d:=d) (qo hw h1) h2;have h4:kC d (dW d++([wd wV]++pp f (.block (.mk 1 le [] 0 es)) d)):=qW (CT de) (c (.block (.mk 1 le [] 0 es)) d (by simp only[SR.me,am];omega) ⟨le,es,rfl,av,j⟩);have step : ∀X:List Pc,kC d X->kC d (dW d++ [wd (if s= [105,102,32] then [105,102] else [101,108,105,102]), .sp]++pp f (.at a 0) d++pp f (.block b) d++X):=by
    intro X k;have:=kC.app h3 k;simp only[aG,aS,a6] at this⊢;exact this
   match es,av,j,g,h4 with
   | [x],_,j,g,h4=>
     simp only[pp,am];by_cases hx:x.kind=5
     ·simp only[hx,iT];exact step _ (c (.ifs [101,108,105,102,32] x) d (by simp only[SR.me,aq,aL] at g⊢;omega) (j x s0) hx)
     simp only[hx,iF];refine step _ ?_;simp only[aG];exact h4
   | x::y::es,_,j,g,h4=>
     simp only[pp,am];refine step _ ?_;simp only[aG];exact h4
 | ti h | tj h _ | tm h | tn h _ _=>simp only[aE] at hk;omega
 | _=>simp[Nd.kind] at hk
theorem an8(g:lE f){l:List Nd}{d:Nat}(q:SR.me (.cR l)<f+1):LX (.cR l) d (pp (f+1) (.cR l) d):=by
 intro hl;rcases l with _ | ⟨c,l⟩
 ·exact⟨λ_=>rfl,λh=>absurd rfl h⟩
 refine⟨λh=>(by cases h),λ_=> ?_⟩;have j:=q;simp only[SR.me,aq,aL] at j;obtain⟨r,s⟩:=g (.cR l) d Mt λn hn=>hl n (by simp[hn]);have step : ∀X:List Pc,kC d X->kC d (X++pp f (.cR l) d):=by
  intro X m;by_cases h:l= []
  ·rw[r h,cn];exact m
  exact .app m (s h)
 rcases hl c s0 with (⟨ln,b,rfl,hb⟩ | ⟨ln,x,e,b,rfl,hx,he,hb⟩) | ⟨ln,b,rfl,hb⟩
 ·simp only[am,aq,aL] at j;have h2:=g (.block b) d Mt hb;have h3:=step _ (qW (d:=d) (CT (x:=rU) de) h2);simp only[pp,aE,am,dz,Nat.reduceEqDiff,iT,iF,gT,aG,aS,a6,cn] at h3⊢;exact h3
 ·simp only[am,aq,aL] at j;have o : [e,b].getLast? = some b:=rfl;have h1:=(g.at (a:=0) (d:=d) he Om).1;have h2:=g (.block b) d Mt hb;by_cases k:x= []
  ·subst k;have h3:=step _ (qW (d:=d) (qo (x:=rU) de h1) h2);simp only[pp,aE,am,dz,Nat.reduceEqDiff,iT,iF,o,aG,aS,a6,cn] at h3⊢;exact h3
  have h3:=step _ (qW (d:=d) (NA (qo (x:=rU) de h1) (acp (hx.resolve_left k)) λc _=>rfl) h2);simp only[pp,aE,am,dz,Nat.reduceEqDiff,k,iT,iF,o,aG,aS,a6,cn] at h3⊢;exact h3
 simp only[am,aq,aL] at j;have h2:=g (.block b) d Mt hb;have h3:=step _ (qW (d:=d) (CT (x:=Ca) de) h2);simp only[pp,aE,am,dz,Nat.reduceEqDiff,iT,iF,gT,aG,aS,a6,cn] at h3⊢;exact h3
theorem an9(a:lE f){n:Nd}{d:Nat}(hm:SR.me (.tries n)<f+1):LX (.tries n) d (pp (f+1) (.tries n) d):=by
 intro hk ho;cases ud ho with
 | tr hb hh hd ht hn=>
   rename_i l b h' t;simp only[SR.me,am,aq,aL] at hm;have c : ∀n∈h'++t,vO n\/okF n:=λn hm=>by
    rcases List.mem_append.1 hm with hm | hm
    ·exact .inl (hh n hm)
    rcases ht with rfl | ⟨y,rfl,e⟩
    ·cases hm
    rw[List.mem_singleton.1 hm];exact .inr e
   have h2:=a (.block b) d Mt hb;have h3:=(a (.cR (h'++t)) d Mt c).2 hn;have h4:=kC.app (qW (d:=d) (CT (x:=Cb) de) h2) h3;simp only[pp,am,aG,aS,a6,cn] at h4⊢;exact h4
 | ti h | tj h _ | tm h | tn h _ _=>simp only[aE] at hk;omega
 | _=>simp[Nd.kind] at hk
theorem acq{ks:List Nd}{d:Nat}(a:lE f)(h : ∀n∈ks,bC n)(b:16*aq ks<f):EL (sy [40]::(pp f (.bc false ks) d++ [sy [41]])):=
 (zl (a (.bc false ks) d Mt λn hn=>(h n hn).y).1 s0).1
theorem an'(g:lE f){n:Nd}{d:Nat}(j:SR.me (.head n)<f+1):LX (.head n) d (pp (f+1) (.head n) d):=by
 intro hk ho;cases ud ho with
 | Nq ha hb=>
   rename_i l a b;simp only[SR.me,am,aq,aL] at j;have h3:=qW (d:=d) (qo (x:=tQ) de (g.at (a:=0) (d:=d) ha Om).1) (g (.block b) d Mt hb);simp only[pp,aE,am,dz,Nat.reduceEqDiff,iT,iF,aG,aS,a6,cn] at h3⊢;exact h3
 | fr ha hp hb hc=>
   rename_i l a b c;simp only[SR.me,am,aq,aL] at j;have h3:=qW (d:=d) (NA (qo (x:=jQ) de (g.at (a:=9) (d:=d) ha Om).1) (acn (qo (x:=tP) de (g.at (a:=0) (d:=d) hb Om).1).1) λc _=>rfl) (g (.block c) d Mt hc);simp only[pp,aE,am,dz,Nat.reduceEqDiff,iT,iF,aG,aS,a6,cn] at h3⊢;exact h3
 | df hx hp hb=>
   rename_i l x l' ps b;simp only[SR.me,am,aq,aL] at j;have h3:=qW (d:=d) (qo (x:=wX) de (NB hx (acq (d:=d) g (λn hn=>FH (hp n hn)) Om) λc _=>rfl)) (g (.block b) d Mt hb);simp only[pp,aE,am,dz,Nat.reduceEqDiff,iT,iF,aG,aS,a6,cn] at h3⊢;exact h3
 | cls hx hp hb=>
   rename_i l x l' ps b;simp only[SR.me,am,aq,aL] at j;by_cases hl:0<ps.length
   ·have h3:=qW (d:=d) (qo (x:=wY) de (NB hx (acq (d:=d) g hp Om) λc _=>rfl)) (g (.block b) d Mt hb);simp only[pp,aE,am,dz,Nat.reduceEqDiff,hl,iT,iF,aG,aS,a6,cn] at h3⊢;exact h3
   have h3:=qW (d:=d) (qo (x:=wY) de (NB hx aco λc h=>h)) (g (.block b) d Mt hb);simp only[pp,aE,am,dz,Nat.reduceEqDiff,hl,iT,iF,aG,aS,a6,cn] at h3⊢;exact h3
 | Nr hx he hb=>
   rename_i l x e b;simp only[SR.me,am,aq,aL] at j;have h1:=(g.at (a:=0) (d:=d) he Om).1;have h2:=g (.block b) d Mt hb;by_cases k:x= []
   ·subst k;have h3:=qW (d:=d) (qo (x:=Cc) de h1) h2;simp only[pp,aE,am,dz,Nat.reduceEqDiff,iT,iF,aG,aS,a6,cn] at h3⊢;exact h3
   have h3:=qW (d:=d) (NA (qo (x:=Cc) de h1) (acp (hx.resolve_left k)) λc _=>rfl) h2;simp only[pp,aE,am,dz,Nat.reduceEqDiff,k,iT,iF,aG,aS,a6,cn] at h3⊢;exact h3
 | ti h | tj h _ | tm h | tn h _ _=>simp only[aE] at hk;omega
 | _=>simp[Nd.kind] at hk
theorem acr : ∀f,lE f
 | 0=>λr d c=>absurd c (su _)
 | f+1=>λr d c=>by
   have e:=acr f;cases r;case «at» n a=>exact anO e c
   case expr n=>exact anQ e c
   case bc b l=>exact anS e c
   case two n l s r=>exact anX e c
   case clauses l=>exact anY e c
   case bO b l=>exact anU e c
   case shown n=>exact an1 e c
   case dC n=>exact an0 e c
   case dK n=>exact an2 e c
   case cW l=>exact anZ e c
   case maybe s n=>exact anP e c
   case block n=>exact an3 e c
   case a9 l=>exact an4 e c
   case ifs s n=>exact an7 e c
   case tries n=>exact an9 e c
   case cR l=>exact an8 e c
   case stmt n=>exact an6 e c
   case head n=>exact an' e c
   case bF b l=>exact anT e c
   case simple n=>exact an5 e c
end
def ow:Nat->Nat->Nat
 | 30,n=>5+n | 31,n=>5+n | 36,n=>5+n | 32,n=>7+4*n
 | 33,_=>10 | 34,_=>10 | 35,_=>10 | 37,_=>9 | 38,_=>6 | 39,_=>10 | 40,_=>9 | 41,_=>9 | 42,_=>5 | 43,_=>8
 | 44,_=>7 | 45,n=>6+n | 46,_=>7 | 47,_=>8 | 48,_=>5 | 49,_=>15 | 50,_=>14
 | 51,_=>8 | 52,_=>8 | 53,_=>8 | 54,_=>8 | 55,_=>8 | 56,_=>8 | 57,_=>8 | 58,_=>9 | 59,_=>4 | 60,_=>11
 | 4,_=>5 | 10,_=>7 | 14,_=>6 | 20,_=>7 | 11,_=>4 | 12,_=>5 | 13,_=>8 | 17,_=>7 | 18,_=>9 | 19,_=>4
 | 5,_=>5 | 6,_=>6 | 7,_=>8 | 8,n=>6+n | 9,n=>8+n | 15,_=>3 | 16,n=>9+n | 21,n=>11+n | 22,_=>7
 | _,_=>0
def sd (k d:Nat):Nat:=if k=2\/k=3\/k=4\/k=10\/k=11\/k=12\/k=13\/k=14\/k=17\/k=18\/k=19\/k=20 then 4*d+1 else 0
def FI:List Nd->Bool
 | [n]=>decide (n.kind=5)
 | _=>false
mutual
def uN (d:Nat)(e:Bool):Nd->Nat
 | .mk k _ x _ ks=>ow k x.length+sd k d+(if k=1 then (if (e&&FI ks)=true then 0 else 4*d+2+(if e=true then 4 else 0)) else 0)+uL (if k=1/\(e&&FI ks)=false then d+1 else d) (decide (k=5)) 0 ks
def uL (d:Nat)(b:Bool)(i:Nat):List Nd->Nat
 | []=>0
 | n::ks=>uN d (b&&decide (i=2)) n+uL d b (i+1) ks
end
def uS (d:Nat):List Nd->Nat
 | []=>0
 | n::ks=>uN d false n+uS d ks
theorem FJ{d:Nat} : ∀ {i:Nat} {ks:List Nd},uL d false i ks=uS d ks
 | _,[]=>rfl
 | i,n::ks=>by simp only[uL,uS,NW,FJ]
theorem AO{d:Nat} : ∀ {a b:List Nd},uS d (a++b)=uS d a+uS d b
 | [],b=>(iZ _).symm
 | n::a,b=>by simp only[aS,uS,AO,jW]
mutual
theorem acs{d:Nat}{e:Bool} : ∀n:Nd,uN d e n<=uN (d+1) e n
 | .mk k l x o ks=>by
   simp only[uN];have h1:sd k d<=sd k (d+1):=by unfold sd;split<;>omega
   have h2:=Tr (d:=d) (b:=decide (k=5)) (i:=0) ks;have h3:=Tr (d:=d+1) (b:=decide (k=5)) (i:=0) ks;by_cases hk:k=1
   ·subst hk;cases hb:(e&&FI ks);·simp only[iT,aM,iF,and_self];omega
    simp only[iT,Bool.true_eq_false,and_false,iF];omega
   simp only[hk,iF,false_and];omega
theorem Tr{d:Nat}{b:Bool}{i:Nat} : ∀ks:List Nd,uL d b i ks<=uL (d+1) b i ks
 | []=>ag _
 | n::ks=>by
   simp only[uL];have h1:=acs (d:=d) (e:=b&&decide (i=2)) n;have h2:=Tr (d:=d) (b:=b) (i:=i+1) ks;omega
end
theorem dR{d:Nat}{e:Bool}{k:Nat}{l:Int}{x:List UInt8}{o:Nat}{ks:List Nd}(h1:k≠1)(h5:k≠5):uN d e (.mk k l x o ks)=ow k x.length+sd k d+uS d ks:=by
 simp only[uN,h1,h5,iF,false_and,decide_false,FJ,qX]
theorem Jf{d:Nat}{l:Int}{x:List UInt8}{o:Nat}{ks:List Nd}:uN d false (.mk 1 l x o ks)=4*d+2+uS (d+1) ks:=by
 simp only[uN,NW,iT,aM,iF,and_self,FJ,ow,sd,decide_false,Nat.reduceEqDiff,or_self,iZ,qX]
theorem acu{d:Nat}{e:Bool}{l:Int}{x:List UInt8}{o:Nat}{a b:Nd}:uN d e (.mk 5 l x o [a,b])=5+uN d false a+uN d false b:=by
 simp only[uN,uL,ow,sd,Nat.reduceEqDiff,or_self,false_and,iF,decide_true,zq,iZ,Nat.reduceAdd,decide_false,qX,jW]
theorem Ts{d:Nat}{e:Bool}{l:Int}{x:List UInt8}{o:Nat}{a b c:Nd}:uN d e (.mk 5 l x o [a,b,c])=5+uN d false a+uN d false b+uN d true c:=by
 simp only[uN,uL,ow,sd,Nat.reduceEqDiff,or_self,false_and,iF,decide_true,zq,iZ,Nat.reduceAdd,decide_false,qX,jW]
theorem Tt{d:Nat}{l:Int}{x:List UInt8}{o:Nat}{ks:List Nd}(h:FI ks=false):uN d true (.mk 1 l x o ks)=4*d+6+uS (d+1) ks:=by
 simp only[uN,h,Bool.and_false,iT,aM,iF,and_self,FJ,ow,sd,decide_false,Nat.reduceEqDiff,or_self,iZ,qX]
theorem Tu{d:Nat}{l:Int}{x:List UInt8}{o:Nat}{n:Nd}(h:n.kind=5):uN d true (.mk 1 l x o [n])=uN d false n:=by
 have e:FI [n]=true:=decide_eq_true h;simp only[uN,e,Bool.and_self,iT,Bool.true_eq_false,and_false,iF,FJ,uS,ow,sd,decide_false,Nat.reduceEqDiff,or_self,iZ,qX]
theorem aoa{d:Nat}{l:Int}{x:List UInt8}{o:Nat}{ks:List Nd}:uN d true (.mk 1 l x o ks)<=uN d false (.mk 1 l x o ks)+4:=by
 cases h:FI ks with
 | false=>rw[Tt h,Jf];omega
 | true=>
   match ks,h with
   | [n],h=>
     rw[Tu (of_decide_eq_true h),Jf];have:=acs (d:=d) (e:=false) n;simp only[uS];omega
def tl:List Pc->Nat
 | []=>0
 | .sp::r=>1+tl r
 | .nl::r=>1+tl r
 | .kV::r=>tl r
 | .out::r=>tl r
 | .tk k x::r=>(if k=7 then (gu x).length+2 else x.length)+tl r
theorem CU : ∀ps:List Pc,(bf ps).length=tl ps
 | []=>rfl
 | .sp::r=>by rw[zk,bW,CU r];rfl
 | .nl::r=>by rw[zk,bW,CU r];rfl
 | .kV::r=>by rw[zk,bW,CU r];exact iZ _
 | .out::r=>by rw[zk,bW,CU r];exact iZ _
 | .tk k x::r=>by
   rw[zk,bW,CU r];show(if k=7 then _ else x).length+_=(if k=7 then _ else x.length)+_;split;·simp
   rfl
theorem dY : ∀ {a b:List Pc},tl (a++b)=tl a+tl b
 | [],b=>(iZ _).symm
 | .sp::r,b=>by simp only[aS,tl,dY,jW]
 | .nl::r,b=>by simp only[aS,tl,dY,jW]
 | .kV::r,b=>by simp only[aS,tl,dY,jW]
 | .out::r,b=>by simp only[aS,tl,dY,jW]
 | .tk k x::r,b=>by simp only[aS,tl,dY,jW]
theorem pA{d:Nat}:tl (dW d)=4*d:=by
 rw[<-CU,Tm,Jz]
theorem acv : ∀x:List UInt8,(gu x).length<=4*x.length
 | []=>ag _
 | c::x=>by
   rw[Nx,bW,ay];have:(iE c).flatten.length<=4:=by
    unfold iE;repeat' split
    all_goals simp
   have:=acv x;omega
def Ub (r:SR)(d n:Nat):Prop:=match r with
 | .at m _=>ue m->n+3<=uN d false m
 | .expr m=>ue m->n+5<=uN d false m
 | .dK m=>bC m->(37<=m.kind/\m.kind<=42)\/m.kind=49\/m.kind=50->n+5<=uN d false m
 | .dC m=>bC m->44<=m.kind/\m.kind<=47->n+5<=uN d false m
 | .shown m=>bC m->51<=m.kind->n+5<=uN d false m
 | .bc _ l | .bF _ l=>(∀m∈l,ue m)->n<=uS d l
 | .two m _ s _=>∀a b ks,m.kids=a::b::ks->bC a->bC b->n+4<=uN d false a+uN d false b+s.length
 | .clauses l=>(∀m∈l,qk m)->n<=uS d l
 | .cW l=>(∀m∈l,Fv m)->n<=uS d l
 | .bO _ l=>pw l->n<=uS d l
 | .maybe s m=>m.kids= []\/(∃a,m.kids= [a]/\bC a)->n<=s.length+1+uS d m.kids
 | .block m=>okB m->n+4*d<=uN d false m
 | .a9 l=>(∀m∈l,lY m)->n<=uS d l
 | .ifs s m=>lY m->m.kind=5->n<=uN d false m
 | .cR l=>(∀m∈l,vO m\/okF m)->n<=uS d l
 | .tries m=>m.kind=15->lY m->n<=uN d false m
 | .stmt m=>lY m->n<=uN d false m
 | .head m=>m.kind=6\/m.kind=7\/m.kind=8\/m.kind=9\/m.kind=16->lY m->n<=uN d false m
 | .simple m=>¬(m.kind=5\/m.kind=15\/m.kind=6\/m.kind=7\/m.kind=8\/m.kind=9\/m.kind=16)->lY m->n+4*d+1<=uN d false m
def lZ (f:Nat):Prop:=∀(r:SR) (d:Nat),r.me<f->Ub r d (tl (pp f r d))
section
variable {f:Nat}
theorem lZ.at(b:lZ f){n:Nd}{a d:Nat}(ho:bC n)(c:16*aq n.kids+7<f):tl (pp f (.at n a) d)+3<=uN d false n:=b (.at n a) d c ho.y
theorem aob(b:lZ f){n:Nd}{a d:Nat}(c:SR.me (.at n a)<f+1):Ub (.at n a) d (tl (pp (f+1) (.at n a) d)):=by
 intro ho;have h1:=b (.expr n) d (by simp only[SR.me] at c⊢;omega) ho;simp only[pp];by_cases hc:gC n<a
 ·simp only[hc,iT,dY,tl,ay,aF,Nat.reduceEqDiff,iF];omega
 simp only[hc,iF];omega
theorem aoc(b:lZ f){s:List UInt8}{n:Nd}{d:Nat}(c:SR.me (.maybe s n)<f+1):Ub (.maybe s n) d (tl (pp (f+1) (.maybe s n) d)):=by
 intro ho;rcases ho with hk | ⟨a,hk,ha⟩
 ·simp only[pp,hk,tl,Nat.reduceEqDiff,iF,uS];omega
 have h1:=b.at (a:=0) (d:=d) ha (by simp only[SR.me,hk,aq,aL] at c⊢;omega);simp only[pp,hk,dY,tl,Nat.reduceEqDiff,iF,uS];omega
theorem aod(b:lZ f){n:Nd}{d:Nat}(c:SR.me (.expr n)<f+1):Ub (.expr n) d (tl (pp (f+1) (.expr n) d)):=by
 intro ho;have g:=c;simp only[SR.me] at g;rcases ho with ho | ⟨l,rfl⟩ | ⟨l,rfl⟩ | ⟨l,a,rfl,ha⟩
 ·cases qU ho with
  | int h1 | CC h1 | M9 h1=>
    rw[dR de de];simp only[pp,aE,dz,Nat.reduceEqDiff,iT,iF,tl,ow];omega
  | str h1=>
    rename_i l x;have:=acv x;rw[dR de de];simp only[pp,aE,dz,Nat.reduceEqDiff,iT,iF,tl,ow];omega
  | ql h1=>
    rcases h1 with rfl | rfl | rfl<;>rw[dR de de]<;>simp only[pp,aE,dz,Nat.reduceEqDiff,iT,iF,tl,ow,ay,aF]<;>omega
  | call _ _ | attr _ _ | idx _ _ | pI _ _ _=>exact b (.dC _) d (S5 c) ho (by simp[Nd.kind])
  | vc _ | eF _ | set _ _ | CD _ _ | CE _ _ _ | CF _ _ _ | CG _ _ _ _=>exact b (.shown _) d (S6 c) ho (by simp[Nd.kind])
  | bin _ _ _ _ | un _ _ | and _ _ | or _ _ | not _ | cmp _ _ _ | cond _ _ _ | lam _ _=>exact b (.dK _) d (Nh c) ho (by simp[Nd.kind])
 ·rw[dR de de];simp only[pp,aE,Nat.reduceEqDiff,iT,iF,tl,ow];omega
 ·have h1:=b (.maybe nP (.mk 60 l [] 0 [])) d Mt (.inl rfl);rw[dR de de];simp only[pp,aE,am,Nat.reduceEqDiff,iT,iF,ow,ay,aF] at h1⊢;have e:tl (pp f (SR.maybe [121,105,101,108,100] (Nd.mk 60 l [] 0 [])) d)=tl (pp f (SR.maybe nP (Nd.mk 60 l [] 0 [])) d):=rfl;rw[e];omega
 have h1:=b (.maybe nP (.mk 60 l [] 0 [a])) d Mt (.inr ⟨a,rfl,ha⟩);rw[dR de de];simp only[pp,aE,am,Nat.reduceEqDiff,iT,iF,ow,ay,aF] at h1⊢;have e:tl (pp f (SR.maybe [121,105,101,108,100] (Nd.mk 60 l [] 0 [a])) d)=tl (pp f (SR.maybe nP (Nd.mk 60 l [] 0 [a])) d):=rfl;rw[e];omega
theorem aoe(c:lZ f){b:Bool}{l:List Nd}{d:Nat}(a:SR.me (.bc b l)<f+1):Ub (.bc b l) d (tl (pp (f+1) (.bc b l) d)):=by
 intro ho;rcases l with _ | ⟨n,l⟩
 ·exact fa _
 simp only[SR.me,aq,aL] at a;have h1:=c (.at n 0) d Mt (ho n s0);have h2:=c (.bc true l) d Mt (λm a=>ho m (by simp[a]));cases b<;>simp only[pp,aM,iT,iF,dY,tl,Nat.reduceEqDiff,ay,aF,uS]<;>omega
theorem aof(c:lZ f){b:Bool}{l:List Nd}{d:Nat}(a:SR.me (.bF b l)<f+1):Ub (.bF b l) d (tl (pp (f+1) (.bF b l) d)):=by
 intro ho;rcases l with _ | ⟨n,l⟩
 ·exact fa _
 simp only[SR.me,aq,aL] at a;have h1:=c (.at n 0) d Mt (ho n s0);have h2:=c (.bF true l) d Mt (λm a=>ho m (by simp[a]));cases b<;>simp only[pp,aM,iT,iF,dY,tl,Nat.reduceEqDiff,ay,aF,uS]<;>omega
theorem aog(c:lZ f){b:Bool}{l:List Nd}{d:Nat}(e:SR.me (.bO b l)<f+1):Ub (.bO b l) d (tl (pp (f+1) (.bO b l) d)):=by
 intro ho;rcases l with _ | ⟨n,_ | ⟨m,l⟩⟩
 ·exact fa _
 ·exact fa _
 simp only[SR.me,aq,aL] at e;have h1:=c.at (a:=0) (d:=d) (ho n s0) Om;have h3:=c.at (a:=0) (d:=d) (ho m s0) Om;have h2:=c (.bO true l) d Mt (λm e=>ho m (by simp[e]));cases b<;>simp only[pp,aM,iT,iF,dY,tl,Nat.reduceEqDiff,ay,aF,uS]<;>omega
theorem aoh{s:List UInt8}{r:List Pc}:tl (vL s::r)=s.length+tl r:=by
 unfold vL;split<;>rfl
theorem aoi(c:lZ f){n:Nd}{l r:Nat}{s:List UInt8}{d:Nat}(e:SR.me (.two n l s r)<f+1):Ub (.two n l s r) d (tl (pp (f+1) (.two n l s r) d)):=by
 intro a b ks hk ha hb;simp only[SR.me,hk,aq,aL] at e;have h1:=c.at (a:=l) (d:=d) ha Om;have h2:=c.at (a:=r) (d:=d) hb Om;simp only[pp,hk,dY,tl,aoh];omega
theorem aoj(e:lZ f){l:List Nd}{d:Nat}(c:SR.me (.clauses l)<f+1):Ub (.clauses l) d (tl (pp (f+1) (.clauses l) d)):=by
 intro ho;rcases l with _ | ⟨n,l⟩
 ·exact fa _
 simp only[SR.me,aq,aL] at c;have h2:=e (.clauses l) d Mt (λm c=>ho m (by simp[c]));rcases ho n s0 with ⟨ln,a,b,rfl,ha,hp,hb⟩ | ⟨ln,a,rfl,ha⟩
 ·simp only[am,aq,aL] at c;have h1:=e.at (a:=9) (d:=d) ha Om;have h3:=e.at (a:=1) (d:=d) hb Om;simp only[pp,aE,am,Nat.reduceEqDiff,iF,dY,tl,ay,aF,uS];rw[dR de de];simp only[uS,ow];omega
 simp only[am,aq,aL] at c;have h1:=e.at (a:=1) (d:=d) ha Om;simp only[pp,aE,am,Nat.reduceEqDiff,iT,iF,dY,tl,ay,aF,uS];rw[dR de de];simp only[uS,ow];omega
theorem aok{o:Nat}(h1:1<=o)(h2:o<=10):tl (vJ o)<=6:=by
 obtain rfl | rfl | rfl | rfl | rfl | rfl | rfl | rfl | rfl | rfl:o=1\/o=2\/o=3\/o=4\/o=5\/o=6\/o=7\/o=8\/o=9\/o=10:=by omega
 all_goals decide
theorem aol(c:lZ f){l:List Nd}{d:Nat}(b:SR.me (.cW l)<f+1):Ub (.cW l) d (tl (pp (f+1) (.cW l) d)):=by
 intro ho;rcases l with _ | ⟨n,l⟩
 ·exact fa _
 simp only[SR.me,aq,aL] at b;have h2:=c (.cW l) d Mt (λm b=>ho m (by simp[b]));obtain⟨ln,o,a,rfl,o1,o2,ha⟩:=ho n s0;simp only[am,aq,aL] at b;have h1:=c.at (a:=5) (d:=d) ha Om;have h3:=aok o1 o2;simp only[pp,fy,am,dY,tl,uS];rw[dR de de];simp only[uS,ow];omega
theorem aom(g:lZ f){n:Nd}{d:Nat}(j:SR.me (.dC n)<f+1):Ub (.dC n) d (tl (pp (f+1) (.dC n) d)):=by
 intro ho hk;cases qU ho with
 | call ha br=>
   rename_i l a ks;simp only[SR.me,am,aq,aL] at j;have h1:=g.at (a:=9) (d:=d) ha Om;have h2:=g (.bc false ks) d Mt (λm j=>(br m j).y);rw[dR de de];simp only[pp,aE,am,Nat.reduceEqDiff,false_and,iF,iT,dY,tl,ay,aF,uS,ow] at h2⊢;omega
 | attr hx ha=>
   rename_i l x a;simp only[SR.me,am,aq,aL] at j;rw[dR de de];by_cases hc:a.kind=30\/a.kind=31
   ·have e:a.text.length+5<=uN d false a:=by
     cases qU ha with
     | int h1=>rw[dR de de];simp only[ow,dz];omega
     | CC h1=>rw[dR de de];simp only[ow,dz];omega
     | ql hx=>simp only[aE] at hc;omega
     | _=>simp[Nd.kind] at hc
    simp only[pp,aE,am,dz,true_and,hc,Nat.reduceEqDiff,iF,iT,dY,tl,ay,aF,uS,ow];have o : ¬(if a.kind=30 then 5 else 6)=7:=by split<;>decide
    rw[iN o];omega
   have h1:=g.at (a:=9) (d:=d) ha Om;simp only[pp,aE,am,dz,true_and,hc,Nat.reduceEqDiff,iF,iT,dY,tl,ay,aF,uS,ow];omega
 | idx ha hb=>
   rename_i l a b;simp only[SR.me,am,aq,aL] at j;have h1:=g.at (a:=9) (d:=d) ha Om;have h2:=g.at (a:=0) (d:=d) hb Om;rw[dR de de];simp only[pp,aE,am,Nat.reduceEqDiff,false_and,iF,iT,dY,tl,ay,aF,uS,ow];omega
 | pI ha hb hc=>
   rename_i l a b c;have k : ∀ {n},CA n->ue n:=λh=>h.imp_right λh=> .inl h;simp only[SR.me,am,aq,aL] at j;have h1:=g.at (a:=9) (d:=d) ha Om;have h2:=g (.at b 0) d Mt (k hb);have h3:=g (.at c 0) d Mt (k hc);rw[dR de de];simp only[pp,aE,am,Nat.reduceEqDiff,false_and,iF,iT,dY,tl,ay,aF,uS,ow];omega
 | ql h=>simp only[aE] at hk;omega
 | _=>simp[Nd.kind] at hk
theorem aon(e:lZ f){n:Nd}{d:Nat}(c:SR.me (.shown n)<f+1):Ub (.shown n) d (tl (pp (f+1) (.shown n) d)):=by
 intro ho hk;have row : ∀ {ks:List Nd},pw ks->16*aq ks<f->tl (pp f (.bc false ks) d)<=uS d ks:=λh c=>e (.bc false _) d Mt (λm c=>(h m c).y);have cls : ∀ {ks:List Nd},(∀n∈ks,qk n)->16*aq ks<f->tl (pp f (.clauses ks) d)<=uS d ks:=λh c=>e (.clauses _) d Mt h;cases qU ho with
 | vc br=>
   simp only[SR.me,am,aq,aL] at c;have h1:=row br Om;rw[dR de de];simp only[pp,aE,am,Nat.reduceEqDiff,true_or,or_true,false_or,or_false,or_self,iF,iT,dY,tl,ay,aF,ow];omega
 | eF br=>
   rename_i l ks;simp only[SR.me,am] at c;have h1:=row br Om;rw[dR de de];by_cases g:ks.length=1
   ·simp only[pp,aE,am,Nat.reduceEqDiff,true_or,or_true,false_or,or_false,or_self,g,iF,iT,dY,tl,ay,aF,ow];omega
   simp only[pp,aE,am,Nat.reduceEqDiff,true_or,or_true,false_or,or_false,or_self,g,iF,iT,dY,tl,ay,aF,ow];omega
 | set ha br=>
   rename_i l a ks;simp only[SR.me,am] at c;have h1:=row (ks:=a::ks) (λn hn=>by
    rcases List.mem_cons.1 hn with rfl | hn
    ·exact ha
    exact br n hn) Om
   rw[dR de de];simp only[pp,aE,am,Nat.reduceEqDiff,true_or,or_true,false_or,or_false,or_self,iF,iT,dY,tl,ay,aF,ow];omega
 | CD br he=>
   rename_i l ks;simp only[SR.me,am] at c;have h1:=e (.bO false ks) d Mt br;rw[dR de de];simp only[pp,aE,am,Nat.reduceEqDiff,true_or,or_true,false_or,or_false,or_self,iF,iT,dY,tl,ay,aF,ow];omega
 | CE ha av br | CF ha av br=>
   rename_i l a ks;simp only[SR.me,am,aq,aL] at c;have h1:=e.at (a:=0) (d:=d) ha Om;have h2:=cls br Om;rw[dR de de];simp only[pp,aE,am,Nat.reduceEqDiff,true_or,or_true,false_or,or_false,or_self,iF,iT,dY,tl,ay,aF,uS,ow];omega
 | CG ha hb av br=>
   rename_i l a b ks;simp only[SR.me,am,aq,aL] at c;have h1:=e (.bO false [a,b]) d (by simp only[SR.me,aq,aL];omega) (λn hn=>by
    rcases List.mem_cons.1 hn with rfl | hn
    ·exact ha
    rw[List.mem_singleton.1 hn];exact hb)
   have h2:=cls br Om;rw[dR de de];simp only[pp,aE,am,Nat.reduceEqDiff,true_or,or_true,false_or,or_false,or_self,iF,iT,dY,tl,ay,aF,uS,ow] at h1⊢;omega
 | ql h=>simp only[aE] at hk;omega
 | _=>simp[Nd.kind] at hk
end
section
variable {f:Nat}
theorem acw{o:Nat}(h1:1<=o)(h2:o<=7):(jT mR o).length<=2:=by
 obtain rfl | rfl | rfl | rfl | rfl | rfl | rfl:o=1\/o=2\/o=3\/o=4\/o=5\/o=6\/o=7:=by omega
 all_goals decide
theorem aoo(g:lZ f){n:Nd}{d:Nat}(j:SR.me (.dK n)<f+1):Ub (.dK n) d (tl (pp (f+1) (.dK n) d)):=by
 intro ho hk;have two : ∀ {l r:Nat} {s:List UInt8} {a b:Nd} {ks:List Nd},n.kids=a::b::ks->bC a->bC b->tl (pp f (.two n l s r) d)+4<=uN d false a+uN d false b+s.length:=λhk ha hb=>g (.two n _ _ _) d (by simp only[SR.me] at j⊢;omega) _ _ _ hk ha hb;cases qU ho with
 | bin o1 o2 ha hb=>
   rename_i l o a b;rw[dR de de];have q:=acw o1 o2;by_cases k:o=7
   ·subst k;have h1:=two (l:=9) (r:=7) (s:= [42,42]) rfl ha hb;simp only[pp,aE,fy,Nat.reduceEqDiff,iF,iT,uS,ow,ay,aF] at h1⊢;omega
   have h1:=two (l:=gC (.mk 37 l [] o [a,b])) (r:=gC (.mk 37 l [] o [a,b])+1) (s:=jT mR o) rfl ha hb;simp only[pp,aE,fy,Nat.reduceEqDiff,k,iF,iT,uS,ow] at h1⊢;omega
 | un m ha=>
   rename_i l o a;simp only[SR.me,am,aq,aL] at j;have h1:=g.at (a:=7) (d:=d) ha Om;rw[dR de de];rcases m with rfl | rfl<;>simp only[pp,aE,am,fy,Nat.reduceEqDiff,iF,iT,dY,tl,ay,aF,uS,ow]<;>omega
 | and ha hb=>
   rename_i l a b;have h1:=two (l:=2) (r:=3) (s:= [97,110,100]) rfl ha hb;rw[dR de de];simp only[pp,aE,fy,Nat.reduceEqDiff,iF,iT,uS,ow,ay,aF] at h1⊢;omega
 | or ha hb=>
   rename_i l a b;have h1:=two (l:=1) (r:=2) (s:= [111,114]) rfl ha hb;rw[dR de de];simp only[pp,aE,fy,Nat.reduceEqDiff,iF,iT,uS,ow,ay,aF] at h1⊢;omega
 | not ha=>
   rename_i l a;simp only[SR.me,am,aq,aL] at j;have h1:=g.at (a:=3) (d:=d) ha Om;rw[dR de de];simp only[pp,aE,am,fy,Nat.reduceEqDiff,iF,iT,dY,tl,ay,aF,uS,ow];omega
 | cmp ha hn br=>
   rename_i l a ks;simp only[SR.me,am,aq,aL] at j;have h1:=g.at (a:=5) (d:=d) ha Om;have h2:=g (.cW ks) d Mt br;rw[dR de de];simp only[pp,aE,am,fy,Nat.reduceEqDiff,iF,iT,dY,uS,ow];omega
 | cond ha hb hc=>
   rename_i l a b c;simp only[SR.me,am,aq,aL] at j;have h1:=g.at (a:=1) (d:=d) ha Om;have h2:=g.at (a:=1) (d:=d) hb Om;have h3:=g.at (a:=0) (d:=d) hc Om;rw[dR de de];simp only[pp,aE,am,fy,Nat.reduceEqDiff,iF,iT,dY,tl,ay,aF,uS,ow];omega
 | lam hp he=>
   rename_i l l' ps e;simp only[SR.me,am,aq,aL] at j;have h1:=g.at (a:=0) (d:=d) he Om;have h2:=g (.bc false ps) d Mt (λn hn=>(FH (hp n hn)).y);have h3 : ∀ {c:Prop} [Decidable c],tl (if c then [Pc.sp] else [])<=1:=λ{c} _=>by split<;>simp[tl]
   rw[dR de de];have h4:tl (if 0<(Nd.mk 23 l' [] 0 ps).kids.length then [Pc.sp] else [])<=1:=h3;simp only[pp,aE,am,fy,Nat.reduceEqDiff,iF,iT,dY,tl,ay,aF,uS,ow] at h4⊢;rw[dR de de];omega
 | ql h=>simp only[aE] at hk;omega
 | _=>simp[Nd.kind] at hk
theorem aoq(a:lZ f){n:Nd}{d:Nat}(b:SR.me (.block n)<f+1):Ub (.block n) d (tl (pp (f+1) (.block n) d)):=by
 rintro⟨l,ks,rfl,av,br⟩;have h1:=a (.a9 ks) (d+1) (by simp only[SR.me,am] at b⊢;omega) br;rw[Jf];simp only[pp,am,dY,tl,Nat.reduceEqDiff,iF,ay,aF];omega
theorem aor(b:lZ f){l:List Nd}{d:Nat}(a:SR.me (.a9 l)<f+1):Ub (.a9 l) d (tl (pp (f+1) (.a9 l) d)):=by
 intro ho;rcases l with _ | ⟨n,l⟩
 ·exact fa _
 simp only[SR.me,aq,aL] at a;have h1:=b (.stmt n) d Mt (ho n s0);have h2:=b (.a9 l) d Mt (λm a=>ho m (by simp[a]));simp only[pp,dY,uS];omega
theorem aos(g:lZ f){n:Nd}{d:Nat}(j:SR.me (.simple n)<f+1):Ub (.simple n) d (tl (pp (f+1) (.simple n) d)):=by
 intro hk ho;have m : ∀ {v},AF v->ue v:=λh=>h.imp_right λh=> .inr h;have q:=j;simp only[SR.me] at q;have c : ∀ {s:List UInt8},n.kids= []\/(∃a,n.kids= [a]/\bC a)->tl (pp f (.maybe s n) d)<=s.length+1+uS d n.kids:=λh=>g (.maybe _ n) d Mt h;cases ud ho with
 | exp hv=>
   rename_i l v;have h1:=g (.bc false [v]) d (by simp only[SR.me,am] at j⊢;omega) (λn hn=>by rw[List.mem_singleton.1 hn];exact m hv);rw[dR de de];simp only[pp,aE,am,Nat.reduceEqDiff,iF,iT,sd,true_or,or_true,ow];omega
 | bF hn br hv=>
   rename_i l ks v;have h1:=g (.bF false (ks++ [v])) d (by simp only[SR.me,am] at j⊢;omega) (λn hn=>by
    rcases List.mem_append.1 hn with hn | hn
    ·exact(br n hn).1.y
    rw[List.mem_singleton.1 hn];exact m hv)
   rw[dR de de];simp only[pp,aE,am,Nat.reduceEqDiff,iF,iT,sd,true_or,or_true,ow];omega
 | Nk o1 o2 ha hs hb=>
   rename_i l o a b;have r:=acw o1 o2;have h1:=g (.two (.mk 4 l [] o [a,b]) 0 (jT mR o++ [61]) 0) d (by simp only[SR.me] at j⊢;omega) a b [] rfl ha hb;rw[dR de de];simp only[pp,aE,fy,Nat.reduceEqDiff,iF,iT,sd,true_or,or_true,ow,uS,bW,ay,aF] at h1⊢;omega
 | ti e=>
   rename_i k l;rcases e with rfl | rfl
   ·have h1:=c (s:= [114,101,116,117,114,110]) (.inl rfl);rw[dR de de];simp only[pp,aE,am,Nat.reduceEqDiff,iF,iT,sd,true_or,or_true,ow,uS,ay,aF] at h1⊢;omega
   have h1:=c (s:= [114,97,105,115,101]) (.inl rfl);rw[dR de de];simp only[pp,aE,am,Nat.reduceEqDiff,iF,iT,sd,true_or,or_true,ow,uS,ay,aF] at h1⊢;omega
 | tj e ha=>
   rename_i k l a;rcases e with rfl | rfl
   ·have h1:=c (s:= [114,101,116,117,114,110]) (.inr ⟨a,rfl,ha⟩);rw[dR de de];simp only[pp,aE,am,Nat.reduceEqDiff,iF,iT,sd,true_or,or_true,ow,uS,ay,aF] at h1⊢;omega
   have h1:=c (s:= [114,97,105,115,101]) (.inr ⟨a,rfl,ha⟩);rw[dR de de];simp only[pp,aE,am,Nat.reduceEqDiff,iF,iT,sd,true_or,or_true,ow,uS,ay,aF] at h1⊢;omega
 | Nm ha=>
   rename_i l a;have h1:=c (s:= [97,115,115,101,114,116]) (.inr ⟨a,rfl,ha⟩);rw[dR de de];simp only[pp,aE,am,Nat.reduceEqDiff,iF,iT,sd,true_or,or_true,ow,uS,ay,aF] at h1⊢;omega
 | tm e=>
   rename_i k l;rcases e with rfl | rfl | rfl<;>rw[dR de de]<;>simp only[pp,aE,am,Nat.reduceEqDiff,iF,iT,sd,true_or,or_true,ow,uS,tl,ay,aF]<;>omega
 | tn e hn br=>
   rename_i k l ks;have h1:=g (.bc false ks) d (by simp only[SR.me,am] at j⊢;omega) λn hn=>(FH (br n hn)).y;rcases e with rfl | rfl<;>rw[dR de de]<;>simp only[pp,aE,am,Nat.reduceEqDiff,iF,iT,sd,true_or,or_true,ow,uS,dY,tl,ay,aF]<;>omega
 | del ha hs=>
   rename_i l a;have h1:=g.at (a:=9) (d:=d) ha (by simp only[SR.me,am,aq,aL] at j⊢;omega);rw[dR de de];simp only[pp,aE,am,Nat.reduceEqDiff,iF,iT,sd,true_or,or_true,ow,uS,dY,tl,ay,aF];omega
 | _=>exact absurd (by simp[Nd.kind]) hk
theorem aot(a:lZ f){n:Nd}{d:Nat}(b:SR.me (.stmt n)<f+1):Ub (.stmt n) d (tl (pp (f+1) (.stmt n) d)):=by
 intro ho;by_cases h5:n.kind=5
 ·simp only[pp,h5,iT];exact a (.ifs [105,102,32] n) d (by simp only[SR.me] at b⊢;omega) ho h5
 by_cases c:n.kind=15
 ·simp only[pp,c,Nat.reduceEqDiff,iT,iF];exact a (.tries n) d (by simp only[SR.me] at b⊢;omega) c ho
 by_cases hh:n.kind=6\/n.kind=7\/n.kind=8\/n.kind=9\/n.kind=16
 ·simp only[pp,iN h5,iN c,iP hh];exact a (.head n) d (by simp only[SR.me] at b⊢;omega) hh ho
 have h1:=a (.simple n) d (by simp only[SR.me] at b⊢;omega) Om ho;simp only[pp,iN h5,iN c,iN hh,dY,tl,pA];omega
theorem aou(c:lZ f){n:Nd}{s:List UInt8}{d:Nat}(g:SR.me (.ifs s n)<f+1):Ub (.ifs s n) d (tl (pp (f+1) (.ifs s n) d)):=by
 intro ho hk;have hw:(if s= [105,102,32] then [105,102] else [101,108,105,102]:List UInt8).length<=4:=by split<;>decide
 cases ud ho with
 | Nn ha hb=>
   rename_i l a b;simp only[SR.me,am,aq,aL] at g;have h1:=c.at (a:=0) (d:=d) ha Om;have h2:=c (.block b) d Mt hb;rw[acu];simp only[pp,am,dY,tl,pA,Nat.reduceEqDiff,iF];omega
 | Np ha hb he=>
   rename_i l a b e;obtain⟨le,es,rfl,av,j⟩:=he;simp only[SR.me,am,aq,aL] at g;have h1:=c.at (a:=0) (d:=d) ha Om;have h2:=c (.block b) d Mt hb;have h3:=c (.block (.mk 1 le [] 0 es)) d (by simp only[SR.me,am];omega) ⟨le,es,rfl,av,j⟩;rw[Ts];match es,av,j,g,h3 with
   | [x],_,j,g,h3=>
     by_cases hx:x.kind=5
     ·have h4:=c (.ifs [101,108,105,102,32] x) d (by simp only[SR.me,aq,aL] at g⊢;omega) (j x s0) hx;rw[Tu hx];simp only[pp,am,hx,iT,dY,tl,pA,Nat.reduceEqDiff,iF];omega
     rw[Jf] at h3;rw[Tt (ks:= [x]) (decide_eq_false hx)];simp only[pp,am,hx,iF,dY,tl,pA,Nat.reduceEqDiff,ay,aF];omega
   | x::y::es,_,j,g,h3=>
     rw[Jf] at h3;rw[Tt rfl];simp only[pp,am,iF,dY,tl,pA,Nat.reduceEqDiff,ay,aF];omega
 | ti h | tj h _ | tm h | tn h _ _=>simp only[aE] at hk;omega
 | _=>simp[Nd.kind] at hk
theorem aov(g:lZ f){l:List Nd}{d:Nat}(o:SR.me (.cR l)<f+1):Ub (.cR l) d (tl (pp (f+1) (.cR l) d)):=by
 intro hl;rcases l with _ | ⟨c,l⟩
 ·exact fa _
 have j:=o;simp only[SR.me,aq,aL] at j;have q:=g (.cR l) d Mt λn hn=>hl n (by simp[hn]);simp only[uS];rcases hl c s0 with (⟨ln,b,rfl,hb⟩ | ⟨ln,x,e,b,rfl,hx,he,hb⟩) | ⟨ln,b,rfl,hb⟩
 ·simp only[am,aq,aL] at j;have h2:=g (.block b) d Mt hb;rw[dR de de];simp only[pp,aE,am,dz,Nat.reduceEqDiff,iT,iF,gT,cn,dY,tl,pA,ay,aF,ow,uS];omega
 ·simp only[am,aq,aL] at j;have k : [e,b].getLast? = some b:=rfl;have h1:=g.at (a:=0) (d:=d) he Om;have h2:=g (.block b) d Mt hb;rw[dR de de];by_cases m:x= []
  ·subst m;simp only[pp,aE,am,dz,Nat.reduceEqDiff,iT,iF,k,cn,dY,tl,pA,ay,aF,ow,uS];omega
  simp only[pp,aE,am,dz,Nat.reduceEqDiff,m,iT,iF,k,cn,dY,tl,pA,ay,aF,ow,uS];omega
 simp only[am,aq,aL] at j;have h2:=g (.block b) d Mt hb;rw[dR de de];simp only[pp,aE,am,dz,Nat.reduceEqDiff,iT,iF,gT,cn,dY,tl,pA,ay,aF,ow,uS];omega
theorem aow(a:lZ f){n:Nd}{d:Nat}(hm:SR.me (.tries n)<f+1):Ub (.tries n) d (tl (pp (f+1) (.tries n) d)):=by
 intro hk ho;cases ud ho with
 | tr hb hh hd ht hn=>
   rename_i l b h' t;simp only[SR.me,am,aq,aL] at hm;have c : ∀n∈h'++t,vO n\/okF n:=λn hm=>by
    rcases List.mem_append.1 hm with hm | hm
    ·exact .inl (hh n hm)
    rcases ht with rfl | ⟨y,rfl,e⟩
    ·cases hm
    rw[List.mem_singleton.1 hm];exact .inr e
   have h2:=a (.block b) d Mt hb;have h3:=a (.cR (h'++t)) d Mt c;rw[dR de de];simp only[pp,am,Nat.reduceEqDiff,iF,dY,tl,pA,ay,aF,ow,uS];omega
 | ti h | tj h _ | tm h | tn h _ _=>simp only[aE] at hk;omega
 | _=>simp[Nd.kind] at hk
theorem aox(g:lZ f){n:Nd}{d:Nat}(j:SR.me (.head n)<f+1):Ub (.head n) d (tl (pp (f+1) (.head n) d)):=by
 intro hk ho;cases ud ho with
 | Nq ha hb=>
   rename_i l a b;simp only[SR.me,am,aq,aL] at j;have h1:=g.at (a:=0) (d:=d) ha Om;have h2:=g (.block b) d Mt hb;rw[dR de de];simp only[pp,aE,am,dz,Nat.reduceEqDiff,iT,iF,dY,tl,pA,ay,aF,ow,uS];omega
 | fr ha hp hb hc=>
   rename_i l a b c;simp only[SR.me,am,aq,aL] at j;have h1:=g.at (a:=9) (d:=d) ha Om;have h3:=g.at (a:=0) (d:=d) hb Om;have h2:=g (.block c) d Mt hc;rw[dR de de];simp only[pp,aE,am,dz,Nat.reduceEqDiff,iT,iF,dY,tl,pA,ay,aF,ow,uS];omega
 | df hx hp hb=>
   rename_i l x l' ps b;simp only[SR.me,am,aq,aL] at j;have h1:=g (.bc false ps) d Mt (λn hn=>(FH (hp n hn)).y);have h2:=g (.block b) d Mt hb;rw[dR de de];simp only[pp,aE,am,dz,Nat.reduceEqDiff,iT,iF,dY,tl,pA,ay,aF,ow,uS];rw[dR de de];omega
 | cls hx hp hb=>
   rename_i l x l' ps b;simp only[SR.me,am,aq,aL] at j;have h1:=g (.bc false ps) d Mt (λn hn=>(hp n hn).y);have h2:=g (.block b) d Mt hb;rw[dR de de];simp only[uS,ow];rw[dR de de];by_cases hl:0<ps.length
   ·simp only[pp,aE,am,dz,Nat.reduceEqDiff,hl,iT,iF,dY,tl,pA,ay,aF];omega
   simp only[pp,aE,am,dz,Nat.reduceEqDiff,hl,iT,iF,dY,tl,pA,ay,aF];omega
 | Nr hx he hb=>
   rename_i l x e b;simp only[SR.me,am,aq,aL] at j;have h1:=g.at (a:=0) (d:=d) he Om;have h2:=g (.block b) d Mt hb;rw[dR de de];by_cases k:x= []
   ·subst k;simp only[pp,aE,am,dz,Nat.reduceEqDiff,iT,iF,dY,tl,pA,ay,aF,ow,uS];omega
   simp only[pp,aE,am,dz,Nat.reduceEqDiff,k,iT,iF,dY,tl,pA,ay,aF,ow,uS];omega
 | ti h | tj h _ | tm h | tn h _ _=>simp only[aE] at hk;omega
 | _=>simp[Nd.kind] at hk
theorem acx : ∀f,lZ f
 | 0=>λr d c=>absurd c (su _)
 | f+1=>λr d c=>by
   have e:=acx f;cases r;case «at» n a=>exact aob e c
   case expr n=>exact aod e c
   case bc b l=>exact aoe e c
   case two n l s r=>exact aoi e c
   case clauses l=>exact aoj e c
   case bO b l=>exact aog e c
   case shown n=>exact aon e c
   case dC n=>exact aom e c
   case dK n=>exact aoo e c
   case cW l=>exact aol e c
   case maybe s n=>exact aoc e c
   case block n=>exact aoq e c
   case a9 l=>exact aor e c
   case ifs s n=>exact aou e c
   case tries n=>exact aow e c
   case cR l=>exact aov e c
   case stmt n=>exact aot e c
   case head n=>exact aox e c
   case bF b l=>exact aof e c
   case simple n=>exact aos e c
end
def Dp (ts:List PT):Nat->Nat
 | 0=>0
 | i+1=>if (ah ts i).kind=2 then Dp ts i+1 else if (ah ts i).kind=3 then Dp ts i-1 else Dp ts i
def Sm (ts:List PT):Nat->Nat
 | 0=>0
 | i+1=>Sm ts i+(if (ah ts i).kind=1 then 8*Dp ts i+16 else if 4<=(ah ts i).kind then 14+4*(ah ts i).text.length else 0)
def NT.cH(e:Nat):NT->Nat
 | .params _ _ acc | .row _ acc | .qc _ acc | .clauses acc | .rW _ acc | .placesL _ acc | .names _ _ acc | .jp _ acc | .lT acc | .nR _ acc | .top acc=>uS e acc
 | .tR n | .tS n | .sW n | .qP n | .rV n | .index n=>uN e false n
 | .jR n acc=>uN e false n+uS e acc+(if acc.isEmpty=true then 0 else 5)
 | .a9 acc=>uS (e+1) acc
 | _=>0
def NT.cD(e:Nat):NT->Nat
 | .exprs | .qc _ _ | .value | .list _ | .qQ _ | .rW _ _ | .sV | .placesL _ _=>8
 | .index _=>15
 | .plain=>4*e+9
 | .jp _ _=>4*e+1
 | .simple=>4*e+10
 | .maybe k _ _=>ow k 0+sd k e+8
 | .names k _ _=>ow k 0+sd k e
 | .a9 _=>4*e+2
 | .nR _ _=>3
 | _=>0
def NT.cL:NT->Nat
 | .a9 _=>1
 | _=>0
def NT.cB:NT->Prop
 | .block | .a9 _ | .ifs _ | .tries _ | .lT _ | .nR _ _ | .stmt | .top _=>True
 | _=>False
def NT.cI:NT->Prop
 | .maybe k _ _=>k=60\/k=10\/k=14
 | .names k _ _=>k=17\/k=18
 | _=>True
def NT.cK:NT->List Nd->Prop
 | .ifs _=>λl=>∀n∈l,n.kind=5
 | _=>λ_=>True
abbrev Cp(ts:List PT)(a:NT)(i e:Nat)(l:List Nd)(j:Nat):Prop:=uS e l+Sm ts i<=Sm ts j+a.cH e+a.cD e/\Dp ts j+a.cL=Dp ts i/\a.cK l
def Cw (P:List Nd->Nat->Prop):PR->Prop
 | some (.ok (l,j))=>P l j
 | _=>True
def Tw (ts:List PT)(f:Nat):Prop:=∀(a:NT) (i e:Nat),a.cI->(a.cB->Dp ts i=e+a.cL)->Cw (Cp ts a i e) (gr ts f a i)
section
variable {ts:List PT} {i:Nat} {P:List Nd->Nat->Prop}
theorem NC(h:4<=(ah ts i).kind):Sm ts (i+1)=Sm ts i+14+4*(ah ts i).text.length/\Dp ts (i+1)=Dp ts i:=by
 simp only[Sm,Dp];rw[iN Om,iP h,iN Om,iN Om];exact⟨Om,rfl⟩
theorem Jg(h:(ah ts i).kind=1):Sm ts (i+1)=Sm ts i+8*Dp ts i+16/\Dp ts (i+1)=Dp ts i:=by
 simp only[Sm,Dp];rw[iP h,iN Om,iN Om];exact⟨Om,rfl⟩
theorem acy(h:(ah ts i).kind=2):Sm ts (i+1)=Sm ts i/\Dp ts (i+1)=Dp ts i+1:=by
 simp only[Sm,Dp];rw[iN Om,iN Om,iP h];exact⟨rfl,rfl⟩
theorem acz(h:(ah ts i).kind=3):Sm ts (i+1)=Sm ts i/\Dp ts (i+1)=Dp ts i-1:=by
 simp only[Sm,Dp];rw[iN Om,iN Om,iN Om,iP h];exact⟨rfl,rfl⟩
theorem zm{s:List UInt8}(h:ai ts i s=true)(hs:s≠ []):Sm ts i+18<=Sm ts (i+1)/\Dp ts (i+1)=Dp ts i:=by
 have h1:=of_decide_eq_true h;obtain⟨b,a⟩:=NC (ts:=ts) (i:=i) Om;refine⟨?_,a⟩;have:1<=(ah ts i).text.length:=by
  rw[h1.2.1];cases s with
  | nil=>exact absurd rfl hs
  | cons _ _=>simp
 omega
theorem acA{r:PR}{Q:List Nd->Nat->Prop}{k:List Nd->Nat->PR}(h:Cw Q r)(hk : ∀l j,Q l j->Cw P (k l j)):Cw P (pb r k):=by
 match r,h with
 | none,_=>exact trivial
 | some (.error e),_=>exact trivial
 | some (.ok (l,j)),h=>exact hk l j h
theorem vS{r:PR}{Q:List Nd->Nat->Prop}{k:Nd->Nat->PR}(h:Cw Q r)(hk : ∀n j,Q [n] j->Cw P (k n j)):Cw P (bu r k):=acA h λl j h2=>by
 match l,h2 with
 | [],_=>exact trivial
 | _::_::_,_=>exact trivial
 | [n],h2=>exact hk n j h2
theorem AP{r:PR}{Q:List Nd->Nat->Prop}(h:Cw Q r)(hk : ∀l j,Q l j->P l j):Cw P r:=by
 match r,h with
 | none,_=>exact trivial
 | some (.error e),_=>exact trivial
 | some (.ok (l,j)),h=>exact hk l j h
theorem uf{c:Prop}[Decidable c]{a b:PR}(h1:c->Cw P a)(h2 : ¬c->Cw P b):Cw P (if c then a else b):=by
 split;·exact h1 ‹_›
 exact h2 ‹_›
theorem CW{s:List UInt8}{a b:PR}(hs:s≠ [])(h1:Sm ts i+18<=Sm ts (i+1)->Dp ts (i+1)=Dp ts i->Cw P a)(h2:Cw P b):Cw P (if ai ts i s=true then a else b):=
 uf (λh=>h1 (zm h hs).1 (zm h hs).2) λ_=>h2
theorem ND{s:List UInt8}{k:Nat->PR}(hs:s≠ [])(h1:Sm ts i+18<=Sm ts (i+1)->Dp ts (i+1)=Dp ts i->Cw P (k (i+1))):Cw P (eX ts s i k):=
 uf (λh=>h1 (zm h hs).1 (zm h hs).2) λ_=>trivial
theorem acB{k:List UInt8->Nat->PR}(h1:Sm ts (i+1)=Sm ts i+14+4*(ah ts i).text.length->Dp ts (i+1)=Dp ts i->Cw P (k (ah ts i).text (i+1))):Cw P (jo ts 4 i k):=
 uf (λh=>h1 (NC Om).1 (NC Om).2) λ_=>trivial
theorem acC{k:List UInt8->Nat->PR}(h1:Sm ts (i+1)=Sm ts i+8*Dp ts i+16->Dp ts (i+1)=Dp ts i->Cw P (k (ah ts i).text (i+1))):Cw P (jo ts 1 i k):=
 uf (λh=>h1 (Jg h).1 (Jg h).2) λ_=>trivial
theorem aoy{k:List UInt8->Nat->PR}(h1:Sm ts (i+1)=Sm ts i->Dp ts (i+1)=Dp ts i+1->Cw P (k (ah ts i).text (i+1))):Cw P (jo ts 2 i k):=
 uf (λh=>h1 (acy h).1 (acy h).2) λ_=>trivial
theorem acD{e:Nat}:Cw P (some (.error e)):=trivial
theorem aoz{l:List Nd}{j:Nat}(h:P l j):Cw P (some (.ok (l,j))):=h
theorem sj{n:Nd}{j:Nat}(h:P [n] j):Cw P (bI n j):=h
theorem aoA{A:PR}{B:Nat->Nat->PR}(hA:Cw P A)(a : ∀op j,Sm ts i+18<=Sm ts j->Dp ts j=Dp ts i->Cw P (B op j)):Cw P (match eB ts i with | .error e=>some (.error e) | .ok (0,_)=>A | .ok (op+1,j)=>B op j):=by
 have h : ∀o j,eB ts i= .ok (o,j)->o=0\/(Sm ts i+18<=Sm ts j/\Dp ts j=Dp ts i):=by
  intro o j h;unfold eB at h;repeat' split at h
  all_goals first
   | (cases h;done)
   | (cases h;exact .inl rfl)
   | (cases h;exact .inr (zm ‹_› s0))
   | (cases h;have h1:=zm (ts:=ts) (i:=i) ‹_› s0;have h2:Sm ts (i+1)+18<=Sm ts (i+2)/\Dp ts (i+2)=Dp ts (i+1):=zm (ts:=ts) (i:=i+1) ‹_› s0;exact .inr ⟨Om,Om⟩)
 match b:eB ts i with
 | .error e=>exact trivial
 | .ok (0,_)=>exact hA
 | .ok (op+1,j)=>
   obtain⟨h1,h2⟩:=(h _ _ b).resolve_left s0;exact a op j h1 h2
theorem aoB{a b:PR}(h1:Cw P a)(h2:Sm ts i+18<=Sm ts (i+1)->Dp ts (i+1)=Dp ts i->Cw P b):Cw P (if fm ts i=0 then a else b):=by
 refine uf (λ_=>h1) λh=> ?_;have : ∃s:List UInt8,s≠ []/\ai ts i s=true:=by
  unfold fm at h;repeat' split at h
  all_goals first
   | (refine⟨_,?_,‹ai ts i _=true›⟩;simp;done)
   | exact absurd rfl h
 obtain⟨s,h3,h4⟩:=this;exact h2 (zm h4 h3).1 (zm h4 h3).2
end
theorem ug{d k:Nat}{l:Int}{x:List UInt8}{o:Nat}{ks:List Nd}:uN d false (.mk k l x o ks)=ow k x.length+sd k d+(if k=1 then 4*d+2+uS (d+1) ks else if k=5 then uL d true 0 ks else uS d ks):=by
 by_cases h1:k=1
 ·subst h1;simp only[uN,NW,iT,aM,iF,and_self,FJ,decide_false,Nat.reduceEqDiff,qX];omega
 by_cases h5:k=5
 ·subst h5;simp only[uN,Nat.reduceEqDiff,false_and,iF,iT,decide_true,qX]
 rw[dR h1 h5,iN h1,iN h5]
theorem aoC{d:Nat}(n:Nd):uN d true n<=uN d false n+4:=by
 obtain⟨k,l,x,o,ks⟩:=n;by_cases h1:k=1
 ·subst h1;exact aoa
 have:uN d true (.mk k l x o ks)=uN d false (.mk k l x o ks):=by simp only[uN,h1,iF,false_and]
 omega
theorem aoD{d:Nat}{k:Int}{l:Int}{x:List UInt8}:uN d false (.mk (yW k) l x 0 [])<=7+4*x.length:=by
 unfold yW;repeat' split
 all_goals (rw[dR de de];simp only[ow,sd,uS,Nat.reduceEqDiff,or_self,iF];omega)
theorem aoE{ts:List PT}{f:Nat}(g:Tw ts f):Tw ts (f+1):=by
 intro a i e hi hb;have g : ∀(a:NT) (i e:Nat),a.cI->(a.cB->Dp ts i=e+a.cL)->Cw (Cp ts a i e) (gr ts f a i):=g;cases a;case block=>
  have hb:Dp ts i=e+0:=hb trivial;simp only[gr];refine uf (λh=>aoy λq m=>AP (g (.a9 []) (i+1+1) e trivial λ_=> ?_) λl j ⟨h1,h2,_⟩=>⟨?_,?_,trivial⟩) λh=>vS (g .simple i (e+1) trivial λh=>h.elim) λn j ⟨h1,h2,_⟩=>acC λq m=>sj ⟨?_,?_,trivial⟩;·obtain⟨r,s⟩:=Jg h;simp only[NT.cL];omega
  ·obtain⟨r,s⟩:=Jg h;simp only[NT.cH,NT.cD,NT.cL,uS] at h1 h2⊢;omega
  ·obtain⟨r,s⟩:=Jg h;simp only[NT.cL] at h2⊢;omega
  ·simp only[uS,ug,ow,sd,NT.cH,NT.cD,NT.cL,Nat.reduceEqDiff,or_self,iT,iF] at h1 h2⊢;omega
  simp only[NT.cL] at h2⊢;omega
 case a9 acc=>
  have hb:Dp ts i=e+1:=hb trivial;simp only[gr];refine vS (g .stmt i (e+1) trivial λ_=>hb) λn j ⟨h1,h2,_⟩=>uf (λh=>sj ⟨?_,?_,trivial⟩) λh=>AP (g (.a9 (acc++ [n])) j e trivial λ_=> ?_) λl w ⟨h3,h4,_⟩=>⟨?_,?_,trivial⟩;·obtain⟨r,s⟩:=acz h;simp only[uS,AO,ug,ow,sd,NT.cH,NT.cD,NT.cL,Nat.reduceEqDiff,or_self,iT,iF] at h1 h2⊢;omega
  ·obtain⟨r,s⟩:=acz h;simp only[NT.cL] at h2⊢;omega
  ·simp only[NT.cL] at h2⊢;omega
  ·simp only[uS,AO,NT.cH,NT.cD,NT.cL] at h1 h2 h3 h4⊢;omega
  simp only[NT.cL] at h2 h4⊢;omega
 case maybe k l c=>
  have key:Cw (Cp ts (.maybe k l c) i e) (if iR ts i=true then bu (gr ts f (if c=true then .exprs else .expr) i) λe i1=>bI (nd k l [e]) i1 else bI (nd k l []) i):=by
   refine uf (λ_=> ?_) λ_=>sj ⟨?_,rfl,trivial⟩
   ·have z:Cw (λl j=>uS e l+Sm ts i<=Sm ts j+8/\Dp ts j=Dp ts i) (gr ts f (if c=true then .exprs else .expr) i):=by
     cases c;·exact AP (g .expr i e trivial λh=>h.elim) λl j ⟨h1,h2,_⟩=>⟨by simp only[NT.cH,NT.cD] at h1;omega,h2⟩
     exact AP (g .exprs i e trivial λh=>h.elim) λl j ⟨h1,h2,_⟩=>⟨by simp only[NT.cH,NT.cD] at h1;omega,h2⟩
    refine vS z λn j ⟨h1,h2⟩=>sj ⟨?_,h2,trivial⟩;rcases hi with rfl | rfl | rfl<;>simp only[uS,ug,ow,sd,NT.cH,NT.cD,Nat.reduceEqDiff,or_self,or_true,true_or,iT,iF] at h1⊢<;>omega
   rcases hi with rfl | rfl | rfl<;>simp only[uS,ug,ow,sd,NT.cH,NT.cD,Nat.reduceEqDiff,or_self,or_true,true_or,iT,iF,aF]<;>omega
  simp only[gr];exact key
 case names k l acc=>
  simp only[gr];have hn : ∀(l:Int) (x:List UInt8),uN e false (.mk 36 l x 0 [])=5+x.length:=λl x=>by simp only[ug,ow,sd,uS,Nat.reduceEqDiff,or_self,iF];omega
  refine acB λq m=>CW (xB _ _) (λA B=>AP (g (.names k l _) _ e hi λh=>h.elim) λl j ⟨h1,h2,_⟩=>⟨?_,?_,trivial⟩) (sj ⟨?_,?_,trivial⟩);·simp only[uS,AO,hn,NT.cH,NT.cD] at h1⊢;omega
  ·simp only[NT.cL] at h2⊢;omega
  ·rcases hi with rfl | rfl<;>simp only[uS,AO,ug,ow,sd,NT.cH,NT.cD,Nat.reduceEqDiff,or_self,or_true,true_or,iT,iF,aF]<;>omega
  simp only[NT.cL];omega
 case ifs l=>
  have hb:Dp ts i=e+0:=hb trivial;simp only[gr];refine vS (g .expr i e trivial λh=>h.elim) λc i1 ⟨F,G,_⟩=>ND (xB _ _) λA B=>vS (g .block (i1+1) e trivial λ_=> ?_) λb i3 ⟨H,I,_⟩=>CW (xB _ _) (λC r2=>vS (g (.ifs _) (i3+1) e trivial λ_=> ?_) λx i4 ⟨J,K,D⟩=>sj ⟨?_,?_,?_⟩) (CW (xB _ _) (λC r2=>ND (xB _ _) λL s2=>vS (g .block _ e trivial λ_=> ?_) λy i5 ⟨M,N,_⟩=>sj ⟨?_,?_,?_⟩) (sj ⟨?_,?_,?_⟩));all_goals simp only[NT.cH,NT.cD,NT.cL,NT.cK,List.mem_singleton,forall_eq] at *
  ·omega
  ·omega
  ·have u:=Tu (d:=e) (l:=(ah ts i3).line) (x:= []) (o:=0) D;rw[uS,Ts,u];simp only[uS] at *;omega
  ·omega
  ·rfl
  ·omega
  ·have u:=aoC (d:=e) y;rw[uS,Ts];simp only[uS] at *;omega
  ·omega
  ·rfl
  ·rw[uS,acu];simp only[uS] at *;omega
  ·omega
  rfl
 case jR n acc=>
  simp only[gr];refine aoA (sj ⟨?_,rfl,trivial⟩) λop j q m=>vS (g .arith j e trivial λh=>h.elim) λt w ⟨h1,h2,_⟩=>AP (g (.jR n _) w e trivial λh=>h.elim) λl E ⟨h3,h4,_⟩=>⟨?_,?_,trivial⟩
  ·simp only[NT.cH,NT.cD];split;·simp only[uS];omega
   simp only[uS,ug,ow,sd,Nat.reduceEqDiff,or_self,iF];omega
  ·have u:(acc++ [Nd.mk 43 (ah ts i).line [] (op+1) [t]]).isEmpty=false:=by simp
   simp only[NT.cH,NT.cD,u,uS,AO,ug,ow,sd,Nat.reduceEqDiff,or_self,aM,iF] at h1 h3⊢
   split<;>omega
  simp only[NT.cL] at h2 h4⊢;omega
 case jp l acc=>
  simp only[gr];cases acc.getLast? with
  | none=>
    refine CW (xB _ _) (λ_ _=>trivial) (sj ⟨?_,rfl,trivial⟩);simp only[uS,ug,ow,sd,NT.cH,NT.cD,Nat.reduceEqDiff,or_self,or_true,true_or,iT,iF];omega
  | some p=>
    refine CW (xB _ _) (λq m=>uf (λ_=>vS (g .value (i+1) e trivial λh=>h.elim) λv j ⟨h1,h2,_⟩=>AP (g (.jp l _) j e trivial λh=>h.elim) λl w ⟨h3,h4,_⟩=>⟨?_,?_,trivial⟩) λ_=>trivial) (sj ⟨?_,rfl,trivial⟩);·simp only[uS,AO,NT.cH,NT.cD] at h1 h3⊢;omega
    ·simp only[NT.cL] at h2 h4⊢;omega
    simp only[uS,ug,ow,sd,NT.cH,NT.cD,Nat.reduceEqDiff,or_self,or_true,true_or,iT,iF];omega
 case atom=>
  simp only[gr];refine uf (λh=>sj ?_) λ_=> ?_;·obtain⟨q,m⟩:=NC (ts:=ts) (i:=i) Om;refine⟨?_,m,trivial⟩;have:=aoD (d:=e) (k:=(ah ts i).kind) (l:=(ah ts i).line) (x:=(ah ts i).text);simp only[uS,NT.cH,NT.cD];omega
  repeat' first
   | exact acD
   | (with_reducible refine CW (xB _ _) (λ_ _=> ?_) ?_)
   | (with_reducible refine ND (xB _ _) (λ_ _=> ?_))
   | (with_reducible refine vS (g _ _ e ?_ ?_) λt j ⟨_,_,_⟩=> ?_)
   | (with_reducible refine sj ⟨?_,?_,?_⟩)
  all_goals try first | exact trivial | exactλh=>h.elim
  all_goals clear g hb hi
  all_goals try simp only[uS,ug,ow,sd,NT.cH,NT.cD,NT.cL,aF,Nat.reduceEqDiff,jW,Nat.reduceAdd,or_self,iT,iF] at *
  all_goals omega
 all_goals simp only[gr]
 all_goals repeat' first
  | exact acD
  | (with_reducible refine CW (xB _ _) (λ_ _=> ?_) ?_)
  | (with_reducible refine ND (xB _ _) (λ_ _=> ?_))
  | (with_reducible refine acB (λ_ _=> ?_))
  | (with_reducible refine acC (λ_ _=> ?_))
  | (with_reducible refine aoB ?_ (λ_ _=> ?_))
  | (with_reducible refine vS (g _ _ e ?_ ?_) λt j ⟨_,_,_⟩=> ?_)
  | (with_reducible refine acA (g _ _ e ?_ ?_) λl j ⟨_,_,_⟩=> ?_)
  | (with_reducible refine sj ⟨?_,?_,?_⟩)
  | (with_reducible refine aoz ⟨?_,?_,?_⟩)
  | (with_reducible refine AP (g _ _ e ?_ ?_) λl j ⟨_,_,_⟩=>⟨?_,?_,?_⟩)
  | (with_reducible refine uf (λ_=> ?_) (λ_=> ?_))
 all_goals first
  | exact trivial
  | exactλh=>h.elim
  | exactλ_ _=>trivial
  | skip
 all_goals clear g
 all_goals try clear g
 all_goals simp only[List.isEmpty_nil,jW,Nat.reduceAdd,uS,AO,ug,uL,ow,sd,NT.cH,NT.cD,NT.cL,NT.cB,NT.cI,NT.cK,aF,Nat.reduceEqDiff,or_self,or_true,true_or,iT,iF,true_imp_iff,false_imp_iff,forall_const] at *
 all_goals first
  | omega
  | skip
def wP (t:PT)(d:Nat):Nat:=if t.kind=1 then 8*d+16 else if 4<=t.kind then 14+4*t.text.length else 0
def dP (t:PT)(d:Nat):Nat:=if t.kind=2 then d+1 else if t.kind=3 then d-1 else d
def cs:Nat->List PT->Nat
 | _,[]=>0
 | d,t::r=>wP t d+cs (dP t d) r
def ds:Nat->List PT->Nat
 | d,[]=>d
 | d,t::r=>ds (dP t d) r
theorem FK : ∀ {a b:List PT} {d:Nat},cs d (a++b)=cs d a+cs (ds d a) b
 | [],b,d=>(iZ _).symm
 | t::a,b,d=>by simp only[aS,cs,ds,FK,jW]
theorem Tx : ∀ {a b:List PT} {d:Nat},ds d (a++b)=ds (ds d a) b
 | [],b,d=>rfl
 | t::a,b,d=>by simp only[aS,ds,Tx]
theorem acE{ts:List PT} : ∀ {r:List PT} {i:Nat},ts.drop i=r->Sm ts ts.length=Sm ts i+cs (Dp ts i) r\/ts.length<i
 | [],i,h=>by
   have h1:ts.length<=i:=List.drop_eq_nil_iff.1 h;rcases pE ts.length i with g | g
   ·exact .inr g
   obtain rfl:i=ts.length:=by omega
   exact .inl rfl
 | t::r,i,h=>by
   left;have hi:i<ts.length:=by
    rcases pE i ts.length with g | g
    ·exact g
    rw[List.drop_eq_nil_of_le g] at h;cases h
   rw[List.drop_eq_getElem_cons hi] at h;have h1:ts[i]=t:=(List.cons.inj h).1;have h2:ts.drop (i+1)=r:=(List.cons.inj h).2;have hn:ah ts i=t:=by unfold ah;rw[dx hi,h1]
   have a:=(acE h2).resolve_right Om;rw[a];simp only[cs,Sm,Dp,hn,wP,dP];omega
theorem aoF{ts:List PT} : ∀ {i j:Nat},i<=j->Sm ts i<=Sm ts j:=λh=>by
 induction h with
 | refl=>exact ag _
 | step _ a=>simp only[Sm];omega
theorem aoG{ts:List PT}{j:Nat}(h:j<=ts.length):Sm ts j<=cs 0 ts:=by
 have h1:=(acE (ts:=ts) (i:=0) rfl).resolve_right Om;have h2:=aoF (ts:=ts) h;have h3:Sm ts 0=0:=rfl;have h4:Dp ts 0=0:=rfl;rw[h3,h4] at h1;simp only[sn,iZ] at h1;omega
def tq (t:da):PT:=⟨t.kind,0,t.text⟩
theorem Ty{q:Nat} : ∀ {f:Nat} {l s:List UInt8} {n:Nat},gO q f l=some (s,n)->s.length<=n
 | 0,_,_,_,h=>by cases h
 | f+1,l,s,n,h=>by
   simp only[gO] at h;split at h;·cases h;simp
   split at h;·cases h
   split at h;·rw[jX] at h;obtain⟨⟨y,m⟩,h1,h2⟩:=h;cases h2;have:=Ty h1;simp only[ay];omega
   split at h;·rw[jX] at h;obtain⟨⟨y,m⟩,h1,h2⟩:=h;cases h2;have:=Ty h1;simp only[ay];omega
   cases h
theorem aoH{l:List UInt8}{k n:Nat}{x:List UInt8}(h:fq l=some (k,x,n)):x.length<=n:=by
 unfold fq at h;split at h;·cases h;rw[nU];omega
 split at h
 ·split at h;·cases h
  cases h;rw[nU];omega
 split at h;·rw[jX] at h;obtain⟨⟨y,m⟩,h1,h2⟩:=h;cases h2;have:=Ty h1;simp only;omega
 rw[jX] at h;obtain⟨m,h1,h2⟩:=h;cases h2;rw[nU];omega
theorem Tz{line D:Nat} : ∀ {f:Nat} {t:List UInt8} {d d':Nat} {x:List da},je line f t d=some (x,d')->ds D (x.map tq)=D/\(x= []\/cs D (x.map tq)+18*cq t<=18*t.length)
 | 0,_,_,_,_,h=>by cases h
 | f+1,t,d,d',x,h=>by
   simp only[je] at h;split at h;·cases h;exact⟨rfl, .inl rfl⟩
   rename_i hb;cases ht:fq (t.drop (cq t)) with
   | none=>rw[ht] at h;cases h
   | some z=>
     obtain⟨k,y,n⟩:=z;rw[ht] at h;simp only at h;rw[jX] at h;obtain⟨⟨xs,e⟩,h1,h2⟩:=h;cases h2;have hk:=ab8 ht;have hn:=aoH ht;obtain⟨c,a⟩:=Lp ht;rw[iH] at a;obtain⟨b,g2⟩:=Tz (D:=D) h1;have hd:dP (tq ⟨k,line,y⟩) D=D:=by
      unfold dP tq;simp only;rw[iN Om,iN Om]
     have hw:wP (tq ⟨k,line,y⟩) D=14+4*y.length:=by
      unfold wP tq;simp only;rw[iN Om,iP Om]
     rw[dq];simp only[cs,ds,hd,hw];refine⟨b, .inr ?_⟩;rcases g2 with rfl | g2
     ·simp only[List.map_nil,cs];omega
     rw[iH] at g2;omega
def vT:List Nat->Prop
 | []=>False
 | [n]=>n=0
 | n::m::r=>m<n/\vT (m::r)
theorem vT.len : ∀ {st:List Nat},vT st->1<=st.length/\st.length<=st.headD 0+1
 | [],h=>h.elim
 | [n],_=>⟨s0,s0⟩
 | n::m::r,⟨h1,h2⟩=>by
   have:=(vT.len h2).2;simp only[ay,List.headD_cons] at this⊢;omega
theorem acF{n:Nat} : ∀ {st:List Nat},vT st->vT (st.dropWhile λx=>decide (n<x))
 | [],h=>h.elim
 | [k],h=>by
   obtain rfl:k=0:=h;rw[JA,iN s0];rfl
 | a::b::r,⟨h1,h2⟩=>by
   rw[JA];split;·exact acF h2
   exact⟨h1,h2⟩
theorem acG{m:Nat}{line:Nat} : ∀ {D:Nat},cs D ((kY m (⟨3,line,[]⟩:da)).map tq)=0/\ds D ((kY m (⟨3,line,[]⟩:da)).map tq)=D-m:=by
 induction m with
 | zero=>exactλ{D}=>⟨rfl,rfl⟩
 | succ m a=>
   intro D;rw[Dk,dq];constructor;·show 0+cs (D-1) _=0;rw[a.1]
   show ds (D-1) _=_;rw[a.2];omega
theorem aoI{line n:Nat}{st:List Nat}(h:vT st):vT (dZ line st n).2/\cs (st.length-1) ((dZ line st n).1.map tq)=0/\ds (st.length-1) ((dZ line st n).1.map tq)=(dZ line st n).2.length-1:=by
 have hl:=h.len;unfold dZ;split
 ·rename_i hn;refine⟨?_,rfl,?_⟩
  ·match st,h,hn with
   | a::r,h,hn=>exact⟨hn,h⟩
  show dP (tq ⟨2,line,[]⟩) _=_;have hd : ∀D,dP (tq ⟨2,line,[]⟩) D=D+1:=λD=>rfl;rw[hd,ay];omega
 obtain⟨o1,o2⟩:=acG (m:=(st.takeWhile λx=>decide (n<x)).length) (line:=line) (D:=st.length-1);refine⟨acF h,o1,?_⟩;rw[o2];have:=congrArg List.length (List.takeWhile_append_dropWhile (p:=λx=>decide (n<x)) (l:=st));rw[bW] at this;show _=(st.dropWhile λx=>decide (n<x)).length-1;omega
theorem aoJ{line d d':Nat}{t:List UInt8}{st aT:List Nat}{x:List da}(h:gF line t d st= .ok (x,d',aT))(hs:vT st):vT aT/\ds (st.length-1) (x.map tq)=aT.length-1/\cs (st.length-1) (x.map tq)+(if d'=0 then 0 else 8*(aT.length-1))<=18*(t.length+1)+(if d=0 then 0 else 8*(st.length-1)):=by
 unfold gF at h;split at h;·cases h;refine⟨hs,rfl,?_⟩;simp only[List.map_nil,cs];omega
 rename_i hb;split at h;·cases h
 rename_i hi;cases ht:je line (t.length+1) t d with
 | none=>rw[ht] at h;cases h
 | some z=>
   obtain⟨y,e⟩:=z;rw[ht] at h;simp only[Except.ok.injEq,Prod.mk.injEq] at h;obtain⟨h1,rfl,h3⟩:=h;have c:y≠ []:=(ab9 ht).2 hb;obtain⟨i1,i2,i3⟩:=aoI (line:=line) (n:=cq t) hs;have b : ∀D,cs D ((if e=0 then [(⟨1,line,[]⟩:da)] else []).map tq)=(if e=0 then 8*D+16 else 0)/\ds D ((if e=0 then [(⟨1,line,[]⟩:da)] else []).map tq)=D:=λD=>by
    split;·exact⟨rfl,rfl⟩
    exact⟨rfl,rfl⟩
   by_cases hd:d=0
   ·simp only[hd,iT] at h1 h3;subst h3;obtain⟨t1,t2⟩:=Tz (D:=(dZ line st (cq t)).2.length-1) ht;have t2:=t2.resolve_left c;have hh:(dZ line st (cq t)).2.headD 0=cq t:=by
     by_cases g:(dZ line st (cq t)).2.headD 0=cq t
     ·exact g
     exact absurd ⟨hd,g⟩ hi
    have a:=i1.len.2;rw[hh] at a;rw[<-h1];simp only[qt,FK,Tx,i2,i3,t1,(b _).1,(b _).2,hd,iT];refine⟨i1,trivial,?_⟩;split<;>omega
   simp only[hd,iF] at h1 h3;subst h3;obtain⟨t1,t2⟩:=Tz (D:=st.length-1) ht;have t2:=t2.resolve_left c;rw[<-h1];simp only[a6,qt,FK,Tx,t1,(b _).1,(b _).2,hd,iF];refine⟨hs,trivial,?_⟩;split<;>omega
theorem acH : ∀ {ts:List (List UInt8)} {line d:Nat} {st aT:List Nat} {x:List da},gG line ts d st= .ok (x,aT)->vT st->cs (st.length-1) (x.map tq)<=18*((ts.map List.length).sum+ts.length)+(if d=0 then 0 else 8*(st.length-1))
 | [],line,d,st,aT,x,h,hs=>by
   cases h;exact fa _
 | t::ts,line,d,st,aT,x,h,hs=>by
   simp only[gG] at h;cases a:gF line t d st with
   | error e=>rw[a] at h;cases h
   | ok z=>
     obtain⟨y,d1,c⟩:=z;rw[a] at h;simp only at h;cases b:gG (line+1) ts d1 c with
     | error e=>rw[b] at h;cases h
     | ok z=>
       obtain⟨j,k⟩:=z;rw[b] at h;simp only[Except.ok.injEq,Prod.mk.injEq] at h;obtain⟨rfl,rfl⟩:=h;obtain⟨g,r2,l⟩:=aoJ a hs;have m:=acH b g;rw[qt,FK,r2];simp only[dq,List.sum_cons,ay];omega
theorem aoK{src:List UInt8}{ts:List da}(h:gv src= .ok ts):cs 0 (ts.map tq)<=18*(src.length+1):=by
 unfold gv at h;split at h;·cases h
 cases a:gG 1 (eT src) 0 [0] with
 | error e=>rw[a] at h;cases h
 | ok z=>
   obtain⟨x,st⟩:=z;rw[a] at h;simp only[Except.ok.injEq] at h;have h1:=acH a rfl;rw[<-h,qt,FK];have h2:=HI (src:=src);rw[h2] at h1;simp only[iT,qX,List.length_singleton,Ju] at h1;have h3 : ∀D,cs D ((tB (eT src).length st).map tq)=0:=λD=>by
    unfold tB;rw[qt,FK,acG.1];rfl
   rw[h3];omega
theorem acI{ts:List PT} : ∀f,Tw ts f
 | 0=>λa i e _ _=>trivial
 | f+1=>aoE (acI f)
theorem acJ : ∀(f:Nat) (n:Nd),pu n<=f->nq f n=false
 | 0, .mk _ _ _ _ ks,h=>by simp only[pu] at h;omega
 | f+1, .mk k l x o ks,h=>by
   simp only[pu] at h;show ks.any (nq f)=false;rw[List.any_eq_false];intro m a;have h1:=My a;rw[acJ f m Om];decide
theorem acK(p:Nd->Bool)(h : ∀n,p (nl n)=p n) : ∀ks:List Nd,(aK ks).any p=ks.any p
 | []=>rfl
 | n::ks=>by simp only[aK,List.any_cons,h n,acK p h ks]
theorem TF : ∀(f:Nat) (n:Nd),nq f (nl n)=nq f n
 | 0,n=>rfl
 | f+1, .mk k l x o ks=>acK (nq f) (TF f) ks
mutual
theorem TG : ∀n:Nd,pu (nl n)=pu n
 | .mk k l x o ks=>by simp only[nl,pu,NE ks]
theorem NE : ∀ks:List Nd,eY (aK ks)=eY ks
 | []=>rfl
 | n::ks=>by simp only[aK,eY,TG n,NE ks]
end
theorem acL : ∀ {ts:List da} {d:Nat},cs d (ts.map iD)=cs d (ts.map tq)
 | [],d=>rfl
 | t::ts,d=>by
   rw[dq,dq];show wP (tq t) d+cs (dP (tq t) d) (ts.map iD)=wP (tq t) d+cs (dP (tq t) d) (ts.map tq);rw[acL]
abbrev AQ:Nat:=16000000
theorem NF{ln:Int}{l:List Nd}(h:nm=nd 1 ln l):False:=by
 have:=congrArg Nd.kind h;exact absurd (show(0:Nat)=1 from this) de
theorem aoL{src:List UInt8}{ts:List da}(h:gv src= .ok ts):ts.length<=3*(src.length+1)+2:=by
 unfold gv at h;split at h;·cases h
 cases a:gG 1 (eT src) 0 [0] with
 | error e=>rw[a] at h;cases h
 | ok y=>
   obtain⟨x,st⟩:=y;rw[a] at h;cases h;have h1:=QB a rfl;have h2:=HI (src:=src);simp only[tB,bW,Jz,ay,aF] at h1⊢;omega
theorem acM{src:List UInt8}(h:(cQ src).2.2=0)(hl:src.length<=1000) : ∃ln l,(cQ src).1=nd 1 ln l/\ef l/\(∀n∈l,sK n)/\eY l+1<=60/\16*aq l<AQ/\(bf (pp AQ (.a9 l) 0)).length<=20000:=by
 obtain⟨ln,l,a,d,g,p⟩:=abD h;refine⟨ln,l,a,d,g,p,?_⟩;cases c:gv src with
 | error y=>
   have:cQ src=(nm,(y.1:Int),(y.2:Int)):=by unfold cQ;rw[c]
   rw[this] at a;exact(NF a).elim
 | ok ts=>
   have q:cQ src=jS (ts.map iD):=by unfold cQ;rw[c]
   rw[q] at a;have k:=aoL c;have m:=aoK c;rw[<-acL] at m;have s:(ts.map iD).length=ts.length:=kZ ..;generalize ts.map iD=b at a m s;have h1:=acI (ts:=b) (b.length*64+100) (.top []) 0 0 trivial λ_=>rfl;have h2:=Mz (ts:=b) (b.length*64+100) (.top []) 0 (by first | trivial | simp[NT.hY]) (fa _) (by simp only[NT.kM];omega);have h3:=wZ (ts:=b) (b.length*64+100) (.top []) 0 (by first | trivial | simp[NT.hY]) (fa _) (by simp only[NT.kM];omega);unfold jS at a;generalize gr b (b.length*64+100) (.top []) 0=r at a h1 h2 h3;match r,a,h1,h2,h3 with
   | none,a,_,_,_=>exact(NF a).elim
   | some (.error e),a,_,_,_=>exact(NF a).elim
   | some (.ok (l',j)),a,h1,h2,h3=>
     simp only at a;split at a;·exact(NF a).elim
     have t:l'=l:=congrArg Nd.kids a;subst t;have h4:aq l'+64*0+0<=0+64*j+0:=h2;have h5:j<=b.length:=h3.2.1;have o:16*aq l'<AQ:=by show _<16000000;omega
     refine⟨o,?_⟩;have u:uS 0 l'+0<=Sm b j+0+0:=h1.1;have v:=aoG h5;have w:tl (pp AQ (.a9 l') 0)<=uS 0 l':=acx AQ (.a9 l') 0 o λn hn=>⟨sg d n hn,g n hn⟩;rw[CU];omega
theorem aoM{l:List Nd}{F:Nat}(hw:ef l)(hs : ∀n∈l,sK n)(hh:eY l+1<=60)(k:16*aq l<F)(ht:(bf (pp F (.a9 l) 0)).length<=20000) : ∃ln l',cQ (bf (pp F (.a9 l) 0))=(nd 1 ln l',0,0)/\aK l'=aK l:=by
 have m : ∀n∈l,lY n:=λn hn=>⟨sg hw n hn,hs n hn⟩;by_cases av:l= []
 ·subst av;have e:pp F (.a9 []) 0= []:=by cases F<;>rfl
  rw[e];refine⟨1,[],?_,rfl⟩
  kernel_rfl
 have hb:kC 0 (pp F (.a9 l) 0):=acr F (.a9 l) 0 k av m;obtain⟨c,s,t⟩:=anK hb ht;have u:(c.map iD).map PT.z=gS (pp F (.a9 l) 0)++ [⟨0,0,[]⟩]:=by
  rw[<-t,List.map_map];rfl
 have o:=FE (ps:=pp F (.a9 l) 0) (pre:= []) (post:= [⟨0,0,[]⟩]);rw[a6,aF,iZ] at o;have hk:(ah (gS (pp F (.a9 l) 0)++ [⟨0,0,[]⟩]) (gS (pp F (.a9 l) 0)).length).kind=0:=by
  unfold ah;rw[tu (ag _),Ju];rfl
 obtain⟨f0,d⟩:=anh k m o hk;rw[<-u] at d;have v:cQ (bf (pp F (.a9 l) 0))=jS (c.map iD):=by unfold cQ;rw[s]
 rw[v];generalize c.map iD=a at d;have h3:=wZ (ts:=a) (a.length*64+100) (.top []) 0 (by first | trivial | simp[NT.hY]) (fa _) (by simp only[NT.kM];omega);have hz:=ab7 a (max (a.length*64+100) f0) (.top []) 0;have w:gr (a.map PT.z) (max (a.length*64+100) f0) (.top []) 0=some (.ok (aK l,(gS (pp F (.a9 l) 0)).length)):=d (max (a.length*64+100) f0) (Nat.le_max_right _ _);have b:gr (a.map PT.z) (max (a.length*64+100) f0) (.top []) 0=prz (gr a (max (a.length*64+100) f0) (.top []) 0):=hz;rw[w] at b;cases g:gr a (a.length*64+100) (.top []) 0 with
 | none=>rw[g] at h3;exact h3.elim
 | some r=>
   rw[aae (Nat.le_max_left _ _) g] at b;unfold jS;rw[g];match r,b with
   | .error e,b=>cases b
   | .ok (l',j),b=>
     have q:aK l=aK l':=congrArg (λx:PR=>match x with | some (.ok (l,_))=>l | _=> []) b;have y:eY l'=eY l:=by rw[<-NE l',<-q,NE]
     simp only;rw[iN Om];exact⟨_,l',rfl,q.symm⟩
theorem aoN{src:List UInt8}(h:(cQ src).2.2=0)(hl:src.length<=1000):(gD AQ (cQ src).1).2=0:=by
 obtain⟨ln,l,j,b,c,d,e,g⟩:=acM h hl;obtain⟨k,s2⟩:=amz (ln:=ln) b c e (ag _) g;obtain⟨a,l',t1,t2⟩:=aoM b c d e g;rw[j];unfold gD;have hh:nq 60 (nd 1 ln l)=false:=acJ 60 _ (by show eY l+1<=60;exact d);have hs:kx false (nd 1 a l') (nd 1 ln l)=true:=by
  rw[AC];simp only[nl,t2]
 rw[hh,s2,k,t1,iN de,iN de,iP ⟨rfl,hs⟩]
theorem aoO{F:Nat}{ln:Int}{l:List Nd}(hw:ef l)(hs : ∀n∈l,sK n)(a:16*aq l<F)(b:F<=16000000)(ht:(bf (pp F (.a9 l) 0)).length<=20000):(jU F (nd 1 ln l)).w<=20000:=by
 obtain⟨_,h2,_,_⟩:=abA F b (.a9 l) tY 0 Om ⟨hw,hs⟩ a rfl rfl (by show 0+_<=20000;omega);have:(jU F (nd 1 ln l)).w=0+(bf (pp F (.a9 l) 0)).length:=h2;omega
theorem aoP{src:List UInt8}(h:(cQ src).2.2=0)(hl:src.length<=1000):(jU AQ (cQ src).1).w<=20000:=by
 obtain⟨ln,l,a,b,c,g,d,e⟩:=acM h hl;rw[a];exact aoO b c d (ag _) e
theorem aoQ{F:Nat}{n m:Nd}(h:nl n=nl m)(c:jU F n=jU F m):gD F n=gD F m:=by
 unfold gD;have h1:nq 60 n=nq 60 m:=by rw[<-TF,h,TF]
 have h2 : ∀a,kx false a n=kx false a m:=λa=>by
  cases b:kx false a m with
  | true=>rw[AC] at b⊢;rw[b,h]
  | false=>
    cases hp:kx false a n with
    | false=>rfl
    | true=>
      rw[AC] at hp;exact absurd ((AC a m).2 (hp.trans h)) (by rw[b];decide)
 rw[h1,c,h2]
end
section
open Go Go.RowKit
set_option maxRecDepth 4000
theorem aoR{s:List UInt8}(h:(cQ s).2.2=0):s.length<=20000:=by
 rcases pE 20000 s.length with g | g
 ·exfalso;have e:cQ s=(nm,0,24):=by unfold cQ gv;rw[iP g];rfl
  rw[e] at h;exact absurd h de
 exact g
theorem aoS(F:Nat)(n:Nd):(gD F n).2=0\/(gD F n).2=3:=by
 unfold gD;repeat' split
 all_goals simp
theorem aoT{F:Nat}{n:Nd}(h:(gD F n).2=0):(cQ (gD F n).1).2.2=0/\kx false (cQ (gD F n).1).1 n=true/\gD F (cQ (gD F n).1).1=gD F n/\jU F (cQ (gD F n).1).1=jU F n:=by
 have c:gD F n=((gD F n).1,0):=by rw[<-h]
 obtain⟨d,a⟩:=alL c;have b:=alK F _ _ a;refine⟨?_,(AC _ _).2 a,aoQ a b,b⟩;have h2:=h;unfold gD at h2;split at h2;·cases h2
 split at h2;·cases h2
 split at h2;·rename_i hh;rw[d];exact hh.1
 cases h2
section
variable {Z:TP} {X:ce}
attribute [local irreducible] TC
theorem aoU : ∀(N:Nat) (k:Nat) (l:Int) (x:List UInt8) (o:Nat) (ks:List Nd),tU (.mk k l x o ks)<N->eY ks+1<=9223372036854775807->∀(Q:AV->List SV->Prop) (R:Value->Prop),Q (rS (.int .i64 (eY ks+1:Nat))) []->TC Z TL X 12 [eC (.mk k l x o ks)] none Q R:=by
 intro N;induction N with
 | zero=>intro k l x o ks h;exact absurd h (su _)
 | succ N r=>
 intro k l x o ks y z Q R u;refine ky kz Rl Kr (bq ?_)
 conv=>whnf
 refine Z7 4 3 (λm a b s=>∃i h:Nat,a=rS (.int .i64 (i:Nat))/\b=rS (.int .i64 (h:Nat))/\s=⟨0,[Fb (.mk k l x o ks)]⟩/\m+i=ks.length/\max h (eY (ks.drop i))=eY ks) ks.length [] rfl ⟨0,0,rfl,rfl,rfl,rfl,Nat.zero_max _⟩ ?_;rintro m a b f s ⟨i,h,rfl,rfl,rfl,A,hp⟩;conv=>whnf
 intro d;conv=>whnf
 refine b9 (λhc=> ?_) λhc=> ?_
 ·have hi:i<ks.length:=by simp[c8] at hc;omega
  obtain⟨t,ht⟩ : ∃t,ks[i]? = some t:=⟨_,dx hi⟩;have hd:=aar ht;have B:=E5 (sq ht) (k:=k) (l:=l) (x:=x) (o:=o);have v:=My (sq ht);obtain⟨k1,g,j,o1,c⟩:=t;have w:pu (.mk k1 g j o1 c)=eY c+1:=rfl;conv=>whnf
  refine⟨rfl,i,_,rfl,jr ht,?_⟩;conv=>whnf
  refine r k1 g j o1 c Om Om _ _ ?_;conv=>whnf
  rw[c8] at d;refine⟨m-1,[],Om,rfl,i+1,max h (eY c+1),congrArg (λn=>rS (.int .i64 n)) (Cj hi d),?_,rfl,Om,by rw[<-hp,hd,w,Nat.max_assoc]⟩;exact congrArg (λn=>rS (.int .i64 n)) (aav h (eY c+1))
 have hi:i=ks.length:=by simp[c8] at hc;omega
 subst hi;have hp:h=eY ks:=by rw[<-hp,List.drop_length];exact(Nat.max_zero _).symm
 subst hp;conv=>whnf
 exact Mx (congrArg (λn=>rS (.int .i64 n)) (Cj (nX _) (by rw[nM];omega))) rfl u
end
theorem acN{K:CH}{A:Nat->Prop}(hA : ∀b,A b->b<K.nx){a:Nd}{os:List Value}(h:fk K A (lr a) os)(hh:pu a<=9223372036854775807):bw TL 12 [.agg os.toArray] K λv K'=>aI K K'/\v= .int .i64 (pu a:Nat):=by
 obtain⟨k,l,x,o,ks⟩:=a;obtain⟨w,_,rfl,hw,hn⟩:=w7 (rest:= []) (by simpa using h);cases hn;have c:=Ck hA (k:=k) (l:=l) (x:=x) (o:=o) hw;exact(IE (X:=pX) (aoU (tU (.mk k l x o ks)+1) k l x o ks (nX _) hh (λa _=>a=rS (.int .i64 (eY ks+1:Nat))) _ rfl) c).mono λv K' ⟨h1,a,d,h2,h3⟩=>⟨h1,by subst h3;exact ox h2 rfl⟩
def TH:List UInt8:= [97,32,61,32,49]
def acO:Nd:=nd 1 1 [nd 3 1 [.mk 36 1 [97] 0 [], .mk 30 1 [49] 0 []]]
theorem aoV:cQ TH=(acO,0,0):=by kernel_rfl
theorem aoW(F:Nat):gD F nm=([],3):=by
 have h1:(jU F nm).bad=false/\(jU F nm).out= []:=by cases F<;>exact⟨rfl,rfl⟩
 have h2:nq 60 nm=false:=rfl;have h3:cQ []=(nd 1 1 [],0,0):=by kernel_rfl
 unfold gD;rw[h2,h1.1,h1.2,h3,iN de,iN de,iN (by rintro⟨_,g⟩;exact absurd g de)]
theorem aoX{ts:List PT}(h:(jS ts).2.2≠0):(jS ts).1=nm/\((jS ts).2.2=11\/(jS ts).2.2=22):=by
 unfold jS at h⊢;split at h
 ·split at h;·rename_i hh;rw[iP hh];exact⟨rfl, .inl rfl⟩
  exact absurd rfl h
 ·exact⟨rfl, .inr rfl⟩
 exact absurd rfl h
theorem acP{H:CH}{q:Option Addr}{c:Nat}{a:List UInt8}(h:fU 1 (mM .u8) H q c (mh a)){F:Nat}(s:(jU F (cQ a).1).w<=nu)(hk:(cQ a).2.2=0->(gD F (cQ a).1).2≠0->1000<a.length):bw TL 5 [.slice q a.length c] H λv _=>v= .bool true:=by
 refine y7 Rl Kr (bq ?_);repeat' (first | (simp (maxSteps:=2000000) (disch:=first | omega | (decide +kernel)) only[↓RD,RU,↓cm,↓cV,↓du,fZ,pop,fV,cy,kH,isVal,Value.cells,ρ0,ρ1,ρ4,↓reduceIte,Nat.reduceAdd,Int.reduceOfNat,ρ7,ρ8,ρ19,ρ20,Kd.eM,ρ25,ρ26,j8,Nat.reduceLeDiff,Od]) | ((with_reducible first|apply bL|apply bM|apply bN)<;>intro _))
 refine(ME (src:=TH) (RT (src:=TH) (p:=H.nx) (nX _) ((fZ.trans (iP rfl)).trans rfl) (by rw[nM];decide))).mono ?_;rintro v K0 ⟨vs,rfl,iw,uZ,rfl,R9⟩;rw[aoV] at R9⊢;obtain⟨w0,_,rfl,EH,fW⟩:=w7 (rest:= []) (by simpa[acO] using R9);cases fW;obtain⟨q0,rfl,_,_,_⟩:=R5 EH;have MN:aI H K0:=((aI.refl H).new _).trans iw;refine dh ?_;have A:aI K0 ((K0.new (.cells [.int .i64 0, .int .i64 0, .string ⟨⟨[]⟩⟩, .int .i64 0, .slice none 0 0] 26 .ex)).set K0.nx (.cells [.int .i64 (1:Nat), .int .i64 1, .string ⟨⟨[]⟩⟩, .int .i64 (0:Nat), .slice q0 1 1] 26 .ex)):=((aI.refl K0).new _).set (ag _) _;generalize (K0.new (.cells [.int .i64 0, .int .i64 0, .string ⟨⟨[]⟩⟩, .int .i64 0, .slice none 0 0] 26 .ex)).set K0.nx (.cells [.int .i64 (1:Nat), .int .i64 1, .string ⟨⟨[]⟩⟩, .int .i64 (0:Nat), .slice q0 1 1] 26 .ex)=K1 at A⊢;have gB:=MN.trans A;refine(RX (fU.hY (mM.hY _) gB h)).mono ?_;rintro v K2 ⟨nc,hv⟩;have hA:=fU.hY (mM.hY _) (gB.trans nc) h;cases o:gv a with
 | error y=>
   rw[o] at hv;have hv:v= .tuple #[.slice none 0 0, .int .i64 y.1, .int .i64 y.2]:=hv;subst hv;have hy : ¬((y.2:Int)=0):=by
    have:y.2=20\/y.2=21\/y.2=24:=by
     by_cases hl:a.length<=20000
     ·rcases(Lw hl o).2 with e | e
      ·exact .inl e
      exact .inr (.inl e)
     unfold gv at o;rw[iP Om] at o;cases o;exact .inr (.inr rfl)
    omega
   refine rn @hy ?_;have es:cQ a=(nm,(y.1:Int),(y.2:Int)):=by unfold cQ;rw[o]
   refine(ME hA).mono ?_;rintro v d ⟨vs,rfl,Cs,os,rfl,t⟩;rw[es] at t⊢;obtain⟨w3,_,rfl,hw3,MP⟩:=w7 (rest:= []) (by simpa[nm] using t);cases MP;obtain⟨q3,rfl,_,qD,_⟩:=R5 hw3;exact rz @hy
 | ok ts=>
   rw[o] at hv;obtain⟨vt,rfl,hg⟩:=hv;have hlen:=R0 o;obtain⟨q',c',rfl,hs⟩:=R4 (RR hg) Om;refine dh ?_;have es:cQ a=jS (ts.map iD):=by unfold cQ;rw[o]
   refine(ME hA).mono ?_;rintro v d ⟨vs,rfl,Cs,os,rfl,t⟩;rw[es] at t s hk⊢;have hlu:(ts.map iD).length=ts.length:=kZ _;have B:= @aoX (ts.map iD);rw[<-es] at B;obtain⟨i1,i2,i3,i4,C,D,E,rfl⟩:=E7 t;have MP:=Cs.nx;refine dh ?_;have AA:aI d ((d.new (.cells [.int .i64 0, .int .i64 0, .string ⟨⟨[]⟩⟩, .int .i64 0, .slice none 0 0] 26 .ex)).set d.nx (.cells [.int .i64 i1, .int .i64 i2, .string i3, .int .i64 i4, .slice C D E] 26 .ex)):=((aI.refl d).new _).set (ag _) _;have Sr:((d.new (.cells [.int .i64 0, .int .i64 0, .string ⟨⟨[]⟩⟩, .int .i64 0, .slice none 0 0] 26 .ex)).set d.nx (.cells [.int .i64 i1, .int .i64 i2, .string i3, .int .i64 i4, .slice C D E] 26 .ex)).nx=d.nx+1:=rfl;have oa:((d.new (.cells [.int .i64 0, .int .i64 0, .string ⟨⟨[]⟩⟩, .int .i64 0, .slice none 0 0] 26 .ex)).set d.nx (.cells [.int .i64 i1, .int .i64 i2, .string i3, .int .i64 i4, .slice C D E] 26 .ex)).ob d.nx= .cells [.int .i64 i1, .int .i64 i2, .string i3, .int .i64 i4, .slice C D E] 26 .ex:=iA.trans (iP rfl);generalize (d.new (.cells [.int .i64 0, .int .i64 0, .string ⟨⟨[]⟩⟩, .int .i64 0, .slice none 0 0] 26 .ex)).set d.nx (.cells [.int .i64 i1, .int .i64 i2, .string i3, .int .i64 i4, .slice C D E] 26 .ex)=K4 at AA Sr oa⊢;refine(RW (sl:=⟨q',ts.length,c'⟩) (ts:=ts.map iD) (ajR hs (Cs.trans AA)) hlu.symm Om).mono ?_;rintro v m ⟨vs,rfl,TI,os5,rfl,Fg⟩;have hn5:=TI.nx;have G:=(TI.ob d.nx Om).trans oa;obtain⟨j1,j2,j3,j4,jq,kn,kc,rfl⟩:=E7 Fg;have av : ¬d.nx=m.nx:=by omega
   rw[<-es] at Fg t s hk⊢;generalize dm:(cQ a).2.1=ln;refine rn (an @G @av) ?_;have AB:aI m ((m.new (.cells [.int .i64 0, .int .i64 0, .string ⟨⟨[]⟩⟩, .int .i64 0, .slice none 0 0] 26 .ex)).set m.nx (.cells [.int .i64 j1, .int .i64 j2, .string j3, .int .i64 j4, .slice jq kn kc] 26 .ex)):=((aI.refl m).new _).set (ag _) _;have hn6:((m.new (.cells [.int .i64 0, .int .i64 0, .string ⟨⟨[]⟩⟩, .int .i64 0, .slice none 0 0] 26 .ex)).set m.nx (.cells [.int .i64 j1, .int .i64 j2, .string j3, .int .i64 j4, .slice jq kn kc] 26 .ex)).nx=m.nx+1:=rfl;generalize (m.new (.cells [.int .i64 0, .int .i64 0, .string ⟨⟨[]⟩⟩, .int .i64 0, .slice none 0 0] 26 .ex)).set m.nx (.cells [.int .i64 j1, .int .i64 j2, .string j3, .int .i64 j4, .slice jq kn kc] 26 .ex)=I at AB hn6⊢;have aoY:aI d I:=(AA.trans TI).trans AB;have J:=t.mv (K':=I) (A':=λb=>b<d.nx) λb hb=>⟨hb.2,aoY.ob b hb.2⟩;have hsM:=Fg.mv (K':=I) (A':=λb=>b<m.nx) λb hb=>⟨hb.2,AB.ob b hb.2⟩;have yt:=aaH true (λq j=>show q<I.nx by have:q<d.nx:=j;omega) (λq j=>show q<I.nx by have:q<m.nx:=j;omega) J hsM;rw[aaJ] at yt;refine yt.mono ?_;rintro v K7 ⟨xd,rfl⟩;have hn7:=xd.nx;have K:=(xd.ob d.nx Om).trans ((AB.ob d.nx Om).trans G);refine rn @K ?_;have L:=J.mv (K':=K7) (A':=λb=>b<d.nx) λb hb=>⟨hb,xd.ob b Om⟩;refine(aa' (λq j=>show q<K7.nx by have:q<d.nx:=j;omega) L (f:=F) (λ_=>s)).mono ?_;rintro v u ⟨Fh,rfl⟩;have hn8:=Fh.nx;have M:=(Fh.ob d.nx Om).trans K;by_cases he:(cQ a).2.2=0
   ·have hk:=hk he;rw[he];have eL:= @aoT F (cQ a).1;have h23:=aoS F (cQ a).1;have hhN:pu (cQ a).1<=60:=by
     obtain⟨ln,l,e1,_,_,e2⟩:=abD he;rw[e1];exact e2
    by_cases x:(gD F (cQ a).1).2=0
    ·obtain⟨z,p2,p3,p4⟩:=eL x;have kK:=aoR z;have TJ:pu (cQ (gD F (cQ a).1).1).1=pu (cQ a).1:=by
      rw[<-TG,(AC _ _).1 p2,TG]
     rw[x];rw[<-p4] at s;generalize gD F (cQ a).1=ra at z p2 p3 x kK s TJ⊢;obtain⟨n,ga⟩:=ra;simp only at z p2 p3 x kK s TJ⊢;have pv:(⟨⟨n⟩⟩:ByteArray).size=n.length:=rfl;refine rn (an @M @pv) ?_;have oJ:aI u (u.new (.cells (qf n) 5 .gr)):=(aI.refl u).new _;have N:fU 1 (mM .u8) (u.new (.cells (qf n) 5 .gr)) (some ⟨u.nx,0,none⟩) n.length (mh n):=RT (by rw[gN];omega) (fZ.trans (iP rfl)) (by rw[nM];omega);show bw TL 10 _ (u.new (.cells (qf n) 5 .gr)) _;generalize u.new (.cells (qf n) 5 .gr)=K9 at oJ N;have hn9:=oJ.nx;refine(RX N).mono ?_;rintro v K10 ⟨TK,hv⟩;have apS:=TK.nx;cases O:gv n with
     | error y=>
       exfalso;have e:cQ n=(nm,(y.1:Int),(y.2:Int)):=by unfold cQ;rw[O]
       rw[e] at z;have z:(y.2:Int)=0:=z;rcases(Lw kK O).2 with e | e<;>omega
     | ok Q=>
       rw[O] at hv;obtain⟨vu,rfl,jJ⟩:=hv;have Yh:=R0 O;obtain⟨q2,c2,rfl,wz⟩:=R4 (RR jJ) Om;have es2:cQ n=jS (Q.map iD):=by unfold cQ;rw[O]
       have aoZ:(Q.map iD).length=Q.length:=kZ _;refine dh ?_;refine(RW (sl:=⟨q2,Q.length,c2⟩) (ts:=Q.map iD) wz aoZ.symm Om).mono ?_;rintro v g ⟨vs,rfl,TM,apT,rfl,TN⟩;have apU:=TM.nx;rw[<-es2] at TN⊢;rw[z];obtain⟨R,S,T,U,V,W,Y,rfl⟩:=E7 TN;have acS:=(TM.ob d.nx Om).trans ((TK.ob d.nx Om).trans ((oJ.ob d.nx Om).trans M));have ao0 : ¬d.nx=g.nx:=by omega
       refine rn (an @acS @ao0) ?_;have NG:aI g ((g.new (.cells [.int .i64 0, .int .i64 0, .string ⟨⟨[]⟩⟩, .int .i64 0, .slice none 0 0] 26 .ex)).set g.nx (.cells [.int .i64 R, .int .i64 S, .string T, .int .i64 U, .slice V W Y] 26 .ex)):=((aI.refl g).new _).set (ag _) _;have ao1:((g.new (.cells [.int .i64 0, .int .i64 0, .string ⟨⟨[]⟩⟩, .int .i64 0, .slice none 0 0] 26 .ex)).set g.nx (.cells [.int .i64 R, .int .i64 S, .string T, .int .i64 U, .slice V W Y] 26 .ex)).nx=g.nx+1:=rfl;have acT:((g.new (.cells [.int .i64 0, .int .i64 0, .string ⟨⟨[]⟩⟩, .int .i64 0, .slice none 0 0] 26 .ex)).set g.nx (.cells [.int .i64 R, .int .i64 S, .string T, .int .i64 U, .slice V W Y] 26 .ex)).ob g.nx= .cells [.int .i64 R, .int .i64 S, .string T, .int .i64 U, .slice V W Y] 26 .ex:=iA.trans (iP rfl);generalize (g.new (.cells [.int .i64 0, .int .i64 0, .string ⟨⟨[]⟩⟩, .int .i64 0, .slice none 0 0] 26 .ex)).set g.nx (.cells [.int .i64 R, .int .i64 S, .string T, .int .i64 U, .slice V W Y] 26 .ex)=NH at NG ao1 acT⊢
       have hsO:=TN.mv (K':=NH) (A':=λb=>b<g.nx) λb hb=>⟨hb.2,NG.ob b hb.2⟩;have ao2:aI K7 NH:=(((Fh.trans oJ).trans TK).trans TM).trans NG;have ao3:=L.mv (K':=NH) (A':=λb=>b<d.nx) λb hb=>⟨hb,ao2.ob b Om⟩;have ao4:=(NG.ob d.nx Om).trans acS;refine(aa' (λq j=>show q<NH.nx by have:q<g.nx:=j;omega) hsO (f:=F) (λ_=>s)).mono ?_;rintro v NI ⟨Jj,rfl⟩;have apV:=Jj.nx;rw[p3];have acU:=(Jj.ob d.nx Om).trans ao4;have acV:=(Jj.ob g.nx Om).trans acT;refine rn (jI @x @acU @acV @Ho) ?_;have acW:=hsO.mv (K':=NI) (A':=λb=>b<g.nx) λb hb=>⟨hb,Jj.ob b Om⟩;have acX:=ao3.mv (K':=NI) (A':=λb=>b<d.nx) λb hb=>⟨hb,Jj.ob b Om⟩;have acY:=aaH false (λq j=>show q<NI.nx by have:q<g.nx:=j;omega) (λq j=>show q<NI.nx by have:q<d.nx:=j;omega) acW acX;rw[p2] at acY;refine acY.mono ?_;rintro v TO ⟨Jk,rfl⟩;have apW:=Jk.nx;have TQ:=(Jk.ob d.nx Om).trans acU;have ao5:=(Jk.ob g.nx Om).trans acV;refine rn (an @TQ @ao5) ?_;have ao6:=acW.mv (K':=TO) (A':=λb=>b<g.nx) λb hb=>⟨hb,Jk.ob b Om⟩;have ao7:=acX.mv (K':=TO) (A':=λb=>b<d.nx) λb hb=>⟨hb,Jk.ob b Om⟩;refine(acN (λq j=>show q<TO.nx by have:q<g.nx:=j;omega) ao6 Om).mono ?_;rintro v K15 ⟨TT,rfl⟩;have apX:=TT.nx;have acZ:=(TT.ob d.nx Om).trans TQ;refine rn @acZ ?_;have ao8:=ao7.mv (K':=K15) (A':=λb=>b<d.nx) λb hb=>⟨hb,TT.ob b Om⟩;refine(acN (λq j=>show q<K15.nx by have:q<d.nx:=j;omega) ao8 Om).mono ?_;rintro v K16 ⟨apY,rfl⟩;rw[TJ];exact rz (an @TQ @acZ)
    have hk:=hk x;have h3:=h23.resolve_left x;rw[h3];have h5:(1000:Int)<(a.length:Int):=by omega
    exact rz (an @M @h5)
   obtain⟨z1,z2⟩:=B he;rw[z1,aoW];generalize (cQ a).2.2=er at z2 he;rcases z2 with rfl | rfl
   ·exact rz @M
   exact rz @M
theorem adg{H:CH}{q:Option Addr}{c:Nat}{xs:List Int}(h:fU 1 (mM .u8) H q c xs):bw TL 5 [.slice q xs.length c] H λv _=>v= .bool true:=by
 obtain⟨a,rfl⟩:=agQ h;rw[HJ];by_cases hs:a.length<=1000/\(cQ a).2.2=0
 ·obtain⟨F,b,d⟩ : ∃F:Nat,(jU F (cQ a).1).w<=20000/\(gD F (cQ a).1).2=0:=⟨AQ,aoP hs.2 hs.1,aoN hs.2 hs.1⟩;exact acP h (Nat.le_trans b de) λ_ g=>absurd d g
 obtain⟨F,e⟩ : ∃F:Nat,110000000<=F:=⟨_,ag _⟩;exact acP h (alJ e a) λhe _=>by
  rcases pE 1000 a.length with g | g
  ·exact g
  exact absurd ⟨g,he⟩ hs
end
end Can
end Go.Proofs.YtdfgkcoenagaaaaGreat
