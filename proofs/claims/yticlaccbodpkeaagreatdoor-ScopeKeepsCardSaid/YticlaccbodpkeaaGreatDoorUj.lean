/- ScopeKeeps: lists of scopes copied. ScopeClosed, the plain law: what Check answers is closed. No program in sight. ScopeKeeps: the law. The library's table lies where the card says. -/
import Derived.Test.YticlaccbodpkeaaGreatDoorUa
import Derived.Test.YticlaccbodpkeaaGreatDoorUi
import Derived.Test.YticlaccbodpkeaaGreatDoorUg
import Derived.Test.YticlaccbodpkeaaGreatDoorRows
import Derived.Lib.LaidU8
import Derived.LaidSub
open Bool renaming and_true → pL
open Go renaming Value → ae
open Go.Value renaming cells → ci
open Int renaming toNat_natCast → fJ
open List renaming all_cons → qw, all_nil → uB, append_nil → gY, cons_append → gZ, drop_nil → tz, drop_succ_cons → kc, drop_zero → gI, flatMap_append → zZ, getElem?_append_left → qo, getElem?_cons_succ → e9, getElem?_cons_zero → eZ, getElem?_eq_getElem → cj, getElem?_set → YY, length_append → cG, length_cons → bN, length_drop → lB, length_map → eR, length_nil → bZ, length_replicate → Jo, map_cons → c8, map_nil → iw, mem_of_getElem? → fD, nil_append → ju, replicate → j8, size_toArray → jt, take_nil → tB, take_succ_cons → qx, toList_toArray → jS
open Nat renaming le_refl → ai, lt_of_lt_of_le → cQ, lt_succ_of_lt → qu, lt_succ_self → fN, mul_one → fp, ne_of_lt → Jq, not_lt_zero → fW, zero_add → ba, zero_le → bR
open Option renaming map_some → dC
set_option maxRecDepth 4000
set_option maxHeartbeats 4000000
set_option linter.unusedSimpArgs false
set_option linter.unusedVariables false
namespace Go.Proofs.YticlaccbodpkeaaGreatDoor
namespace Can
section
open Go Go.RowKit
theorem aqO{M:CH}{A:Nat->Prop}{v:ae}{xs:List Bs}{x:Nat}{kd:Kd}(h:lO M A v xs)(hx:M.ob x= .cells [] 9 kd)(hk:kd.bY=false)(d:x<M.nx)(hl:xs.length<=4398046511104){Q:ae->CH->Prop}(k : ∀a M',lO M' (λb=>x<=b/\b<M'.nx) (.slice a xs.length xs.length) xs->M.nx<=M'.nx->(∀b,b<M.nx->b≠x->M'.ob b=M.ob b)->Q (.slice a xs.length xs.length) M'):uV (Pf (oj M 1 v) 9 1 16 (.slice (some ⟨x,0,none⟩) 0 0) M) Q:=by
 rw[h.src,kO];refine yS (A:= { nx:=x,ob:=M.ob }) (f:=fU) (xs:=([]:List Bs)) (ys:=xs) BI (.inr ⟨x,kd,rfl,ai _,d,hx,hk⟩) ⟨Nat.le_of_lt d,λ_ _=>rfl⟩ (by simp only[bZ];omega) (by simp only[bZ];omega) rfl rfl λv' K' g1 g2 g3 g4=> ?_;rw[ju] at g1;obtain⟨a,rfl⟩:=g1.F9.len;exact k a K' g1.F9 g3 λb hb aB=>g4 b hb λo n c e=>by cases e;exact aB rfl
theorem Sb{c:CH}{A:Nat->Prop}{v:ae}{xs:List Bs}{lit:dD}(h:lO c A v xs)(hA : ∀b,A b->b<c.nx)(d:lit= .cells [] 9 .ex)(hl:xs.length<=4398046511104){Q:ae->CH->Prop}(k : ∀a M',ag c M'->lO M' (λb=>c.nx<=b/\b<M'.nx) (.slice a xs.length xs.length) xs->Q (.slice a xs.length xs.length) M'):uV (Pf (oj (c.new lit) 1 v) 9 1 16 (.slice (some ⟨c.nx,0,none⟩) 0 0) (c.new lit)) Q:=by
 subst d;refine aqO (A:=A) (h.mv λb hb=>⟨hb,bL (Jq (hA b hb))⟩) iu rfl (fN _) hl λa M' g1 g2 g3=> ?_;exact k a M' ⟨Nat.le_trans (Nat.le_succ _) g2,λb hb=>(g3 b (qu hb) (Jq hb)).trans (bL (Jq hb))⟩ g1
def B0(K:CH)(A:Nat->Prop)(v:ae)(st:List al):Prop:=(st= []/\v= .slice none 0 0)\/∃r kd LL,v= .slice (some ⟨r,0,none⟩) st.length st.length/\BZ K A r kd LL st
theorem B0.mv{K K':CH}{A B:Nat->Prop}{v:ae}{st:List al}(h:B0 K A v st)(g : ∀b,A b->B b/\K'.ob b=K.ob b):B0 K' B v st:=by
 rcases h with h | ⟨r,kd,LL,e,h⟩
 ·exact .inl h
 exact .inr ⟨r,kd,LL,e,h.mv g⟩
theorem afU{K:CH}{A B:Nat->Prop}{v w:ae}{st:List al}(hA : ∀b,A b->b<K.nx)(j : ∀b,B b->b<K.nx)(h:B0 K A v st)(g:B0 K B w st):aQ yn 14 [v,w] K λv K'=>ag K K'/\v= .bool true:=by
 rcases h with ⟨rfl,rfl⟩ | ⟨r,kd,LL,rfl,h⟩
 ·rcases g with ⟨_,rfl⟩ | ⟨l,m,o,rfl,g⟩
  ·refine dq Rl Kr (aK ?_);refine aM ?_;refine ef (λn fr a=>NJ K 0 n (fr 5) a) (n:=0) ⟨0,rfl,bR _,by(refine aM ?_;all_goals rfl),ag.refl _⟩ ?_;rintro n fr a ⟨i,rfl,hi,f5,hx⟩ c;have d:i=0:=by omega
   subst d;refine rn (an @c @f5) ?_;exact hx
  refine dq Rl Kr (aK ?_);refine aM ?_;refine ef (λn fr a=>NJ K 0 n (fr 5) a) (n:=0) ⟨0,rfl,bR _,by(refine aM ?_;all_goals rfl),ag.refl _⟩ ?_;rintro n fr a ⟨i,rfl,hi,f5,hx⟩ c;have d:i=0:=by omega
  subst d;refine rn (an @c @f5) ?_;exact hx
 rcases g with ⟨rfl,rfl⟩ | ⟨l,m,o,rfl,g⟩
 ·refine dq Rl Kr (aK ?_);refine aM ?_;refine ef (λn fr a=>NJ K 0 n (fr 5) a) (n:=0) ⟨0,rfl,bR _,by(refine aM ?_;all_goals rfl),ag.refl _⟩ ?_;rintro n fr a ⟨i,rfl,hi,f5,hx⟩ c;have d:i=0:=by omega
  subst d;refine rn (an @c @f5) ?_;exact hx
 exact aqN hA j h g
def aqQ(K:CH)(st:List al)(n:Nat)(v3 v4:ae)(a:CH):Prop:=∃(i:Nat) (acc:List F7),n=st.length-i/\i<=st.length/\v4= .int .i64 (i:Nat)/\ag K a/\eV K 40 7 ql a v3 acc/\acc.length=i/\∀(p:Nat) (F:al) (L:F7),st[p]? = some F->acc[p]? = some L->∃vp vl vc vf,ql L= [.string (tx F.nm), .int .i64 F.par,vp,vl,vc,vf, .bool F.gen]/\∀v xs,(v,xs)∈ [(vp,F.ps),(vl,F.ls),(vc,F.cs),(vf,F.fs)]->lO a (λb=>K.nx<=b/\b<a.nx/\∀o n c,v3≠ .slice (some ⟨b,o,none⟩) n c) v xs
theorem aqR{K:CH}{A:Nat->Prop}{v:ae}{st:List al}(hA : ∀b,A b->b<K.nx)(h:B0 K A v st):aQ yn 15 [v] K λw K'=>ag K K'/\B0 K' (λb=>K.nx<=b/\b<K'.nx) w st:=by
 have hv : ∃a,v= .slice a st.length st.length:=by
  rcases h with ⟨rfl,rfl⟩ | ⟨r,kd,LL,rfl,h⟩
  ·exact⟨_,rfl⟩
  exact⟨_,rfl⟩
 obtain⟨a0,rfl⟩:=hv;have hs:st.length<=1099511627776:=by
  rcases h with ⟨rfl,_⟩ | ⟨r,kd,LL,_,h⟩
  ·exact bR _
  exact h.sm.1
 refine dq Rl Kr (aK ?_);refine aM ?_;refine ef (λn fr d=>aqQ K st n (fr 3) (fr 4) d) (n:=st.length) ⟨0,[],rfl,bR _,by(refine aM ?_;all_goals rfl),ag.refl _,by(refine aM ?_;exact eV.nil),rfl,λp F L _ e=>by simp at e⟩ ?_;rintro n fr d ⟨i,acc,rfl,hi,f4,hx,G,t,T⟩ U;obtain⟨v3,x⟩ : ∃v3,v3=fr 3:=⟨_,rfl⟩;rw[<-x] at G T;have f3:=x.symm;by_cases z:i<st.length
 ·obtain⟨r,kd,LL,e,H⟩:=h.resolve_left λg=>by rw[g.1] at z;exact absurd z (fW _)
  cases e;have h1:BZ d A r kd LL st:=H.mv λb hb=>⟨hb,hx.ob b (hA b hb)⟩;have eY:=hx.nx;obtain⟨F,m⟩ : ∃F,st[i]? = some F:=⟨_,cj z⟩;obtain⟨L,I⟩ : ∃L,LL[i]? = some L:=⟨_,cj (by rw[H.len];exact z)⟩;obtain⟨b1,b2,b3,b4⟩:=H.sm.2 F (fD m);obtain⟨hd,gX⟩:=NI I;obtain⟨vp,vl,vc,vf,eL,rp,rl,rc,rf⟩:=h1.row i F L m I;rw[eL] at hd;have ak:=h1.ob;have NF:=hA r H.rA;obtain⟨pa,rfl⟩:=rp.len;obtain⟨la,rfl⟩:=rl.len;obtain⟨ca,rfl⟩:=rc.len;obtain⟨J,rfl⟩:=rf.len;have BV : ∀b,A b->b<d.nx:=λb hb=>cQ (hA b hb) eY;have V:ag d ((d.new (.cells [.string ⟨⟨[]⟩⟩, .int .i64 0, .slice none 0 0, .slice none 0 0, .slice none 0 0, .slice none 0 0, .bool false] 40 .ex)).set d.nx (.cells [.string (tx F.nm), .int .i64 F.par, .slice pa F.ps.length F.ps.length, .slice la F.ls.length F.ls.length, .slice ca F.cs.length F.cs.length, .slice J F.fs.length F.fs.length, .bool F.gen] 40 .ex)):=((ag.refl d).new _).set (ai _) _;have N : ∀ {M:CH} {v:ae} {xs:List Bs},ag d M->lO d A v xs->lO M A v xs:=λhx h=>h.mv λb hb=>⟨hb,hx.ob b (BV b hb)⟩;have O : ∀ {M:CH},ag d M->∀b,A b->b<M.nx:=λhx b hb=>cQ (BV b hb) hx.nx;repeat' (first | (simp (disch:=first | omega | (decide +kernel)) only[↓dx,↓jN,↓cE,↓ez,↓fj,↓fZ,↓c9,↓da,↓cM,↓dL,↓kj,↓iB,↓aH,↓dA,↓aL,jK,kf,bS,br,cL,lj,ki,↓di,↓jW,cZ,mO,pop,aD,cq,bq,db,isVal,a8,ci,iw,dC,↓reduceIte,Nat.reduceEqDiff,Nat.reduceAdd,reduceCtorEq,eZ,e9,bN,bZ,jD,kc,gY,tz,qw,uB,pL,Kd.bY,jt,jS,dv,Nat.reduceLeDiff,ai,gi,↓mP,iP,iN,fp,ba,fJ,and_true,U,f4,ak,hd,gX]) | ((with_reducible first|apply aE|apply aF|apply aG)<;>intro _))
  refine Sb (N V rp) (O V) rfl b1 λl M1 W q1=> ?_;have o1:=(W.ob d.nx (fN _)).trans (br.trans (iP rfl));have n1:d.nx+1<=M1.nx:=W.nx;have X:=(V.trans W).set (ai d.nx) (.cells [.string (tx F.nm), .int .i64 F.par, .slice l F.ps.length F.ps.length, .slice la F.ls.length F.ls.length, .slice ca F.cs.length F.cs.length, .slice J F.fs.length F.fs.length, .bool F.gen] 40 .ex);repeat' (first | (simp (disch:=first | omega | (decide +kernel)) only[↓dx,↓cE,↓ez,↓c9,↓da,↓cM,↓dL,↓kj,↓iB,↓aH,↓dA,↓aL,kf,bS,br,cL,lj,ki,↓di,pop,aD,cq,bq,db,isVal,a8,ci,iw,dC,↓reduceIte,Nat.reduceEqDiff,Nat.reduceAdd,eZ,e9,bN,bZ,jD,rM,kc,gI,gZ,ju,qw,uB,pL,Kd.bY,jt,jS,dv,Nat.reduceLeDiff,↓mP,iN,fp,ba,and_true,o1]) | ((with_reducible first|apply aE|apply aF|apply aG)<;>intro _))
  refine Sb (N X rl) (O X) rfl b2 λa2 M2 P q2=> ?_;have o2:=(P.ob d.nx (by show d.nx<M1.nx;omega)).trans (br.trans (iP rfl));have n2:M1.nx<=M2.nx:=P.nx;have Y:=(X.trans P).set (ai d.nx) (.cells [.string (tx F.nm), .int .i64 F.par, .slice l F.ps.length F.ps.length, .slice a2 F.ls.length F.ls.length, .slice ca F.cs.length F.cs.length, .slice J F.fs.length F.fs.length, .bool F.gen] 40 .ex);repeat' (first | (simp (disch:=first | omega | (decide +kernel)) only[↓dx,↓cE,↓ez,↓c9,↓da,↓cM,↓dL,↓kj,↓iB,↓aH,↓dA,↓aL,kf,bS,br,cL,lj,ki,↓di,pop,aD,cq,bq,db,isVal,a8,ci,iw,dC,↓reduceIte,Nat.reduceEqDiff,Nat.reduceAdd,eZ,e9,bN,bZ,jD,rM,kc,gI,gZ,ju,qw,uB,pL,Kd.bY,jt,jS,dv,Nat.reduceLeDiff,↓mP,iN,fp,ba,and_true,o2]) | ((with_reducible first|apply aE|apply aF|apply aG)<;>intro _))
  refine Sb (N Y rc) (O Y) rfl b3 λa3 M3 Q q3=> ?_;have o3:=(Q.ob d.nx (by show d.nx<M2.nx;omega)).trans (br.trans (iP rfl));have n3:M2.nx<=M3.nx:=Q.nx;have Z:=(Y.trans Q).set (ai d.nx) (.cells [.string (tx F.nm), .int .i64 F.par, .slice l F.ps.length F.ps.length, .slice a2 F.ls.length F.ls.length, .slice a3 F.cs.length F.cs.length, .slice J F.fs.length F.fs.length, .bool F.gen] 40 .ex);repeat' (first | (simp (disch:=first | omega | (decide +kernel)) only[↓dx,↓cE,↓ez,↓c9,↓da,↓cM,↓dL,↓kj,↓iB,↓aH,↓dA,↓aL,kf,bS,br,cL,lj,ki,↓di,pop,aD,cq,bq,db,isVal,a8,ci,iw,dC,↓reduceIte,Nat.reduceEqDiff,Nat.reduceAdd,eZ,e9,bN,bZ,jD,rM,kc,gI,gZ,ju,qw,uB,pL,Kd.bY,jt,jS,dv,Nat.reduceLeDiff,↓mP,iN,fp,ba,and_true,o3]) | ((with_reducible first|apply aE|apply aF|apply aG)<;>intro _))
  refine Sb (N Z rf) (O Z) rfl b4 λa4 s R q4=> ?_;have o4:=(R.ob d.nx (by show d.nx<M3.nx;omega)).trans (br.trans (iP rfl));have n4:M3.nx<=s.nx:=R.nx;have S:=(Z.trans R).set (ai d.nx) (.cells [.string (tx F.nm), .int .i64 F.par, .slice l F.ps.length F.ps.length, .slice a2 F.ls.length F.ls.length, .slice a3 F.cs.length F.cs.length, .slice a4 F.fs.length F.fs.length, .bool F.gen] 40 .ex);have z7:setCells (jU [.string ⟨⟨[]⟩⟩, .int .i64 0, .slice none 0 0, .slice none 0 0, .slice none 0 0, .slice none 0 0, .bool false] 7) (0*7) [.string (tx F.nm), .int .i64 F.par, .slice l F.ps.length F.ps.length, .slice a2 F.ls.length F.ls.length, .slice a3 F.cs.length F.cs.length, .slice a4 F.fs.length F.fs.length, .bool F.gen]= [.string (tx F.nm), .int .i64 F.par, .slice l F.ps.length F.ps.length, .slice a2 F.ls.length F.ls.length, .slice a3 F.cs.length F.cs.length, .slice a4 F.fs.length F.fs.length, .bool F.gen]:=by rfl
  repeat' (first | (simp (disch:=first | omega | (decide +kernel)) only[↓cE,↓ez,↓c9,↓da,↓cM,↓dL,↓kj,↓iB,↓aH,↓dA,↓aL,kf,bS,br,cL,lj,ki,↓di,pop,aD,cq,bq,db,isVal,a8,ci,c8,iw,dC,↓reduceIte,Nat.reduceEqDiff,Nat.reduceAdd,reduceCtorEq,bN,bZ,jD,rM,kQ,pu,qx,kc,gI,gZ,ju,tB,qw,uB,pL,Kd.bY,jt,jS,dv,Nat.reduceLeDiff,ai,↓mP,kO,iP,Nat.one_mul,ba,true_and,and_true,f3,o4,z7]) | ((with_reducible first|apply aE|apply aF|apply aG)<;>intro _))
  have uc : ∀b o n c,v3= .slice (some ⟨b,o,none⟩) n c->K.nx<=b/\b<d.nx:=λb o n c e=>by
   rcases G with ⟨_,g⟩ | ⟨b',mT,g,g1,g2,_⟩
   ·rw[g] at e;cases e
   rw[g] at e;cases e;exact⟨g1,g2⟩
  obtain⟨j,YG⟩ : ∃j,j=s.set d.nx (.cells [.string (tx F.nm), .int .i64 F.par, .slice l F.ps.length F.ps.length, .slice a2 F.ls.length F.ls.length, .slice a3 F.cs.length F.cs.length, .slice a4 F.fs.length F.fs.length, .bool F.gen] 40 .ex):=⟨_,rfl⟩;rw[<-YG] at S⊢
  have n5:j.nx=s.nx:=by rw[YG];rfl
  have ne5 : ∀b,b≠d.nx->j.ob b=s.ob b:=λb hb=>by rw[YG];exact br.trans (iN hb)
  refine adT (A:=K) (f:=ql) (y:=⟨tx F.nm,F.par,l,F.ps.length,a2,F.ls.length,a3,F.cs.length,a4,F.fs.length,F.gen⟩) afh ((G.ext S).ext ((ag.refl j).new _)) Om Om rfl λB k1 k2 C=> ?_;have k2:B.nx=j.nx+1+1:=k2;have k1:B.ob (j.nx+1)=_:=k1;have C : ∀b,b<j.nx->(∀o n c,v3≠ .slice (some ⟨b,o,none⟩) n c)->B.ob b=j.ob b:=λb hb hv=>(C b (qu hb) hv).trans (bL (Jq hb));have aqS : ∀b,d.nx<=b->∀o n c,v3≠ .slice (some ⟨b,o,none⟩) n c:=λb hb o n c e=>by have:=uc _ _ _ _ e;omega
  have c5 : ∀b,d.nx<b->b<s.nx->B.ob b=s.ob b:=λb h1 h2=>(C b Om (aqS b Om)).trans (ne5 b Om);have c4 : ∀b,d.nx<b->b<M3.nx->s.ob b=M3.ob b:=λb h1 h2=>(R.ob b h2).trans (br.trans (iN Om));have c3 : ∀b,d.nx<b->b<M2.nx->M3.ob b=M2.ob b:=λb h1 h2=>(Q.ob b h2).trans (br.trans (iN Om));have c2 : ∀b,d.nx<b->b<M1.nx->M2.ob b=M1.ob b:=λb h1 h2=>(P.ob b h2).trans (br.trans (iN Om));have iD:ag K B:=⟨Om,λb hb=>(C b Om λo n c e=>by have:=uc _ _ _ _ e;omega).trans ((S.ob b Om).trans (hx.ob b hb))⟩;refine rn (an @U @f4) ?_;refine⟨st.length-(i+1),Om,i+1,acc++ [⟨tx F.nm,F.par,l,F.ps.length,a2,F.ls.length,a3,F.cs.length,a4,F.fs.length,F.gen⟩],rfl,z,rfl,iD, .inr ⟨j.nx+1, .gr,by rw[cG];rfl,Om,Om,k1,rfl⟩,by rw[cG,t];rfl,λp F' L' tm D=> ?_⟩;have E : ∀b,b<j.nx->∀o n c,(Value.slice (some ⟨j.nx+1,0,none⟩) (acc.length+1) (acc.length+1))≠ .slice (some ⟨b,o,none⟩) n c:=λb hb o n c e=>by cases e;omega
  by_cases hpi:p<i
  ·rw[qo Om] at D;obtain⟨vp,vl,vc,vf,e,u⟩:=T p F' L' tm D;refine⟨vp,vl,vc,vf,e,λv xs hv=>(u v xs hv).mv λb ⟨g1,g2,g3⟩=>⟨⟨g1,Om,E b Om⟩,?_⟩⟩;exact(C b Om g3).trans (S.ob b g2)
  have hp:p=i:=by
   have:=(List.getElem?_eq_some_iff.1 D).1;rw[cG,t] at this;have:p<i+1:=this;omega
  subst hp;rw[m] at tm;cases tm;rw[List.getElem?_append_right Om,t,Nat.sub_self] at D;cases D;refine⟨_,_,_,_,rfl,λv xs hv=> ?_⟩;simp only[List.mem_cons,Prod.mk.injEq,List.not_mem_nil,or_false] at hv;rcases hv with ⟨rfl,rfl⟩ | ⟨rfl,rfl⟩ | ⟨rfl,rfl⟩ | ⟨rfl,rfl⟩
  ·exact q1.mv λb hb=>by
    have h1:d.nx+1<=b:=hb.1;have h2:=hb.2;exact⟨⟨Om,Om,E b Om⟩,(c5 b Om Om).trans ((c4 b Om Om).trans ((c3 b Om Om).trans (c2 b Om Om)))⟩
  ·exact q2.mv λb hb=>by
    have h1:M1.nx<=b:=hb.1;have h2:=hb.2;exact⟨⟨Om,Om,E b Om⟩,(c5 b Om Om).trans ((c4 b Om Om).trans (c3 b Om Om))⟩
  ·exact q3.mv λb hb=>by
    have h1:M2.nx<=b:=hb.1;have h2:=hb.2;exact⟨⟨Om,Om,E b Om⟩,(c5 b Om Om).trans (c4 b Om Om)⟩
  exact q4.mv λb hb=>by
   have h1:M3.nx<=b:=hb.1;have h2:=hb.2;exact⟨⟨Om,Om,E b Om⟩,c5 b Om Om⟩
 refine rn (gS @U @f3 @f4) ?_;refine⟨hx,?_⟩;have hii:i=st.length:=by omega
 subst hii;rcases G with ⟨rfl,rfl⟩ | ⟨b,kd,e,g1,g2,g3,g4⟩
 ·exact .inl ⟨List.length_eq_zero_iff.1 t.symm,rfl⟩
 rw[t] at e;have uT : ∀F∈st,F.ps.length<=4398046511104/\F.ls.length<=4398046511104/\F.cs.length<=4398046511104/\F.fs.length<=4398046511104:=by
  rcases h with ⟨rfl,_⟩ | ⟨r,kd,LL,_,h⟩
  ·intro F m;cases m
  exact h.sm.2
 refine .inr ⟨b,kd,acc,e,g3,⟨g1,g2⟩,t,λp F L m I=> ?_,hs,uT⟩;obtain⟨vp,vl,vc,vf,e,u⟩:=T p F L m I;refine⟨vp,vl,vc,vf,e,?_,?_,?_,?_⟩;·exact(u vp F.ps Sm).mv λb hb=>⟨⟨hb.1,hb.2.1⟩,rfl⟩
 ·exact(u vl F.ls Sm).mv λb hb=>⟨⟨hb.1,hb.2.1⟩,rfl⟩
 ·exact(u vc F.cs Sm).mv λb hb=>⟨⟨hb.1,hb.2.1⟩,rfl⟩
 exact(u vf F.fs Sm).mv λb hb=>⟨⟨hb.1,hb.2.1⟩,rfl⟩
end
section
theorem afV{tk:List Bs} : ∀(xs cs:List Bs),(sh tk xs cs).length<=xs.length+cs.length
 | [],cs=>by rw[sh,bZ];omega
 | x::xs,cs=>by
   rw[sh,bN];have h:=afV (tk:=tk) xs (if x∈tk/\x∉cs then cs++ [x] else cs);have h2:(if x∈tk/\x∉cs then cs++ [x] else cs).length<=cs.length+1:=by
    split;·rw[cG];exact ai _
    omega
   omega
theorem aqT{T:List Bs}{B:Nat}{t:Nd}(h:NA T B t){st:List al}(a:uj t= .ok st):st.length<=4398046511104/\∀F∈st,F.ps.length<=4398046511104/\F.ls.length<=4398046511104/\F.cs.length<=4398046511104/\F.fs.length<=4398046511104:=by
 obtain⟨es,e⟩ : ∃es,es=(bu 0 gL t).1:=⟨_,rfl⟩;obtain⟨r,g⟩ : ∃r,r=cD (jp es,0) 0 false t:=⟨_,rfl⟩;have a:st=r.1.mapIdx λf F=>qT r.1 f F:=by
  unfold uj at a;simp only at a;rw[<-show gL=⟨0,false,false,false⟩ from rfl,<-e,<-g] at a;split at a;·cases a
  exact(Except.ok.inj a).symm
 have c:=h.fw;have j:=h.P;have n:=h.sl;rw[<-e] at c j n;obtain⟨k,b,_⟩:=IW (T:=T) t (jp es,0) 0 false h.cl h.Tx;rw[<-g] at c k b;have d:=k j;have b:r.1.length=(jp es).length:=b;refine⟨by rw[a,List.length_mapIdx,b];omega,λF l=> ?_⟩;rw[a] at l;obtain⟨i,hi,rfl⟩:=List.mem_mapIdx.1 l;have m:=List.getElem_mem hi;obtain⟨o,p,_⟩:=c _ m;have b4:=d.fs _ m;have q:=Nn b4.1 b4.2;have s:=h.Tl;have b3:=afV (tk:=vF r.1 i) (r.1[i].ps++r.1[i].ls) [];rw[cG] at b3;refine⟨by show r.1[i].ps.length<=_;omega,by show r.1[i].ls.length<=_;omega,?_,by show r.1[i].fs.length<=_;omega⟩;show(sh (vF r.1 i) (r.1[i].ps++r.1[i].ls) []).length<=_;rw[bZ] at b3;omega
end
section
open Go Go.RowKit
def lnE:Except Int (List al)->Int
 | .error l=>l
 | .ok _=>0
def YH:Except Int (List al)->Int
 | .error _=>23
 | .ok _=>0
def Se:Except Int (List al)->List al
 | .error _=> []
 | .ok st=>st
def YI(K:CH)(ow:Ow)(v:ae)(st:List al):Prop:=(st= []/\v= .slice none 0 0)\/∃(r:Nat) (kd:Kd) (LL:List F7),v= .slice (some ⟨r,0,none⟩) st.length st.length/\ow r=some (0,20)/\K.ob r= .cells (LL.flatMap ql) 40 kd/\LL.length=st.length/\∀(i:Nat) (F:al) (L:F7),st[i]? = some F->LL[i]? = some L->BW K ow i F (ql L)
theorem afW{lo:Nat}{r:Except Int (List al)}{v:ae}{K:CH}(h:CkR lo r v K) : ∃ow a,v= .tuple #[a, .int .i64 (lnE r), .int .i64 (YH r)]/\(∀y,ow y≠none->lo<=y/\y<K.nx)/\YI K ow a (Se r):=by
 cases r with
 | error l=>exact⟨λ_=>none,_,h,λy b=>absurd rfl b, .inl ⟨rfl,rfl⟩⟩
 | ok st=>
   obtain⟨ow,r,kd,LL,e,h1,h2,h3,h4,h5,c⟩:=h;exact⟨ow,_,e,h1, .inr ⟨r,kd,LL,rfl,h2,h3,h5,c⟩⟩
theorem YI.q{K:CH}{ow:Ow}{v:ae}{st:List al}(h:YI K ow v st)(b : ∀y,ow y≠none->y<K.nx)(sm:st.length<=1099511627776/\∀F∈st,F.ps.length<=4398046511104/\F.ls.length<=4398046511104/\F.cs.length<=4398046511104/\F.fs.length<=4398046511104):B0 K (λy=>ow y≠none/\y<K.nx) v st:=by
 rcases h with h | ⟨r,kd,LL,e,h1,h2,h3,h4⟩
 ·exact .inl h
 have a:ow r≠none:=by rw[h1];simp
 refine .inr ⟨r,kd,LL,e,h2,⟨a,b r a⟩,h3,λi F L g1 g2=> ?_,sm⟩;obtain⟨vp,vl,vc,vf,e,c,d,f,g⟩:=h4 i F L g1 g2;exact⟨vp,vl,vc,vf,e,c.F9,d.F9,f.F9,g.F9⟩
def Un (ow:Ow)(i b:Nat):Prop:=∀a j,a<i->1<=j->j<=4->ow b≠some (a,j)
def KpO (ow:Ow)(K0:CH)(len n:Nat)(v:ae)(a:CH):Prop:=∃i:Nat,n=len-i/\i<=len/\v= .int .i64 (i:Nat)/\K0.nx<=a.nx/\∀b,b<K0.nx->Un ow i b->a.ob b=K0.ob b
theorem aqU{T:List Bs}{B:Nat}{t:Nd}(h:NA T B t):(Se (uj t)).length<=1099511627776/\∀F∈Se (uj t),F.ps.length<=4398046511104/\F.ls.length<=4398046511104/\F.cs.length<=4398046511104/\F.fs.length<=4398046511104:=by
 cases hc:uj t with
 | error l=>exact⟨bR _,λF d=>by cases d⟩
 | ok st=>
   refine⟨?_,(aqT h hc).2⟩;obtain⟨es,b⟩ : ∃es,es=(bu 0 gL t).1:=⟨_,rfl⟩;obtain⟨r,c⟩ : ∃r,r=cD (jp es,0) 0 false t:=⟨_,rfl⟩;have e:st=r.1.mapIdx λf F=>qT r.1 f F:=by
    unfold uj at hc;simp only at hc;rw[<-show gL=⟨0,false,false,false⟩ from rfl,<-b,<-c] at hc;split at hc;·cases hc
    exact(Except.ok.inj hc).symm
   have g:=h.sl;rw[<-b] at g;obtain⟨_,a,_⟩:=IW (T:=T) t (jp es,0) 0 false h.cl h.Tx;rw[<-c] at a;have a:r.1.length=(jp es).length:=a;show st.length<=_;rw[e,List.length_mapIdx,a];omega
theorem aqV{v:ae}:jU [v] 4= [v,v,v,v]:=by simp[jU,List.range,List.range.loop,Nat.mod_one]
theorem Sf{X V:List ae}{n:Nat}(h:(X.drop n).take 7=V){j:Nat}(a:j<7):X[n+j]? = V[j]? :=by rw[<-h,List.getElem?_take_of_lt a,List.getElem?_drop]
def B2 (k:Nat):Bs:= [63,(48+k).toUInt8]
def KpA (ow:Ow)(i:Nat)(V:List ae)(K0:CH)(xs:List (List Bs))(n:Nat)(v:ae)(a:CH):Prop:=∃(k:Nat) (ys:List (List Bs)),n=4-k/\k<=4/\v= .int .i64 (k:Nat)/\K0.nx<=a.nx/\(∀b,b<K0.nx->(∀j,1<=j->j<=4->ow b≠some (i,j))->a.ob b=K0.ob b)/\ys.length=4/\(∀(p:Nat) (x y:List Bs),xs[p]? = some x->ys[p]? = some y->y.length=x.length)/\(∀(p:Nat) (w:ae) (y:List Bs),V[p]? = some w->ys[p]? = some y->iQ a ow (i,p+1) w y)/\∀(p:Nat) (y:List Bs),p<k->ys[p]? = some y->y=j8 y.length (B2 p)
def KpB (ow:Ow)(i k:Nat)(w:ae)(y:List Bs)(K0:CH)(n:Nat)(v:ae)(a:CH):Prop:=∃j:Nat,n=y.length-j/\j<=y.length/\v= .int .i64 (j:Nat)/\K0.nx<=a.nx/\(∀b,b<K0.nx->ow b≠some (i,k+1)->a.ob b=K0.ob b)/\iQ a ow (i,k+1) w (j8 j (B2 k)++y.drop j)
def KpD (ow:Ow)(i:Nat)(K0:CH)(n:Nat)(v:ae)(a:CH):Prop:=∃k:Nat,n=4-k/\k<=4/\v= .int .i64 (k:Nat)/\K0.nx<=a.nx/\∀b,b<K0.nx->(∀j,1<=j->j<=k->ow b≠some (i,j))->a.ob b=K0.ob b
theorem aqW{q:Bs}{y:List Bs}{j:Nat}(a:j<y.length):setCells ((j8 j q++y.drop j).flatMap fU) j [.string (tx q)]=(j8 (j+1) q++y.drop (j+1)).flatMap fU:=by
 rw[List.drop_eq_getElem_cons a,List.replicate_succ',zZ,zZ,zZ,List.flatMap_cons];have hl:((j8 j q).flatMap fU).length=j:=by rw[zy,eR,Jo]
 unfold setCells;rw[List.take_left' hl,show j+ [Value.string (tx q)].length=j+1 from rfl,<-List.drop_drop,List.drop_left' hl];rfl
theorem aqX{H:CH}(hp:wT H){q:Option Addr}{c:Nat}{src:List UInt8}(h:ig 1 (pY .u8) H q c (l6 src)):aQ yn 4 [.slice q src.length c] H λv K=>v= .bool true:=by
 refine dq Rl Kr (aK ?_);repeat' (first | (simp (disch:=first | omega | (decide +kernel)) only[↓RD,RU,↓bf,pop,ρ1,Int.reduceOfNat]) | ((with_reducible first|apply aE|apply aF|apply aG)<;>intro _))
 rw[aqM];repeat' (first | (simp (disch:=first | omega | (decide +kernel)) only[↓RD,RU,↓aH,↓aL,cZ,sP,pop,ρ0,ρ1,ρ2,↓reduceIte,reduceCtorEq]) | ((with_reducible first|apply aE|apply aF|apply aG)<;>intro _))
 refine(aqL (aqH h)).mono λv K ⟨hx,os,e,hs⟩=> ?_;subst e;obtain⟨n1,rfl⟩:=qN hs;by_cases bX:(iE src).2.2=0
 ·have hd:decide ((iE src).2.2=0)=true:=decide_eq_true bX;have ht:=afL src;have eN:=afR src;have hK:ag K ((K.new (.cells [.int .i64 0, .int .i64 0, .string ⟨⟨[]⟩⟩, .int .i64 0, .slice none 0 0] 26 .ex)).set K.nx (.cells [.int .i64 n1.k, .int .i64 n1.l, .string n1.x, .int .i64 n1.o, .slice n1.a n1.n n1.c] 26 .ex)):=((ag.refl K).new _).set (ai _) _;obtain⟨n0,sJ⟩ : ∃n0,n0=n1:=⟨_,rfl⟩;repeat' (first | (simp (disch:=first | omega | (decide +kernel)) only[↓RD,RU,↓aH,↓dA,↓aL,bS,br,sP,pop,aD,cq,bq,db,isVal,a8,ci,ρ0,ρ1,ρ2,↓reduceIte,Nat.reduceEqDiff,Nat.reduceAdd,ρ5,ρ6,ρ7,ρ8,ρ15,ρ17,ρ18,ρ21,ρ22,ρ23,Kd.bY,ρ25,ρ26,eB]) | ((with_reducible first|apply aE|apply aF|apply aG)<;>intro _))
  refine(R7 (.inr (.inl rfl)) (ant (vj (iE src).1+1) 100000 (iE src).1 (fN _) ht.1 de _ (λb=>H.nx<=b/\b<K.nx) (eB n1) (λb hb=>qu hb.2) (hs.mv λb hb=>⟨hb,hK.ob b hb.2⟩))).mono λv d ⟨bJ,l9,e,iL⟩=> ?_;subst e;obtain⟨n2,rfl⟩:=qN iL;have j0:K.nx+1<=d.nx:=bJ.nx;have o0:=(bJ.ob K.nx (fN _)).trans (br.trans (iP rfl));have MJ:bK d (λb=>K.nx+1<=b/\b<d.nx) (cF (iE src).1) (eB n2):=iL;have YJ:ag K d:=hK.trans bJ;have e2:ag d ((d.new (.cells [.int .i64 0, .int .i64 0, .string ⟨⟨[]⟩⟩, .int .i64 0, .slice none 0 0] 26 .ex)).set d.nx (.cells [.int .i64 n2.k, .int .i64 n2.l, .string n2.x, .int .i64 n2.o, .slice n2.a n2.n n2.c] 26 .ex)):=((ag.refl d).new _).set (ai _) _;repeat' (first | (simp (disch:=first | omega | (decide +kernel)) only[↓RD,RU,↓aH,↓dA,↓aL,bS,br,aD,cq,bq,db,isVal,a8,ci,ρ0,ρ1,↓reduceIte,Nat.reduceEqDiff,Nat.reduceAdd,ρ7,ρ8,ρ15,ρ17,ρ18,ρ21,ρ22,ρ23,Kd.bY,ρ25,ρ26,eB,o0]) | ((with_reducible first|apply aE|apply aF|apply aG)<;>intro _))
  refine(YE (.inl rfl) (aee (B:=100000) de ht.2.1 ht.2.2.1 ht.1 ht.2.2.2 (A:=λb=>H.nx<=b/\b<K.nx) (hs.mv λb hb=>⟨hb,(YJ.trans e2).ob b hb.2⟩) (λb hb=>by show b<d.nx+1;have:=hb.2;omega) ((hp.hx hx).hx (YJ.trans e2)))).mono λv m ⟨fF,Wo,e,RA⟩=> ?_;subst e;obtain⟨n3,rfl⟩:=qN RA;have pC:d.nx+1<=m.nx:=fF.nx;have o01:=(fF.ob K.nx (by show K.nx<d.nx+1;omega)).trans ((e2.ob K.nx Om).trans o0);have o1:=(fF.ob d.nx (fN _)).trans (br.trans (iP rfl));repeat' (first | (simp (disch:=first | omega | (decide +kernel)) only[↓RD,RU,↓aH,↓dA,↓aL,bS,br,aD,cq,bq,db,isVal,a8,ci,ρ0,ρ1,↓reduceIte,Nat.reduceEqDiff,Nat.reduceAdd,ρ7,ρ8,ρ15,ρ17,ρ18,ρ21,ρ22,ρ23,Kd.bY,ρ25,ρ26,eB,o01]) | ((with_reducible first|apply aE|apply aF|apply aG)<;>intro _))
  have N:ag m ((m.new (.cells [.int .i64 0, .int .i64 0, .string ⟨⟨[]⟩⟩, .int .i64 0, .slice none 0 0] 26 .ex)).set m.nx (.cells [.int .i64 n3.k, .int .i64 n3.l, .string n3.x, .int .i64 n3.o, .slice n3.a n3.n n3.c] 26 .ex)):=((ag.refl m).new _).set (ai _) _;have YK:ag K m:=YJ.trans (e2.trans fF);refine(YE (.inr rfl) (afm (B:=100000) de ht.2.1 ht.2.2.1 ht.1 ht.2.2.2 (YD bX) (A:=λb=>H.nx<=b/\b<K.nx) (hs.mv λb hb=>⟨hb,(YK.trans N).ob b hb.2⟩) (λb hb=>by show b<m.nx+1;have:=hb.2;omega) ((hp.hx hx).hx (YK.trans N)))).mono λv u ⟨O,ny⟩=> ?_;obtain⟨ow,va,e,mL,Sg⟩:=afW ny;subst e;have Br:m.nx+1<=u.nx:=O.nx;have uf:ag K u:=YK.trans (N.trans O);have o02:=(O.ob K.nx (by show K.nx<m.nx+1;omega)).trans ((N.ob K.nx Om).trans o01);have o12:=(O.ob d.nx (by show d.nx<m.nx+1;omega)).trans ((N.ob d.nx Om).trans o1);have o2:=(O.ob m.nx (fN _)).trans (br.trans (iP rfl));repeat' (first | (simp (disch:=first | omega | (decide +kernel)) only[↓RD,RU,↓aH,↓aL,pop,aD,ρ0,ρ1,↓reduceIte,Nat.reduceEqDiff,Nat.reduceAdd,ρ5,ρ6,ρ7,ρ8,ρ15,ρ18,o02]) | ((with_reducible first|apply aE|apply aF|apply aG)<;>intro _))
  refine(YE (.inr rfl) (afm (B:=100000) de ht.2.1 ht.2.2.1 ht.1 ht.2.2.2 (YD bX) (A:=λb=>H.nx<=b/\b<K.nx) (hs.mv λb hb=>⟨hb,uf.ob b hb.2⟩) (λb hb=>by have:=hb.2;omega) ((hp.hx hx).hx uf))).mono λv K5 ⟨C,aqY⟩=> ?_;obtain⟨qX,vb,e,afX,IN⟩:=afW aqY;subst e;have rU:=C.nx;have QR:=uf.trans C;have o03:=(C.ob K.nx Om).trans o02;have WE:=(C.ob d.nx Om).trans o12;have WF:=(C.ob m.nx Om).trans o2;have sm:=aqU (YD bX);have aB:(decide (YH (uj (lx (iE src).1))=YH (uj (lx (iE src).1))))=true:=decide_eq_true rfl;repeat' (first | (simp (disch:=first | omega | (decide +kernel)) only[↓RD,RU,↓aH,↓aL,pop,ρ0,ρ1,↓reduceIte,Nat.reduceEqDiff,ρ5,ρ6]) | ((with_reducible first|apply aE|apply aF|apply aG)<;>intro _))
  obtain⟨st,aW⟩ : ∃st,st=Se (uj (lx (iE src).1)):=⟨_,rfl⟩;rw[<-aW] at Sg IN sm;have ra5:B0 K5 (λy=>ow y≠none/\y<u.nx) va st:=(Sg.q (λy hy=>(mL y hy).2) sm).mv λb hb=>⟨hb,C.ob b hb.2⟩;have rb5:=IN.q (λy hy=>(afX y hy).2) sm;refine(afU (λb hb=>cQ hb.2 rU) (λb hb=>hb.2) ra5 rb5).mono λv K6 ⟨z,e⟩=> ?_;subst e;have hn6:=z.nx;have hK6:=QR.trans z;have o04:=(z.ob K.nx Om).trans o03;have o14:=(z.ob d.nx Om).trans WE;have o24:=(z.ob m.nx Om).trans WF;have Ij:ag d K6:=(e2.trans (fF.trans (N.trans (O.trans (C.trans z)))));repeat' (first | (simp (disch:=first | omega | (decide +kernel)) only[↓RD,RU,↓aH,↓aL,↓bf,sP,pop,aD,ρ0,ρ1,ρ2,↓reduceIte,Nat.reduceEqDiff,Nat.reduceAdd,reduceCtorEq,ρ7,ρ8,ρ15,ρ18,o04,o14]) | ((with_reducible first|apply aE|apply aF|apply aG)<;>intro _))
  have P:=adN true (K:=K6) (A:=λb=>H.nx<=b/\b<K.nx) (B:=λb=>K.nx+1<=b/\b<d.nx) (λb hb=>by have:=hb.2;omega) (λb hb=>by have:=hb.2;omega) (hs.mv λb hb=>⟨hb,hK6.ob b hb.2⟩) (MJ.mv λb hb=>⟨hb,Ij.ob b hb.2⟩);rw[WA] at P;unfold eB at P;refine(R7 (.inl rfl) P).mono λv K7 ⟨D,e⟩=> ?_;subst e;have hn7:=D.nx;have o05:=(D.ob K.nx Om).trans o04;have o15:=(D.ob d.nx Om).trans o14;have o25:=(D.ob m.nx Om).trans o24;have ra7:=ra5.mv (B:=λy=>ow y≠none/\y<u.nx) λb hb=>⟨hb,(z.trans D).ob b (cQ hb.2 rU)⟩;repeat' (first | (simp (disch:=first | omega | (decide +kernel)) only[↓RD,RU,↓aH,↓aL,sP,pop,ρ0,ρ1,ρ2,↓reduceIte,Nat.reduceEqDiff,reduceCtorEq]) | ((with_reducible first|apply aE|apply aF|apply aG)<;>intro _))
  refine(aqR (λb hb=>by have:=hb.2;omega) ra7).mono λvc t ⟨J,rc8⟩=> ?_;have X5:=J.nx;have o06:=(J.ob K.nx Om).trans o05;have o16:=(J.ob d.nx Om).trans o15;have o26:=(J.ob m.nx Om).trans o25;have Qb : ∃a,va= .slice a st.length st.length:=by
   rcases Sg with ⟨rfl,rfl⟩ | ⟨r,kd,LL,rfl,_⟩
   ·exact⟨_,rfl⟩
   exact⟨_,rfl⟩
  obtain⟨aa,rfl⟩:=Qb;repeat' (first | (simp (disch:=first | omega | (decide +kernel)) only[↓RD,RU,↓aH,↓aL,↓bf,pop,↓reduceIte]) | ((with_reducible first|apply aE|apply aF|apply aG)<;>intro _))
  refine ef (λn fr s=>KpO ow t st.length n (fr 14) s) (n:=st.length) ⟨0,rfl,bR _,by(repeat' (first | (simp (disch:=first | omega | (decide +kernel)) only[↓aH,↓reduceIte]) | ((with_reducible first|apply aE|apply aF|apply aG)<;>intro _));all_goals rfl),ai _,λ_ _ _=>rfl⟩ ?_;rintro n fr s ⟨i,rfl,hi,f14,RP,Q⟩ aq;by_cases au:i<st.length
  ·obtain⟨r,kd,LL,e,CT,ak,Qq,dJ⟩:=Sg.resolve_left λg=>by rw[g.1] at au;exact absurd au (fW _)
   cases e;obtain⟨F,hF⟩ : ∃F,st[i]? = some F:=⟨_,cj au⟩;obtain⟨L,hL⟩ : ∃L,LL[i]? = some L:=⟨_,cj (by rw[Qq];exact au)⟩;obtain⟨b1,b2,b3,b4⟩:=sm.2 F (fD hF);obtain⟨NP,asd⟩:=NI hL;obtain⟨vp,vl,vcc,vf,eL,rp,rl,rc,rf⟩:=dJ i F L hF hL;rw[eL] at NP;have E:ag u t:=C.trans (z.trans (D.trans J));have aqZ:=(mL r (by rw[CT];simp)).2;have aq0:=(Q r Om (λR j h1 h2 h3=>by rw[CT];simp only[ne_eq,Option.some.injEq,Prod.mk.injEq];omega)).trans ((E.ob r aqZ).trans ak);have s0:=sm.1;have g2:=Sf NP (j:=2) de;have g3:=Sf NP (j:=3) de;have g4:=Sf NP (j:=4) de;have g5:=Sf NP (j:=5) de;obtain⟨pa,rfl⟩:=zN rp;obtain⟨la,rfl⟩:=zN rl;obtain⟨ca,rfl⟩:=zN rc;obtain⟨fa,rfl⟩:=zN rf;repeat' (first | (simp (disch:=first | omega | (decide +kernel)) only[↓RD,RU,↓aH,↓aL,↓bf,pop,aD,cq,db,isVal,ci,ρ0,ρ1,ρ4,↓reduceIte,Nat.reduceEqDiff,Nat.reduceAdd,ρ5,ρ6,ρ7,ρ8,ρ17,ρ18,ρ19,ρ20,ρ21,ρ25,ρ26,dv,Nat.reduceLeDiff,ρ29,aq,f14,aq0,g2,g3,g4,g5,aqV]) | ((with_reducible first|apply aE|apply aF|apply aG)<;>intro _))
   have m1:=rp.mv (K':=s) (cf:=ow) ⟨Om,λ_ _=>rfl⟩ λb hb hl=>(Q b Om λR j k1 _ _=>by rw[hl];simp only[ne_eq,Option.some.injEq,Prod.mk.injEq];omega).trans (E.ob b hb);have m2:=rl.mv (K':=s) (cf:=ow) ⟨Om,λ_ _=>rfl⟩ λb hb hl=>(Q b Om λR j k1 _ _=>by rw[hl];simp only[ne_eq,Option.some.injEq,Prod.mk.injEq];omega).trans (E.ob b hb);have m3:=rc.mv (K':=s) (cf:=ow) ⟨Om,λ_ _=>rfl⟩ λb hb hl=>(Q b Om λR j k1 _ _=>by rw[hl];simp only[ne_eq,Option.some.injEq,Prod.mk.injEq];omega).trans (E.ob b hb);have m4:=rf.mv (K':=s) (cf:=ow) ⟨Om,λ_ _=>rfl⟩ λb hb hl=>(Q b Om λR j k1 _ _=>by rw[hl];simp only[ne_eq,Option.some.injEq,Prod.mk.injEq];omega).trans (E.ob b hb);obtain⟨V,hV⟩ : ∃V:List ae,V= [.slice pa F.ps.length F.ps.length, .slice la F.ls.length F.ls.length, .slice ca F.cs.length F.cs.length, .slice fa F.fs.length F.fs.length]:=⟨_,rfl⟩;obtain⟨X,hX⟩ : ∃X:List (List Bs),X= [F.ps,F.ls,F.cs,F.fs]:=⟨_,rfl⟩;have hVX : ∀(p:Nat),p<4->∃a x,X[p]? = some x/\V[p]? = some (.slice a x.length x.length)/\x.length<=4398046511104:=λp hp=>by
    rw[hV,hX];match p,hp with
    | 0,_=>exact⟨_,_,rfl,rfl,b1⟩
    | 1,_=>exact⟨_,_,rfl,rfl,b2⟩
    | 2,_=>exact⟨_,_,rfl,rfl,b3⟩
    | 3,_=>exact⟨_,_,rfl,rfl,b4⟩
   rw[<-hV];obtain⟨U,Sh⟩ : ∃U,U=s.new (.cells V 38 .ex):=⟨_,rfl⟩;have G:ag s U:=by rw[Sh];exact(ag.refl _).new _
   have n10:U.nx=s.nx+1:=by rw[Sh];rfl
   have aq1:U.ob s.nx= .cells V 38 .ex:=by rw[Sh];exact iu
   have hVl:V.length=4:=by rw[hV];rfl
   rw[<-Sh];have oF : ∀b,t.nx<=b->ow b=none:=λb hb=>by
    cases ho:ow b with
    | none=>rfl
    | some x=>have:=(mL b (by rw[ho];simp)).2;have:=E.nx;omega
   refine ef (λn am K1=>KpA ow i V U X n (am 16) K1) (n:=4) ⟨0,X,rfl,bR _,by(repeat' (first | (simp (disch:=first | omega | (decide +kernel)) only[↓aH,↓reduceIte]) | ((with_reducible first|apply aE|apply aF|apply aG)<;>intro _));all_goals rfl),ai _,λ_ _ _=>rfl,by rw[hX];rfl,λp x y h1 h2=>by rw[h1] at h2;cases h2;rfl,λp w y h1 h2=> ?_,λp y h=>absurd h (fW _)⟩ ?_
   ·rw[hX] at h2;rw[hV] at h1;match p with
    | 0=>cases h1;cases h2;exact m1.mv ⟨G.nx,λ_ _=>rfl⟩ λb hb _=>G.ob b hb
    | 1=>cases h1;cases h2;exact m2.mv ⟨G.nx,λ_ _=>rfl⟩ λb hb _=>G.ob b hb
    | 2=>cases h1;cases h2;exact m3.mv ⟨G.nx,λ_ _=>rfl⟩ λb hb _=>G.ob b hb
    | 3=>cases h1;cases h2;exact m4.mv ⟨G.nx,λ_ _=>rfl⟩ λb hb _=>G.ob b hb
    | n+4=>simp at h1
   rintro n am rh ⟨k,ys,rfl,sW,f16,n11,QA,ysl,EX,YL,Tr⟩ W;have afY:=(QA s.nx Om λj _ _=>by rw[oF _ RP];simp).trans aq1;by_cases hk:k<4
   ·obtain⟨aw,x,Si,S,xr⟩:=hVX k hk;obtain⟨y,Y⟩ : ∃y,ys[k]? = some y:=⟨_,cj Om⟩;have T:=EX k x y Si Y;have KD:=YL k _ y S Y;have hkV:k<V.length:=by omega
    repeat' (first | (simp (disch:=first | omega | (decide +kernel)) only[↓RD,RU,↓aH,↓aL,↓bf,pop,↓reduceIte,Nat.reduceEqDiff,W,f16]) | ((with_reducible first|apply aE|apply aF|apply aG)<;>intro _))
    refine ef (λn bt d=>KpB ow i k (.slice aw x.length x.length) y rh n (bt 17) d) (n:=y.length) ⟨0,rfl,bR _,by(repeat' (first | (simp (disch:=first | omega | (decide +kernel)) only[↓aH,↓reduceIte]) | ((with_reducible first|apply aE|apply aF|apply aG)<;>intro _));all_goals rfl),ai _,λ_ _ _=>rfl,KD⟩ ?_;rintro n bt K12 ⟨j,rfl,hj,f17,n12,Mi,YM⟩ hY;have afZ:=(Mi s.nx Om (by rw[oF _ RP];simp)).trans afY;by_cases fK:j<y.length
    ·have Tj:j<x.length:=by omega
     have fO:sI [.int .u8 (48+(k:Int))]=some [(48+k).toUInt8]:=by
      show(some []).map (UInt8.ofNat (48+(k:Int)).toNat:: ·)=_;rw[show(48+(k:Int)).toNat=48+k by omega];rfl
     have YN:bP (binOp .add 0 (.string ⟨#[63]⟩) (.string ⟨[(48+k).toUInt8].toArray⟩))=some (.string (tx (B2 k))):=QV (a:=tx [63]) (b:=tx [(48+k).toUInt8]) (by show 1+1<=_;decide);have ii:(j8 j (B2 k)++y.drop j).length=y.length:=by rw[cG,Jo,lB];omega
     obtain⟨rr,mU,I,yH,Dz,MZ,Sj⟩:=YM.resolve_left λg=>by have Z:=congrArg List.length g.1;rw[ii] at Z;have Z:y.length=0:=Z;omega
     rw[ii,<-T] at I;cases I;have aq2:((j8 j (B2 k)++y.drop j).flatMap fU).length=y.length:=by rw[zy,eR,ii]
     repeat' (first | (simp (disch:=first | omega | (decide +kernel)) only[↓dx,↓jN,↓cE,↓ez,↓kM,↓fj,↓fZ,↓c9,↓da,↓cM,↓dL,↓kj,↓aH,↓aL,↓bf,bS,cL,ki,↓di,↓jW,gh,mO,eU,Uj,pop,aD,cq,db,isVal,ci,c8,iw,dC,↓reduceIte,Nat.reduceEqDiff,bN,bZ,jD,qx,kc,gI,gY,tB,tz,jt,jS,dv,Nat.reduceLeDiff,ai,tR,gi,iP,fp,ba,fJ,and_true,W,hY,f16,f17,afZ,S,T,fO,dC]) | ((with_reducible first|apply aE|apply aF|apply aG)<;>intro _))
     refine MI YN ?_;repeat' (first | (simp (disch:=first | omega | (decide +kernel)) only[↓cE,↓pU,↓pW,↓ez,↓c9,↓da,↓cM,↓iB,↓aH,↓dA,↓aL,↓bf,bS,cL,lj,↓di,gh,eU,pop,bq,isVal,a8,ci,↓reduceIte,Nat.reduceEqDiff,bN,bZ,qw,uB,pL,jt,jS,iP,iN,fp,ba,fJ,true_and,and_true,f17,T,MZ,Sj,aq2]) | ((with_reducible first|apply aE|apply aF|apply aG)<;>intro _))
     have aq3:(j8 (j+1) (B2 k)++y.drop (j+1)).length=x.length:=by rw[cG,Jo,lB];omega
     refine⟨x.length-(j+1),Om,j+1,by rw[T],Om,rfl,by show rh.nx<=K12.nx+1;omega,λb hb hl=> ?_, .inr ⟨rr,mU,by rw[aq3],yH,by show rr<K12.nx+1;omega,?_,Sj⟩⟩
     ·have aB:b≠rr:=λe=>by subst e;exact hl yH
      rw[br,iN aB];exact(bL Om).trans (Mi b hb hl)
     rw[br,iP rfl,aqW fK]
    repeat' (first | (simp (disch:=first | omega | (decide +kernel)) only[↓RD,RU,↓aH,↓aL,↓bf,pop,aD,↓reduceIte,Nat.reduceEqDiff,ρ29,W,hY,f16,f17,afZ,S,T]) | ((with_reducible first|apply aE|apply aF|apply aG)<;>intro _))
    have hjj:j=y.length:=by omega
    subst hjj;rw[List.drop_length,gY] at YM;refine⟨4-(k+1),Om,k+1,ys.set k (j8 y.length (B2 k)),rfl,hk,rfl,Om,λb hb hl=>(Mi b Om (hl (k+1) Om Om)).trans (QA b hb hl),by rw[List.length_set,ysl],λp x' y' h1 h2=> ?_,λp w y' h1 h2=> ?_,λp y' h1 h2=> ?_⟩
    ·rw[YY] at h2;by_cases M:k=p
     ·subst M;rw[iP rfl] at h2;rw[Si] at h1;cases h1;split at h2;·cases h2;rw[Jo];exact T
      cases h2
     rw[iN M] at h2;exact EX p x' y' h1 h2
    ·rw[YY] at h2;by_cases M:k=p
     ·subst M;rw[iP rfl] at h2;rw[S] at h1;cases h1;split at h2;·cases h2;exact YM
      cases h2
     rw[iN M] at h2;exact(YL p w y' h1 h2).mv ⟨n12,λ_ _=>rfl⟩ λb hb hl=>Mi b hb (by rw[hl];simp only[ne_eq,Option.some.injEq,Prod.mk.injEq];omega)
    rw[YY] at h2;by_cases M:k=p
    ·subst M;rw[iP rfl] at h2;split at h2;·cases h2;rw[Jo]
     cases h2
    rw[iN M] at h2;exact Tr p y' Om h2
   have sW:k=4:=by omega
   subst sW;repeat' (first | (simp (disch:=first | omega | (decide +kernel)) only[↓RD,RU,↓aH,↓aL,↓bf,pop,↓reduceIte,Nat.reduceEqDiff,W,f16]) | ((with_reducible first|apply aE|apply aF|apply aG)<;>intro _))
   refine ef (λn tK K1=>KpD ow i rh n (tK 18) K1) (n:=4) ⟨0,rfl,bR _,by(repeat' (first | (simp (disch:=first | omega | (decide +kernel)) only[↓aH,↓reduceIte]) | ((with_reducible first|apply aE|apply aF|apply aG)<;>intro _));all_goals rfl),ai _,λ_ _ _=>rfl⟩ ?_;rintro n tK NQ ⟨k,rfl,sW,f18,n13,Sk⟩ ij;have aq4:=(Sk s.nx Om λj _ _=>by rw[oF _ RP];simp).trans afY;by_cases hk:k<4
   ·obtain⟨aw,x,Si,S,xr⟩:=hVX k hk;obtain⟨y,Y⟩ : ∃y,ys[k]? = some y:=⟨_,cj Om⟩;have T:=EX k x y Si Y;have hyq:=Tr k y hk Y;have KD:=(YL k _ y S Y).mv (K':=NQ) (cf:=ow) ⟨n13,λ_ _=>rfl⟩ λb hb hl=>Sk b hb λj _ h2=>by rw[hl];simp only[ne_eq,Option.some.injEq,Prod.mk.injEq];omega
    have hkV:k<V.length:=by omega
    repeat' (first | (simp (disch:=first | omega | (decide +kernel)) only[↓dx,↓jN,↓cE,↓ez,↓fj,↓fZ,↓c9,↓da,↓cM,↓dL,↓kj,↓iB,↓aH,↓aL,↓bf,bS,cL,ki,↓di,↓jW,mO,pop,aD,cq,db,isVal,ci,c8,iw,dC,↓reduceIte,Nat.reduceEqDiff,Nat.reduceAdd,reduceCtorEq,bN,bZ,jD,rM,kQ,pu,qx,kc,gI,gZ,ju,gY,tB,tz,jt,jS,dv,Nat.reduceLeDiff,ai,Pg,gi,↓mP,kO,iP,fp,ba,fJ,and_true,W,ij,f18,aq4,S,Pg]) | ((with_reducible first|apply aE|apply aF|apply aG)<;>intro _))
    have hgM:eV (um 0) 9 1 fU (NQ.new (.cells [.string ⟨⟨[33]⟩⟩, .string ⟨⟨[33]⟩⟩, .string ⟨⟨[33]⟩⟩] 9 .ex)) (.slice aw x.length x.length) y:=by
     rcases KD with ⟨h1,h2⟩ | ⟨rr,mU,I,yH,Dz,MZ,Sj⟩
     ·exact .inl ⟨h1,h2⟩
     exact .inr ⟨rr,mU,I,bR _,qu Dz,(bL (Jq Dz)).trans MZ,Sj⟩
    refine yS (A:=um 0) (f:=fU) (xs:=y) (ys:= [[33],[33],[33]]) BI hgM ⟨bR _,λb hb=>absurd hb (fW _)⟩ (by show(y.length+3)*16<=_;omega) (by show y.length+3<=_;omega) rfl rfl λv6 YO g1 g2 g3 g4=> ?_;have g3:NQ.nx+1<=YO.nx:=g3;have aq5 : ∀b,b<NQ.nx->ow b≠some (i,k+1)->YO.ob b=NQ.ob b:=λb hb hl=>(g4 b (qu hb) (KD.off hl)).trans (bL (Jq hb));have YP:(y++ [[33],[33],[33]]).length=y.length+3:=by rw[cG];rfl
    obtain⟨bb,kd6,e6,mi,fE,vz,hb4⟩:=g1.resolve_left λg=>by have Z:=congrArg List.length g.1;rw[YP] at Z;cases Z
    rw[YP] at e6;subst e6;have hl7:((y++ [[33],[33],[33]]).flatMap fU).length=y.length+3:=by rw[zy,eR,YP]
    have fO:sI [.int .u8 (48+(k:Int))]=some [(48+k).toUInt8]:=by
     show(some []).map (UInt8.ofNat (48+(k:Int)).toNat:: ·)=_;rw[show(48+(k:Int)).toNat=48+k by omega];rfl
    have YN:bP (binOp .add 0 (.string ⟨#[63]⟩) (.string ⟨[(48+k).toUInt8].toArray⟩))=some (.string (tx (B2 k))):=QV (a:=tx [63]) (b:=tx [(48+k).toUInt8]) (by show 1+1<=_;decide);repeat' (first | (simp (disch:=first | omega | (decide +kernel)) only[↓RD,RU,↓aH,↓aL,↓bf,pop,↓reduceIte]) | ((with_reducible first|apply aE|apply aF|apply aG)<;>intro _))
    refine ef (λn yL K1=>NJ YO y.length n (yL 20) K1) (n:=y.length) ⟨0,rfl,bR _,by(repeat' (first | (simp (disch:=first | omega | (decide +kernel)) only[↓aH,↓reduceIte]) | ((with_reducible first|apply aE|apply aF|apply aG)<;>intro _));all_goals rfl),ag.refl _⟩ ?_;rintro n yL K15 ⟨j,rfl,hj,f20,Sn⟩ nO;have kB:=(Sn.ob bb fE).trans vz;by_cases fK:j<y.length
    ·have hcj:((y++ [[33],[33],[33]]).flatMap fU)[j]? = some (.string (tx (B2 k))):=by
      refine(Ns ?_).1;rw[qo fK,hyq,List.getElem?_replicate,iP fK]
     repeat' (first | (simp (disch:=first | omega | (decide +kernel)) only[↓RD,RU,↓aH,↓aL,↓bf,bS,pop,aD,cq,db,isVal,ci,ρ0,ρ1,ρ4,↓reduceIte,Nat.reduceEqDiff,ρ7,ρ8,ρ15,ρ17,ρ18,ρ21,ρ25,ρ26,dv,Nat.reduceLeDiff,tR,ρ29,nO,f18,f20,fO,kB,hcj]) | ((with_reducible first|apply aE|apply aF|apply aG)<;>intro _))
     refine MI YN ?_;repeat' (first | (simp (disch:=first | omega | (decide +kernel)) only[↓RD,RU,↓aH,↓aL,↓bf,pop,↓reduceIte,Nat.reduceEqDiff,f20,YF]) | ((with_reducible first|apply aE|apply aF|apply aG)<;>intro _))
     exact⟨y.length-(j+1),Om,j+1,rfl,fK,rfl,Sn.new _⟩
    repeat' (first | (simp (disch:=first | omega | (decide +kernel)) only[↓RD,RU,↓aH,↓aL,↓bf,pop,↓reduceIte,Nat.reduceEqDiff,nO,f18,f20]) | ((with_reducible first|apply aE|apply aF|apply aG)<;>intro _))
    have ase:=Sn.nx;refine⟨4-(k+1),Om,k+1,rfl,hk,rfl,Om,λb hb hl=> ?_⟩;rw[Sn.ob b Om,aq5 b Om (hl (k+1) Om (ai _))];exact Sk b hb λj h1 h2=>hl j h1 Om
   have sW:k=4:=by omega
   subst sW;repeat' (first | (simp (disch:=first | omega | (decide +kernel)) only[↓RD,RU,↓aH,↓aL,↓bf,pop,↓reduceIte,Nat.reduceEqDiff,W,ij,f14,f18]) | ((with_reducible first|apply aE|apply aF|apply aG)<;>intro _))
   refine⟨st.length-(i+1),Om,i+1,rfl,au,rfl,Om,λb hb hu=> ?_⟩;have JZ : ∀j,1<=j->j<=4->ow b≠some (i,j):=λj h1 h2=>hu i j (fN _) h1 h2;rw[Sk b Om JZ,QA b Om JZ,G.ob b Om];exact Q b hb λR j h1 h2 h3=>hu R j (qu h1) h2 h3
  have E:ag u t:=C.trans (z.trans (D.trans J));have NR : ∀b,b<t.nx->(b<m.nx+1\/u.nx<=b)->s.ob b=t.ob b:=λb hb hc=>by
   have ho:ow b=none:=by
    cases ho:ow b with
    | none=>rfl
    | some x=>
      have h1:m.nx+1<=b:=(mL b (by rw[ho];simp)).1;have h2:=(mL b (by rw[ho];simp)).2;omega
   exact Q b hb λR j _ _ _=>by rw[ho];simp
  have LV:ag d t:=Ij.trans (D.trans J);have h38:ag m t:=N.trans (O.trans E);have DK:=uf.trans E;have o27:=(NR m.nx Om Om).trans o26;have o07:=(NR K.nx Om Om).trans o06;have o17:=(NR d.nx Om Om).trans o16;repeat' (first | (simp (disch:=first | omega | (decide +kernel)) only[↓RD,RU,↓aH,↓aL,pop,aD,ρ0,ρ1,↓reduceIte,Nat.reduceEqDiff,Nat.reduceAdd,ρ7,ρ8,ρ15,ρ18,aq,f14,o27]) | ((with_reducible first|apply aE|apply aF|apply aG)<;>intro _))
  have hs9:bK s (λb=>d.nx+1<=b/\b<m.nx) (cF (lx (iE src).1)) (oT ⟨n3.k,n3.l,n3.x,n3.o,n3.a,n3.n,n3.c⟩):=RA.mv λb hb=>⟨hb,by
   have h1:b<m.nx:=hb.2;rw[NR b Om Om];exact h38.ob b h1⟩
  refine(R7 (.inr (.inr rfl)) (anD (λb=>d.nx+1<=b/\b<m.nx) _ ⟨n3.k,n3.l,n3.x,n3.o,n3.a,n3.n,n3.c⟩ s (anz (λb hb=>hb) _ _ (fN _) _ hs9) λb hb=>by have:=hb.2;omega)).mono λv K16 xX=> ?_;have n16:=xX.nx;have Jd : ∀b,b<t.nx->(b<d.nx+1\/u.nx<=b)->K16.ob b=t.ob b:=λb hb hc=>(xX.out b Om Om).trans (NR b hb Om);have p0:=(Jd K.nx Om Om).trans o06;have p1:=(Jd d.nx Om Om).trans o16;repeat' (first | (simp (disch:=first | omega | (decide +kernel)) only[↓RD,RU,↓aH,↓aL,pop,ρ0,ρ1,↓reduceIte,Nat.reduceEqDiff,aq]) | ((with_reducible first|apply aE|apply aF|apply aG)<;>intro _))
  refine(afU (K:=K16) (A:=λy=>u.nx<=y/\y<t.nx) (B:=λy=>u.nx<=y/\y<t.nx) (λb hb=>by have:=hb.2;omega) (λb hb=>by have:=hb.2;omega) (rb5.mv λb hb=> ?_) (rc8.mv λb hb=> ?_)).mono λv K17 ⟨NS,e⟩=> ?_;·have h1:=(afX b hb.1).1;have h2:=hb.2;exact⟨⟨h1,Om⟩,by rw[Jd b Om (.inr h1)];exact(z.trans (D.trans J)).ob b h2⟩
  ·have h1:=hb.1;have h2:=hb.2;exact⟨⟨Om,h2⟩,Jd b h2 (.inr Om)⟩
  subst e;have n17:=NS.nx;have q0:=(NS.ob K.nx Om).trans p0;have q1:=(NS.ob d.nx Om).trans p1;repeat' (first | (simp (disch:=first | omega | (decide +kernel)) only[↓RD,RU,↓aH,↓aL,↓bf,pop,aD,ρ0,ρ1,↓reduceIte,Nat.reduceEqDiff,Nat.reduceAdd,ρ7,ρ8,ρ15,ρ18,aq,q0,q1]) | ((with_reducible first|apply aE|apply aF|apply aG)<;>intro _))
  have P:=adN true (K:=K17) (A:=λb=>H.nx<=b/\b<K.nx) (B:=λb=>K.nx+1<=b/\b<d.nx) (λb hb=>by have:=hb.2;omega) (λb hb=>by have:=hb.2;omega) (hs.mv λb hb=>⟨hb,by
   have h2:=hb.2;rw[NS.ob b Om,Jd b Om Om];exact DK.ob b h2⟩) (MJ.mv λb hb=>⟨hb,by
   have h2:=hb.2;rw[NS.ob b Om,Jd b Om Om];exact LV.ob b h2⟩)
  rw[WA] at P;unfold eB at P;refine(R7 (.inl rfl) P).mono λv K18 ⟨asf,e⟩=> ?_;subst e;repeat' (first | (simp (disch:=first | omega | (decide +kernel)) only[↓RD,RU,↓aH,↓aL,pop,cY,fQ,dU,↓reduceIte,Nat.reduceEqDiff]) | ((with_reducible first|apply aE|apply aF|apply aG)<;>intro _))
 have hd:decide ((iE src).2.2=0)=false:=decide_eq_false bX;repeat' (first | (simp (disch:=first | omega | (decide +kernel)) only[↓RD,RU,↓aH,↓dA,↓aL,↓bf,bS,sP,pop,cq,bq,cY,fQ,dU,db,isVal,a8,ci,ρ3,↓reduceIte,Nat.reduceEqDiff,Nat.reduceAdd,ρ5,ρ6,ρ7,ρ8,ρ17,ρ21,ρ22,ρ23,Kd.bY,ρ25,ρ26,eB]) | ((with_reducible first|apply aE|apply aF|apply aG)<;>intro _))
theorem agj{H:CH}(hp:wT H){q:Option Addr}{c:Nat}{xs:List Int}(h:ig 1 (pY .u8) H q c xs):aQ yn 4 [.slice q xs.length c] H λv _=>v= .bool true:=by
 obtain⟨a,rfl⟩:=aqI h;rw[CQ];exact aqX hp h
end
section
open Go Go.RowKit Go.Lib
theorem agk{w:World}{l:List (String×DataW Unit)}(h:laidMetH Tryz.prog l w)(hp:(l.all λx=>x.2.handleName?.isNone)=true)(b:("internal/strconv.uint64pow10",(Rows.laid_internal_strconv_uint64pow10:DataW Unit))∈l):wT (tC w):=by
 have c:l.filter (λx=>x.2.handleName?.isSome)= []:=List.filter_eq_nil_iff.2 λx hx=>by
  have:=List.all_eq_true.1 hp x hx;cases d:x.2.handleName? with
  | none=>simp
  | some y=>rw[d] at this;cases this
 unfold laidMetH at h;rw[c] at h;obtain⟨g,t,cs,fuel,p,hg,f,a,hd⟩:=laidMet.reads h b;obtain rfl:=Option.some.inj ((show Tryz.prog.globalNamed "internal/strconv.uint64pow10" = some 0 by kernel_rfl).symm.trans hg);obtain rfl:=Option.some.inj ((show(Tryz.prog.globals[0]?).map (·.type)=some 143 by kernel_rfl).symm.trans f);have e:(Rows.laid_internal_strconv_uint64pow10:DataW Unit)=tabData .u64 pow10Tab:=by rfl
 rw[e] at hd;have i:=cells_of_tab Tryz.underlying143 Tryz.underlying132 Kr Kr hd;unfold World.var? at a;rw[hg] at a;simp only[Option.bind_some] at a;cases hb:w.heap[0]? with
 | none=>rw[hb] at a;cases a
 | some ob=>
   rw[hb] at a;cases ob with
   | cells cs' t' fr=>
     cases a;refine⟨(Array.getElem?_eq_some_iff.1 hb).1,0,?_⟩;unfold tC;simp only[hb,i];congr 1
     rw[List.map_map];exact List.map_congr_left λz _=>by
      show mask (kC w) (.int .u64 z)=_;unfold mask;rw[iP (show VR (kC w) (cz (.int .u64 z)) (.int .u64 z) from .int .u64 z)];rfl
   | _=>cases a
end
end Can
end Go.Proofs.YticlaccbodpkeaaGreatDoor
