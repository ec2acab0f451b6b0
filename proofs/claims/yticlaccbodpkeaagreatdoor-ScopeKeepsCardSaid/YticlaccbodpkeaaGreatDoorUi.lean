/- Scope, Check: need, the closure of frees. Scope, Check: frees as a function: what it keeps. No program in sight. Scope, Check: frees, its kids' closure; what the walk lies in. Scope, Check: what the events are like; frees counts as visit does. No program in sight. Scope, Check: frees, its walk. Scope, Check: frees. Scope, Check: Clone; cells' parts. Scope, Check: labels made fewer; Check's head. Scope, Check: what trees of sources have. No program in sight. Rename, the document: kids that lie apart in the memory; comp. Rename, the document: rename. Show: trees without long texts. No program in sight. Parse: no tree has a text that is longer than a token's; a for has three kids. No program in sight. Lex: no token's text is longer than a source. No program in sight. ScopeAgain: sources' trees are small. No program in sight. The round trip: gr answers trees as XRtW says. No program in sight. The round trip: a source's tokens are tokens; a source's tree is as XRtW says. No program in sight. ScopeRenames: the trees that both rename; what is told; the law. Scope, Check: trees of sources. ScopeClosed: what is told; name, Find. ScopeKeeps: what is told; lists of scopes compared. -/
import Derived.Test.YticlaccbodpkeaaGreatDoorUa
import Derived.Test.YticlaccbodpkeaaGreatDoorUh
import Derived.Test.YticlaccbodpkeaaGreatDoorUg
import Derived.Test.YticlaccbodpkeaaGreatDoorUe
import Derived.Test.YticlaccbodpkeaaGreatDoorUd
open Bool renaming and_true → pL
open Decidable renaming byContradiction → Gt
open Go renaming Addr → cB, FuncId → aS, Value → ae
open Go.Value renaming cells → ci
open Iff renaming rfl → eM
open Int renaming add_zero → sD, toNat_natCast → fJ, zero_add → Cb
open List renaming all_cons → qw, all_nil → uB, append_nil → gY, cons_append → gZ, drop_nil → tz, drop_succ_cons → kc, drop_zero → gI, eq_of_mem_replicate → YZ, ext_getElem? → DV, filter_cons → Oa, flatMap_cons → tw, foldl_cons → Gj, getD_eq_getElem?_getD → yq, getElem?_cons_succ → e9, getElem?_cons_zero → eZ, getElem?_eq_getElem → cj, getElem?_eq_none → uA, getElem?_modify → xh, getElem_of_mem → Gm, length_append → cG, length_cons → bN, length_drop → lB, length_map → eR, length_nil → bZ, length_take → kW, map_cons → c8, map_nil → iw, mem_append → gu, mem_cons → mD, mem_cons_self → lA, mem_of_getElem? → fD, mem_singleton → nh, nil_append → ju, range → mB, size_toArray → jt, sum_cons → Jp, take_append_drop → yv, take_length → ng, take_nil → tB, take_succ_cons → qx, take_succ_eq_append_getElem → pJ, take_zero → vU, toList_toArray → jS
open Nat renaming add_zero → mA, le_refl → ai, le_trans → cy, lt_of_lt_of_le → cQ, lt_succ_self → fN, mul_one → fp, not_lt_zero → fW, zero_add → ba, zero_le → bR
open Ne renaming symm → uz
open Option renaming map_eq_some_iff → nf, map_some → dC
open SizeOf renaming sizeOf → fc
set_option maxRecDepth 4000
set_option maxHeartbeats 40000000
set_option linter.unusedSimpArgs false
set_option linter.unusedVariables false
namespace Go.Proofs.YticlaccbodpkeaaGreatDoor
namespace Can
section
open Go Go.RowKit
theorem kV.fv{v hv:ae}{st:List al}{K:CH}{W:Nat->Prop}(h:kV v hv st K W) : ∃ow bs,jR true K ow v st bs:=by
 obtain⟨ow,bs,ms,a,b,h1,h2,h3,_⟩:=h;exact⟨ow,bs,h3⟩
structure FB(b3 b4:Nat)(v hv:ae)(K:CH)(W:Nat->Prop):Prop where
 o3:K.ob b3= .cells [v] 65 .ex
 o4:K.ob b4= .cells [hv] 103 .ex
 l3:b3<K.nx
 l4:b4<K.nx
 w3 : ¬W b3
 w4 : ¬W b4
theorem FB.ex{b3 b4:Nat}{v hv:ae}{K K':CH}{W W' X:Nat->Prop}(h:FB b3 b4 v hv K W)(hx:VX X W W' K K')(h3 : ¬X b3)(h4 : ¬X b4):FB b3 b4 v hv K' W':=by
 obtain⟨c,d,e,i,a,b⟩:=h;have hn:=hx.nx;exact⟨(hx.ob _ e a h3).trans c,(hx.ob _ i b h4).trans d,Om,Om,λw=>(hx.w _ w).elim a λg=>by omega,λw=>(hx.w _ w).elim b λg=>by omega⟩
def FT (st:List al)(f:Nat)(F:al)(s:Bs):Prop:=s= []\/F.binds s\/s∈F.g\/s∈F.fs\/mZ st f s 0=false
instance (st:List al) (f:Nat) (F:al) (s:Bs):Decidable (FT st f F s):=inferInstanceAs (Decidable (_\/_))
theorem apk{st:List al}{f:Nat}{F:al}{s:Bs}(a:st[f]? = some F)(h:FT st f F s):eQ st f s=st:=by
 unfold eQ;have h':s= []\/F.binds s\/s∈F.g\/s∈F.fs\/mZ st f s 0=false:=h;rw[Na a,iP h'];exact Ro a
theorem apl{st:List al}{f:Nat}{F:al}{s:Bs}(a:st[f]? = some F)(h : ¬FT st f F s):eQ st f s=fo st f λF=> { F with fs:=F.fs++ [s] }:=by
 unfold eQ;have h' : ¬(s= []\/F.binds s\/s∈F.g\/s∈F.fs\/mZ st f s 0=false):=h;rw[Na a,iN h',Na (u:=λF=> { F with fs:=F.fs++ [s] }) a]
def NdM (K:CH)(st:List al)(f:Nat)(F:al)(s:Bs)(b3 b4 b:Nat)(x:bp)(fr:Fr)(H:CH):Prop:=H=K/\((x= .normal/\fr 0= .int .i64 (f:Nat)/\fr 1= .string (tx s)/\fr 2=pN b3/\fr 3=pN b4/\fr 6=pN b/\¬FT st f F s)\/(x= .ret/\FT st f F s))
theorem apm{v hv:ae}{st:List al}{K:CH}{W:Nat->Prop}{b3 b4:Nat}(h:kV v hv st K W)(U:FB b3 b4 v hv K W)(V:Ng st)(X:st.length<=4611686018427387904){f:Nat}{F:al}(C:st[f]? = some F)(yB:F.fs.length<=1099511627776)(s:Bs):aQ gH 62 [.int .i64 (f:Nat), .string (tx s),pN b3,pN b4] K λ_ K'=>∃W',kV v hv (eQ st f s) K' W'/\VX nU W W' K K':=by
 obtain⟨o3,o4,l3,l4,w3,w4⟩:=U;have Y:f<st.length:=(List.getElem?_eq_some_iff.1 C).1;obtain⟨ow,bs,Z⟩:=h.fv;obtain⟨b,m,vp,vl,vc,vf,m1,m2,m3,⟨q,L,kd,n,rfl,u,w,q2,q3,q4,qW,q5,q6,q7⟩,⟨hq,L2,mU,n2,rfl,x,z,r2,r3,r4,rW,r5,r6,r7⟩,IK,Nk,gR,nX,N,l,wS,nP,O,kp,ak,P,yk,sM⟩:=h.add C s;have i:=EO (a:=s) (b:= []);have t:=wS.lk s;have j:=nP.lk s;have d:=O.lk s;refine dq Rl Kr (aK ?_);refine QU (NdM K st f F s b3 b4 b) ?_ ?_
 ·by_cases D:s= []
  ·rw[decide_eq_true D] at i;have i:bP (binOp .eql 0 (.string (tx s)) (.string ⟨⟨[]⟩⟩))=some (.bool true):=i;refine rn (jz @o3 @u @w @i) ?_;exact⟨rfl, .inr ⟨rfl, .inl D⟩⟩
  rw[decide_eq_false D] at i;have i:bP (binOp .eql 0 (.string (tx s)) (.string ⟨⟨[]⟩⟩))=some (.bool false):=i;by_cases hp:s∈F.ps++F.ls
  ·rw[nZ hp] at t;have B:FT st f F s:= .inr (.inl (List.mem_append.1 hp));by_cases hg:s∈F.g
   ·rw[nZ hg] at j;by_cases ho:s∈F.fs
    ·rw[nZ ho] at d;repeat' (first | (simp (disch:=first | omega | (decide +kernel)) only[↓dx,↓cE,↓ez,↓kM,↓fj,↓fZ,↓c9,↓nI,↓nJ,↓rL,↓da,↓cM,↓dL,↓aH,↓aL,↓bf,cL,↓di,↓oD,cZ,eT,gh,jg,eU,pop,aD,↓reduceIte,Nat.reduceEqDiff,Int.reduceOfNat,reduceCtorEq,eZ,e9,Int.reduceAdd,gi,iP,fp,ba,fJ,i,o3,o4,u,w,x,z,l,t,j,d]) | ((with_reducible first|apply aE|apply aF|apply aG)<;>intro _))
     exact⟨rfl, .inr ⟨rfl,B⟩⟩
    rw[n7 ho] at d;repeat' (first | (simp (disch:=first | omega | (decide +kernel)) only[↓dx,↓cE,↓ez,↓kM,↓fj,↓fZ,↓c9,↓nI,↓nJ,↓rL,↓da,↓cM,↓dL,↓aH,↓aL,↓bf,cL,↓di,↓oD,cZ,eT,gh,jg,eU,pop,aD,↓reduceIte,Nat.reduceEqDiff,Int.reduceOfNat,reduceCtorEq,eZ,e9,Int.reduceAdd,sD,gi,iP,fp,ba,fJ,i,o3,o4,u,w,x,z,l,t,j,d]) | ((with_reducible first|apply aE|apply aF|apply aG)<;>intro _))
    exact⟨rfl, .inr ⟨rfl,B⟩⟩
   rw[n7 hg] at j;by_cases ho:s∈F.fs
   ·rw[nZ ho] at d;repeat' (first | (simp (disch:=first | omega | (decide +kernel)) only[↓dx,↓cE,↓ez,↓kM,↓fj,↓fZ,↓c9,↓nI,↓nJ,↓rL,↓da,↓cM,↓dL,↓aH,↓aL,↓bf,cL,↓di,↓oD,cZ,eT,gh,jg,eU,pop,aD,↓reduceIte,Nat.reduceEqDiff,Int.reduceOfNat,reduceCtorEq,eZ,e9,Int.reduceAdd,sD,gi,iP,fp,ba,fJ,i,o3,o4,u,w,x,z,l,t,j,d]) | ((with_reducible first|apply aE|apply aF|apply aG)<;>intro _))
    exact⟨rfl, .inr ⟨rfl,B⟩⟩
   rw[n7 ho] at d;repeat' (first | (simp (disch:=first | omega | (decide +kernel)) only[↓dx,↓cE,↓ez,↓kM,↓fj,↓fZ,↓c9,↓nI,↓nJ,↓rL,↓da,↓cM,↓dL,↓aH,↓aL,↓bf,cL,↓di,↓oD,cZ,eT,gh,jg,eU,pop,aD,↓reduceIte,Nat.reduceEqDiff,Int.reduceOfNat,reduceCtorEq,eZ,e9,sD,gi,iP,fp,ba,fJ,i,o3,o4,u,w,x,z,l,t,j,d]) | ((with_reducible first|apply aE|apply aF|apply aG)<;>intro _))
   exact⟨rfl, .inr ⟨rfl,B⟩⟩
  rw[n7 hp] at t;have IL : ¬F.binds s:=λh=>hp (List.mem_append.2 h);by_cases hg:s∈F.g
  ·rw[nZ hg] at j;have B:FT st f F s:= .inr (.inr (.inl hg));by_cases ho:s∈F.fs
   ·rw[nZ ho] at d;repeat' (first | (simp (disch:=first | omega | (decide +kernel)) only[↓dx,↓cE,↓ez,↓kM,↓fj,↓fZ,↓c9,↓nI,↓nJ,↓rL,↓da,↓cM,↓dL,↓aH,↓aL,↓bf,cL,↓di,↓oD,cZ,eT,gh,jg,eU,pop,aD,↓reduceIte,Nat.reduceEqDiff,Int.reduceOfNat,reduceCtorEq,eZ,e9,Int.reduceAdd,Cb,gi,iP,fp,ba,fJ,i,o3,o4,u,w,x,z,l,t,j,d]) | ((with_reducible first|apply aE|apply aF|apply aG)<;>intro _))
    exact⟨rfl, .inr ⟨rfl,B⟩⟩
   rw[n7 ho] at d;repeat' (first | (simp (disch:=first | omega | (decide +kernel)) only[↓dx,↓cE,↓ez,↓kM,↓fj,↓fZ,↓c9,↓nI,↓nJ,↓rL,↓da,↓cM,↓dL,↓aH,↓aL,↓bf,cL,↓di,↓oD,cZ,eT,gh,jg,eU,pop,aD,↓reduceIte,Nat.reduceEqDiff,Int.reduceOfNat,reduceCtorEq,eZ,e9,Cb,sD,gi,iP,fp,ba,fJ,i,o3,o4,u,w,x,z,l,t,j,d]) | ((with_reducible first|apply aE|apply aF|apply aG)<;>intro _))
   exact⟨rfl, .inr ⟨rfl,B⟩⟩
  rw[n7 hg] at j;by_cases ho:s∈F.fs
  ·rw[nZ ho] at d;repeat' (first | (simp (disch:=first | omega | (decide +kernel)) only[↓dx,↓cE,↓ez,↓kM,↓fj,↓fZ,↓c9,↓nI,↓nJ,↓rL,↓da,↓cM,↓dL,↓aH,↓aL,↓bf,cL,↓di,↓oD,cZ,eT,gh,jg,eU,pop,aD,↓reduceIte,Nat.reduceEqDiff,Int.reduceOfNat,reduceCtorEq,eZ,e9,Cb,sD,gi,iP,fp,ba,fJ,i,o3,o4,u,w,x,z,l,t,j,d]) | ((with_reducible first|apply aE|apply aF|apply aG)<;>intro _))
   exact⟨rfl, .inr ⟨rfl, .inr (.inr (.inr (.inl ho)))⟩⟩
  rw[n7 ho] at d;repeat' (first | (simp (disch:=first | omega | (decide +kernel)) only[↓dx,↓cE,↓ez,↓kM,↓c9,↓nI,↓nJ,↓da,↓cM,↓dL,↓KO,↓aH,↓aL,↓bf,cL,↓di,cZ,eT,gh,jg,eU,pop,aD,c8,iw,↓reduceIte,Nat.reduceEqDiff,Int.reduceOfNat,reduceCtorEq,eZ,e9,sD,oK,iP,fp,ba,fJ,i,o3,o4,u,w,x,z,l,t,j,d]) | ((with_reducible first|apply aE|apply aF|apply aG)<;>intro _))
  refine(aeS Z V X Y s (least:=0) (bR _)).mono λr K1 ⟨eK,er⟩=> ?_;subst er;rw[eK];cases E:mZ st f s 0;·have I:mZ st f s ((0:Nat):Int)=false:=E;refine rn @I ?_;exact⟨rfl, .inr ⟨rfl, .inr (.inr (.inr (.inr E)))⟩⟩
  have I:mZ st f s ((0:Nat):Int)=true:=E;refine rn @I ?_;refine⟨rfl, .inl ⟨rfl,by(exact aV;all_goals rfl),by(exact aV;all_goals rfl),by(exact aV;all_goals rfl),by(exact aV;all_goals rfl),by(exact aV;all_goals rfl),λhc=> ?_⟩⟩;rcases hc with h | h | h | h | h
  ·exact D h
  ·exact IL h
  ·exact hg h
  ·exact ho h
  rw[E] at h;cases h
 rintro x1 fr H ⟨Q,⟨rfl,f0,f1,f2,f3,f6,mh⟩ | ⟨rfl,B⟩⟩
 ·rw[apl C mh,cE,Q];obtain⟨oo,oW,XS⟩:=O.up s 1;repeat' (first | (simp (disch:=first | omega | (decide +kernel)) only[↓dx,↓cE,↓ez,↓c9,↓da,↓cM,↓dL,↓kj,↓iB,↓aH,↓dA,↓aL,↓bf,kf,bS,br,cL,lj,ki,↓di,pop,aD,cq,bq,db,isVal,ci,c8,iw,dC,↓reduceIte,Nat.reduceEqDiff,Int.reduceOfNat,reduceCtorEq,eZ,e9,bN,bZ,jD,kQ,pu,qx,kc,gI,gY,tB,tz,jt,jS,dv,Nat.reduceLeDiff,ai,tR,↓mP,kO,iP,iN,fp,ba,mA,fJ,and_true,f0,f1,f3,f6,o4,x,z,l,oW]) | ((with_reducible first|apply aE|apply aF|apply aG)<;>intro _))
  have R : ∀y,y<K.nx->y≠m->((K.set m oo).new (.cells [.string (tx s)] 9 .ex)).ob y=K.ob y:=λy hy hc=>by
   rw[bL (by show y≠K.nx;omega),cO hc]
  refine Di (A:=um 0) (bytes:=16) (f:=fU) (y:=s) BI (kp.nx (by show K.nx<=K.nx+1;omega) λy g1 g2 ⟨n',c',J⟩=>R y g2 λe=>by subst e;exact P _ _ _ J) Om Om rfl λG k1 S T=> ?_;have S:G.nx=K.nx+1+1:=S;have M : ∀y,y<K.nx->y≠m->ir vf y->G.ob y=K.ob y:=λy hy hc ho=>(T y (by show y<K.nx+1;omega) ho).trans (R y hy hc);have XH:=(M b gR N ak).trans l;repeat' (first | (simp (disch:=first | omega | (decide +kernel)) only[↓O5,↓c9,↓da,↓cM,↓iB,↓aH,↓aL,jK,kf,cL,lj,EJ,↓di,pop,bq,cY,isVal,a8,ci,↓reduceIte,Nat.reduceEqDiff,Nat.reduceAdd,bN,bZ,jD,rM,kc,gI,gZ,ju,qw,uB,pL,Kd.bY,jt,jS,Nat.reduceLeDiff,ba,mA,and_true,XH]) | ((with_reducible first|apply aE|apply aF|apply aG)<;>intro _))
  refine⟨λy=>W y\/y=K.nx+1,sM _ (K.nx+1) Om (by show K.nx+1<G.nx;omega) (λy hy hw h1 h2 h3=>(cO h1).trans (M y hy h2 h3)) (Dx (L:=F.fs) (s:=s)▸XS _ ?_) ((cO Om).trans k1) (by rw[br,iP rfl]),⟨by show K.nx<=G.nx;omega,λy hy hw _=>(cO λe=>hw (by rw[e];exact IK)).trans (M y hy (λe=>hw (by rw[e];exact Nk)) λo n c J=>hw (yk o n c y J)),λy hy=> ?_⟩⟩;·rw[cO (uz N),T m (by show m<K.nx+1;omega) P,bL (by show m≠K.nx;omega),br,iP rfl]
  rcases hy with hy | hy
  ·exact .inl hy
  exact .inr Om
 rw[apk C B,Q];refine aM ?_;exact⟨W,h,VX.ext (ag.refl _)⟩
end
section
theorem Nn{T:List Bs} : ∀ {xs:List Bs},xs.Nodup->(∀x∈xs,x∈T)->xs.length<=T.length:=by
 induction T with
 | nil=>
   intro xs _ h;cases xs with
   | nil=>exact ai _
   | cons x r=>exact absurd (h x (lA ..)) Sm
 | cons t T a=>
   intro xs hn h;by_cases ht:t∈xs
   ·have h1:=a (hn.erase t) λx hx=>by
     have h2:=(List.Nodup.mem_erase_iff hn).1 hx;exact(List.mem_cons.1 (h x h2.2)).resolve_left h2.1
    rw[List.length_erase_of_mem ht] at h1;rw[bN];omega
   have h1:=a hn λx hx=>(List.mem_cons.1 (h x hx)).resolve_left λe=>ht (e▸hx);rw[bN];omega
mutual
def vL (T:List Bs):Nd->Prop
 | .mk _ _ x _ ks=>x∈T/\qj T ks
def qj(T:List Bs):List Nd->Prop
 | []=>True
 | n::ks=>vL T n/\qj T ks
end
theorem Np{T:List Bs} : ∀ {ks:List Nd} {n:Nd},qj T ks->n∈ks->vL T n
 | m::ks,n,h,hn=>by
   rcases List.mem_cons.1 hn with rfl | hn
   ·exact h.1
   exact Np h.2 hn
structure my(T:List Bs)(st:List al):Prop where
 par:Ng st
 len:st.length<=2305843009213693952
 fs : ∀F∈st,F.fs.Nodup/\∀s∈F.fs,s∈T
theorem XT{fns:List al}{i:Nat}{u:al->al}{F:al}(h:F∈fo fns i u):F∈fns\/∃G∈fns,F=u G:=by
 obtain⟨j,b,e⟩:=Gm h;have h1:(fo fns i u)[j]? = some F:=by rw[cj b,e]
 unfold fo at h1;rw[xh] at h1;cases hg:fns[j]? with
 | none=>rw[hg] at h1;simp at h1
 | some G=>
   rw[hg] at h1;by_cases a:i=j
   ·exact .inr ⟨G,fD hg,by simpa[a] using h1.symm⟩
   left;have:G=F:=by simpa[a] using h1
   exact this▸fD hg
theorem my.mod{T:List Bs}{st:List al}(h:my T st){i:Nat}{u:al->al}(hp : ∀F,(u F).par=F.par)(d : ∀F∈st,(u F).fs.Nodup/\∀s∈(u F).fs,s∈T):my T (fo st i u):=by
 refine⟨λj F a=> ?_,by rw[BP];exact h.len,λF a=> ?_⟩
 ·unfold fo at a;rw[xh] at a;cases hg:st[j]? with
  | none=>rw[hg] at a;simp at a
  | some G=>
    rw[hg] at a;have b:=h.par j G hg;by_cases c:i=j
    ·have e:u G=F:=by simpa[c] using a
     rw[<-e,hp];exact b
    have e:G=F:=by simpa[c] using a
    rw[<-e];exact b
 rcases XT a with h1 | ⟨G,h1,rfl⟩
 ·exact h.fs F h1
 exact d G h1
theorem XU{xs:List Bs}{s:Bs}(h:xs.Nodup)(hs:s∉xs):(xs++ [s]).Nodup:=by
 rw[List.nodup_append];refine⟨h,Sm,λa ha b hb e=> ?_⟩;rw[nh] at hb;exact hs (hb▸e▸ha)
theorem my.lD{T:List Bs}{st:List al}(h:my T st){f:Nat}{s:Bs}(hs:s∈T):my T (eQ st f s):=by
 unfold eQ;refine h.mod (λF=>by split<;>rfl) λF b=> ?_;have a:=h.fs F b;split;·exact a
 rename_i hc;refine⟨XU a.1 λc=>hc (.inr (.inr (.inr (.inl c)))),λy hy=> ?_⟩;rcases List.mem_append.1 hy with hy | hy
 ·exact a.2 y hy
 rw[nh] at hy;rw[hy];exact hs
theorem Nq{st:List al}{f:Nat}{s:Bs}:(eQ st f s).length=st.length:=BP
theorem ae0 : ∀(xs:List Bs) (F:al),(xs.foldl nT F).par=F.par/\(xs.foldl nT F).ps=F.ps/\(xs.foldl nT F).ls=F.ls
 | [],F=>⟨rfl,rfl,rfl⟩
 | s::xs,F=>by
   rw[Gj];have h:=ae0 xs (nT F s);unfold nT at h⊢;split at h;·rename_i hc;rw[iP hc];exact h
   rename_i hc;rw[iN hc];exact h
theorem XV{T:List Bs} : ∀(xs:List Bs) (F:al),F.fs.Nodup->(∀s∈F.fs,s∈T)->(∀s∈xs,s∈T)->(xs.foldl nT F).fs.Nodup/\∀s∈(xs.foldl nT F).fs,s∈T
 | [],F,h1,h2,_=>⟨h1,h2⟩
 | s::xs,F,h1,h2,h3=>by
   rw[Gj];refine XV xs _ ?_ ?_ λy hy=>h3 y (List.mem_cons_of_mem _ hy)
   ·unfold nT;split;·exact h1
    rename_i hc;exact XU h1 λa=>hc (.inr a)
   unfold nT;split;·exact h2
   intro y hy;rcases List.mem_append.1 hy with hy | hy
   ·exact h2 y hy
   rw[nh] at hy;rw[hy];exact h3 s (lA ..)
theorem my.get{T:List Bs}{st:List al}(h:my T st)(g:Nat):((st.getD g sg).fs).Nodup/\∀s∈(st.getD g sg).fs,s∈T:=by
 rw[yq];cases hg:st[g]? with
 | none=>exact⟨by simp[sg],λs hs=>by simp[sg] at hs⟩
 | some G=>exact h.fs G (fD hg)
theorem my.prop{T:List Bs}{st:List al}(h:my T st){f g:Nat}:my T (zx st f g):=by
 unfold zx;refine h.mod (λF=>(ae0 _ F).1) λF a=>XV _ F (h.fs F a).1 (h.fs F a).2 (h.get g).2
theorem apn{st:List al}{f g:Nat}:(zx st f g).length=st.length:=BP
theorem Nr{st:List al×Nat}{f:Nat}{mb:Bool}{l:Int}{x:Bs}{o:Nat}{ks:List Nd}:cD st f mb (.mk 17 l x o ks)=st:=by
 by_cases h1 : ∃p b,ks= [p,b]
 ·obtain⟨p,b,rfl⟩:=h1;cases b;rw[cD,iP rfl]
 rw[cD,iP rfl];·exactλp b e=>h1 ⟨p,b,e⟩
 exactλa bk bl bx bo bs e=>h1 ⟨_,_,e⟩
theorem Rt{st:List al×Nat}{f:Nat}{mb:Bool}{k:Nat}{l:Int}{x:Bs}{o:Nat}{p b:Nd}(hk:k=8\/k=50):cD st f mb (.mk k l x o [p,b])=(zx (cD (if k=8/\mb=false then eQ st.1 f x else st.1,st.2+1) (st.2+1) false b).1 f (st.2+1),(cD (if k=8/\mb=false then eQ st.1 f x else st.1,st.2+1) (st.2+1) false b).2):=by
 cases b;rw[cD,iN Om,iP hk]
theorem IR{st:List al×Nat}{f:Nat}{mb:Bool}{l:Int}{x:Bs}{o:Nat}{a:Nd}{bk:Nat}{bl:Int}{bx:Bs}{bo:Nat}{bs:List Nd}:cD st f mb (.mk 9 l x o [a, .mk bk bl bx bo bs])=jq (cD (eQ st.1 f x,st.2) f false a) f bs:=by
 rw[cD,iN de,iN de,iP rfl]
theorem Ru{st:List al×Nat}{f:Nat}{mb:Bool}{k:Nat}{l:Int}{x:Bs}{o:Nat}{ks:List Nd}(h1:k≠17)(h2 : ¬(k=8\/k=50))(h3:k≠9):cD st f mb (.mk k l x o ks)=mr (if k=36\/k=16\/k=21 then (eQ st.1 f x,st.2) else st) f ks:=by
 by_cases hh : ∃p b,ks= [p,b]
 ·obtain⟨p,b,rfl⟩:=hh;cases b;rw[cD,iN h1,iN h2,iN h3]
 rw[cD,iN h1,iN h2,iN h3];·exactλp b e=>hh ⟨p,b,e⟩
 exactλa bk bl bx bo bs e=>hh ⟨_,_,e⟩
theorem IS{st:List al×Nat}{f:Nat}{n:Nd}{ks:List Nd}:mr st f (n::ks)=mr (cD st f false n) f ks:=by rw[mr]
theorem IT{st:List al×Nat}{f:Nat}:mr st f []=st:=by rw[mr]
theorem FU{st:List al×Nat}{f:Nat}:jq st f []=st:=by rw[jq]
theorem IU{st:List al×Nat}{f:Nat}{l:Int}{x:Bs}{o:Nat}{p v:Nd}{r ms:List Nd}:jq st f (.mk 3 l x o (p::v::r)::ms)=jq (cD st f false v) f ms:=by rw[jq,iP rfl]
theorem IV{st:List al×Nat}{f:Nat}{n:Nd}{ms:List Nd}(hn : ¬(n.kind=3/\2<=n.kids.length)):jq st f (n::ms)=jq (cD st f true n) f ms:=by
 obtain⟨k,l,x,o,ks⟩:=n;match ks with
 | []=>rw[jq];exactλk l x o p v r e=>by cases e
 | [p]=>rw[jq];exactλk l x o p v r e=>by cases e
 | p::v::r=>
   have hk : ¬k=3:=λe=>hn ⟨e,by show 2<=r.length+1+1;omega⟩;rw[jq,iN hk]
def qk (T:List Bs)(st bB:List al×Nat):Prop:=(my T st.1->my T bB.1)/\bB.1.length=st.1.length/\st.2<=bB.2
theorem qk.refl{T:List Bs}{st:List al×Nat}:qk T st st:=⟨id,rfl,ai _⟩
theorem qk.trans{T:List Bs}{a b c:List al×Nat}(h:qk T a b)(g:qk T b c):qk T a c:=⟨λx=>g.1 (h.1 x),g.2.1.trans h.2.1,cy h.2.2 g.2.2⟩
theorem qk.lD{T:List Bs}{st:List al×Nat}{f:Nat}{x:Bs}(hx:x∈T):qk T st (eQ st.1 f x,st.2):=⟨λh=>h.lD hx,Nq,ai _⟩
theorem XW(T:List Bs)(N:Nat):(∀(t:Nd) (st:List al×Nat) (f:Nat) (mb:Bool),fc t<N->nS t->vL T t->qk T st (cD st f mb t))/\(∀(ks:List Nd) (st:List al×Nat) (f:Nat),fc ks<N->lz ks->qj T ks->qk T st (mr st f ks))/\(∀(ks:List Nd) (st:List al×Nat) (f:Nat),fc ks<N->lz ks->qj T ks->qk T st (jq st f ks)):=by
 induction N with
 | zero=>exact⟨λ_ _ _ _ h=>absurd h (fW _),λ_ _ _ h=>absurd h (fW _),λ_ _ _ h=>absurd h (fW _)⟩
 | succ N j=>
   obtain⟨i1,i2,i3⟩:=j;refine⟨λt st f mb c hc hT=> ?_,λks st f c hc hT=> ?_,λks st f c hc hT=> ?_⟩
   ·obtain⟨k,l,x,o,ks⟩:=t;by_cases g:k=17
    ·subst g;rw[Nr];exact .refl
    by_cases d:k=8\/k=50
    ·have h2:ks.length=2:=hc.1.1 (.inr d);match ks,h2 with
     | [p,b],_=>
       simp at c;rw[Rt d];have hb:=i1 b (if k=8/\mb=false then eQ st.1 f x else st.1,st.2+1) (st.2+1) false Om hc.2.2.1 hT.2.2.1;have e:qk T st (if k=8/\mb=false then eQ st.1 f x else st.1,st.2+1):=by
        split;·exact⟨λh=>h.lD hT.1,Nq,Nat.le_succ _⟩
        exact⟨id,rfl,Nat.le_succ _⟩
       exact(e.trans hb).trans ⟨λh=>h.prop,apn,ai _⟩
    by_cases i:k=9
    ·subst i;have h2:ks.length=2:=hc.1.1 (.inl rfl);match ks,h2 with
     | [a, .mk bk bl bx bo bs],_=>
       simp at c;rw[IR];have ha:=i1 a (eQ st.1 f x,st.2) f false Om hc.2.1 hT.2.1;exact((qk.lD hT.1).trans ha).trans (i3 bs _ f Om hc.2.2.1.2 hT.2.2.1.2)
    rw[Ru g d i];simp at c;have e:qk T st (if k=36\/k=16\/k=21 then (eQ st.1 f x,st.2) else st):=by
     split;·exact qk.lD hT.1
     exact .refl
    exact e.trans (i2 ks _ f Om hc.2 hT.2)
   ·cases ks with
    | nil=>rw[IT];exact .refl
    | cons n ks=>
      simp at c;rw[IS];exact(i1 n st f false Om hc.1 hT.1).trans (i2 ks _ f Om hc.2 hT.2)
   cases ks with
   | nil=>rw[FU];exact .refl
   | cons n ms=>
     simp at c;by_cases hn:n.kind=3/\2<=n.kids.length
     ·obtain⟨k,l,x,o,ks⟩:=n;obtain⟨rfl,h2⟩:k=3/\2<=ks.length:=hn;match ks,h2 with
      | p::v::r,_=>
        simp at c;rw[IU];exact(i1 v st f false Om hc.1.2.2.1 hT.1.2.2.1).trans (i3 ms _ f Om hc.2 hT.2)
     rw[IV hn];exact(i1 n st f true Om hc.1 hT.1).trans (i3 ms _ f Om hc.2 hT.2)
theorem IW{T:List Bs}(t:Nd)(st:List al×Nat)(f:Nat)(mb:Bool)(hc:nS t)(hT:vL T t):qk T st (cD st f mb t):=(XW T (fc t+1)).1 t st f mb (fN _) hc hT
theorem ae1{T:List Bs}(ks:List Nd)(st:List al×Nat)(f:Nat)(hc:lz ks)(hT:qj T ks):qk T st (mr st f ks):=(XW T (fc ks+1)).2.1 ks st f (fN _) hc hT
theorem XX{T:List Bs}(ks:List Nd)(st:List al×Nat)(f:Nat)(hc:lz ks)(hT:qj T ks):qk T st (jq st f ks):=(XW T (fc ks+1)).2.2 ks st f (fN _) hc hT
end
section
open Go Go.RowKit
structure FX(bn bc bw b3 b4 bk:Nat)(v hv:ae)(K:CH)(W:Nat->Prop)(c:Nat):Prop where
 n : ∃e,K.ob bn= .cells [.func (.func 62) #[] #[pN b3,pN b4]] e .ex
 w : ∃e,K.ob bw= .cells [.func (.func 64) #[] #[pN bn,pN bc,pN bw,pN b3,pN b4,pN bk]] e .ex
 k : ∃e,K.ob bk= .cells [.func (.func 63) #[] #[pN bw]] e .ex
 c:K.ob bc= .cells [.int .i64 (c:Nat)] 3 .ex
 fb:FB b3 b4 v hv K W
 lt:bn<K.nx/\bw<K.nx/\bk<K.nx/\bc<K.nx
 nw : ¬W bn/\¬W bw/\¬W bk/\¬W bc
 ne:bc≠b3/\bc≠b4
theorem FX.ex{bn bc bw b3 b4 bk:Nat}{v hv:ae}{K K':CH}{W W':Nat->Prop}{c c':Nat}(h:FX bn bc bw b3 b4 bk v hv K W c)(hx:VX (· = bc) W W' K K')(hc:K'.ob bc= .cells [.int .i64 (c':Nat)] 3 .ex):FX bn bc bw b3 b4 bk v hv K' W' c':=by
 obtain⟨i,h1⟩:=h.n;obtain⟨j,h2⟩:=h.w;obtain⟨l,h3⟩:=h.k;obtain⟨a,d,l3,l4⟩:=h.lt;obtain⟨n1,n2,n3,n4⟩:=h.nw;have hn:=hx.nx;have d1:bn≠bc:=λe=>by rw[e,h.c] at h1;cases h1
 have d2:bw≠bc:=λe=>by rw[e,h.c] at h2;cases h2
 have d3:bk≠bc:=λe=>by rw[e,h.c] at h3;cases h3
 have hw : ∀b,b<K.nx->¬W b->¬W' b:=λb hb hn w=>(hx.w _ w).elim hn λg=>by omega
 exact⟨⟨i,(hx.ob _ a n1 d1).trans h1⟩,⟨j,(hx.ob _ d n2 d2).trans h2⟩,⟨l,(hx.ob _ l3 n3 d3).trans h3⟩,hc,h.fb.ex hx (uz h.ne.1) (uz h.ne.2),⟨Om,Om,Om,Om⟩,⟨hw _ a n1,hw _ d n2,hw _ l3 n3,hw _ l4 n4⟩,h.ne⟩
theorem FX.hx{bn bc bw b3 b4 bk:Nat}{v hv:ae}{K K':CH}{W:Nat->Prop}{c:Nat}(h:FX bn bc bw b3 b4 bk v hv K W c)(hx:ag K K'):FX bn bc bw b3 b4 bk v hv K' W c:=h.ex (.ext hx) ((hx.ob _ h.lt.2.2.2).trans h.c)
def XY (bc:Nat)(v hv:ae)(W:Nat->Prop)(K:CH)(r:List al×Nat)(K':CH):Prop:=∃W',kV v hv r.1 K' W'/\VX (· = bc) W W' K K'/\K'.ob bc= .cells [.int .i64 (r.2:Nat)] 3 .ex
def Rv (T:List Bs)(bn bc bw b3 b4 bk:Nat)(v hv:ae)(N:Nat):Prop:=∀(t:Nd),eX t<=N->nS t->vL T t->∀(st:List al) (c f:Nat) (mb:Bool) (K:CH) (W A:Nat->Prop) (os:List ae),bK K A (cF t) os->(∀b,A b->b<K.nx/\¬W b/\b≠bc)->FX bn bc bw b3 b4 bk v hv K W c->kV v hv st K W->my T st->f<=c->(cD (st,c) f mb t).2<st.length->aQ gH 64 [.agg os.toArray, .int .i64 (f:Nat), .bool mb,pN bn,pN bc,pN bw,pN b3,pN b4,pN bk] K λ_ K'=>XY bc v hv W K (cD (st,c) f mb t) K'
def FkJ (bc:Nat)(v hv:ae)(W:Nat->Prop)(K:CH)(st:List al)(c f:Nat)(ks:List Nd)(n:Nat)(v9:ae)(a:CH):Prop:=∃(i:Nat) (b:List al×Nat) (d:Nat->Prop),n=ks.length-i/\i<=ks.length/\v9= .int .i64 (i:Nat)/\kV v hv b.1 a d/\VX (· = bc) W d K a/\a.ob bc= .cells [.int .i64 (b.2:Nat)] 3 .ex/\b=mr (st,c) f (ks.take i)
theorem XZ{f:Nat} : ∀ {a b:List Nd} {st:List al×Nat},mr st f (a++b)=mr (mr st f a) f b
 | [],b,st=>by rw[ju,IT]
 | n::a,b,st=>by rw[gZ,IS,IS,XZ]
theorem Rw{f:Nat} : ∀ {a b:List Nd} {st:List al×Nat},jq st f (a++b)=jq (jq st f a) f b
 | [],b,st=>by rw[ju,FU]
 | n::a,b,st=>by
   rw[gZ];by_cases hn:n.kind=3/\2<=n.kids.length
   ·obtain⟨k,l,x,o,ks⟩:=n;obtain⟨rfl,h2⟩:k=3/\2<=ks.length:=hn;match ks,h2 with
    | p::v::r,_=>rw[IU,IU,Rw]
   rw[IV hn,IV hn,Rw]
theorem ae2{ks:List Nd}(h:lz ks)(i:Nat):lz (ks.take i):=by
 induction ks generalizing i with
 | nil=>simp[lz]
 | cons n ks a=>cases i with
   | zero=>trivial
   | succ i=>exact⟨h.1,a h.2 i⟩
theorem ae3{ks:List Nd}(h:lz ks)(i:Nat):lz (ks.drop i):=by
 induction ks generalizing i with
 | nil=>simp[lz]
 | cons n ks a=>cases i with
   | zero=>exact h
   | succ i=>exact a h.2 i
theorem ae4{T:List Bs}{ks:List Nd}(h:qj T ks)(i:Nat):qj T (ks.take i):=by
 induction ks generalizing i with
 | nil=>simp[qj]
 | cons n ks a=>cases i with
   | zero=>trivial
   | succ i=>exact⟨h.1,a h.2 i⟩
theorem ae5{T:List Bs}{ks:List Nd}(h:qj T ks)(i:Nat):qj T (ks.drop i):=by
 induction ks generalizing i with
 | nil=>simp[qj]
 | cons n ks a=>cases i with
   | zero=>exact h
   | succ i=>exact a h.2 i
theorem apo{T:List Bs}{bn bc bw b3 b4 bk:Nat}{v hv:ae}{N:Nat}(P:Rv T bn bc bw b3 b4 bk v hv N){ks:List Nd}(hh:gk ks<=N)(u:lz ks)(hT:qj T ks){st:List al}{c f:Nat}{K:CH}{W A:Nat->Prop}{q:Option cB}(Q:fk K A (.row 5 (cT ks)) (.slice q ks.length ks.length))(hA : ∀b,A b->b<K.nx/\¬W b/\b≠bc)(D:FX bn bc bw b3 b4 bk v hv K W c)(R:kV v hv st K W)(S:my T st)(Eg:f<=c)(uu:(mr (st,c) f ks).2<st.length):aQ gH 63 [.slice q ks.length ks.length, .int .i64 (f:Nat),pN bw] K λ_ K'=>XY bc v hv W K (mr (st,c) f ks) K':=by
 obtain⟨_,e,U,lV,V⟩:=lr Q;cases e;rw[gE] at U;refine dq Rl Kr (aK ?_);refine aM ?_;refine ef (λn fr d=>FkJ bc v hv W K st c f ks n (fr 9) d) (n:=ks.length) ⟨0,(st,c),W,rfl,bR _,by(refine aM ?_;all_goals rfl),R, .ext (ag.refl _),D.c,by rw[vU,IT]⟩ ?_;rintro n fr d ⟨i,a,E,rfl,hi,f9,G,j,H,l⟩ x;have eY:=j.nx;by_cases o:i<ks.length
 ·obtain⟨m,y⟩ : ∃m,ks[i]? = some m:=⟨_,cj o⟩;obtain⟨X,cs,e,kd,Y,Z,ob,eg,pO,mj,z⟩:=V i m y;subst Y;have I : ∀b,A b->d.ob b=K.ob b:=λb hb=>j.ob b (hA b hb).1 (hA b hb).2.1 (hA b hb).2.2;have jr:=(I X Z).trans ob;have B:=fD y;have sb:ks.take (i+1)=ks.take i++ [m]:=by
   obtain⟨_,e⟩:=List.getElem?_eq_some_iff.1 y;rw[pJ o,e]
  have C:=D.ex j H;obtain⟨ew,ow⟩:=C.w;obtain⟨_,hwl,_,_⟩:=C.lt;have s:=ae1 (T:=T) (ks.take i) (st,c) f (ae2 u i) (ae4 hT i);rw[<-l] at s;have J:mr (st,c) f (ks.take (i+1))=cD a f false m:=by rw[sb,XZ,<-l,IS,IT]
  have iA:=ae1 (T:=T) (ks.drop (i+1)) (cD a f false m) f (ae3 u _) (ae5 hT _);have iH:mr (st,c) f ks=mr (cD a f false m) f (ks.drop (i+1)):=by
   conv=>lhs;rw[<-yv (i+1) ks,XZ,J]
  have aU:(cD a f false m).2<a.1.length:=by
   have h1:=iA.2.2;rw[<-iH] at h1;have h2:a.1.length=st.length:=s.2.1;omega
  obtain⟨mk,ml,mx,L,cI⟩:=m;obtain⟨mq,M,zF⟩:=iq z;rw[M] at z;obtain⟨t,O⟩ : ∃t,t=(d.new (.cells [.int .i64 0, .int .i64 0, .string ⟨⟨[]⟩⟩, .int .i64 0, .slice none 0 0] 26 .ex)).set d.nx (.cells [.int .i64 (mk:Nat), .int .i64 ml, .string (tx mx), .int .i64 (L:Nat), .slice mq cI.length cI.length] 26 .ex):=⟨_,rfl⟩;have r:ag d t:=by rw[O];exact((ag.refl d).new _).set (ai _) _
  have iZ:=P _ (cy (BE B) hh) (MP u B) (Np hT B) a.1 a.2 f false t E A _ (z.mv λb hb=>⟨hb,(r.ob b (by have:=(hA b hb).1;omega)).trans (I b hb)⟩) (λb hb=>⟨by have:=(hA b hb).1;have:=r.nx;omega,λw=>(j.w b w).elim (hA b hb).2.1 λg=>by have:=(hA b hb).1;omega,(hA b hb).2.2⟩) (C.hx r) (G.hx r) (s.1 S) (by have h:c<=a.2:=s.2.2;omega) aU;refine rn (o8 @x @f9 @jr @M @ow @ba) ?_;rw[<-O];refine iZ.mono λv2 K2 ⟨W2,FV,nV,zC⟩=> ?_;refine rn (an @x @f9) ?_;exact⟨ks.length-(i+1),Om,i+1,cD a f false (.mk mk ml mx L cI),W2,rfl,o,rfl,FV,(j.trans (VX.ext r)).trans nV,zC,J.symm⟩
 have o:i=ks.length:=by omega
 subst o;rw[ng] at l;refine rn (an @x @f9) ?_;exact⟨E,by rw[<-l];exact G,j,by rw[<-l];exact H⟩
end
section
def vM (es:List Ev):Nat:=(es.filter λe=>tf e.1).length
theorem apq{a b:List Ev}:vM (a++b)=vM a+vM b:=by unfold vM;rw[List.filter_append,cG]
theorem X0{e:Ev}{es:List Ev}:vM (e::es)=(if tf e.1=true then 1 else 0)+vM es:=by
 unfold vM;rw[Oa];split;·rw[bN];omega
 omega
def DH(c:Nat):List Ev->Prop
 | []=>True
 | e::es=>e.2.f<=c/\DH (c+if tf e.1=true then 1 else 0) es
theorem ae6 : ∀ {a b:List Ev} {c:Nat},DH c a->DH (c+vM a) b->DH c (a++b)
 | [],b,c,_,h=>h
 | e::a,b,c,h,g=>⟨h.1,ae6 h.2 (by rw[X0] at g;rw[Nat.add_assoc];exact g)⟩
structure n8(P:Nd->Prop)(c sz:Nat)(r:List Ev×Nat):Prop where
 n:r.2=c+vM r.1
 pre:DH c r.1
 len:r.1.length<=sz
 p : ∀e∈r.1,P e.1
theorem n8.nil{P:Nd->Prop}{c sz:Nat}:n8 P c sz ([],c):=⟨rfl,trivial,bR _,λ_ h=>by cases h⟩
theorem n8.app{P:Nd->Prop}{c s1 s2:Nat}{a r2:List Ev×Nat}(h:n8 P c s1 a)(g:n8 P a.2 s2 r2):n8 P c (s1+s2) (a.1++r2.1,r2.2):=by
 refine⟨?_,ae6 h.pre (by rw[<-h.n];exact g.pre),?_,λe he=> ?_⟩;·show r2.2=_;rw[g.n,h.n,apq];omega
 ·show(a.1++r2.1).length<=_;have:=h.len;have:=g.len;rw[cG];omega
 rcases List.mem_append.1 he with he | he
 ·exact h.p e he
 exact g.p e he
theorem n8.up{P:Nd->Prop}{c s1 s2:Nat}{r:List Ev×Nat}(h:n8 P c s1 r)(hs:s1<=s2):n8 P c s2 r:=⟨h.n,h.pre,cy h.len hs,h.p⟩
theorem n8.cons{P:Nd->Prop}{c s:Nat}{t:Nd}{h:Wh}{r:List Ev×Nat}(a:h.f<=c)(b:P t)(g:n8 P (c+if tf t=true then 1 else 0) s r):n8 P c (s+1) ((t,h)::r.1,r.2):=by
 refine⟨?_,⟨a,g.pre⟩,Nat.succ_le_succ g.len,λe he=> ?_⟩;·show r.2=_;rw[g.n,X0];show c+_+_=c+((if tf t=true then 1 else 0)+_);omega
 rcases List.mem_cons.1 he with rfl | he
 ·exact b
 exact g.p e he
theorem apr{P:Nd->Prop}(e : ∀k l x o ks,P (.mk k l x o ks)->∀n∈ks,P n)(N:Nat):(∀(t:Nd) (c:Nat) (h:Wh),fc t<N->nS t->P t->h.f<=c->n8 P c (cu t) (bu c h t))/\(∀(ks:List Nd) (c:Nat) (h:Wh),fc ks<N->lz ks->(∀n∈ks,P n)->h.f<=c->n8 P c (aZ ks) (pE c h ks))/\(∀(ks:List Nd) (c:Nat) (h:Wh),fc ks<N->lz ks->(∀n∈ks,P n)->h.f<=c->n8 P c (aZ ks) (iO c h ks)):=by
 induction N with
 | zero=>exact⟨λ_ _ _ h=>absurd h (fW _),λ_ _ _ h=>absurd h (fW _),λ_ _ _ h=>absurd h (fW _)⟩
 | succ N y=>
   obtain⟨i1,i2,i3⟩:=y;refine⟨λt c h d hc hp b=> ?_,λks c h d hc hp b=> ?_,λks c h d hc hp b=> ?_⟩
   ·obtain⟨k,l,x,o,ks⟩:=t;have hk:=e k l x o ks hp;by_cases j:k=9
    ·subst j;have h2:ks.length=2:=hc.1.1 (.inl rfl);match ks,h2 with
     | [a, .mk bk bl bx bo bs],_=>
       simp at d;rw[FA];have ha:=i1 a c h.no Om hc.2.1 (hk a Sm) b;have hb:=i3 bs (bu c h.no a).2 h.no Om hc.2.2.1.2 (e _ _ _ _ _ (hk (.mk bk bl bx bo bs) Sm)) (cy b (zA a c h.no).1);refine n8.up (n8.cons (r:=((bu c h.no a).1++(iO (bu c h.no a).2 h.no bs).1,(iO (bu c h.no a).2 h.no bs).2)) b hp (ha.app hb)) ?_;simp only[cu,aZ];omega
    rw[IF j];simp at d;have g:(uh k (c+1) h).f<=(if k=8\/k=50 then c+1 else c):=by
     unfold uh;split;·exact ai _
     exact b
    have hb:=i2 ks (if k=8\/k=50 then c+1 else c) (uh k (c+1) h) Om hc.2 hk g;have he:(if k=8\/k=50 then c+1 else c)=c+if tf (.mk k l x o ks)=true then 1 else 0:=by
     unfold tf;show _=c+if decide (k=8\/k=50)=true then 1 else 0
     by_cases q:k=8\/k=50
     ·simp[q]
     simp[q]
    refine n8.up (n8.cons (s:=aZ ks) b hp ?_) (by simp only[cu];omega);rw[<-he];exact hb
   ·cases ks with
    | nil=>rw[MS];exact .nil
    | cons n ks=>
      simp at d;rw[IG];simp only[aZ];exact(i1 n c h Om hc.1 (hp n Sm) b).app (i2 ks _ h Om hc.2 (λm i=>hp m (by simp[i])) (cy b (zA n c h).1))
   cases ks with
   | nil=>rw[Rc];exact .nil
   | cons n ms=>
     simp at d;have u : ∀m∈ms,P m:=λm i=>hp m (by simp[i]);by_cases hn:n.kind=3/\2<=n.kids.length
     ·obtain⟨k,l,x,o,ks⟩:=n;obtain⟨rfl,h2⟩:k=3/\2<=ks.length:=hn;match ks,h2 with
      | p::v::r,_=>
        simp at d;rw[Rd];have w:=hp (.mk 3 l x o (p::v::r)) Sm;have ha:=i1 v c h Om hc.1.2.2.1 (e _ _ _ _ _ w v Sm) b;have hb:=i3 ms (bu c h v).2 h Om hc.2 u (cy b (zA v c h).1);refine n8.up (n8.cons (h:=h.me) (r:=((bu c h v).1++(iO (bu c h v).2 h ms).1,(iO (bu c h v).2 h ms).2)) b w ?_) (s1:=cu v+aZ ms+1) (by simp only[cu,aZ];omega);exact ha.app hb
     rw[Re hn];simp only[aZ];exact(i1 n c h.me Om hc.1 (hp n Sm) b).app (i3 ms _ h Om hc.2 u (cy b (zA n c h.me).1))
theorem aps(N:Nat):(∀(t:Nd) (st:List al×Nat) (f:Nat) (mb:Bool) (c:Nat) (h:Wh),fc t<N->nS t->st.2<=c->(cD st f mb t).2<=(bu c h t).2)/\(∀(ks:List Nd) (st:List al×Nat) (f:Nat) (c:Nat) (h:Wh),fc ks<N->lz ks->st.2<=c->(mr st f ks).2<=(pE c h ks).2)/\(∀(ks:List Nd) (st:List al×Nat) (f:Nat) (c:Nat) (h:Wh),fc ks<N->lz ks->st.2<=c->(jq st f ks).2<=(iO c h ks).2):=by
 induction N with
 | zero=>exact⟨λ_ _ _ _ _ _ h=>absurd h (fW _),λ_ _ _ _ _ h=>absurd h (fW _),λ_ _ _ _ _ h=>absurd h (fW _)⟩
 | succ N j=>
   obtain⟨i1,i2,i3⟩:=j;refine⟨λt st f mb c h d hc hs=> ?_,λks st f c h d hc hs=> ?_,λks st f c h d hc hs=> ?_⟩
   ·obtain⟨k,l,x,o,ks⟩:=t;by_cases i:k=17
    ·subst i;rw[Nr];exact cy hs (zA _ _ _).1
    by_cases e:k=8\/k=50
    ·have h2:ks.length=2:=hc.1.1 (.inr e);match ks,h2 with
     | [p,b],_=>
       simp at d;rw[Rt e,IF Om,iP e,IG,IG,MS];show(cD _ _ _ b).2<=(bu _ _ b).2;refine i1 b _ _ _ _ _ Om hc.2.2.1 ?_;have:=(zA p (c+1) (uh k (c+1) h)).1;show st.2+1<=_;omega
    by_cases g:k=9
    ·subst g;have h2:ks.length=2:=hc.1.1 (.inl rfl);match ks,h2 with
     | [a, .mk bk bl bx bo bs],_=>
       simp at d;rw[IR,FA];exact i3 bs _ f _ _ Om hc.2.2.1.2 (i1 a _ f false c h.no Om hc.2.1 hs)
    rw[Ru i e g,IF g,iN e];simp at d;refine i2 ks _ f c _ Om hc.2 ?_;split;·exact hs
    exact hs
   ·cases ks with
    | nil=>rw[IT,MS];exact hs
    | cons n ks=>
      simp at d;rw[IS,IG];exact i2 ks _ f _ h Om hc.2 (i1 n st f false c h Om hc.1 hs)
   cases ks with
   | nil=>rw[FU,Rc];exact hs
   | cons n ms=>
     simp at d;by_cases hn:n.kind=3/\2<=n.kids.length
     ·obtain⟨k,l,x,o,ks⟩:=n;obtain⟨rfl,h2⟩:k=3/\2<=ks.length:=hn;match ks,h2 with
      | p::v::r,_=>
        simp at d;rw[IU,Rd];exact i3 ms _ f _ h Om hc.2 (i1 v st f false c h Om hc.1.2.2.1 hs)
     rw[IV hn,Re hn];exact i3 ms _ f _ h Om hc.2 (i1 n st f true c h.me Om hc.1 hs)
end
section
open Go Go.RowKit
def FcJ (bc:Nat)(v hv:ae)(W:Nat->Prop)(K:CH)(d:List al×Nat)(f:Nat)(ks:List Nd)(n:Nat)(v9:ae)(a:CH):Prop:=∃(i:Nat) (b:List al×Nat) (c:Nat->Prop),n=ks.length-i/\i<=ks.length/\v9= .int .i64 (i:Nat)/\kV v hv b.1 a c/\VX (· = bc) W c K a/\a.ob bc= .cells [.int .i64 (b.2:Nat)] 3 .ex/\b=jq d f (ks.take i)
def FwM (bc bk:Nat)(v hv:ae)(f:Nat)(mb:Bool)(c:Nat)(st:List al)(K:CH)(W:Nat->Prop)(t:Nd)(q:Option cB)(x:bp)(fr:Fr)(H:CH):Prop:=
 (x= .normal/\fr 1= .int .i64 (f:Nat)/\fr 8=pN bk/\fr 9=pN K.nx/\∃(a:List al) (b:Nat->Prop),kV v hv a H b/\VX (· = bc) W b K H/\K.nx+1<=H.nx/\H.ob bc= .cells [.int .i64 (c:Nat)] 3 .ex/\H.ob K.nx= .cells [.int .i64 (t.kind:Nat), .int .i64 t.line, .string (tx t.text), .int .i64 (t.op:Nat), .slice q t.kids.length t.kids.length] 26 .ex/\cD (st,c) f mb t=mr (a,c) f t.kids/\(a=st\/∃x,x=t.text/\a=eQ st f x))
 \/(x= .ret/\XY bc v hv W K (cD (st,c) f mb t) H)
def PpJ (v hv:ae)(W:Nat->Prop)(K:CH)(f:Nat)(c:al)(st:List al)(xs:List Bs)(r g n:Nat)(v9:ae)(a:CH):Prop:=∃(i:Nat) (ow:Ow) (bs ms:List Nat) (d:Nat) (e:Kd) (b:Nat->Prop),n=xs.length-i/\i<=xs.length/\v9= .int .i64 (i:Nat)/\FS ow bs ms d e v hv (fo st f λ_=>(xs.take i).foldl nT c) a b/\VX nU W b K a/\(xs≠ []->ow r=some (g,4)/\r<a.nx/\a.ob r=K.ob r)
theorem Ns : ∀ {xs:List Bs} {i:Nat} {s:Bs},xs[i]? = some s->(xs.flatMap fU)[i]? = some (.string (tx s))/\i<(xs.flatMap fU).length
 | [],i,s,h=>by simp at h
 | y::xs,0,s,h=>by
   have h:y=s:=by simpa using h
   subst h;exact⟨rfl,Nat.succ_pos _⟩
 | y::xs,i+1,s,h=>by
   have h:xs[i]? = some s:=by simpa using h
   obtain⟨h1,h2⟩:=Ns h;exact⟨h1,Nat.succ_lt_succ h2⟩
theorem FS.row{ow:Ow}{bs ms:List Nat}{c:Nat}{d:Kd}{v hv:ae}{st:List al}{K:CH}{W:Nat->Prop}(h:FS ow bs ms c d v hv st K W){g:Nat}(hg:g<st.length) : ∃(G:al) (q:Nat) (kd:Kd) (L:List ae) (n b:Nat) (vf e i x2 j k l m o p:ae),st[g]? = some G/\v= .slice (some ⟨q,0,none⟩) n n/\K.ob q= .cells L 73 kd/\L[g]? = some (pN b)/\g<n/\g<L.length/\K.ob b= .cells [e,i,x2,j,k,vf,l,m,o,p] 75 .ex/\b<K.nx/\q<K.nx/\iQ K ow (g,4) vf G.fs:=by
 obtain⟨B,C,r,_⟩:=h;obtain⟨q,kd,rfl,D,s,t,E,a⟩:=r;obtain⟨F,b,u,hb,H,w,vp,vl,vc,vf,m1,m2,m3,x,_,_,_,y,_⟩:=FP a hg;obtain⟨z,A⟩:=zJ hb;exact⟨F,q,kd,_,_,b,vf,_,_,_,_,_,_,_,_,_,u,rfl,t,z,by rw[a.len];exact hg,A,x,w,s,y⟩
theorem ae7{F:al}{s:Bs}(h:F.binds s\/s∈F.fs):nT F s=F:=iP h
theorem apt{F:al}{s:Bs}(h : ¬(F.binds s\/s∈F.fs)):nT F s= { F with fs:=F.fs++ [s] }:=iN h
theorem apu{T:List Bs}{bn bc bw b3 b4 bk:Nat}{v hv:ae}{N:Nat}(zR:T.length<=1099511627776)(ih:Rv T bn bc bw b3 b4 bk v hv N):Rv T bn bc bw b3 b4 bk v hv (N+1):=by
 rintro⟨k,l,x,o,ks⟩ hN S hT st c f mb K W A os hs hA C sF U Eg uu;obtain⟨q,rfl,dJ⟩:=iq hs;obtain⟨_,e,cW,lV,fq⟩:=lr dJ;cases e;rw[gE] at cW;have qV:=sF.lt;have Bo:gk ks<=N:=by simp only[eX] at hN;omega
 have J:ag K (K.new (.cells [.int .i64 (k:Nat), .int .i64 l, .string (tx x), .int .i64 (o:Nat), .slice q ks.length ks.length] 26 .ex)):=(ag.refl K).new _;have Rp:=C.hx J;obtain⟨en,on⟩:=C.n;obtain⟨ew,ow⟩:=C.w;obtain⟨ek,ok⟩:=C.k;obtain⟨l1,l2,l3,l4⟩:=C.lt;obtain⟨n1,n2,n3,n4⟩:=C.nw;have apv:=IW (T:=T) (.mk k l x o ks) (st,c) f mb S hT;have gF:f<st.length:=by have h:c<=(cD (st,c) f mb (.mk k l x o ks)).2:=apv.2.2;omega
 obtain⟨F,hF⟩ : ∃F,st[f]? = some F:=⟨_,cj gF⟩;have hFl : ∀(bB:List al) (F':al),my T bB->F'∈bB->F'.fs.length<=1099511627776:=λbB F' h hm=>cy (Nn (h.fs F' hm).1 (h.fs F' hm).2) zR;have FW : ∀(s:Bs),s∈T->aQ gH 62 [.int .i64 (f:Nat), .string (tx s),pN b3,pN b4] (K.new (.cells [.int .i64 (k:Nat), .int .i64 l, .string (tx x), .int .i64 (o:Nat), .slice q ks.length ks.length] 26 .ex)) λ_ K'=>∃W',kV v hv (eQ st f s) K' W'/\VX nU W W' (K.new (.cells [.int .i64 (k:Nat), .int .i64 l, .string (tx x), .int .i64 (o:Nat), .slice q ks.length ks.length] 26 .ex)) K':=λs hs=>apm (sF.hx J) Rp.fb U.par (cy U.len de) hF (hFl st F U (fD hF)) s;have lL : ∀(u:CH) (D:Nat->Prop),VX (· = bc) W D K u->(∀b,A b->b<u.nx/\¬D b/\b≠bc)/\∀b,A b->u.ob b=K.ob b:=λu D h=>⟨λb hb=>⟨cQ (hA b hb).1 h.nx,λw=>(h.w b w).elim (hA b hb).2.1 λg=>by have:=(hA b hb).1;omega,(hA b hb).2.2⟩,λb hb=>h.ob b (hA b hb).1 (hA b hb).2.1 (hA b hb).2.2⟩;refine dq Rl Kr (aK ?_);refine QU (FwM bc bk v hv f mb c st K W (.mk k l x o ks) q) ?_ ?_
 ·by_cases qb:k=17
  ·subst qb;refine aM ?_;refine .inr ⟨rfl,W,?_, .ext J,(J.ob bc l4).trans ?_⟩;·rw[Nr];exact sF.hx J
   rw[Nr];exact C.c
  by_cases h8:k=8\/k=50
  ·obtain⟨p,b,rfl⟩ : ∃p b,ks= [p,b]:=by
    have h2:ks.length=2:=S.1.1 (.inr h8);match ks,h2 with
    | [p,b],_=>exact⟨p,b,rfl⟩
   obtain⟨bU,xW⟩ : ∃bU,bU=if k=8/\mb=false then eQ st f x else st:=⟨_,rfl⟩
   have uE:cD (st,c) f mb (.mk k l x o [p,b])=(zx (cD (bU,c+1) (c+1) false b).1 f (c+1),(cD (bU,c+1) (c+1) false b).2):=by rw[Rt h8,xW]
   have ur:my T bU:=by
    rw[xW];split;·exact U.lD hT.1
    exact U
   have wv:bU.length=st.length:=by
    rw[xW];split;·exact Nq
    rfl
   have eY:=FW x hT.1;rw[uE] at uu;have uu:(cD (bU,c+1) (c+1) false b).2<st.length:=uu;have Rx:=IW (T:=T) b (bU,c+1) (c+1) false S.2.2.1 hT.2.2.1;have yK:c+1<=(cD (bU,c+1) (c+1) false b).2:=Rx.2.2;have Ej:(cD (bU,c+1) (c+1) false b).1.length=bU.length:=Rx.2.1;have ar1:c<2305843009213693952:=by have:=U.len;omega
   have hdb:K.nx≠bc:=by omega
   have vH:(k=8/\mb=false)\/(k=8/\mb=true)\/k=50:=by
    rcases h8 with h8 | h8
    ·cases mb;·exact .inl ⟨h8,rfl⟩
     exact .inr (.inl ⟨h8,rfl⟩)
    exact .inr (.inr h8)
   have ID:((c+1:Nat):Int)=(c:Nat)+1:=by omega
   have oc0:=C.c;obtain⟨K0,lN⟩ : ∃K0,K0=K.new (.cells [.int .i64 (k:Nat), .int .i64 l, .string (tx x), .int .i64 (o:Nat), .slice q 2 2] 26 .ex):=⟨_,rfl⟩;have IM:K0.ob K.nx= .cells [.int .i64 (k:Nat), .int .i64 l, .string (tx x), .int .i64 (o:Nat), .slice q 2 2] 26 .ex:=by rw[lN];exact iu
   have Ry:ag K K0:=by rw[lN];exact J
   have ar2:K0.nx=K.nx+1:=by rw[lN];rfl
   have sJ:aQ gH 62 [.int .i64 (f:Nat), .string (tx x),pN b3,pN b4] K0 λ_ K'=>∃W',kV v hv (eQ st f x) K' W'/\VX nU W W' K0 K':=by
    rw[lN];exact eY
   rcases vH with ⟨rfl,rfl⟩ | ⟨rfl,rfl⟩ | rfl
   all_goals
    first
    | (have oR:bU=eQ st f x:=by rw[xW,iP ⟨rfl,rfl⟩]
       refine rn @on ?_;rw[<-lN];refine sJ.mono λv1 u ⟨D,zQ,t⟩=> ?_;have X1:=t.nx;have jd:u.ob K.nx=_:=(t.ob K.nx Om (λw=>by have:=qV _ w;omega) id).trans IM;have qY:u.ob bc= .cells [.int .i64 (c:Nat)] 3 .ex:=(t.ob bc Om n4 id).trans ((Ry.ob bc l4).trans C.c);refine rn (an @jd @qY) ?_;obtain⟨z,wX⟩ : ∃z,z=u.set bc (.cells [.int .i64 ((c:Nat)+1)] 3 .ex):=⟨_,rfl⟩;have hB : ∃P,kV v hv bU z P/\VX (· = bc) W P K z/\z.ob bc= .cells [.int .i64 ((c+1:Nat):Int)] 3 .ex/\K.nx+1<=z.nx:=by
        have BN : ¬D bc:=λw=>(t.w _ w).elim n4 λg=>by omega
        rw[wX,ID,oR];exact⟨D,zQ.st (ai _) λy hy=>cO λe=>BN (e▸hy),VX.set (X:=(· = bc)) (p:=bc) ((VX.ext Ry).trans (t.up λ_ h=>h.elim)) (.inr rfl) _,by rw[br,iP rfl],by show K.nx+1<=u.nx;omega⟩
       rw[<-wX];clear wX)
    | (have oR:bU=st:=by
        rw[xW,iN];intro h;first
        | exact absurd h.1 de
        | exact absurd h.2 de
       refine rn (an @on @oc0) ?_;obtain⟨z,wX⟩ : ∃z,z=K0.set bc (.cells [.int .i64 ((c:Nat)+1)] 3 .ex):=⟨_,rfl⟩;rw[<-lN,<-wX];have hB : ∃P,kV v hv bU z P/\VX (· = bc) W P K z/\z.ob bc= .cells [.int .i64 ((c+1:Nat):Int)] 3 .ex/\K.nx+1<=z.nx:=by
        rw[wX,ID,oR];exact⟨W,(sF.hx Ry).st (ai _) λy hy=>cO λe=>n4 (e▸hy),VX.set (X:=(· = bc)) (p:=bc) (VX.ext Ry) (.inr rfl) _,by rw[br,iP rfl],by show K.nx+1<=K0.nx;omega⟩
       clear wX)
   all_goals
    obtain⟨P,FV,nV,zC,j0⟩:=hB;have IZ:=C.ex nV zC;obtain⟨Rz,apw⟩:=lL z P nV;obtain⟨ew2,qX⟩:=IZ.w;have ya:=Fz (K:=z) (A:=A) (i:=1) (hs.mv λb hb=>⟨hb,apw b hb⟩) (λb hb=>(Rz b hb).1) rfl;refine ya.mono λv3 K3 ⟨Wo,e3,fF,RA⟩=> ?_;subst e3;have DI:=IZ.hx fF;obtain⟨ew3,Ds⟩:=DI.w;have hcw:=ih b (by simp only[gk] at Bo;omega) S.2.2.1 hT.2.2.1 bU (c+1) (c+1) false K3 P A Wo (RA.mv λb hb=>⟨hb,fF.ob b (Rz b hb).1⟩) (λb hb=>⟨cQ (Rz b hb).1 fF.nx,(Rz b hb).2⟩) DI (FV.hx fF) ur (ai _) Om;refine rn (an @qX @Ds) ?_;refine hcw.mono λv4 K4 ⟨W4,ae8,DJ,BF⟩=> ?_;obtain⟨V,iz⟩ : ∃V,cD (bU,c+1) (c+1) false b=V:=⟨_,rfl⟩;rw[iz] at ae8 BF Rx yK Ej uu uE;have RB:my T V.1:=Rx.1 ur;have apx:VX (· = bc) W W4 K K4:=(nV.trans (VX.ext fF)).trans DJ;obtain⟨o3,o4,l3,l4,w3,w4⟩:=(DI.ex DJ BF).fb;obtain⟨ow,bs,ms,hq,eg,hfA⟩:=ae8;obtain⟨G,q4,kd4,L4,MF,b4',vf,x0,x1,x2,x3,x4,x6,x7,x8,x9,hG,rfl,oq4,hL4,Cu,apy,oG,hbG,hqG,hrG⟩:=hfA.row (g:=c+1) Om;obtain⟨Y,RC⟩ : ∃Y,V.1[f]? = some Y:=⟨_,cj Om⟩;have X2:zx V.1 f (c+1)=fo V.1 f λ_=>G.fs.foldl nT Y:=by
     unfold zx;rw[Na RC,yq,hG];rfl
    obtain⟨qf,r,Nt,rfl,yJ⟩ : ∃qf r Nt,vf= .slice qf G.fs.length G.fs.length/\(G.fs≠ []->qf=some ⟨r,0,none⟩/\ow r=some (c+1,4)/\r<K4.nx/\K4.ob r= .cells (G.fs.flatMap fU) 9 Nt):=by
     rcases hrG with ⟨h1,h2⟩ | ⟨r,Nt,h1,h2,h3,h4,_⟩
     ·exact⟨none,0, .ex,by rw[h1,h2];rfl,λh=>absurd h1 h⟩
     exact⟨_,r,Nt,h1,λ_=>⟨rfl,h2,h3,h4⟩⟩
    have hGl:=hFl V.1 G RB (fD hG);have ar3:f≠c+1:=by omega
    refine rn (qz @qX @Ds @o3 @oq4 @hL4 @Cu @apy @oG) ?_;refine ef (λn fr d=>PpJ (.slice (some ⟨q4,0,none⟩) MF MF) hv W4 K4 f Y V.1 G.fs r (c+1) n (fr 62) d) (n:=G.fs.length) ⟨0,ow,bs,ms,hq,eg,W4,rfl,bR _,by(refine aM ?_;all_goals rfl),by rw[vU,List.foldl_nil,Ro RC];exact hfA, .ext (ag.refl _),λh=>⟨(yJ h).2.1,(yJ h).2.2.1,rfl⟩⟩ ?_;rintro n rI d ⟨i,si,BS,Nu,Rg,Nv,Q,rfl,hi,f62,FY,E,Nw⟩ M;have rU:=E.nx;obtain⟨I0,IC,l35,l45,X3,w45⟩:=(show FB b3 b4 (.slice (some ⟨q4,0,none⟩) MF MF) hv K4 W4 from ⟨o3,o4,l3,l4,w3,w4⟩).ex E id id;by_cases B:i<G.fs.length
    ·obtain⟨s,hs⟩ : ∃s,G.fs[i]? = some s:=⟨_,cj B⟩;have aB:G.fs≠ []:=λe=>by rw[e] at B;exact absurd B (fW _)
     obtain⟨rfl,ar4,wN,CT⟩:=yJ aB;obtain⟨Z,Nx,I1⟩:=Nw aB;have I1:=I1.trans CT;obtain⟨xY,rJ⟩:=Ns hs;have sb:G.fs.take (i+1)=G.fs.take i++ [s]:=by
      obtain⟨_,e⟩:=List.getElem?_eq_some_iff.1 hs;rw[pJ B,e]
     obtain⟨j,X4⟩ : ∃j,j=(G.fs.take i).foldl nT Y:=⟨_,rfl⟩;have R:(G.fs.take (i+1)).foldl nT Y=nT j s:=by rw[sb,List.foldl_append,<-X4];rfl
     rw[<-X4] at FY;have hFg:(fo V.1 f λ_=>j)[f]? = some j:=XG Om;have hT5:j.fs.length<=1099511627776:=by
      have h1:=XV (T:=T) (G.fs.take i) Y (RB.fs Y (fD RC)).1 (RB.fs Y (fD RC)).2 λy hy=>(RB.fs G (fD hG)).2 y (List.mem_of_mem_take hy);rw[<-X4] at h1;exact cy (Nn h1.1 h1.2) zR
     obtain⟨b,m,vp,vl,vc,vf,m1,m2,m3,ak,zP,BU,⟨q,L,kd,n,ev,oq,q1,q2,q3,q4',qW,q5,q6,q7⟩,⟨hq,L2,mU,n2,rfl,ut,r1,r2,r3,r4,rW,r5,r6,r7⟩,IK,Nk,gR,nX,ue,dX,wS,nP,pd,kp,apz,ae9,yk,sM⟩:=FY.add hFg s;cases ev;have eF:=wS.lk s;have dR:=pd.lk s;by_cases hp:s∈j.ps++j.ls
     ·rw[nZ hp] at eF;have hy:nT j s=j:=ae7 (.inl (List.mem_append.1 hp));by_cases ho:s∈j.fs
      ·rw[nZ ho] at dR;repeat' (first | (simp (disch:=first | omega | (decide +kernel)) only[↓dx,↓jN,↓cE,↓pU,↓pW,↓ez,↓kM,↓fj,↓fZ,↓oJ,↓c9,↓da,↓cM,↓dL,↓aH,↓aL,↓bf,cL,↓di,↓jW,cZ,eT,gh,tQ,mO,eU,pop,aD,↓reduceIte,Nat.reduceEqDiff,eZ,e9,Int.reduceAdd,gi,oK,iP,fp,ba,fJ,M,f62,I1,xY,I0,IC,oq,q1,ut,r1,dX,eF,dR]) | ((with_reducible first|apply aE|apply aF|apply aG)<;>intro _))
       exact⟨G.fs.length-(i+1),Om,i+1,si,BS,Nu,_,Nv,Q,rfl,B,rfl,by rw[R,hy];exact FY,E,λ_=>⟨Z,Nx,Nw aB |>.2.2⟩⟩
      rw[n7 ho] at dR;repeat' (first | (simp (disch:=first | omega | (decide +kernel)) only[↓dx,↓jN,↓cE,↓pU,↓pW,↓ez,↓kM,↓fj,↓fZ,↓oJ,↓c9,↓da,↓cM,↓dL,↓aH,↓aL,↓bf,cL,↓di,↓jW,cZ,eT,gh,tQ,mO,eU,pop,aD,↓reduceIte,Nat.reduceEqDiff,eZ,e9,sD,gi,oK,iP,fp,ba,fJ,M,f62,I1,xY,I0,IC,oq,q1,ut,r1,dX,eF,dR]) | ((with_reducible first|apply aE|apply aF|apply aG)<;>intro _))
      exact⟨G.fs.length-(i+1),Om,i+1,si,BS,Nu,_,Nv,Q,rfl,B,rfl,by rw[R,hy];exact FY,E,λ_=>⟨Z,Nx,Nw aB |>.2.2⟩⟩
     rw[n7 hp] at eF;by_cases ho:s∈j.fs
     ·have hy:nT j s=j:=ae7 (.inr ho);rw[nZ ho] at dR;repeat' (first | (simp (disch:=first | omega | (decide +kernel)) only[↓dx,↓jN,↓cE,↓pU,↓pW,↓ez,↓kM,↓fj,↓fZ,↓oJ,↓c9,↓da,↓cM,↓dL,↓aH,↓aL,↓bf,cL,↓di,↓jW,cZ,eT,gh,tQ,mO,eU,pop,aD,↓reduceIte,Nat.reduceEqDiff,eZ,e9,Cb,gi,oK,iP,fp,ba,fJ,M,f62,I1,xY,I0,IC,oq,q1,ut,r1,dX,eF,dR]) | ((with_reducible first|apply aE|apply aF|apply aG)<;>intro _))
      exact⟨G.fs.length-(i+1),Om,i+1,si,BS,Nu,_,Nv,Q,rfl,B,rfl,by rw[R,hy];exact FY,E,λ_=>⟨Z,Nx,Nw aB |>.2.2⟩⟩
     rw[n7 ho] at dR;have hy:=apt (F:=j) (s:=s) λh=>h.elim (λh=>hp (List.mem_append.2 h)) ho;obtain⟨oo,oW,XS⟩:=pd.up s 1;have h3m:b3≠m:=λe=>X3 (e▸Nk);have h4m:b4≠m:=λe=>w45 (e▸Nk);have h3b:b3≠b:=λe=>X3 (e▸IK);have ia : ∀y,y<d.nx->y≠m->((d.set m oo).new (.cells [.string (tx s)] 9 .ex)).ob y=d.ob y:=λy hy hc=>by
      rw[bL (by show y≠d.nx;omega),cO hc]
     repeat' (first | (simp (disch:=first | omega | (decide +kernel)) only[↓dx,↓jN,↓cE,↓ez,↓kM,↓fj,↓fZ,↓c9,↓CL,↓CM,↓Pb,nK,bT,↓da,↓cM,↓dL,↓kj,↓iB,↓aH,↓dA,↓aL,↓bf,kf,bS,br,cL,lj,ki,↓di,↓jW,cZ,eT,gh,tQ,mO,eU,pop,aD,cq,bq,db,isVal,ci,c8,iw,dC,↓reduceIte,Nat.reduceEqDiff,reduceCtorEq,eZ,e9,bN,bZ,jD,kQ,pu,qx,kc,gI,gY,tB,tz,jt,jS,dv,Nat.reduceLeDiff,ai,sD,tR,gi,↓mP,kO,iP,fp,ba,mA,fJ,and_true,M,f62,I1,xY,I0,IC,oq,q1,ut,r1,dX,eF,dR,oW,h3m,q6,ue]) | ((with_reducible first|apply aE|apply aF|apply aG)<;>intro _))
     refine Di (A:=um 0) (bytes:=16) (f:=fU) (y:=s) BI (kp.nx (by show d.nx<=d.nx+1;omega) λy g1 g2 ⟨n',c',ev⟩=>ia y g2 λe=>by subst e;exact ae9 _ _ _ ev) Om Om rfl λK7 k1 k2 k3=> ?_;have k2:K7.nx=d.nx+1+1:=k2;have wO : ∀y,y<d.nx->y≠m->ir vf y->K7.ob y=d.ob y:=λy hy hc ho=>(k3 y (by show y<d.nx+1;omega) ho).trans (ia y hy hc);have apA:=(wO b gR ue apz).trans dX;have o37:=(wO b3 l35 h3m λo n c ev=>X3 (yk o n c b3 ev)).trans I0;have oq7:=(wO q4 q4' q6 q7).trans oq;repeat' (first | (simp (disch:=first | omega | (decide +kernel)) only[↓cE,↓pU,↓pW,↓ez,↓c9,↓CL,↓KT,↓CM,↓KU,↓KW,↓KX,KY,KV,qG,nK,bT,↓da,↓cM,↓dL,↓iB,↓aH,↓dA,↓aL,↓bf,jK,kf,br,cL,lj,↓di,cZ,eT,gh,eU,pop,aD,bq,isVal,a8,ci,↓reduceIte,Nat.reduceEqDiff,Nat.reduceAdd,eZ,e9,bN,bZ,jD,rM,kc,gI,gZ,ju,qw,uB,pL,Kd.bY,jt,jS,Nat.reduceLeDiff,iP,iN,fp,ba,mA,fJ,and_true,M,f62,I0,oq,o37,oq7,q1,apA]) | ((with_reducible first|apply aE|apply aF|apply aG)<;>intro _))
     obtain⟨K8,DK⟩ : ∃K8,K8=K7.set b (.cells [.string (tx j.nm), .int .i64 j.par,vp,vl,vc, .slice (some ⟨d.nx+1,0,none⟩) (j.fs.length+1) (j.fs.length+1), .bool j.gen, .map (some m1), .map (some m2), .map (some m3)] 75 .ex):=⟨_,rfl⟩;rw[<-DK];have X5:K8.nx=K7.nx:=by rw[DK];rfl
     have IY : ∀y,y<d.nx->y≠b->y≠m->ir vf y->K8.ob y=d.ob y:=λy hy h1 h2 h3=>by rw[DK];exact(cO h1).trans (wO y hy h2 h3)
     obtain⟨ye,ae',apB⟩:=sM K8 (d.nx+1) Om Om (λy hy hw h1 h2 h3=>IY y hy h1 h2 h3) (Dx (L:=j.fs) (s:=s)▸XS _ (by rw[DK,cO (uz ue),k3 m (by show m<d.nx+1;omega) ae9,bL (by show m≠d.nx;omega),br,iP rfl])) (by rw[DK];exact(cO Om).trans k1) (by rw[DK,br,iP rfl]);rw[XF] at ae';have IN:r≠b:=λe=>by rw[e,ak] at Z;simp at Z
     have hrm:r≠m:=λe=>by rw[e,zP] at Z;simp at Z
     have jw:ir vf r:=λo n c' ev=>by
      have:=BU o n c' r ev;rw[Z] at this;simp only[Option.some.injEq,Prod.mk.injEq] at this;omega
     exact⟨G.fs.length-(i+1),Om,i+1,ye,BS,Nu,_,Nv,_,rfl,B,rfl,by rw[R,hy];exact ae',E.trans ⟨Om,λy h1 h2 _=>IY y h1 (λe=>h2 (by rw[e];exact IK)) (λe=>h2 (by rw[e];exact Nk)) λo n c' ev=>h2 (yk o n c' y ev),λy hy=>by
      rcases hy with hy | hy
      ·exact .inl hy
      exact .inr Om⟩,λ_=>⟨(apB.ow r Nx).trans Z,Om,(IY r Nx IN hrm jw).trans (Nw aB).2.2⟩⟩
    have B:i=G.fs.length:=by omega
    subst B;rw[ng,<-X2] at FY;refine rn (an @M @f62) ?_;refine .inr ⟨rfl,Q,?_,apx.trans (E.up λ_ h=>h.elim),?_⟩;·rw[uE];exact⟨si,BS,Nu,Rg,Nv,FY⟩
    rw[uE];exact(E.ob bc (DI.ex DJ BF).lt.2.2.2 (DI.ex DJ BF).nw.2.2.2 id).trans BF
  by_cases h9:k=9
  ·subst h9;obtain⟨a,bk',bl',bx',bo',ms,rfl⟩ : ∃a bk bl bx bo ms,ks= [a, .mk bk bl bx bo ms]:=by
    have h2:ks.length=2:=S.1.1 (.inl rfl);match ks,h2 with
    | [a, .mk bk bl bx bo ms],_=>exact⟨a,bk,bl,bx,bo,ms,rfl⟩
   have eY:=FW x hT.1;have zG:lz ms:=S.2.2.1.2;have RE:qj T ms:=hT.2.2.1.2;rw[IR] at uu;have uu:(jq (cD (eQ st f x,c) f false a) f ms).2<st.length:=uu;refine rn @on ?_;refine eY.mono λv1 u ⟨D,zQ,t⟩=> ?_;have X1:K.nx+1<=u.nx:=t.nx;have X6:VX (· = bc) W D K u:=(VX.ext J).trans (t.up λ_ h=>h.elim);have qY:u.ob bc= .cells [.int .i64 (c:Nat)] 3 .ex:=(t.ob bc (by show bc<K.nx+1;omega) n4 id).trans ((J.ob bc l4).trans C.c);have onK : ∀w,W w->w<K.nx:=qV;have jd:u.ob K.nx= .cells [.int .i64 ((9:Nat):Int), .int .i64 l, .string (tx x), .int .i64 (o:Nat), .slice q [a,Nd.mk bk' bl' bx' bo' ms].length [a,Nd.mk bk' bl' bx' bo' ms].length] 26 .ex:=(t.ob K.nx (fN _) (λw=>by have:=qV _ w;omega) id).trans iu;have apC : ¬D K.nx:=λw=>(t.w _ w).elim (λh=>by have:=qV _ h;omega) λh=>by have h:K.nx+1<=K.nx:=h;omega
   have hdb:K.nx≠bc:=by omega
   have IX:=C.ex X6 qY;obtain⟨BV,X7⟩:=lL u D X6;have FL:my T (eQ st f x):=U.lD hT.1;have eF:(eQ st f x).length=st.length:=Nq;have RG:=IW (T:=T) a (eQ st f x,c) f false S.2.1 hT.2.1;have hkc:=XX (T:=T) ms (cD (eQ st f x,c) f false a) f zG RE;have Xo:=Fz (K:=u) (A:=A) (i:=0) (hs.mv λb hb=>⟨hb,X7 b hb⟩) (λb hb=>(BV b hb).1) rfl;refine rn @jd ?_;refine Xo.mono λv2 z ⟨l9,e2,bJ,iL⟩=> ?_;subst e2;have j0:=bJ.nx;have IZ:=IX.hx bJ;obtain⟨ew1,vG⟩:=IX.w;obtain⟨ew2,qX⟩:=IZ.w;have Ny:=(bJ.ob K.nx Om).trans jd;have Ha:=ih a (by simp only[gk] at Bo;omega) S.2.1 hT.2.1 (eQ st f x) c f false z D A l9 (iL.mv λb hb=>⟨hb,bJ.ob b (BV b hb).1⟩) (λb hb=>⟨cQ (BV b hb).1 j0,(BV b hb).2⟩) IZ (zQ.hx bJ) FL Eg (by have h1:(cD (eQ st f x,c) f false a).2<=(jq (cD (eQ st f x,c) f false a) f ms).2:=hkc.2.2;show(cD (eQ st f x,c) f false a).2<(eQ st f x).length;omega);refine rn (gS @vG @qX @Ny) ?_;refine Ha.mono λv3 K3 ⟨W3,apD,ti,IH⟩=> ?_;have pC:=ti.nx;have MT:VX (· = bc) W W3 K K3:=(X6.trans (VX.ext bJ)).trans ti;have DI:=IZ.ex ti IH;obtain⟨hA3,FE⟩:=lL K3 W3 MT;have DA:=(ti.ob K.nx Om apC hdb).trans Ny;have Xq:=Fz (K:=K3) (A:=A) (i:=1) (hs.mv λb hb=>⟨hb,FE b hb⟩) (λb hb=>(hA3 b hb).1) rfl;obtain⟨ew3,Ds⟩:=DI.w;refine rn (jz @vG @qX @Ny @DA) ?_;refine Xq.mono λv4 K4 ⟨Me,e4,ep,vB⟩=> ?_;subst e4;obtain⟨q4,rfl,Xr⟩:=iq vB;obtain⟨_,e5,Xs,_,Xt⟩:=lr Xr;cases e5;rw[gE] at Xs;have Br:=ep.nx;have afa:=DI.hx ep;refine aM ?_;refine ef (λn fr d=>FcJ bc v hv W3 K4 (cD (eQ st f x,c) f false a) f ms n (fr 123) d) (n:=ms.length) ⟨0,cD (eQ st f x,c) f false a,W3,rfl,bR _,by(refine aM ?_;all_goals rfl),apD.hx ep, .ext (ag.refl _),afa.c,by rw[vU,FU]⟩ ?_;rintro n rI d ⟨i,I,Q,rfl,hi,f123,X8,E,zr,zq⟩ M;have rU:=E.nx;have zD:VX (· = bc) W Q K d:=(MT.trans (VX.ext ep)).trans E;by_cases B:i<ms.length
   ·obtain⟨m,hm⟩ : ∃m,ms[i]? = some m:=⟨_,cj B⟩;obtain⟨b5,cs,e,kd,fM,kB,ob,eg,pO,mj,aW⟩:=Xt i m hm;subst fM;obtain⟨DL,BL⟩:=lL d Q zD;have jr:=(BL b5 kB).trans ((FE b5 kB).symm.trans ob);have fL:=fD hm;have sb:ms.take (i+1)=ms.take i++ [m]:=by
     obtain⟨_,e⟩:=List.getElem?_eq_some_iff.1 hm;rw[pJ B,e]
    have RH:=afa.ex E zr;obtain⟨ew5,si⟩:=RH.w;obtain⟨_,hwl,_,_⟩:=RH.lt;have jY:=XX (T:=T) (ms.take i) (cD (eQ st f x,c) f false a) f (ae2 zG i) (ae4 RE i);rw[<-zq] at jY;have R:jq (cD (eQ st f x,c) f false a) f (ms.take (i+1))=jq I f [m]:=by rw[sb,Rw,<-zq]
    have iA:=XX (T:=T) (ms.drop (i+1)) (jq I f [m]) f (ae3 zG _) (ae5 RE _);have iH:jq (cD (eQ st f x,c) f false a) f ms=jq (jq I f [m]) f (ms.drop (i+1)):=by
     conv=>lhs;rw[<-yv (i+1) ms,Rw,R]
    have aU:(jq I f [m]).2<I.1.length:=by
     have h1:=iA.2.2;rw[<-iH] at h1;have h2:I.1.length=(cD (eQ st f x,c) f false a).1.length:=jY.2.1;have h3:(cD (eQ st f x,c) f false a).1.length=(eQ st f x).length:=RG.2.1;omega
    have afb:f<=I.2:=by
     have h1:(cD (eQ st f x,c) f false a).2<=I.2:=jY.2.2;have h2:c<=(cD (eQ st f x,c) f false a).2:=RG.2.2;omega
    have BM:=MP zG fL;have afc:=Np RE fL;have FF:eX m<=N:=by
     have:=BE fL;simp only[gk,eX] at Bo;omega
    have zE:bK K A (cF m) (List.take 5 (List.drop (i*5) cs)):=aW.mv λb hb=>⟨hb,(FE b hb).symm⟩;obtain⟨mk,ml,mx,mo,cI⟩:=m;obtain⟨mq,dt,zF⟩:=iq zE;rw[dt] at zE;by_cases h3:mk=3
    ·subst h3;obtain⟨p,w,r,rfl⟩ : ∃p v r,cI=p::v::r:=by
      have h2:2<=cI.length:=BM.1.2 rfl;match cI,h2 with
      | p::v::r,_=>exact⟨p,v,r,rfl⟩
     rw[IU,FU] at R aU;obtain⟨O,ky⟩ : ∃O,O=(d.new (.cells [.int .i64 0, .int .i64 0, .string ⟨⟨[]⟩⟩, .int .i64 0, .slice none 0 0] 26 .ex)).set d.nx (.cells [.int .i64 ((3:Nat):Int), .int .i64 ml, .string (tx mx), .int .i64 (mo:Nat), .slice mq (r.length+1+1) (r.length+1+1)] 26 .ex):=⟨_,rfl⟩;have dQ:ag d O:=by rw[ky];exact((ag.refl d).new _).set (ai _) _
     have BN:O.nx=d.nx+1:=by rw[ky];rfl
     have Xw:=Fz (K:=O) (A:=A) (i:=1) (zE.mv λb hb=>⟨hb,(dQ.ob b (DL b hb).1).trans (BL b hb)⟩) (λb hb=>by have:=(DL b hb).1;omega) rfl;refine rn (o8 @M @f123 @jr @dt @si @ba) ?_;rw[<-ky];refine Xw.mono λv7 K7 ⟨Xx,e7,kA,Xy⟩=> ?_;subst e7;have afd:=RH.hx dQ;have afe:=afd.hx kA;obtain⟨ewb,owb⟩:=afd.w;obtain⟨ew7,ye⟩:=afe.w;have rv:=ih w (by simp only[eX,gk] at FF;omega) BM.2.2.1 afc.2.2.1 I.1 I.2 f false K7 Q A Xx (Xy.mv λb hb=>⟨hb,kA.ob b (by have:=(DL b hb).1;omega)⟩) (λb hb=>⟨by have:=(DL b hb).1;have:=kA.nx;omega,(DL b hb).2⟩) afe ((X8.hx dQ).hx kA) (jY.1 (RG.1 FL)) afb aU;refine rn (gS @M @owb @ye) ?_;refine rv.mono λv8 K8 ⟨W8,X9,BO,wU⟩=> ?_;refine rn (jz @M @f123 @owb @ye) ?_;exact⟨ms.length-(i+1),Om,i+1,cD I f false w,W8,rfl,B,rfl,X9,((E.trans (VX.ext dQ)).trans (VX.ext kA)).trans BO,wU,R.symm⟩
    have mh : ¬((Nd.mk mk ml mx mo cI).kind=3/\2<=(Nd.mk mk ml mx mo cI).kids.length):=λe=>h3 e.1;rw[IV mh,FU] at R aU;obtain⟨O,ky⟩ : ∃O,O=(d.new (.cells [.int .i64 0, .int .i64 0, .string ⟨⟨[]⟩⟩, .int .i64 0, .slice none 0 0] 26 .ex)).set d.nx (.cells [.int .i64 (mk:Nat), .int .i64 ml, .string (tx mx), .int .i64 (mo:Nat), .slice mq cI.length cI.length] 26 .ex):=⟨_,rfl⟩;have dQ:ag d O:=by rw[ky];exact((ag.refl d).new _).set (ai _) _
    have BN:O.nx=d.nx+1:=by rw[ky];rfl
    have apE:=ih (.mk mk ml mx mo cI) FF BM afc I.1 I.2 f true O Q A _ (zE.mv λb hb=>⟨hb,(dQ.ob b (DL b hb).1).trans (BL b hb)⟩) (λb hb=>⟨by have:=(DL b hb).1;omega,(DL b hb).2⟩) (RH.hx dQ) (X8.hx dQ) (jY.1 (RG.1 FL)) afb aU;refine rn (o8 @M @f123 @jr @dt @si @ba) ?_;rw[<-ky];refine apE.mono λv8 K8 ⟨W8,X9,BO,wU⟩=> ?_;refine rn (an @M @f123) ?_;exact⟨ms.length-(i+1),Om,i+1,cD I f true (.mk mk ml mx mo cI),W8,rfl,B,rfl,X9,(E.trans (VX.ext dQ)).trans BO,wU,R.symm⟩
   have B:i=ms.length:=by omega
   subst B;rw[ng] at zq;refine rn (an @M @f123) ?_;refine .inr ⟨rfl,Q,?_,zD,?_⟩;·rw[IR,<-zq];exact X8
   rw[IR,<-zq];exact zr
  have rD:=Ru (st:=(st,c)) (f:=f) (mb:=mb) (l:=l) (x:=x) (o:=o) (ks:=ks) qb h8 h9;by_cases lu:k=36\/k=16\/k=21
  ·rw[iP lu] at rD;have eY:=FW x hT.1;rcases lu with rfl | rfl | rfl
   all_goals
    refine rn @on ?_;refine eY.mono λv1 u ⟨D,zQ,t⟩=> ?_;have X1:K.nx+1<=u.nx:=t.nx;refine aM ?_;refine .inl ⟨rfl,by(exact aV;all_goals rfl),by(exact aV;all_goals rfl),by(exact aV;all_goals rfl),eQ st f x,D,zQ,(VX.ext J).trans (t.up λ_ h=>h.elim),X1,(t.ob bc (by show bc<K.nx+1;omega) n4 id).trans ((J.ob bc l4).trans C.c),(t.ob K.nx (fN _) (λw=>by have:=qV _ w;omega) id).trans iu,rD, .inr ⟨x,rfl,rfl⟩⟩
  rw[iN lu] at rD;refine aM ?_;exact .inl ⟨rfl,by(exact aV;all_goals rfl),by(exact aV;all_goals rfl),by(exact aV;all_goals rfl),st,W,sF.hx J, .ext J,ai _,(J.ob bc l4).trans C.c,iu,rD, .inl rfl⟩
 rintro x1 fr H (⟨rfl,f1,f8,f9,bM,D,zQ,t,eY,qY,o1,rD,aff⟩ | ⟨rfl,hq⟩)
 ·have o1:H.ob K.nx= .cells [.int .i64 (k:Nat), .int .i64 l, .string (tx x), .int .i64 (o:Nat), .slice q ks.length ks.length] 26 .ex:=o1;have rD:cD (st,c) f mb (.mk k l x o ks)=mr (bM,c) f ks:=rD;have hFX:=C.ex t qY;obtain⟨ek1,ok1⟩:=hFX.k;obtain⟨BV,X7⟩:=lL H D t;have FL:my T bM:=by
   rcases aff with rfl | ⟨y,e,rfl⟩
   ·exact U
   exact U.lD (by rw[e];exact hT.1)
  have eF:bM.length=st.length:=by
   rcases aff with rfl | ⟨y,e,rfl⟩
   ·rfl
   exact Nq
  rw[rD] at uu⊢;have hk:=apo ih Bo S.2 hT.2 (dJ.mv λb hb=>⟨hb,X7 b hb⟩) BV hFX zQ FL Eg Om;rw[cE];refine rn (jL @f1 @f8 @f9 @o1 @ok1) ?_;refine hk.mono λv2 z ⟨P,FV,nV,zC⟩=> ?_;refine aM ?_;exact⟨P,FV,t.trans nV,zC⟩
 refine aM ?_;exact hq
theorem afg{T:List Bs}{bn bc bw b3 b4 bk:Nat}{v hv:ae}(a:T.length<=1099511627776) : ∀N,Rv T bn bc bw b3 b4 bk v hv N
 | 0=>λt h=>by cases t;simp[eX] at h
 | N+1=>apu a (afg a N)
def FhJ (K0:CH)(q n:Nat)(nd:dD)(m:Nat)(v:ae)(a:CH):Prop:=∃(i:Nat) (L:List ae),m=n-i/\i<=n/\v= .int .i64 (i:Nat)/\ag K0 a/\a.nx=K0.nx+4+i/\a.ob K0.nx=nd/\a.ob (K0.nx+1)= .cells [.slice (some ⟨q,0,none⟩) n n] 65 .ex/\a.ob (K0.nx+3)= .cells [.slice (some ⟨K0.nx+2,0,none⟩) n n] 103 .ex/\a.ob (K0.nx+2)= .cells L 56 .ex/\L.length=n/\∀j,j<i->L[j]? = some (.map (some (K0.nx+4+j)))/\a.ob (K0.nx+4+j)= .map #[] 0
def apF(v:ae)(st:List al)(W:Nat->Prop)(K K':CH):Prop:=∃(cf:Ow) (a:List Nat) (W':Nat->Prop),(∀b,W' b↔cf b≠none)/\(∀b,cf b≠none->b<K'.nx)/\jR true K' cf v st a/\VX nU W W' K K'
theorem apG{L:List ae}{i:Nat}{u:ae}(h:i<L.length):setCells L i [u]=L.set i u:=by
 unfold setCells;rw[List.set_eq_take_append_cons_drop,iP h];simp
theorem apH{z:List ae}{n:Nat}:(jU z n).length=n:=by simp[jU]
theorem apI{T:List Bs}(zR:T.length<=1099511627776){t:Nd}(dw:nS t)(hT:vL T t){ow:Ow}{v:ae}{st:List al}{bs:List Nat}{K:CH}{W A:Nat->Prop}{os:List ae}(M : ∀b,W b↔ow b≠none)(Z : ∀b,ow b≠none->b<K.nx)(j7:jR true K ow v st bs)(hP:my T st)(yB : ∀F∈st,F.fs= [])(hs:bK K A (cF t) os)(hA : ∀b,A b->b<K.nx/\¬W b)(uu:(cD (st,0) 0 false t).2<st.length)(rJ:st.length<=1099511627777):aQ gH 35 [.agg os.toArray,v] K λ_ K'=>apF v (cD (st,0) 0 false t).1 W K K':=by
 have wW:=j7;obtain⟨q,kd,rfl,oV,uo,iG,eg,fi⟩:=j7;obtain⟨s,rfl,dJ⟩ : ∃s,os=eB s/\True:=by
  obtain⟨s,h⟩:=qN hs;exact⟨s,h,trivial⟩
 have fO:bs.length<=1099511627777:=by rw[fi.len];exact rJ
 unfold eB at hs⊢;refine dq Rl Kr (aK ?_);have N:(8:Int)*(bs.length:Nat)<=281474976710656:=by omega
 refine rn @N ?_;refine ef (λn fr d=>FhJ K q bs.length (.cells [.int .i64 s.k, .int .i64 s.l, .string s.x, .int .i64 s.o, .slice s.a s.n s.c] 26 .ex) n (fr 15) d) (n:=bs.length) ⟨0,_,rfl,bR _,by(refine aM ?_;all_goals rfl),by(repeat (first | assumption | exact ag.refl _ | (refine ag.set ?_ Fo _) | (refine ag.new ?_ _))),rfl,by(exact aV;all_goals rfl),by(exact aV;all_goals rfl),by(exact aV;all_goals rfl),by(refine aM ?_;all_goals rfl),apH,λj E=>absurd E (fW _)⟩ ?_;rintro n fr d ⟨i,L,rfl,hi,f15,I,eY,jd,o3,o4,oL,Qq,O⟩ aq;by_cases P:i<bs.length
 ·have Q:i<L.length:=by omega
  have Mw:=apG (u:= .map (some d.nx)) Q;refine rn (jL @aq @f15 @o4 @oL @Q) ?_;rw[Mw];have h2 : ∀o y,y<d.nx->y≠K.nx+2->((d.new (.map #[] 0)).set (K.nx+2) o).ob y=d.ob y:=λo y h1 h2=>by rw[cO h2,bL Om]
  refine⟨bs.length-(i+1),Om,i+1,_,rfl,P,rfl,((I.new _).set Om _),by show d.nx+1=_;omega,(h2 _ _ Om Om).trans jd,(h2 _ _ Om Om).trans o3,(h2 _ _ Om Om).trans o4,by rw[br,iP rfl],by rw[List.length_set];exact Qq,λj E=> ?_⟩;rw[List.getElem?_set];by_cases tP:i=j
  ·subst tP;rw[iP rfl,iP Q,cO Om,<-eY];exact⟨rfl,iu⟩
  rw[iN tP,h2 _ _ Om Om];exact O j Om
 have P:i=bs.length:=by omega
 subst P;have e2:K.nx+1+1+1=K.nx+3:=rfl;refine rn (gS @aq @f15 @jd) ?_;refine MX (λr=>ag d r/\r.nx=d.nx+4/\r.ob d.nx= .cells [.int .i64 0] 3 .ex/\(∃e,r.ob (d.nx+1)= .cells [.func (.func 62) #[] #[pN (K.nx+1),pN (K.nx+3)]] e .ex)/\(∃e,r.ob (d.nx+2)= .cells [.func (.func 64) #[] #[pN (d.nx+1),pN d.nx,pN (d.nx+2),pN (K.nx+1),pN (K.nx+3),pN (d.nx+3)]] e .ex)/\∃e,r.ob (d.nx+3)= .cells [.func (.func 63) #[] #[pN (d.nx+2)]] e .ex) ⟨by(repeat (first | assumption | exact ag.refl _ | (refine ag.set ?_ Fo _) | (refine ag.new ?_ _))),rfl,by(exact aV;all_goals rfl),⟨_,by(refine aM ?_;all_goals rfl)⟩,⟨_,by(refine aM ?_;all_goals rfl)⟩,⟨_,by(refine aM ?_;all_goals rfl)⟩⟩ ?_;rintro r ⟨G,BN,R,Dw,S,U⟩;have B:ag K r:=I.trans G;have mh : ∀y,K.nx<=y->ow y=none:=λy z=>Gt λh=>by have:=Z y h;omega
 let C:Ow:=λy=>if y=K.nx+2 then some (0,15) else if K.nx+4<=y/\y<K.nx+4+bs.length then some (y-(K.nx+4),14) else ow y
 have H : ∀y,C y=if y=K.nx+2 then some (0,15) else if K.nx+4<=y/\y<K.nx+4+bs.length then some (y-(K.nx+4),14) else ow y:=λ_=>rfl
 have tn:pG ow C K r:=⟨B.nx,λy z=>by rw[H,iN Om,iN Om]⟩;have D : ∀y,K.nx<=y->y≠K.nx+2->¬(K.nx+4<=y/\y<K.nx+4+bs.length)->C y=none:=λy h1 h2 h3=>by rw[H,iN h2,iN h3];exact mh y h1
 have J : ∀y,C y≠none->ow y≠none\/y=K.nx+2\/(K.nx+4<=y/\y<K.nx+4+bs.length):=λy z=>by
  by_cases h1:y=K.nx+2
  ·exact .inr (.inl h1)
  by_cases h2:K.nx+4<=y/\y<K.nx+4+bs.length
  ·exact .inr (.inr h2)
  rw[H,iN h1,iN h2] at z;exact .inl z
 have V:L=((mB bs.length).map (λj=>K.nx+4+j)).map λm=>Value.map (some m):=by
  refine DV λj=> ?_;by_cases E:j<bs.length
  ·rw[(O j E).1];simp[E]
  rw[uA Om,uA Sq]
 have X:((mB bs.length).map (λj=>K.nx+4+j)).length=bs.length:=by simp
 have sF:kV (.slice (some ⟨q,0,none⟩) bs.length bs.length) (.slice (some ⟨K.nx+2,0,none⟩) bs.length bs.length) st r (λy=>C y≠none):=by
  refine⟨C,bs,(mB bs.length).map (λj=>K.nx+4+j),K.nx+2, .ex,λ_=>eM,λy z=> ?_,wW.mv9 tn λy i j g1 _ _=>B.ob y g1,by rw[X],by rw[X];exact fi.len,by rw[H,iP rfl],?_,λi F m h1 h2=> ?_⟩
  ·rcases J y z with h | h | h
   ·have:=Z y h;have:=B.nx;omega
   ·omega
   omega
  ·rw[G.ob _ Om,oL,<-V]
  have wB:i<bs.length:=by
   have:=(List.getElem?_eq_some_iff.1 h2).1;rw[X] at this;exact this
  have hm:m=K.nx+4+i:=by
   rw[List.getElem?_map,List.getElem?_range wB] at h2;cases h2;rfl
  subst hm;refine⟨by rw[H,iN Om,iP Om];simp,Om,?_⟩;rw[yB F (fD h1)];have e0:mf []=λ_=>0:=by funext y;simp[mf]
  rw[e0];exact .nil ((G.ob _ Om).trans (O i wB).2)
 have hX:FX (d.nx+1) d.nx (d.nx+2) (K.nx+1) (K.nx+3) (d.nx+3) (.slice (some ⟨q,0,none⟩) bs.length bs.length) (.slice (some ⟨K.nx+2,0,none⟩) bs.length bs.length) r (λy=>C y≠none) 0:=by
  refine⟨Dw,S,U,R,⟨(G.ob _ Om).trans o3,(G.ob _ Om).trans o4,Om,Om,λh=>h (D _ Om Om Om),λh=>h (D _ Om Om Om)⟩,⟨Om,Om,Om,Om⟩,⟨λh=>h (D _ Om Om Om),λh=>h (D _ Om Om Om),λh=>h (D _ Om Om Om),λh=>h (D _ Om Om Om)⟩,⟨Om,Om⟩⟩
 refine(afg zR (eX t) t (ai _) dw hT st 0 0 false r _ A _ (hs.mv λb hb=>⟨hb,B.ob b (hA b hb).1⟩) (λb hb=>⟨by have:=(hA b hb).1;have:=B.nx;omega,λh=>(J b h).elim (λg=>(hA b hb).2 ((M b).2 g)) λg=>by have:=(hA b hb).1;omega,by have:=(hA b hb).1;have:=I.nx;omega⟩) hX sF hP (ai _) uu).mono λv2 K2 ⟨W2,FV,Y,_⟩=> ?_;refine aM ?_;obtain⟨Ds,Nz,ms3,hq3,ar5,g1,g2,g3,_⟩:=FV;have j0:=Y.nx;have hnK:=B.nx;refine⟨Ds,Nz,W2,g1,g2,g3,⟨Om,λy h1 h2 _=> ?_,λy z=> ?_⟩⟩;·exact(Y.ob y Om (λh=>(J y h).elim (λg=>h2 ((M y).2 g)) λg=>by omega) (by have:=I.nx;omega)).trans (B.ob y h1)
 rcases Y.w y z with h | h
 ·rcases J y h with h | h
  ·exact .inl ((M y).2 h)
  exact .inr Om
 exact .inr Om
theorem apK{us:List ae}{n:Nat}(h:us.length=n):(if n=0 then some ([],0) else some (us.take n,n))=some (us,n):=by
 by_cases a:n=0
 ·subst a;rw[iP rfl,List.length_eq_zero_iff.1 h]
 rw[iN a,<-h,ng]
theorem apL{K:CH}{ow:Ow}{a:Nat×Nat}{v:ae}{xs:List Bs}(h:iQ K ow a v xs)(hl:xs.length<=1099511627776):aQ gH 36 [v] K λr K'=>ag K K'/\eV K 9 1 fU K' r xs:=by
 refine dq Rl Kr (aK ?_);rcases h with ⟨rfl,rfl⟩ | ⟨r,kd,rfl,_,h2,h3,h4⟩
 ·refine aM ?_;exact⟨ag.refl _,eV.nil⟩
 have b:(xs.flatMap fU).length=xs.length:=by rw[zy,eR]
 repeat' (first | (simp (disch:=first | omega | (decide +kernel)) only[↓dx,↓cE,↓ez,↓fj,↓oJ,↓c9,↓da,↓cM,↓kj,↓iB,↓aH,↓aL,↓bf,bS,cL,ki,↓di,↓jW,cZ,pop,cq,db,iw,dC,↓reduceIte,Nat.reduceEqDiff,reduceCtorEq,kQ,pu,Option.isNone_some,gI,dv,Nat.reduceLeDiff,Bool.xor_false,↓mP,iP,iN,fp,ba,and_true,h3]) | ((with_reducible first|apply aE|apply aF|apply aG)<;>intro _))
 rw[apK b,kO];refine yS (A:=K) (f:=fU) (xs:=([]:List Bs)) (ys:=xs) BI (.inr ⟨K.nx, .ex,rfl,ai _,fN _,iu,rfl⟩) ((ag.refl K).new _) (by simp only[bZ];omega) (by simp only[bZ];omega) rfl rfl λv' K' g1 g2 g3 g4=> ?_;refine aM ?_;exact⟨g2,g1⟩
theorem iQ.re{K:CH}{ow cf:Ow}{a:Nat×Nat}{v:ae}{xs:List Bs}(h:iQ K ow a v xs)(ho : ∀y,ow y=some a->cf y=some a):iQ K cf a v xs:=by
 rcases h with h | ⟨r,kd,h1,h2,h3,h4,h5⟩
 ·exact .inl h
 exact .inr ⟨r,kd,h1,ho r h2,h3,h4,h5⟩
theorem ul.re{K:CH}{ow cf:Ow}{a:Nat×Nat}{v:ae}{L:List Bs}(h:ul true K ow a v L)(ho : ∀y,ow y=some a->cf y=some a):ul true K cf a v L:=by
 obtain⟨m,rfl,h2,h3,h4⟩:=wV h;exact⟨m,rfl,ho m h2,h3,h4⟩
theorem jR.re{K:CH}{ow cf:Ow}{v:ae}{fns:List al}{bs:List Nat}(h:jR true K ow v fns bs)(ho : ∀y i j,ow y=some (i,j)->j<=7\/j=9->cf y=some (i,j)):jR true K cf v fns bs:=by
 obtain⟨q,kd,h1,h2,h3,h4,h5,d⟩:=h;refine⟨q,kd,h1,ho q 0 9 h2 (.inr rfl),h3,h4,h5,d.len,λi F b g1 g2=> ?_⟩;obtain⟨k,m,vp,vl,vc,vf,m1,m2,m3,n,a⟩:=d.get i F b g1 g2;have hh : ∀j,j<=7->∀y,ow y=some (i,j)->cf y=some (i,j):=λj r y e=>ho y i j e (.inl r);exact⟨hh 0 de b k,m,vp,vl,vc,vf,m1,m2,m3,n,a.p.re (hh 1 de),a.l.re (hh 2 de),a.c.re (hh 3 de),a.f.re (hh 4 de),a.b.re (hh 5 de),a.g.re (hh 6 de),a.o.re (hh 7 de)⟩
theorem RI{E:List Ev}:(jp E).length=(kT E).length:=by
 unfold jp;rw[Rj,M7]
structure NA(T:List Bs)(B:Nat)(t:Nd):Prop where
 hh:eX t<=1000
 cl:nS t
 z:cu t<=2305843009213693952
 B16:B+16<=4398046511104
 El:(bu 0 gL t).1.length<=1099511627776
 K : ∀e∈(bu 0 gL t).1,jI B e.1
 f : ∀e∈(bu 0 gL t).1,e.2.f<(kT (bu 0 gL t).1).length
 ps : ∀F∈jp (bu 0 gL t).1,F.ps.length<=1099511627776/\F.ls.length<=1099511627776/\F.cs= []/\F.fs= []
 ps0 : ∀F∈kT (bu 0 gL t).1,F.ps.length<=4398046511104
 b : ∀pre e rest F,pre++e::rest=(bu 0 gL t).1->(vE (ui (kT (bu 0 gL t).1) (bu 0 gL t).1) pre)[e.2.f]? = some F->F.ls.length+(kz e).length<=1099511627776
 tb : ∀e∈(bu 0 gL t).1,qS 2199023255552 e.1
 Tl:T.length<=1099511627776
 Tx:vL T t
 P:my T (jp (bu 0 gL t).1)
 sl:(jp (bu 0 gL t).1).length<=1099511627776
 fw : ∀F∈(cD (jp (bu 0 gL t).1,0) 0 false t).1,F.ps.length<=1099511627776/\F.ls.length<=1099511627776/\F.cs= []
 ct:(cD (jp (bu 0 gL t).1,0) 0 false t).2<(jp (bu 0 gL t).1).length
structure F7 where
 nm:ByteArray
 par:Int
 p:Option cB
 pn:Nat
 l:Option cB
 ln:Nat
 c:Option cB
 cn:Nat
 f:Option cB
 fn:Nat
 g:Bool
def ql (n:F7):List ae:= [.string n.nm, .int .i64 n.par, .slice n.p n.pn n.pn, .slice n.l n.ln n.ln, .slice n.c n.cn n.cn, .slice n.f n.fn n.fn, .bool n.g]
theorem afh : ∀x:F7,(ql x).length=7/\(ql x).all a8=true:=λ_=>⟨rfl,rfl⟩
def BW (K:CH)(ow:Ow)(i:Nat)(F:al)(L:List ae):Prop:=∃vp vl vc vf,L= [.string (tx F.nm), .int .i64 F.par,vp,vl,vc,vf, .bool F.gen]/\iQ K ow (i,1) vp F.ps/\iQ K ow (i,2) vl F.ls/\iQ K ow (i,3) vc F.cs/\iQ K ow (i,4) vf F.fs
def CkR (lo:Nat):Except Int (List al)->ae->CH->Prop
 | .error l,v,_=>v= .tuple #[.slice none 0 0, .int .i64 l, .int .i64 23]
 | .ok st,v,K=>∃(ow:Ow) (r:Nat) (kd:Kd) (LL:List F7),v= .tuple #[.slice (some ⟨r,0,none⟩) st.length st.length, .int .i64 0, .int .i64 0]/\(∀y,ow y≠none->lo<=y/\y<K.nx)/\ow r=some (0,20)/\K.ob r= .cells (LL.flatMap ql) 40 kd/\kd.bY=false/\LL.length=st.length/\∀i F L,st[i]? = some F->LL[i]? = some L->BW K ow i F (ql L)
def n9 (st:List al):Nat->List al
 | 0=>st
 | i+1=>fo (n9 st i) i (qT (n9 st i) i)
def apM (lo p:Nat)(K0:CH)(q:Nat)(st:List al)(bs:List Nat)(n:Nat)(b d:ae)(a:CH):Prop:=∃(i:Nat) (ow:Ow) (LL:List F7),n=bs.length-i/\i<=bs.length/\b= .int .i64 (i:Nat)/\(∀y,ow y≠none->lo<=y/\y<a.nx)/\ow p=none/\a.ob p= .cells [.slice (some ⟨q,0,none⟩) bs.length bs.length] 65 .ex/\jR true a ow (.slice (some ⟨q,0,none⟩) bs.length bs.length) (n9 st i) bs/\VX nU (λy=>lo<=y) (λy=>lo<=y) K0 a/\eV (um 0) 40 7 ql a d LL/\LL.length=i/\(∀o n c y,d= .slice (some ⟨y,o,none⟩) n c->ow y=none/\lo<=y/\y≠p)/\∀j L,LL[j]? = some L->∃F,(n9 st i)[j]? = some F/\BW a ow j F (ql L)
theorem afi{st:List al} : ∀i,(n9 st i).length=st.length
 | 0=>rfl
 | i+1=>by rw[n9,BP,afi i]
theorem Yb{st:List al} : ∀(i:Nat) {k:Nat} {G:al},(n9 st i)[k]? = some G->∃F,st[k]? = some F/\G.fs=F.fs/\G.par=F.par/\G.ps=F.ps/\G.ls=F.ls/\(i<=k->G=F)
 | 0,k,G,h=>⟨G,h,rfl,rfl,rfl,rfl,λ_=>rfl⟩
 | i+1,k,G,h=>by
   rw[n9] at h;unfold fo at h;rw[xh] at h;cases hg:(n9 st i)[k]? with
   | none=>rw[hg] at h;simp at h
   | some a=>
     rw[hg] at h;obtain⟨F,h1,h2,h3,h4,h5,c⟩:=Yb i hg;by_cases b:i=k
     ·have e:qT (n9 st i) i a=G:=by simpa[b] using h
      rw[<-e];exact⟨F,h1,h2,h3,h4,h5,λg=>by omega⟩
     have e:a=G:=by simpa[b] using h
     rw[<-e];exact⟨F,h1,h2,h3,h4,h5,λg=>c Om⟩
theorem afj{st:List al}{f:Nat} : ∀i,vF (n9 st i) f=vF st f
 | 0=>rfl
 | i+1=>by
   refine Eq.trans ?_ (afj i);rw[n9];generalize n9 st i=S;unfold vF fo;have h : ∀(S:List al) (u:al->al) (k:Nat),(∀F,(u F).par=F.par/\(u F).fs=F.fs)->((S.modify k u).filter λG=>decide (G.par=(f:Int))).flatMap al.fs=(S.filter λG=>decide (G.par=(f:Int))).flatMap al.fs:=by
    intro S u;induction S with
    | nil=>intro k h;cases k<;>rfl
    | cons F S a=>
      intro k h;cases k with
      | zero=>
        rw[List.modify_zero_cons];by_cases hp:F.par=(f:Int)
        ·simp[hp,(h F).1,(h F).2]
        simp[hp,(h F).1]
      | succ k=>
        rw[List.modify_succ_cons];by_cases hp:F.par=(f:Int)
        ·simp only[Oa,hp,decide_true,iT,tw,a k h]
        simp only[Oa,decide_eq_false hp,iF,Bool.false_eq_true,a k h]
   exact h S (qT S i) i λF=>⟨rfl,rfl⟩
theorem afk{st:List al} : ∀(i k:Nat),(n9 st i)[k]? = (st[k]?).map λF=>if k<i then qT st k F else F
 | 0,k=>by simp[n9]
 | i+1,k=>by
   rw[n9];unfold fo;rw[xh,afk i k];cases st[k]? with
   | none=>simp
   | some F=>
     by_cases a:i=k
     ·subst a;have e:qT (n9 st i) i F=qT st i F:=by unfold qT;rw[afj]
      simp[e]
     by_cases hk:k<i
     ·simp[a,hk,show k<i+1 by omega]
     simp[a,hk,show ¬k<i+1 by omega]
theorem apN{st:List al}:n9 st st.length=st.mapIdx λf F=>qT st f F:=by
 refine DV λk=> ?_;rw[afk,List.getElem?_mapIdx];cases h:st[k]? with
 | none=>rfl
 | some F=>
   have hk:=(List.getElem?_eq_some_iff.1 h).1;simp[hk]
theorem BW.re{K:CH}{ow cf:Ow}{i:Nat}{F:al}{L:List ae}(h:BW K ow i F L)(ho : ∀y j,ow y=some (i,j)->1<=j/\j<=4->cf y=some (i,j)):BW K cf i F L:=by
 obtain⟨vp,vl,vc,vf,e,h1,h2,h3,h4⟩:=h;exact⟨vp,vl,vc,vf,e,h1.re λy g=>ho y 1 g de,h2.re λy g=>ho y 2 g de,h3.re λy g=>ho y 3 g de,h4.re λy g=>ho y 4 g de⟩
theorem BW.mv{K K':CH}{ow cf:Ow}{i:Nat}{F:al}{L:List ae}(h:BW K ow i F L)(hx:pG ow cf K K')(ho : ∀y j,y<K.nx->ow y=some (i,j)->1<=j/\j<=4->K'.ob y=K.ob y):BW K' cf i F L:=by
 obtain⟨vp,vl,vc,vf,e,h1,h2,h3,h4⟩:=h;exact⟨vp,vl,vc,vf,e,h1.mv hx λy k g=>ho y 1 k g de,h2.mv hx λy k g=>ho y 2 k g de,h3.mv hx λy k g=>ho y 3 k g de,h4.mv hx λy k g=>ho y 4 k g de⟩
def CtJ (K0:CH)(mt:Nat)(S:List al)(f len n:Nat)(v:ae)(a:CH):Prop:=∃k:Nat,n=len-k/\k<=len/\v= .int .i64 (k:Nat)/\dr mt K0 a/\gM a mt (mf (vF (S.take k) f))
def apO (K0:CH)(mt:Nat)(b xs:List Bs)(n:Nat)(v:ae)(a:CH):Prop:=∃k:Nat,n=xs.length-k/\k<=xs.length/\v= .int .i64 (k:Nat)/\dr mt K0 a/\gM a mt (mf (b++xs.take k))
theorem apP{S:List al}{f k:Nat}{G:al}(h:S[k]? = some G):vF (S.take (k+1)) f=vF (S.take k) f++(if G.par=(f:Int) then G.fs else []):=by
 obtain⟨hk,e⟩:=List.getElem?_eq_some_iff.1 h;unfold vF;rw[pJ hk,e,List.filter_append,List.flatMap_append];by_cases hp:G.par=(f:Int)
 ·simp[hp]
 simp[hp]
theorem apQ{K:CH}{ow:Ow}{b:Nat×Nat}{v:ae}{xs:List Bs}(h:iQ K ow b v xs):oj K 1 v=some (xs.flatMap fU,xs.length):=by
 rcases h with ⟨rfl,rfl⟩ | ⟨r,kd,rfl,_,h2,h3,h4⟩
 ·rfl
 have c:(xs.flatMap fU).length=xs.length:=by rw[zy,eR]
 rw[pu];by_cases a:xs.length=0
 ·rw[iP a,a];have:xs= []:=List.length_eq_zero_iff.1 a;rw[this];rfl
 rw[iN a,h3,kQ,iP Om,gI,fp,<-c,ng]
theorem afl{α:Type}{A:CH}{e sz:Nat}{f:α->List ae}{K:CH}{v:ae}{xs:List α}(h:eV A e sz f K v xs) : ∃a,v= .slice a xs.length xs.length:=by
 rcases h with ⟨rfl,h⟩ | ⟨r,kd,h1,_⟩
 ·exact⟨none,h⟩
 exact⟨_,h1⟩
theorem z7{g a2 a3 a4 a5 h i a b b3 b4 c d e:ae}:setCells (jU [g,a2,a3,a4,a5,h,i] 7) (0*7) [a,b,b3,b4,c,d,e]= [a,b,b3,b4,c,d,e]:=rfl
def CeJ (K0:CH)(mt b:Nat)(c:ae)(tk d:List Bs)(C:ae->dD)(n:Nat)(v:ae)(a:CH):Prop:=∃(k:Nat) (cs:List Bs) (vc:ae),n=d.length-k/\k<=d.length/\v= .int .i64 (k:Nat)/\K0.nx<=a.nx/\(∀y,y<K0.nx->y≠b->y≠mt->ir c y->a.ob y=K0.ob y)/\a.ob b=C vc/\eV (um 0) 9 1 fU a vc cs/\gM a mt (λy=>if y∈tk/\y∉cs then 1 else 0)/\((vc=c/\cs= []/\∀y,y<K0.nx->y≠b->y≠mt->a.ob y=K0.ob y)\/∃r,vc= .slice (some ⟨r,0,none⟩) cs.length cs.length/\K0.nx<=r)/\sh tk d []=sh tk (d.drop k) cs/\cs.length<=k
theorem afm{T:List Bs}{B:Nat}{t:Nd}(hB:B+16<=4398046511104)(hh:eX t<=1000)(hz:cu t<=1125899906842624)(hK:jI B t)(hT:zo t)(D:NA T B (lx t)){K:CH}{A:Nat->Prop}{os:List ae}(hs:bK K A (cF t) os)(hA : ∀b,A b->b<K.nx)(hp:wT K):aQ gH 13 [.agg os.toArray] K λv K'=>ag K K'/\CkR K.nx (uj (lx t)) v K':=by
 obtain⟨nt,rfl⟩:=qN hs;have e0:ag K (K.new (.cells (eB nt) 26 .ex)):=(ag.refl K).new _;have qO:=aee hB hh hz hK hT (hs.mv λb hb=>⟨hb,e0.ob b (hA b hb)⟩) (λb hb=>cQ (hA b hb) e0.nx) (hp.hx e0);unfold eB at qO e0⊢;refine dq Rl Kr (aK ?_);refine aM ?_;refine qO.mono λv1 K1 ⟨bH,vI,Z,iz⟩=> ?_;subst Z;obtain⟨n1,rfl⟩:=qN iz;unfold eB at iz;have eY:K.nx+1<=K1.nx:=bH.nx;have jd:=(bH.ob K.nx (fN _)).trans iu;obtain⟨Q,wX⟩ : ∃Q,Q=K1.set K.nx (.cells [.int .i64 n1.k, .int .i64 n1.l, .string n1.x, .int .i64 n1.o, .slice n1.a n1.n n1.c] 26 .ex):=⟨_,rfl⟩;have j0:Q.nx=K1.nx:=by rw[wX];rfl
 have Ny:Q.ob K.nx= .cells [.int .i64 n1.k, .int .i64 n1.l, .string n1.x, .int .i64 n1.o, .slice n1.a n1.n n1.c] 26 .ex:=by rw[wX,br,iP rfl]
 have iA : ∀y,y≠K.nx->Q.ob y=K1.ob y:=λy d=>by rw[wX];exact cO d
 have zI:ag K Q:=⟨Om,λy d=>(iA y Om).trans ((bH.ob y (by show y<K.nx+1;omega)).trans (e0.ob y d))⟩;have iL:bK Q (λb=>K.nx+1<=b/\b<K1.nx) (cF (lx t)) _:=iz.mv λb ⟨h1,h2⟩=>⟨⟨h1,h2⟩,iA b (by have:K.nx+1<=b:=h1;omega)⟩;have apR:=ao8 (K:=Q) rfl D.hh D.cl D.z D.B16 D.El D.K D.f D.ps0 D.b D.tb iL (λb hb=>by have:=hb.2;omega);repeat' (first | (simp (disch:=first | omega | (decide +kernel)) only[↓RD,RU,↓aH,↓dA,↓aL,br,aD,bq,isVal,a8,ci,ρ0,ρ1,↓reduceIte,Nat.reduceEqDiff,Nat.reduceAdd,ρ7,ρ8,ρ15,ρ17,ρ18,ρ21,ρ22,ρ23,Kd.bY,ρ25,ρ26,jd,eB]) | ((with_reducible first|apply aE|apply aF|apply aG)<;>intro _))
 rw[<-wX];refine apR.mono λv3 u ⟨fF,Ds,Nz,rG,Yc⟩=> ?_;have pC:=fF.nx;have DA:=(fF.ob K.nx Om).trans Ny;have xJ:=D.P.par;obtain⟨E,hE⟩ : ∃E,(bu 0 gL (lx t)).1=E:=⟨_,rfl⟩;have hfE : ∀e∈E,e.2.f<(jp E).length:=by rw[<-hE,RI];exact D.f
 have rJ:=D.sl;have uu:=D.ct;have RJ:=D.P;have jM:=D.ps;rw[hE] at Yc rJ uu RJ jM;have apS:=Yc;obtain⟨q3,kd3,rfl,_⟩:=apS;obtain⟨NB,Dk⟩ : ∃NB:Ow,∀y,NB y=if y=u.nx then some (0,8) else if y=u.nx+1 then some (0,12) else if y=u.nx+2 then some (0,13) else Ds y:=⟨_,λ_=>rfl⟩
 refine rn @DA ?_;refine MX (λV=>ag u V/\V.nx=u.nx+3/\V.ob u.nx= .cells [.slice (some ⟨q3,0,none⟩) Nz.length Nz.length] 65 .ex/\V.ob (u.nx+1)= .cells [.bool false] 4 .ex/\V.ob (u.nx+2)= .cells [.int .i64 0] 3 .ex) ⟨by(repeat (first | assumption | exact ag.refl _ | (refine ag.set ?_ Fo _) | (refine ag.new ?_ _))),rfl,by(exact aV;all_goals rfl),by(exact aV;all_goals rfl),by(exact aV;all_goals rfl)⟩ ?_;rintro V ⟨dQ,BN,XJ,obb,obl⟩;have Aw:JW u.nx (u.nx+1) (u.nx+2) (jp E) [] V (λy=>NB y≠none):=by
  refine⟨NB,_,Nz,λ_=>eM,λy d=> ?_,by rw[Dk,iP rfl],XJ,Yc.mv ⟨dQ.nx,λy d=>by rw[Dk,iN Om,iN Om,iN Om]⟩ λy d _=>dQ.ob y d,by rw[Dk,iN Om,iP rfl],obb,by rw[Dk,iN Om,iN Om,iP rfl],obl⟩;rw[Dk] at d;by_cases h1:y=u.nx
  ·omega
  by_cases h2:y=u.nx+1
  ·omega
  by_cases h3:y=u.nx+2
  ·omega
  rw[iN h1,iN h2,iN h3] at d;have:=rG y d;omega
 have Yd : ∀y,y<Q.nx->NB y=none:=λy d=>by
  rw[Dk,iN Om,iN Om,iN Om];exact Gt λh=>by have:=(rG y h).1;omega
 have hsb:bK V (λb=>K.nx+1<=b/\b<K1.nx) (cF (lx t)) _:=iL.mv λb hb=>⟨hb,(dQ.ob b (by have:=hb.2;omega)).trans (fF.ob b (by have:=hb.2;omega))⟩;have FM:=aeC (cap:= [pN (u.nx+1),pN u.nx,pN (u.nx+2)]) (E:=E) JW.ok (ape RJ.par Om (λF hF=>by have:=(jM F hF).1;omega) hfE) D.hh D.cl D.z (pre:= []) ⟨[],by rw[hE];simp⟩ hsb (λb hb=>⟨by have:=hb.2;omega,λh=>h (Yd b (by have:=hb.2;omega))⟩) Aw;rw[hE] at FM;refine FM.mono λv4 K4 ⟨W4,Ye,DJ⟩=> ?_;have Ye:JW u.nx (u.nx+1) (u.nx+2) (jp E) E K4 W4:=Ye;obtain⟨si,v5,BS,w1,w2,w3,w4,w5,w6,w7,w8,w9⟩:=Ye;have Br:=DJ.nx;have ep : ∀y,y<Q.nx->K4.ob y=V.ob y:=λy d=>DJ.ob y Om (λh=>h (Yd y d)) id;have RK:ag K K4:=⟨by have:=zI.nx;omega,λy d=>by
  have h2:=zI.nx;exact(ep y Om).trans ((dQ.ob y Om).trans ((fF.ob y Om).trans (zI.ob y d)))⟩
 have on4:=(ep K.nx Om).trans ((dQ.ob _ Om).trans DA);have Yf : ∀y,si y≠none->Q.nx<=y:=λy d=>(DJ.w y ((w1 y).2 d)).elim (λh=>Gt λg=>h (Yd y Om)) λh=>by omega
 cases hw:E.find? (jy (jp E)) with
 | some e=>
   have xz:qZ (jp E) E=(true,e.1.line):=by unfold qZ;rw[hw]
   rw[xz] at w7 w9;refine rn (gS @on4 @w7 @w9) ?_;refine⟨RK,?_⟩;have ny:uj (lx t)= .error e.1.line:=by
    unfold uj;show(match (bu 0 gL (lx t)).1.find? (jy (jp (bu 0 gL (lx t)).1)) with | some e=>_ | none=>_)=_;rw[hE,hw]
   rw[ny];rfl
 | none=>
   have xz:qZ (jp E) E=(false,0):=by unfold qZ;rw[hw]
   rw[xz] at w7;have w6':=w5;obtain⟨q5,kd5,rfl,_⟩:=w6';obtain⟨yd,afn⟩ : ∃yd:Ow,∀y,yd y=if y=u.nx\/y=u.nx+1\/y=u.nx+2 then none else si y:=⟨_,λ_=>rfl⟩
   have ND : ∀y,yd y≠none->si y≠none/\y≠u.nx:=λy d=>by
    rw[afn] at d;split at d;·exact absurd rfl d
    rename_i h;exact⟨d,λe=>h (.inl e)⟩
   have hf6:jR true K4 yd (.slice (some ⟨q5,0,none⟩) BS.length BS.length) (jp E) BS:=w5.re λy i j e hj=>by
    rw[afn,iN];·exact e
    rintro(rfl | rfl | rfl);·rw[w3] at e;simp only[Option.some.injEq,Prod.mk.injEq] at e;omega
    ·rw[w6] at e;simp only[Option.some.injEq,Prod.mk.injEq] at e;omega
    rw[w8] at e;simp only[Option.some.injEq,Prod.mk.injEq] at e;omega
   have vB:bK K4 (λb=>K.nx+1<=b/\b<K1.nx) (cF (lx t)) _:=hsb.mv λb hb=>⟨hb,ep b (by have:=hb.2;omega)⟩;have apT:=apI D.Tl D.cl D.Tx (W:=λy=>yd y≠none) (λ_=>eM) (λy d=>w2 y (ND y d).1) hf6 RJ (λF hF=>(jM F hF).2.2.2) vB (λb hb=>⟨by have:=hb.2;omega,λh=>by have h1:=Yf b (ND b h).1;have:=hb.2;omega⟩) uu Om;refine rn (gS @on4 @w7 @w4) ?_;refine apT.mono λv6 K5 ⟨ye,J,W7,u1,u2,u3,fI⟩=> ?_;have rU:=fI.nx;have y5 : ¬(yd u.nx≠none):=λh=>(ND _ h).2 rfl;have Yg:=(fI.ob u.nx Om y5 id).trans w4;have apU : ∀y,ye y≠none->Q.nx<=y:=λy d=>(fI.w y ((u1 y).2 d)).elim (λh=>Yf y (ND y h).1) λh=>by omega
   have hp7:ye u.nx=none:=Gt λh=>(fI.w _ ((u1 _).2 h)).elim y5 λg=>by omega
   have Yh:ag K K5:=⟨by have:=RK.nx;omega,λy d=>(fI.ob y (by have:=RK.nx;omega) (λh=>by have:=Yf y (ND y h).1;have:=zI.nx;omega) id).trans (RK.ob y d)⟩;obtain⟨st,aW⟩ : ∃st,(cD (jp E,0) 0 false (lx t)).1=st:=⟨_,rfl⟩;have hkp:=IW (T:=T) (lx t) (jp E,0) 0 false D.cl D.Tx;have hlen:st.length=(jp E).length:=by rw[<-aW];exact hkp.2.1
   have hP7:my T st:=by rw[<-aW];exact hkp.1 RJ
   have I2:=D.fw;rw[hE,aW] at I2;rw[aW] at u3;have ny:uj (lx t)= .ok (st.mapIdx λf F=>qT st f F):=by
    unfold uj;show(match (bu 0 gL (lx t)).1.find? (jy (jp (bu 0 gL (lx t)).1)) with | some e=>_ | none=>_)=_;rw[hE,hw];show Except.ok ((cD (jp E,0) 0 false (lx t)).1.mapIdx λf F=>qT (cD (jp E,0) 0 false (lx t)).1 f F)=_;rw[aW]
   rw[ny];have u3':=u3;obtain⟨q7,kd7,e7,_,_,_,_,apV⟩:=u3';rw[e7] at Yg u3;have fO:J.length<=1099511627776:=by rw[apV.len,hlen];exact rJ
   refine rn @Yg ?_;refine ef (λn fr m=>apM K.nx u.nx K5 q7 st J n (fr 32) (fr 8) m) (n:=J.length) ⟨0,ye,[],rfl,Om,by(refine aM ?_;all_goals rfl),λy d=>⟨by have:=apU y d;have:=zI.nx;omega,u2 y d⟩,hp7,Yg,u3, .ext (ag.refl _),by(refine aM ?_;all_goals exact eV.nil),rfl,λo n c y H=> ?_,λj L h=>by cases j<;>simp at h⟩ ?_
   ·revert H
    refine aM ?_;all_goals intro H
    all_goals cases H
   rintro n fr m ⟨i,ow,LL,rfl,hi,f32,mL,hp,bC,uE,pF,kp,I3,BU,dJ⟩ aq;by_cases au:i<J.length
   ·have afo:=uE;obtain⟨qq,kdq,eq,oV,uo,iG,ar6,fi⟩:=uE;cases eq;obtain⟨S,hS⟩ : ∃S,n9 st i=S:=⟨_,rfl⟩;rw[hS] at fi afo dJ;have hiS:i<S.length:=by rw[<-fi.len];exact au
    obtain⟨F,b,hF,hb,R,gR,vp,vl,vc,vf,m1,m2,m3,dX,hrp,wN,p8,yJ,_⟩:=FP fi hiS;obtain⟨js,Nj⟩:=zJ hb;obtain⟨Km,RL⟩ : ∃Km,Km=m.new (.map #[] 0):=⟨_,rfl⟩;have pR:Km.nx=m.nx+1:=by rw[RL];rfl
    have hxm:ag m Km:=by rw[RL];exact(ag.refl _).new _
    have apW:gM Km m.nx (mf []):=by
     have e0:mf []=λ_=>0:=by funext y;simp[mf]
     rw[e0,RL];exact .nil iu
    have Yi:u.nx<m.nx:=by have:=pF.nx;omega
    refine rn (uF @aq @f32 @iG @js @Nj @bC @Yi) ?_;rw[<-RL];refine ef (λn fr K7=>CtJ Km m.nx S i J.length n (fr 40) K7) (n:=J.length) ⟨0,rfl,bR _,by(refine aM ?_;all_goals rfl),dr.refl _,apW⟩ ?_;rintro n2 bt K7 ⟨k,rfl,hk,f40,kA,NE⟩ U;have hn7:=kA.nx;have FZ : ∀y,y<m.nx->K7.ob y=m.ob y:=λy d=>(kA.ob y Om Om).trans (hxm.ob y d);by_cases M:k<J.length
    ·obtain⟨G,bg,hG,zM,uq,apX,gp,gl,gc,gf,g1,g2,g3,apY,_,_,_,hgf,_⟩:=FP fi (i:=k) (by rw[<-fi.len];exact M);obtain⟨afp,afq⟩:=zJ zM;have Yj:=(FZ bg apX).trans apY;have afr:=(FZ q7 uo).trans iG;have RM:=apP (f:=i) hG;by_cases vJ:G.par=(i:Int)
     ·rw[iP vJ] at RM;obtain⟨ga,hga⟩:=zN hgf;subst hga;rw[vJ] at Yj;have hGl:G.fs.length<=1099511627776:=by
       rw[<-hS] at hG;obtain⟨F',g1,g2,_⟩:=Yb i hG;rw[g2];have g3:=hP7.fs F' (fD g1);exact cy (Nn g3.1 g3.2) D.Tl
      refine rn (uF @aq @U @f40 @afr @afp @afq @Yj) ?_;refine ef (λn fr K8=>apO K7 m.nx (vF (S.take k) i) G.fs n (fr 57) K8) (n:=G.fs.length) ⟨0,rfl,bR _,by(refine aM ?_;all_goals rfl),dr.refl _,by rw[vU,gY];exact NE⟩ ?_;rintro n3 tK K8 ⟨j,rfl,hj,f57,X,Yk⟩ ij;have X5:=X.nx;by_cases fK:j<G.fs.length
      ·obtain⟨r,Nt,er,_,NF,CT,hrs,ar7⟩:=aeP hgf fK;cases er;have apZ:=(X.ob r Om Om).trans ((FZ r NF).trans CT);obtain⟨oo,oW,nX⟩:=Yk.up G.fs[j] 1;have sb:G.fs.take (j+1)=G.fs.take j++ [G.fs[j]]:=pJ fK;repeat' (first | (simp (disch:=first | omega | (decide +kernel)) only[↓dx,↓jN,↓cE,↓pU,↓pW,↓ez,↓fj,↓fZ,↓c9,↓da,↓cM,↓dL,↓iB,↓aH,↓dA,↓aL,↓bf,cL,lj,↓di,↓jW,gh,mO,eU,pop,aD,bq,↓reduceIte,Nat.reduceEqDiff,gi,iP,fp,ba,fJ,U,ij,f57,apZ,hrs,oW]) | ((with_reducible first|apply aE|apply aF|apply aG)<;>intro _))
       refine⟨G.fs.length-(j+1),Om,j+1,rfl,fK,rfl,X.set (.inr rfl) _,?_⟩;rw[sb,<-List.append_assoc];exact Dx▸nX _ (by rw[br,iP rfl])
      have fK:j=G.fs.length:=by omega
      subst fK;rw[ng] at Yk;refine rn (jL @aq @U @ij @f40 @f57) ?_;exact⟨J.length-(k+1),Om,k+1,rfl,M,rfl,kA.trans X,by rw[RM];exact Yk⟩
     rw[iN vJ,gY] at RM;refine rn (qz @aq @U @f40 @afr @afp @afq @Yj @vJ) ?_;exact⟨J.length-(k+1),Om,k+1,rfl,M,rfl,kA,by rw[RM];exact NE⟩
    have M:k=J.length:=by omega
    subst M;rw[List.take_of_length_le (by rw[<-fi.len];exact ai _)] at NE;obtain⟨tk,sb⟩ : ∃tk,vF S i=tk:=⟨_,rfl⟩;rw[sb] at NE;have hF0:=hF;rw[<-hS] at hF0;obtain⟨F',g1,_,_,g4,g5,g6⟩:=Yb i hF0;have hFw:=I2 F' (fD g1);have hFe:=g6 (ai _);subst hFe;obtain⟨mi,fE,vz⟩:=hFw;have RN:=(FZ b gR).trans dX;have ap0:iQ K7 ow (i,1) vp F.ps:=hrp.mv ⟨Om,λ_ _=>rfl⟩ λy d _=>FZ y d;have dw:=apL ap0 mi;obtain⟨pa,rfl⟩:=zN hrp;obtain⟨la,rfl⟩:=zN wN;obtain⟨ca,rfl⟩:=zN p8;obtain⟨fa,rfl⟩:=zN yJ;refine rn (jz @aq @U @f40 @RN) ?_;refine dw.mono λv8 K8 ⟨X,hg8⟩=> ?_;have X5:=X.nx;have wU:=(X.ob b Om).trans RN;have ap1:iQ K8 ow (i,2) (.slice la F.ls.length F.ls.length) F.ls:=wN.mv ⟨Om,λ_ _=>rfl⟩ λy d _=>(X.ob y Om).trans (FZ y d);have JQ:=apQ ap1;repeat' (first | (simp (disch:=first | omega | (decide +kernel)) only[↓CL,↓CM,qG,nK,bT,↓cM,↓dL,↓iB,↓aH,↓aL,cL,pop,aD,↓reduceIte,Nat.reduceEqDiff,eZ,e9,ju,↓mP,kO,ba,mA,U,wU,JQ]) | ((with_reducible first|apply aE|apply aF|apply aG)<;>intro _))
    refine yS (A:=K7) (f:=fU) (xs:=F.ps) (ys:=F.ls) BI hg8 X Om Om rfl rfl λv9 K9 Yl RO RP _=> ?_;have oc9:=(RO.ob b Om).trans RN;obtain⟨I,Ym⟩ : ∃I,F.ps++F.ls=I:=⟨_,rfl⟩;have hNl:I.length<=2199023255552:=by rw[<-Ym,cG];omega
    rw[Ym] at Yl;obtain⟨na,rfl⟩:=afl Yl;have hm9:gM K9 m.nx (mf tk):=NE.ext (RO.ob _ Om);have qc : ∀y,y<m.nx->K9.ob y=m.ob y:=λy d=>(RO.ob y Om).trans (FZ y d);have F3 : ∀y,ow y≠some (i,3)->ir (.slice ca F.cs.length F.cs.length) y:=λy d=>p8.off d;have ar8:=RO.nx;repeat' (first | (simp (disch:=first | omega | (decide +kernel)) only[↓jN,↓cE,↓CL,↓KT,↓CM,↓KU,↓KW,↓KX,KY,KV,qG,nK,bT,↓cM,↓aH,↓aL,↓bf,cL,pop,aD,↓reduceIte,Nat.reduceEqDiff,eZ,e9,gZ,ju,RN,wU]) | ((with_reducible first|apply aE|apply aF|apply aG)<;>intro _))
    refine ef (λn fr C=>CeJ K9 m.nx b (.slice ca F.cs.length F.cs.length) tk I (λvc=> .cells [.string (tx F.nm), .int .i64 F.par, .slice pa F.ps.length F.ps.length, .slice la F.ls.length F.ls.length,vc, .slice fa F.fs.length F.fs.length, .bool F.gen, .map (some m1), .map (some m2), .map (some m3)] 75 .ex) n (fr 78) C) (n:=I.length) ⟨0,F.cs,_,rfl,bR _,by(refine aM ?_;all_goals rfl),ai _,λ_ _ _ _ _=>rfl,oc9,(p8.mv (cf:=ow) ⟨Om,λ_ _=>rfl⟩ λy d _=>qc y d).gr,by rw[vz,show(λy=>if y∈tk/\y∉([]:List Bs) then (1:Int) else 0)=mf tk from by funext y;simp[mf]];exact hm9, .inl ⟨rfl,vz,λ_ _ _ _=>rfl⟩,by rw[gI,vz],by rw[vz];exact ai _⟩ ?_;rintro n3 tK C ⟨k,cs,vc,rfl,hk,f78,ap2,RQ,I4,RR,Yn,Yo,F4,ar9⟩ ij;dsimp only at I4
    obtain⟨xa,hxa⟩:=afl RR;have ap3:ow m.nx=none:=Gt λh=>by have:=(mL _ h).2;omega
    have o9 : ∀y,m.nx<=y->ow y=none:=λy d=>Gt λh=>by have:=(mL _ h).2;omega
    have Yp : ∀y,y<K9.nx->ir (.slice ca F.cs.length F.cs.length) y->ir vc y:=λy d ho=>by
     rcases Yo with ⟨e,_⟩ | ⟨r,e,hr⟩
     ·rw[e];exact ho
     intro o n c e2;rw[e] at e2;cases e2;omega
    have ap4:ir vc b:=Yp b Om (F3 b (by rw[R];simp));have afs:ir vc m.nx:=Yp _ Om (F3 _ (by rw[ap3];simp));by_cases M:k<I.length
    ·obtain⟨rn,RT,er,ar',ap5,NF,_⟩ : ∃rn RT,na=some ⟨rn,0,none⟩/\K7.nx<=rn/\rn<K9.nx/\K9.ob rn= .cells (I.flatMap fU) 9 RT/\True:=by
      rcases Yl with ⟨h,_⟩ | ⟨rn,RT,e,h1,h2,h3,_⟩
      ·rw[h] at M;exact absurd M (fW _)
      cases e;exact⟨rn,RT,rfl,h1,h2,h3,trivial⟩
     subst er;have aft:=(RQ rn ap5 Om Om (F3 rn (by rw[o9 rn Om];simp))).trans NF;obtain⟨s,hsk⟩ : ∃s,I[k]? = some s:=⟨_,cj M⟩;obtain⟨xY,asa⟩:=Ns hsk;have jH:I.drop k=s::I.drop (k+1):=by
      obtain⟨_,e⟩:=List.getElem?_eq_some_iff.1 hsk;rw[List.drop_eq_getElem_cons M,e]
     rw[jH] at F4;have nE:=Yn.lk s;by_cases hc:s∈tk/\s∉cs
     ·rw[iP hc] at nE;have Yq:sh tk I []=sh tk (I.drop (k+1)) (cs++ [s]):=by rw[F4,sh,iP hc]
      obtain⟨oo,oW,nX⟩:=Yn.up s 0;have ue:b≠m.nx:=by omega
      have Yr:b<C.nx:=by omega
      repeat' (first | (simp (disch:=first | omega | (decide +kernel)) only[↓dx,↓jN,↓cE,↓ez,↓fj,↓fZ,↓c9,↓da,↓cM,↓dL,↓kj,↓iB,↓aH,↓dA,↓aL,↓bf,kf,bS,br,cL,lj,ki,↓di,↓jW,mO,jg,pop,aD,cq,bq,db,isVal,ci,c8,iw,dC,↓reduceIte,Nat.reduceEqDiff,reduceCtorEq,eZ,e9,bN,bZ,jD,kQ,pu,qx,kc,gI,gY,tB,tz,jt,jS,dv,Nat.reduceLeDiff,ai,tR,gi,↓mP,kO,iP,fp,ba,mA,fJ,and_true,U,ij,f78,aft,xY,nE,oW,I4,ue]) | ((with_reducible first|apply aE|apply aF|apply aG)<;>intro _))
      have ia : ∀y,y<C.nx->y≠m.nx->((C.set m.nx oo).new (.cells [.string (tx s)] 9 .ex)).ob y=C.ob y:=λy d hc=>by
       rw[bL (by show y≠C.nx;omega),cO hc]
      refine Di (A:=um 0) (bytes:=16) (f:=fU) (y:=s) BI (RR.nx (by show C.nx<=C.nx+1;omega) λy g1 g2 ⟨n',c',H⟩=>ia y g2 λe=>by subst e;exact afs _ _ _ H) Om Om rfl λN k1 k2 k3=> ?_;have k2:N.nx=C.nx+1+1:=k2;have Y : ∀y,y<C.nx->y≠m.nx->ir vc y->N.ob y=C.ob y:=λy d hc ho=>(k3 y (by show y<C.nx+1;omega) ho).trans (ia y d hc);have ap6:=(Y b Yr ue ap4).trans I4;repeat' (first | (simp (disch:=first | omega | (decide +kernel)) only[↓cE,↓pU,↓pW,↓ez,↓c9,↓da,↓cM,↓iB,↓aH,↓dA,↓aL,↓bf,jK,kf,cL,lj,↓di,gh,eU,pop,bq,isVal,a8,ci,↓reduceIte,Nat.reduceEqDiff,Nat.reduceAdd,bN,bZ,jD,rM,kc,gI,gZ,ju,qw,uB,pL,Kd.bY,jt,jS,Nat.reduceLeDiff,ba,mA,and_true,f78,ap6]) | ((with_reducible first|apply aE|apply aF|apply aG)<;>intro _))
      refine⟨I.length-(k+1),Om,k+1,cs++ [s], .slice (some ⟨C.nx+1,0,none⟩) (cs.length+1) (cs.length+1),rfl,M,rfl,by show K9.nx<=N.nx;omega,λy h1 h2 h3 h4=>(cO h2).trans ((Y y Om h3 (Yp y h1 h4)).trans (RQ y h1 h2 h3 h4)),by rw[br,iP rfl], .inr ⟨C.nx+1, .gr,Sm,by show 0<=_;omega,by show _<N.nx;omega,(cO Om).trans k1,rfl⟩,?_, .inr ⟨C.nx+1,Sm,Om⟩,Yq,Sq⟩;have O0:(λy=>if y=s then (0:Int) else if y∈tk/\y∉cs then 1 else 0)=λy=>if y∈tk/\y∉cs++ [s] then 1 else 0:=by
       funext y
       by_cases d:y=s
       ·simp[d]
       simp[d]
      exact O0▸nX _ (by rw[cO (uz ue),k3 _ (by show m.nx<C.nx+1;omega) afs,bL (by show m.nx≠C.nx;omega),br,iP rfl])
     rw[iN hc] at nE;have Yq:sh tk I []=sh tk (I.drop (k+1)) cs:=by rw[F4,sh,iN hc]
     repeat' (first | (simp (disch:=first | omega | (decide +kernel)) only[↓dx,↓jN,↓cE,↓pU,↓pW,↓ez,↓fj,↓fZ,↓oJ,↓c9,↓da,↓cM,↓dL,↓aH,↓aL,↓bf,cL,↓di,↓jW,gh,mO,jg,eU,pop,aD,↓reduceIte,Nat.reduceEqDiff,gi,oK,iP,fp,ba,fJ,U,ij,f78,aft,xY,nE]) | ((with_reducible first|apply aE|apply aF|apply aG)<;>intro _))
     exact⟨I.length-(k+1),Om,k+1,cs,_,rfl,M,rfl,ap2,RQ,I4,RR,Yn,Yo,Yq,Om⟩
    have M:k=I.length:=by omega
    subst M;rw[List.drop_length] at F4;have F4:sh tk I []=cs:=F4;obtain⟨vo,afu⟩ : ∃vo,vo=fr 8:=⟨_,rfl⟩;rw[<-afu] at kp BU;subst hxa;have ap7:=afu.symm;repeat' (first | (simp (disch:=first | omega | (decide +kernel)) only[↓dx,↓cE,↓KM,↓KN,↓KP,↓ez,↓fj,↓oJ,↓c9,↓da,↓cM,↓dL,↓kj,↓iB,↓aH,↓aL,bS,cL,ki,↓di,↓Kj,mO,pop,aD,cq,db,isVal,ci,c8,iw,dC,↓reduceIte,Nat.reduceEqDiff,Nat.reduceAdd,reduceCtorEq,bN,bZ,kQ,pu,qx,vU,gI,tB,jt,jS,dv,Nat.reduceLeDiff,ai,oK,↓mP,kO,iP,Nat.one_mul,ba,mA,true_and,and_true,U,ij,f78,I4,ap7,z7]) | ((with_reducible first|apply aE|apply aF|apply aG)<;>intro _))
    have ap8 : ∀o n c y,vo= .slice (some ⟨y,o,none⟩) n c->y<m.nx:=λo n c y H=>by
     rcases kp with ⟨_,e⟩ | ⟨r,kd,e,_,h,_⟩
     ·rw[e] at H;cases H
     rw[e] at H;cases H;exact h
    have Ys : ∀y,ow y≠none->ir vo y:=λy d o n c H=>d (BU o n c y H).1;have Yr:b<C.nx:=by omega
    have RW : ∀y,y<m.nx->y≠b->ir (.slice ca F.cs.length F.cs.length) y->C.ob y=m.ob y:=λy h1 h2 h3=>(RQ y Om h2 Om h3).trans (qc y h1);refine Di (A:=um 0) (bytes:=128) (f:=ql) (y:=⟨tx F.nm,F.par,pa,F.ps.length,la,F.ls.length,xa,cs.length,fa,F.fs.length,F.gen⟩) afh (kp.nx (by show m.nx<=C.nx+1;omega) λy g1 g2 ⟨n',c',H⟩=>(bL Om).trans (RW y g2 (λe=>by rw[e] at H;rw[(BU _ _ _ _ H).1] at R;cases R) (F3 y (by rw[(BU _ _ _ _ H).1];simp)))) Om Om rfl λN k1 k2 k3=> ?_;have k2:N.nx=C.nx+1+1:=k2;have k1:N.ob (C.nx+1)=_:=k1;have Y : ∀y,y<C.nx->ir vo y->N.ob y=C.ob y:=λy d ho=>(k3 y (by show y<C.nx+1;omega) ho).trans (bL Om);have DN : ∀y i' j,y<m.nx->ow y=some (i',j)->(i'≠i\/(j≠0/\j≠3))->N.ob y=m.ob y:=λy i' j h1 h2 h3=>(Y y Om (Ys y (by rw[h2];simp))).trans (RW y h1 (λe=>by rw[e,R] at h2;simp only[Option.some.injEq,Prod.mk.injEq] at h2;omega) (F3 y (by rw[h2];simp only[ne_eq,Option.some.injEq,Prod.mk.injEq];omega)));have O : ∃cf:Ow,pG ow cf m N/\(∀y,m.nx<=y->cf y≠none->K9.nx<=y/\y<C.nx)/\iQ N cf (i,3) (.slice xa cs.length cs.length) cs:=by
     rcases Yo with ⟨Z,e2,e3⟩ | ⟨r,Z,e2⟩
     ·refine⟨ow,⟨Om,λ_ _=>rfl⟩,λy h1 h2=>absurd (o9 y h1) h2,?_⟩;have h:=p8.mv (K':=N) (cf:=ow) ⟨Om,λ_ _=>rfl⟩ λy h1 h2=>(Y y Om (Ys y (by rw[h2];simp))).trans ((e3 y Om (λe=>by rw[e,R] at h2;simp at h2) Om).trans (qc y h1));rw[<-Z,vz] at h;rw[e2] at h⊢;exact h
     have ap9:=RR;rcases ap9 with ⟨_,h2⟩ | ⟨r2,kd,h2,_,h3,h4,h5⟩
     ·rw[h2] at Z;cases Z
     rw[h2] at Z;cases Z;refine⟨λy=>if y=r then some (i,3) else ow y,⟨Om,λy d=>iN Om⟩,λy h1 d=> ?_, .inr ⟨r,kd,h2,iP rfl,Om,(Y r h3 λo n c H=>by have:=ap8 o n c r H;omega).trans h4,h5⟩⟩;by_cases h:y=r
     ·subst h;exact⟨e2,h3⟩
     have d:(if y=r then some (i,3) else ow y)≠none:=d;rw[iN h] at d;exact absurd (o9 y h1) d
    obtain⟨cf,O,oF,afv⟩:=O;obtain⟨_,_,vp2,vl2,vc2,vf2,n1',n2',n3',Ll,hP⟩:=fi.get i F b hF hb;rw[dX] at Ll;simp only[dD.cells.injEq,List.cons.injEq,and_true,true_and] at Ll;obtain⟨rfl,rfl,rfl,rfl,rfl,rfl,rfl⟩:=Ll;have afw:(qT S i F).cs=cs:=by
     show sh (vF S i) (F.ps++F.ls) []=cs;rw[sb,Ym,F4]
    have rp:=hP.p.mv O λy h1 h2=>DN y _ _ h1 h2 (.inr de);have rl:=hP.l.mv O λy h1 h2=>DN y _ _ h1 h2 (.inr de);have rf:=hP.f.mv O λy h1 h2=>DN y _ _ h1 h2 (.inr de);have ap':jR true N cf (.slice (some ⟨q7,0,none⟩) J.length J.length) (fo S i (qT S i)) J:=by
     refine afo.aeX hF hb O (λy i' j h1 h2 h3 h4=>DN y i' j h1 h2 Om) ⟨(O.ow b gR).trans R,Om,_,_,_,_,_,_,_,((Y b Yr (Ys b (by rw[R];simp))).trans I4),⟨rp,rl,by rw[afw];exact afv,rf,hP.b.mv O λy h1 h2=>DN y _ _ h1 h2 (.inr de),hP.g.mv O λy h1 h2=>DN y _ _ h1 h2 (.inr de),hP.o.mv O λy h1 h2=>DN y _ _ h1 h2 (.inr de)⟩⟩
    repeat' (first | (simp (disch:=first | omega | (decide +kernel)) only[↓cE,↓pU,↓pW,↓ez,↓c9,↓da,↓cM,↓aH,↓aL,↓bf,jK,cL,↓di,gh,eU,pop,↓reduceIte,Nat.reduceEqDiff,U,ij,f32]) | ((with_reducible first|apply aE|apply aF|apply aG)<;>intro _))
    have asb:K.nx<=u.nx:=by have:=zI.nx;omega
    have CR:u.nx≠b:=λe=>by rw[<-e,hp] at R;cases R
    have asc:=(mL b (by rw[R];simp)).1;refine⟨J.length-(i+1),Om,i+1,cf,LL++ [⟨tx F.nm,F.par,pa,F.ps.length,la,F.ls.length,xa,cs.length,fa,F.fs.length,F.gen⟩],rfl,au,rfl,λy d=> ?_,(O.ow _ Yi).trans hp,(Y _ Om λo n c H=>(BU o n c _ H).2.2 rfl).trans ((RW _ Yi CR (F3 _ (by rw[hp];simp))).trans bC),by rw[n9,hS];exact ap',pF.trans ⟨Om,λy h1 h2 _=> ?_,λy d=> .inl d⟩, .inr ⟨C.nx+1, .gr,Sm,by show 0<=_;omega,Om,k1,rfl⟩,by simp[I3],λo n c y H=> ?_,λj L hL=> ?_⟩
    ·by_cases h:y<m.nx
     ·rw[O.ow y h] at d;have:=mL y d;omega
     have:=oF y Om d;omega
    ·exact(Y y Om λo n c H=>h2 (BU o n c y H).2.1).trans (RW y h1 Om (F3 y (by rw[show ow y=none from Gt λh=>h2 (mL y h).1];simp)))
    ·cases H;exact⟨Gt λh=>by have:=oF _ Om h;omega,Om,Om⟩
    rw[n9,hS];unfold fo;rw[xh];by_cases tP:j=i
    ·subst tP;rw[List.getElem?_append_right Om,I3,Nat.sub_self] at hL;cases hL;exact⟨qT S j F,by rw[hF];simp,_,_,_,_,rfl,rp,rl,by rw[afw];exact afv,rf⟩
    have fK:j<LL.length:=by
     have:=(List.getElem?_eq_some_iff.1 hL).1;simp at this;omega
    rw[List.getElem?_append_left fK] at hL;obtain⟨F2,hF2,Dz⟩:=dJ j L hL;exact⟨F2,by rw[hF2];simp[uz tP],Dz.mv O λy k h1 h2 h3=>DN y _ _ h1 h2 (.inl tP)⟩
   have au:i=J.length:=by omega
   subst au;refine rn (an @aq @f32) ?_;have hbS:J.length=st.length:=by
    obtain⟨_,_,_,_,_,_,_,h⟩:=uE;rw[h.len,afi]
   have xW:0<st.length:=by omega
   have aqa:ag K m:=⟨by have:=pF.nx;have:=Yh.nx;omega,λy d=>(pF.ob y (by have:=Yh.nx;omega) Om id).trans (Yh.ob y d)⟩;refine⟨aqa,?_⟩;rcases kp with ⟨hL0,_⟩ | ⟨r,kd,e8,_,hr,ho,jw⟩
   ·rw[hL0] at I3;simp at I3;omega
   obtain⟨v1,v2,_⟩:=BU 0 _ _ r e8;rw[e8,I3];rw[hbS] at dJ⊢
   have nQ:(st.mapIdx λf F=>qT st f F).length=st.length:=by simp
   refine⟨λy=>if y=r then some (0,20) else ow y,r,kd,LL,by rw[nQ],λy d=> ?_,iP rfl,ho,jw,by rw[nQ,I3,hbS],λj F L h1 h2=> ?_⟩
   ·by_cases h:y=r
    ·subst h;exact⟨v2,hr⟩
    have d:(if y=r then some (0,20) else ow y)≠none:=d;rw[iN h] at d;exact mL y d
   obtain⟨F',tm,hrv⟩:=dJ j L h2;rw[apN] at tm;rw[h1] at tm;cases tm;exact hrv.re λy j g _=>by
    show(if y=r then _ else ow y)=_;rw[iN (λe=>by rw[e,v1] at g;cases g),g]
end
section
mutual
def tp:Nd->List Bs
 | .mk _ _ x _ ks=>x::F6 ks
def F6:List Nd->List Bs
 | []=> []
 | n::ks=>tp n++F6 ks
end
mutual
theorem afx : ∀n:Nd,(tp n).length=cu n
 | .mk k l x o ks=>by simp only[tp,cu,bN,afy ks]
theorem afy : ∀ks:List Nd,(F6 ks).length=aZ ks
 | []=>rfl
 | n::ks=>by simp only[F6,aZ,cG,afx n,afy ks]
end
mutual
theorem afz{T:List Bs} : ∀n:Nd,(∀s∈tp n,s∈T)->vL T n
 | .mk k l x o ks,h=>⟨h x (by simp[tp]),afA ks λs hs=>h s (by simp[tp,hs])⟩
theorem afA{T:List Bs} : ∀ks:List Nd,(∀s∈F6 ks,s∈T)->qj T ks
 | [],_=>trivial
 | n::ks,h=>⟨afz n λs hs=>h s (by simp[F6,hs]),afA ks λs hs=>h s (by simp[F6,hs])⟩
end
theorem Yt{T:List Bs}(N:Nat):(∀t:Nd,fc t<N->vL T t->(∀s∈fG t,s∈T)/\(fG t).length<=cu t)/\(∀ks:List Nd,fc ks<N->qj T ks->(∀s∈eP ks,s∈T)/\(eP ks).length<=aZ ks):=by
 induction N with
 | zero=>exact⟨λ_ h=>absurd h (fW _),λ_ h=>absurd h (fW _)⟩
 | succ N a=>
   refine⟨λt b hT=> ?_,λks b hT=> ?_⟩
   ·obtain⟨k,l,x,o,ks⟩:=t;simp at b;rw[Dm];simp only[cu];split;·exact⟨λs hs=>by rw[nh] at hs;rw[hs];exact hT.1,Sm⟩
    split;·have h:=a.2 ks Om hT.2;exact⟨h.1,by have:=h.2;omega⟩
    exact⟨λs hs=>(by cases hs),bR _⟩
   cases ks with
   | nil=>exact⟨λs hs=>(by cases hs),ai _⟩
   | cons n ks=>
     simp at b;have h1:=a.1 n Om hT.1;have h2:=a.2 ks Om hT.2;simp only[eP,aZ];refine⟨λs hs=> ?_,by rw[cG];have:=h1.2;have:=h2.2;omega⟩;rcases List.mem_append.1 hs with hs | hs
     ·exact h1.1 s hs
     exact h2.1 s hs
theorem afB{T:List Bs} : ∀ {ks:List Nd},(∀n∈ks,vL T n)->qj T ks
 | [],_=>trivial
 | n::ks,h=>⟨h n Sm,afB λm a=>h m (by simp[a])⟩
def Bd (T:List Bs)(m:Nat)(L:List Bs):Prop:=(∀s∈L,s∈T)/\L.length<=m
theorem afC{T:List Bs}{e:Ev}(hT:vL T e.1):(∀s∈kz e,s∈T)/\(kz e).length<=cu e.1:=by
 obtain⟨⟨k,l,x,o,ks⟩,h⟩:=e;have a:(∀s∈fG (cV ks),s∈T)/\(fG (cV ks)).length<=aZ ks:=by
  cases ks with
  | nil=>exact⟨λs hs=>(by rw[cV,Dm] at hs;simp at hs),by rw[cV,Dm];simp⟩
  | cons n ks=>
    have h1:=(Yt (T:=T) (fc n+1)).1 n (fN _) hT.2.1;exact⟨h1.1,by simp only[aZ,cV];have:=h1.2;omega⟩
 have h1 : ∀s∈ [x],s∈T:=λs hs=>by rw[nh] at hs;rw[hs];exact hT.1
 show Bd T (aZ ks+1) (kz (.mk k l x o ks,h));unfold kz;show Bd T (aZ ks+1) (if k=3 then (if h.mb=true then [] else eP ks.dropLast) else if k=4\/k=7\/k=58 then fG (cV ks) else if k=19 then (if (cV ks).kind=36 then [(cV ks).text] else []) else if k=8 then (if h.mb=true then [] else [x]) else if k=9\/k=16\/k=21 then [x] else []);split
 ·split;·exact⟨λs hs=>(by cases hs),bR _⟩
  have hd:=(Yt (T:=T) (fc ks.dropLast+1)).2 ks.dropLast (fN _) (afB λn hn=>Np hT.2 (List.dropLast_subset ks hn));have hl:=(Yt (T:=T) (fc ks+1)).2 ks (fN _) hT.2;refine⟨hd.1,?_⟩;have h3:=ad4 (i:=ks.length-1) (ks:=ks);rw[<-List.dropLast_eq_take] at h3;have:=hl.2;omega
 split;·exact⟨a.1,by have:=a.2;omega⟩
 split
 ·split
  ·rename_i hk;refine⟨λs hs=> ?_,Sm⟩;cases ks with
   | nil=>cases hk
   | cons n ks=>
     rw[nh] at hs;rw[hs];obtain⟨nk,nl,nx,no,b⟩:=n;exact hT.2.1.1
  exact⟨λs hs=>(by cases hs),bR _⟩
 split
 ·split;·exact⟨λs hs=>(by cases hs),bR _⟩
  exact⟨h1,Sm⟩
 split;·exact⟨h1,Sm⟩
 exact⟨λs hs=>(by cases hs),bR _⟩
def zS (T:List Bs)(i:Nat)(F:al):Prop:=(-1<=F.par/\F.par<(i:Int))/\F.ps.length<=100000/\F.ls.Nodup/\(∀s∈F.ls,s∈T)/\F.cs= []/\F.fs= []
theorem afD{Q:Nat->al->Prop}{fns:List al}(h : ∀i F,fns[i]? = some F->Q i F){k:Nat}{u:al->al}(hu : ∀F,Q k F->Q k (u F)) : ∀i F,(fo fns k u)[i]? = some F->Q i F:=λi F a=>by
 unfold fo at a;rw[xh] at a;cases hg:fns[i]? with
 | none=>rw[hg] at a;simp at a
 | some G=>
   rw[hg] at a;by_cases b:k=i
   ·have e:u G=F:=by simpa[b] using a
    rw[<-e];subst b;exact hu G (h k G hg)
   have e:G=F:=by simpa[b] using a
   rw[<-e];exact h i G hg
theorem afE{T:List Bs}{i f:Nat} : ∀(xs:List Bs) (F:al),(∀s∈xs,s∈T)->zS T i F->zS T i (xs.foldl (yc f) F)
 | [],F,_,h=>h
 | s::xs,F,hx,h=>by
   rw[Gj];refine afE xs _ (λy hy=>hx y (by simp[hy])) ?_;unfold yc;split;·exact h
   rename_i hc;obtain⟨h1,h2,h3,h4,h5,a⟩:=h;refine⟨h1,h2,XU h3 λb=>hc (.inr (.inr (.inl b))),λy hy=> ?_,h5,a⟩;rcases List.mem_append.1 hy with hy | hy
   ·exact h4 y hy
   rw[nh] at hy;rw[hy];exact hx s Sm
theorem afF{T:List Bs} : ∀(es:List Ev) (fns:List al),(∀i F,fns[i]? = some F->zS T i F)->∀i F,(ui fns es)[i]? = some F->zS T i F
 | [],fns,h=>h
 | e::es,fns,h=>afF es _ (afD h λF a=>a)
theorem Yv{T:List Bs} : ∀(es:List Ev) (fns:List al),(∀e∈es,∀s∈kz e,s∈T)->(∀i F,fns[i]? = some F->zS T i F)->∀i F,(vE fns es)[i]? = some F->zS T i F
 | [],fns,_,h=>h
 | e::es,fns,hb,h=>Yv es _ (λe' he=>hb e' (by simp[he])) (afD h λF a=>afE _ F (hb e Sm) a)
theorem Yw{T:List Bs} : ∀(es:List Ev) (c:Nat),DH c es->(∀e∈es,jI 100000 e.1)->∀i F,((es.filter λe=>tf e.1).map MQ)[i]? = some F->zS T (c+i+1) F
 | [],c,_,_,i,F,h=>by simp at h
 | e::es,c,hp,hk,i,F,h=>by
   rw[Oa] at h;have d : ∀e'∈es,jI 100000 e'.1:=λe' he=>hk e' (by simp[he]);by_cases b:tf e.1=true
   ·rw[iP b,c8] at h;have a:=hp.2;rw[iP b] at a;cases i with
    | zero=>
      have j:MQ e=F:=by simpa using h
      rw[<-j];have m:(cV e.1.kids).kids.length<=100000:=by
       have q:=hk e Sm;obtain⟨⟨k,l,x,o,ks⟩,w⟩:=e;cases ks with
       | nil=>exact bR _
       | cons n ks=>
         obtain⟨nk,nl,nx,no,g⟩:=n;have h3:2*g.length<=100000+16:=q.2.1.1;show g.length<=100000;omega
      exact⟨⟨by show(-1:Int)<=(e.2.f:Int);omega,by show(e.2.f:Int)<_;have:=hp.1;omega⟩,by show(List.map _ _).length<=_;rw[eR];exact m, .nil,λs hs=>(by cases hs),rfl,rfl⟩
    | succ i=>
      have:=Yw (T:=T) es (c+1) a d i F (by simpa using h);rw[show c+(i+1)+1=c+1+i+1 by omega];exact this
   rw[iN b] at h;have a:=hp.2;rw[iN b,mA] at a;exact Yw es c a d i F h
theorem aqb{T:List Bs}{es:List Ev}(hp:DH 0 es)(hk : ∀e∈es,jI 100000 e.1) : ∀i F,(kT es)[i]? = some F->zS T i F:=λi F h=>by
 unfold kT at h;cases i with
 | zero=>
   have e:sg=F:=by simpa using h
   rw[<-e];exact⟨⟨de,de⟩,de, .nil,λs hs=>(by cases hs),rfl,rfl⟩
 | succ i=>
   have:=Yw (T:=T) es 0 hp hk i F (by simpa using h);rw[ba] at this;exact this
theorem aqc{Pr:al->Prop}(hp : ∀F x,Pr F->Pr { F with fs:=x })(N:Nat):(∀(t:Nd) (st:List al×Nat) (f:Nat) (mb:Bool),fc t<N->nS t->(∀F∈st.1,Pr F)->∀F∈(cD st f mb t).1,Pr F)/\(∀(ks:List Nd) (st:List al×Nat) (f:Nat),fc ks<N->lz ks->(∀F∈st.1,Pr F)->∀F∈(mr st f ks).1,Pr F)/\(∀(ks:List Nd) (st:List al×Nat) (f:Nat),fc ks<N->lz ks->(∀F∈st.1,Pr F)->∀F∈(jq st f ks).1,Pr F):=by
 have e : ∀(st:List al) (f:Nat) (x:Bs),(∀F∈st,Pr F)->∀F∈eQ st f x,Pr F:=λst f x h F d=>by
  unfold eQ at d;rcases XT d with h1 | ⟨G,h1,rfl⟩
  ·exact h F h1
  split;·exact h G h1
  exact hp G _ (h G h1)
 have u : ∀(xs:List Bs) (F:al),Pr F->Pr (xs.foldl nT F):=λxs=>by
  induction xs with
  | nil=>exactλF h=>h
  | cons s xs i=>
    intro F h;rw[Gj];refine i _ ?_;unfold nT;split;·exact h
    exact hp F _ h
 have w : ∀(st:List al) (f g:Nat),(∀F∈st,Pr F)->∀F∈zx st f g,Pr F:=λst f g h F d=>by
  unfold zx at d;rcases XT d with h1 | ⟨G,h1,rfl⟩
  ·exact h F h1
  exact u _ _ (h G h1)
 induction N with
 | zero=>exact⟨λ_ _ _ _ h=>absurd h (fW _),λ_ _ _ h=>absurd h (fW _),λ_ _ _ h=>absurd h (fW _)⟩
 | succ N i=>
   obtain⟨i1,i2,i3⟩:=i;refine⟨λt st f mb c hc hs=> ?_,λks st f c hc hs=> ?_,λks st f c hc hs=> ?_⟩
   ·obtain⟨k,l,x,o,ks⟩:=t;by_cases m:k=17
    ·subst m;rw[Nr];exact hs
    by_cases j:k=8\/k=50
    ·have h2:ks.length=2:=hc.1.1 (.inr j);match ks,h2 with
     | [p,b],_=>
       simp at c;rw[Rt j];refine w _ _ _ (i1 b _ _ _ Om hc.2.2.1 ?_);show ∀F∈(if k=8/\mb=false then eQ st.1 f x else st.1),Pr F;split;·exact e _ _ _ hs
       exact hs
    by_cases q:k=9
    ·subst q;have h2:ks.length=2:=hc.1.1 (.inl rfl);match ks,h2 with
     | [a, .mk bk bl bx bo bs],_=>
       simp at c;rw[IR];exact i3 bs _ f Om hc.2.2.1.2 (i1 a _ f false Om hc.2.1 (e _ _ _ hs))
    rw[Ru m j q];simp at c;refine i2 ks _ f Om hc.2 ?_;split;·exact e _ _ _ hs
    exact hs
   ·cases ks with
    | nil=>rw[IT];exact hs
    | cons n ks=>
      simp at c;rw[IS];exact i2 ks _ f Om hc.2 (i1 n st f false Om hc.1 hs)
   cases ks with
   | nil=>rw[FU];exact hs
   | cons n ms=>
     simp at c;by_cases hn:n.kind=3/\2<=n.kids.length
     ·obtain⟨k,l,x,o,ks⟩:=n;obtain⟨rfl,h2⟩:k=3/\2<=ks.length:=hn;match ks,h2 with
      | p::v::r,_=>
        simp at c;rw[IU];exact i3 ms _ f Om hc.2 (i1 v st f false Om hc.1.2.2.1 hs)
     rw[IV hn];exact i3 ms _ f Om hc.2 (i1 n st f true Om hc.1 hs)
theorem aqd{ks:List Nd}{n:Nd}(h:n∈ks):cu n<=aZ ks:=by
 induction ks with
 | nil=>cases h
 | cons m ks a=>
   simp only[aZ];rcases List.mem_cons.1 h with rfl | h
   ·omega
   have:=a h;omega
theorem ckH{t:Nd}(hh:eX t<=1000)(g:nS t)(hz:cu t<=100000000)(hk:jI 100000 t)(hx:qS 2199023255552 t):NA (tp t) 100000 t:=by
 have hT:vL (tp t) t:=afz t λs hs=>hs;have w:(tp t).length<=100000000:=by rw[afx];exact hz
 have hv:=(apr (P:=λn=>jI 100000 n/\qS 2199023255552 n/\vL (tp t) n/\cu n<=100000000) (λk l x o ks h n hn=>⟨Iy h.1.2 hn,Q6 h.2.1.2 hn,Np h.2.2.1.2 hn,by have h1:=aqd hn;have h2:aZ ks+1<=100000000:=h.2.2.2;omega⟩) (fc t+1)).1 t 0 gL (fN _) g ⟨hk,hx,hT,hz⟩ (ai _);obtain⟨h1,h2,h3,h4⟩:=hv;have hb : ∀e∈(bu 0 gL t).1,∀s∈kz e,s∈tp t:=λe he=>(afC (h4 e he).2.2.1).1;have hA:=aqb (T:=tp t) h2 λe he=>(h4 e he).1;have d:=afF (bu 0 gL t).1 _ hA;have r:=Yv (bu 0 gL t).1 _ hb d;have j:(kT (bu 0 gL t).1).length=1+vM (bu 0 gL t).1:=by unfold kT vM;rw[bN,eR];omega
 have B:vM (bu 0 gL t).1<=(bu 0 gL t).1.length:=List.length_filter_le _ _;have m : ∀ {i F},zS (tp t) i F->F.ls.length<=100000000:=λh=>cy (Nn h.2.2.1 h.2.2.2.1) w;have q : ∀F∈jp (bu 0 gL t).1,∃i,zS (tp t) i F:=λF b=>by
  obtain⟨i,hi,e⟩:=Gm b;exact⟨i,r i F (by rw[<-e];exact cj hi)⟩
 have y : ∀(es:List Ev) (c:Nat),DH c es->∀e∈es,e.2.f<=c+vM es:=λes=>by
  induction es with
  | nil=>exactλc _ e he=>by cases he
  | cons a es z=>
    intro c h e he;rw[X0];rcases List.mem_cons.1 he with rfl | he
    ·have:=h.1;omega
    have:=z _ h.2 e he;omega
 refine⟨hh,g,Om,de,Om,λe he=>(h4 e he).1,λe he=> ?_,λF b=> ?_,λF b=> ?_,λpre e rest F u b=> ?_,λe he=>(h4 e he).2.1,Om,hT,?_,?_,?_,?_⟩;·have:=y _ 0 h2 e he;rw[j];omega
 ·obtain⟨i,hi⟩:=q F b;exact⟨by have:=hi.2.1;omega,by have:=m hi;omega,hi.2.2.2.2⟩
 ·obtain⟨i,hi,e⟩:=Gm b;have:=(hA i F (by rw[<-e];exact cj hi)).2.1;omega
 ·have v:e∈(bu 0 gL t).1:=by rw[<-u];simp
  have hi:=Yv pre _ (λe' A=>hb e' (by rw[<-u];simp[A])) d _ F b;have C:=m hi;have D:=(afC (h4 e v).2.2.1).2;have E:=(h4 e v).2.2.2;omega
 ·exact⟨λi F b=>(r i F b).1,by rw[RI,j];omega,λF b=>by
   obtain⟨i,hi⟩:=q F b;rw[hi.2.2.2.2.2];exact⟨.nil,λs hs=>by cases hs⟩⟩
 ·rw[RI,j];omega
 ·exact(aqc (Pr:=λF=>F.ps.length<=1099511627776/\F.ls.length<=1099511627776/\F.cs= []) (λF x h=>h) (fc t+1)).1 t _ 0 false (fN _) g λF b=>by
   obtain⟨i,hi⟩:=q F b;exact⟨by have:=hi.2.1;omega,by have:=m hi;omega,hi.2.2.2.2.1⟩
 have h5:=(aps (fc t+1)).1 t (jp (bu 0 gL t).1,0) 0 false 0 gL (fN _) g (ai _);rw[h1] at h5;rw[RI,j];omega
end
section
open Go Go.RowKit
def cmp (k:Nat):Prop:=k=55\/k=56\/k=57
instance (k:Nat):Decidable (cmp k):=inferInstanceAs (Decidable (_\/_))
abbrev aqe(t:Nd):Nd:=(dy cP 0 t).1
end
section
mutual
def F8:Nd->Prop
 | .mk k _ x _ ks=>x.length<=20000/\(k=7->ks.length=3)/\tr ks
def tr:List Nd->Prop
 | []=>True
 | n::ks=>F8 n/\tr ks
end
theorem aqf(k:Int):H7 k=7->False:=by
 unfold H7
 (repeat' split)<;>decide
theorem RY : ∀ {a b:List Nd},tr (a++b)↔tr a/\tr b
 | [],b=>by simp[tr]
 | n::a,b=>by simp only[gZ,tr,RY,and_assoc]
def TB:PR->Prop
 | some (.ok (l,j))=>tr l
 | _=>True
theorem NG{c:Prop}[Decidable c]{a b:PR}(h1:TB a)(h2:TB b):TB (if c then a else b):=by
 split;·exact h1
 exact h2
theorem aqg{ts:List PT}{s:List UInt8}{i:Nat}{k:Nat->PR}(h:TB (k (i+1))):TB (gW ts s i k):=NG h trivial
theorem aqh{ts:List PT}(a : ∀i,(aC ts i).text.length<=20000){kd:Int}{i:Nat}{k:List UInt8->Nat->PR}(h : ∀x,x.length<=20000->TB (k x (i+1))):TB (mS ts kd i k):=NG (h _ (a i)) trivial
theorem afG{r:PR}{k:List Nd->Nat->PR}(h:TB r)(hk : ∀l j,tr l->TB (k l j)):TB (pb r k):=by
 match r,h with
 | none,_=>exact trivial
 | some (.error e),_=>exact trivial
 | some (.ok (l,j)),h=>exact hk l j h
theorem RZ{r:PR}{k:Nd->Nat->PR}(h:TB r)(hk : ∀n j,F8 n->TB (k n j)):TB (bG r k):=afG h λl j h2=>by
 match l,h2 with
 | [],_=>exact trivial
 | _::_::_,_=>exact trivial
 | [n],h2=>exact hk n j h2.1
theorem aqi{e:Nat}:TB (some (.error e)):=trivial
theorem aqj{j:Nat}{l:List Nd}(h2:tr l):TB (some (.ok (l,j))):=h2
theorem Yy{j:Nat}{n:Nd}(h2:F8 n):TB (bV n j):=⟨h2,trivial⟩
def NT.tx:NT->Prop
 | .names k _ acc=>k≠7/\tr acc
 | .params _ _ acc | .row _ acc | .wJ _ acc | .clauses acc | .zf _ acc | .placesL _ acc | .mg _ acc | .zg acc | .p9 acc | .top acc | .sV _ acc=>tr acc
 | .cmpL n acc=>F8 n/\tr acc
 | .Bg n | .Bh n | .zd n | .wK n | .xN n | .index n=>F8 n
 | .maybe k _ _=>k≠7
 | _=>True
def aqk (ts:List PT)(f:Nat):Prop:=∀a i,a.tx->TB (gr ts f a i)
theorem afH{ts:List PT}{p:Nat}{A:PR}{B:Nat->Nat->PR}(hA:TB A)(a : ∀op j,TB (B op j)):TB (match ji ts p with | .error e=>some (.error e) | .ok (0,_)=>A | .ok (op+1,j)=>B op j):=by
 match ji ts p with
 | .error e=>exact trivial
 | .ok (0,_)=>exact hA
 | .ok (op+1,j)=>exact a op j
theorem aql{ts:List PT}(e : ∀i,(aC ts i).text.length<=20000) : ∀f,aqk ts f:=by
 intro f;induction f with
 | zero=>intro a i h;exact trivial
 | succ f b=>
 have c : ∀(all:Bool) i,TB (gr ts f (if all=true then .exprs else .expr) i):=λall i=>by
  cases all;·exact b .expr i trivial
  exact b .exprs i trivial
 have h1 : ∀a i,a.tx->TB (gr ts f a i):=b;intro a i ha;cases a;case mg l acc=>
  simp only[gr];refine NG ?_ (Yy ⟨bR _,λh=>absurd h de,ha⟩);cases g:acc.getLast? with
  | none=>exact trivial
  | some n=>exact NG (RZ (b .value (i+1) trivial) λv j hv=>b _ _ (RY.2 ⟨ha,hv,trivial⟩)) trivial
 case cmpL n acc=>
  obtain⟨hn,d⟩:=ha;simp only[gr];refine afH (Yy ?_) λop j=>RZ (b .arith j trivial) λm k c=>b _ _ ⟨hn,RY.2 ⟨d,⟨bR _,λh=>absurd h de,c,trivial⟩,trivial⟩⟩;split;·exact hn
  exact⟨bR _,λh=>absurd h de,hn,d⟩
 all_goals simp only[NT.tx] at ha
 all_goals simp only[gr]
 all_goals (repeat' first
  | exact aqi
  | (with_reducible refine NG ?_ ?_)
  | (with_reducible refine afH ?_ λop j=> ?_)
  | (with_reducible refine aqg ?_)
  | (with_reducible refine aqh e λx hx=> ?_)
  | (with_reducible refine RZ (c _ _) λn j hn=> ?_)
  | (with_reducible refine RZ (h1 _ _ ?_) λn j hn=> ?_)
  | (with_reducible refine afG (h1 _ _ ?_) λl j hl=> ?_)
  | (with_reducible refine Yy ?_)
  | (with_reducible refine aqj ?_)
  | (with_reducible refine h1 _ _ ?_)
  | (with_reducible assumption)
  | exact True.intro
  | exact bR _
  | decide
  | exact e _
  | exact aqf _
  | (obtain⟨d,o⟩:=ha)
  | (simp only[NT.tx,tr,F8,RY,and_true,true_and,ne_eq,bZ,bR,bN,implies_true,Nat.reduceEqDiff,Nat.reduceAdd,reduceCtorEq,not_false_eq_true,false_implies])
  | (refine⟨?_,?_⟩)
  | (intro q;omega))
theorem Yz{q:Nat} : ∀ {f:Nat} {l s:List UInt8} {n:Nat},mE q f l=some (s,n)->s.length<=n
 | 0,_,_,_,h=>by cases h
 | f+1,l,s,n,h=>by
   simp only[mE] at h;split at h;·cases h;simp
   split at h;·cases h
   split at h;·rw[nf] at h;obtain⟨⟨y,m⟩,h1,h2⟩:=h;cases h2;have:=Yz h1;simp only[bN];omega
   split at h;·rw[nf] at h;obtain⟨⟨y,m⟩,h1,h2⟩:=h;cases h2;have:=Yz h1;simp only[bN];omega
   cases h
theorem aqm{l:List UInt8}{k n:Nat}{x:List UInt8}(h:mF l=some (k,x,n)):x.length<=l.length:=by
 have hn:=(Ld h).2;unfold mF at h;split at h;·cases h;rw[kW];omega
 split at h
 ·split at h;·cases h
  cases h;rw[kW];omega
 split at h;·rw[nf] at h;obtain⟨⟨y,m⟩,h1,h2⟩:=h;cases h2;have:=Yz h1;simp only at hn⊢;omega
 rw[nf] at h;obtain⟨m,h1,h2⟩:=h;cases h2;rw[kW];omega
theorem afI{line:Nat} : ∀ {f:Nat} {t:List UInt8} {d d':Nat} {x:List Tok},nj line f t d=some (x,d')->∀y∈x,y.text.length<=t.length
 | 0,_,_,_,_,h=>by cases h
 | f+1,t,d,d',x,h=>by
   simp only[nj] at h;split at h;·cases h;intro y a;cases a
   cases ht:mF (t.drop (du t)) with
   | none=>rw[ht] at h;cases h
   | some z=>
     obtain⟨k,y,n⟩:=z;rw[ht] at h;simp only at h;rw[nf] at h;obtain⟨⟨w,e⟩,h1,h2⟩:=h;cases h2;have h3:=aqm ht;have h4:=afI h1;intro v hv;rcases List.mem_cons.1 hv with rfl | hv
     ·simp only[lB] at h3⊢;omega
     have:=h4 v hv;simp only[lB] at this;omega
theorem aqn{line d d':Nat}{t:List UInt8}{st bB:List Nat}{x:List Tok}(h:lR line t d st= .ok (x,d',bB)) : ∀y∈x,y.text.length<=t.length:=by
 unfold lR at h;split at h;·cases h;intro y hy;cases hy
 split at h;·cases h
 split at h;·cases h
 rename_i ts d1 ht;cases h;intro y hy;simp only[gu] at hy;rcases hy with (hy | hy) | hy
 ·split at hy
  ·unfold kD at hy;split at hy;·simp at hy;rw[hy];simp
   rw[YZ hy];simp
  cases hy
 ·exact afI ht y hy
 split at hy;·simp at hy;rw[hy];simp
 cases hy
theorem afJ{B:Nat} : ∀ {ts:List (List UInt8)} {line d:Nat} {st bB:List Nat} {x:List Tok},kE line ts d st= .ok (x,bB)->(∀t∈ts,t.length<=B)->∀y∈x,y.text.length<=B
 | [],line,d,st,bB,x,h,_=>by cases h;intro y hy;cases hy
 | t::ts,line,d,st,bB,x,h,c=>by
   rw[HA] at h;cases a:lR line t d st with
   | error e=>rw[a] at h;cases h
   | ok q=>
     obtain⟨i,d1,g⟩:=q;rw[a] at h;simp only at h;cases b:kE (line+1) ts d1 g with
     | error e=>rw[b] at h;cases h
     | ok w=>
       rw[b] at h;cases h;intro y hy;rcases List.mem_append.1 hy with hy | hy
       ·exact cy (aqn a y hy) (c t Sm)
       exact afJ b (λu hu=>c u (by simp[hu])) y hy
theorem afK{t:List UInt8} : ∀ {ts:List (List UInt8)},t∈ts->t.length+ts.length<=(ts.map List.length).sum+ts.length
 | a::ts,h=>by
   rcases List.mem_cons.1 h with rfl | h
   ·simp only[c8,Jp];omega
   have:=afK h;simp only[c8,Jp,bN];omega
theorem aqo{src:List UInt8}{ts:List Tok}(h:lC src= .ok ts) : ∀y∈ts,y.text.length<=20000:=by
 unfold lC at h;split at h;·cases h
 cases a:kE 1 (iI src) 0 [0] with
 | error e=>rw[a] at h;cases h
 | ok w=>
   obtain⟨x,st⟩:=w;rw[a] at h;cases h;have h2:=Pw (src:=src);intro y hy;rcases List.mem_append.1 hy with hy | hy
   ·refine afJ a (λt ht=> ?_) y hy;have h3:=afK ht;have h4:0<(iI src).length:=List.length_pos_of_mem ht;omega
   unfold D4 at hy;rcases List.mem_append.1 hy with hy | hy
   ·rw[YZ hy];simp
   simp at hy;rw[hy];simp
theorem aqp{ts:List PT}(h : ∀t∈ts,t.text.length<=20000)(i:Nat):(aC ts i).text.length<=20000:=by
 unfold aC;split;·rename_i t ht;exact h t (fD ht)
 split;·exact bR _
 exact bR _
mutual
theorem aqq : ∀n:Nd,F8 n->zo n
 | .mk k l x o ks,h=>⟨cy h.1 Om,YA ks h.2.2⟩
theorem YA : ∀ks:List Nd,tr ks->BD ks
 | [],_=>trivial
 | n::ks,h=>⟨aqq n h.1,YA ks h.2⟩
end
def YB (t:Nd):Prop:=jI 100000 t/\eX t<=1000/\cu t<=1125899906842624/\zo t
theorem afL(src:List UInt8):YB (iE src).1:=by
 have hz:YB wL:=⟨⟨bR _,trivial⟩,de,de,⟨bR _,trivial⟩⟩;unfold iE;cases d:lC src with
 | error y=>exact hz
 | ok ts=>
   have b:=UO d;have i:=aqo d;show YB (l8 (ts.map qd)).1;generalize g:ts.map qd=a;have m:a.length<=100000:=by rw[<-g,eR];exact b
   have c : ∀t∈a,t.text.length<=20000:=by
    rw[<-g];intro t ht;obtain⟨y,k,rfl⟩:=List.mem_map.1 ht;exact i y k
   have h1:=aql (aqp c) (a.length*64+100) (.top []) 0 trivial;have h2:=Qo (ts:=a) (a.length*64+100) (.top []) 0 (by first | trivial | simp[NT.jX]) (bR _) (by simp only[NT.lF];omega);have h3:=Bj (ts:=a) (a.length*64+100) (.top []) 0 (by first | trivial | simp[NT.jX]) (bR _) (by simp only[NT.lF];omega);have h4:=anp (ts:=a) (a.length*64+100) (.top []) 0 ⟨trivial,Sm⟩;unfold l8;generalize gr a (a.length*64+100) (.top []) 0=r at h1 h2 h3 h4;match r,h1,h2,h3,h4 with
   | none,_,_,_,_=>exact hz
   | some (.error e),_,_,_,_=>exact hz
   | some (.ok (l,j)),h1,h2,h3,h4=>
     simp only;split;·exact hz
     have h5:aZ l+64*0+0<=0+64*j+0:=h2;have n:j<=a.length:=h3.2.1;refine⟨⟨?_,WB h4.2.1 Om⟩,?_,?_,⟨bR _,YA _ h1⟩⟩;·have:=h4.2.2;omega
     ·show gk l+1<=1000;omega
     show aZ l+1<=_;omega
theorem vN{a b:List Nd}:qe (a++b)↔qe a/\qe b:=by simp only[qe,gu];exact⟨λh=>⟨λn hn=>h n (.inl hn),λn hn=>h n (.inr hn)⟩,λh n hn=>hn.elim (h.1 n) (h.2 n)⟩
theorem vO{n:Nd}{b:List Nd}:qe (n::b)↔eK n/\qe b:=by simp only[qe,mD,forall_eq_or_imp]
theorem vP:qe []:=λn hn=>by cases hn
theorem I5{a b:List Nd}:vC (a++b)↔vC a/\vC b:=by simp only[vC,gu];exact⟨λh=>⟨λn hn=>h n (.inl hn),λn hn=>h n (.inr hn)⟩,λh n hn=>hn.elim (h.1 n) (h.2 n)⟩
theorem I6{n:Nd}{b:List Nd}:vC (n::b)↔(n.kind=58\/n.kind=59)/\vC b:=by simp only[vC,mD,forall_eq_or_imp]
theorem I7:vC []:=λn hn=>by cases hn
theorem I8{a b:List Nd}:s9 (a++b)↔s9 a/\s9 b:=by simp only[s9,gu];exact⟨λh=>⟨λn hn=>h n (.inl hn),λn hn=>h n (.inr hn)⟩,λh n hn=>hn.elim (h.1 n) (h.2 n)⟩
theorem I9{n:Nd}{b:List Nd}:s9 (n::b)↔n.kind=36/\s9 b:=by simp only[s9,mD,forall_eq_or_imp]
theorem Ja:s9 []:=λn hn=>by cases hn
theorem uv : ∀ {a b:List Nd},kq (a++b)=(kq a&&kq b)
 | [],b=>by simp[kq]
 | n::a,b=>by simp only[gZ,kq,uv,Bool.and_assoc]
theorem vQ{k:Nat}{l:Int}{x:List UInt8}{o:Nat}{ks:List Nd}:mY (.mk k l x o ks)↔gm k x o ks/\fB ks:=eM
theorem sk{k:Nat}{l:Int}{ks:List Nd}:nd k l ks= .mk k l [] 0 ks:=rfl
theorem uw{k:Nat}{l:Int}{x:List UInt8}{o:Nat}{ks:List Nd}:eK (.mk k l x o ks)↔30<=k/\k<=57/\k≠43/\k≠48:=eM
theorem vR{k:Nat}{l:Int}{x:List UInt8}{o:Nat}{ks:List Nd}:(Nd.mk k l x o ks).kind=k:=rfl
def wY(ts:List PT):Prop:=∀(i:Nat) (k:Nat),(aC ts i).kind=k->4<=k->k<=7->qP k (aC ts i).text
theorem wZ{n:Nd}:xE [n]↔mY n/\eK n:=⟨λ⟨m,e,h⟩=>by cases e;exact h,λh=>⟨n,rfl,h⟩⟩
theorem YC{n:Nd}:xP [n]↔mY n/\eK n/\gK n=true:=⟨λ⟨m,e,h⟩=>by cases e;exact h,λh=>⟨n,rfl,h⟩⟩
theorem R0{n:Nd}:xV [n]↔mY n/\vK n:=⟨λ⟨m,e,h⟩=>by cases e;exact h,λh=>⟨n,rfl,h⟩⟩
theorem DO{n:Nd}:xS [n]↔mY n/\sK n:=⟨λ⟨m,e,h⟩=>by cases e;exact h,λh=>⟨n,rfl,h⟩⟩
theorem BY{k:Nat}{n:Nd}:xK k [n]↔mY n/\n.kind=k:=⟨λ⟨m,e,h⟩=>by cases e;exact h,λh=>⟨n,rfl,h⟩⟩
theorem sn{k:Nat}{l:Int}{x:List UInt8}{o:Nat}{ks:List Nd}:sK (.mk k l x o ks)↔2<=k/\k<=20:=eM
theorem R4{P Q:List Nd->Prop}{r:PR}(h:TW P r)(a : ∀l,P l->Q l):TW Q r:=by
 match r,h with
 | none,_=>exact trivial
 | some (.error e),_=>exact trivial
 | some (.ok (l,j)),h=>exact a l h
theorem R5{ts:List PT}(a:wY ts){i:Nat}{P:List Nd->Prop}{k:List UInt8->Nat->PR}(h : ∀x,qP 4 x->TW P (k x (i+1))):TW P (mS ts 4 i k):=QY λhk=>h _ (a i 4 hk Om Om)
theorem aqr(ts:List PT)(i:Nat):jZ ts i<=7:=by
 unfold jZ
 (repeat' split)<;>omega
section
variable {ts:List PT} {f:Nat}
theorem aqs(e:wY ts)(c:zt ts f)(i:Nat)(h:NT.ly ts i .plain):TW (NT.out ts i .plain) (gr ts (f+1) .plain i):=by
 have h1 : ∀a i,a.ly ts i->TW (a.out ts i) (gr ts f a i):=c;simp only[gr];refine ug (h1 .exprs i trivial) λn j hn=> ?_;have hn:=wZ.1 hn;refine qh (λhc=>R4 (h1 (.mg n.line [n]) j ⟨⟨hn.1,trivial⟩,⟨[],n,rfl, .inl hn.2,λm b=>by cases b⟩, .inr hc⟩) λl hl=>hl) λhc=>qh (λd=>vD ?_) λd=>qh (λhs=>ug (h1 .exprs _ trivial) λm k b=>vD ?_) λ_=>Fx
 ·clear h1 c;refine DO.2 ?_;simp_all [sk,vQ,fB,qg,gm,uw,sn,vR,vK,vN,vO,vP,kq,uv,gK,and_assoc,yb,gu,nh,or_imp,forall_and,forall_eq]
 clear h1 c;have b:=wZ.1 b;refine DO.2 ?_;have ha:=aqr ts j;have hb:1<=jZ ts j:=by omega
 clear d;simp_all [sk,vQ,fB,qg,gm,uw,sn,vR,vK,vN,vO,vP,kq,uv,gK,and_assoc,yb,gu,nh,or_imp,forall_and,forall_eq]
theorem aqt(c:wY ts)(b:zt ts f)(acc:List Nd)(i:Nat)(h:NT.ly ts i (.clauses acc)):TW (NT.out ts i (.clauses acc)) (gr ts (f+1) (.clauses acc) i):=by
 have h1 : ∀a i,a.ly ts i->TW (a.out ts i) (gr ts f a i):=b;rcases acc with _ | ⟨d,acc⟩
 all_goals simp only[gr]
 all_goals repeat' (first
  | exact Fx
  | with_reducible refine qh (λhc=> ?_) (λhc=> ?_)
  | with_reducible refine Fw ?_
  | with_reducible refine R5 c λx hx=> ?_
  | with_reducible refine QY λhk=> ?_
  | with_reducible refine ug (h1 _ _ ?_) λn j hn=> ?_
  | with_reducible refine QZ (h1 _ _ ?_) λl j hl=> ?_
  | with_reducible refine vD ?_
  | with_reducible refine MK ?_
  | with_reducible refine R4 (h1 _ _ ?_) λl hl=> ?_)
 all_goals clear h1 b
 all_goals simp only[NT.out,NT.ly,wZ,YC,R0,DO,BY] at *
 all_goals first | assumption | trivial | (simp_all [sk,vQ,fB,qg,gm,uw,sn,vR,vK,vN,vO,vP,I5,I6,I7,I8,I9,Ja,kq,uv,gK,and_assoc,QX,gu,nh,or_imp,forall_and,forall_eq,Fv,Nd.kind];done) | (simp_all [sk,vQ,fB,qg,gm,uw,sn,vR,vK,vN,vO,vP,I5,I6,I7,I8,I9,Ja,kq,uv,gK,Fv,Nd.kind];done) | (obtain⟨n,rfl,g1,g2⟩:=hl;refine⟨n,rfl,g1,?_⟩;first | (show 2<=n.kind/\n.kind<=20;omega) | exact .inl g2 | exact .inr g2) | exact⟨_,[],rfl,⟨hn.1,trivial⟩,hn.2,λn hn=>(by cases hn),λn hn=>(by cases hn)⟩ | skip
theorem aqu(c:wY ts)(b:zt ts f)(k:Nat)(l:Int)(acc:List Nd)(i:Nat)(h:NT.ly ts i (.names k l acc)):TW (NT.out ts i (.names k l acc)) (gr ts (f+1) (.names k l acc) i):=by
 rcases(show k=17\/k=18 from h.1) with rfl | rfl
 all_goals
  have h1 : ∀a i,a.ly ts i->TW (a.out ts i) (gr ts f a i):=b;simp only[gr];repeat' (first
   | exact Fx
   | with_reducible refine qh (λhc=> ?_) (λhc=> ?_)
   | with_reducible refine Fw ?_
   | with_reducible refine R5 c λx hx=> ?_
   | with_reducible refine QY λhk=> ?_
   | with_reducible refine ug (h1 _ _ ?_) λn j hn=> ?_
   | with_reducible refine QZ (h1 _ _ ?_) λl j hl=> ?_
   | with_reducible refine vD ?_
   | with_reducible refine MK ?_
   | with_reducible refine R4 (h1 _ _ ?_) λl hl=> ?_)
  all_goals clear h1 b
  all_goals simp only[NT.out,NT.ly,wZ,YC,R0,DO,BY] at *
  all_goals first | assumption | trivial | (simp_all [sk,vQ,fB,qg,gm,uw,sn,vR,vK,vN,vO,vP,I5,I6,I7,I8,I9,Ja,kq,uv,gK,and_assoc,QX,gu,nh,or_imp,forall_and,forall_eq];done) | (simp_all [sk,vQ,fB,qg,gm,uw,sn,vR,vK,vN,vO,vP,I5,I6,I7,I8,I9,Ja,kq,uv,gK];done) | (obtain⟨n,rfl,g1,g2⟩:=hl;refine⟨n,rfl,g1,?_⟩;first | (show 2<=n.kind/\n.kind<=20;omega) | exact .inl g2 | exact .inr g2) | exact⟨_,[],rfl,⟨hn.1,trivial⟩,hn.2,λn hn=>(by cases hn),λn hn=>(by cases hn)⟩ | skip
theorem aqv(e:wY ts)(c:zt ts f)(k:Nat)(l:Int)(b:Bool)(i:Nat)(h:NT.ly ts i (.maybe k l b)):TW (NT.out ts i (.maybe k l b)) (gr ts (f+1) (.maybe k l b) i):=by
 have h1 : ∀a i,a.ly ts i->TW (a.out ts i) (gr ts f a i):=c;have d:TW xE (gr ts f (if b=true then .exprs else .expr) i):=by
  cases b;·exact h1 .expr i trivial
  exact h1 .exprs i trivial
 simp only[gr];rcases(show k=60\/k=10\/k=14 from h) with rfl | rfl | rfl
 all_goals
  refine qh (λhc=>ug d λn j hn=>vD (BY.2 ?_)) λhc=>vD (BY.2 ?_)
  ·have hn:=wZ.1 hn;clear h1 c d;simp_all [sk,vQ,fB,qg,gm,uw,sn,vR,vK,vN,vO,vP,kq,uv,gK,and_assoc,yb,gu,nh,or_imp,forall_and,forall_eq]
  clear h1 c d;simp_all [sk,vQ,fB,qg,gm,uw,sn,vR,vK,vN,vO,vP,kq,uv,gK,and_assoc,yb,gu,nh,or_imp,forall_and,forall_eq]
theorem aqw(d:wY ts)(b:zt ts f)(n:Nd)(acc:List Nd)(i:Nat)(h:NT.ly ts i (.cmpL n acc)):TW (NT.out ts i (.cmpL n acc)) (gr ts (f+1) (.cmpL n acc) i):=by
 have h1 : ∀a i,a.ly ts i->TW (a.out ts i) (gr ts f a i):=b;obtain⟨g1,g2,g3,g4⟩:=h;simp only[gr];refine aom (vD (wZ.2 ?_)) λop j ho=>ug (h1 .arith j trivial) λm k c=>h1 (.cmpL n _) k ⟨g1,g2,?_,?_⟩
 ·clear h1 b;cases acc with
  | nil=>exact⟨g1,g2⟩
  | cons a acc=>
    show mY (nd 42 n.line (n::a::acc))/\eK _;simp_all [sk,vQ,fB,qg,gm,uw,sn,vR,vK,vN,vO,vP,kq,uv,gK,and_assoc,yb,gu,nh,or_imp,forall_and,forall_eq]
 ·have c:=wZ.1 c;clear h1 b;simp_all [sk,vQ,fB,qg,gm,uw,sn,vR,vK,vN,vO,vP,kq,uv,gK,and_assoc,yb,gu,nh,or_imp,forall_and,forall_eq]
 intro y hy;rcases List.mem_append.1 hy with hy | hy
 ·exact g4 y hy
 rw[List.mem_singleton.1 hy];rfl
theorem aqx(c:wY ts)(b:zt ts f)(l:Int)(acc:List Nd)(i:Nat)(h:NT.ly ts i (.mg l acc)):TW (NT.out ts i (.mg l acc)) (gr ts (f+1) (.mg l acc) i):=by
 have h1 : ∀a i,a.ly ts i->TW (a.out ts i) (gr ts f a i):=b;obtain⟨g1,⟨p,v,rfl,g2,g3⟩,g4⟩:=h;simp only[gr,List.getLast?_append,List.getLast?_singleton,Option.some_or];refine qh (λhc=>qh (λhp=>ug (h1 .value (i+1) trivial) λw k hw=>h1 (.mg l _) k ?_) λ_=>Fx) λhc=>vD (DO.2 ?_)
 ·have hw:=R0.1 hw;refine⟨qg.2 ⟨g1,hw.1,trivial⟩,⟨p++ [v],w,rfl,hw.2,λy hy=> ?_⟩, .inl Sm⟩;rcases List.mem_append.1 hy with hy | hy
  ·exact g3 y hy
  rw[List.mem_singleton.1 hy];refine⟨?_,hp⟩;rcases g2 with g2 | g2
  ·exact g2
  exfalso;obtain⟨k,ln,x,o,ks⟩:=v;have g2:k=60:=g2;subst g2;exact absurd hp (by simp[gK])
 have hp:p≠ []:=λe=>by
  subst e;rcases g4 with g4 | g4
  ·simp at g4
  exact hc g4
 refine⟨⟨?_,g1⟩,by simp[sn,sk]⟩;have:gm 3 [] 0 (p++ [v]):=by
  simp only[gm,Nat.reduceEqDiff,false_and,false_or,or_false,true_and,or_self];exact⟨p,v,rfl,hp,g2,g3⟩
 exact this
theorem aqy(c:wY ts)(b:zt ts f)(i:Nat)(h:NT.ly ts i .atom):TW (NT.out ts i .atom) (gr ts (f+1) .atom i):=by
 have h1 : ∀a i,a.ly ts i->TW (a.out ts i) (gr ts f a i):=b;simp only[gr];refine qh (λhc=>vD (wZ.2 ?_)) λhc=> ?_
 ·obtain⟨k,hk⟩ : ∃k:Nat,(aC ts i).kind=k:=⟨(aC ts i).kind.toNat,Om⟩;have ht:=c i k hk Om Om;rw[hk];clear h1 b;obtain rfl | rfl | rfl | rfl:k=4\/k=5\/k=6\/k=7:=by omega
  all_goals
   refine⟨⟨?_,trivial⟩,by simp[uw,H7]⟩;simp_all [gm,H7]
 repeat' (first
  | exact Fx
  | with_reducible refine qh (λhc=> ?_) (λhc=> ?_)
  | with_reducible refine Fw ?_
  | with_reducible refine ug (h1 _ _ ?_) λn j hn=> ?_
  | with_reducible refine vD ?_)
 all_goals clear h1 b
 all_goals simp only[NT.out,NT.ly,wZ] at *
 all_goals first | assumption | trivial | (simp_all [sk,vQ,fB,qg,gm,uw,sn,vR,vK,vN,vO,vP,kq,uv,gK,and_assoc,gu,nh,or_imp,forall_and,forall_eq];done)
theorem aqz(l:wY ts)(m:zt ts f)(acc:List Nd)(i:Nat)(h:NT.ly ts i (.p9 acc)):TW (NT.out ts i (.p9 acc)) (gr ts (f+1) (.p9 acc) i):=by
 have h1 : ∀a i,a.ly ts i->TW (a.out ts i) (gr ts f a i):=m;obtain⟨b,h,rfl,g1,g2,g3,g4⟩:=h;have o : ∀n∈h.dropLast,n.kids.length=2:=λn hn=>g4 n (List.dropLast_subset _ hn);have d : ∀y,y.kind=21->yb (h++ [y]):=λy c n hn=>by
  rcases List.mem_append.1 hn with hn | hn
  ·exact g3 n hn
  rw[List.mem_singleton.1 hn];exact c
 have g : ∀y,mY y->y.kind=21->y.kids.length=2->NT.ly ts 0 (.p9 ((b::h)++ [y])):=λy c hk hl=>⟨b,h++ [y],rfl,qg.2 ⟨g1,c,trivial⟩,g2,d y hk,λn hn=>by
  rcases List.mem_append.1 hn with hn | hn
  ·exact g4 n hn
  rw[List.mem_singleton.1 hn];exact hl⟩
 simp only[gr];refine qh (λhc=>qh (λhb=>ug (h1 .block _ trivial) λn j hn=>MK ?_) λhb=>ug (h1 .expr _ trivial) λe j he=>qh (λha=>R5 l λx hx=>Fw (ug (h1 .block _ trivial) λn k hn=>h1 _ _ ?_)) λha=>Fw (ug (h1 .block _ trivial) λn k hn=>h1 _ _ ?_)) λhc=>MK ⟨b,h,rfl,g1,g2,g3,o⟩
 ·have hn:=BY.1 hn;refine⟨b,h++ [nd 21 (aC ts i).line [n]],rfl,qg.2 ⟨g1,⟨?_,hn.1,trivial⟩,trivial⟩,g2,d _ rfl,?_⟩;·simp[gm,hn.2]
  rw[List.dropLast_concat];exact g4
 ·have hn:=BY.1 hn;have he:=wZ.1 he;refine g _ ⟨?_,he.1,hn.1,trivial⟩ rfl rfl;simp[gm,hn.2,he.2,hx,and_assoc]
 have hn:=BY.1 hn;have he:=wZ.1 he;refine g _ ⟨?_,he.1,hn.1,trivial⟩ rfl rfl;simp[gm,hn.2,he.2,and_assoc]
theorem aqA(d:wY ts)(c:zt ts f)(l:Int)(acc:List Nd)(i:Nat)(h:NT.ly ts i (.sV l acc)):TW (NT.out ts i (.sV l acc)) (gr ts (f+1) (.sV l acc) i):=by
 have h1 : ∀a i,a.ly ts i->TW (a.out ts i) (gr ts f a i):=c;obtain⟨b,h,rfl,g1,g2,g3,g4⟩:=h;simp only[gr];refine qh (λhc=>Fw (ug (h1 .block _ trivial) λn j hn=>vD (DO.2 ⟨⟨?_,?_⟩,by simp[sn,sk]⟩))) λhc=>qh (λ_=>Fx) λhl=>vD (DO.2 ⟨⟨?_,g1⟩,by simp[sn,sk]⟩)
 ·have e:gm 15 [] 0 ((b::h)++ [nd 22 (aC ts i).line [n]]):=by
   simp only[gm,Nat.reduceEqDiff,false_and,false_or,or_false,true_and,or_self];exact⟨b,h++ [nd 22 (aC ts i).line [n]],rfl,g2,Sm,h,_,rfl,g3,g4, .inr ⟨_,rfl,rfl⟩⟩
  exact e
 ·have hn:=BY.1 hn;refine qg.2 ⟨g1,⟨?_,hn.1,trivial⟩,trivial⟩;simp[gm,hn.2]
 have e:gm 15 [] 0 (b::h):=by
  simp only[gm,Nat.reduceEqDiff,false_and,false_or,or_false,true_and,or_self];refine⟨b,h,rfl,g2,λe=>hl (by rw[e];rfl),h,[],Sm,g3,g4, .inl rfl⟩
 exact e
end
theorem aqB{ts:List PT}(d:wY ts) : ∀f,zt ts f:=by
 intro f;induction f with
 | zero=>intro a i h;exact trivial
 | succ f c=>
   intro a i h;cases a;case plain=>exact aqs d c i h
   case clauses acc=>exact aqt d c acc i h
   case names k l acc=>exact aqu d c k l acc i h
   case maybe k l b=>exact aqv d c k l b i h
   case cmpL n acc=>exact aqw d c n acc i h
   case mg l acc=>exact aqx d c l acc i h
   case atom=>exact aqy d c i h
   case p9 acc=>exact aqz d c acc i h
   case sV l acc=>exact aqA d c l acc i h
   all_goals
    have h1 : ∀a i,a.ly ts i->TW (a.out ts i) (gr ts f a i):=c;simp only[gr];repeat' (first
     | exact Fx
     | with_reducible refine qh (λhc=> ?_) (λhc=> ?_)
     | with_reducible refine Fw ?_
     | with_reducible refine R5 d λx hx=> ?_
     | with_reducible refine QY λhk=> ?_
     | with_reducible refine ug (h1 _ _ ?_) λn j hn=> ?_
     | with_reducible refine QZ (h1 _ _ ?_) λl j hl=> ?_
     | with_reducible refine vD ?_
     | with_reducible refine MK ?_
     | with_reducible refine R4 (h1 _ _ ?_) λl hl=> ?_)
    all_goals clear h1 c
    all_goals simp only[NT.out,NT.ly,wZ,YC,R0,DO,BY] at *
    all_goals first | assumption | trivial | (simp_all [sk,vQ,fB,qg,gm,uw,sn,vR,vK,vN,vO,vP,I5,I6,I7,I8,I9,Ja,kq,uv,gK,and_assoc,QX,gu,nh,or_imp,forall_and,forall_eq];done) | (simp_all [sk,vQ,fB,qg,gm,uw,sn,vR,vK,vN,vO,vP,I5,I6,I7,I8,I9,Ja,kq,uv,gK];done) | (obtain⟨n,rfl,g1,g2⟩:=hl;refine⟨n,rfl,g1,?_⟩;first | (show 2<=n.kind/\n.kind<=20;omega) | exact .inl g2 | exact .inr g2) | exact⟨_,[],rfl,⟨hn.1,trivial⟩,hn.2,λn hn=>(by cases hn),λn hn=>(by cases hn)⟩ | skip
theorem afM{line:Nat} : ∀ {f:Nat} {t:List UInt8} {d d':Nat} {x:List Tok},nj line f t d=some (x,d')->∀y∈x,qP y.kind y.text
 | 0,_,_,_,_,h=>by cases h
 | f+1,t,d,d',x,h=>by
   simp only[nj] at h;split at h;·cases h;intro y a;cases a
   cases ht:mF (t.drop (du t)) with
   | none=>rw[ht] at h;cases h
   | some z=>
     obtain⟨k,y,n⟩:=z;rw[ht] at h;simp only at h;rw[nf] at h;obtain⟨⟨w,e⟩,h1,h2⟩:=h;cases h2;have h4:=afM h1;intro v hv;rcases List.mem_cons.1 hv with rfl | hv
     ·exact⟨_,_,ht⟩
     exact h4 v hv
theorem aqC{line d d':Nat}{t:List UInt8}{st bB:List Nat}{x:List Tok}(h:lR line t d st= .ok (x,d',bB)) : ∀y∈x,4<=y.kind->qP y.kind y.text:=by
 unfold lR at h;split at h;·cases h;intro y hy;cases hy
 split at h;·cases h
 split at h;·cases h
 rename_i ts d1 ht;cases h;intro y hy h4;simp only[gu] at hy;rcases hy with (hy | hy) | hy
 ·split at hy
  ·unfold kD at hy;split at hy;·simp at hy;rw[hy] at h4;simp at h4
   rw[YZ hy] at h4;simp at h4
  cases hy
 ·exact afM ht y hy
 split at hy;·simp at hy;rw[hy] at h4;simp at h4
 cases hy
theorem afN : ∀ {ts:List (List UInt8)} {line d:Nat} {st bB:List Nat} {x:List Tok},kE line ts d st= .ok (x,bB)->∀y∈x,4<=y.kind->qP y.kind y.text
 | [],line,d,st,bB,x,h=>by cases h;intro y hy;cases hy
 | t::ts,line,d,st,bB,x,h=>by
   rw[HA] at h;cases a:lR line t d st with
   | error e=>rw[a] at h;cases h
   | ok q=>
     obtain⟨g,d1,c⟩:=q;rw[a] at h;simp only at h;cases b:kE (line+1) ts d1 c with
     | error e=>rw[b] at h;cases h
     | ok w=>
       rw[b] at h;cases h;intro y hy h4;rcases List.mem_append.1 hy with hy | hy
       ·exact aqC a y hy h4
       exact afN b y hy h4
theorem aqD{src:List UInt8}{ts:List Tok}(h:lC src= .ok ts) : ∀y∈ts,4<=y.kind->qP y.kind y.text:=by
 unfold lC at h;split at h;·cases h
 cases a:kE 1 (iI src) 0 [0] with
 | error e=>rw[a] at h;cases h
 | ok w=>
   obtain⟨x,st⟩:=w;rw[a] at h;cases h;intro y hy h4;rcases List.mem_append.1 hy with hy | hy
   ·exact afN a y hy h4
   unfold D4 at hy;rcases List.mem_append.1 hy with hy | hy
   ·rw[YZ hy] at h4;simp at h4
   simp at hy;rw[hy] at h4;simp at h4
theorem aqE{src:List UInt8}{ts:List Tok}(h:lC src= .ok ts):wY (ts.map qd):=by
 intro i k hk h4 b;cases ht:(ts.map qd)[i]? with
 | some t=>
   have e:aC (ts.map qd) i=t:=by unfold aC;rw[ht]
   rw[e] at hk⊢;obtain⟨y,a,rfl⟩:=List.mem_map.1 (fD ht);have e:(y.kind:Int)=k:=hk;have e:y.kind=k:=by omega
   have:=aqD h y a Om;rw[e] at this;exact this
 | none=>
   exfalso;have e:(aC (ts.map qd) i).kind=0:=by
    unfold aC;rw[ht];simp only;split<;>rfl
   omega
theorem afO{src:List UInt8}(h:(iE src).2.2=0) : ∃ln l,(iE src).1=nd 1 ln l/\fB l/\(∀n∈l,sK n)/\gk l+1<=60:=by
 unfold iE at h⊢
 cases a:lC src with
 | error y=>
   rw[a] at h;exfalso;have h:(y.2:Int)=0:=h;have:y.2=20\/y.2=21\/y.2=24:=by
    by_cases hl:src.length<=20000
    ·rcases(ab' hl a).2 with e | e
     ·exact .inl e
     exact .inr (.inl e)
    unfold lC at a;rw[iP Om] at a;cases a;exact .inr (.inr rfl)
   omega
 | ok ts=>
   rw[a] at h;simp only at h⊢;have h1:=aqB (aqE a) ((ts.map qd).length*64+100) (.top []) 0 ⟨trivial,λn hn=>by cases hn⟩;have h3:=Bj (ts:=ts.map qd) ((ts.map qd).length*64+100) (.top []) 0 trivial (bR _) (by simp only[NT.lF];omega);generalize ts.map qd=b at *;unfold l8 at h⊢;generalize gr b (b.length*64+100) (.top []) 0=r at *;match r,h1,h3 with
   | some (.error e),_,_=>exact absurd (show(22:Int)=0 from h) de
   | some (.ok (l,j)),h1,h3=>
     simp only at h⊢;split at h;·exact absurd (show(11:Int)=0 from h) de
     rename_i hh;rw[iN hh];exact⟨_,l,rfl,h1.1,h1.2,Om⟩
end
section
open Go Go.RowKit
mutual
theorem afP : ∀n:Nd,zo n->qS 1099511627776 n
 | .mk k l x o ks,h=>⟨h.1,afQ ks h.2⟩
theorem afQ : ∀ks:List Nd,BD ks->te 1099511627776 ks
 | [],_=>trivial
 | n::ks,h=>⟨afP n h.1,afQ ks h.2⟩
end
theorem afR(src:List UInt8):cu (iE src).1<=10000000:=by
 unfold iE;cases c:lC src with
 | error y=>exact(show cu wL<=_ by decide)
 | ok ts=>
   have b:=UO c;show cu (l8 (ts.map qd)).1<=_;generalize d:ts.map qd=a;have g:a.length<=100000:=by rw[<-d,eR];exact b
   have h2:=Qo (ts:=a) (a.length*64+100) (.top []) 0 (by first | trivial | simp[NT.jX]) (bR _) (by simp only[NT.lF];omega);have h3:=Bj (ts:=a) (a.length*64+100) (.top []) 0 (by first | trivial | simp[NT.jX]) (bR _) (by simp only[NT.lF];omega);unfold l8;generalize gr a (a.length*64+100) (.top []) 0=r at h2 h3;match r,h2,h3 with
   | none,_,_=>exact(show cu wL<=_ by decide)
   | some (.error e),_,_=>exact(show cu wL<=_ by decide)
   | some (.ok (l,j)),h2,h3=>
     simp only;split;·show cu wL<=_;decide
     have h5:aZ l+64*0+0<=0+64*j+0:=h2;have h:j<=a.length:=h3.2.1;show aZ l+1<=_;omega
theorem aqF{src:List UInt8}(h:(iE src).2.2=0):WX (iE src).1/\lx (iE src).1=aqe (iE src).1:=by
 obtain⟨ln,l,e,hw,_,_⟩:=afO h;rw[e];refine⟨⟨⟨λe=>(by cases e),λe=>(by rcases e with e | e | e<;>cases e)⟩,λe=>(by cases e),aev.c l hw⟩,?_⟩;show(dS cP (λ_=>0) 0 (.mk 1 ln [] 0 l)).1=(dy cP 0 (.mk 1 ln [] 0 l)).1;have:=(aoB cP (fc l+1)).2.1 l [] 0 (fN _) hw (λp hp=>by cases hp) (.inl rfl);rw[dS,iN de,BH cP de];show Nd.mk 1 ln (if (1:Nat)=36/\0<0 then []++ [46]++cP 0 else []) 0 (jo cP (if (1:Nat)=8\/(1:Nat)=50 then wo (λ_=>0) (cV l).kids else λ_=>0) 0 l).1=_;rw[iN de,iN de,show(λ_:Bs=>0)=dK [] from rfl,this];rfl
def SRn:Spec:=λf args H v H'=>(f=22\/f=23\/f=9->aQ TL f args H λu K=>u=v/\K=H')/\(f=10\/f=11->aQ gH f args H λu K=>u=v/\K=H')
def LR:List aS:= [22,23,9,10,11]
noncomputable abbrev Jb:cw:=vw Tryz.prog LG GG LR SRn
theorem aqG{B:Nat}:ww Tryz.prog B Jb:=QG Lb
theorem afS{f:aS}{args:List ae}{H:CH}{Q:ae->CH->Prop}(a:f=22\/f=23\/f=9)(h:aQ TL f args H Q):aQ Jb f args H Q:=by
 obtain⟨n,v,H',h1,h2⟩:=h;have hx:aQ TL f args H λu K=>u=v/\K=H':=⟨n,v,H',h1,rfl,rfl⟩;have hc:pP Tryz.prog f=true:=by rcases a with rfl | rfl | rfl<;>kernel_rfl
 refine Dg (by rcases a with rfl | rfl | rfl<;>rfl) ⟨v,H',⟨λ_=>hx,λe=> ?_⟩,λB=>⟨hc,fun β w c b ha=>callsIn_wide.2 (Eu adM h1 b ha hc)⟩⟩ λv2 d b=> ?_;·rcases a with rfl | rfl | rfl<;>rcases e with e | e<;>cases e
 exact(sQ (b.1 a)).1 ⟨n,v,H',h1,h2⟩
theorem aqH{H:CH}{q:Option cB}{c:Nat}{src:List UInt8}(h:ig 1 (pY .u8) H q c (l6 src)):aQ Jb 8 [.slice q src.length c] H λv K=>ag H K/\∃os,v= .tuple #[.agg os.toArray, .bool (decide ((iE src).2.2=0))]/\bK K (λb=>H.nx<=b/\b<K.nx) (cF (iE src).1) os:=by
 refine dq Rl Kr (aK ?_);refine aM ?_;refine(afS (.inl rfl) (am5 (ig.jX (pY.jX _) ((ag.refl H).new _) h))).mono ?_;rintro v i ⟨j,hv⟩;have u:H.nx+1<=i.nx:=j.nx;have l:=(j.ob H.nx (fN _)).trans iu;have d:ag H i:=((ag.refl H).new _).trans j;cases a:lC src with
 | error y=>
   rw[a] at hv;have hv:v= .tuple #[.slice none 0 0, .int .i64 y.1, .int .i64 y.2]:=hv;subst hv;have o : ¬((y.2:Int)=0):=by
    have:y.2=20\/y.2=21\/y.2=24:=by
     by_cases hl:src.length<=20000
     ·rcases(ab' hl a).2 with e | e
      ·exact .inl e
      exact .inr (.inl e)
     unfold lC at a;rw[iP Om] at a;cases a;exact .inr (.inr rfl)
    omega
   have es:iE src=(wL,(y.1:Int),(y.2:Int)):=by unfold iE;rw[a]
   rw[es];refine rn (an @o @l) ?_;refine⟨d.set (ai _) _,_,rfl, .cons (.sc rfl) (.cons (.sc rfl) (.cons (.sc rfl) (.cons (.sc rfl) (.cons .qI .nil))))⟩
 | ok ts=>
   rw[a] at hv;obtain⟨vt,rfl,hg⟩:=hv;have n:=anb a;obtain⟨r,c',rfl,hs⟩:=ane (am0 hg) Om;refine rn @l ?_;refine(afS (.inr (.inl rfl)) (am6 (sl:=⟨r,ts.length,c'⟩) hs (eR _).symm Om)).mono ?_;rintro v s ⟨m,os,rfl,g⟩;obtain⟨g1,g2,g3,g4,w,x,gc,rfl⟩:=BA g;have z:=m.nx;have t:=(m.ob H.nx Om).trans l;have es:iE src=l8 (ts.map qd):=by unfold iE;rw[a]
   rw[es];refine rn @t ?_;refine⟨(((d.trans m).new _).set Om _).set (ai _) _,_,rfl,g.mv λb hb=> ?_⟩;have h1:i.nx<=b:=hb.1;have h2:b<s.nx:=hb.2;exact⟨⟨Om,Om⟩,by rw[cO Om,cO Om,bL Om]⟩
theorem aqI{H:CH}{q:Option cB}{c:Nat}{xs:List Int}(h:ig 1 (pY .u8) H q c xs) : ∃src,xs=l6 src:=by
 refine⟨xs.map λx=>x.toNat.toUInt8,?_⟩;have hw : ∀x∈xs,(Lit.int .u8 x).wf=true:=by
  rcases h with ⟨rfl,_⟩ | ⟨l,o,os,e,kd,_,_,_,_,_,_,a⟩
  ·intro x hx;cases hx
  intro x hx;obtain⟨i,hi,rfl⟩:=Gm hx;exact(a i hi).2
 clear h;induction xs with
 | nil=>rfl
 | cons x xs b=>
   simp only[l6,c8];rw[ajq (hw x Sm)];congr 1
   exact b λy d=>hw y (by simp[d])
theorem aqJ{k:Nat}{x:Bs}{o:Nat}{ks:List Nd}(h:gm k x o ks)(hk:k=9\/k=8\/k=50):ks.length=2:=by
 rcases hk with rfl | rfl | rfl
 all_goals
  unfold gm at h;simp at h
 ·obtain⟨_,_,a,b,rfl,_⟩:=h;rfl
 ·obtain⟨_,_,a,b,rfl,_⟩:=h;rfl
 obtain⟨_,_,a,b,rfl,_⟩:=h;rfl
theorem aqK{x:Bs}{o:Nat}{ks:List Nd}(h:gm 3 x o ks):2<=ks.length:=by
 unfold gm at h;simp at h;obtain⟨_,_,l,v,rfl,hl,_⟩:=h;rw[cG];have:l.length≠0:=λe=>hl (List.length_eq_zero_iff.1 e);show 2<=l.length+1;omega
theorem afT : ∀n:Nd,mY n->nS n
 | .mk k l x o ks,h=>⟨⟨λe=>aqJ h.1 e,λe=>by subst e;exact aqK h.1⟩,a ks h.2⟩
where a : ∀ks:List Nd,fB ks->lz ks
 | [],_=>trivial
 | n::ks,h=>⟨afT n h.1,a ks h.2⟩
theorem YD{src:List UInt8}(h:(iE src).2.2=0):NA (tp (lx (iE src).1)) 100000 (lx (iE src).1):=by
 obtain⟨c,b⟩:=aqF h;have hs:=afL src;have g:=afR src;have d:nS (iE src).1:=by
  obtain⟨ln,l,e,hw,_,_⟩:=afO h;rw[e];exact⟨⟨λe=>(by rcases e with e | e | e<;>cases e),λe=>(by cases e)⟩,afT.a l hw⟩
 have a:nk (lx (iE src).1)=nk (iE src).1:=by rw[b];exact aes cP 0 _
 refine ckH ?_ ?_ ?_ ?_ ?_;·rw[<-W9,a,W9];exact hs.2.1
 ·rw[<-Xj,a,Xj];exact d
 ·rw[<-Xa,a,Xa];omega
 ·rw[<-Xb,a,Xb];exact hs.1
 rw[b];have h1:=aeu cP (M:=1099511627776) (C:=10000000) (T:=10000002) (λi hi=>by have:=aec i;omega) (iE src).1 0 Om (afP _ hs.2.2.2);refine Q8 ?_ _ h1;have h2:eX (iE src).1<=1000:=hs.2.1;have h3:=Nat.mul_le_mul_right 10000002 h2;omega
def NH (K:CH)(v:ae)(xs:List Bs):Prop:=∃a n,v= .slice a xs.length n/\(xs≠ []->∃r L kd,a=some ⟨r,0,none⟩/\K.ob r= .cells L 9 kd/\∀i (h:i<xs.length),L[i]? = some (.string (tx xs[i]))/\i<L.length)
theorem NI : ∀ {LL:List F7} {i:Nat} {L:F7},LL[i]? = some L->List.take 7 (List.drop (i*7) (LL.flatMap ql))=ql L/\i*7+7<=(LL.flatMap ql).length
 | [],i,L,h=>by simp at h
 | a::LL,0,L,h=>by
   have h:a=L:=by simpa using h
   subst h;rw[tw,Nat.zero_mul,gI,cG];exact⟨rfl,by show 7<=7+_;omega⟩
 | a::LL,i+1,L,h=>by
   have h:LL[i]? = some L:=by simpa using h
   obtain⟨h1,h2⟩:=NI h;rw[tw,Nat.succ_mul,Nat.add_comm,cG];have e:(ql a).length=7:=rfl;refine⟨?_,Om⟩;rw[<-e,<-List.drop_drop,List.drop_left,e];exact h1
def SKp:Spec:=λf args H v H'=>(f=8->aQ Jb f args H λu K=>u=v/\K=H')/\(f=9\/f=12\/f=16->aQ TL f args H λu K=>u=v/\K=H')/\(f=10\/f=13->aQ gH f args H λu K=>u=v/\K=H')
def LKp:List aS:= [8,9,12,16,10,13]
noncomputable abbrev yn:cw:=vw Tryz.prog LG GG LKp SKp
theorem agi{B:Nat}:ww Tryz.prog B yn:=QG Lb
theorem aqL{args:List ae}{H:CH}{Q:ae->CH->Prop}(h:aQ Jb 8 args H Q):aQ yn 8 args H Q:=by
 obtain⟨n,v,H',h1,h2⟩:=h;have hx:aQ Jb 8 args H λu K=>u=v/\K=H':=⟨n,v,H',h1,rfl,rfl⟩;have hc:pP Tryz.prog 8=true:=by kernel_rfl
 refine Dg Rl ⟨v,H',⟨λ_=>hx,λe=>(by rcases e with e | e | e<;>cases e),λe=>(by rcases e with e | e<;>cases e)⟩,λB=>⟨hc,fun β w b a ha=>callsIn_wide.2 (Eu aqG h1 a ha hc)⟩⟩ λv2 c a=> ?_;exact(sQ (a.1 rfl)).1 ⟨n,v,H',h1,h2⟩
theorem R7{f:aS}{args:List ae}{H:CH}{Q:ae->CH->Prop}(a:f=9\/f=12\/f=16)(h:aQ TL f args H Q):aQ yn f args H Q:=by
 obtain⟨n,v,H',h1,h2⟩:=h;have hx:aQ TL f args H λu K=>u=v/\K=H':=⟨n,v,H',h1,rfl,rfl⟩;have hc:pP Tryz.prog f=true:=by rcases a with rfl | rfl | rfl<;>kernel_rfl
 refine Dg (by rcases a with rfl | rfl | rfl<;>rfl) ⟨v,H',⟨λe=> ?_,λ_=>hx,λe=> ?_⟩,λB=>⟨hc,fun β w c b ha=>callsIn_wide.2 (Eu adM h1 b ha hc)⟩⟩ λv2 d b=> ?_;·rcases a with rfl | rfl | rfl<;>cases e
 ·rcases a with rfl | rfl | rfl<;>rcases e with e | e<;>cases e
 exact(sQ (b.2.1 a)).1 ⟨n,v,H',h1,h2⟩
theorem YE{f:aS}{args:List ae}{H:CH}{Q:ae->CH->Prop}(a:f=10\/f=13)(h:aQ gH f args H Q):aQ yn f args H Q:=by
 obtain⟨n,v,H',h1,h2⟩:=h;have hx:aQ gH f args H λu K=>u=v/\K=H':=⟨n,v,H',h1,rfl,rfl⟩;have hc:pP Tryz.prog f=true:=by rcases a with rfl | rfl<;>kernel_rfl
 refine Dg (by rcases a with rfl | rfl<;>rfl) ⟨v,H',⟨λe=> ?_,λe=> ?_,λ_=>hx⟩,λB=>⟨hc,fun β w c b ha=>callsIn_wide.2 (Eu anY h1 b ha hc)⟩⟩ λv2 d b=> ?_;·rcases a with rfl | rfl<;>cases e
 ·rcases a with rfl | rfl<;>rcases e with e | e | e<;>cases e
 exact(sQ (b.2.2 a)).1 ⟨n,v,H',h1,h2⟩
theorem aqM{H:CH}{Q:ae->CH->Prop}:aQ yn 7 [] H Q↔Q (.bool true) H:=am1 Rl Rl Rl
theorem YF{a:ByteArray}:bP (binOp .neq 0 (.string a) (.string a))=some (.bool false):=by
 simp only[binOp,Op.stringOp,bP,Pure.pure,bne,beq_self_eq_true,Bool.not_true]
def KpL (K:CH)(len n:Nat)(v:ae)(a:CH):Prop:=∃i:Nat,n=len-i/\i<=len/\v= .int .i64 (i:Nat)/\a=K
theorem R8{K:CH}{v w:ae}{xs:List Bs}(h:NH K v xs)(g:NH K w xs)(hl:xs.length<=4398046511104):aQ yn 21 [v,w] K λr K'=>K'=K/\r= .bool true:=by
 obtain⟨a,C,rfl,o⟩:=h;obtain⟨b,m0,rfl,s⟩:=g;refine dq Rl Kr (aK ?_);refine aM ?_;refine ef (λn fr l=>KpL K xs.length n (fr 5) l) (n:=xs.length) ⟨0,rfl,bR _,by(refine aM ?_;all_goals rfl),rfl⟩ ?_;rintro n fr l ⟨i,rfl,hi,f5,rfl⟩ m;by_cases c:i<xs.length
 ·have aB:xs≠ []:=λe=>by rw[e] at c;exact absurd c (fW _)
  obtain⟨r,L,kd,rfl,t,u⟩:=o aB;obtain⟨D,E,G,rfl,x,y⟩:=s aB;obtain⟨z,A⟩:=u i c;obtain⟨d,j⟩:=y i c;have B:=YF (a:=tx xs[i]);refine rn (Ad @m @f5 @t @x @z @A @d @j @B) ?_;exact⟨xs.length-(i+1),Om,i+1,rfl,c,rfl,rfl⟩
 exact rz (an @m @f5)
def NJ (K0:CH)(len n:Nat)(v:ae)(a:CH):Prop:=∃i:Nat,n=len-i/\i<=len/\v= .int .i64 (i:Nat)/\ag K0 a
def lO (K:CH)(A:Nat->Prop)(v:ae)(xs:List Bs):Prop:=(xs= []/\v= .slice none 0 0)\/∃r kd,v= .slice (some ⟨r,0,none⟩) xs.length xs.length/\A r/\K.ob r= .cells (xs.flatMap fU) 9 kd/\kd.bY=false
theorem iQ.F9{K:CH}{ow:Ow}{a:Nat×Nat}{v:ae}{xs:List Bs}(h:iQ K ow a v xs):lO K (λy=>ow y≠none/\y<K.nx) v xs:=by
 rcases h with h | ⟨r,kd,h1,h2,h3,h4,h5⟩
 ·exact .inl h
 exact .inr ⟨r,kd,h1,⟨by rw[h2];simp,h3⟩,h4,h5⟩
theorem eV.F9{A K:CH}{v:ae}{xs:List Bs}(h:eV A 9 1 fU K v xs):lO K (λb=>A.nx<=b/\b<K.nx) v xs:=by
 rcases h with h | ⟨r,kd,h1,h2,h3,h4,h5⟩
 ·exact .inl h
 exact .inr ⟨r,kd,h1,⟨h2,h3⟩,h4,h5⟩
theorem lO.mv{K K':CH}{A B:Nat->Prop}{v:ae}{xs:List Bs}(h:lO K A v xs)(g : ∀b,A b->B b/\K'.ob b=K.ob b):lO K' B v xs:=by
 rcases h with h | ⟨r,kd,h1,h2,h3,h4⟩
 ·exact .inl h
 exact .inr ⟨r,kd,h1,(g r h2).1,(g r h2).2.trans h3,h4⟩
theorem lO.rd{K:CH}{A:Nat->Prop}{v:ae}{xs:List Bs}(h:lO K A v xs):NH K v xs:=by
 rcases h with ⟨rfl,rfl⟩ | ⟨r,kd,rfl,h2,h3,h4⟩
 ·exact⟨_,_,rfl,λh=>absurd rfl h⟩
 exact⟨_,_,rfl,λ_=>⟨r,_,kd,rfl,h3,λi hi=>Ns (cj hi)⟩⟩
theorem lO.len{K:CH}{A:Nat->Prop}{v:ae}{xs:List Bs}(h:lO K A v xs) : ∃a,v= .slice a xs.length xs.length:=by
 rcases h with ⟨rfl,rfl⟩ | ⟨r,kd,rfl,h2,h3,h4⟩
 ·exact⟨_,rfl⟩
 exact⟨_,rfl⟩
theorem lO.src{K:CH}{A:Nat->Prop}{v:ae}{xs:List Bs}(h:lO K A v xs):oj K 1 v=some (xs.flatMap fU,xs.length):=by
 rcases h with ⟨rfl,rfl⟩ | ⟨r,kd,rfl,h2,h3,h4⟩
 ·rfl
 have b:(xs.flatMap fU).length=xs.length:=by rw[zy,eR]
 rw[pu];by_cases a:xs.length=0
 ·rw[iP a,List.length_eq_zero_iff.1 a];rfl
 rw[iN a,h3,kQ,iP Om,gI,fp,<-b,ng]
structure BZ(K:CH)(A:Nat->Prop)(r:Nat)(kd:Kd)(LL:List F7)(st:List al):Prop where
 ob:K.ob r= .cells (LL.flatMap ql) 40 kd
 rA:A r
 len:LL.length=st.length
 row : ∀(i:Nat) (F:al) (L:F7),st[i]? = some F->LL[i]? = some L->∃vp vl vc vf,ql L= [.string (tx F.nm), .int .i64 F.par,vp,vl,vc,vf, .bool F.gen]/\lO K A vp F.ps/\lO K A vl F.ls/\lO K A vc F.cs/\lO K A vf F.fs
 sm:st.length<=1099511627776/\∀F∈st,F.ps.length<=4398046511104/\F.ls.length<=4398046511104/\F.cs.length<=4398046511104/\F.fs.length<=4398046511104
theorem BZ.mv{K K':CH}{A B:Nat->Prop}{r:Nat}{kd:Kd}{LL:List F7}{st:List al}(h:BZ K A r kd LL st)(g : ∀b,A b->B b/\K'.ob b=K.ob b):BZ K' B r kd LL st:=⟨(g r h.rA).2.trans h.ob,(g r h.rA).1,h.len,λi F L h1 h2=>by
 obtain⟨vp,vl,vc,vf,e,a,c,d,j⟩:=h.row i F L h1 h2;exact⟨vp,vl,vc,vf,e,a.mv g,c.mv g,d.mv g,j.mv g⟩,h.sm⟩
theorem aqN{K:CH}{A B:Nat->Prop}{r j:Nat}{kd E:Kd}{LL u:List F7}{st:List al}(hA : ∀b,A b->b<K.nx)(w : ∀b,B b->b<K.nx)(h:BZ K A r kd LL st)(g:BZ K B j E u st):aQ yn 14 [.slice (some ⟨r,0,none⟩) st.length st.length, .slice (some ⟨j,0,none⟩) st.length st.length] K λv K'=>ag K K'/\v= .bool true:=by
 have hs:=h.sm.1;refine dq Rl Kr (aK ?_);refine aM ?_;refine ef (λn fr a=>NJ K st.length n (fr 5) a) (n:=st.length) ⟨0,rfl,bR _,by(refine aM ?_;all_goals rfl),ag.refl _⟩ ?_;rintro n fr a ⟨i,rfl,hi,f5,hx⟩ x;by_cases l:i<st.length
 ·have h1:BZ a A r kd LL st:=h.mv λb hb=>⟨hb,hx.ob b (hA b hb)⟩;have g1:BZ a B j E u st:=g.mv λb hb=>⟨hb,hx.ob b (w b hb)⟩;obtain⟨F,y⟩ : ∃F,st[i]? = some F:=⟨_,cj l⟩;obtain⟨L,G⟩ : ∃L,LL[i]? = some L:=⟨_,cj (by rw[h.len];exact l)⟩;obtain⟨O,H⟩ : ∃L,u[i]? = some L:=⟨_,cj (by rw[g.len];exact l)⟩;obtain⟨P,Q,b3,b4⟩:=h.sm.2 F (fD y);obtain⟨hd,R⟩:=NI G;obtain⟨I,gd2⟩:=NI H;obtain⟨vp,vl,vc,vf,S,J,M,rc,rf⟩:=h1.row i F L y G;obtain⟨wp,wl,wc,wf,z,sp,sl,sc,N⟩:=g1.row i F O y H;rw[S] at hd;rw[z] at I;have T:=h1.ob;have C:=g1.ob;have eY:=hx.nx;have NF:=hA r h.rA;have U:=w j g.rA;obtain⟨pa,rfl⟩:=J.len;obtain⟨V,rfl⟩:=M.len;obtain⟨ca,rfl⟩:=rc.len;obtain⟨W,rfl⟩:=rf.len;obtain⟨pb,rfl⟩:=sp.len;obtain⟨X,rfl⟩:=sl.len;obtain⟨cb,rfl⟩:=sc.len;obtain⟨fb,rfl⟩:=N.len;repeat' (first | (simp (disch:=first | omega | (decide +kernel)) only[↓RD,RU,qG,nK,bT,↓aH,↓dA,↓aL,jK,bS,br,cZ,eT,pop,aD,cq,bq,db,isVal,a8,ci,ρ0,ρ1,ρ2,↓reduceIte,Nat.reduceEqDiff,Nat.reduceAdd,reduceCtorEq,ρ5,ρ6,ρ7,ρ8,ρ17,ρ19,ρ20,ρ21,ρ22,ρ23,Kd.bY,ρ25,ρ26,ρ28,ρ29,x,f5,T,hd,R,C,I,gd2,YF]) | ((with_reducible first|apply aE|apply aF|apply aG)<;>intro _))
  refine MX (λd=>ag a d/\d.ob a.nx= .cells [.string (tx F.nm), .int .i64 F.par, .slice pa F.ps.length F.ps.length, .slice V F.ls.length F.ls.length, .slice ca F.cs.length F.cs.length, .slice W F.fs.length F.fs.length, .bool F.gen] 40 .ex/\d.ob (a.nx+1)= .cells [.string (tx F.nm), .int .i64 F.par, .slice pb F.ps.length F.ps.length, .slice X F.ls.length F.ls.length, .slice cb F.cs.length F.cs.length, .slice fb F.fs.length F.fs.length, .bool F.gen] 40 .ex) ⟨by(repeat (first | assumption | exact ag.refl _ | (refine ag.set ?_ Fo _) | (refine ag.new ?_ _))),by(exact aV;all_goals rfl),by(exact aV;all_goals rfl)⟩ ?_;rintro d ⟨D,m,o⟩;have s : ∀ {v:ae} {xs:List Bs},lO a A v xs->NH d v xs:=λh=>(h.mv (B:=A) λb hb=>⟨hb,D.ob b (cQ (hA b hb) hx.nx)⟩).rd;have t : ∀ {v:ae} {xs:List Bs},lO a B v xs->NH d v xs:=λh=>(h.mv (B:=B) λb hb=>⟨hb,D.ob b (cQ (w b hb) hx.nx)⟩).rd;refine(R8 (s J) (t sp) P).mono λv K2 ⟨Y,c⟩=> ?_;subst c;rw[Y];refine rn (an @m @o) ?_;refine(R8 (s M) (t sl) Q).mono λv K3 ⟨Z,c⟩=> ?_;subst c;rw[Z];refine rn (an @m @o) ?_;refine(R8 (s rc) (t sc) b3).mono λv K4 ⟨e4,c⟩=> ?_;subst c;rw[e4];refine rn (an @m @o) ?_;refine(R8 (s rf) (t N) b4).mono λv K5 ⟨e5,c⟩=> ?_;subst c;rw[e5];refine rn (jz @x @f5 @m @o) ?_;exact⟨st.length-(i+1),Om,i+1,rfl,l,rfl,hx.trans D⟩
 refine rn (an @x @f5) ?_;exact hx
end
end Can
end Go.Proofs.YticlaccbodpkeaaGreatDoor
