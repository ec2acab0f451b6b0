/- Scope, Check: collect. Scope, Check: round, member, wrong. Scope, Check: wrong. Scope, Check: its closure; need, the closure of frees. Scope, Check: need, the closure of frees. Scope, Check: frees as a function: what it keeps. No program in sight. Scope, Check: frees, its kids' closure; what the walk lies in. Scope, Check: what the events are like; frees counts as visit does. No program in sight. Scope, Check: frees, its walk. Scope, Check: frees. Scope, Check: Clone; cells' parts. Scope, Check: labels made fewer; Check's head. -/
import Derived.Test.YticlaccbodpkeaaGreatDoorVa
import Derived.Test.YticlaccbodpkeaaGreatDoorVh
open Bool renaming and_true → Cc
open Decidable renaming byContradiction → GN
open Go renaming Addr → cm, Value → ae
open Go.Value renaming cells → dp
open Iff renaming rfl → dS
open Int renaming add_zero → sT, toNat_natCast → gj, zero_add → Cd
open List renaming all_cons → yz, all_nil → GM, append_nil → jz, cons_append → jU, drop_nil → yA, drop_succ_cons → tR, drop_zero → ly, ext_getElem? → Ca, filter_cons → GL, foldl_cons → yt, getD_eq_getElem?_getD → yw, getElem?_cons_succ → fL, getElem?_cons_zero → fK, getElem?_eq_getElem → bM, getElem?_eq_none → wW, getElem?_map → hY, getElem?_modify → vV, getElem_of_mem → Ae, length_append → cO, length_cons → cw, length_map → fh, length_nil → cX, map_cons → dG, map_nil → nz, mem_cons_self → j5, mem_of_getElem? → fi, mem_singleton → lR, nil_append → mR, range → lQ, size_toArray → qB, take_append_drop → Al, take_length → pQ, take_nil → GK, take_succ_cons → Ai, take_succ_eq_append_getElem → rL, take_zero → xd, toList_toArray → tS
open Nat renaming add_zero → lP, le_refl → al, le_trans → bW, lt_of_lt_of_le → cj, lt_succ_self → iC, mul_one → iB, not_lt_zero → fM, zero_add → bJ, zero_le → cx
open Ne renaming symm → sS
open Option renaming map_some → fg
open SizeOf renaming sizeOf → dR
set_option maxRecDepth 4000
set_option maxHeartbeats 4000000
set_option linter.unusedSimpArgs false
set_option linter.unusedVariables false
namespace Go.Proofs.YticlaccbodpkeaaGreatDoor
namespace Can
section
open Go Go.RowKit
theorem apw{p:Nat}{E:List Ev}{d:List ah}(z : ∀e∈E,e.2.f<d.length)(hb : ∀pre e rest F,pre++e::rest=E->(tG d pre)[e.2.f]? = some F->F.ls.length+(kT e).length<=1099511627776)(hT : ∀e∈E,ru 2199023255552 e.1):DB 56 [pN p] E (JF true p (tG d)):=by
 rintro pre ⟨t,h⟩ rest K W A os j B hs hA;obtain⟨ow,v,bs,C,l,m,n,o⟩:=B;have D:=o;obtain⟨q,kd,rfl,R,S,G,T,r⟩:=o;have s:(t,h)∈E:=by rw[<-j];simp
 have H:p<K.nx:=l p (by rw[m];simp);have g:h.f<d.length:=z (t,h) s;obtain⟨F,u⟩ : ∃F,(tG d pre)[h.f]? = some F:=⟨_,bM (by rw[QT];exact g)⟩;obtain⟨b,w⟩ : ∃b,bs[h.f]? = some b:=⟨_,bM (by rw[r.len,QT];exact g)⟩;obtain⟨I,U⟩:=zP w;have J:h.f<bs.length:=by rw[r.len,QT];exact g
 have L:=hb pre (t,h) rest F j u;have M:=hT (t,h) s;obtain⟨nt,rfl⟩:=tz hs;have c:ag K ((K.new (.cells (fD nt) 26 .ex)).new (.cells [.int .i64 (h.f:Nat), .bool h.lp, .bool h.hd, .bool h.mb] 69 .ex)):=((ag.refl K).new _).new _;have x:=apu (p:=p) (i:=h.f) (b:=b) (h:=h) rfl u L M (K:=(K.new (.cells (fD nt) 26 .ex)).new (.cells [.int .i64 (h.f:Nat), .bool h.lp, .bool h.hd, .bool h.mb] 69 .ex)) (W:=W) (A:=A) (hs.mv λy a=>⟨a,c.ob y (hA y a).1⟩) (λy a=>⟨cj (hA y a).1 c.nx,(hA y a).2⟩) ⟨ow,_,bs,C,λy a=>cj (l y a) c.nx,m,(c.ob p H).trans n,D.mv (.refl c.nx) λy a _=>c.ob y a,w⟩;unfold rC fD at x⊢;refine du Rl Kr (aV ?_);refine rn (gy @n @G @I @J) ?_;refine x.mono λV X ⟨N,⟨O,v2,P,g1,g2,g3,g4,g5,_⟩,Q⟩=> ?_;refine aC ?_;exact⟨N,⟨O,v2,P,g1,g2,g3,g4,by rw[api];exact g5⟩,(VX.ext c).trans Q⟩
def apx (K:CH)(ow:Ow)(fns:List ah)(bs:List Nat)(n:Nat):Prop:=∀j F b,fns[j]? = some F->bs[j]? = some b->FY (decide (j<n)) K ow j b F
def CmJ (K0:CH)(p q:Nat)(kd:Kd)(fns:List ah)(bs:List Nat)(n:Nat)(v:ae)(a:CH):Prop:=∃(i:Nat) (ow:Ow),n=bs.length-i/\i<=bs.length/\v= .int .i64 (i:Nat)/\ag K0 a/\(∀y,ow y≠none->K0.nx+1<=y/\y<a.nx)/\ow p=some (0,8)/\a.ob p= .cells [.slice (some ⟨q,0,none⟩) bs.length bs.length] 65 .ex/\ow q=some (0,9)/\a.ob q= .cells (bs.flatMap λb=> [pN b]) 73 kd/\apx a ow fns bs i
def CqJ (K0:CH)(a:Nat)(ps:List Bs)(n:Nat)(v:ae)(b:CH):Prop:=∃i:Nat,n=ps.length-i/\i<=ps.length/\v= .int .i64 (i:Nat)/\c7 a K0 b/\gH b a (mf (ps.take i))
theorem aeQ{K:CH}{ow:Ow}{a:Nat×Nat}{v:ae}{xs:List Bs}(h:jg K ow a v xs){i:Nat}(hi:i<xs.length) : ∃r kd,v= .slice (some ⟨r,0,none⟩) xs.length xs.length/\ow r=some a/\r<K.nx/\K.ob r= .cells (xs.flatMap jT) 9 kd/\(xs.flatMap jT)[i]? = some (.string (tx xs[i]))/\i<(xs.flatMap jT).length:=by
 rcases h with ⟨rfl,_⟩ | ⟨r,kd,h1,h2,h3,h4,h5⟩
 ·cases hi
 refine⟨r,kd,h1,h2,h3,h4,?_,?_⟩;·rw[IK,hY,bM hi];rfl
 rw[IK,fh];exact hi
theorem tM{K:CH}{ow:Ow}{b:Nat×Nat}{v:ae}{xs:List Bs}(h:jg K ow b v xs) : ∃a,v= .slice a xs.length xs.length:=by
 rcases h with ⟨rfl,h⟩ | ⟨r,kd,h1,_⟩
 ·exact⟨none,h⟩
 exact⟨_,h1⟩
theorem apy{t:Nd}{B:Nat}{E:List Ev}(hE:(bj 0 fU t).1=E)(hh:eV t<=1000)(cR:mL t)(hz:cf t<=2305843009213693952)(hB:B+16<=4398046511104)(hEl:E.length<=1099511627776)(hK : ∀e∈E,kQ B e.1)(hf : ∀e∈E,e.2.f<(jG E).length)(iZ : ∀F∈jG E,F.ps.length<=4398046511104)(hb : ∀pre e rest F,pre++e::rest=E->(tG (sG (jG E) E) pre)[e.2.f]? = some F->F.ls.length+(kT e).length<=1099511627776)(hT : ∀e∈E,ru 2199023255552 e.1){K:CH}{A:Nat->Prop}{os:List ae}(hs:b9 K A (dr t) os)(hA : ∀b,A b->b<K.nx):aR gE 31 [.agg os.toArray] K λv K'=>ag K K'/\∃(ow:Ow) (bs:List Nat),(∀y,ow y≠none->K.nx<=y/\y<K'.nx)/\j0 true K' ow v (gG E) bs:=by
 obtain⟨nt,rfl⟩:=tz hs;have nK : ∀F∈jG E,F.ls= []/\F.g= []/\F.o= []:=λF hF=>by
  unfold jG at hF;rcases List.mem_cons.1 hF with rfl | hF
  ·exact⟨rfl,rfl,rfl⟩
  obtain⟨e,_,rfl⟩:=List.mem_map.1 hF;exact⟨rfl,rfl,rfl⟩
 have F6 : ∀(fs:FuncId) (J:JT) (H:CH) (R:Nat->Prop),zD J->DB fs [pN (K.nx+3)] E J->ag K H->(∀y,R y->K.nx<=y)->J [] H R->aR gE 32 [.agg (fD nt).toArray, .func (.func fs) #[] #[pN (K.nx+3)]] H λ_ K'=>∃W',J E K' W'/\VX n9 R W' H K':=λfs J H R hJ dk hx hw hj=>by
  refine(aeE (cap:= [pN (K.nx+3)]) hJ dk hh cR hz (pre:= []) ⟨[],by rw[hE];simp⟩ (A:=A) (hs.mv λy d=>⟨d,hx.ob y (hA y d)⟩) (λy d=>⟨cj (hA y d) hx.nx,λw=>by have:=hw y w;have:=hA y d;omega⟩) hj).mono λv K' ⟨W',h1,h2⟩=>⟨W',?_,h2⟩;rw[hE] at h1;exact h1
 unfold fD at F6⊢;refine du Rl Kr (aV ?_);refine aC ?_;refine MK (λm=>ag K m/\m.nx=K.nx+4/\m.ob K.nx= .cells (fD nt) 26 .ex/\m.ob (K.nx+1)= .cells [.string (tx rv.nm), .int .i64 (-1), .slice none 0 0, .slice none 0 0, .slice none 0 0, .slice none 0 0, .bool false, .map none, .map none, .map none] 75 .ex/\m.ob (K.nx+2)= .cells [pN (K.nx+1)] 73 .ex/\m.ob (K.nx+3)= .cells [.slice (some ⟨K.nx+2,0,none⟩) 1 1] 65 .ex) ⟨by(repeat (first | assumption | exact ag.refl _ | (refine ag.set ?_ Fo _) | (refine ag.new ?_ _))),rfl,by(refine aC ?_;all_goals rfl),by(refine aC ?_;all_goals rfl),by(exact aZ;all_goals rfl),by(exact aZ;all_goals rfl)⟩ ?_;rintro m ⟨dF,tp,tK,Xm,obq,Xs⟩;let F3:Ow:=λy=>if y=K.nx+1 then some (0,0) else if y=K.nx+2 then some (0,9) else if y=K.nx+3 then some (0,8) else none
 have S : ∀y,F3 y≠none->K.nx+1<=y/\y<m.nx:=λy d=>by
  have d:(if y=K.nx+1 then some (0,0) else if y=K.nx+2 then some (0,9) else if y=K.nx+3 then some ((0,8):Nat×Nat) else none)≠none:=d;by_cases h1:y=K.nx+1
  ·omega
  rw[iN h1] at d;by_cases h2:y=K.nx+2
  ·omega
  rw[iN h2] at d;by_cases h3:y=K.nx+3
  ·omega
  rw[iN h3] at d;exact absurd rfl d
 have AH:JF false (K.nx+3) jG [] m (λy=>F3 y≠none):=by
  refine⟨F3,_,[K.nx+1],λy=>dS,λy d=>(S y d).2,?_,Xs,⟨K.nx+2, .ex,rfl,?_,Om,obq,rfl,⟨rfl,?_⟩⟩⟩;·show(if K.nx+3=K.nx+1 then _ else if K.nx+3=K.nx+2 then _ else if K.nx+3=K.nx+3 then some (0,8) else none)=_;rw[iN Om,iN Om,iP rfl]
  ·show(if K.nx+2=K.nx+1 then _ else if K.nx+2=K.nx+2 then some (0,9) else _)=_;rw[iN Om,iP rfl]
  intro i F b hF hb;cases i with
  | succ i=>simp at hb
  | zero=>
    cases hb;have hF:some rv=some F:=hF;cases hF;refine⟨by show(if K.nx+1=K.nx+1 then _ else _)=_;rw[iP rfl],Om,_,_,_,_,_,_,_,Xm,⟨.inl ⟨rfl,rfl⟩, .inl ⟨rfl,rfl⟩, .inl ⟨rfl,rfl⟩, .inl ⟨rfl,rfl⟩,rfl,rfl,rfl⟩⟩
 refine(F6 _ _ m _ JF.ok (apg hB hEl hK) dF (λy d=>by have:=(S y d).1;omega) AH).mono λv1 H ⟨R,⟨vG,v2,bs,g1,g2,g3,g4,g5⟩,ep⟩=> ?_;have eG:=ep.nx;have apz : ∀y,vG y≠none->K.nx+1<=y:=λy d=>(ep.w y ((g1 y).2 d)).elim (λh=>(S y h).1) λh=>by omega
 have bL:ag K H:=⟨Om,λy d=>(ep.ob y Om (λw=>by have:=(S y w).1;omega) id).trans (dF.ob y d)⟩;have jh:=(ep.ob K.nx Om (λw=>by have:=(S _ w).1;omega) id).trans tK;obtain⟨q,kd,rfl,pe,uF,iA,fc,e9⟩:=g5;have dN:bs.length<=1099511627777:=by
  rw[e9.len];unfold jG;rw[cw,fh];have h1:=List.length_filter_le (λe:Ev=>jZ e.1) E;omega
 refine rn @g4 ?_;refine fC (λn fr a=>CmJ K (K.nx+3) q kd (jG E) bs n (fr 17) a/\a.ob K.nx= .cells (fD nt) 26 .ex/\∀y,vG y≠none->True) (n:=bs.length) ⟨⟨0,vG,rfl,cx _,by(refine aC ?_;all_goals rfl),bL,λy d=>⟨apz y d,g2 y d⟩,g3,g4,pe,iA,λj F b h1 h2=> ?_⟩,jh,λ_ _=>trivial⟩ ?_;·have:decide (j<0)=false:=decide_eq_false Om;rw[this];exact e9.get j F b h1 h2
 rintro n ud a ⟨⟨i,ow,rfl,hi,f17,gF,x,T,bp,I,Xt,hM⟩,DO,_⟩ U;have uA:=gF.nx;by_cases V:i<bs.length
 ·obtain⟨b,IR⟩ : ∃b,bs[i]? = some b:=⟨_,bM V⟩;obtain⟨F,hF⟩ : ∃F,(jG E)[i]? = some F:=⟨_,bM (by rw[<-e9.len];exact V)⟩;obtain⟨jy,tm⟩:=zP IR;have W:=fi hF;obtain⟨n1,n2,n3⟩:=nK F W;have apA:=iZ F W;have Kw:=hM i F b hF IR;have hdi:decide (i<i)=false:=decide_eq_false Om;rw[hdi] at Kw;obtain⟨L,gT,vp,vl,vc,vf,m1,m2,m3,dH,z⟩:=Kw;obtain rfl:m1= .map none:=z.b;obtain rfl:m2= .map none:=z.g;obtain rfl:m3= .map none:=z.o;obtain⟨pa,hvp⟩:=tM z.p;obtain⟨C,M⟩ : ∃C,C=(((a.new (.map #[] 0)).new (.map #[] 0)).new (.map #[] 0)).set b (.cells [.string (tx F.nm), .int .i64 F.par,vp,vl,vc,vf, .bool F.gen, .map (some a.nx), .map (some (a.nx+1)), .map (some (a.nx+2))] 75 .ex):=⟨_,rfl⟩;subst hvp;refine rn (iD @U @f17 @Xt @jy @dH) ?_;rw[<-M];have dq:C.nx=a.nx+3:=by rw[M];rfl
  have aps:b<a.nx:=gT;have ocb:C.ob b= .cells [.string (tx F.nm), .int .i64 F.par, .slice pa F.ps.length F.ps.length,vl,vc,vf, .bool F.gen, .map (some a.nx), .map (some (a.nx+1)), .map (some (a.nx+2))] 75 .ex:=by rw[M,bP,iP rfl]
  have rE:C.ob a.nx= .map #[] 0:=by
   rw[M,cv Om,bQ (by show a.nx≠a.nx+1+1;omega),bQ (by show a.nx≠a.nx+1;omega),jf]
  have zI:C.ob (a.nx+1)= .map #[] 0:=by
   rw[M,cv Om,bQ (by show a.nx+1≠a.nx+1+1;omega)];exact jf (K:=a.new _)
  have IL:C.ob (a.nx+2)= .map #[] 0:=by
   rw[M,cv Om];exact jf (K:=(a.new _).new _)
  have X : ∀y,y<a.nx->y≠b->C.ob y=a.ob y:=λy d hc=>by
   rw[M,cv hc,bQ (by show y≠a.nx+1+1;omega),bQ (by show y≠a.nx+1;omega),bQ Om]
  refine fC (λn fr Y=>CqJ C a.nx F.ps n (fr 39) Y) (n:=F.ps.length) ⟨0,rfl,cx _,by(refine aC ?_;all_goals rfl),c7.refl _,by rw[xd];exact gH.nil rE⟩ ?_;rintro n EK Y ⟨j,rfl,hj,f39,N,mC⟩ sJ;have BI:=N.nx;have Z:=(N.ob b Om Om).trans ocb;by_cases O:j<F.ps.length
  ·obtain⟨r,kr,e1,P,e3,e4,e5,e6⟩:=aeQ z.p O;have e1:pa=some ⟨r,0,none⟩:=by cases e1;rfl
   subst e1;have KU:r≠b:=λe=>by rw[e,L] at P;simp at P
   have or4:=(N.ob r Om Om).trans ((X r e3 KU).trans e4);obtain⟨oo,pf,kN⟩:=mC.up F.ps[j] 1;repeat' (first | (simp (disch:=first | omega | (decide +kernel)) only[↓eF,↓pF,↓dy,↓si,↓sk,↓gX,↓gO,↓iI,↓eR,↓eS,↓dY,↓fB,↓mz,↓aP,↓ez,↓aT,↓bf,dX,pE,↓eQ,↓nM,iJ,sn,gY,pop,aD,bD,↓reduceIte,Nat.reduceEqDiff,fK,fL,iK,iP,iB,bJ,gj,sJ,f39,Z,or4,e5,pf,bJ]) | ((with_reducible first|apply aF|apply aG|apply aH)<;>intro _))
   refine⟨F.ps.length-(j+1),Om,j+1,rfl,O,rfl,N.set (.inr rfl) _,?_⟩;rw[rL O,<-DK];exact kN _ (by rw[bP,iP rfl])
  have O:j=F.ps.length:=by omega
  subst O;rw[pQ] at mC;refine rn (gy @sJ @U @f17 @f39) ?_;have Q : ∀y,y<a.nx->y≠b->Y.ob y=a.ob y:=λy d hc=>(N.ob y Om Om).trans (X y d hc);let bY:Ow:=λy=>if y=a.nx then some (i,5) else if y=a.nx+1 then some (i,6) else if y=a.nx+2 then some (i,7) else ow y
  have G:pd ow bY a Y:=⟨Om,λy d=>by
   show(if y=a.nx then _ else if y=a.nx+1 then _ else if y=a.nx+2 then _ else ow y)=ow y;rw[iN Om,iN Om,iN Om]⟩
  have vz:=(x (K.nx+3) (by rw[T];simp)).2;have aeS:=(x q (by rw[I];simp)).2;have xN:K.nx+3≠b:=λe=>by rw[e,L] at T;simp at T
  have hqb:q≠b:=λe=>by rw[e,L] at I;simp at I
  have Mi:=(x b (by rw[L];simp)).1;have apB:b≠K.nx:=by omega
  refine⟨bs.length-(i+1),Om,⟨i+1,bY,rfl,V,rfl,⟨Om,λy d=>(Q y Om Om).trans (gF.ob y d)⟩,λy d=> ?_,(G.ow _ vz).trans T,(Q _ vz xN).trans bp,(G.ow _ aeS).trans I,(Q _ aeS hqb).trans Xt,λs F2 b2 h1 h2=> ?_⟩,(Q _ Om (sS apB)).trans DO,λ_ _=>trivial⟩
  ·have d:(if y=a.nx then some (i,5) else if y=a.nx+1 then some (i,6) else if y=a.nx+2 then some (i,7) else ow y)≠none:=d;by_cases h1:y=a.nx
   ·omega
   rw[iN h1] at d;by_cases h2:y=a.nx+1
   ·omega
   rw[iN h2] at d;by_cases h3:y=a.nx+2
   ·omega
   rw[iN h3] at d;have:=x y d;omega
  by_cases mX:s=i
  ·subst mX;rw[hF] at h1;rw[IR] at h2;cases h1;cases h2;have:decide (s<s+1)=true:=decide_eq_true Om;rw[this];have pg : ∀y jj,y<a.nx->ow y=some (s,jj)->jj≠0->Y.ob y=a.ob y:=λy jj d e aA=>Q y d λP=>by rw[P,L] at e;cases e;exact aA rfl
   refine⟨(G.ow b gT).trans L,Om,_,vl,vc,vf,_,_,_,Z,⟨z.p.mv G λy D u=>pg y _ D u de,z.l.mv G λy D u=>pg y _ D u de,z.c.mv G λy D u=>pg y _ D u de,z.f.mv G λy D u=>pg y _ D u de,?_,?_,?_⟩⟩;·rw[n1,jz];exact IM (iP rfl) Om mC
   ·rw[n2];refine IM ?_ Om ((gH.nil zI).ext (N.ob _ Om Om));show(if a.nx+1=a.nx then _ else if a.nx+1=a.nx+1 then some (s,6) else _)=_;rw[iN Om,iP rfl]
   rw[n3];refine IM ?_ Om ((gH.nil IL).ext (N.ob _ Om Om));show(if a.nx+2=a.nx then _ else if a.nx+2=a.nx+1 then _ else if a.nx+2=a.nx+2 then some (s,7) else _)=_;rw[iN Om,iN Om,iP rfl]
  have:decide (s<i+1)=decide (s<i):=by
   by_cases h:s<i
   ·rw[decide_eq_true h,decide_eq_true Om]
   rw[decide_eq_false h,decide_eq_false Om]
  rw[this];exact(hM s F2 b2 h1 h2).mv G λy jj D u _=>Q y D λP=>by rw[P,L] at u;cases u;exact mX rfl
 have V:i=bs.length:=by omega
 subst V;repeat' (first | (simp (disch:=first | omega | (decide +kernel)) only[↓RD,RU,↓aP,↓aT,pop,aD,ρ0,ρ1,↓reduceIte,Nat.reduceEqDiff,Nat.reduceAdd,ρ7,ρ8,ρ15,ρ18,U,f17,DO,fD]) | ((with_reducible first|apply aF|apply aG|apply aH)<;>intro _))
 have jA:Xk true a ow (jG E) bs:=⟨e9.len,λj F b h1 h2=>by
  have O:j<bs.length:=(List.getElem?_eq_some_iff.1 h2).1;have:=hM j F b h1 h2;rw[decide_eq_true O] at this;exact this⟩
 have hjB:JF true (K.nx+3) (sG (jG E)) [] a (λy=>ow y≠none):=⟨ow,_,bs,λy=>dS,λy d=>(x y d).2,T,bp,⟨q,kd,rfl,I,(x q (by rw[I];simp)).2,Xt,fc,jA⟩⟩;refine(F6 _ _ a _ JF.ok (apj hf) gF (λy d=>by have:=(x y d).1;omega) hjB).mono λv5 K5 ⟨W5,DH,fE⟩=> ?_;have zy:=fE.nx;have Xu : ∀y,ow y≠none->K.nx+1<=y:=λy d=>(x y d).1;have hqK:=x q (by rw[I];simp);have QZ:=(fE.ob K.nx Om (λw=>by have:=Xu _ w;omega) id).trans DO;have lI:ag K K5:=⟨Om,λy d=>(fE.ob y Om (λw=>by have:=Xu y w;omega) id).trans (gF.ob y d)⟩;have Xv : ∀y,W5 y->K.nx+1<=y:=λy d=>(fE.w y d).elim (Xu y) λh=>by omega
 have hjC:JF true (K.nx+3) (tG (sG (jG E) E)) [] K5 W5:=DH;repeat' (first | (simp (disch:=first | omega | (decide +kernel)) only[↓RD,RU,↓aP,↓aT,pop,aD,ρ0,ρ1,↓reduceIte,Nat.reduceEqDiff,Nat.reduceAdd,ρ7,ρ8,ρ15,ρ18,U,QZ,fD]) | ((with_reducible first|apply aF|apply aG|apply aH)<;>intro _))
 refine(F6 _ _ K5 _ JF.ok (apw (λe he=>by rw[MM];exact hf e he) hb hT) lI (λy d=>by have:=Xv y d;omega) hjC).mono λv6 K6 ⟨W6,⟨ye,v7,bs6,q1,q2,q3,q4,q5⟩,pM⟩=> ?_;have hn6:=pM.nx;refine rn (an @U @q4) ?_;refine⟨⟨Om,λy d=>(pM.ob y Om (λw=>by have:=Xv y w;omega) id).trans (lI.ob y d)⟩,ye,bs6,λy d=>⟨?_,q2 y d⟩,q5⟩;exact(pM.w y ((q1 y).2 d)).elim (λh=>by have:=Xv y h;omega) λh=>by omega
def MT(fns:List ah):Prop:=∀(i:Nat) (F:ah),fns[i]? = some F-> -1<=F.par/\F.par<(i:Int)
theorem Ga{K:CH}{ow:Ow}{fns:List ah}{bs:List Nat}(h:Xk true K ow fns bs){i:Nat}(hi:i<fns.length) : ∃F b,fns[i]? = some F/\bs[i]? = some b/\ow b=some (i,0)/\b<K.nx/\∃vp vl vc vf m1 m2 m3,K.ob b= .cells [.string (tx F.nm), .int .i64 F.par,vp,vl,vc,vf, .bool F.gen, .map (some m1), .map (some m2), .map (some m3)] 75 .ex/\jg K ow (i,1) vp F.ps/\jg K ow (i,2) vl F.ls/\jg K ow (i,3) vc F.cs/\jg K ow (i,4) vf F.fs/\gH K m1 (mf (F.ps++F.ls))/\gH K m2 (mf F.g)/\gH K m3 (mf F.o)/\m1<K.nx/\m2<K.nx/\m3<K.nx/\ow m1=some (i,5)/\ow m2=some (i,6)/\ow m3=some (i,7):=by
 obtain⟨F,d⟩ : ∃F,fns[i]? = some F:=⟨_,bM hi⟩;obtain⟨b,hb⟩ : ∃b,bs[i]? = some b:=⟨_,bM (by rw[h.len];exact hi)⟩;obtain⟨h1,h2,vp,vl,vc,vf,m1,m2,m3,h3,a⟩:=h.get i F b d hb;obtain⟨e,rfl,j,k,m⟩:=wQ a.b;obtain⟨n,rfl,q,r,s⟩:=wQ a.g;obtain⟨t,rfl,o3,l3,u⟩:=wQ a.o;exact⟨F,b,d,hb,h1,h2,vp,vl,vc,vf,e,n,t,h3,a.p,a.l,a.c,a.f,m,s,u,k,r,l3,j,q,o3⟩
def RoJ (fns:List ah)(s:Bs)(least:Int)(r:Bool)(K:CH)(n:Nat)(v:ae)(a:CH):Prop:=∃(m:Nat) (g:Int),n=(g+1).toNat/\v= .int .i64 g/\ -1<=g/\g<(m:Int)/\g<(fns.length:Int)/\a=K/\ry fns s least m g=r
theorem aeT{K:CH}{ow:Ow}{v:ae}{fns:List ah}{bs:List Nat}(L:j0 true K ow v fns bs)(C:MT fns)(X:fns.length<=4611686018427387904){f:Nat}(D:f<fns.length)(s:Bs){least:Nat}(M:least<=1):aR gE 60 [v, .int .i64 (f:Nat), .string (tx s), .int .i64 (least:Nat)] K λr K'=>K'=K/\r= .bool (iQ fns f s least):=by
 obtain⟨q,kd,rfl,Y,Z,l,fc,o⟩:=L;obtain⟨F,b,E,hb,ai,gT,vp,vl,vc,vf,m1,m2,m3,N,_⟩:=Ga o D;obtain⟨O,tm⟩:=zP hb;have gd:f<bs.length:=by rw[o.len];exact D
 have x:=C f F E;have P:iQ fns f s least=ry fns s least fns.length F.par:=by unfold iQ;rw[E]
 rw[P];refine du Rl Kr (aV ?_);refine rn (gK @l @O @N) ?_;refine fC (λn fr H=>RoJ fns s least (ry fns s least fns.length F.par) K n (fr 9) H) (n:=(F.par+1).toNat) ⟨fns.length,F.par,rfl,by(exact aZ;all_goals rfl),x.1,Om,Om,rfl,rfl⟩ ?_;rintro n fr H ⟨m,g,rfl,f9,s7,N6,Q,rfl,a⟩ t;by_cases I:g<(least:Int)
 ·have R:ry fns s least fns.length F.par=false:=by
   rw[<-a];cases m with
   | zero=>rfl
   | succ m=>rw[ry,iP I]
  rw[R];exact rz (an @t @f9)
 obtain⟨d,rfl⟩ : ∃d:Nat,g=d:=⟨g.toNat,Om⟩;obtain⟨y,rfl⟩ : ∃y,m=y+1:=⟨m-1,Om⟩;obtain⟨G,c,J,hc,S,T,wp,wl,wc,wf,k1,k2,k3,z,_,_,_,_,U,V,_⟩:=Ga o (i:=d) Om;obtain⟨A,qX⟩:=zP hc;have W:d<bs.length:=by rw[o.len];omega
 have j:=U.lk s;have u:=V.lk s;have B:=C d G J;rw[ry,iN I,gj,J] at a;simp only at a;by_cases w:G.binds s
 ·rw[iP w] at a;have:s∈G.ps++G.ls:=List.mem_append.2 w;rw[og this] at j;rw[<-a];repeat' (first | (simp (disch:=first | omega | (decide +kernel)) only[↓eF,↓pF,↓dy,↓HM,↓HN,↓HP,↓KJ,↓gX,↓gO,↓iI,↓eR,↓eS,↓dY,↓fB,↓aP,↓aT,↓bf,dX,CW,↓eQ,↓nM,↓nN,bK,fS,jM,KL,pop,aD,bT,jc,dV,↓reduceIte,Nat.reduceEqDiff,reduceCtorEq,fK,fL,KO,iK,iP,iB,bJ,gj,and_true,t,f9,l,A,z,j]) | ((with_reducible first|apply aF|apply aG|apply aH)<;>intro _))
 rw[iN w] at a;have:s∉G.ps++G.ls:=λh=>w (List.mem_append.1 h);rw[oh this] at j;by_cases hg:s∈G.g
 ·rw[iP hg] at a;rw[og hg] at u;rw[<-a];repeat' (first | (simp (disch:=first | omega | (decide +kernel)) only[↓eF,↓pF,↓dy,↓HM,↓HN,↓HP,↓KJ,↓gX,↓gO,↓iI,↓qL,↓eR,↓eS,↓dY,↓fB,↓aP,↓aT,↓bf,dX,CW,↓eQ,↓nM,↓nN,bK,fS,jM,KL,pop,aD,bT,jc,dV,↓reduceIte,Nat.reduceEqDiff,reduceCtorEq,fK,fL,KO,iK,qN,iP,iB,bJ,gj,and_true,t,f9,l,A,z,j,u]) | ((with_reducible first|apply aF|apply aG|apply aH)<;>intro _))
 rw[iN hg] at a;rw[oh hg] at u;repeat' (first | (simp (disch:=first | omega | (decide +kernel)) only[↓eF,↓pF,↓dy,↓si,↓sk,↓gX,↓gO,↓iI,↓qL,↓eR,↓eS,↓dY,↓fB,↓aP,↓aT,↓bf,dX,↓eQ,↓nM,bK,fS,jM,KL,pop,aD,↓reduceIte,Nat.reduceEqDiff,reduceCtorEq,fK,fL,KO,iK,qN,iP,iB,bJ,lP,gj,t,f9,l,A,z,j,u]) | ((with_reducible first|apply aF|apply aG|apply aH)<;>intro _))
 exact⟨(G.par+1).toNat,Om,y,G.par,rfl,rfl,B.1,Om,Om,rfl,a⟩
theorem apC{K:CH}{A:Nat->Prop}{t:Nd}{os:List ae}(hs:b9 K A (dr t) os)(hA : ∀b,A b->b<K.nx):aR gE 61 [.agg os.toArray] K λr K'=>ag K K'/\r= .bool (tH t):=by
 obtain⟨k,l,x,o,ks⟩:=t;obtain⟨q,rfl,C⟩:=ij hs;obtain⟨_,e,S,T,D⟩:=mI C;cases e;have c:ag K (K.new (.cells [.int .i64 (k:Nat), .int .i64 l, .string (tx x), .int .i64 (o:Nat), .slice q ks.length ks.length] 26 .ex)):=(ag.refl K).new _;by_cases n:k=8\/k=11
 ·have d:tH (.mk k l x o ks)=true:=by simp[tH,Nd.kind,n]
  rw[d];rcases n with rfl | rfl
  all_goals
   refine du Rl Kr (aV ?_);refine aC ?_;exact c
 by_cases h2:k=2
 ·subst h2;have E:=Mf (K:=K.new (.cells [.int .i64 ((2:Nat):Int), .int .i64 l, .string (tx x), .int .i64 (o:Nat), .slice q ks.length ks.length] 26 .ex)) (A:=A) (hs.mv λb hb=>⟨hb,c.ob b (hA b hb)⟩) (λb hb=>Nat.lt_succ_of_lt (hA b hb));have d:tH (.mk 2 l x o ks)=decide ((cC ks).kind=32):=by(simp[tH,Nd.kind,Nd.kids];rfl)
  rw[d];refine du Rl Kr (aV ?_);refine aC ?_;refine E.mono λv U ⟨G,H,y,j⟩=> ?_;subst H;have j:b9 _ A (dr (cC ks)) G:=j;obtain⟨mk,ml,mx,g,cH,I⟩ : ∃J pl L M N,cC ks= .mk J pl L M N:=by cases cC ks;exact⟨_,_,_,_,_,rfl⟩
  rw[I] at j⊢;obtain⟨V,rfl,_⟩:=ij j;show _;by_cases s:mk=32
  ·have:decide ((Nd.mk mk ml mx g cH).kind=32)=true:=decide_eq_true s;rw[this];subst s;refine aC ?_;exact c.trans y
  have:decide ((Nd.mk mk ml mx g cH).kind=32)=false:=decide_eq_false s;rw[this];refine aC ?_;exact c.trans y
 by_cases h3:k=3
 ·subst h3;have d:tH (.mk 3 l x o ks)=(decide (ks.length=2)&&decide ((cC ks).kind=36)):=by(simp[tH,Nd.kind,Nd.kids];rfl)
  rw[d];by_cases u:ks.length=2
  ·obtain⟨m,m2,rfl⟩ : ∃a b,ks= [a,b]:=by
    match ks,u with
    | [a,b],_=>exact⟨a,b,rfl⟩
   obtain⟨mk,ml,mx,g,cH⟩:=m;obtain⟨z,cs,e,W,O,P,ob,X,Y,Z,Q⟩:=D 0 _ rfl;obtain⟨mq,R,_⟩:=ij Q;obtain⟨g0,_,_,_,_⟩:=aeA R;have i:=hA z P;have B:=(c.ob z i).trans ob;subst O;rw[decide_eq_true u,Bool.true_and];by_cases w:mk=36
   ·have:decide ((cC [Nd.mk mk ml mx g cH,m2]).kind=36)=true:=decide_eq_true w;rw[this];subst w;refine du Rl Kr (aV ?_);refine rn (iD @ob @B @g0 @bJ @Nat.zero_mul) ?_;exact c
   have:decide ((cC [Nd.mk mk ml mx g cH,m2]).kind=36)=false:=decide_eq_false w;rw[this];refine du Rl Kr (aV ?_);refine rn (iD @ob @B @g0 @bJ @Nat.zero_mul) ?_;exact c
  rw[decide_eq_false u,Bool.false_and];refine du Rl Kr (aV ?_);refine aC ?_;exact c
 have d:tH (.mk k l x o ks)=false:=by simp[tH,Nd.kind,n,h2,h3]
 rw[d];refine du Rl Kr (aV ?_);refine aC ?_;exact c
def IxJ (K:CH)(xs:List Bs)(s:Bs)(n:Nat)(v:ae)(a:CH):Prop:=∃i:Nat,n=xs.length-i/\i<=xs.length/\v= .int .i64 (i:Nat)/\a=K/\∀j (b:j<xs.length),j<i->xs[j]≠s
theorem apD{K:CH}{v:ae}{xs:List Bs}{s:Bs}(h:NL K v xs):aR gE 39 [v, .string (tx s)] K λr K'=>K'=K/\∃z:Int,r= .int .i64 z/\(0<=z↔s∈xs):=by
 obtain⟨q,c,hv,hc,t⟩:=h.len;rw[gZ] at t;refine du Rl Kr (aV ?_);refine rn @hv ?_;refine fC (λm fr x=>IxJ K xs s m (fr 8) x) (n:=xs.length) ⟨0,rfl,Om,by(refine aC ?_;all_goals rfl),rfl,λj _ h=>absurd h Om⟩ ?_;rintro m fr x ⟨i,rfl,hi,f8,rfl,hn⟩ u;by_cases y:i<xs.length
 ·obtain⟨l,o,B,os,e,kd,A,h4,h5,g⟩:=h.cell y;rw[hv] at A;obtain⟨rfl,rfl⟩:q=some ⟨l,o,none⟩/\c=B:=by cases A;exact⟨rfl,rfl⟩
  have d:=zb (a:=s) (b:=xs[i]);by_cases he:s=xs[i]
  ·rw[decide_eq_true he] at d;have d:bV (binOp .eql 0 (.string (tx s)) (.string (tx xs[i])))=some (.bool true):=d;refine rn (iD @u @f8 @h4 @g @d) ?_;exact⟨_,rfl,⟨λ_=>he▸List.getElem_mem y,λ_=>by omega⟩⟩
  rw[decide_eq_false he] at d;have d:bV (binOp .eql 0 (.string (tx s)) (.string (tx xs[i])))=some (.bool false):=d;refine rn (iD @u @f8 @h4 @g @d) ?_;all_goals exact⟨xs.length-(i+1),Om,i+1,rfl,Om,rfl,rfl,λj w C=>by
   by_cases e:j=i
   ·subst e;exactλg=>he g.symm
   exact hn j w Om⟩
 refine rn (an @u @f8) ?_;refine⟨_,rfl,⟨λh=>absurd h de,λt=> ?_⟩⟩;obtain⟨j,w,e⟩:=Ae t;exact absurd e (hn j w Om)
theorem aeU{K:CH}{v:ae}{xs:List Bs}{s:Bs}(h:NL K v xs):aR gE 59 [v, .string (tx s)] K λr K'=>K'=K/\r= .bool (decide (s∈xs)):=by
 refine du Rl Kr (aV ?_);refine aC ?_;refine(apD h).mono λr K' ⟨e,z,b,hz⟩=> ?_;subst b;rw[e];by_cases hp:s∈xs
 ·have a:=hz.2 hp;rw[decide_eq_true hp];exact rz @a
 have a : ¬ 0<=z:=λg=>hp (hz.1 g);rw[decide_eq_false hp];exact rz @a
theorem Xy : ∀ {l:List Bs},Dz l=false↔l.Nodup
 | []=>by simp[Dz]
 | x::r=>by
   rw[Dz,List.nodup_cons,Bool.or_eq_false_iff,decide_eq_false_iff_not,Xy]
theorem aeV{l:List Bs}{i:Nat}(hi:i<l.length):(l.take (i+1)).Nodup↔(l.take i).Nodup/\l[i]∉l.take i:=by
 rw[rL hi,List.nodup_append];constructor;·rintro⟨h1,_,h3⟩;exact⟨h1,λh=>h3 _ h _ (List.mem_singleton.2 rfl) rfl⟩
 rintro⟨h1,h2⟩;refine⟨h1,Sm,λa ha b hb e=> ?_⟩;rw[lR] at hb;rw[e,hb] at ha;exact h2 ha
def WrM (K:CH)(t:Nd)(q:Option cm)(h:Wh)(w:Bool)(x:bq)(fr:Fr)(H:CH):Prop:=ag K H/\K.nx+2<=H.nx/\((x= .normal/\fr 3=pN K.nx/\fr 4=pN (K.nx+1)/\H.ob K.nx= .cells [.int .i64 (t.kind:Nat), .int .i64 t.line, .string (tx t.text), .int .i64 (t.op:Nat), .slice q t.kids.length t.kids.length] 26 .ex/\H.ob (K.nx+1)= .cells [.int .i64 (h.f:Nat), .bool h.lp, .bool h.hd, .bool h.mb] 69 .ex/\w=(h.mb && !tH t))\/(x= .ret/\fr 6= .bool true/\w=true))
def WsJ (K0:CH)(a:Nat)(xs:List Bs)(n:Nat)(v:ae)(b:CH):Prop:=∃i:Nat,n=xs.length-i/\i<=xs.length/\v= .int .i64 (i:Nat)/\c7 a K0 b/\gH b a (mf (xs.take i))/\(xs.take i).Nodup
def WaJ (K0:CH)(ks:List Nd)(P:Nd->Bool)(n:Nat)(v:ae)(a:CH):Prop:=∃i:Nat,n=ks.length-i/\i<=ks.length/\v= .int .i64 (i:Nat)/\ag K0 a/\∀k∈ks.take i,P k=false
theorem aeW{fns:List ah}{wf:Nat}{b wd a:Bool}{l:Int}{x:Bs}{o:Nat}{ks:List Nd}{F:ah}(c:fns.getD wf rv=F):jH fns (.mk 17 l x o ks,⟨wf,b,wd,a⟩)=if (ks.any λk:Nd=>decide (k.text∈F.ps)||decide (k.text∈F.o))=true then true else (a && !tH (.mk 17 l x o ks)):=by
 subst c;unfold jH;rw[iN (by intro h;have h1:=h.1;simp[Nd.kind] at h1),iN (by intro h;have h1:=h.1;simp[Nd.kind] at h1),iN (by intro h;have h1:=h.1;simp[Nd.kind] at h1),iN (by intro h;have h1:=h.1;simp[Nd.kind] at h1)];by_cases h:(ks.any λk:Nd=>decide (k.text∈(fns.getD wf rv).ps)||decide (k.text∈(fns.getD wf rv).o))=true
 ·rw[iP h,iP ⟨rfl,h⟩]
 rw[iN h,iN λe=>h e.2,iN (by intro h;have h1:=h.1;simp[Nd.kind] at h1)]
theorem aeX{fns:List ah}{wf:Nat}{b wd a:Bool}{l:Int}{x:Bs}{o:Nat}{ks:List Nd}{F:ah}(c:fns.getD wf rv=F):jH fns (.mk 18 l x o ks,⟨wf,b,wd,a⟩)=if (ks.any λk:Nd=>decide (wf=0)||decide (k.text∈F.ps) || !iQ fns wf k.text 1)=true then true else (a && !tH (.mk 18 l x o ks)):=by
 subst c;unfold jH;rw[iN (by intro h;have h1:=h.1;simp[Nd.kind] at h1),iN (by intro h;have h1:=h.1;simp[Nd.kind] at h1),iN (by intro h;have h1:=h.1;simp[Nd.kind] at h1),iN (by intro h;have h1:=h.1;simp[Nd.kind] at h1),iN (by intro h;have h1:=h.1;simp[Nd.kind] at h1)];by_cases h:(ks.any λk:Nd=>decide (wf=0)||decide (k.text∈(fns.getD wf rv).ps) || !iQ fns wf k.text 1)=true
 ·rw[iP h,iP ⟨rfl,h⟩]
 rw[iN h,iN λe=>h e.2]
theorem apE{K:CH}{ow:Ow}{v:ae}{fns:List ah}{bs:List Nat}(kw:j0 true K ow v fns bs)(sL:MT fns)(dN:fns.length<=4611686018427387904)(iZ : ∀F∈fns,F.ps.length<=4398046511104){A:Nat->Prop}{t:Nd}{h:Wh}{os:List ae}(hs:b9 K A (dr t) os)(hA : ∀b,A b->b<K.nx)(hf:h.f<fns.length):aR gE 34 [.agg os.toArray, .agg (rC h).toArray,v] K λr K'=>ag K K'/\r= .bool (jH fns (t,h)):=by
 obtain⟨k,l,x,o,ks⟩:=t;obtain⟨wf,j,wd,g⟩:=h;have hf:wf<fns.length:=hf;obtain⟨B,rfl,eT⟩:=ij hs;obtain⟨_,e,fO,nK,fY⟩:=mI eT;cases e;rw[gZ] at fO;have wR:=kw;obtain⟨q,kd,rfl,pe,uF,C,fc,e9⟩:=kw;obtain⟨F,b,hF,hb,ai,gT,vp,vl,vc,vf,m1,m2,m3,dH,hP,_,_,_,rH,tL,zQ,_,_,Q,_⟩:=Ga e9 hf;obtain⟨D,tm⟩:=zP hb;have E:wf<bs.length:=by rw[e9.len];exact hf
 have hG:fns.getD wf rv=F:=by rw[yw,hF];rfl
 have G:ag K ((K.new (.cells [.int .i64 (k:Nat), .int .i64 l, .string (tx x), .int .i64 (o:Nat), .slice B ks.length ks.length] 26 .ex)).new (.cells [.int .i64 (wf:Nat), .bool j, .bool wd, .bool g] 69 .ex)):=((ag.refl K).new _).new _;have eO:((K.new (.cells [.int .i64 (k:Nat), .int .i64 l, .string (tx x), .int .i64 (o:Nat), .slice B ks.length ks.length] 26 .ex)).new (.cells [.int .i64 (wf:Nat), .bool j, .bool wd, .bool g] 69 .ex)).nx=K.nx+2:=rfl;have apA:=iZ F (fi hF);have hm3n:m3<K.nx:=Q;have hNL:NL K vp F.ps:=hP.gr.nl Om;unfold rC;refine du Rl Kr (aV ?_);refine aeC (WrM K (.mk k l x o ks) B ⟨wf,j,wd,g⟩ (jH fns (.mk k l x o ks,⟨wf,j,wd,g⟩))) ?_ ?_
 ·have hw : ∀w,jH fns (.mk k l x o ks,⟨wf,j,wd,g⟩)=w->jH fns (.mk k l x o ks,⟨wf,j,wd,g⟩)=w:=λ_ h=>h;by_cases oI:k=10\/k=60
  ·by_cases V:wf=0
   ·have kF:(wf:Int)=0:=by omega
    rcases oI with rfl | rfl
    all_goals
     refine rn (gK @C @D @E) ?_;exact⟨G,al _, .inr ⟨rfl,by(exact aZ;all_goals rfl),by simp[jH,Nd.kind,Nd.kids,V]⟩⟩
   rcases oI with rfl | rfl
   all_goals
    refine rn (gK @C @D @E) ?_;exact⟨G,al _, .inl ⟨rfl,by(exact aZ;all_goals rfl),by(exact aZ;all_goals rfl),by(refine aC ?_;all_goals rfl),by(exact aZ;all_goals rfl),by simp[jH,Nd.kind,Nd.kids,V]⟩⟩
  by_cases xA:k=12\/k=13
  ·cases j
   ·rcases xA with rfl | rfl
    all_goals
     refine rn (gK @C @D @E) ?_;exact⟨G,al _, .inr ⟨rfl,by(exact aZ;all_goals rfl),by simp[jH,Nd.kind,Nd.kids]⟩⟩
   rcases xA with rfl | rfl
   all_goals
    refine rn (gK @C @D @E) ?_;exact⟨G,al _, .inl ⟨rfl,by(exact aZ;all_goals rfl),by(exact aZ;all_goals rfl),by(refine aC ?_;all_goals rfl),by(exact aZ;all_goals rfl),by simp[jH,Nd.kind,Nd.kids]⟩⟩
  by_cases Mc:k=14
  ·subst Mc;by_cases hk:ks= []
   ·subst hk;cases wd;·refine rn (gK @C @D @E) ?_;exact⟨G,al _, .inr ⟨rfl,by(exact aZ;all_goals rfl),by simp[jH,Nd.kind,Nd.kids]⟩⟩
    refine rn (gK @C @D @E) ?_;exact⟨G,al _, .inl ⟨rfl,by(exact aZ;all_goals rfl),by(exact aZ;all_goals rfl),by(refine aC ?_;all_goals rfl),by(exact aZ;all_goals rfl),by simp[jH,Nd.kind,Nd.kids]⟩⟩
   have pg:0<ks.length:=List.length_pos_iff.2 hk;refine rn (gK @C @D @E) ?_;exact⟨G,al _, .inl ⟨rfl,by(exact aZ;all_goals rfl),by(exact aZ;all_goals rfl),by(refine aC ?_;all_goals rfl),by(exact aZ;all_goals rfl),by simp[jH,Nd.kind,Nd.kids,hk]⟩⟩
  by_cases My:k=23
  ·subst My;refine rn (gK @C @D @E) ?_;refine fC (λn fr a=>WsJ (((K.new (.cells [.int .i64 ((23:Nat):Int), .int .i64 l, .string (tx x), .int .i64 (o:Nat), .slice B ks.length ks.length] 26 .ex)).new (.cells [.int .i64 (wf:Nat), .bool j, .bool wd, .bool g] 69 .ex)).new (.map #[] 0)) (K.nx+2) (ks.map Nd.text) n (fr 51) a) (n:=ks.length) ⟨0,by rw[fh];rfl,cx _,by(refine aC ?_;all_goals rfl),c7.refl _,by rw[xd];exact gH.nil (jf (K:=(K.new _).new _)),Sm⟩ ?_;rintro n fr a ⟨i,rfl,hi,f51,d,mC,Ef⟩ c;rw[fh] at hi;have eG:K.nx+3<=a.nx:=d.nx;have e1:ag K ((((K.new (.cells [.int .i64 ((23:Nat):Int), .int .i64 l, .string (tx x), .int .i64 (o:Nat), .slice B ks.length ks.length] 26 .ex)).new (.cells [.int .i64 (wf:Nat), .bool j, .bool wd, .bool g] 69 .ex)).new (.map #[] 0))):=G.new _;have L : ∀y,y<K.nx->a.ob y=K.ob y:=λy u=>(d.ob y (by show y<K.nx+1+1+1;omega) Om).trans (e1.ob y u);have z:ag K a:=⟨Om,L⟩;have jh:a.ob K.nx= .cells [.int .i64 ((23:Nat):Int), .int .i64 l, .string (tx x), .int .i64 (o:Nat), .slice B ks.length ks.length] 26 .ex:=(d.ob K.nx (by show K.nx<K.nx+1+1+1;omega) Om).trans ((bQ (by show K.nx≠K.nx+1+1;omega)).trans ((bQ (by show K.nx≠K.nx+1;omega)).trans jf));have M:a.ob (K.nx+1)= .cells [.int .i64 (wf:Nat), .bool j, .bool wd, .bool g] 69 .ex:=(d.ob (K.nx+1) (by show K.nx+1<K.nx+1+1+1;omega) Om).trans ((bQ (by show K.nx+1≠K.nx+1+1;omega)).trans (jf (K:=K.new _)));by_cases s:i<ks.length
   ·obtain⟨m,I⟩ : ∃m,ks[i]? = some m:=⟨_,bM s⟩;obtain⟨N,cs,e,lh,gi,lN,ob,yg,nI,nj,aL⟩:=fY i m I;subst gi;have R:=(L N (hA N lN)).trans ob;obtain⟨mk,ml,mx,O,cH⟩:=m;obtain⟨mq,S,zL⟩:=ij aL;have yX:i<(ks.map Nd.text).length:=by rw[fh];exact s
    have ML:(ks.map Nd.text)[i]=mx:=by
     obtain⟨_,e⟩:=List.getElem?_eq_some_iff.1 I;rw[List.getElem_map,e];rfl
    have dT:=mC.lk mx;by_cases sZ:mx∈(ks.map Nd.text).take i
    ·rw[og sZ] at dT;obtain⟨W,pf,kN⟩:=mC.up mx 2;have cA : ∀H:CH,H.ob (K.nx+2)=W->uV 1 (.int .i64 0) false (.string (tx mx)) (H.ob (K.nx+2))=some (.int .i64 2):=λH e=>by
      have:=(kN H e).lk mx;rw[iP rfl] at this;exact this
     have P:uV 1 (.int .i64 0) false (.string (tx mx)) W=some (.int .i64 2):=by
      have:=cA (a.set (K.nx+2) W) (by rw[bP,iP rfl]);rw[bP,iP rfl] at this;exact this
     have MU:Dz (ks.map Nd.text)=true:=by
      cases MU:Dz (ks.map Nd.text);·have h1:=Xy.1 MU;have h2:((ks.map Nd.text).take (i+1)).Nodup:=h1.sublist (List.take_sublist _ _);exact absurd (ML▸sZ) ((aeV yX).1 h2).2
      rfl
     repeat' (first | (simp (disch:=first | omega | (decide +kernel)) only[↓eF,↓pF,↓dy,↓HM,↓HN,↓HP,↓gX,↓gO,↓iI,↓eR,↓eS,↓dY,↓fB,↓ti,↓mz,↓aP,↓ez,↓aT,↓bf,cV,bP,dX,pE,th,↓eQ,↓nM,↓nN,iJ,sn,jM,gY,pop,aD,da,bD,fj,isVal,bu,dp,↓reduceIte,Nat.reduceEqDiff,Nat.reduceAdd,fK,fL,cw,cX,qM,tR,jz,yA,yz,GM,Cc,Kd.cD,qB,tS,al,Int.reduceAdd,fh,iK,iP,iN,bJ,gj,and_true,c,f51,R,S,dT,pf,P,bJ]) | ((with_reducible first|apply aF|apply aG|apply aH)<;>intro _))
     refine⟨((z.new _).set Om _).set Om _,by show K.nx+2<=a.nx+1;omega, .inr ⟨rfl,by(exact aZ;all_goals rfl),by simp[jH,Nd.kind,Nd.kids,MU]⟩⟩
    rw[oh sZ] at dT;obtain⟨W,pf,kN⟩:=mC.up mx 1;have P:uV 1 (.int .i64 0) false (.string (tx mx)) W=some (.int .i64 1):=by
     have:=(kN (a.set (K.nx+2) W) (by rw[bP,iP rfl])).lk mx;rw[bP,iP rfl,iP rfl] at this;exact this
    repeat' (first | (simp (disch:=first | omega | (decide +kernel)) only[↓eF,↓pF,↓dy,↓si,↓sk,↓gX,↓gO,↓iI,↓qL,↓eR,↓eS,↓dY,↓fB,↓ti,↓mz,↓aP,↓ez,↓aT,↓bf,cV,bP,dX,pE,th,↓eQ,↓nM,iJ,sn,jM,gY,pop,aD,da,bD,fj,isVal,bu,dp,↓reduceIte,Nat.reduceEqDiff,Nat.reduceAdd,fK,fL,cw,cX,qM,tR,jz,yA,yz,GM,Cc,Kd.cD,qB,tS,al,Cd,fh,iK,qN,iP,iN,bJ,gj,and_true,c,f51,R,S,dT,pf,P,bJ]) | ((with_reducible first|apply aF|apply aG|apply aH)<;>intro _))
    refine⟨ks.length-(i+1),Om,i+1,by rw[fh],by rw[fh];exact s,rfl,((d.new _).set (.inl (by show K.nx+1+1+1<=a.nx;omega)) _).set (.inr rfl) _,?_,(aeV yX).2 ⟨Ef,by rw[ML];exact sZ⟩⟩;rw[rL yX,ML,<-DK];exact kN _ (by rw[bP,iP rfl])
   have s:i=ks.length:=by omega
   have MU:Dz (ks.map Nd.text)=false:=by
    rw[s,<-fh (f:=Nd.text),pQ] at Ef;exact Xy.2 Ef
   refine rn (an @c @f51) ?_;exact⟨z,Om, .inl ⟨rfl,by(exact rz @c;all_goals rfl),by(exact rz @c;all_goals rfl),jh,M,by simp[jH,Nd.kind,Nd.kids,MU]⟩⟩
  by_cases rI:k=17
  ·subst rI;refine rn (gK @C @D @E) ?_;refine fC (λn fr a=>WaJ ((K.new (.cells [.int .i64 ((17:Nat):Int), .int .i64 l, .string (tx x), .int .i64 (o:Nat), .slice B ks.length ks.length] 26 .ex)).new (.cells [.int .i64 (wf:Nat), .bool j, .bool wd, .bool g] 69 .ex)) ks (λk:Nd=>decide (k.text∈F.ps)||decide (k.text∈F.o)) n (fr 71) a) (n:=ks.length) ⟨0,rfl,cx _,by(refine aC ?_;all_goals rfl),ag.refl _,λk hk=>by cases hk⟩ ?_;rintro n fr a ⟨i,rfl,hi,f71,d,T⟩ c;have eG:K.nx+2<=a.nx:=d.nx;have z:ag K a:=G.trans d;have jh:a.ob K.nx= .cells [.int .i64 ((17:Nat):Int), .int .i64 l, .string (tx x), .int .i64 (o:Nat), .slice B ks.length ks.length] 26 .ex:=(d.ob K.nx (by show K.nx<K.nx+1+1;omega)).trans ((bQ (by show K.nx≠K.nx+1;omega)).trans jf);have M:a.ob (K.nx+1)= .cells [.int .i64 (wf:Nat), .bool j, .bool wd, .bool g] 69 .ex:=(d.ob (K.nx+1) (by show K.nx+1<K.nx+1+1;omega)).trans (jf (K:=K.new _));have U:=(z.ob b gT).trans dH;by_cases s:i<ks.length
   ·obtain⟨m,I⟩ : ∃m,ks[i]? = some m:=⟨_,bM s⟩;obtain⟨N,cs,e,lh,gi,lN,ob,yg,nI,nj,aL⟩:=fY i m I;subst gi;have R:=(z.ob N (hA N lN)).trans ob;have gQ:=fi I;obtain⟨mk,ml,mx,O,cH⟩:=m;obtain⟨mq,S,zL⟩:=ij aL;have dF:ag a ((a.new (.cells [.int .i64 0, .int .i64 0, .string ⟨⟨[]⟩⟩, .int .i64 0, .slice none 0 0] 26 .ex)).set a.nx (.cells [.int .i64 (mk:Nat), .int .i64 ml, .string (tx mx), .int .i64 (O:Nat), .slice mq cH.length cH.length] 26 .ex)):=((ag.refl a).new _).set (al _) _;have J:=z.trans dF;have X:(λk:Nd=>decide (k.text∈F.ps)||decide (k.text∈F.o)) (.mk mk ml mx O cH)=true->jH fns (.mk 17 l x o ks,⟨wf,j,wd,g⟩)=true:=λu=>by
     have:(ks.any (λk:Nd=>decide (k.text∈F.ps)||decide (k.text∈F.o)))=true:=List.any_eq_true.2 ⟨_,gQ,u⟩;rw[aeW hG,iP this]
    have Xz:(λk:Nd=>decide (k.text∈F.ps)||decide (k.text∈F.o)) (.mk mk ml mx O cH)=false->∀k∈ks.take (i+1),(λk:Nd=>decide (k.text∈F.ps)||decide (k.text∈F.o)) k=false:=λu k hk=>by
     obtain⟨_,e⟩:=List.getElem?_eq_some_iff.1 I;rw[rL s,e] at hk;rcases List.mem_append.1 hk with h | h
     ·exact T k h
     rw[lR] at h;rw[h];exact u
    have P:=(zQ.ext (z.ob m3 hm3n)).lk mx;refine rn (rR @c @f71 @R @S @U @bJ) ?_;refine(aeU (hNL.ext J)).mono λr K2 ⟨eK,er⟩=> ?_;subst er;rw[eK];by_cases hp:mx∈F.ps
    ·rw[decide_eq_true hp];refine rn (an @c @f71) ?_;exact⟨J,by show K.nx+2<=a.nx+1;omega, .inr ⟨rfl,by(exact aZ;all_goals rfl),X (by simp[Nd.text,hp])⟩⟩
    rw[decide_eq_false hp];by_cases ho:mx∈F.o
    ·rw[og ho] at P;repeat' (first | (simp (disch:=first | omega | (decide +kernel)) only[↓eF,↓dy,↓HM,↓HN,↓HP,↓gX,↓gO,↓iI,↓eR,↓nR,↓nS,↓eS,↓dY,↓fB,↓aP,↓aT,↓bf,cV,bP,dX,↓eQ,↓nN,jM,pop,aD,↓reduceIte,Nat.reduceEqDiff,reduceCtorEq,fK,fL,iK,iN,bJ,c,U,P]) | ((with_reducible first|apply aF|apply aG|apply aH)<;>intro _))
     exact⟨J,by show K.nx+2<=a.nx+1;omega, .inr ⟨rfl,by(exact aZ;all_goals rfl),X (by simp[Nd.text,ho])⟩⟩
    rw[oh ho] at P;repeat' (first | (simp (disch:=first | omega | (decide +kernel)) only[↓dy,↓si,↓sk,↓gX,↓gO,↓qL,↓eR,↓nR,↓nS,↓eS,↓dY,↓fB,↓aP,↓aT,↓bf,cV,bP,dX,↓eQ,↓nM,iJ,jM,gY,pop,aD,↓reduceIte,Nat.reduceEqDiff,reduceCtorEq,fK,fL,qN,iN,bJ,c,f71,U,P]) | ((with_reducible first|apply aF|apply aG|apply aH)<;>intro _))
    exact⟨ks.length-(i+1),Om,i+1,rfl,s,rfl,d.trans dF,Xz (by simp[Nd.text,hp,ho])⟩
   have s:i=ks.length:=by omega
   have mE:(ks.any (λk:Nd=>decide (k.text∈F.ps)||decide (k.text∈F.o)))=false:=by
    rw[s,pQ] at T;exact List.any_eq_false.2 λk hk=>Bool.eq_false_iff.1 (T k hk)
   refine rn (an @c @f71) ?_;exact⟨z,eG, .inl ⟨rfl,by(exact rz @c;all_goals rfl),by(exact rz @c;all_goals rfl),jh,M,by rw[aeW hG,mE];rfl⟩⟩
  by_cases h18:k=18
  ·subst h18;refine rn (gK @C @D @E) ?_;refine fC (λn fr a=>WaJ ((K.new (.cells [.int .i64 ((18:Nat):Int), .int .i64 l, .string (tx x), .int .i64 (o:Nat), .slice B ks.length ks.length] 26 .ex)).new (.cells [.int .i64 (wf:Nat), .bool j, .bool wd, .bool g] 69 .ex)) ks (λk:Nd=>decide (wf=0)||decide (k.text∈F.ps) || !iQ fns wf k.text 1) n (fr 99) a) (n:=ks.length) ⟨0,rfl,cx _,by(refine aC ?_;all_goals rfl),ag.refl _,λk hk=>by cases hk⟩ ?_;rintro n fr a ⟨i,rfl,hi,f99,d,T⟩ c;have eG:K.nx+2<=a.nx:=d.nx;have z:ag K a:=G.trans d;have jh:a.ob K.nx= .cells [.int .i64 ((18:Nat):Int), .int .i64 l, .string (tx x), .int .i64 (o:Nat), .slice B ks.length ks.length] 26 .ex:=(d.ob K.nx (by show K.nx<K.nx+1+1;omega)).trans ((bQ (by show K.nx≠K.nx+1;omega)).trans jf);have M:a.ob (K.nx+1)= .cells [.int .i64 (wf:Nat), .bool j, .bool wd, .bool g] 69 .ex:=(d.ob (K.nx+1) (by show K.nx+1<K.nx+1+1;omega)).trans (jf (K:=K.new _));have U:=(z.ob b gT).trans dH;by_cases s:i<ks.length
   ·obtain⟨m,I⟩ : ∃m,ks[i]? = some m:=⟨_,bM s⟩;obtain⟨N,cs,e,lh,gi,lN,ob,yg,nI,nj,aL⟩:=fY i m I;subst gi;have R:=(z.ob N (hA N lN)).trans ob;have gQ:=fi I;obtain⟨mk,ml,mx,O,cH⟩:=m;obtain⟨mq,S,zL⟩:=ij aL;have dF:ag a ((a.new (.cells [.int .i64 0, .int .i64 0, .string ⟨⟨[]⟩⟩, .int .i64 0, .slice none 0 0] 26 .ex)).set a.nx (.cells [.int .i64 (mk:Nat), .int .i64 ml, .string (tx mx), .int .i64 (O:Nat), .slice mq cH.length cH.length] 26 .ex)):=((ag.refl a).new _).set (al _) _;have J:=z.trans dF;have X:(λk:Nd=>decide (wf=0)||decide (k.text∈F.ps) || !iQ fns wf k.text 1) (.mk mk ml mx O cH)=true->jH fns (.mk 18 l x o ks,⟨wf,j,wd,g⟩)=true:=λu=>by
     have:(ks.any (λk:Nd=>decide (wf=0)||decide (k.text∈F.ps) || !iQ fns wf k.text 1))=true:=List.any_eq_true.2 ⟨_,gQ,u⟩;rw[aeX hG,iP this]
    have Xz:(λk:Nd=>decide (wf=0)||decide (k.text∈F.ps) || !iQ fns wf k.text 1) (.mk mk ml mx O cH)=false->∀k∈ks.take (i+1),(λk:Nd=>decide (wf=0)||decide (k.text∈F.ps) || !iQ fns wf k.text 1) k=false:=λu k hk=>by
     obtain⟨_,e⟩:=List.getElem?_eq_some_iff.1 I;rw[rL s,e] at hk;rcases List.mem_append.1 hk with h | h
     ·exact T k h
     rw[lR] at h;rw[h];exact u
    by_cases V:wf=0
    ·have kF:(wf:Int)=0:=by omega
     refine rn (oA @c @f99 @R @S @U @M @kF @bJ) ?_;exact⟨J,by show K.nx+2<=a.nx+1;omega, .inr ⟨rfl,by(exact aZ;all_goals rfl),X (by simp[V])⟩⟩
    have kF:(wf:Int)≠0:=by omega
    refine rn (oA @c @f99 @R @S @U @M @kF @bJ) ?_;refine(aeU (hNL.ext J)).mono λr K2 ⟨eK,er⟩=> ?_;subst er;rw[eK];by_cases hp:mx∈F.ps
    ·rw[decide_eq_true hp];refine rn (an @c @f99) ?_;exact⟨J,by show K.nx+2<=a.nx+1;omega, .inr ⟨rfl,by(exact aZ;all_goals rfl),X (by simp[Nd.text,hp])⟩⟩
    rw[decide_eq_false hp];refine rn (gy @c @f99 @U @M) ?_;refine(aeT (wR.mv (.refl J.nx) λy u _=>J.ob y u) sL dN hf mx (least:=1) (al _)).mono λr K3 ⟨eK3,er3⟩=> ?_;subst er3;rw[eK3];cases hr:iQ fns wf mx 1;·have xw:iQ fns wf mx ((1:Nat):Int)=false:=hr;refine rn (gK @c @f99 @xw) ?_;exact⟨J,by show K.nx+2<=a.nx+1;omega, .inr ⟨rfl,by(exact aZ;all_goals rfl),X (by simp[Nd.text,hr])⟩⟩
    have xw:iQ fns wf mx ((1:Nat):Int)=true:=hr;refine rn (gK @c @f99 @xw) ?_;exact⟨ks.length-(i+1),Om,i+1,rfl,s,rfl,d.trans dF,λk hk=>by have:=Xz (by simp[Nd.text,hp,V,hr]) k hk;simpa[V] using this⟩
   have s:i=ks.length:=by omega
   have mE:(ks.any (λk:Nd=>decide (wf=0)||decide (k.text∈F.ps) || !iQ fns wf k.text 1))=false:=by
    rw[s,pQ] at T;exact List.any_eq_false.2 λk hk=>Bool.eq_false_iff.1 (T k hk)
   refine rn (an @c @f99) ?_;exact⟨z,eG, .inl ⟨rfl,by(exact rz @c;all_goals rfl),by(exact rz @c;all_goals rfl),jh,M,by rw[aeX hG,mE];rfl⟩⟩
  refine rn (gK @C @D @E) ?_;exact⟨G,al _, .inl ⟨rfl,by(exact aZ;all_goals rfl),by(exact aZ;all_goals rfl),by(refine aC ?_;all_goals rfl),by(exact aZ;all_goals rfl),by simp[jH,Nd.kind,Nd.kids,oI,xA,Mc,My,rI,h18]⟩⟩
 rintro x1 fr H ⟨hx,hn,⟨rfl,f3,f4,Y,Z,hw⟩ | ⟨rfl,f6,hw⟩⟩
 ·have hw:jH fns (.mk k l x o ks,⟨wf,j,wd,g⟩)=(g && !tH (.mk k l x o ks)):=hw;have Z:H.ob (K.nx+1)= .cells [.int .i64 (wf:Nat), .bool j, .bool wd, .bool g] 69 .ex:=Z;rw[hw,dy];have Y:H.ob K.nx= .cells [.int .i64 (k:Nat), .int .i64 l, .string (tx x), .int .i64 (o:Nat), .slice B ks.length ks.length] 26 .ex:=Y;cases g;·refine rn (gy @f3 @f4 @Y @Z) ?_;exact hx
  refine rn (gy @f3 @f4 @Y @Z) ?_;refine(apC (A:=A) (hs.mv λy u=>⟨u,hx.ob y (hA y u)⟩) (λy u=>cj (hA y u) hx.nx)).mono λr a ⟨d,er⟩=> ?_;subst er;cases pm:tH (.mk k l x o ks);·refine rn (gy @f3 @f4 @Y @Z) ?_;exact hx.trans d
  refine rn (gy @f3 @f4 @Y @Z) ?_;exact hx.trans d
 rw[hw];refine rn @f6 ?_;exact hx
theorem j0.mv9{mp:Bool}{K K':CH}{ow bY:Ow}{v:ae}{fns:List ah}{bs:List Nat}(h:j0 mp K ow v fns bs)(hx:pd ow bY K K')(ho : ∀y i j,y<K.nx->ow y=some (i,j)->j<=9->K'.ob y=K.ob y):j0 mp K' bY v fns bs:=by
 obtain⟨q,kd,h1,h2,h3,h4,h5,a⟩:=h;exact⟨q,kd,h1,(hx.ow q h3).trans h2,cj h3 hx.nx,(ho q 0 9 h3 h2 de).trans h4,h5,a.len,λi F b g1 g2=>(a.get i F b g1 g2).mv hx λb j c d e=>ho b i j c d Om⟩
theorem j0.aeY{mp:Bool}{K K':CH}{ow bY:Ow}{v:ae}{fns:List ah}{bs:List Nat}{i b:Nat}{F:ah}{u:ah->ah}(h:j0 mp K ow v fns bs)(e:fns[i]? = some F)(hb:bs[i]? = some b)(hx:pd ow bY K K')(ho : ∀x c j,x<K.nx->ow x=some (c,j)->j<=9->(c≠i\/7<j)->K'.ob x=K.ob x)(hn:FY mp K' bY i b (u F)):j0 mp K' bY v (dC fns i u) bs:=by
 obtain⟨q,kd,h1,h2,h3,h4,h5,d⟩:=h;refine⟨q,kd,h1,(hx.ow q h3).trans h2,cj h3 hx.nx,(ho q 0 9 h3 h2 de (.inr de)).trans h4,h5,by rw[BS];exact d.len,λi2 a f g1 g2=> ?_⟩;unfold dC at g1;rw[vV] at g1;by_cases hi:i=i2
 ·subst hi;rw[e] at g1;rw[hb] at g2;cases g2;have g1:u F=a:=by simpa using g1
  rw[<-g1];exact hn
 simp only[iN hi] at g1;have g1:fns[i2]? = some a:=by simpa using g1
 exact(d.get i2 a f g1 g2).mv hx λx j g k l=>ho x i2 j g k Om (.inl (sS hi))
def rJ (fns:List ah)(pre:List Ev):Bool×Int:=match pre.find? (jH fns) with
 | some e=>(true,e.1.line)
 | none=>(false,0)
theorem XA{fns:List ah}{pre:List Ev}{e:Ev}:rJ fns (pre++ [e])=if (rJ fns pre).1=true then rJ fns pre else if jH fns e=true then (true,e.1.line) else (false,0):=by
 unfold rJ;rw[List.find?_append];cases h:pre.find? (jH fns) with
 | some e'=>rfl
 | none=>
   simp only[Option.none_or,List.find?_cons,List.find?_nil];cases hw:jH fns e<;>rfl
def JW (p a bl:Nat)(fns:List ah):JT:=λpre K W=>∃(ow:Ow) (v:ae) (bs:List Nat),(∀b,W b↔ow b≠none)/\(∀b,ow b≠none->b<K.nx)/\ow p=some (0,8)/\K.ob p= .cells [v] 65 .ex/\j0 true K ow v fns bs/\ow a=some (0,12)/\K.ob a= .cells [.bool (rJ fns pre).1] 4 .ex/\ow bl=some (0,13)/\K.ob bl= .cells [.int .i64 (rJ fns pre).2] 3 .ex
theorem JW.ok{p a bl:Nat}{fns:List ah}:zD (JW p a bl fns) where
 st:=λpre K K' W ⟨ow,v,bs,h1,h2,h3,h4,h5,c,e,d,f⟩ hn hx=>⟨ow,v,bs,h1,λb hb=>cj (h2 b hb) hn,h3,(hx p ((h1 p).2 (by rw[h3];simp))).trans h4,h5.mv (.refl hn) λb _ hb=>hx b ((h1 b).2 hb),c,(hx a ((h1 a).2 (by rw[c];simp))).trans e,d,(hx bl ((h1 bl).2 (by rw[d];simp))).trans f⟩
 lt:=λpre K W ⟨ow,v,bs,h1,h2,_⟩ b hb=>h2 b ((h1 b).1 hb)
theorem apF{p b bl:Nat}{E:List Ev}{fns:List ah}(sL:MT fns)(dN:fns.length<=4611686018427387904)(iZ : ∀F∈fns,F.ps.length<=4398046511104)(hf : ∀e∈E,e.2.f<fns.length):DB 33 [pN b,pN p,pN bl] E (JW p b bl fns):=by
 rintro pre ⟨t,h⟩ rest K W A os vH T hs hA;have U:=T;obtain⟨ow,v,bs,B,z,s,C,V,m,w,u,E5⟩:=T;have dK:p<K.nx:=z p (by rw[s];simp);have gT:b<K.nx:=z b (by rw[m];simp);have dP:bl<K.nx:=z bl (by rw[u];simp);have aA:b≠bl:=λe=>by rw[e,u] at m;simp at m
 have gd:h.f<fns.length:=hf (t,h) (by rw[<-vH];simp);obtain⟨k,l,x,o,ks⟩:=t;obtain⟨X,rfl,eT⟩:=ij hs;have n:ag K ((K.new (.cells [.int .i64 (k:Nat), .int .i64 l, .string (tx x), .int .i64 (o:Nat), .slice X ks.length ks.length] 26 .ex)).new (.cells [.int .i64 (h.f:Nat), .bool h.lp, .bool h.hd, .bool h.mb] 69 .ex)):=((ag.refl K).new _).new _;have Y:=apE (V.mv (.refl n.nx) λy a _=>n.ob y a) sL dN iZ (A:=A) (h:=h) (hs.mv λy a=>⟨a,n.ob y (hA y a).1⟩) (λy a=>cj (hA y a).1 n.nx) gd;unfold rC at Y⊢;cases hb:(rJ fns pre).1
 ·rw[hb] at w;refine du Rl Kr (aV ?_);refine rn (an @w @C) ?_;refine Y.mono λr D ⟨G,er⟩=> ?_;subst er;have eG:K.nx+1+1<=D.nx:=G.nx;have c:=n.trans G;have jh:D.ob K.nx= .cells [.int .i64 (k:Nat), .int .i64 l, .string (tx x), .int .i64 (o:Nat), .slice X ks.length ks.length] 26 .ex:=(G.ob K.nx (by show K.nx<K.nx+1+1;omega)).trans ((bQ (by show K.nx≠K.nx+1;omega)).trans jf);have gM:=(c.ob b gT).trans w;have H:=(c.ob bl dP).trans E5;cases hw:jH fns (.mk k l x o ks,h)
  ·refine aC ?_;refine⟨W,?_,VX.ext c⟩;obtain⟨ow,v,bs,I,J,L,M,N,O,P,Q,R⟩:=JW.ok.hx U c;have d:rJ fns (pre++ [(.mk k l x o ks,h)])=rJ fns pre:=by
    rw[XA,iN (by rw[hb];simp),iN (by rw[hw];simp)];revert hb
    unfold rJ;cases pre.find? (jH fns) with
    | some e=>intro hb;cases hb
    | none=>intro _;rfl
   exact⟨ow,v,bs,I,J,L,M,N,O,by rw[d];exact P,Q,by rw[d];exact R⟩
  have d:rJ fns (pre++ [(.mk k l x o ks,h)])=(true,l):=by
   rw[XA,iN (by rw[hb];simp),iP hw];rfl
  refine rn (gy @gM @H @jh @aA) ?_;have S : ∀Z o2 y,y<K.nx->y≠b->y≠bl->((D.set b Z).set bl o2).ob y=K.ob y:=λZ o2 y a h1 h2=>by
   rw[cv h2,cv h1];exact c.ob y a
  have xN:p≠b:=λe=>by rw[e,m] at s;simp at s
  have tm:p≠bl:=λe=>by rw[e,u] at s;simp at s
  refine⟨W,⟨ow,v,bs,B,λy a=>cj (z y a) c.nx,s,(S _ _ p dK xN tm).trans C,?_,m,?_,u,?_⟩,⟨c.nx,λy g1 g2 _=>S _ _ y g1 (λe=>g2 ((B y).2 (by rw[e,m];simp))) (λe=>g2 ((B y).2 (by rw[e,u];simp))),λy g=> .inl g⟩⟩;·exact V.mv9 (.refl c.nx) λy i j g1 g2 g3=>S _ _ y g1 (λe=>by rw[e,m] at g2;simp only[Option.some.injEq,Prod.mk.injEq] at g2;omega) (λe=>by rw[e,u] at g2;simp only[Option.some.injEq,Prod.mk.injEq] at g2;omega)
  ·rw[d,cv aA,bP,iP rfl]
  rw[d,bP,iP rfl]
 rw[hb] at w;refine du Rl Kr (aV ?_);refine rn (an @w @C) ?_;refine⟨W,?_,VX.ext n⟩;obtain⟨ow,v,bs,I,J,L,M,N,O,P,Q,R⟩:=JW.ok.hx U n;have d:rJ fns (pre++ [(.mk k l x o ks,h)])=rJ fns pre:=by rw[XA,iP hb]
 exact⟨ow,v,bs,I,J,L,M,N,O,by rw[d];exact P,Q,by rw[d];exact R⟩
def Gc (ow:Ow)(bs ms:List Nat)(a:Nat)(c:Kd)(v hv:ae)(st:List ah)(K:CH)(W:Nat->Prop):Prop:=(∀b,W b↔ow b≠none)/\(∀b,ow b≠none->b<K.nx)/\j0 true K ow v st bs/\hv= .slice (some ⟨a,0,none⟩) ms.length ms.length/\ms.length=st.length/\ow a=some (0,15)/\K.ob a= .cells (ms.map λm=> .map (some m)) 56 c/\∀i F m,st[i]? = some F->ms[i]? = some m->ow m=some (i,14)/\m<K.nx/\gH K m (mf F.fs)
def lx (v hv:ae)(st:List ah)(K:CH)(W:Nat->Prop):Prop:=∃(ow:Ow) (bs ms:List Nat) (a:Nat) (b:Kd),Gc ow bs ms a b v hv st K W
theorem lx.st{v hv:ae}{st:List ah}{K K':CH}{W:Nat->Prop}(h:lx v hv st K W)(hn:K.nx<=K'.nx)(hx : ∀b,W b->K'.ob b=K.ob b):lx v hv st K' W:=by
 obtain⟨ow,bs,ms,a,e,h1,h2,h3,h4,h5,c,f,g⟩:=h;exact⟨ow,bs,ms,a,e,h1,λb hb=>cj (h2 b hb) hn,h3.mv (.refl hn) λb _ hb=>hx b ((h1 b).2 hb),h4,h5,c,(hx a ((h1 a).2 (by rw[c];simp))).trans f,λi F m g1 g2=>by
  obtain⟨d,j,k⟩:=g i F m g1 g2;exact⟨d,cj j hn,k.ext (hx m ((h1 m).2 (by rw[d];simp)))⟩⟩
theorem lx.lt{v hv:ae}{st:List ah}{K:CH}{W:Nat->Prop}(h:lx v hv st K W) : ∀b,W b->b<K.nx:=by
 obtain⟨ow,bs,ms,a,c,h1,h2,_⟩:=h;exactλb hb=>h2 b ((h1 b).1 hb)
theorem lx.hx{v hv:ae}{st:List ah}{K K':CH}{W:Nat->Prop}(h:lx v hv st K W)(hx:ag K K'):lx v hv st K' W:=h.st hx.nx λb hb=>hx.ob b (h.lt b hb)
theorem Gc.add{ow:Ow}{bs ms:List Nat}{w:Nat}{R:Kd}{v hv:ae}{st:List ah}{K:CH}{W:Nat->Prop}(h:Gc ow bs ms w R v hv st K W){f:Nat}{F:ah}(H:st[f]? = some F)(s:Bs) : ∃(b m:Nat) (vp vl vc vf:ae) (m1 m2 m3:Nat),ow b=some (f,0)/\ow m=some (f,14)/\(∀o n c y,vf= .slice (some ⟨y,o,none⟩) n c->ow y=some (f,4))/\(∃q L kd n,v= .slice (some ⟨q,0,none⟩) n n/\K.ob q= .cells L 73 kd/\L[f]? = some (pN b)/\f<n/\f<L.length/\q<K.nx/\W q/\q≠b/\q≠m/\ik vf q)/\(∃q L kd n,hv= .slice (some ⟨q,0,none⟩) n n/\K.ob q= .cells L 56 kd/\L[f]? = some (.map (some m))/\f<n/\f<L.length/\q<K.nx/\W q/\q≠b/\q≠m/\ik vf q)/\W b/\W m/\b<K.nx/\m<K.nx/\b≠m/\K.ob b= .cells [.string (tx F.nm), .int .i64 F.par,vp,vl,vc,vf, .bool F.gen, .map (some m1), .map (some m2), .map (some m3)] 75 .ex/\gH K m1 (mf (F.ps++F.ls))/\gH K m2 (mf F.g)/\gH K m (mf F.fs)/\gP (wP 0) 9 1 jT K vf F.fs/\ik vf b/\ik vf m/\
 (∀o n c y,vf= .slice (some ⟨y,o,none⟩) n c->W y)/\
 ∀(K':CH) (r:Nat),K.nx<=r->r<K'.nx->(∀y,y<K.nx->W y->y≠b->y≠m->ik vf y->K'.ob y=K.ob y)->gH K' m (mf (F.fs++ [s]))->K'.ob r= .cells ((F.fs++ [s]).flatMap jT) 9 .gr->K'.ob b= .cells [.string (tx F.nm), .int .i64 F.par,vp,vl,vc, .slice (some ⟨r,0,none⟩) (F.fs.length+1) (F.fs.length+1), .bool F.gen, .map (some m1), .map (some m2), .map (some m3)] 75 .ex->∃bY,Gc bY bs ms w R v hv (dC st f λF=> { F with fs:=F.fs++ [s] }) K' (λy=>W y\/y=r)/\pd ow bY K K':=by
 obtain⟨B,P,kw,I,Q,d,J,MV⟩:=h;have wR:=kw;obtain⟨q,kd,rfl,D,uF,iA,yg,S⟩:=kw;have M:f<st.length:=(List.getElem?_eq_some_iff.1 H).1;obtain⟨N,b,T,hb,x,gT,pU⟩:=Ga S M;obtain rfl:N=F:=by rw[H] at T;cases T;rfl
 obtain⟨_,_,vp,vl,vc,vf,w1,w2,w3,dH,k⟩:=S.get f N b T hb;obtain⟨m1,rfl,vn,eG,rH⟩:=wQ k.b;obtain⟨m2,rfl,mr,l7,tL⟩:=wQ k.g;obtain⟨m3,rfl,sb,uA,zQ⟩:=wQ k.o;obtain⟨m,U⟩ : ∃m,ms[f]? = some m:=⟨_,bM (by rw[Q];exact M)⟩;obtain⟨z,kN,pm⟩:=MV f N m H U;have uz:b≠m:=λe=>by rw[e,z] at x;simp at x
 have E : ∀o n c y,vf= .slice (some ⟨y,o,none⟩) n c->ow y=some (f,4):=λo n c y A=>by
  rcases k.f with ⟨_,g⟩ | ⟨r',nV,g,g1,_⟩
  ·rw[g] at A;cases A
  rw[g] at A;cases A;exact g1
 have O : ∀y i j,ow y=some (i,j)->(i≠f\/j≠4)->ik vf y:=λy i j e aA o n c A=>by
  have:=E o n c y A;rw[e] at this;simp only[Option.some.injEq,Prod.mk.injEq] at this;omega
 obtain⟨jy,MW⟩:=zP hb;refine⟨b,m,vp,vl,vc,vf,m1,m2,m3,x,z,E,⟨q,_,kd,_,rfl,iA,jy,by rw[S.len];exact M,MW,uF,(B q).2 (by rw[D];simp),λe=>by rw[e,x] at D;simp at D,λe=>by rw[e,z] at D;simp at D,O q _ _ D (.inr de)⟩,⟨w,_,R,_,I,J,by rw[hY,U];rfl,by rw[Q];exact M,by rw[fh,Q];exact M,P w (by rw[d];simp),(B w).2 (by rw[d];simp),λe=>by rw[e,x] at d;simp at d,λe=>by rw[e,z] at d;simp at d,O w _ _ d (.inr de)⟩,(B b).2 (by rw[x];simp),(B m).2 (by rw[z];simp),gT,kN,uz,dH,rH,tL,pm,k.f.gr,λo n c e=>by have:=E o n c b e;rw[x] at this;simp at this,λo n c e=>by have:=E o n c m e;rw[z] at this;simp at this,λo n c y e=>(B y).2 (by rw[E o n c y e];simp),?_⟩;intro K' r CE DN jE mC eT V;let bY:Ow:=λy=>if y=r then some (f,4) else ow y
 have a:pd ow bY K K':=⟨Om,λy C=>by
  show(if y=r then _ else ow y)=ow y;rw[iN Om]⟩
 have hk : ∀y i j,y<K.nx->ow y=some (i,j)->(i≠f\/(j≠0/\j≠4/\j≠14))->K'.ob y=K.ob y:=λy i j C e aA=>jE y C ((B y).2 (by rw[e];simp)) (λX=>by rw[X,x] at e;simp only[Option.some.injEq,Prod.mk.injEq] at e;omega) (λX=>by rw[X,z] at e;simp only[Option.some.injEq,Prod.mk.injEq] at e;omega) λo n c A=>by
  have:=E o n c y A;rw[e] at this;simp only[Option.some.injEq,Prod.mk.injEq] at this;omega
 refine⟨bY,⟨λy=> ?_,λy C=> ?_,?_,I,by rw[BS];exact Q,(a.ow w (P w (by rw[d];simp))).trans d,(hk w _ _ (P w (by rw[d];simp)) d (.inr de)).trans J,λi G Y g1 g2=> ?_⟩,a⟩
 ·show _↔(if y=r then some (f,4) else ow y)≠none;show(W y\/y=r)↔_;by_cases h1:y=r
  ·rw[iP h1];simp[h1]
  rw[iN h1,B];simp[h1]
 ·have C:(if y=r then some (f,4) else ow y)≠none:=C;by_cases h1:y=r
  ·omega
  rw[iN h1] at C;have:=P y C;omega
 ·refine wR.aeY H hb a (λy i j g1 g2 g3 g4=>hk y i j g1 g2 Om) ?_;refine⟨(a.ow b gT).trans x,Om,vp,vl,vc,_,_,_,_,V,?_⟩;exact⟨k.p.mv a λy t u=>hk y _ _ t u (.inr de),k.l.mv a λy t u=>hk y _ _ t u (.inr de),k.c.mv a λy t u=>hk y _ _ t u (.inr de), .inr ⟨r, .gr,Sm,iP rfl,DN,eT,rfl⟩,k.b.mv a λy t u=>hk y _ _ t u (.inr de),k.g.mv a λy t u=>hk y _ _ t u (.inr de),k.o.mv a λy t u=>hk y _ _ t u (.inr de)⟩
 unfold dC at g1;rw[vV] at g1;by_cases Z:f=i
 ·subst Z;rw[H] at g1;rw[U] at g2;cases g2;have g1 : { N with fs:=N.fs++ [s] }=G:=by simpa using g1
  rw[<-g1];exact⟨(a.ow m kN).trans z,Om,mC⟩
 have g1:st[i]? = some G:=by simpa[iN Z] using g1
 obtain⟨q1,q2,q3⟩:=MV i G Y g1 g2;exact⟨(a.ow Y q2).trans q1,Om,q3.ext (hk Y i 14 q2 q1 (.inl (sS Z)))⟩
theorem lx.add{v hv:ae}{st:List ah}{K:CH}{W:Nat->Prop}(h:lx v hv st K W){f:Nat}{F:ah}(a:st[f]? = some F)(s:Bs) : ∃(b m:Nat) (vp vl vc vf:ae) (m1 m2 m3:Nat),(∃q L kd n,v= .slice (some ⟨q,0,none⟩) n n/\K.ob q= .cells L 73 kd/\L[f]? = some (pN b)/\f<n/\f<L.length/\q<K.nx/\W q/\q≠b/\q≠m/\ik vf q)/\(∃q L kd n,hv= .slice (some ⟨q,0,none⟩) n n/\K.ob q= .cells L 56 kd/\L[f]? = some (.map (some m))/\f<n/\f<L.length/\q<K.nx/\W q/\q≠b/\q≠m/\ik vf q)/\W b/\W m/\b<K.nx/\m<K.nx/\b≠m/\K.ob b= .cells [.string (tx F.nm), .int .i64 F.par,vp,vl,vc,vf, .bool F.gen, .map (some m1), .map (some m2), .map (some m3)] 75 .ex/\gH K m1 (mf (F.ps++F.ls))/\gH K m2 (mf F.g)/\gH K m (mf F.fs)/\gP (wP 0) 9 1 jT K vf F.fs/\ik vf b/\ik vf m/\
 (∀o n c y,vf= .slice (some ⟨y,o,none⟩) n c->W y)/\
 ∀(K':CH) (r:Nat),K.nx<=r->r<K'.nx->(∀y,y<K.nx->W y->y≠b->y≠m->ik vf y->K'.ob y=K.ob y)->gH K' m (mf (F.fs++ [s]))->K'.ob r= .cells ((F.fs++ [s]).flatMap jT) 9 .gr->K'.ob b= .cells [.string (tx F.nm), .int .i64 F.par,vp,vl,vc, .slice (some ⟨r,0,none⟩) (F.fs.length+1) (F.fs.length+1), .bool F.gen, .map (some m1), .map (some m2), .map (some m3)] 75 .ex->lx v hv (dC st f λF=> { F with fs:=F.fs++ [s] }) K' (λy=>W y\/y=r):=by
 obtain⟨ow,bs,ms,d,e,h⟩:=h;obtain⟨b,m,vp,vl,vc,vf,m1,m2,m3,_,_,_,g1,g2,g3,g4,g5,g6,g7,g8,g9,g10,g11,g12,g13,g14,g15,g16⟩:=h.add a s;refine⟨b,m,vp,vl,vc,vf,m1,m2,m3,g1,g2,g3,g4,g5,g6,g7,g8,g9,g10,g11,g12,g13,g14,g15,λK' r i j k l p t=> ?_⟩;obtain⟨bY,q,_⟩:=g16 K' r i j k l p t;exact⟨bY,bs,ms,d,e,q⟩
theorem lx.fv{v hv:ae}{st:List ah}{K:CH}{W:Nat->Prop}(h:lx v hv st K W) : ∃ow bs,j0 true K ow v st bs:=by
 obtain⟨ow,bs,ms,a,b,h1,h2,h3,_⟩:=h;exact⟨ow,bs,h3⟩
structure FB(b3 b4:Nat)(v hv:ae)(K:CH)(W:Nat->Prop):Prop where
 o3:K.ob b3= .cells [v] 65 .ex
 o4:K.ob b4= .cells [hv] 103 .ex
 l3:b3<K.nx
 l4:b4<K.nx
 w3 : ¬W b3
 w4 : ¬W b4
theorem FB.ex{b3 b4:Nat}{v hv:ae}{K K':CH}{W W' X:Nat->Prop}(h:FB b3 b4 v hv K W)(hx:VX X W W' K K')(h3 : ¬X b3)(h4 : ¬X b4):FB b3 b4 v hv K' W':=by
 obtain⟨c,d,e,f,a,b⟩:=h;have hn:=hx.nx;exact⟨(hx.ob _ e a h3).trans c,(hx.ob _ f b h4).trans d,Om,Om,λw=>(hx.w _ w).elim a λg=>by omega,λw=>(hx.w _ w).elim b λg=>by omega⟩
def Ge (st:List ah)(f:Nat)(F:ah)(s:Bs):Prop:=s= []\/F.binds s\/s∈F.g\/s∈F.fs\/iQ st f s 0=false
instance (st:List ah) (f:Nat) (F:ah) (s:Bs):Decidable (Ge st f F s):=inferInstanceAs (Decidable (_\/_))
theorem apI{st:List ah}{f:Nat}{F:ah}{s:Bs}(a:st[f]? = some F)(h:Ge st f F s):dv st f s=st:=by
 unfold dv;have h':s= []\/F.binds s\/s∈F.g\/s∈F.fs\/iQ st f s 0=false:=h;rw[MP a,iP h'];exact QX a
theorem apJ{st:List ah}{f:Nat}{F:ah}{s:Bs}(a:st[f]? = some F)(h : ¬Ge st f F s):dv st f s=dC st f λF=> { F with fs:=F.fs++ [s] }:=by
 unfold dv;have h' : ¬(s= []\/F.binds s\/s∈F.g\/s∈F.fs\/iQ st f s 0=false):=h;rw[MP a,iN h',MP (u:=λF=> { F with fs:=F.fs++ [s] }) a]
def NdM (K:CH)(st:List ah)(f:Nat)(F:ah)(s:Bs)(b3 b4 b:Nat)(x:bq)(fr:Fr)(H:CH):Prop:=H=K/\((x= .normal/\fr 0= .int .i64 (f:Nat)/\fr 1= .string (tx s)/\fr 2=pN b3/\fr 3=pN b4/\fr 6=pN b/\¬Ge st f F s)\/(x= .ret/\Ge st f F s))
theorem apK{v hv:ae}{st:List ah}{K:CH}{W:Nat->Prop}{b3 b4:Nat}(h:lx v hv st K W)(U:FB b3 b4 v hv K W)(V:MT st)(X:st.length<=4611686018427387904){f:Nat}{F:ah}(C:st[f]? = some F)(uT:F.fs.length<=1099511627776)(s:Bs):aR gE 62 [.int .i64 (f:Nat), .string (tx s),pN b3,pN b4] K λ_ K'=>∃W',lx v hv (dv st f s) K' W'/\VX n9 W W' K K':=by
 obtain⟨o3,o4,l3,l4,w3,w4⟩:=U;have Y:f<st.length:=(List.getElem?_eq_some_iff.1 C).1;obtain⟨ow,bs,Z⟩:=h.fv;obtain⟨b,m,vp,vl,vc,vf,m1,m2,m3,⟨q,L,kd,n,rfl,u,w,q2,q3,q4,qW,q5,q6,q7⟩,⟨hq,L2,lh,n2,rfl,x,z,r2,r3,r4,rW,r5,r6,r7⟩,IN,MX,gT,kN,N,l,rH,tL,O,oX,ai,P,yo,ta⟩:=h.add C s;have i:=zb (a:=s) (b:= []);have t:=rH.lk s;have j:=tL.lk s;have d:=O.lk s;refine du Rl Kr (aV ?_);refine QB (NdM K st f F s b3 b4 b) ?_ ?_
 ·by_cases D:s= []
  ·rw[decide_eq_true D] at i;have i:bV (binOp .eql 0 (.string (tx s)) (.string ⟨⟨[]⟩⟩))=some (.bool true):=i;refine rn (gy @o3 @u @w @i) ?_;exact⟨rfl, .inr ⟨rfl, .inl D⟩⟩
  rw[decide_eq_false D] at i;have i:bV (binOp .eql 0 (.string (tx s)) (.string ⟨⟨[]⟩⟩))=some (.bool false):=i;by_cases hp:s∈F.ps++F.ls
  ·rw[og hp] at t;have B:Ge st f F s:= .inr (.inl (List.mem_append.1 hp));by_cases hg:s∈F.g
   ·rw[og hg] at j;by_cases ho:s∈F.fs
    ·rw[og ho] at d;repeat' (first | (simp (disch:=first | omega | (decide +kernel)) only[↓eF,↓dy,↓gX,↓lF,↓gO,↓iI,↓eR,↓nR,↓nS,↓sj,↓eS,↓dY,↓fB,↓aP,↓aT,↓bf,dX,↓eQ,↓nN,bK,fS,iJ,jM,gY,pop,aD,↓reduceIte,Nat.reduceEqDiff,Int.reduceOfNat,reduceCtorEq,fK,fL,Int.reduceAdd,iK,iP,iB,bJ,gj,i,o3,o4,u,w,x,z,l,t,j,d]) | ((with_reducible first|apply aF|apply aG|apply aH)<;>intro _))
     exact⟨rfl, .inr ⟨rfl,B⟩⟩
    rw[oh ho] at d;repeat' (first | (simp (disch:=first | omega | (decide +kernel)) only[↓eF,↓dy,↓gX,↓lF,↓gO,↓iI,↓eR,↓nR,↓nS,↓sj,↓eS,↓dY,↓fB,↓aP,↓aT,↓bf,dX,↓eQ,↓nN,bK,fS,iJ,jM,gY,pop,aD,↓reduceIte,Nat.reduceEqDiff,Int.reduceOfNat,reduceCtorEq,fK,fL,Int.reduceAdd,sT,iK,iP,iB,bJ,gj,i,o3,o4,u,w,x,z,l,t,j,d]) | ((with_reducible first|apply aF|apply aG|apply aH)<;>intro _))
    exact⟨rfl, .inr ⟨rfl,B⟩⟩
   rw[oh hg] at j;by_cases ho:s∈F.fs
   ·rw[og ho] at d;repeat' (first | (simp (disch:=first | omega | (decide +kernel)) only[↓eF,↓dy,↓gX,↓lF,↓gO,↓iI,↓eR,↓nR,↓nS,↓sj,↓eS,↓dY,↓fB,↓aP,↓aT,↓bf,dX,↓eQ,↓nN,bK,fS,iJ,jM,gY,pop,aD,↓reduceIte,Nat.reduceEqDiff,Int.reduceOfNat,reduceCtorEq,fK,fL,Int.reduceAdd,sT,iK,iP,iB,bJ,gj,i,o3,o4,u,w,x,z,l,t,j,d]) | ((with_reducible first|apply aF|apply aG|apply aH)<;>intro _))
    exact⟨rfl, .inr ⟨rfl,B⟩⟩
   rw[oh ho] at d;repeat' (first | (simp (disch:=first | omega | (decide +kernel)) only[↓eF,↓dy,↓gX,↓lF,↓gO,↓iI,↓eR,↓nR,↓nS,↓sj,↓eS,↓dY,↓fB,↓aP,↓aT,↓bf,dX,↓eQ,↓nN,bK,fS,iJ,jM,gY,pop,aD,↓reduceIte,Nat.reduceEqDiff,Int.reduceOfNat,reduceCtorEq,fK,fL,sT,iK,iP,iB,bJ,gj,i,o3,o4,u,w,x,z,l,t,j,d]) | ((with_reducible first|apply aF|apply aG|apply aH)<;>intro _))
   exact⟨rfl, .inr ⟨rfl,B⟩⟩
  rw[oh hp] at t;have zU : ¬F.binds s:=λh=>hp (List.mem_append.2 h);by_cases hg:s∈F.g
  ·rw[og hg] at j;have B:Ge st f F s:= .inr (.inr (.inl hg));by_cases ho:s∈F.fs
   ·rw[og ho] at d;repeat' (first | (simp (disch:=first | omega | (decide +kernel)) only[↓eF,↓dy,↓gX,↓lF,↓gO,↓iI,↓eR,↓nR,↓nS,↓sj,↓eS,↓dY,↓fB,↓aP,↓aT,↓bf,dX,↓eQ,↓nN,bK,fS,iJ,jM,gY,pop,aD,↓reduceIte,Nat.reduceEqDiff,Int.reduceOfNat,reduceCtorEq,fK,fL,Int.reduceAdd,Cd,iK,iP,iB,bJ,gj,i,o3,o4,u,w,x,z,l,t,j,d]) | ((with_reducible first|apply aF|apply aG|apply aH)<;>intro _))
    exact⟨rfl, .inr ⟨rfl,B⟩⟩
   rw[oh ho] at d;repeat' (first | (simp (disch:=first | omega | (decide +kernel)) only[↓eF,↓dy,↓gX,↓lF,↓gO,↓iI,↓eR,↓nR,↓nS,↓sj,↓eS,↓dY,↓fB,↓aP,↓aT,↓bf,dX,↓eQ,↓nN,bK,fS,iJ,jM,gY,pop,aD,↓reduceIte,Nat.reduceEqDiff,Int.reduceOfNat,reduceCtorEq,fK,fL,Cd,sT,iK,iP,iB,bJ,gj,i,o3,o4,u,w,x,z,l,t,j,d]) | ((with_reducible first|apply aF|apply aG|apply aH)<;>intro _))
   exact⟨rfl, .inr ⟨rfl,B⟩⟩
  rw[oh hg] at j;by_cases ho:s∈F.fs
  ·rw[og ho] at d;repeat' (first | (simp (disch:=first | omega | (decide +kernel)) only[↓eF,↓dy,↓gX,↓lF,↓gO,↓iI,↓eR,↓nR,↓nS,↓sj,↓eS,↓dY,↓fB,↓aP,↓aT,↓bf,dX,↓eQ,↓nN,bK,fS,iJ,jM,gY,pop,aD,↓reduceIte,Nat.reduceEqDiff,Int.reduceOfNat,reduceCtorEq,fK,fL,Cd,sT,iK,iP,iB,bJ,gj,i,o3,o4,u,w,x,z,l,t,j,d]) | ((with_reducible first|apply aF|apply aG|apply aH)<;>intro _))
   exact⟨rfl, .inr ⟨rfl, .inr (.inr (.inr (.inl ho)))⟩⟩
  rw[oh ho] at d;repeat' (first | (simp (disch:=first | omega | (decide +kernel)) only[↓eF,↓dy,↓gX,↓lF,↓eR,↓nR,↓nS,↓eS,↓dY,↓fB,↓KK,↓aP,↓aT,↓bf,dX,↓eQ,bK,fS,iJ,jM,gY,pop,aD,dG,nz,↓reduceIte,Nat.reduceEqDiff,Int.reduceOfNat,reduceCtorEq,fK,fL,sT,qN,iP,iB,bJ,gj,i,o3,o4,u,w,x,z,l,t,j,d]) | ((with_reducible first|apply aF|apply aG|apply aH)<;>intro _))
  refine(aeT Z V X Y s (least:=0) (cx _)).mono λr K1 ⟨eK,er⟩=> ?_;subst er;rw[eK];cases E:iQ st f s 0;·have I:iQ st f s ((0:Nat):Int)=false:=E;refine rn @I ?_;exact⟨rfl, .inr ⟨rfl, .inr (.inr (.inr (.inr E)))⟩⟩
  have I:iQ st f s ((0:Nat):Int)=true:=E;refine rn @I ?_;refine⟨rfl, .inl ⟨rfl,by(exact aZ;all_goals rfl),by(exact aZ;all_goals rfl),by(exact aZ;all_goals rfl),by(exact aZ;all_goals rfl),by(exact aZ;all_goals rfl),λhc=> ?_⟩⟩;rcases hc with h | h | h | h | h
  ·exact D h
  ·exact zU h
  ·exact hg h
  ·exact ho h
  rw[E] at h;cases h
 rintro x1 fr H ⟨Q,⟨rfl,f0,f1,f2,f3,f6,mE⟩ | ⟨rfl,B⟩⟩
 ·rw[apJ C mE,dy,Q];obtain⟨oo,pf,XB⟩:=O.up s 1;repeat' (first | (simp (disch:=first | omega | (decide +kernel)) only[↓eF,↓dy,↓gX,↓eR,↓eS,↓dY,↓fB,↓ti,↓mz,↓aP,↓ez,↓aT,↓bf,qE,cV,bP,dX,pE,th,↓eQ,pop,aD,da,bD,fj,isVal,dp,dG,nz,fg,↓reduceIte,Nat.reduceEqDiff,Int.reduceOfNat,reduceCtorEq,fK,fL,cw,cX,qM,qQ,xI,Ai,tR,ly,jz,GK,yA,qB,tS,iv,Nat.reduceLeDiff,al,wB,↓xH,qP,iP,iN,iB,bJ,lP,gj,and_true,f0,f1,f3,f6,o4,x,z,l,pf]) | ((with_reducible first|apply aF|apply aG|apply aH)<;>intro _))
  have R : ∀y,y<K.nx->y≠m->((K.set m oo).new (.cells [.string (tx s)] 9 .ex)).ob y=K.ob y:=λy hy hc=>by
   rw[bQ (by show y≠K.nx;omega),cv hc]
  refine Ds (A:=wP 0) (bytes:=16) (f:=jT) (y:=s) FN (oX.nx (by show K.nx<=K.nx+1;omega) λy g1 g2 ⟨n',c',J⟩=>R y g2 λe=>by subst e;exact P _ _ _ J) Om Om rfl λG k1 S T=> ?_;have S:G.nx=K.nx+1+1:=S;have M : ∀y,y<K.nx->y≠m->ik vf y->G.ob y=K.ob y:=λy hy hc ho=>(T y (by show y<K.nx+1;omega) ho).trans (R y hy hc);have Xq:=(M b gT N ai).trans l;repeat' (first | (simp (disch:=first | omega | (decide +kernel)) only[↓OK,↓eR,↓eS,↓dY,↓mz,↓aP,↓aT,gJ,qE,dX,pE,CW,↓eQ,pop,bD,bT,isVal,bu,dp,↓reduceIte,Nat.reduceEqDiff,Nat.reduceAdd,cw,cX,qM,EY,tR,ly,jU,mR,yz,GM,Cc,Kd.cD,qB,tS,Nat.reduceLeDiff,bJ,lP,and_true,Xq]) | ((with_reducible first|apply aF|apply aG|apply aH)<;>intro _))
  refine⟨λy=>W y\/y=K.nx+1,ta _ (K.nx+1) Om (by show K.nx+1<G.nx;omega) (λy hy hw h1 h2 h3=>(cv h1).trans (M y hy h2 h3)) (DK (L:=F.fs) (s:=s)▸XB _ ?_) ((cv Om).trans k1) (by rw[bP,iP rfl]),⟨by show K.nx<=G.nx;omega,λy hy hw _=>(cv λe=>hw (by rw[e];exact IN)).trans (M y hy (λe=>hw (by rw[e];exact MX)) λo n c J=>hw (yo o n c y J)),λy hy=> ?_⟩⟩;·rw[cv (sS N),T m (by show m<K.nx+1;omega) P,bQ (by show m≠K.nx;omega),bP,iP rfl]
  rcases hy with hy | hy
  ·exact .inl hy
  exact .inr Om
 rw[apI C B,Q];refine aC ?_;exact⟨W,h,VX.ext (ag.refl _)⟩
end
section
theorem MY{T:List Bs} : ∀ {xs:List Bs},xs.Nodup->(∀x∈xs,x∈T)->xs.length<=T.length:=by
 induction T with
 | nil=>
   intro xs _ h;cases xs with
   | nil=>exact al _
   | cons x r=>exact absurd (h x (j5 ..)) Sm
 | cons t T a=>
   intro xs hn h;by_cases ht:t∈xs
   ·have h1:=a (hn.erase t) λx hx=>by
     have h2:=(List.Nodup.mem_erase_iff hn).1 hx;exact(List.mem_cons.1 (h x h2.2)).resolve_left h2.1
    rw[List.length_erase_of_mem ht] at h1;rw[cw];omega
   have h1:=a hn λx hx=>(List.mem_cons.1 (h x hx)).resolve_left λe=>ht (e▸hx);rw[cw];omega
mutual
def vL (T:List Bs):Nd->Prop
 | .mk _ _ x _ ks=>x∈T/\qw T ks
def qw(T:List Bs):List Nd->Prop
 | []=>True
 | n::ks=>vL T n/\qw T ks
end
theorem MZ{T:List Bs} : ∀ {ks:List Nd} {n:Nd},qw T ks->n∈ks->vL T n
 | m::ks,n,h,hn=>by
   rcases List.mem_cons.1 hn with rfl | hn
   ·exact h.1
   exact MZ h.2 hn
structure mO(T:List Bs)(st:List ah):Prop where
 par:MT st
 len:st.length<=2305843009213693952
 fs : ∀F∈st,F.fs.Nodup/\∀s∈F.fs,s∈T
theorem XC{fns:List ah}{i:Nat}{u:ah->ah}{F:ah}(h:F∈dC fns i u):F∈fns\/∃G∈fns,F=u G:=by
 obtain⟨j,b,e⟩:=Ae h;have h1:(dC fns i u)[j]? = some F:=by rw[bM b,e]
 unfold dC at h1;rw[vV] at h1;cases hg:fns[j]? with
 | none=>rw[hg] at h1;simp at h1
 | some G=>
   rw[hg] at h1;by_cases a:i=j
   ·exact .inr ⟨G,fi hg,by simpa[a] using h1.symm⟩
   left;have:G=F:=by simpa[a] using h1
   exact this▸fi hg
theorem mO.mod{T:List Bs}{st:List ah}(h:mO T st){i:Nat}{u:ah->ah}(hp : ∀F,(u F).par=F.par)(d : ∀F∈st,(u F).fs.Nodup/\∀s∈(u F).fs,s∈T):mO T (dC st i u):=by
 refine⟨λj F a=> ?_,by rw[BS];exact h.len,λF a=> ?_⟩
 ·unfold dC at a;rw[vV] at a;cases hg:st[j]? with
  | none=>rw[hg] at a;simp at a
  | some G=>
    rw[hg] at a;have b:=h.par j G hg;by_cases c:i=j
    ·have e:u G=F:=by simpa[c] using a
     rw[<-e,hp];exact b
    have e:G=F:=by simpa[c] using a
    rw[<-e];exact b
 rcases XC a with h1 | ⟨G,h1,rfl⟩
 ·exact h.fs F h1
 exact d G h1
theorem IT{xs:List Bs}{s:Bs}(h:xs.Nodup)(hs:s∉xs):(xs++ [s]).Nodup:=by
 rw[List.nodup_append];refine⟨h,Sm,λa ha b hb e=> ?_⟩;rw[lR] at hb;exact hs (hb▸e▸ha)
theorem mO.ka{T:List Bs}{st:List ah}(h:mO T st){f:Nat}{s:Bs}(hs:s∈T):mO T (dv st f s):=by
 unfold dv;refine h.mod (λF=>by split<;>rfl) λF b=> ?_;have a:=h.fs F b;split;·exact a
 rename_i hc;refine⟨IT a.1 λc=>hc (.inr (.inr (.inr (.inl c)))),λy hy=> ?_⟩;rcases List.mem_append.1 hy with hy | hy
 ·exact a.2 y hy
 rw[lR] at hy;rw[hy];exact hs
theorem M0{st:List ah}{f:Nat}{s:Bs}:(dv st f s).length=st.length:=BS
theorem ae0 : ∀(xs:List Bs) (F:ah),(xs.foldl iR F).par=F.par/\(xs.foldl iR F).ps=F.ps/\(xs.foldl iR F).ls=F.ls
 | [],F=>⟨rfl,rfl,rfl⟩
 | s::xs,F=>by
   rw[yt];have h:=ae0 xs (iR F s);unfold iR at h⊢;split at h;·rename_i hc;rw[iP hc];exact h
   rename_i hc;rw[iN hc];exact h
theorem XD{T:List Bs} : ∀(xs:List Bs) (F:ah),F.fs.Nodup->(∀s∈F.fs,s∈T)->(∀s∈xs,s∈T)->(xs.foldl iR F).fs.Nodup/\∀s∈(xs.foldl iR F).fs,s∈T
 | [],F,h1,h2,_=>⟨h1,h2⟩
 | s::xs,F,h1,h2,h3=>by
   rw[yt];refine XD xs _ ?_ ?_ λy hy=>h3 y (List.mem_cons_of_mem _ hy)
   ·unfold iR;split;·exact h1
    rename_i hc;exact IT h1 λa=>hc (.inr a)
   unfold iR;split;·exact h2
   intro y hy;rcases List.mem_append.1 hy with hy | hy
   ·exact h2 y hy
   rw[lR] at hy;rw[hy];exact h3 s (j5 ..)
theorem mO.get{T:List Bs}{st:List ah}(h:mO T st)(g:Nat):((st.getD g rv).fs).Nodup/\∀s∈(st.getD g rv).fs,s∈T:=by
 rw[yw];cases hg:st[g]? with
 | none=>exact⟨by simp[rv],λs hs=>by simp[rv] at hs⟩
 | some G=>exact h.fs G (fi hg)
theorem mO.prop{T:List Bs}{st:List ah}(h:mO T st){f g:Nat}:mO T (rA st f g):=by
 unfold rA;refine h.mod (λF=>(ae0 _ F).1) λF a=>XD _ F (h.fs F a).1 (h.fs F a).2 (h.get g).2
theorem apL{st:List ah}{f g:Nat}:(rA st f g).length=st.length:=BS
theorem IU{st:List ah×Nat}{f:Nat}{mb:Bool}{l:Int}{x:Bs}{o:Nat}{ks:List Nd}:ci st f mb (.mk 17 l x o ks)=st:=by
 by_cases h1 : ∃p b,ks= [p,b]
 ·obtain⟨p,b,rfl⟩:=h1;cases b;rw[ci,iP rfl]
 rw[ci,iP rfl];·exactλp b e=>h1 ⟨p,b,e⟩
 exactλa bk bl bx bo bs e=>h1 ⟨_,_,e⟩
theorem M4{st:List ah×Nat}{f:Nat}{mb:Bool}{k:Nat}{l:Int}{x:Bs}{o:Nat}{p b:Nd}(hk:k=8\/k=50):ci st f mb (.mk k l x o [p,b])=(rA (ci (if k=8/\mb=false then dv st.1 f x else st.1,st.2+1) (st.2+1) false b).1 f (st.2+1),(ci (if k=8/\mb=false then dv st.1 f x else st.1,st.2+1) (st.2+1) false b).2):=by
 cases b;rw[ci,iN Om,iP hk]
theorem Gf{st:List ah×Nat}{f:Nat}{mb:Bool}{l:Int}{x:Bs}{o:Nat}{a:Nd}{bk:Nat}{bl:Int}{bx:Bs}{bo:Nat}{bs:List Nd}:ci st f mb (.mk 9 l x o [a, .mk bk bl bx bo bs])=iU (ci (dv st.1 f x,st.2) f false a) f bs:=by
 rw[ci,iN de,iN de,iP rfl]
theorem M5{st:List ah×Nat}{f:Nat}{mb:Bool}{k:Nat}{l:Int}{x:Bs}{o:Nat}{ks:List Nd}(h1:k≠17)(h2 : ¬(k=8\/k=50))(h3:k≠9):ci st f mb (.mk k l x o ks)=lM (if k=36\/k=16\/k=21 then (dv st.1 f x,st.2) else st) f ks:=by
 by_cases hh : ∃p b,ks= [p,b]
 ·obtain⟨p,b,rfl⟩:=hh;cases b;rw[ci,iN h1,iN h2,iN h3]
 rw[ci,iN h1,iN h2,iN h3];·exactλp b e=>hh ⟨p,b,e⟩
 exactλa bk bl bx bo bs e=>hh ⟨_,_,e⟩
theorem Gg{st:List ah×Nat}{f:Nat}{n:Nd}{ks:List Nd}:lM st f (n::ks)=lM (ci st f false n) f ks:=by rw[lM]
theorem Gh{st:List ah×Nat}{f:Nat}:lM st f []=st:=by rw[lM]
theorem DR{st:List ah×Nat}{f:Nat}:iU st f []=st:=by rw[iU]
theorem Gi{st:List ah×Nat}{f:Nat}{l:Int}{x:Bs}{o:Nat}{p v:Nd}{r ms:List Nd}:iU st f (.mk 3 l x o (p::v::r)::ms)=iU (ci st f false v) f ms:=by rw[iU,iP rfl]
theorem Gj{st:List ah×Nat}{f:Nat}{n:Nd}{ms:List Nd}(hn : ¬(n.kind=3/\2<=n.kids.length)):iU st f (n::ms)=iU (ci st f true n) f ms:=by
 obtain⟨k,l,x,o,ks⟩:=n;match ks with
 | []=>rw[iU];exactλk l x o p v r e=>by cases e
 | [p]=>rw[iU];exactλk l x o p v r e=>by cases e
 | p::v::r=>
   have hk : ¬k=3:=λe=>hn ⟨e,by show 2<=r.length+1+1;omega⟩;rw[iU,iN hk]
def qx (T:List Bs)(st aX:List ah×Nat):Prop:=(mO T st.1->mO T aX.1)/\aX.1.length=st.1.length/\st.2<=aX.2
theorem qx.refl{T:List Bs}{st:List ah×Nat}:qx T st st:=⟨id,rfl,al _⟩
theorem qx.trans{T:List Bs}{a b c:List ah×Nat}(h:qx T a b)(g:qx T b c):qx T a c:=⟨λx=>g.1 (h.1 x),g.2.1.trans h.2.1,bW h.2.2 g.2.2⟩
theorem qx.ka{T:List Bs}{st:List ah×Nat}{f:Nat}{x:Bs}(hx:x∈T):qx T st (dv st.1 f x,st.2):=⟨λh=>h.ka hx,M0,al _⟩
theorem XE(T:List Bs)(N:Nat):(∀(t:Nd) (st:List ah×Nat) (f:Nat) (mb:Bool),dR t<N->mL t->vL T t->qx T st (ci st f mb t))/\(∀(ks:List Nd) (st:List ah×Nat) (f:Nat),dR ks<N->kS ks->qw T ks->qx T st (lM st f ks))/\(∀(ks:List Nd) (st:List ah×Nat) (f:Nat),dR ks<N->kS ks->qw T ks->qx T st (iU st f ks)):=by
 induction N with
 | zero=>exact⟨λ_ _ _ _ h=>absurd h (fM _),λ_ _ _ h=>absurd h (fM _),λ_ _ _ h=>absurd h (fM _)⟩
 | succ N j=>
   obtain⟨i1,i2,i3⟩:=j;refine⟨λt st f mb c hc hT=> ?_,λks st f c hc hT=> ?_,λks st f c hc hT=> ?_⟩
   ·obtain⟨k,l,x,o,ks⟩:=t;by_cases g:k=17
    ·subst g;rw[IU];exact .refl
    by_cases d:k=8\/k=50
    ·have h2:ks.length=2:=hc.1.1 (.inr d);match ks,h2 with
     | [p,b],_=>
       simp at c;rw[M4 d];have hb:=i1 b (if k=8/\mb=false then dv st.1 f x else st.1,st.2+1) (st.2+1) false Om hc.2.2.1 hT.2.2.1;have e:qx T st (if k=8/\mb=false then dv st.1 f x else st.1,st.2+1):=by
        split;·exact⟨λh=>h.ka hT.1,M0,Nat.le_succ _⟩
        exact⟨id,rfl,Nat.le_succ _⟩
       exact(e.trans hb).trans ⟨λh=>h.prop,apL,al _⟩
    by_cases i:k=9
    ·subst i;have h2:ks.length=2:=hc.1.1 (.inl rfl);match ks,h2 with
     | [a, .mk bk bl bx bo bs],_=>
       simp at c;rw[Gf];have ha:=i1 a (dv st.1 f x,st.2) f false Om hc.2.1 hT.2.1;exact((qx.ka hT.1).trans ha).trans (i3 bs _ f Om hc.2.2.1.2 hT.2.2.1.2)
    rw[M5 g d i];simp at c;have e:qx T st (if k=36\/k=16\/k=21 then (dv st.1 f x,st.2) else st):=by
     split;·exact qx.ka hT.1
     exact .refl
    exact e.trans (i2 ks _ f Om hc.2 hT.2)
   ·cases ks with
    | nil=>rw[Gh];exact .refl
    | cons n ks=>
      simp at c;rw[Gg];exact(i1 n st f false Om hc.1 hT.1).trans (i2 ks _ f Om hc.2 hT.2)
   cases ks with
   | nil=>rw[DR];exact .refl
   | cons n ms=>
     simp at c;by_cases hn:n.kind=3/\2<=n.kids.length
     ·obtain⟨k,l,x,o,ks⟩:=n;obtain⟨rfl,h2⟩:k=3/\2<=ks.length:=hn;match ks,h2 with
      | p::v::r,_=>
        simp at c;rw[Gi];exact(i1 v st f false Om hc.1.2.2.1 hT.1.2.2.1).trans (i3 ms _ f Om hc.2 hT.2)
     rw[Gj hn];exact(i1 n st f true Om hc.1 hT.1).trans (i3 ms _ f Om hc.2 hT.2)
theorem M6{T:List Bs}(t:Nd)(st:List ah×Nat)(f:Nat)(mb:Bool)(hc:mL t)(hT:vL T t):qx T st (ci st f mb t):=(XE T (dR t+1)).1 t st f mb (iC _) hc hT
theorem ae1{T:List Bs}(ks:List Nd)(st:List ah×Nat)(f:Nat)(hc:kS ks)(hT:qw T ks):qx T st (lM st f ks):=(XE T (dR ks+1)).2.1 ks st f (iC _) hc hT
theorem XF{T:List Bs}(ks:List Nd)(st:List ah×Nat)(f:Nat)(hc:kS ks)(hT:qw T ks):qx T st (iU st f ks):=(XE T (dR ks+1)).2.2 ks st f (iC _) hc hT
end
section
open Go Go.RowKit
structure FX(bn bc bw b3 b4 bk:Nat)(v hv:ae)(K:CH)(W:Nat->Prop)(c:Nat):Prop where
 n : ∃e,K.ob bn= .cells [.func (.func 62) #[] #[pN b3,pN b4]] e .ex
 w : ∃e,K.ob bw= .cells [.func (.func 64) #[] #[pN bn,pN bc,pN bw,pN b3,pN b4,pN bk]] e .ex
 k : ∃e,K.ob bk= .cells [.func (.func 63) #[] #[pN bw]] e .ex
 c:K.ob bc= .cells [.int .i64 (c:Nat)] 3 .ex
 fb:FB b3 b4 v hv K W
 lt:bn<K.nx/\bw<K.nx/\bk<K.nx/\bc<K.nx
 nw : ¬W bn/\¬W bw/\¬W bk/\¬W bc
 ne:bc≠b3/\bc≠b4
theorem FX.ex{bn bc bw b3 b4 bk:Nat}{v hv:ae}{K K':CH}{W W':Nat->Prop}{c c':Nat}(h:FX bn bc bw b3 b4 bk v hv K W c)(hx:VX (· = bc) W W' K K')(hc:K'.ob bc= .cells [.int .i64 (c':Nat)] 3 .ex):FX bn bc bw b3 b4 bk v hv K' W' c':=by
 obtain⟨f,h1⟩:=h.n;obtain⟨i,h2⟩:=h.w;obtain⟨j,h3⟩:=h.k;obtain⟨a,d,l3,l4⟩:=h.lt;obtain⟨n1,n2,n3,n4⟩:=h.nw;have hn:=hx.nx;have d1:bn≠bc:=λe=>by rw[e,h.c] at h1;cases h1
 have d2:bw≠bc:=λe=>by rw[e,h.c] at h2;cases h2
 have d3:bk≠bc:=λe=>by rw[e,h.c] at h3;cases h3
 have hw : ∀b,b<K.nx->¬W b->¬W' b:=λb hb hn w=>(hx.w _ w).elim hn λg=>by omega
 exact⟨⟨f,(hx.ob _ a n1 d1).trans h1⟩,⟨i,(hx.ob _ d n2 d2).trans h2⟩,⟨j,(hx.ob _ l3 n3 d3).trans h3⟩,hc,h.fb.ex hx (sS h.ne.1) (sS h.ne.2),⟨Om,Om,Om,Om⟩,⟨hw _ a n1,hw _ d n2,hw _ l3 n3,hw _ l4 n4⟩,h.ne⟩
theorem FX.hx{bn bc bw b3 b4 bk:Nat}{v hv:ae}{K K':CH}{W:Nat->Prop}{c:Nat}(h:FX bn bc bw b3 b4 bk v hv K W c)(hx:ag K K'):FX bn bc bw b3 b4 bk v hv K' W c:=h.ex (.ext hx) ((hx.ob _ h.lt.2.2.2).trans h.c)
def XG (bc:Nat)(v hv:ae)(W:Nat->Prop)(K:CH)(r:List ah×Nat)(K':CH):Prop:=∃W',lx v hv r.1 K' W'/\VX (· = bc) W W' K K'/\K'.ob bc= .cells [.int .i64 (r.2:Nat)] 3 .ex
def Q4 (T:List Bs)(bn bc bw b3 b4 bk:Nat)(v hv:ae)(N:Nat):Prop:=∀(t:Nd),eV t<=N->mL t->vL T t->∀(st:List ah) (c f:Nat) (mb:Bool) (K:CH) (W A:Nat->Prop) (os:List ae),b9 K A (dr t) os->(∀b,A b->b<K.nx/\¬W b/\b≠bc)->FX bn bc bw b3 b4 bk v hv K W c->lx v hv st K W->mO T st->f<=c->(ci (st,c) f mb t).2<st.length->aR gE 64 [.agg os.toArray, .int .i64 (f:Nat), .bool mb,pN bn,pN bc,pN bw,pN b3,pN b4,pN bk] K λ_ K'=>XG bc v hv W K (ci (st,c) f mb t) K'
def FkJ (bc:Nat)(v hv:ae)(W:Nat->Prop)(K:CH)(st:List ah)(c f:Nat)(ks:List Nd)(n:Nat)(v9:ae)(a:CH):Prop:=∃(i:Nat) (b:List ah×Nat) (d:Nat->Prop),n=ks.length-i/\i<=ks.length/\v9= .int .i64 (i:Nat)/\lx v hv b.1 a d/\VX (· = bc) W d K a/\a.ob bc= .cells [.int .i64 (b.2:Nat)] 3 .ex/\b=lM (st,c) f (ks.take i)
theorem XH{f:Nat} : ∀ {a b:List Nd} {st:List ah×Nat},lM st f (a++b)=lM (lM st f a) f b
 | [],b,st=>by rw[mR,Gh]
 | n::a,b,st=>by rw[jU,Gg,Gg,XH]
theorem Q5{f:Nat} : ∀ {a b:List Nd} {st:List ah×Nat},iU st f (a++b)=iU (iU st f a) f b
 | [],b,st=>by rw[mR,DR]
 | n::a,b,st=>by
   rw[jU];by_cases hn:n.kind=3/\2<=n.kids.length
   ·obtain⟨k,l,x,o,ks⟩:=n;obtain⟨rfl,h2⟩:k=3/\2<=ks.length:=hn;match ks,h2 with
    | p::v::r,_=>rw[Gi,Gi,Q5]
   rw[Gj hn,Gj hn,Q5]
theorem ae2{ks:List Nd}(h:kS ks)(i:Nat):kS (ks.take i):=by
 induction ks generalizing i with
 | nil=>simp[kS]
 | cons n ks a=>cases i with
   | zero=>trivial
   | succ i=>exact⟨h.1,a h.2 i⟩
theorem ae3{ks:List Nd}(h:kS ks)(i:Nat):kS (ks.drop i):=by
 induction ks generalizing i with
 | nil=>simp[kS]
 | cons n ks a=>cases i with
   | zero=>exact h
   | succ i=>exact a h.2 i
theorem ae4{T:List Bs}{ks:List Nd}(h:qw T ks)(i:Nat):qw T (ks.take i):=by
 induction ks generalizing i with
 | nil=>simp[qw]
 | cons n ks a=>cases i with
   | zero=>trivial
   | succ i=>exact⟨h.1,a h.2 i⟩
theorem ae5{T:List Bs}{ks:List Nd}(h:qw T ks)(i:Nat):qw T (ks.drop i):=by
 induction ks generalizing i with
 | nil=>simp[qw]
 | cons n ks a=>cases i with
   | zero=>exact h
   | succ i=>exact a h.2 i
theorem apM{T:List Bs}{bn bc bw b3 b4 bk:Nat}{v hv:ae}{N:Nat}(P:Q4 T bn bc bw b3 b4 bk v hv N){ks:List Nd}(hh:eD ks<=N)(u:kS ks)(hT:qw T ks){st:List ah}{c f:Nat}{K:CH}{W A:Nat->Prop}{q:Option cm}(Q:eJ K A (.row 5 (cZ ks)) (.slice q ks.length ks.length))(hA : ∀b,A b->b<K.nx/\¬W b/\b≠bc)(D:FX bn bc bw b3 b4 bk v hv K W c)(R:lx v hv st K W)(S:mO T st)(AF:f<=c)(uJ:(lM (st,c) f ks).2<st.length):aR gE 63 [.slice q ks.length ks.length, .int .i64 (f:Nat),pN bw] K λ_ K'=>XG bc v hv W K (lM (st,c) f ks) K':=by
 obtain⟨_,e,U,nK,V⟩:=mI Q;cases e;rw[gZ] at U;refine du Rl Kr (aV ?_);refine aC ?_;refine fC (λn fr d=>FkJ bc v hv W K st c f ks n (fr 9) d) (n:=ks.length) ⟨0,(st,c),W,rfl,cx _,by(refine aC ?_;all_goals rfl),R, .ext (ag.refl _),D.c,by rw[xd,Gh]⟩ ?_;rintro n fr d ⟨i,a,E,rfl,hi,f9,G,j,H,l⟩ x;have eG:=j.nx;by_cases o:i<ks.length
 ·obtain⟨m,y⟩ : ∃m,ks[i]? = some m:=⟨_,bM o⟩;obtain⟨X,cs,e,kd,Y,Z,ob,fc,nI,nj,z⟩:=V i m y;subst Y;have I : ∀b,A b->d.ob b=K.ob b:=λb hb=>j.ob b (hA b hb).1 (hA b hb).2.1 (hA b hb).2.2;have jx:=(I X Z).trans ob;have B:=fi y;have lX:ks.take (i+1)=ks.take i++ [m]:=by
   obtain⟨_,e⟩:=List.getElem?_eq_some_iff.1 y;rw[rL o,e]
  have C:=D.ex j H;obtain⟨ew,ow⟩:=C.w;obtain⟨_,hwl,_,_⟩:=C.lt;have s:=ae1 (T:=T) (ks.take i) (st,c) f (ae2 u i) (ae4 hT i);rw[<-l] at s;have J:lM (st,c) f (ks.take (i+1))=ci a f false m:=by rw[lX,XH,<-l,Gg,Gh]
  have jq:=ae1 (T:=T) (ks.drop (i+1)) (ci a f false m) f (ae3 u _) (ae5 hT _);have jA:lM (st,c) f ks=lM (ci a f false m) f (ks.drop (i+1)):=by
   conv=>lhs;rw[<-Al (i+1) ks,XH,J]
  have aN:(ci a f false m).2<a.1.length:=by
   have h1:=jq.2.2;rw[<-jA] at h1;have h2:a.1.length=st.length:=s.2.1;omega
  obtain⟨mk,ml,mx,L,cH⟩:=m;obtain⟨mq,M,zL⟩:=ij z;rw[M] at z;obtain⟨t,O⟩ : ∃t,t=(d.new (.cells [.int .i64 0, .int .i64 0, .string ⟨⟨[]⟩⟩, .int .i64 0, .slice none 0 0] 26 .ex)).set d.nx (.cells [.int .i64 (mk:Nat), .int .i64 ml, .string (tx mx), .int .i64 (L:Nat), .slice mq cH.length cH.length] 26 .ex):=⟨_,rfl⟩;have r:ag d t:=by rw[O];exact((ag.refl d).new _).set (al _) _
  have jJ:=P _ (bW (BH B) hh) (MA u B) (MZ hT B) a.1 a.2 f false t E A _ (z.mv λb hb=>⟨hb,(r.ob b (by have:=(hA b hb).1;omega)).trans (I b hb)⟩) (λb hb=>⟨by have:=(hA b hb).1;have:=r.nx;omega,λw=>(j.w b w).elim (hA b hb).2.1 λg=>by have:=(hA b hb).1;omega,(hA b hb).2.2⟩) (C.hx r) (G.hx r) (s.1 S) (by have h:c<=a.2:=s.2.2;omega) aN;refine rn (rR @x @f9 @jx @M @ow @bJ) ?_;rw[<-O];refine jJ.mono λv2 K2 ⟨W2,Gk,oa,zI⟩=> ?_;refine rn (an @x @f9) ?_;exact⟨ks.length-(i+1),Om,i+1,ci a f false (.mk mk ml mx L cH),W2,rfl,o,rfl,Gk,(j.trans (VX.ext r)).trans oa,zI,J.symm⟩
 have o:i=ks.length:=by omega
 subst o;rw[pQ] at l;refine rn (an @x @f9) ?_;exact⟨E,by rw[<-l];exact G,j,by rw[<-l];exact H⟩
end
section
def qy (es:List Ev):Nat:=(es.filter λe=>jZ e.1).length
theorem apN{a b:List Ev}:qy (a++b)=qy a+qy b:=by unfold qy;rw[List.filter_append,cO]
theorem Q6{e:Ev}{es:List Ev}:qy (e::es)=(if jZ e.1=true then 1 else 0)+qy es:=by
 unfold qy;rw[GL];split;·rw[cw];omega
 omega
def DV(c:Nat):List Ev->Prop
 | []=>True
 | e::es=>e.2.f<=c/\DV (c+if jZ e.1=true then 1 else 0) es
theorem ae6 : ∀ {a b:List Ev} {c:Nat},DV c a->DV (c+qy a) b->DV c (a++b)
 | [],b,c,_,h=>h
 | e::a,b,c,h,g=>⟨h.1,ae6 h.2 (by rw[Q6] at g;rw[Nat.add_assoc];exact g)⟩
structure oi(P:Nd->Prop)(c sz:Nat)(r:List Ev×Nat):Prop where
 n:r.2=c+qy r.1
 pre:DV c r.1
 len:r.1.length<=sz
 p : ∀e∈r.1,P e.1
theorem oi.nil{P:Nd->Prop}{c sz:Nat}:oi P c sz ([],c):=⟨rfl,trivial,cx _,λ_ h=>by cases h⟩
theorem oi.app{P:Nd->Prop}{c s1 s2:Nat}{a r2:List Ev×Nat}(h:oi P c s1 a)(g:oi P a.2 s2 r2):oi P c (s1+s2) (a.1++r2.1,r2.2):=by
 refine⟨?_,ae6 h.pre (by rw[<-h.n];exact g.pre),?_,λe he=> ?_⟩;·show r2.2=_;rw[g.n,h.n,apN];omega
 ·show(a.1++r2.1).length<=_;have:=h.len;have:=g.len;rw[cO];omega
 rcases List.mem_append.1 he with he | he
 ·exact h.p e he
 exact g.p e he
theorem oi.up{P:Nd->Prop}{c s1 s2:Nat}{r:List Ev×Nat}(h:oi P c s1 r)(hs:s1<=s2):oi P c s2 r:=⟨h.n,h.pre,bW h.len hs,h.p⟩
theorem oi.cons{P:Nd->Prop}{c s:Nat}{t:Nd}{h:Wh}{r:List Ev×Nat}(a:h.f<=c)(b:P t)(g:oi P (c+if jZ t=true then 1 else 0) s r):oi P c (s+1) ((t,h)::r.1,r.2):=by
 refine⟨?_,⟨a,g.pre⟩,Nat.succ_le_succ g.len,λe he=> ?_⟩;·show r.2=_;rw[g.n,Q6];show c+_+_=c+((if jZ t=true then 1 else 0)+_);omega
 rcases List.mem_cons.1 he with rfl | he
 ·exact b
 exact g.p e he
theorem ae7{P:Nd->Prop}(e : ∀k l x o ks,P (.mk k l x o ks)->∀n∈ks,P n)(N:Nat):(∀(t:Nd) (c:Nat) (h:Wh),dR t<N->mL t->P t->h.f<=c->oi P c (cf t) (bj c h t))/\(∀(ks:List Nd) (c:Nat) (h:Wh),dR ks<N->kS ks->(∀n∈ks,P n)->h.f<=c->oi P c (a8 ks) (mK c h ks))/\(∀(ks:List Nd) (c:Nat) (h:Wh),dR ks<N->kS ks->(∀n∈ks,P n)->h.f<=c->oi P c (a8 ks) (im c h ks)):=by
 induction N with
 | zero=>exact⟨λ_ _ _ h=>absurd h (fM _),λ_ _ _ h=>absurd h (fM _),λ_ _ _ h=>absurd h (fM _)⟩
 | succ N y=>
   obtain⟨i1,i2,i3⟩:=y;refine⟨λt c h d hc hp b=> ?_,λks c h d hc hp b=> ?_,λks c h d hc hp b=> ?_⟩
   ·obtain⟨k,l,x,o,ks⟩:=t;have hk:=e k l x o ks hp;by_cases j:k=9
    ·subst j;have h2:ks.length=2:=hc.1.1 (.inl rfl);match ks,h2 with
     | [a, .mk bk bl bx bo bs],_=>
       simp at d;rw[DE];have ha:=i1 a c h.no Om hc.2.1 (hk a Sm) b;have hb:=i3 bs (bj c h.no a).2 h.no Om hc.2.2.1.2 (e _ _ _ _ _ (hk (.mk bk bl bx bo bs) Sm)) (bW b (zG a c h.no).1);refine oi.up (oi.cons (r:=((bj c h.no a).1++(im (bj c h.no a).2 h.no bs).1,(im (bj c h.no a).2 h.no bs).2)) b hp (ha.app hb)) ?_;simp only[cf,a8];omega
    rw[zE j];simp at d;have g:(qv k (c+1) h).f<=(if k=8\/k=50 then c+1 else c):=by
     unfold qv;split;·exact al _
     exact b
    have hb:=i2 ks (if k=8\/k=50 then c+1 else c) (qv k (c+1) h) Om hc.2 hk g;have he:(if k=8\/k=50 then c+1 else c)=c+if jZ (.mk k l x o ks)=true then 1 else 0:=by
     unfold jZ;show _=c+if decide (k=8\/k=50)=true then 1 else 0
     by_cases q:k=8\/k=50
     ·simp[q]
     simp[q]
    refine oi.up (oi.cons (s:=a8 ks) b hp ?_) (by simp only[cf];omega);rw[<-he];exact hb
   ·cases ks with
    | nil=>rw[DF];exact .nil
    | cons n ks=>
      simp at d;rw[zF];simp only[a8];exact(i1 n c h Om hc.1 (hp n Sm) b).app (i2 ks _ h Om hc.2 (λm i=>hp m (by simp[i])) (bW b (zG n c h).1))
   cases ks with
   | nil=>rw[MD];exact .nil
   | cons n ms=>
     simp at d;have u : ∀m∈ms,P m:=λm i=>hp m (by simp[i]);by_cases hn:n.kind=3/\2<=n.kids.length
     ·obtain⟨k,l,x,o,ks⟩:=n;obtain⟨rfl,h2⟩:k=3/\2<=ks.length:=hn;match ks,h2 with
      | p::v::r,_=>
        simp at d;rw[ME];have w:=hp (.mk 3 l x o (p::v::r)) Sm;have ha:=i1 v c h Om hc.1.2.2.1 (e _ _ _ _ _ w v Sm) b;have hb:=i3 ms (bj c h v).2 h Om hc.2 u (bW b (zG v c h).1);refine oi.up (oi.cons (h:=h.me) (r:=((bj c h v).1++(im (bj c h v).2 h ms).1,(im (bj c h v).2 h ms).2)) b w ?_) (s1:=cf v+a8 ms+1) (by simp only[cf,a8];omega);exact ha.app hb
     rw[MF hn];simp only[a8];exact(i1 n c h.me Om hc.1 (hp n Sm) b).app (i3 ms _ h Om hc.2 u (bW b (zG n c h.me).1))
theorem apO(N:Nat):(∀(t:Nd) (st:List ah×Nat) (f:Nat) (mb:Bool) (c:Nat) (h:Wh),dR t<N->mL t->st.2<=c->(ci st f mb t).2<=(bj c h t).2)/\(∀(ks:List Nd) (st:List ah×Nat) (f:Nat) (c:Nat) (h:Wh),dR ks<N->kS ks->st.2<=c->(lM st f ks).2<=(mK c h ks).2)/\(∀(ks:List Nd) (st:List ah×Nat) (f:Nat) (c:Nat) (h:Wh),dR ks<N->kS ks->st.2<=c->(iU st f ks).2<=(im c h ks).2):=by
 induction N with
 | zero=>exact⟨λ_ _ _ _ _ _ h=>absurd h (fM _),λ_ _ _ _ _ h=>absurd h (fM _),λ_ _ _ _ _ h=>absurd h (fM _)⟩
 | succ N j=>
   obtain⟨i1,i2,i3⟩:=j;refine⟨λt st f mb c h d hc hs=> ?_,λks st f c h d hc hs=> ?_,λks st f c h d hc hs=> ?_⟩
   ·obtain⟨k,l,x,o,ks⟩:=t;by_cases i:k=17
    ·subst i;rw[IU];exact bW hs (zG _ _ _).1
    by_cases e:k=8\/k=50
    ·have h2:ks.length=2:=hc.1.1 (.inr e);match ks,h2 with
     | [p,b],_=>
       simp at d;rw[M4 e,zE Om,iP e,zF,zF,DF];show(ci _ _ _ b).2<=(bj _ _ b).2;refine i1 b _ _ _ _ _ Om hc.2.2.1 ?_;have:=(zG p (c+1) (qv k (c+1) h)).1;show st.2+1<=_;omega
    by_cases g:k=9
    ·subst g;have h2:ks.length=2:=hc.1.1 (.inl rfl);match ks,h2 with
     | [a, .mk bk bl bx bo bs],_=>
       simp at d;rw[Gf,DE];exact i3 bs _ f _ _ Om hc.2.2.1.2 (i1 a _ f false c h.no Om hc.2.1 hs)
    rw[M5 i e g,zE g,iN e];simp at d;refine i2 ks _ f c _ Om hc.2 ?_;split;·exact hs
    exact hs
   ·cases ks with
    | nil=>rw[Gh,DF];exact hs
    | cons n ks=>
      simp at d;rw[Gg,zF];exact i2 ks _ f _ h Om hc.2 (i1 n st f false c h Om hc.1 hs)
   cases ks with
   | nil=>rw[DR,MD];exact hs
   | cons n ms=>
     simp at d;by_cases hn:n.kind=3/\2<=n.kids.length
     ·obtain⟨k,l,x,o,ks⟩:=n;obtain⟨rfl,h2⟩:k=3/\2<=ks.length:=hn;match ks,h2 with
      | p::v::r,_=>
        simp at d;rw[Gi,ME];exact i3 ms _ f _ h Om hc.2 (i1 v st f false c h Om hc.1.2.2.1 hs)
     rw[Gj hn,MF hn];exact i3 ms _ f _ h Om hc.2 (i1 n st f true c h.me Om hc.1 hs)
end
section
open Go Go.RowKit
def FcJ (bc:Nat)(v hv:ae)(W:Nat->Prop)(K:CH)(d:List ah×Nat)(f:Nat)(ks:List Nd)(n:Nat)(v9:ae)(a:CH):Prop:=∃(i:Nat) (b:List ah×Nat) (c:Nat->Prop),n=ks.length-i/\i<=ks.length/\v9= .int .i64 (i:Nat)/\lx v hv b.1 a c/\VX (· = bc) W c K a/\a.ob bc= .cells [.int .i64 (b.2:Nat)] 3 .ex/\b=iU d f (ks.take i)
def FwM (bc bk:Nat)(v hv:ae)(f:Nat)(mb:Bool)(c:Nat)(st:List ah)(K:CH)(W:Nat->Prop)(t:Nd)(q:Option cm)(x:bq)(fr:Fr)(H:CH):Prop:=
 (x= .normal/\fr 1= .int .i64 (f:Nat)/\fr 8=pN bk/\fr 9=pN K.nx/\∃(a:List ah) (b:Nat->Prop),lx v hv a H b/\VX (· = bc) W b K H/\K.nx+1<=H.nx/\H.ob bc= .cells [.int .i64 (c:Nat)] 3 .ex/\H.ob K.nx= .cells [.int .i64 (t.kind:Nat), .int .i64 t.line, .string (tx t.text), .int .i64 (t.op:Nat), .slice q t.kids.length t.kids.length] 26 .ex/\ci (st,c) f mb t=lM (a,c) f t.kids/\(a=st\/∃x,x=t.text/\a=dv st f x))
 \/(x= .ret/\XG bc v hv W K (ci (st,c) f mb t) H)
def PpJ (v hv:ae)(W:Nat->Prop)(K:CH)(f:Nat)(c:ah)(st:List ah)(xs:List Bs)(r g n:Nat)(v9:ae)(a:CH):Prop:=∃(i:Nat) (ow:Ow) (bs ms:List Nat) (d:Nat) (e:Kd) (b:Nat->Prop),n=xs.length-i/\i<=xs.length/\v9= .int .i64 (i:Nat)/\Gc ow bs ms d e v hv (dC st f λ_=>(xs.take i).foldl iR c) a b/\VX n9 W b K a/\(xs≠ []->ow r=some (g,4)/\r<a.nx/\a.ob r=K.ob r)
theorem M7 : ∀ {xs:List Bs} {i:Nat} {s:Bs},xs[i]? = some s->(xs.flatMap jT)[i]? = some (.string (tx s))/\i<(xs.flatMap jT).length
 | [],i,s,h=>by simp at h
 | y::xs,0,s,h=>by
   have h:y=s:=by simpa using h
   subst h;exact⟨rfl,Nat.succ_pos _⟩
 | y::xs,i+1,s,h=>by
   have h:xs[i]? = some s:=by simpa using h
   obtain⟨h1,h2⟩:=M7 h;exact⟨h1,Nat.succ_lt_succ h2⟩
theorem Gc.row{ow:Ow}{bs ms:List Nat}{c:Nat}{d:Kd}{v hv:ae}{st:List ah}{K:CH}{W:Nat->Prop}(h:Gc ow bs ms c d v hv st K W){g:Nat}(hg:g<st.length) : ∃(G:ah) (q:Nat) (kd:Kd) (L:List ae) (n b:Nat) (vf e x1 x2 x3 f i j k l:ae),st[g]? = some G/\v= .slice (some ⟨q,0,none⟩) n n/\K.ob q= .cells L 73 kd/\L[g]? = some (pN b)/\g<n/\g<L.length/\K.ob b= .cells [e,x1,x2,x3,f,vf,i,j,k,l] 75 .ex/\b<K.nx/\q<K.nx/\jg K ow (g,4) vf G.fs:=by
 obtain⟨y,z,m,_⟩:=h;obtain⟨q,kd,rfl,A,o,p,B,a⟩:=m;obtain⟨F,b,r,hb,C,s,vp,vl,vc,vf,m1,m2,m3,t,_,_,_,u,_⟩:=Ga a hg;obtain⟨w,x⟩:=zP hb;exact⟨F,q,kd,_,_,b,vf,_,_,_,_,_,_,_,_,_,r,rfl,p,w,by rw[a.len];exact hg,x,t,s,o,u⟩
theorem ae8{F:ah}{s:Bs}(h:F.binds s\/s∈F.fs):iR F s=F:=iP h
theorem apP{F:ah}{s:Bs}(h : ¬(F.binds s\/s∈F.fs)):iR F s= { F with fs:=F.fs++ [s] }:=iN h
theorem apQ{T:List Bs}{bn bc bw b3 b4 bk:Nat}{v hv:ae}{N:Nat}(zY:T.length<=1099511627776)(ih:Q4 T bn bc bw b3 b4 bk v hv N):Q4 T bn bc bw b3 b4 bk v hv (N+1):=by
 rintro⟨k,l,x,o,ks⟩ hN S hT st c f mb K W A os hs hA C sW U AF uJ;obtain⟨q,rfl,eT⟩:=ij hs;obtain⟨_,e,fO,nK,fY⟩:=mI eT;cases e;rw[gZ] at fO;have rD:=sW.lt;have Dv:eD ks<=N:=by simp only[eV] at hN;omega
 have J:ag K (K.new (.cells [.int .i64 (k:Nat), .int .i64 l, .string (tx x), .int .i64 (o:Nat), .slice q ks.length ks.length] 26 .ex)):=(ag.refl K).new _;have QY:=C.hx J;obtain⟨en,on⟩:=C.n;obtain⟨ew,ow⟩:=C.w;obtain⟨ek,ok⟩:=C.k;obtain⟨l1,l2,l3,l4⟩:=C.lt;obtain⟨n1,n2,n3,n4⟩:=C.nw;have apR:=M6 (T:=T) (.mk k l x o ks) (st,c) f mb S hT;have gd:f<st.length:=by have h:c<=(ci (st,c) f mb (.mk k l x o ks)).2:=apR.2.2;omega
 obtain⟨F,hF⟩ : ∃F,st[f]? = some F:=⟨_,bM gd⟩;have hFl : ∀(aX:List ah) (F':ah),mO T aX->F'∈aX->F'.fs.length<=1099511627776:=λaX F' h hm=>bW (MY (h.fs F' hm).1 (h.fs F' hm).2) zY;have Gl : ∀(s:Bs),s∈T->aR gE 62 [.int .i64 (f:Nat), .string (tx s),pN b3,pN b4] (K.new (.cells [.int .i64 (k:Nat), .int .i64 l, .string (tx x), .int .i64 (o:Nat), .slice q ks.length ks.length] 26 .ex)) λ_ K'=>∃W',lx v hv (dv st f s) K' W'/\VX n9 W W' (K.new (.cells [.int .i64 (k:Nat), .int .i64 l, .string (tx x), .int .i64 (o:Nat), .slice q ks.length ks.length] 26 .ex)) K':=λs hs=>apK (sW.hx J) QY.fb U.par (bW U.len de) hF (hFl st F U (fi hF)) s;have M8 : ∀(u:CH) (D:Nat->Prop),VX (· = bc) W D K u->(∀b,A b->b<u.nx/\¬D b/\b≠bc)/\∀b,A b->u.ob b=K.ob b:=λu D h=>⟨λb hb=>⟨cj (hA b hb).1 h.nx,λw=>(h.w b w).elim (hA b hb).2.1 λg=>by have:=(hA b hb).1;omega,(hA b hb).2.2⟩,λb hb=>h.ob b (hA b hb).1 (hA b hb).2.1 (hA b hb).2.2⟩;refine du Rl Kr (aV ?_);refine QB (FwM bc bk v hv f mb c st K W (.mk k l x o ks) q) ?_ ?_
 ·by_cases rI:k=17
  ·subst rI;refine aC ?_;refine .inr ⟨rfl,W,?_, .ext J,(J.ob bc l4).trans ?_⟩;·rw[IU];exact sW.hx J
   rw[IU];exact C.c
  by_cases h8:k=8\/k=50
  ·obtain⟨p,b,rfl⟩ : ∃p b,ks= [p,b]:=by
    have h2:ks.length=2:=S.1.1 (.inr h8);match ks,h2 with
    | [p,b],_=>exact⟨p,b,rfl⟩
   obtain⟨ce,Bn⟩ : ∃ce,ce=if k=8/\mb=false then dv st f x else st:=⟨_,rfl⟩
   have pU:ci (st,c) f mb (.mk k l x o [p,b])=(rA (ci (ce,c+1) (c+1) false b).1 f (c+1),(ci (ce,c+1) (c+1) false b).2):=by rw[M4 h8,Bn]
   have uH:mO T ce:=by
    rw[Bn];split;·exact U.ka hT.1
    exact U
   have uY:ce.length=st.length:=by
    rw[Bn];split;·exact M0
    rfl
   have eG:=Gl x hT.1;rw[pU] at uJ;have uJ:(ci (ce,c+1) (c+1) false b).2<st.length:=uJ;have Q7:=M6 (T:=T) b (ce,c+1) (c+1) false S.2.2.1 hT.2.2.1;have yR:c+1<=(ci (ce,c+1) (c+1) false b).2:=Q7.2.2;have EC:(ci (ce,c+1) (c+1) false b).1.length=ce.length:=Q7.2.1;have asw:c<2305843009213693952:=by have:=U.len;omega
   have Ux:K.nx≠bc:=by omega
   have vH:(k=8/\mb=false)\/(k=8/\mb=true)\/k=50:=by
    rcases h8 with h8 | h8
    ·cases mb;·exact .inl ⟨h8,rfl⟩
     exact .inr (.inl ⟨h8,rfl⟩)
    exact .inr (.inr h8)
   have II:((c+1:Nat):Int)=(c:Nat)+1:=by omega
   have oc0:=C.c;obtain⟨K0,mc⟩ : ∃K0,K0=K.new (.cells [.int .i64 (k:Nat), .int .i64 l, .string (tx x), .int .i64 (o:Nat), .slice q 2 2] 26 .ex):=⟨_,rfl⟩;have IP:K0.ob K.nx= .cells [.int .i64 (k:Nat), .int .i64 l, .string (tx x), .int .i64 (o:Nat), .slice q 2 2] 26 .ex:=by rw[mc];exact jf
   have Q8:ag K K0:=by rw[mc];exact J
   have asx:K0.nx=K.nx+1:=by rw[mc];rfl
   have eO:aR gE 62 [.int .i64 (f:Nat), .string (tx x),pN b3,pN b4] K0 λ_ K'=>∃W',lx v hv (dv st f x) K' W'/\VX n9 W W' K0 K':=by
    rw[mc];exact eG
   rcases vH with ⟨rfl,rfl⟩ | ⟨rfl,rfl⟩ | rfl
   all_goals
    first
    | (have oS:ce=dv st f x:=by rw[Bn,iP ⟨rfl,rfl⟩]
       refine rn @on ?_;rw[<-mc];refine eO.mono λv1 u ⟨D,zX,t⟩=> ?_;have XI:=t.nx;have jh:u.ob K.nx=_:=(t.ob K.nx Om (λw=>by have:=rD _ w;omega) id).trans IP;have rE:u.ob bc= .cells [.int .i64 (c:Nat)] 3 .ex:=(t.ob bc Om n4 id).trans ((Q8.ob bc l4).trans C.c);refine rn (an @jh @rE) ?_;obtain⟨z,ux⟩ : ∃z,z=u.set bc (.cells [.int .i64 ((c:Nat)+1)] 3 .ex):=⟨_,rfl⟩;have hB : ∃P,lx v hv ce z P/\VX (· = bc) W P K z/\z.ob bc= .cells [.int .i64 ((c+1:Nat):Int)] 3 .ex/\K.nx+1<=z.nx:=by
        have tp : ¬D bc:=λw=>(t.w _ w).elim n4 λg=>by omega
        rw[ux,II,oS];exact⟨D,zX.st (al _) λy hy=>cv λe=>tp (e▸hy),VX.set (X:=(· = bc)) (p:=bc) ((VX.ext Q8).trans (t.up λ_ h=>h.elim)) (.inr rfl) _,by rw[bP,iP rfl],by show K.nx+1<=u.nx;omega⟩
       rw[<-ux];clear ux)
    | (have oS:ce=st:=by
        rw[Bn,iN];intro h;first
        | exact absurd h.1 de
        | exact absurd h.2 de
       refine rn (an @on @oc0) ?_;obtain⟨z,ux⟩ : ∃z,z=K0.set bc (.cells [.int .i64 ((c:Nat)+1)] 3 .ex):=⟨_,rfl⟩;rw[<-mc,<-ux];have hB : ∃P,lx v hv ce z P/\VX (· = bc) W P K z/\z.ob bc= .cells [.int .i64 ((c+1:Nat):Int)] 3 .ex/\K.nx+1<=z.nx:=by
        rw[ux,II,oS];exact⟨W,(sW.hx Q8).st (al _) λy hy=>cv λe=>n4 (e▸hy),VX.set (X:=(· = bc)) (p:=bc) (VX.ext Q8) (.inr rfl) _,by rw[bP,iP rfl],by show K.nx+1<=K0.nx;omega⟩
       clear ux)
   all_goals
    obtain⟨P,Gk,oa,zI,l7⟩:=hB;have IY:=C.ex oa zI;obtain⟨Q9,apS⟩:=M8 z P oa;obtain⟨ew2,sH⟩:=IY.w;have yb:=FO (K:=z) (A:=A) (i:=1) (hs.mv λb hb=>⟨hb,apS b hb⟩) (λb hb=>(Q9 b hb).1) rfl;refine yb.mono λv3 K3 ⟨os3,e3,gF,hs3⟩=> ?_;subst e3;have DW:=IY.hx gF;obtain⟨ew3,DG⟩:=DW.w;have hcw:=ih b (by simp only[eD] at Dv;omega) S.2.2.1 hT.2.2.1 ce (c+1) (c+1) false K3 P A os3 (hs3.mv λb hb=>⟨hb,gF.ob b (Q9 b hb).1⟩) (λb hb=>⟨cj (Q9 b hb).1 gF.nx,(Q9 b hb).2⟩) DW (Gk.hx gF) uH (al _) Om;refine rn (an @sH @DG) ?_;refine hcw.mono λv4 K4 ⟨W4,ae9,DX,BK⟩=> ?_;obtain⟨V,fG⟩ : ∃V,ci (ce,c+1) (c+1) false b=V:=⟨_,rfl⟩;rw[fG] at ae9 BK Q7 yR EC uJ pU;have Rc:mO T V.1:=Q7.1 uH;have apT:VX (· = bc) W W4 K K4:=(oa.trans (VX.ext gF)).trans DX;obtain⟨o3,o4,l3,l4,w3,w4⟩:=(DW.ex DX BK).fb;obtain⟨ow,bs,ms,hq,fc,hfA⟩:=ae9;obtain⟨G,q4,kd4,L4,Mr,b4',vf,x0,x1,x2,x3,x4,x6,x7,x8,x9,hG,rfl,oq4,XJ,dW,apU,oG,hbG,hqG,hrG⟩:=hfA.row (g:=c+1) Om;obtain⟨Y,Rd⟩ : ∃Y,V.1[f]? = some Y:=⟨_,bM Om⟩;have XK:rA V.1 f (c+1)=dC V.1 f λ_=>G.fs.foldl iR Y:=by
     unfold rA;rw[MP Rd,yw,hG];rfl
    obtain⟨qf,r,M9,rfl,wv⟩ : ∃qf r M9,vf= .slice qf G.fs.length G.fs.length/\(G.fs≠ []->qf=some ⟨r,0,none⟩/\ow r=some (c+1,4)/\r<K4.nx/\K4.ob r= .cells (G.fs.flatMap jT) 9 M9):=by
     rcases hrG with ⟨h1,h2⟩ | ⟨r,M9,h1,h2,h3,h4,_⟩
     ·exact⟨none,0, .ex,by rw[h1,h2];rfl,λh=>absurd h1 h⟩
     exact⟨_,r,M9,h1,λ_=>⟨rfl,h2,h3,h4⟩⟩
    have hGl:=hFl V.1 G Rc (fi hG);have asy:f≠c+1:=by omega
    refine rn (oA @sH @DG @o3 @oq4 @XJ @dW @apU @oG) ?_;refine fC (λn fr d=>PpJ (.slice (some ⟨q4,0,none⟩) Mr Mr) hv W4 K4 f Y V.1 G.fs r (c+1) n (fr 62) d) (n:=G.fs.length) ⟨0,ow,bs,ms,hq,fc,W4,rfl,cx _,by(refine aC ?_;all_goals rfl),by rw[xd,List.foldl_nil,QX Rd];exact hfA, .ext (ag.refl _),λh=>⟨(wv h).2.1,(wv h).2.2.1,rfl⟩⟩ ?_;rintro n td d ⟨i,sI,BV,Na,QP,Nb,Q,rfl,hi,f62,Gm,E,FE⟩ M;have zy:=E.nx;obtain⟨IZ,IH,l35,l45,XL,w45⟩:=(show FB b3 b4 (.slice (some ⟨q4,0,none⟩) Mr Mr) hv K4 W4 from ⟨o3,o4,l3,l4,w3,w4⟩).ex E id id;by_cases B:i<G.fs.length
    ·obtain⟨s,hs⟩ : ∃s,G.fs[i]? = some s:=⟨_,bM B⟩;have aA:G.fs≠ []:=λe=>by rw[e] at B;exact absurd B (fM _)
     obtain⟨rfl,asz,XM,Fu⟩:=wv aA;obtain⟨Z,Nc,I0⟩:=FE aA;have I0:=I0.trans Fu;obtain⟨ze,jV⟩:=M7 hs;have lX:G.fs.take (i+1)=G.fs.take i++ [s]:=by
      obtain⟨_,e⟩:=List.getElem?_eq_some_iff.1 hs;rw[rL B,e]
     obtain⟨j,XN⟩ : ∃j,j=(G.fs.take i).foldl iR Y:=⟨_,rfl⟩;have R:(G.fs.take (i+1)).foldl iR Y=iR j s:=by rw[lX,List.foldl_append,<-XN];rfl
     rw[<-XN] at Gm;have hFg:(dC V.1 f λ_=>j)[f]? = some j:=Xp Om;have hT5:j.fs.length<=1099511627776:=by
      have h1:=XD (T:=T) (G.fs.take i) Y (Rc.fs Y (fi Rd)).1 (Rc.fs Y (fi Rd)).2 λy hy=>(Rc.fs G (fi hG)).2 y (List.mem_of_mem_take hy);rw[<-XN] at h1;exact bW (MY h1.1 h1.2) zY
     obtain⟨b,m,vp,vl,vc,vf,m1,m2,m3,ai,zW,xQ,⟨q,L,kd,n,ev,oq,q1,q2,q3,q4',qW,q5,q6,q7⟩,⟨hq,L2,lh,n2,rfl,uI,r1,r2,r3,r4,rW,r5,r6,r7⟩,IN,MX,gT,kN,uz,dH,rH,tL,pm,oX,apV,ae',yo,ta⟩:=Gm.add hFg s;cases ev;have dT:=rH.lk s;have dx:=pm.lk s;by_cases hp:s∈j.ps++j.ls
     ·rw[og hp] at dT;have hy:iR j s=j:=ae8 (.inl (List.mem_append.1 hp));by_cases ho:s∈j.fs
      ·rw[og ho] at dx;repeat' (first | (simp (disch:=first | omega | (decide +kernel)) only[↓eF,↓pF,↓dy,↓si,↓sk,↓gX,↓lF,↓gO,↓iI,↓qL,↓eR,↓eS,↓dY,↓fB,↓aP,↓aT,↓bf,dX,↓eQ,↓nM,bK,fS,iJ,y7,sn,gY,pop,aD,↓reduceIte,Nat.reduceEqDiff,fK,fL,Int.reduceAdd,iK,qN,iP,iB,bJ,gj,M,f62,I0,ze,IZ,IH,oq,q1,uI,r1,dH,dT,dx]) | ((with_reducible first|apply aF|apply aG|apply aH)<;>intro _))
       exact⟨G.fs.length-(i+1),Om,i+1,sI,BV,Na,_,Nb,Q,rfl,B,rfl,by rw[R,hy];exact Gm,E,λ_=>⟨Z,Nc,FE aA |>.2.2⟩⟩
      rw[oh ho] at dx;repeat' (first | (simp (disch:=first | omega | (decide +kernel)) only[↓eF,↓pF,↓dy,↓si,↓sk,↓gX,↓lF,↓gO,↓iI,↓qL,↓eR,↓eS,↓dY,↓fB,↓aP,↓aT,↓bf,dX,↓eQ,↓nM,bK,fS,iJ,y7,sn,gY,pop,aD,↓reduceIte,Nat.reduceEqDiff,fK,fL,sT,iK,qN,iP,iB,bJ,gj,M,f62,I0,ze,IZ,IH,oq,q1,uI,r1,dH,dT,dx]) | ((with_reducible first|apply aF|apply aG|apply aH)<;>intro _))
      exact⟨G.fs.length-(i+1),Om,i+1,sI,BV,Na,_,Nb,Q,rfl,B,rfl,by rw[R,hy];exact Gm,E,λ_=>⟨Z,Nc,FE aA |>.2.2⟩⟩
     rw[oh hp] at dT;by_cases ho:s∈j.fs
     ·have hy:iR j s=j:=ae8 (.inr ho);rw[og ho] at dx;repeat' (first | (simp (disch:=first | omega | (decide +kernel)) only[↓eF,↓pF,↓dy,↓si,↓sk,↓gX,↓lF,↓gO,↓iI,↓qL,↓eR,↓eS,↓dY,↓fB,↓aP,↓aT,↓bf,dX,↓eQ,↓nM,bK,fS,iJ,y7,sn,gY,pop,aD,↓reduceIte,Nat.reduceEqDiff,fK,fL,Cd,iK,qN,iP,iB,bJ,gj,M,f62,I0,ze,IZ,IH,oq,q1,uI,r1,dH,dT,dx]) | ((with_reducible first|apply aF|apply aG|apply aH)<;>intro _))
      exact⟨G.fs.length-(i+1),Om,i+1,sI,BV,Na,_,Nb,Q,rfl,B,rfl,by rw[R,hy];exact Gm,E,λ_=>⟨Z,Nc,FE aA |>.2.2⟩⟩
     rw[oh ho] at dx;have hy:=apP (F:=j) (s:=s) λh=>h.elim (λh=>hp (List.mem_append.2 h)) ho;obtain⟨oo,pf,XB⟩:=pm.up s 1;have h3m:b3≠m:=λe=>XL (e▸MX);have h4m:b4≠m:=λe=>w45 (e▸MX);have h3b:b3≠b:=λe=>XL (e▸IN);have jr : ∀y,y<d.nx->y≠m->((d.set m oo).new (.cells [.string (tx s)] 9 .ex)).ob y=d.ob y:=λy hy hc=>by
      rw[bQ (by show y≠d.nx;omega),cv hc]
     repeat' (first | (simp (disch:=first | omega | (decide +kernel)) only[↓eF,↓pF,↓dy,↓gX,↓lF,↓gO,↓iI,↓eR,↓Bc,↓y8,↓KP,oO,bS,↓eS,↓dY,↓fB,↓ti,↓mz,↓aP,↓ez,↓aT,↓bf,qE,cV,bP,dX,pE,th,↓eQ,↓nM,bK,fS,iJ,y7,sn,gY,pop,aD,da,bD,fj,isVal,dp,dG,nz,fg,↓reduceIte,Nat.reduceEqDiff,reduceCtorEq,fK,fL,cw,cX,qM,qQ,xI,Ai,tR,ly,jz,GK,yA,qB,tS,iv,Nat.reduceLeDiff,al,sT,wB,iK,↓xH,qP,iP,iB,bJ,lP,gj,and_true,M,f62,I0,ze,IZ,IH,oq,q1,uI,r1,dH,dT,dx,pf,h3m,q6,uz]) | ((with_reducible first|apply aF|apply aG|apply aH)<;>intro _))
     refine Ds (A:=wP 0) (bytes:=16) (f:=jT) (y:=s) FN (oX.nx (by show d.nx<=d.nx+1;omega) λy g1 g2 ⟨n',c',ev⟩=>jr y g2 λe=>by subst e;exact ae' _ _ _ ev) Om Om rfl λK7 k1 k2 k3=> ?_;have k2:K7.nx=d.nx+1+1:=k2;have xR : ∀y,y<d.nx->y≠m->ik vf y->K7.ob y=d.ob y:=λy hy hc ho=>(k3 y (by show y<d.nx+1;omega) ho).trans (jr y hy hc);have apW:=(xR b gT uz apV).trans dH;have o37:=(xR b3 l35 h3m λo n c ev=>XL (yo o n c b3 ev)).trans IZ;have oq7:=(xR q4 q4' q6 q7).trans oq;repeat' (first | (simp (disch:=first | omega | (decide +kernel)) only[↓dy,↓si,↓sk,↓gX,↓eR,↓Bc,↓HQ,↓y8,↓HT,↓HV,↓HX,HY,HU,sq,oO,bS,↓eS,↓dY,↓fB,↓mz,↓aP,↓ez,↓aT,↓bf,gJ,qE,bP,dX,pE,↓eQ,bK,fS,iJ,gY,pop,aD,bD,isVal,bu,dp,↓reduceIte,Nat.reduceEqDiff,Nat.reduceAdd,fK,fL,cw,cX,qM,EY,tR,ly,jU,mR,yz,GM,Cc,Kd.cD,qB,tS,Nat.reduceLeDiff,iP,iN,iB,bJ,lP,gj,and_true,M,f62,IZ,oq,o37,oq7,q1,apW]) | ((with_reducible first|apply aF|apply aG|apply aH)<;>intro _))
     obtain⟨K8,I1⟩ : ∃K8,K8=K7.set b (.cells [.string (tx j.nm), .int .i64 j.par,vp,vl,vc, .slice (some ⟨d.nx+1,0,none⟩) (j.fs.length+1) (j.fs.length+1), .bool j.gen, .map (some m1), .map (some m2), .map (some m3)] 75 .ex):=⟨_,rfl⟩;rw[<-I1];have hn8:K8.nx=K7.nx:=by rw[I1];rfl
     have IX : ∀y,y<d.nx->y≠b->y≠m->ik vf y->K8.ob y=d.ob y:=λy hy h1 h2 h3=>by rw[I1];exact(cv h1).trans (xR y hy h2 h3)
     obtain⟨yf,afa,apX⟩:=ta K8 (d.nx+1) Om Om (λy hy hw h1 h2 h3=>IX y hy h1 h2 h3) (DK (L:=j.fs) (s:=s)▸XB _ (by rw[I1,cv (sS uz),k3 m (by show m<d.nx+1;omega) ae',bQ (by show m≠d.nx;omega),bP,iP rfl])) (by rw[I1];exact(cv Om).trans k1) (by rw[I1,bP,iP rfl]);rw[Xo] at afa;have KU:r≠b:=λe=>by rw[e,ai] at Z;simp at Z
     have hrm:r≠m:=λe=>by rw[e,zW] at Z;simp at Z
     have dO:ik vf r:=λo n c' ev=>by
      have:=xQ o n c' r ev;rw[Z] at this;simp only[Option.some.injEq,Prod.mk.injEq] at this;omega
     exact⟨G.fs.length-(i+1),Om,i+1,yf,BV,Na,_,Nb,_,rfl,B,rfl,by rw[R,hy];exact afa,E.trans ⟨Om,λy h1 h2 _=>IX y h1 (λe=>h2 (by rw[e];exact IN)) (λe=>h2 (by rw[e];exact MX)) λo n c' ev=>h2 (yo o n c' y ev),λy hy=>by
      rcases hy with hy | hy
      ·exact .inl hy
      exact .inr Om⟩,λ_=>⟨(apX.ow r Nc).trans Z,Om,(IX r Nc KU hrm dO).trans (FE aA).2.2⟩⟩
    have B:i=G.fs.length:=by omega
    subst B;rw[pQ,<-XK] at Gm;refine rn (an @M @f62) ?_;refine .inr ⟨rfl,Q,?_,apT.trans (E.up λ_ h=>h.elim),?_⟩;·rw[pU];exact⟨sI,BV,Na,QP,Nb,Gm⟩
    rw[pU];exact(E.ob bc (DW.ex DX BK).lt.2.2.2 (DW.ex DX BK).nw.2.2.2 id).trans BK
  by_cases h9:k=9
  ·subst h9;obtain⟨a,bk',bl',bx',bo',ms,rfl⟩ : ∃a bk bl bx bo ms,ks= [a, .mk bk bl bx bo ms]:=by
    have h2:ks.length=2:=S.1.1 (.inl rfl);match ks,h2 with
    | [a, .mk bk bl bx bo ms],_=>exact⟨a,bk,bl,bx,bo,ms,rfl⟩
   have eG:=Gl x hT.1;have zM:kS ms:=S.2.2.1.2;have Re:qw T ms:=hT.2.2.1.2;rw[Gf] at uJ;have uJ:(iU (ci (dv st f x,c) f false a) f ms).2<st.length:=uJ;refine rn @on ?_;refine eG.mono λv1 u ⟨D,zX,t⟩=> ?_;have XI:K.nx+1<=u.nx:=t.nx;have XO:VX (· = bc) W D K u:=(VX.ext J).trans (t.up λ_ h=>h.elim);have rE:u.ob bc= .cells [.int .i64 (c:Nat)] 3 .ex:=(t.ob bc (by show bc<K.nx+1;omega) n4 id).trans ((J.ob bc l4).trans C.c);have onK : ∀w,W w->w<K.nx:=rD;have jh:u.ob K.nx= .cells [.int .i64 ((9:Nat):Int), .int .i64 l, .string (tx x), .int .i64 (o:Nat), .slice q [a,Nd.mk bk' bl' bx' bo' ms].length [a,Nd.mk bk' bl' bx' bo' ms].length] 26 .ex:=(t.ob K.nx (iC _) (λw=>by have:=rD _ w;omega) id).trans jf;have apY : ¬D K.nx:=λw=>(t.w _ w).elim (λh=>by have:=rD _ h;omega) λh=>by have h:K.nx+1<=K.nx:=h;omega
   have Ux:K.nx≠bc:=by omega
   have IW:=C.ex XO rE;obtain⟨BX,XP⟩:=M8 u D XO;have F4:mO T (dv st f x):=U.ka hT.1;have dT:(dv st f x).length=st.length:=M0;have Rf:=M6 (T:=T) a (dv st f x,c) f false S.2.1 hT.2.1;have hkc:=XF (T:=T) ms (ci (dv st f x,c) f false a) f zM Re;have WY:=FO (K:=u) (A:=A) (i:=0) (hs.mv λb hb=>⟨hb,XP b hb⟩) (λb hb=>(BX b hb).1) rfl;refine rn @jh ?_;refine WY.mono λv2 z ⟨oW,e2,dt,iH⟩=> ?_;subst e2;have l7:=dt.nx;have IY:=IW.hx dt;obtain⟨ew1,vG⟩:=IW.w;obtain⟨ew2,sH⟩:=IY.w;have Nf:=(dt.ob K.nx Om).trans jh;have Hy:=ih a (by simp only[eD] at Dv;omega) S.2.1 hT.2.1 (dv st f x) c f false z D A oW (iH.mv λb hb=>⟨hb,dt.ob b (BX b hb).1⟩) (λb hb=>⟨cj (BX b hb).1 l7,(BX b hb).2⟩) IY (zX.hx dt) F4 AF (by have h1:(ci (dv st f x,c) f false a).2<=(iU (ci (dv st f x,c) f false a) f ms).2:=hkc.2.2;show(ci (dv st f x,c) f false a).2<(dv st f x).length;omega);refine rn (gK @vG @sH @Nf) ?_;refine Hy.mono λv3 K3 ⟨W3,apZ,tI,IL⟩=> ?_;have uA:=tI.nx;have MG:VX (· = bc) W W3 K K3:=(XO.trans (VX.ext dt)).trans tI;have DW:=IY.ex tI IL;obtain⟨hA3,FS⟩:=M8 K3 W3 MG;have DO:=(tI.ob K.nx Om apY Ux).trans Nf;have W9:=FO (K:=K3) (A:=A) (i:=1) (hs.mv λb hb=>⟨hb,FS b hb⟩) (λb hb=>(hA3 b hb).1) rfl;obtain⟨ew3,DG⟩:=DW.w;refine rn (gy @vG @sH @Nf @DO) ?_;refine W9.mono λv4 K4 ⟨Wt,e4,ef,vD⟩=> ?_;subst e4;obtain⟨q4,rfl,Xa⟩:=ij vD;obtain⟨_,e5,Xb,_,Xc⟩:=mI Xa;cases e5;rw[gZ] at Xb;have BI:=ef.nx;have afb:=DW.hx ef;refine aC ?_;refine fC (λn fr d=>FcJ bc v hv W3 K4 (ci (dv st f x,c) f false a) f ms n (fr 123) d) (n:=ms.length) ⟨0,ci (dv st f x,c) f false a,W3,rfl,cx _,by(refine aC ?_;all_goals rfl),apZ.hx ef, .ext (ag.refl _),afb.c,by rw[xd,DR]⟩ ?_;rintro n td d ⟨i,I,Q,rfl,hi,f123,XQ,E,zx,zv⟩ M;have zy:=E.nx;have zJ:VX (· = bc) W Q K d:=(MG.trans (VX.ext ef)).trans E;by_cases B:i<ms.length
   ·obtain⟨m,hm⟩ : ∃m,ms[i]? = some m:=⟨_,bM B⟩;obtain⟨b5,cs,e,kd,gi,lN,ob,fc,nI,nj,aL⟩:=Xc i m hm;subst gi;obtain⟨DY,BP⟩:=M8 d Q zJ;have jx:=(BP b5 lN).trans ((FS b5 lN).symm.trans ob);have gQ:=fi hm;have lX:ms.take (i+1)=ms.take i++ [m]:=by
     obtain⟨_,e⟩:=List.getElem?_eq_some_iff.1 hm;rw[rL B,e]
    have Rg:=afb.ex E zx;obtain⟨ew5,sI⟩:=Rg.w;obtain⟨_,hwl,_,_⟩:=Rg.lt;have kH:=XF (T:=T) (ms.take i) (ci (dv st f x,c) f false a) f (ae2 zM i) (ae4 Re i);rw[<-zv] at kH;have R:iU (ci (dv st f x,c) f false a) f (ms.take (i+1))=iU I f [m]:=by rw[lX,Q5,<-zv]
    have jq:=XF (T:=T) (ms.drop (i+1)) (iU I f [m]) f (ae3 zM _) (ae5 Re _);have jA:iU (ci (dv st f x,c) f false a) f ms=iU (iU I f [m]) f (ms.drop (i+1)):=by
     conv=>lhs;rw[<-Al (i+1) ms,Q5,R]
    have aN:(iU I f [m]).2<I.1.length:=by
     have h1:=jq.2.2;rw[<-jA] at h1;have h2:I.1.length=(ci (dv st f x,c) f false a).1.length:=kH.2.1;have h3:(ci (dv st f x,c) f false a).1.length=(dv st f x).length:=Rf.2.1;omega
    have afc:f<=I.2:=by
     have h1:(ci (dv st f x,c) f false a).2<=I.2:=kH.2.2;have h2:c<=(ci (dv st f x,c) f false a).2:=Rf.2.2;omega
    have BQ:=MA zM gQ;have afd:=MZ Re gQ;have FT:eV m<=N:=by
     have:=BH gQ;simp only[eD,eV] at Dv;omega
    have zK:b9 K A (dr m) (List.take 5 (List.drop (i*5) cs)):=aL.mv λb hb=>⟨hb,(FS b hb).symm⟩;obtain⟨mk,ml,mx,mo,cH⟩:=m;obtain⟨mq,dq,zL⟩:=ij zK;rw[dq] at zK;by_cases h3:mk=3
    ·subst h3;obtain⟨p,w,r,rfl⟩ : ∃p v r,cH=p::v::r:=by
      have h2:2<=cH.length:=BQ.1.2 rfl;match cH,h2 with
      | p::v::r,_=>exact⟨p,v,r,rfl⟩
     rw[Gi,DR] at R aN;obtain⟨O,jw⟩ : ∃O,O=(d.new (.cells [.int .i64 0, .int .i64 0, .string ⟨⟨[]⟩⟩, .int .i64 0, .slice none 0 0] 26 .ex)).set d.nx (.cells [.int .i64 ((3:Nat):Int), .int .i64 ml, .string (tx mx), .int .i64 (mo:Nat), .slice mq (r.length+1+1) (r.length+1+1)] 26 .ex):=⟨_,rfl⟩;have dF:ag d O:=by rw[jw];exact((ag.refl d).new _).set (al _) _
     have tp:O.nx=d.nx+1:=by rw[jw];rfl
     have Xf:=FO (K:=O) (A:=A) (i:=1) (zK.mv λb hb=>⟨hb,(dF.ob b (DY b hb).1).trans (BP b hb)⟩) (λb hb=>by have:=(DY b hb).1;omega) rfl;refine rn (rR @M @f123 @jx @dq @sI @bJ) ?_;rw[<-jw];refine Xf.mono λv7 K7 ⟨Xg,e7,rG,Xh⟩=> ?_;subst e7;have afe:=Rg.hx dF;have aff:=afe.hx rG;obtain⟨ewb,owb⟩:=afe.w;obtain⟨ew7,yf⟩:=aff.w;have rY:=ih w (by simp only[eV,eD] at FT;omega) BQ.2.2.1 afd.2.2.1 I.1 I.2 f false K7 Q A Xg (Xh.mv λb hb=>⟨hb,rG.ob b (by have:=(DY b hb).1;omega)⟩) (λb hb=>⟨by have:=(DY b hb).1;have:=rG.nx;omega,(DY b hb).2⟩) aff ((XQ.hx dF).hx rG) (kH.1 (Rf.1 F4)) afc aN;refine rn (gK @M @owb @yf) ?_;refine rY.mono λv8 K8 ⟨W8,XR,BR,wO⟩=> ?_;refine rn (gy @M @f123 @owb @yf) ?_;exact⟨ms.length-(i+1),Om,i+1,ci I f false w,W8,rfl,B,rfl,XR,((E.trans (VX.ext dF)).trans (VX.ext rG)).trans BR,wO,R.symm⟩
    have mE : ¬((Nd.mk mk ml mx mo cH).kind=3/\2<=(Nd.mk mk ml mx mo cH).kids.length):=λe=>h3 e.1;rw[Gj mE,DR] at R aN;obtain⟨O,jw⟩ : ∃O,O=(d.new (.cells [.int .i64 0, .int .i64 0, .string ⟨⟨[]⟩⟩, .int .i64 0, .slice none 0 0] 26 .ex)).set d.nx (.cells [.int .i64 (mk:Nat), .int .i64 ml, .string (tx mx), .int .i64 (mo:Nat), .slice mq cH.length cH.length] 26 .ex):=⟨_,rfl⟩;have dF:ag d O:=by rw[jw];exact((ag.refl d).new _).set (al _) _
    have tp:O.nx=d.nx+1:=by rw[jw];rfl
    have ap0:=ih (.mk mk ml mx mo cH) FT BQ afd I.1 I.2 f true O Q A _ (zK.mv λb hb=>⟨hb,(dF.ob b (DY b hb).1).trans (BP b hb)⟩) (λb hb=>⟨by have:=(DY b hb).1;omega,(DY b hb).2⟩) (Rg.hx dF) (XQ.hx dF) (kH.1 (Rf.1 F4)) afc aN;refine rn (rR @M @f123 @jx @dq @sI @bJ) ?_;rw[<-jw];refine ap0.mono λv8 K8 ⟨W8,XR,BR,wO⟩=> ?_;refine rn (an @M @f123) ?_;exact⟨ms.length-(i+1),Om,i+1,ci I f true (.mk mk ml mx mo cH),W8,rfl,B,rfl,XR,(E.trans (VX.ext dF)).trans BR,wO,R.symm⟩
   have B:i=ms.length:=by omega
   subst B;rw[pQ] at zv;refine rn (an @M @f123) ?_;refine .inr ⟨rfl,Q,?_,zJ,?_⟩;·rw[Gf,<-zv];exact XQ
   rw[Gf,<-zv];exact zx
  have mi:=M5 (st:=(st,c)) (f:=f) (mb:=mb) (l:=l) (x:=x) (o:=o) (ks:=ks) rI h8 h9;by_cases lH:k=36\/k=16\/k=21
  ·rw[iP lH] at mi;have eG:=Gl x hT.1;rcases lH with rfl | rfl | rfl
   all_goals
    refine rn @on ?_;refine eG.mono λv1 u ⟨D,zX,t⟩=> ?_;have XI:K.nx+1<=u.nx:=t.nx;refine aC ?_;refine .inl ⟨rfl,by(exact aZ;all_goals rfl),by(exact aZ;all_goals rfl),by(exact aZ;all_goals rfl),dv st f x,D,zX,(VX.ext J).trans (t.up λ_ h=>h.elim),XI,(t.ob bc (by show bc<K.nx+1;omega) n4 id).trans ((J.ob bc l4).trans C.c),(t.ob K.nx (iC _) (λw=>by have:=rD _ w;omega) id).trans jf,mi, .inr ⟨x,rfl,rfl⟩⟩
  rw[iN lH] at mi;refine aC ?_;exact .inl ⟨rfl,by(exact aZ;all_goals rfl),by(exact aZ;all_goals rfl),by(exact aZ;all_goals rfl),st,W,sW.hx J, .ext J,al _,(J.ob bc l4).trans C.c,jf,mi, .inl rfl⟩
 rintro x1 fr H (⟨rfl,f1,f8,f9,bN,D,zX,t,eG,rE,o1,mi,afg⟩ | ⟨rfl,hq⟩)
 ·have o1:H.ob K.nx= .cells [.int .i64 (k:Nat), .int .i64 l, .string (tx x), .int .i64 (o:Nat), .slice q ks.length ks.length] 26 .ex:=o1;have mi:ci (st,c) f mb (.mk k l x o ks)=lM (bN,c) f ks:=mi;have hFX:=C.ex t rE;obtain⟨ek1,ok1⟩:=hFX.k;obtain⟨BX,XP⟩:=M8 H D t;have F4:mO T bN:=by
   rcases afg with rfl | ⟨y,e,rfl⟩
   ·exact U
   exact U.ka (by rw[e];exact hT.1)
  have dT:bN.length=st.length:=by
   rcases afg with rfl | ⟨y,e,rfl⟩
   ·rfl
   exact M0
  rw[mi] at uJ⊢;have hk:=apM ih Dv S.2 hT.2 (eT.mv λb hb=>⟨hb,XP b hb⟩) BX hFX zX F4 AF Om;rw[dy];refine rn (iD @f1 @f8 @f9 @o1 @ok1) ?_;refine hk.mono λv2 z ⟨P,Gk,oa,zI⟩=> ?_;refine aC ?_;exact⟨P,Gk,t.trans oa,zI⟩
 refine aC ?_;exact hq
theorem afh{T:List Bs}{bn bc bw b3 b4 bk:Nat}{v hv:ae}(a:T.length<=1099511627776) : ∀N,Q4 T bn bc bw b3 b4 bk v hv N
 | 0=>λt h=>by cases t;simp[eV] at h
 | N+1=>apQ a (afh a N)
def FhJ (K0:CH)(q n:Nat)(nd:cy)(m:Nat)(v:ae)(a:CH):Prop:=∃(i:Nat) (L:List ae),m=n-i/\i<=n/\v= .int .i64 (i:Nat)/\ag K0 a/\a.nx=K0.nx+4+i/\a.ob K0.nx=nd/\a.ob (K0.nx+1)= .cells [.slice (some ⟨q,0,none⟩) n n] 65 .ex/\a.ob (K0.nx+3)= .cells [.slice (some ⟨K0.nx+2,0,none⟩) n n] 103 .ex/\a.ob (K0.nx+2)= .cells L 56 .ex/\L.length=n/\∀j,j<i->L[j]? = some (.map (some (K0.nx+4+j)))/\a.ob (K0.nx+4+j)= .map #[] 0
def ap1(v:ae)(st:List ah)(W:Nat->Prop)(K K':CH):Prop:=∃(bY:Ow) (a:List Nat) (W':Nat->Prop),(∀b,W' b↔bY b≠none)/\(∀b,bY b≠none->b<K'.nx)/\j0 true K' bY v st a/\VX n9 W W' K K'
theorem ap2{L:List ae}{i:Nat}{u:ae}(h:i<L.length):setCells L i [u]=L.set i u:=by
 unfold setCells;rw[List.set_eq_take_append_cons_drop,iP h];simp
theorem ap3{z:List ae}{n:Nat}:(kB z n).length=n:=by simp[kB]
theorem ap4{T:List Bs}(zY:T.length<=1099511627776){t:Nd}(cR:mL t)(hT:vL T t){ow:Ow}{v:ae}{st:List ah}{bs:List Nat}{K:CH}{W A:Nat->Prop}{os:List ae}(M : ∀b,W b↔ow b≠none)(Z : ∀b,ow b≠none->b<K.nx)(kw:j0 true K ow v st bs)(hP:mO T st)(uT : ∀F∈st,F.fs= [])(hs:b9 K A (dr t) os)(hA : ∀b,A b->b<K.nx/\¬W b)(uJ:(ci (st,0) 0 false t).2<st.length)(jV:st.length<=1099511627777):aR gE 35 [.agg os.toArray,v] K λ_ K'=>ap1 v (ci (st,0) 0 false t).1 W K K':=by
 have wR:=kw;obtain⟨q,kd,rfl,pe,uF,iA,fc,e9⟩:=kw;obtain⟨s,rfl,eT⟩ : ∃s,os=fD s/\True:=by
  obtain⟨s,h⟩:=tz hs;exact⟨s,h,trivial⟩
 have dN:bs.length<=1099511627777:=by rw[e9.len];exact jV
 unfold fD at hs⊢;refine du Rl Kr (aV ?_);have N:(8:Int)*(bs.length:Nat)<=281474976710656:=by omega
 refine rn @N ?_;refine fC (λn fr d=>FhJ K q bs.length (.cells [.int .i64 s.k, .int .i64 s.l, .string s.x, .int .i64 s.o, .slice s.a s.n s.c] 26 .ex) n (fr 15) d) (n:=bs.length) ⟨0,_,rfl,cx _,by(refine aC ?_;all_goals rfl),by(repeat (first | assumption | exact ag.refl _ | (refine ag.set ?_ Fo _) | (refine ag.new ?_ _))),rfl,by(exact aZ;all_goals rfl),by(exact aZ;all_goals rfl),by(exact aZ;all_goals rfl),by(refine aC ?_;all_goals rfl),ap3,λj E=>absurd E (fM _)⟩ ?_;rintro n fr d ⟨i,L,rfl,hi,f15,I,eG,jh,o3,o4,oL,Le,O⟩ am;by_cases P:i<bs.length
 ·have Q:i<L.length:=by omega
  have nc:=ap2 (u:= .map (some d.nx)) Q;refine rn (iD @am @f15 @o4 @oL @Q) ?_;rw[nc];have h2 : ∀o y,y<d.nx->y≠K.nx+2->((d.new (.map #[] 0)).set (K.nx+2) o).ob y=d.ob y:=λo y h1 h2=>by rw[cv h2,bQ Om]
  refine⟨bs.length-(i+1),Om,i+1,_,rfl,P,rfl,((I.new _).set Om _),by show d.nx+1=_;omega,(h2 _ _ Om Om).trans jh,(h2 _ _ Om Om).trans o3,(h2 _ _ Om Om).trans o4,by rw[bP,iP rfl],by rw[List.length_set];exact Le,λj E=> ?_⟩;rw[List.getElem?_set];by_cases wA:i=j
  ·subst wA;rw[iP rfl,iP Q,cv Om,<-eG];exact⟨rfl,jf⟩
  rw[iN wA,h2 _ _ Om Om];exact O j Om
 have P:i=bs.length:=by omega
 subst P;have e2:K.nx+1+1+1=K.nx+3:=rfl;refine rn (gK @am @f15 @jh) ?_;refine MK (λr=>ag d r/\r.nx=d.nx+4/\r.ob d.nx= .cells [.int .i64 0] 3 .ex/\(∃e,r.ob (d.nx+1)= .cells [.func (.func 62) #[] #[pN (K.nx+1),pN (K.nx+3)]] e .ex)/\(∃e,r.ob (d.nx+2)= .cells [.func (.func 64) #[] #[pN (d.nx+1),pN d.nx,pN (d.nx+2),pN (K.nx+1),pN (K.nx+3),pN (d.nx+3)]] e .ex)/\∃e,r.ob (d.nx+3)= .cells [.func (.func 63) #[] #[pN (d.nx+2)]] e .ex) ⟨by(repeat (first | assumption | exact ag.refl _ | (refine ag.set ?_ Fo _) | (refine ag.new ?_ _))),rfl,by(exact aZ;all_goals rfl),⟨_,by(refine aC ?_;all_goals rfl)⟩,⟨_,by(refine aC ?_;all_goals rfl)⟩,⟨_,by(refine aC ?_;all_goals rfl)⟩⟩ ?_;rintro r ⟨G,tp,R,tK,S,U⟩;have B:ag K r:=I.trans G;have mE : ∀y,K.nx<=y->ow y=none:=λy z=>GN λh=>by have:=Z y h;omega
 let C:Ow:=λy=>if y=K.nx+2 then some (0,15) else if K.nx+4<=y/\y<K.nx+4+bs.length then some (y-(K.nx+4),14) else ow y
 have H : ∀y,C y=if y=K.nx+2 then some (0,15) else if K.nx+4<=y/\y<K.nx+4+bs.length then some (y-(K.nx+4),14) else ow y:=λ_=>rfl
 have ph:pd ow C K r:=⟨B.nx,λy z=>by rw[H,iN Om,iN Om]⟩;have D : ∀y,K.nx<=y->y≠K.nx+2->¬(K.nx+4<=y/\y<K.nx+4+bs.length)->C y=none:=λy h1 h2 h3=>by rw[H,iN h2,iN h3];exact mE y h1
 have J : ∀y,C y≠none->ow y≠none\/y=K.nx+2\/(K.nx+4<=y/\y<K.nx+4+bs.length):=λy z=>by
  by_cases h1:y=K.nx+2
  ·exact .inr (.inl h1)
  by_cases h2:K.nx+4<=y/\y<K.nx+4+bs.length
  ·exact .inr (.inr h2)
  rw[H,iN h1,iN h2] at z;exact .inl z
 have V:L=((lQ bs.length).map (λj=>K.nx+4+j)).map λm=>Value.map (some m):=by
  refine Ca λj=> ?_;by_cases E:j<bs.length
  ·rw[(O j E).1];simp[E]
  rw[wW Om,wW Sq]
 have X:((lQ bs.length).map (λj=>K.nx+4+j)).length=bs.length:=by simp
 have sW:lx (.slice (some ⟨q,0,none⟩) bs.length bs.length) (.slice (some ⟨K.nx+2,0,none⟩) bs.length bs.length) st r (λy=>C y≠none):=by
  refine⟨C,bs,(lQ bs.length).map (λj=>K.nx+4+j),K.nx+2, .ex,λ_=>dS,λy z=> ?_,wR.mv9 ph λy i j g1 _ _=>B.ob y g1,by rw[X],by rw[X];exact e9.len,by rw[H,iP rfl],?_,λi F m h1 h2=> ?_⟩
  ·rcases J y z with h | h | h
   ·have:=Z y h;have:=B.nx;omega
   ·omega
   omega
  ·rw[G.ob _ Om,oL,<-V]
  have wz:i<bs.length:=by
   have:=(List.getElem?_eq_some_iff.1 h2).1;rw[X] at this;exact this
  have hm:m=K.nx+4+i:=by
   rw[hY,List.getElem?_range wz] at h2;cases h2;rfl
  subst hm;refine⟨by rw[H,iN Om,iP Om];simp,Om,?_⟩;rw[uT F (fi h1)];have e0:mf []=λ_=>0:=by funext y;simp[mf]
  rw[e0];exact .nil ((G.ob _ Om).trans (O i wz).2)
 have hX:FX (d.nx+1) d.nx (d.nx+2) (K.nx+1) (K.nx+3) (d.nx+3) (.slice (some ⟨q,0,none⟩) bs.length bs.length) (.slice (some ⟨K.nx+2,0,none⟩) bs.length bs.length) r (λy=>C y≠none) 0:=by
  refine⟨tK,S,U,R,⟨(G.ob _ Om).trans o3,(G.ob _ Om).trans o4,Om,Om,λh=>h (D _ Om Om Om),λh=>h (D _ Om Om Om)⟩,⟨Om,Om,Om,Om⟩,⟨λh=>h (D _ Om Om Om),λh=>h (D _ Om Om Om),λh=>h (D _ Om Om Om),λh=>h (D _ Om Om Om)⟩,⟨Om,Om⟩⟩
 refine(afh zY (eV t) t (al _) cR hT st 0 0 false r _ A _ (hs.mv λb hb=>⟨hb,B.ob b (hA b hb).1⟩) (λb hb=>⟨by have:=(hA b hb).1;have:=B.nx;omega,λh=>(J b h).elim (λg=>(hA b hb).2 ((M b).2 g)) λg=>by have:=(hA b hb).1;omega,by have:=(hA b hb).1;have:=I.nx;omega⟩) hX sW hP (al _) uJ).mono λv2 K2 ⟨W2,Gk,Y,_⟩=> ?_;refine aC ?_;obtain⟨DG,Ng,ms3,uk,asA,g1,g2,g3,_⟩:=Gk;have l7:=Y.nx;have hnK:=B.nx;refine⟨DG,Ng,W2,g1,g2,g3,⟨Om,λy h1 h2 _=> ?_,λy z=> ?_⟩⟩;·exact(Y.ob y Om (λh=>(J y h).elim (λg=>h2 ((M y).2 g)) λg=>by omega) (by have:=I.nx;omega)).trans (B.ob y h1)
 rcases Y.w y z with h | h
 ·rcases J y h with h | h
  ·exact .inl ((M y).2 h)
  exact .inr Om
 exact .inr Om
theorem ap6{us:List ae}{n:Nat}(h:us.length=n):(if n=0 then some ([],0) else some (us.take n,n))=some (us,n):=by
 by_cases a:n=0
 ·subst a;rw[iP rfl,List.length_eq_zero_iff.1 h]
 rw[iN a,<-h,pQ]
theorem ap7{K:CH}{ow:Ow}{a:Nat×Nat}{v:ae}{xs:List Bs}(h:jg K ow a v xs)(hl:xs.length<=1099511627776):aR gE 36 [v] K λr K'=>ag K K'/\gP K 9 1 jT K' r xs:=by
 refine du Rl Kr (aV ?_);rcases h with ⟨rfl,rfl⟩ | ⟨r,kd,rfl,_,h2,h3,h4⟩
 ·refine aC ?_;exact⟨ag.refl _,gP.nil⟩
 have b:(xs.flatMap jT).length=xs.length:=by rw[IK,fh]
 repeat' (first | (simp (disch:=first | omega | (decide +kernel)) only[↓eF,↓dy,↓gX,↓gO,↓qL,↓eR,↓eS,↓dY,↓ti,↓mz,↓aP,↓aT,↓bf,cV,dX,th,↓eQ,↓nM,bK,pop,da,fj,nz,fg,↓reduceIte,Nat.reduceEqDiff,reduceCtorEq,qQ,xI,Option.isNone_some,ly,iv,Nat.reduceLeDiff,Bool.xor_false,↓xH,iP,iN,iB,bJ,and_true,h3]) | ((with_reducible first|apply aF|apply aG|apply aH)<;>intro _))
 rw[ap6 b,qP];refine HZ (A:=K) (f:=jT) (xs:=([]:List Bs)) (ys:=xs) FN (.inr ⟨K.nx, .ex,rfl,al _,iC _,jf,rfl⟩) ((ag.refl K).new _) (by simp only[cX];omega) (by simp only[cX];omega) rfl rfl λv' K' g1 g2 g3 g4=> ?_;refine aC ?_;exact⟨g2,g1⟩
theorem jg.re{K:CH}{ow bY:Ow}{a:Nat×Nat}{v:ae}{xs:List Bs}(h:jg K ow a v xs)(ho : ∀y,ow y=some a->bY y=some a):jg K bY a v xs:=by
 rcases h with h | ⟨r,kd,h1,h2,h3,h4,h5⟩
 ·exact .inl h
 exact .inr ⟨r,kd,h1,ho r h2,h3,h4,h5⟩
theorem uE.re{K:CH}{ow bY:Ow}{a:Nat×Nat}{v:ae}{L:List Bs}(h:uE true K ow a v L)(ho : ∀y,ow y=some a->bY y=some a):uE true K bY a v L:=by
 obtain⟨m,rfl,h2,h3,h4⟩:=wQ h;exact⟨m,rfl,ho m h2,h3,h4⟩
theorem j0.re{K:CH}{ow bY:Ow}{v:ae}{fns:List ah}{bs:List Nat}(h:j0 true K ow v fns bs)(ho : ∀y i j,ow y=some (i,j)->j<=7\/j=9->bY y=some (i,j)):j0 true K bY v fns bs:=by
 obtain⟨q,kd,h1,h2,h3,h4,h5,d⟩:=h;refine⟨q,kd,h1,ho q 0 9 h2 (.inr rfl),h3,h4,h5,d.len,λi F b g1 g2=> ?_⟩;obtain⟨k,m,vp,vl,vc,vf,m1,m2,m3,n,a⟩:=d.get i F b g1 g2;have hh : ∀j,j<=7->∀y,ow y=some (i,j)->bY y=some (i,j):=λj r y e=>ho y i j e (.inl r);exact⟨hh 0 de b k,m,vp,vl,vc,vf,m1,m2,m3,n,a.p.re (hh 1 de),a.l.re (hh 2 de),a.c.re (hh 3 de),a.f.re (hh 4 de),a.b.re (hh 5 de),a.g.re (hh 6 de),a.o.re (hh 7 de)⟩
theorem Nh{E:List Ev}:(gG E).length=(jG E).length:=by
 unfold gG;rw[QT,MM]
structure Ni(T:List Bs)(B:Nat)(t:Nd):Prop where
 hh:eV t<=1000
 cl:mL t
 z:cf t<=2305843009213693952
 B16:B+16<=4398046511104
 El:(bj 0 fU t).1.length<=1099511627776
 K : ∀e∈(bj 0 fU t).1,kQ B e.1
 f : ∀e∈(bj 0 fU t).1,e.2.f<(jG (bj 0 fU t).1).length
 ps : ∀F∈gG (bj 0 fU t).1,F.ps.length<=1099511627776/\F.ls.length<=1099511627776/\F.cs= []/\F.fs= []
 ps0 : ∀F∈jG (bj 0 fU t).1,F.ps.length<=4398046511104
 b : ∀pre e rest F,pre++e::rest=(bj 0 fU t).1->(tG (sG (jG (bj 0 fU t).1) (bj 0 fU t).1) pre)[e.2.f]? = some F->F.ls.length+(kT e).length<=1099511627776
 tb : ∀e∈(bj 0 fU t).1,ru 2199023255552 e.1
 Tl:T.length<=1099511627776
 Tx:vL T t
 P:mO T (gG (bj 0 fU t).1)
 sl:(gG (bj 0 fU t).1).length<=1099511627776
 fw : ∀F∈(ci (gG (bj 0 fU t).1,0) 0 false t).1,F.ps.length<=1099511627776/\F.ls.length<=1099511627776/\F.cs= []
 ct:(ci (gG (bj 0 fU t).1,0) 0 false t).2<(gG (bj 0 fU t).1).length
structure F7 where
 nm:ByteArray
 par:Int
 p:Option cm
 pn:Nat
 l:Option cm
 ln:Nat
 c:Option cm
 cn:Nat
 f:Option cm
 fn:Nat
 g:Bool
def uK (n:F7):List ae:= [.string n.nm, .int .i64 n.par, .slice n.p n.pn n.pn, .slice n.l n.ln n.ln, .slice n.c n.cn n.cn, .slice n.f n.fn n.fn, .bool n.g]
theorem ap8 : ∀x:F7,(uK x).length=7/\(uK x).all bu=true:=λ_=>⟨rfl,rfl⟩
def BY (K:CH)(ow:Ow)(i:Nat)(F:ah)(L:List ae):Prop:=∃vp vl vc vf,L= [.string (tx F.nm), .int .i64 F.par,vp,vl,vc,vf, .bool F.gen]/\jg K ow (i,1) vp F.ps/\jg K ow (i,2) vl F.ls/\jg K ow (i,3) vc F.cs/\jg K ow (i,4) vf F.fs
def CkR (lo:Nat):Except Int (List ah)->ae->CH->Prop
 | .error l,v,_=>v= .tuple #[.slice none 0 0, .int .i64 l, .int .i64 23]
 | .ok st,v,K=>∃(ow:Ow) (r:Nat) (kd:Kd) (LL:List F7),v= .tuple #[.slice (some ⟨r,0,none⟩) st.length st.length, .int .i64 0, .int .i64 0]/\(∀y,ow y≠none->lo<=y/\y<K.nx)/\ow r=some (0,20)/\K.ob r= .cells (LL.flatMap uK) 40 kd/\kd.cD=false/\LL.length=st.length/\∀i F L,st[i]? = some F->LL[i]? = some L->BY K ow i F (uK L)
def oj (st:List ah):Nat->List ah
 | 0=>st
 | i+1=>dC (oj st i) i (ku (oj st i) i)
def ap9 (lo p:Nat)(K0:CH)(q:Nat)(st:List ah)(bs:List Nat)(n:Nat)(b d:ae)(a:CH):Prop:=∃(i:Nat) (ow:Ow) (LL:List F7),n=bs.length-i/\i<=bs.length/\b= .int .i64 (i:Nat)/\(∀y,ow y≠none->lo<=y/\y<a.nx)/\ow p=none/\a.ob p= .cells [.slice (some ⟨q,0,none⟩) bs.length bs.length] 65 .ex/\j0 true a ow (.slice (some ⟨q,0,none⟩) bs.length bs.length) (oj st i) bs/\VX n9 (λy=>lo<=y) (λy=>lo<=y) K0 a/\gP (wP 0) 40 7 uK a d LL/\LL.length=i/\(∀o n c y,d= .slice (some ⟨y,o,none⟩) n c->ow y=none/\lo<=y/\y≠p)/\∀j L,LL[j]? = some L->∃F,(oj st i)[j]? = some F/\BY a ow j F (uK L)
theorem afi{st:List ah} : ∀i,(oj st i).length=st.length
 | 0=>rfl
 | i+1=>by rw[oj,BS,afi i]
theorem XU{st:List ah} : ∀(i:Nat) {k:Nat} {G:ah},(oj st i)[k]? = some G->∃F,st[k]? = some F/\G.fs=F.fs/\G.par=F.par/\G.ps=F.ps/\G.ls=F.ls/\(i<=k->G=F)
 | 0,k,G,h=>⟨G,h,rfl,rfl,rfl,rfl,λ_=>rfl⟩
 | i+1,k,G,h=>by
   rw[oj] at h;unfold dC at h;rw[vV] at h;cases hg:(oj st i)[k]? with
   | none=>rw[hg] at h;simp at h
   | some a=>
     rw[hg] at h;obtain⟨F,h1,h2,h3,h4,h5,c⟩:=XU i hg;by_cases b:i=k
     ·have e:ku (oj st i) i a=G:=by simpa[b] using h
      rw[<-e];exact⟨F,h1,h2,h3,h4,h5,λg=>by omega⟩
     have e:a=G:=by simpa[b] using h
     rw[<-e];exact⟨F,h1,h2,h3,h4,h5,λg=>c Om⟩
theorem afj{st:List ah}{f:Nat} : ∀i,uC (oj st i) f=uC st f
 | 0=>rfl
 | i+1=>by
   refine Eq.trans ?_ (afj i);rw[oj];generalize oj st i=S;unfold uC dC;have h : ∀(S:List ah) (u:ah->ah) (k:Nat),(∀F,(u F).par=F.par/\(u F).fs=F.fs)->((S.modify k u).filter λG=>decide (G.par=(f:Int))).flatMap ah.fs=(S.filter λG=>decide (G.par=(f:Int))).flatMap ah.fs:=by
    intro S u;induction S with
    | nil=>intro k h;cases k<;>rfl
    | cons F S a=>
      intro k h;cases k with
      | zero=>
        rw[List.modify_zero_cons];by_cases hp:F.par=(f:Int)
        ·simp[hp,(h F).1,(h F).2]
        simp[hp,(h F).1]
      | succ k=>
        rw[List.modify_succ_cons];by_cases hp:F.par=(f:Int)
        ·simp only[GL,hp,decide_true,iT,List.flatMap_cons,a k h]
        simp only[GL,decide_eq_false hp,iF,Bool.false_eq_true,a k h]
   exact h S (ku S i) i λF=>⟨rfl,rfl⟩
theorem afk{st:List ah} : ∀(i k:Nat),(oj st i)[k]? = (st[k]?).map λF=>if k<i then ku st k F else F
 | 0,k=>by simp[oj]
 | i+1,k=>by
   rw[oj];unfold dC;rw[vV,afk i k];cases st[k]? with
   | none=>simp
   | some F=>
     by_cases a:i=k
     ·subst a;have e:ku (oj st i) i F=ku st i F:=by unfold ku;rw[afj]
      simp[e]
     by_cases hk:k<i
     ·simp[a,hk,show k<i+1 by omega]
     simp[a,hk,show ¬k<i+1 by omega]
theorem ap'{st:List ah}:oj st st.length=st.mapIdx λf F=>ku st f F:=by
 refine Ca λk=> ?_;rw[afk,List.getElem?_mapIdx];cases h:st[k]? with
 | none=>rfl
 | some F=>
   have hk:=(List.getElem?_eq_some_iff.1 h).1;simp[hk]
theorem BY.re{K:CH}{ow bY:Ow}{i:Nat}{F:ah}{L:List ae}(h:BY K ow i F L)(ho : ∀y j,ow y=some (i,j)->1<=j/\j<=4->bY y=some (i,j)):BY K bY i F L:=by
 obtain⟨vp,vl,vc,vf,e,h1,h2,h3,h4⟩:=h;exact⟨vp,vl,vc,vf,e,h1.re λy g=>ho y 1 g de,h2.re λy g=>ho y 2 g de,h3.re λy g=>ho y 3 g de,h4.re λy g=>ho y 4 g de⟩
theorem BY.mv{K K':CH}{ow bY:Ow}{i:Nat}{F:ah}{L:List ae}(h:BY K ow i F L)(hx:pd ow bY K K')(ho : ∀y j,y<K.nx->ow y=some (i,j)->1<=j/\j<=4->K'.ob y=K.ob y):BY K' bY i F L:=by
 obtain⟨vp,vl,vc,vf,e,h1,h2,h3,h4⟩:=h;exact⟨vp,vl,vc,vf,e,h1.mv hx λy k g=>ho y 1 k g de,h2.mv hx λy k g=>ho y 2 k g de,h3.mv hx λy k g=>ho y 3 k g de,h4.mv hx λy k g=>ho y 4 k g de⟩
def CtJ (K0:CH)(mt:Nat)(S:List ah)(f len n:Nat)(v:ae)(a:CH):Prop:=∃k:Nat,n=len-k/\k<=len/\v= .int .i64 (k:Nat)/\c7 mt K0 a/\gH a mt (mf (uC (S.take k) f))
def aqa (K0:CH)(mt:Nat)(b xs:List Bs)(n:Nat)(v:ae)(a:CH):Prop:=∃k:Nat,n=xs.length-k/\k<=xs.length/\v= .int .i64 (k:Nat)/\c7 mt K0 a/\gH a mt (mf (b++xs.take k))
theorem aqb{S:List ah}{f k:Nat}{G:ah}(h:S[k]? = some G):uC (S.take (k+1)) f=uC (S.take k) f++(if G.par=(f:Int) then G.fs else []):=by
 obtain⟨hk,e⟩:=List.getElem?_eq_some_iff.1 h;unfold uC;rw[rL hk,e,List.filter_append,List.flatMap_append];by_cases hp:G.par=(f:Int)
 ·simp[hp]
 simp[hp]
theorem aqc{K:CH}{ow:Ow}{b:Nat×Nat}{v:ae}{xs:List Bs}(h:jg K ow b v xs):qI K 1 v=some (xs.flatMap jT,xs.length):=by
 rcases h with ⟨rfl,rfl⟩ | ⟨r,kd,rfl,_,h2,h3,h4⟩
 ·rfl
 have c:(xs.flatMap jT).length=xs.length:=by rw[IK,fh]
 rw[xI];by_cases a:xs.length=0
 ·rw[iP a,a];have:xs= []:=List.length_eq_zero_iff.1 a;rw[this];rfl
 rw[iN a,h3,qQ,iP Om,ly,iB,<-c,pQ]
theorem afl{α:Type}{A:CH}{e sz:Nat}{f:α->List ae}{K:CH}{v:ae}{xs:List α}(h:gP A e sz f K v xs) : ∃a,v= .slice a xs.length xs.length:=by
 rcases h with ⟨rfl,h⟩ | ⟨r,kd,h1,_⟩
 ·exact⟨none,h⟩
 exact⟨_,h1⟩
theorem z7{f a2 a3 a4 a5 g h a b b3 b4 c d e:ae}:setCells (kB [f,a2,a3,a4,a5,g,h] 7) (0*7) [a,b,b3,b4,c,d,e]= [a,b,b3,b4,c,d,e]:=rfl
def CeJ (K0:CH)(mt b:Nat)(c:ae)(tk d:List Bs)(C:ae->cy)(n:Nat)(v:ae)(a:CH):Prop:=∃(k:Nat) (cs:List Bs) (vc:ae),n=d.length-k/\k<=d.length/\v= .int .i64 (k:Nat)/\K0.nx<=a.nx/\(∀y,y<K0.nx->y≠b->y≠mt->ik c y->a.ob y=K0.ob y)/\a.ob b=C vc/\gP (wP 0) 9 1 jT a vc cs/\gH a mt (λy=>if y∈tk/\y∉cs then 1 else 0)/\((vc=c/\cs= []/\∀y,y<K0.nx->y≠b->y≠mt->a.ob y=K0.ob y)\/∃r,vc= .slice (some ⟨r,0,none⟩) cs.length cs.length/\K0.nx<=r)/\nu tk d []=nu tk (d.drop k) cs/\cs.length<=k
theorem aqd{T:List Bs}{B:Nat}{t:Nd}(hB:B+16<=4398046511104)(hh:eV t<=1000)(hz:cf t<=1125899906842624)(hK:kQ B t)(hT:zt t)(D:Ni T B (lJ t)){K:CH}{A:Nat->Prop}{os:List ae}(hs:b9 K A (dr t) os)(hA : ∀b,A b->b<K.nx)(hp:wG K):aR gE 13 [.agg os.toArray] K λv K'=>ag K K'/\CkR K.nx (yd (lJ t)) v K':=by
 obtain⟨nt,rfl⟩:=tz hs;have e0:ag K (K.new (.cells (fD nt) 26 .ex)):=(ag.refl K).new _;have pL:=aoN hB hh hz hK hT (hs.mv λb hb=>⟨hb,e0.ob b (hA b hb)⟩) (λb hb=>cj (hA b hb) e0.nx) (hp.hx e0);unfold fD at pL e0⊢;refine du Rl Kr (aV ?_);refine aC ?_;refine pL.mono λv1 K1 ⟨bL,vI,Z,fG⟩=> ?_;subst Z;obtain⟨n1,rfl⟩:=tz fG;unfold fD at fG;have eG:K.nx+1<=K1.nx:=bL.nx;have jh:=(bL.ob K.nx (iC _)).trans jf;obtain⟨Q,ux⟩ : ∃Q,Q=K1.set K.nx (.cells [.int .i64 n1.k, .int .i64 n1.l, .string n1.x, .int .i64 n1.o, .slice n1.a n1.n n1.c] 26 .ex):=⟨_,rfl⟩;have l7:Q.nx=K1.nx:=by rw[ux];rfl
 have Nf:Q.ob K.nx= .cells [.int .i64 n1.k, .int .i64 n1.l, .string n1.x, .int .i64 n1.o, .slice n1.a n1.n n1.c] 26 .ex:=by rw[ux,bP,iP rfl]
 have jq : ∀y,y≠K.nx->Q.ob y=K1.ob y:=λy d=>by rw[ux];exact cv d
 have zO:ag K Q:=⟨Om,λy d=>(jq y Om).trans ((bL.ob y (by show y<K.nx+1;omega)).trans (e0.ob y d))⟩;have iH:b9 Q (λb=>K.nx+1<=b/\b<K1.nx) (dr (lJ t)) _:=fG.mv λb ⟨h1,h2⟩=>⟨⟨h1,h2⟩,jq b (by have:K.nx+1<=b:=h1;omega)⟩;have aqe:=apy (K:=Q) rfl D.hh D.cl D.z D.B16 D.El D.K D.f D.ps0 D.b D.tb iH (λb hb=>by have:=hb.2;omega);repeat' (first | (simp (disch:=first | omega | (decide +kernel)) only[↓RD,RU,↓aP,↓ez,↓aT,bP,aD,bD,isVal,bu,dp,ρ0,ρ1,↓reduceIte,Nat.reduceEqDiff,Nat.reduceAdd,ρ7,ρ8,ρ15,ρ17,ρ18,ρ21,ρ22,ρ23,Kd.cD,ρ25,ρ26,jh,fD]) | ((with_reducible first|apply aF|apply aG|apply aH)<;>intro _))
 rw[<-ux];refine aqe.mono λv3 u ⟨gF,DG,Ng,sb,XV⟩=> ?_;have uA:=gF.nx;have DO:=(gF.ob K.nx Om).trans Nf;have xY:=D.P.par;obtain⟨E,hE⟩ : ∃E,(bj 0 fU (lJ t)).1=E:=⟨_,rfl⟩;have hfE : ∀e∈E,e.2.f<(gG E).length:=by rw[<-hE,Nh];exact D.f
 have jV:=D.sl;have uJ:=D.ct;have Gn:=D.P;have iZ:=D.ps;rw[hE] at XV jV uJ Gn iZ;have aqf:=XV;obtain⟨q3,UR,rfl,_⟩:=aqf;obtain⟨Nj,Du⟩ : ∃Nj:Ow,∀y,Nj y=if y=u.nx then some (0,8) else if y=u.nx+1 then some (0,12) else if y=u.nx+2 then some (0,13) else DG y:=⟨_,λ_=>rfl⟩
 refine rn @DO ?_;refine MK (λV=>ag u V/\V.nx=u.nx+3/\V.ob u.nx= .cells [.slice (some ⟨q3,0,none⟩) Ng.length Ng.length] 65 .ex/\V.ob (u.nx+1)= .cells [.bool false] 4 .ex/\V.ob (u.nx+2)= .cells [.int .i64 0] 3 .ex) ⟨by(repeat (first | assumption | exact ag.refl _ | (refine ag.set ?_ Fo _) | (refine ag.new ?_ _))),rfl,by(exact aZ;all_goals rfl),by(exact aZ;all_goals rfl),by(exact aZ;all_goals rfl)⟩ ?_;rintro V ⟨dF,tp,Xs,obb,obl⟩;have AH:JW u.nx (u.nx+1) (u.nx+2) (gG E) [] V (λy=>Nj y≠none):=by
  refine⟨Nj,_,Ng,λ_=>dS,λy d=> ?_,by rw[Du,iP rfl],Xs,XV.mv ⟨dF.nx,λy d=>by rw[Du,iN Om,iN Om,iN Om]⟩ λy d _=>dF.ob y d,by rw[Du,iN Om,iP rfl],obb,by rw[Du,iN Om,iN Om,iP rfl],obl⟩;rw[Du] at d;by_cases h1:y=u.nx
  ·omega
  by_cases h2:y=u.nx+1
  ·omega
  by_cases h3:y=u.nx+2
  ·omega
  rw[iN h1,iN h2,iN h3] at d;have:=sb y d;omega
 have XW : ∀y,y<Q.nx->Nj y=none:=λy d=>by
  rw[Du,iN Om,iN Om,iN Om];exact GN λh=>by have:=(sb y h).1;omega
 have hsb:b9 V (λb=>K.nx+1<=b/\b<K1.nx) (dr (lJ t)) _:=iH.mv λb hb=>⟨hb,(dF.ob b (by have:=hb.2;omega)).trans (gF.ob b (by have:=hb.2;omega))⟩;have F6:=aeE (cap:= [pN (u.nx+1),pN u.nx,pN (u.nx+2)]) (E:=E) JW.ok (apF Gn.par Om (λF hF=>by have:=(iZ F hF).1;omega) hfE) D.hh D.cl D.z (pre:= []) ⟨[],by rw[hE];simp⟩ hsb (λb hb=>⟨by have:=hb.2;omega,λh=>h (XW b (by have:=hb.2;omega))⟩) AH;rw[hE] at F6;refine F6.mono λv4 K4 ⟨W4,XX,DX⟩=> ?_;have XX:JW u.nx (u.nx+1) (u.nx+2) (gG E) E K4 W4:=XX;obtain⟨sI,v5,BV,w1,w2,w3,w4,w5,w6,w7,w8,w9⟩:=XX;have BI:=DX.nx;have ef : ∀y,y<Q.nx->K4.ob y=V.ob y:=λy d=>DX.ob y Om (λh=>h (XW y d)) id;have Rh:ag K K4:=⟨by have:=zO.nx;omega,λy d=>by
  have h2:=zO.nx;exact(ef y Om).trans ((dF.ob y Om).trans ((gF.ob y Om).trans (zO.ob y d)))⟩
 have on4:=(ef K.nx Om).trans ((dF.ob _ Om).trans DO);have XY : ∀y,sI y≠none->Q.nx<=y:=λy d=>(DX.w y ((w1 y).2 d)).elim (λh=>GN λg=>h (XW y Om)) λh=>by omega
 cases hw:E.find? (jH (gG E)) with
 | some e=>
   have xB:rJ (gG E) E=(true,e.1.line):=by unfold rJ;rw[hw]
   rw[xB] at w7 w9;refine rn (gK @on4 @w7 @w9) ?_;refine⟨Rh,?_⟩;have kX:yd (lJ t)= .error e.1.line:=by
    unfold yd;show(match (bj 0 fU (lJ t)).1.find? (jH (gG (bj 0 fU (lJ t)).1)) with | some e=>_ | none=>_)=_;rw[hE,hw]
   rw[kX];rfl
 | none=>
   have xB:rJ (gG E) E=(false,0):=by unfold rJ;rw[hw]
   rw[xB] at w7;have w6':=w5;obtain⟨q5,kd5,rfl,_⟩:=w6';obtain⟨ye,afm⟩ : ∃ye:Ow,∀y,ye y=if y=u.nx\/y=u.nx+1\/y=u.nx+2 then none else sI y:=⟨_,λ_=>rfl⟩
   have Nk : ∀y,ye y≠none->sI y≠none/\y≠u.nx:=λy d=>by
    rw[afm] at d;split at d;·exact absurd rfl d
    rename_i h;exact⟨d,λe=>h (.inl e)⟩
   have hf6:j0 true K4 ye (.slice (some ⟨q5,0,none⟩) BV.length BV.length) (gG E) BV:=w5.re λy i j e hj=>by
    rw[afm,iN];·exact e
    rintro(rfl | rfl | rfl);·rw[w3] at e;simp only[Option.some.injEq,Prod.mk.injEq] at e;omega
    ·rw[w6] at e;simp only[Option.some.injEq,Prod.mk.injEq] at e;omega
    rw[w8] at e;simp only[Option.some.injEq,Prod.mk.injEq] at e;omega
   have vD:b9 K4 (λb=>K.nx+1<=b/\b<K1.nx) (dr (lJ t)) _:=hsb.mv λb hb=>⟨hb,ef b (by have:=hb.2;omega)⟩;have aqg:=ap4 D.Tl D.cl D.Tx (W:=λy=>ye y≠none) (λ_=>dS) (λy d=>w2 y (Nk y d).1) hf6 Gn (λF hF=>(iZ F hF).2.2.2) vD (λb hb=>⟨by have:=hb.2;omega,λh=>by have h1:=XY b (Nk b h).1;have:=hb.2;omega⟩) uJ Om;refine rn (gK @on4 @w7 @w4) ?_;refine aqg.mono λv6 K5 ⟨yf,J,W7,u1,u2,u3,fE⟩=> ?_;have zy:=fE.nx;have vz : ¬(ye u.nx≠none):=λh=>(Nk _ h).2 rfl;have XZ:=(fE.ob u.nx Om vz id).trans w4;have aqh : ∀y,yf y≠none->Q.nx<=y:=λy d=>(fE.w y ((u1 y).2 d)).elim (λh=>XY y (Nk y h).1) λh=>by omega
   have hp7:yf u.nx=none:=GN λh=>(fE.w _ ((u1 _).2 h)).elim vz λg=>by omega
   have X0:ag K K5:=⟨by have:=Rh.nx;omega,λy d=>(fE.ob y (by have:=Rh.nx;omega) (λh=>by have:=XY y (Nk y h).1;have:=zO.nx;omega) id).trans (Rh.ob y d)⟩;obtain⟨st,aL⟩ : ∃st,(ci (gG E,0) 0 false (lJ t)).1=st:=⟨_,rfl⟩;have KR:=M6 (T:=T) (lJ t) (gG E,0) 0 false D.cl D.Tx;have hlen:st.length=(gG E).length:=by rw[<-aL];exact KR.2.1
   have hP7:mO T st:=by rw[<-aL];exact KR.1 Gn
   have I2:=D.fw;rw[hE,aL] at I2;rw[aL] at u3;have kX:yd (lJ t)= .ok (st.mapIdx λf F=>ku st f F):=by
    unfold yd;show(match (bj 0 fU (lJ t)).1.find? (jH (gG (bj 0 fU (lJ t)).1)) with | some e=>_ | none=>_)=_;rw[hE,hw];show Except.ok ((ci (gG E,0) 0 false (lJ t)).1.mapIdx λf F=>ku (ci (gG E,0) 0 false (lJ t)).1 f F)=_;rw[aL]
   rw[kX];have u3':=u3;obtain⟨q7,kd7,e7,_,_,_,_,aqi⟩:=u3';rw[e7] at XZ u3;have dN:J.length<=1099511627776:=by rw[aqi.len,hlen];exact jV
   refine rn @XZ ?_;refine fC (λn fr m=>ap9 K.nx u.nx K5 q7 st J n (fr 32) (fr 8) m) (n:=J.length) ⟨0,yf,[],rfl,Om,by(refine aC ?_;all_goals rfl),λy d=>⟨by have:=aqh y d;have:=zO.nx;omega,u2 y d⟩,hp7,XZ,u3, .ext (ag.refl _),by(refine aC ?_;all_goals exact gP.nil),rfl,λo n c y H=> ?_,λj L h=>by cases j<;>simp at h⟩ ?_
   ·revert H
    refine aC ?_;all_goals intro H
    all_goals cases H
   rintro n fr m ⟨i,ow,LL,rfl,hi,f32,pD,hp,bp,pU,pM,oX,I3,xQ,eT⟩ am;by_cases aw:i<J.length
   ·have afn:=pU;obtain⟨qq,kdq,eq,pe,uF,iA,asB,e9⟩:=pU;cases eq;obtain⟨S,hS⟩ : ∃S,oj st i=S:=⟨_,rfl⟩;rw[hS] at e9 afn eT;have hiS:i<S.length:=by rw[<-e9.len];exact aw
    obtain⟨F,b,hF,hb,R,gT,vp,vl,vc,vf,m1,m2,m3,dH,hrp,XM,qj,wv,_⟩:=Ga e9 hiS;obtain⟨jy,MW⟩:=zP hb;obtain⟨Km,Ri⟩ : ∃Km,Km=m.new (.map #[] 0):=⟨_,rfl⟩;have pZ:Km.nx=m.nx+1:=by rw[Ri];rfl
    have hxm:ag m Km:=by rw[Ri];exact(ag.refl _).new _
    have aqj:gH Km m.nx (mf []):=by
     have e0:mf []=λ_=>0:=by funext y;simp[mf]
     rw[e0,Ri];exact .nil jf
    have X1:u.nx<m.nx:=by have:=pM.nx;omega
    refine rn (rT @am @f32 @iA @jy @MW @bp @X1) ?_;rw[<-Ri];refine fC (λn fr K7=>CtJ Km m.nx S i J.length n (fr 40) K7) (n:=J.length) ⟨0,rfl,cx _,by(refine aC ?_;all_goals rfl),c7.refl _,aqj⟩ ?_;rintro n2 aS K7 ⟨k,rfl,hk,f40,rG,Nn⟩ U;have hn7:=rG.nx;have Gp : ∀y,y<m.nx->K7.ob y=m.ob y:=λy d=>(rG.ob y Om Om).trans (hxm.ob y d);by_cases M:k<J.length
    ·obtain⟨G,bg,hG,zT,uG,aqk,gp,gl,gc,gf,g1,g2,g3,aql,_,_,_,hgf,_⟩:=Ga e9 (i:=k) (by rw[<-e9.len];exact M);obtain⟨afo,afp⟩:=zP zT;have X2:=(Gp bg aqk).trans aql;have afq:=(Gp q7 uF).trans iA;have Rj:=aqb (f:=i) hG;by_cases sL:G.par=(i:Int)
     ·rw[iP sL] at Rj;obtain⟨ga,hga⟩:=tM hgf;subst hga;rw[sL] at X2;have hGl:G.fs.length<=1099511627776:=by
       rw[<-hS] at hG;obtain⟨F',g1,g2,_⟩:=XU i hG;rw[g2];have g3:=hP7.fs F' (fi g1);exact bW (MY g3.1 g3.2) D.Tl
      refine rn (rT @am @U @f40 @afq @afo @afp @X2) ?_;refine fC (λn fr K8=>aqa K7 m.nx (uC (S.take k) i) G.fs n (fr 57) K8) (n:=G.fs.length) ⟨0,rfl,cx _,by(refine aC ?_;all_goals rfl),c7.refl _,by rw[xd,jz];exact Nn⟩ ?_;rintro n3 ud K8 ⟨j,rfl,hj,f57,X,X3⟩ vJ;have hn8:=X.nx;by_cases fX:j<G.fs.length
      ·obtain⟨r,M9,er,_,Lj,Fu,hrs,asC⟩:=aeQ hgf fX;cases er;have aqm:=(X.ob r Om Om).trans ((Gp r Lj).trans Fu);obtain⟨oo,pf,kN⟩:=X3.up G.fs[j] 1;have lX:G.fs.take (j+1)=G.fs.take j++ [G.fs[j]]:=rL fX;repeat' (first | (simp (disch:=first | omega | (decide +kernel)) only[↓eF,↓pF,↓dy,↓si,↓sk,↓gX,↓gO,↓iI,↓eR,↓eS,↓dY,↓fB,↓mz,↓aP,↓ez,↓aT,↓bf,dX,pE,↓eQ,↓nM,iJ,sn,gY,pop,aD,bD,↓reduceIte,Nat.reduceEqDiff,iK,iP,iB,bJ,gj,U,vJ,f57,aqm,hrs,pf]) | ((with_reducible first|apply aF|apply aG|apply aH)<;>intro _))
       refine⟨G.fs.length-(j+1),Om,j+1,rfl,fX,rfl,X.set (.inr rfl) _,?_⟩;rw[lX,<-List.append_assoc];exact DK▸kN _ (by rw[bP,iP rfl])
      have fX:j=G.fs.length:=by omega
      subst fX;rw[pQ] at X3;refine rn (iD @am @U @vJ @f40 @f57) ?_;exact⟨J.length-(k+1),Om,k+1,rfl,M,rfl,rG.trans X,by rw[Rj];exact X3⟩
     rw[iN sL,jz] at Rj;refine rn (oA @am @U @f40 @afq @afo @afp @X2 @sL) ?_;exact⟨J.length-(k+1),Om,k+1,rfl,M,rfl,rG,by rw[Rj];exact Nn⟩
    have M:k=J.length:=by omega
    subst M;rw[List.take_of_length_le (by rw[<-e9.len];exact al _)] at Nn;obtain⟨tk,lX⟩ : ∃tk,uC S i=tk:=⟨_,rfl⟩;rw[lX] at Nn;have Np:=hF;rw[<-hS] at Np;obtain⟨F',g1,_,_,g4,g5,g6⟩:=XU i Np;have hFw:=I2 F' (fi g1);have hFe:=g6 (al _);subst hFe;obtain⟨iM,fI,rj⟩:=hFw;have Rk:=(Gp b gT).trans dH;have aqn:jg K7 ow (i,1) vp F.ps:=hrp.mv ⟨Om,λ_ _=>rfl⟩ λy d _=>Gp y d;have cR:=ap7 aqn iM;obtain⟨pa,rfl⟩:=tM hrp;obtain⟨la,rfl⟩:=tM XM;obtain⟨ca,rfl⟩:=tM qj;obtain⟨fa,rfl⟩:=tM wv;refine rn (gy @am @U @f40 @Rk) ?_;refine cR.mono λv8 K8 ⟨X,hg8⟩=> ?_;have hn8:=X.nx;have wO:=(X.ob b Om).trans Rk;have aqo:jg K8 ow (i,2) (.slice la F.ls.length F.ls.length) F.ls:=XM.mv ⟨Om,λ_ _=>rfl⟩ λy d _=>(X.ob y Om).trans (Gp y d);have JV:=aqc aqo;repeat' (first | (simp (disch:=first | omega | (decide +kernel)) only[↓Bc,↓y8,sq,oO,bS,↓dY,↓fB,↓mz,↓aP,↓aT,dX,pop,aD,↓reduceIte,Nat.reduceEqDiff,fK,fL,mR,↓xH,qP,bJ,lP,U,wO,JV]) | ((with_reducible first|apply aF|apply aG|apply aH)<;>intro _))
    refine HZ (A:=K7) (f:=jT) (xs:=F.ps) (ys:=F.ls) FN hg8 X Om Om rfl rfl λv9 K9 X4 Rm hn9 _=> ?_;have oc9:=(Rm.ob b Om).trans Rk;obtain⟨I,jd⟩ : ∃I,F.ps++F.ls=I:=⟨_,rfl⟩;have Ig:I.length<=2199023255552:=by rw[<-jd,cO];omega
    rw[jd] at X4;obtain⟨na,rfl⟩:=afl X4;have hm9:gH K9 m.nx (mf tk):=Nn.ext (Rm.ob _ Om);have wL : ∀y,y<m.nx->K9.ob y=m.ob y:=λy d=>(Rm.ob y Om).trans (Gp y d);have Gq : ∀y,ow y≠some (i,3)->ik (.slice ca F.cs.length F.cs.length) y:=λy d=>qj.off d;have asD:=Rm.nx;repeat' (first | (simp (disch:=first | omega | (decide +kernel)) only[↓pF,↓dy,↓Bc,↓HQ,↓y8,↓HT,↓HV,↓HX,HY,HU,sq,oO,bS,↓dY,↓aP,↓aT,↓bf,dX,pop,aD,↓reduceIte,Nat.reduceEqDiff,fK,fL,jU,mR,Rk,wO]) | ((with_reducible first|apply aF|apply aG|apply aH)<;>intro _))
    refine fC (λn fr C=>CeJ K9 m.nx b (.slice ca F.cs.length F.cs.length) tk I (λvc=> .cells [.string (tx F.nm), .int .i64 F.par, .slice pa F.ps.length F.ps.length, .slice la F.ls.length F.ls.length,vc, .slice fa F.fs.length F.fs.length, .bool F.gen, .map (some m1), .map (some m2), .map (some m3)] 75 .ex) n (fr 78) C) (n:=I.length) ⟨0,F.cs,_,rfl,cx _,by(refine aC ?_;all_goals rfl),al _,λ_ _ _ _ _=>rfl,oc9,(qj.mv (bY:=ow) ⟨Om,λ_ _=>rfl⟩ λy d _=>wL y d).gr,by rw[rj,show(λy=>if y∈tk/\y∉([]:List Bs) then (1:Int) else 0)=mf tk from by funext y;simp[mf]];exact hm9, .inl ⟨rfl,rj,λ_ _ _ _=>rfl⟩,by rw[ly,rj],by rw[rj];exact al _⟩ ?_;rintro n3 ud C ⟨k,cs,vc,rfl,hk,f78,aqp,Rn,I4,H5,X5,X6,Gr,asE⟩ vJ;dsimp only at I4
    obtain⟨xa,hxa⟩:=afl H5;have aqq:ow m.nx=none:=GN λh=>by have:=(pD _ h).2;omega
    have mU : ∀y,m.nx<=y->ow y=none:=λy d=>GN λh=>by have:=(pD _ h).2;omega
    have X7 : ∀y,y<K9.nx->ik (.slice ca F.cs.length F.cs.length) y->ik vc y:=λy d ho=>by
     rcases X6 with ⟨e,_⟩ | ⟨r,e,hr⟩
     ·rw[e];exact ho
     intro o n c e2;rw[e] at e2;cases e2;omega
    have aqr:ik vc b:=X7 b Om (Gq b (by rw[R];simp));have afr:ik vc m.nx:=X7 _ Om (Gq _ (by rw[aqq];simp));by_cases M:k<I.length
    ·obtain⟨rn,Ro,er,asF,aqs,Lj,_⟩ : ∃rn Ro,na=some ⟨rn,0,none⟩/\K7.nx<=rn/\rn<K9.nx/\K9.ob rn= .cells (I.flatMap jT) 9 Ro/\True:=by
      rcases X4 with ⟨h,_⟩ | ⟨rn,Ro,e,h1,h2,h3,_⟩
      ·rw[h] at M;exact absurd M (fM _)
      cases e;exact⟨rn,Ro,rfl,h1,h2,h3,trivial⟩
     subst er;have afs:=(Rn rn aqs Om Om (Gq rn (by rw[mU rn Om];simp))).trans Lj;obtain⟨s,hsk⟩ : ∃s,I[k]? = some s:=⟨_,bM M⟩;obtain⟨ze,asG⟩:=M7 hsk;have dA:I.drop k=s::I.drop (k+1):=by
      obtain⟨_,e⟩:=List.getElem?_eq_some_iff.1 hsk;rw[List.drop_eq_getElem_cons M,e]
     rw[dA] at Gr;have nP:=X5.lk s;by_cases hc:s∈tk/\s∉cs
     ·rw[iP hc] at nP;have X8:nu tk I []=nu tk (I.drop (k+1)) (cs++ [s]):=by rw[Gr,nu,iP hc]
      obtain⟨oo,pf,kN⟩:=X5.up s 0;have uz:b≠m.nx:=by omega
      have X9:b<C.nx:=by omega
      repeat' (first | (simp (disch:=first | omega | (decide +kernel)) only[↓eF,↓pF,↓dy,↓gX,↓gO,↓iI,↓eR,↓eS,↓dY,↓fB,↓ti,↓mz,↓aP,↓ez,↓aT,↓bf,qE,cV,bP,dX,pE,th,↓eQ,↓nM,sn,jM,pop,aD,da,bD,fj,isVal,dp,dG,nz,fg,↓reduceIte,Nat.reduceEqDiff,reduceCtorEq,fK,fL,cw,cX,qM,qQ,xI,Ai,tR,ly,jz,GK,yA,qB,tS,iv,Nat.reduceLeDiff,al,wB,iK,↓xH,qP,iP,iB,bJ,lP,gj,and_true,U,vJ,f78,afs,ze,nP,pf,I4,uz]) | ((with_reducible first|apply aF|apply aG|apply aH)<;>intro _))
      have jr : ∀y,y<C.nx->y≠m.nx->((C.set m.nx oo).new (.cells [.string (tx s)] 9 .ex)).ob y=C.ob y:=λy d hc=>by
       rw[bQ (by show y≠C.nx;omega),cv hc]
      refine Ds (A:=wP 0) (bytes:=16) (f:=jT) (y:=s) FN (H5.nx (by show C.nx<=C.nx+1;omega) λy g1 g2 ⟨n',c',H⟩=>jr y g2 λe=>by subst e;exact afr _ _ _ H) Om Om rfl λN k1 k2 k3=> ?_;have k2:N.nx=C.nx+1+1:=k2;have Y : ∀y,y<C.nx->y≠m.nx->ik vc y->N.ob y=C.ob y:=λy d hc ho=>(k3 y (by show y<C.nx+1;omega) ho).trans (jr y d hc);have aqt:=(Y b X9 uz aqr).trans I4;repeat' (first | (simp (disch:=first | omega | (decide +kernel)) only[↓dy,↓si,↓sk,↓gX,↓eR,↓eS,↓dY,↓mz,↓aP,↓ez,↓aT,↓bf,gJ,qE,dX,pE,↓eQ,iJ,gY,pop,bD,isVal,bu,dp,↓reduceIte,Nat.reduceEqDiff,Nat.reduceAdd,cw,cX,qM,EY,tR,ly,jU,mR,yz,GM,Cc,Kd.cD,qB,tS,Nat.reduceLeDiff,bJ,lP,and_true,f78,aqt]) | ((with_reducible first|apply aF|apply aG|apply aH)<;>intro _))
      refine⟨I.length-(k+1),Om,k+1,cs++ [s], .slice (some ⟨C.nx+1,0,none⟩) (cs.length+1) (cs.length+1),rfl,M,rfl,by show K9.nx<=N.nx;omega,λy h1 h2 h3 h4=>(cv h2).trans ((Y y Om h3 (X7 y h1 h4)).trans (Rn y h1 h2 h3 h4)),by rw[bP,iP rfl], .inr ⟨C.nx+1, .gr,Sm,by show 0<=_;omega,by show _<N.nx;omega,(cv Om).trans k1,rfl⟩,?_, .inr ⟨C.nx+1,Sm,Om⟩,X8,Sq⟩;have HK:(λy=>if y=s then (0:Int) else if y∈tk/\y∉cs then 1 else 0)=λy=>if y∈tk/\y∉cs++ [s] then 1 else 0:=by
       funext y
       by_cases d:y=s
       ·simp[d]
       simp[d]
      exact HK▸kN _ (by rw[cv (sS uz),k3 _ (by show m.nx<C.nx+1;omega) afr,bQ (by show m.nx≠C.nx;omega),bP,iP rfl])
     rw[iN hc] at nP;have X8:nu tk I []=nu tk (I.drop (k+1)) cs:=by rw[Gr,nu,iN hc]
     repeat' (first | (simp (disch:=first | omega | (decide +kernel)) only[↓eF,↓pF,↓dy,↓si,↓sk,↓gX,↓gO,↓iI,↓qL,↓eR,↓eS,↓dY,↓fB,↓aP,↓aT,↓bf,dX,↓eQ,↓nM,iJ,sn,jM,gY,pop,aD,↓reduceIte,Nat.reduceEqDiff,iK,qN,iP,iB,bJ,gj,U,vJ,f78,afs,ze,nP]) | ((with_reducible first|apply aF|apply aG|apply aH)<;>intro _))
     exact⟨I.length-(k+1),Om,k+1,cs,_,rfl,M,rfl,aqp,Rn,I4,H5,X5,X6,X8,Om⟩
    have M:k=I.length:=by omega
    subst M;rw[List.drop_length] at Gr;have Gr:nu tk I []=cs:=Gr;obtain⟨vo,aft⟩ : ∃vo,vo=fr 8:=⟨_,rfl⟩;rw[<-aft] at oX xQ;subst hxa;have aqu:=aft.symm;repeat' (first | (simp (disch:=first | omega | (decide +kernel)) only[↓eF,↓dy,↓OI,↓OJ,↓ON,↓gX,↓gO,↓qL,↓eR,↓eS,↓dY,↓fB,↓ti,↓mz,↓aP,↓aT,cV,dX,th,↓eQ,↓Oo,sn,pop,aD,da,fj,isVal,dp,dG,nz,fg,↓reduceIte,Nat.reduceEqDiff,Nat.reduceAdd,reduceCtorEq,cw,cX,qQ,xI,Ai,xd,ly,GK,qB,tS,iv,Nat.reduceLeDiff,al,qN,↓xH,qP,iP,Nat.one_mul,bJ,lP,true_and,and_true,U,vJ,f78,I4,aqu,z7]) | ((with_reducible first|apply aF|apply aG|apply aH)<;>intro _))
    have aqv : ∀o n c y,vo= .slice (some ⟨y,o,none⟩) n c->y<m.nx:=λo n c y H=>by
     rcases oX with ⟨_,e⟩ | ⟨r,kd,e,_,h,_⟩
     ·rw[e] at H;cases H
     rw[e] at H;cases H;exact h
    have X' : ∀y,ow y≠none->ik vo y:=λy d o n c H=>d (xQ o n c y H).1;have X9:b<C.nx:=by omega
    have Rq : ∀y,y<m.nx->y≠b->ik (.slice ca F.cs.length F.cs.length) y->C.ob y=m.ob y:=λy h1 h2 h3=>(Rn y Om h2 Om h3).trans (wL y h1);refine Ds (A:=wP 0) (bytes:=128) (f:=uK) (y:=⟨tx F.nm,F.par,pa,F.ps.length,la,F.ls.length,xa,cs.length,fa,F.fs.length,F.gen⟩) ap8 (oX.nx (by show m.nx<=C.nx+1;omega) λy g1 g2 ⟨n',c',H⟩=>(bQ Om).trans (Rq y g2 (λe=>by rw[e] at H;rw[(xQ _ _ _ _ H).1] at R;cases R) (Gq y (by rw[(xQ _ _ _ _ H).1];simp)))) Om Om rfl λN k1 k2 k3=> ?_;have k2:N.nx=C.nx+1+1:=k2;have k1:N.ob (C.nx+1)=_:=k1;have Y : ∀y,y<C.nx->ik vo y->N.ob y=C.ob y:=λy d ho=>(k3 y (by show y<C.nx+1;omega) ho).trans (bQ Om);have DZ : ∀y i' j,y<m.nx->ow y=some (i',j)->(i'≠i\/(j≠0/\j≠3))->N.ob y=m.ob y:=λy i' j h1 h2 h3=>(Y y Om (X' y (by rw[h2];simp))).trans (Rq y h1 (λe=>by rw[e,R] at h2;simp only[Option.some.injEq,Prod.mk.injEq] at h2;omega) (Gq y (by rw[h2];simp only[ne_eq,Option.some.injEq,Prod.mk.injEq];omega)));have O : ∃bY:Ow,pd ow bY m N/\(∀y,m.nx<=y->bY y≠none->K9.nx<=y/\y<C.nx)/\jg N bY (i,3) (.slice xa cs.length cs.length) cs:=by
     rcases X6 with ⟨Z,e2,e3⟩ | ⟨r,Z,e2⟩
     ·refine⟨ow,⟨Om,λ_ _=>rfl⟩,λy h1 h2=>absurd (mU y h1) h2,?_⟩;have h:=qj.mv (K':=N) (bY:=ow) ⟨Om,λ_ _=>rfl⟩ λy h1 h2=>(Y y Om (X' y (by rw[h2];simp))).trans ((e3 y Om (λe=>by rw[e,R] at h2;simp at h2) Om).trans (wL y h1));rw[<-Z,rj] at h;rw[e2] at h⊢;exact h
     have aqw:=H5;rcases aqw with ⟨_,h2⟩ | ⟨r2,kd,h2,_,h3,h4,h5⟩
     ·rw[h2] at Z;cases Z
     rw[h2] at Z;cases Z;refine⟨λy=>if y=r then some (i,3) else ow y,⟨Om,λy d=>iN Om⟩,λy h1 d=> ?_, .inr ⟨r,kd,h2,iP rfl,Om,(Y r h3 λo n c H=>by have:=aqv o n c r H;omega).trans h4,h5⟩⟩;by_cases h:y=r
     ·subst h;exact⟨e2,h3⟩
     have d:(if y=r then some (i,3) else ow y)≠none:=d;rw[iN h] at d;exact absurd (mU y h1) d
    obtain⟨bY,O,sh,afu⟩:=O;obtain⟨_,_,vp2,vl2,vc2,vf2,n1',n2',n3',Lv,hP⟩:=e9.get i F b hF hb;rw[dH] at Lv;simp only[cy.cells.injEq,List.cons.injEq,and_true,true_and] at Lv;obtain⟨rfl,rfl,rfl,rfl,rfl,rfl,rfl⟩:=Lv;have afv:(ku S i F).cs=cs:=by
     show nu (uC S i) (F.ps++F.ls) []=cs;rw[lX,jd,Gr]
    have rp:=hP.p.mv O λy h1 h2=>DZ y _ _ h1 h2 (.inr de);have rl:=hP.l.mv O λy h1 h2=>DZ y _ _ h1 h2 (.inr de);have rf:=hP.f.mv O λy h1 h2=>DZ y _ _ h1 h2 (.inr de);have aqx:j0 true N bY (.slice (some ⟨q7,0,none⟩) J.length J.length) (dC S i (ku S i)) J:=by
     refine afn.aeY hF hb O (λy i' j h1 h2 h3 h4=>DZ y i' j h1 h2 Om) ⟨(O.ow b gT).trans R,Om,_,_,_,_,_,_,_,((Y b X9 (X' b (by rw[R];simp))).trans I4),⟨rp,rl,by rw[afv];exact afu,rf,hP.b.mv O λy h1 h2=>DZ y _ _ h1 h2 (.inr de),hP.g.mv O λy h1 h2=>DZ y _ _ h1 h2 (.inr de),hP.o.mv O λy h1 h2=>DZ y _ _ h1 h2 (.inr de)⟩⟩
    repeat' (first | (simp (disch:=first | omega | (decide +kernel)) only[↓dy,↓si,↓sk,↓gX,↓eR,↓eS,↓dY,↓aP,↓aT,↓bf,gJ,dX,↓eQ,iJ,gY,pop,↓reduceIte,Nat.reduceEqDiff,U,vJ,f32]) | ((with_reducible first|apply aF|apply aG|apply aH)<;>intro _))
    have asH:K.nx<=u.nx:=by have:=zO.nx;omega
    have xN:u.nx≠b:=λe=>by rw[<-e,hp] at R;cases R
    have asI:=(pD b (by rw[R];simp)).1;refine⟨J.length-(i+1),Om,i+1,bY,LL++ [⟨tx F.nm,F.par,pa,F.ps.length,la,F.ls.length,xa,cs.length,fa,F.fs.length,F.gen⟩],rfl,aw,rfl,λy d=> ?_,(O.ow _ X1).trans hp,(Y _ Om λo n c H=>(xQ o n c _ H).2.2 rfl).trans ((Rq _ X1 xN (Gq _ (by rw[hp];simp))).trans bp),by rw[oj,hS];exact aqx,pM.trans ⟨Om,λy h1 h2 _=> ?_,λy d=> .inl d⟩, .inr ⟨C.nx+1, .gr,Sm,by show 0<=_;omega,Om,k1,rfl⟩,by simp[I3],λo n c y H=> ?_,λj L hL=> ?_⟩
    ·by_cases h:y<m.nx
     ·rw[O.ow y h] at d;have:=pD y d;omega
     have:=sh y Om d;omega
    ·exact(Y y Om λo n c H=>h2 (xQ o n c y H).2.1).trans (Rq y h1 Om (Gq y (by rw[show ow y=none from GN λh=>h2 (pD y h).1];simp)))
    ·cases H;exact⟨GN λh=>by have:=sh _ Om h;omega,Om,Om⟩
    rw[oj,hS];unfold dC;rw[vV];by_cases wA:j=i
    ·subst wA;rw[List.getElem?_append_right Om,I3,Nat.sub_self] at hL;cases hL;exact⟨ku S j F,by rw[hF];simp,_,_,_,_,rfl,rp,rl,by rw[afv];exact afu,rf⟩
    have fX:j<LL.length:=by
     have:=(List.getElem?_eq_some_iff.1 hL).1;simp at this;omega
    rw[List.getElem?_append_left fX] at hL;obtain⟨F2,hF2,DN⟩:=eT j L hL;exact⟨F2,by rw[hF2];simp[sS wA],DN.mv O λy k h1 h2 h3=>DZ y _ _ h1 h2 (.inl wA)⟩
   have aw:i=J.length:=by omega
   subst aw;refine rn (an @am @f32) ?_;have hbS:J.length=st.length:=by
    obtain⟨_,_,_,_,_,_,_,h⟩:=pU;rw[h.len,afi]
   have Bn:0<st.length:=by omega
   have aqy:ag K m:=⟨by have:=pM.nx;have:=X0.nx;omega,λy d=>(pM.ob y (by have:=X0.nx;omega) Om id).trans (X0.ob y d)⟩;refine⟨aqy,?_⟩;rcases oX with ⟨hL0,_⟩ | ⟨r,kd,e8,_,hr,ho,dO⟩
   ·rw[hL0] at I3;simp at I3;omega
   obtain⟨v1,v2,_⟩:=xQ 0 _ _ r e8;rw[e8,I3];rw[hbS] at eT⊢
   have nU:(st.mapIdx λf F=>ku st f F).length=st.length:=by simp
   refine⟨λy=>if y=r then some (0,20) else ow y,r,kd,LL,by rw[nU],λy d=> ?_,iP rfl,ho,dO,by rw[nU,I3,hbS],λj F L h1 h2=> ?_⟩
   ·by_cases h:y=r
    ·subst h;exact⟨v2,hr⟩
    have d:(if y=r then some (0,20) else ow y)≠none:=d;rw[iN h] at d;exact pD y d
   obtain⟨F',yn,hrv⟩:=eT j L h2;rw[ap'] at yn;rw[h1] at yn;cases yn;exact hrv.re λy j g _=>by
    show(if y=r then _ else ow y)=_;rw[iN (λe=>by rw[e,v1] at g;cases g),g]
end
end Can
end Go.Proofs.YticlaccbodpkeaaGreatDoor
