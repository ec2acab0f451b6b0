/- Rename: the walk. The round trip: what trees of sources look like. No program in sight. Scope: the document's renaming as a function of trees; both rename alike. No program in sight. Rename, the document: shapes stay, texts grow by so much. No program in sight. Scope, Check as a function of trees: the nodes in their order, the functions' names. No program in sight. Rename, the document: lists of names; has, with, Kid, placed. Rename, the document: Kid, placed. Rename, the document: turned. Scope, Check: what a closure may do; kid; visit. Scope, Check: visit, the walk. Scope, Check: maps of names; what is known of functions, in the memory. Scope, Check: collect's first closure: the functions, as they come. Scope, Check: collect's second closure: what nodes say of their function. Scope, Check: bind's closure; places with any closure. Scope, Check: bind's closure: one name more. Scope, Check: bind; collect's third closure. -/
import Derived.Test.YticlaccbodpkeaaGreatDoorVg
import Derived.Test.YticlaccbodpkeaaGreatDoorVf
import Derived.Test.YticlaccbodpkeaaGreatDoorVd
import Derived.Test.YticlaccbodpkeaaGreatDoorVa
open Bool renaming and_true → Cc, not_eq_true' → Ab
open Go renaming FuncId → aU, MapEntry → nv, Value → ae
open Go.Value renaming cells → dp
open Iff renaming rfl → dS
open Int renaming add_zero → sT, toNat_natCast → gj, zero_add → Cd
open List renaming all_cons → yz, all_nil → GM, append_assoc → rP, append_nil → jz, cons_append → jU, drop_eq_getElem_cons → rQ, drop_length → Ak, drop_nil → yA, drop_succ_cons → tR, drop_zero → ly, ext_getElem? → Ca, filter_cons → GL, foldl_append → NI, foldl_cons → yt, getElem?_append_left → tP, getElem?_append_right → uN, getElem?_cons_succ → fL, getElem?_cons_zero → fK, getElem?_eq_getElem → bM, getElem?_map → hY, getElem?_modify → vV, length_append → cO, length_cons → cw, length_map → fh, length_nil → cX, length_take → ny, map_append → Ah, map_cons → dG, map_nil → nz, mem_cons_of_mem → hU, mem_cons_self → j5, mem_of_getElem? → fi, nil_append → mR, size_toArray → qB, take_length → pQ, take_nil → GK, take_of_length_le → qD, take_succ_cons → Ai, take_succ_eq_append_getElem → rL, take_zero → xd, toList_toArray → tS
open Nat renaming add_assoc → mP, add_zero → lP, le_add_right → NH, le_refl → al, le_trans → bW, lt_of_lt_of_le → cj, lt_succ_self → iC, mul_le_mul_right → Ac, mul_one → iB, not_lt_zero → fM, sub_self → GJ, succ_mul → NE, zero_add → bJ, zero_le → cx
open Option renaming map_some → fg
open SizeOf renaming sizeOf → dR
set_option maxRecDepth 4000
set_option maxHeartbeats 4000000
set_option linter.unusedSimpArgs false
set_option linter.unusedVariables false
namespace Go.Proofs.YticlaccbodpkeaaGreatDoor
namespace Can
section
open Go Go.RowKit
theorem QB{T:bZ}{a b t:bH}{fr:Fr}{H:CH}{Q:bq->Fr->CH->Prop}(M:bq->Fr->CH->Prop)(h1:cM T (.seq a b) fr H M)(h2 : ∀x fr' H',M x fr' H'->CT T t Q x fr' H'):cM T (.seq a (.seq b t)) fr H Q:=by
 rw[eF] at h1⊢
 refine h1.mono λx fr' H' h=> ?_;cases x with
 | normal=>
   rw[dy] at h⊢;rw[eF];exact cM.mono h h2
 | ret=>exact h2 .ret fr' H' h
 | exit i=>exact h2 (.exit i) fr' H' h
theorem Wx{o o':Option ae}{K:ae->CH->Prop}{H:CH}(h:o=o')(g:EW o' K H):EW o K H:=h▸g
mutual
theorem aed : ∀n:Nd,(fy n).length<=cf n
 | .mk k l x o ks=>by
   rw[fy,cf];split;·simp
   split;·exact Nat.le_succ_of_le (aee ks)
   simp
theorem aee : ∀ks:List Nd,(eE ks).length<=a8 ks
 | []=>al _
 | n::ks=>by
   rw[eE,a8,cO];have:=aed n;have:=aee ks;omega
end
theorem aoG{k:Nat}{l:Int}{x:Bs}{o:Nat}{ks:List Nd}:cf (.mk k l x o ks)=a8 ks+1:=rfl
theorem aoH{ks:List Nd}:cf (cC ks)<=a8 ks+1:=by
 cases ks with
 | nil=>exact al _
 | cons n ks=>simp only[cC,a8];omega
theorem Wy : ∀ks:List Nd,(iE ks).length<=a8 ks
 | []=>al _
 | n::ks=>by
   rw[iE,a8,cO];have:=Wy ks;obtain⟨k,l,x,o,ts⟩:=n;have h1:=aed (cC ts);have h2:=aoH (ks:=ts);rw[aoG];split;·show(fy (cC ts)).length+_<=_;omega
   simp;omega
theorem aoI(u:Nat):Lib.nDigits u<=u+1:=by
 induction u using Nat.strongRecOn with
 | _ u a=>
   by_cases h:u<10
   ·rw[Lib.nDigits_small h];omega
   rw[Lib.nDigits_big h];have:=a (u / 10) Om;omega
theorem aef(n:Nat):(cI n).length<=n+1:=by
 unfold cI;rw[Lib.itoa_nonneg,Lib.decDigits_length];exact aoI n
theorem aeg{a b:ByteArray}(h:a.size+b.size<=9223372036854775807):bV (binOp .add 0 (.string a) (.string b))=some (.string (a++b)):=by
 show bV (Op.stringOp .add a b)=_;simp only[Op.stringOp];rw[iN (by rw[show IntKind.i64.max=9223372036854775807 from rfl];omega)];rfl
def WkM (K:CH)(bc be c k:Nat)(t:Nd)(q:Option Addr)(r:Nd×Nat)(x:bq)(fr:Fr)(H:CH):Prop:=
 (x= .normal/\∃(x':Bs) (l':Nat) (a:ByteArray->Option Int) (ρ':Bs->Nat),fr 1= .map (some l')/\fr 4=pN be/\fr 5=pN K.nx/\fr 7=pN (K.nx+1)/\ag K H/\K.nx+2<=H.nx/\H.ob K.nx= .cells [.int .i64 (t.kind:Nat), .int .i64 t.line, .string (tx x'), .int .i64 (t.op:Nat), .slice q t.kids.length t.kids.length] 26 .ex/\H.ob (K.nx+1)= .cells [.int .i64 0, .int .i64 0, .string ⟨⟨[]⟩⟩, .int .i64 0, .slice none 0 0] 26 .ex/\oT H l' a k/\l'<H.nx/\RF ρ' a/\(∀y,ρ' y<=c)/\r=(.mk t.kind t.line x' t.op (jn cI ρ' c t.kids).1,(jn cI ρ' c t.kids).2))
 \/(x= .ret/\A8 [.kA 5 7] (RnQ K bc r) x fr H)
theorem aoJ{ρ:Bs->Nat}{own:List Bs}{d c:Nat}(h1 : ∀y,ρ y<=c)(h2:d<=c) : ∀y,wi ρ own d y<=c:=λy=>by
 unfold wi;split;·exact h2
 exact h1 y
theorem aoK{S B bc bw be N:Nat}(Y:B+16<=4398046511104)(Z:Mp S B bc bw be N):Mp S B bc bw be (N+1):=by
 rintro⟨tk,tl,x,o,ks⟩ hN hz t hT K A os ρ f k l c hs hA hw m hl i j hc hk;obtain⟨q,rfl,L⟩:=ij hs;obtain⟨lc,lw,le⟩:=hw.lt;obtain⟨q',e,fO,nK,fY⟩:=mI L;cases e;rw[gZ] at fO;refine du Rl Kr (aV ?_);refine QB (WkM K bc be c k (.mk tk tl x o ks) q (dw cI ρ c (.mk tk tl x o ks))) ?_ ?_
 ·by_cases lH:tk=36
  ·subst lH;obtain⟨fx,hfx⟩ : ∃n:Nat,(f (tx x)).getD 0=(n:Int):=⟨_,i x⟩;have nP:uV 1 (.int .i64 0) false (.string (tx x)) (K.ob l)=some (.int .i64 (ρ x:Nat)):=by
    have:=i x;rcases m with h | ⟨h,rfl,rfl⟩
    ·rw[h];show uU _ _ (some ((f (tx x)).map λn=>(0, .int .i64 n)))=_;rw[<-this];cases f (tx x)<;>rfl
    rw[h];show some (Value.int .i64 0)=_;rw[<-this];rfl
   repeat' (first | (simp (disch:=first | omega | (decide +kernel)) only[↓RD,RU,↓aP,↓aT,↓bf,gJ,cV,bK,fS,pop,aD,da,fj,isVal,dp,↓reduceIte,Nat.reduceEqDiff,Int.reduceOfNat,reduceCtorEq,ρ5,ρ6,ρ26,uV,uU,isKey,ρ28]) | ((with_reducible first|apply aF|apply aG|apply aH)<;>intro _))
   refine Wx nP ?_;repeat' (first | (simp (disch:=first | omega | (decide +kernel)) only[↓RD,RU,oO,bS,↓aP,↓aT,↓bf,pop,ρ0,ρ1,↓reduceIte,Nat.reduceEqDiff]) | ((with_reducible first|apply aF|apply aG|apply aH)<;>intro _))
   ·refine(aod ((hw.pw.hx ((ag.refl K).new _)).hx ((ag.refl _).new _)) Om (by have:=j x;omega)).mono λv K' ⟨u,w⟩=> ?_;subst u w;have aw:=aef (ρ x);have hρx:=j x;have wg:x.length<=1099511627776:=hT.1;have a1:bV (binOp .add 0 (.string ⟨#[46]⟩) (.string ⟨(Lib.itoa (ρ x:Nat)).toArray⟩))=some (.string (tx ([46]++cI (ρ x)))):=aeg (a:=tx [46]) (b:=tx (cI (ρ x))) (by show 1+(cI (ρ x)).length<=_;omega);have a2:bV (binOp .add 0 (.string (tx x)) (.string (tx ([46]++cI (ρ x)))))=some (.string (tx (x++([46]++cI (ρ x))))):=aeg (by show x.length+([46]++cI (ρ x)).length<=_;simp;omega);refine aC ?_;refine Wx a1 ?_;refine aC ?_;refine Wx a2 ?_;refine aC ?_;refine .inl ⟨rfl,x++([46]++cI (ρ x)),l,f,ρ,by(exact aZ;all_goals rfl),by(exact aZ;all_goals rfl),by(exact aZ;all_goals rfl),by(exact aZ;all_goals rfl),by(repeat (first | assumption | exact ag.refl _ | (refine ag.set ?_ Fo _) | (refine ag.new ?_ _))),al _,by(refine aC ?_;all_goals rfl),by repeat' (first | (simp (disch:=first | omega | (decide +kernel)) only[RU,gJ,cV,bP,↓reduceIte]) | ((with_reducible first|apply aF|apply aG|apply aH)<;>intro _)),m.ext (by repeat' (first | (simp (disch:=first | omega | (decide +kernel)) only[RU,gJ,cV,bP]) | ((with_reducible first|apply aF|apply aG|apply aH)<;>intro _))),Fo,i,j,?_⟩;rw[dw,iN Om,iN Om,iP ⟨rfl,Om⟩,rP];rfl
   refine .inl ⟨rfl,x,l,f,ρ,by(exact aZ;all_goals rfl),by(exact aZ;all_goals rfl),by(exact aZ;all_goals rfl),by(exact aZ;all_goals rfl),by(repeat (first | assumption | exact ag.refl _ | (refine ag.set ?_ Fo _) | (refine ag.new ?_ _))),al _,by(refine aC ?_;all_goals rfl),by exact aZ,m.ext (by exact aZ),Fo,i,j,?_⟩;rw[dw,iN Om,iN Om,iN Om];rfl
  by_cases QC:tk=50\/tk=8
  ·have yb:=Mf (K:=(K.new (.cells [.int .i64 (tk:Nat), .int .i64 tl, .string (tx x), .int .i64 (o:Nat), .slice q ks.length ks.length] 26 .ex)).new (.cells [.int .i64 0, .int .i64 0, .string ⟨⟨[]⟩⟩, .int .i64 0, .slice none 0 0] 26 .ex)) (A:=A) (hs.mv λb hb=>⟨hb,by have:=(hA b hb).1;rw[bQ (by show b≠K.nx+1;omega),bQ Om]⟩) (λb hb=>by have:=(hA b hb).1;show b<K.nx+1+1;omega);rcases QC with rfl | rfl
   all_goals
    refine aC ?_;refine yb.mono λv g ⟨oW,w,d,iH⟩=> ?_;subst w;obtain⟨pk,pl,px,po,P,jr⟩ : ∃pk pl px po P,cC ks= .mk pk pl px po P:=by cases cC ks;exact⟨_,_,_,_,_,rfl⟩
    have z:=ad1 hT.2;have C:b9 g A (dr (cC ks)) oW:=iH.mv λb hb=>⟨hb,d.ob b (by have:=(hA b hb).1;show b<K.nx+1+1;omega)⟩;rw[jr] at C z;obtain⟨q2,rfl,Wz⟩:=ij C;obtain⟨q3,e3,hp⟩:=aog Wz λn hn=>by
     have:=FI z.2 hn;obtain⟨_,_,_,_,_⟩:=n;exact this.1
    cases e3;have l7:K.nx+1+1<=g.nx:=d.nx;have r:ag K g:=(((ag.refl K).new _).new _).trans d;refine aC ?_;refine(adZ (m.ext (r.ob _ hl)) Sm hp).mono λv K3 ⟨u,w⟩=> ?_;subst u w;refine aC ?_;refine .inl ⟨rfl,x,g.nx,_,wo ρ (cC ks).kids,by(exact aZ;all_goals rfl),by(exact aZ;all_goals rfl),by(exact aZ;all_goals rfl),by(exact aZ;all_goals rfl),r.new _,Fo,?_,?_, .inl (by rw[cV,iP rfl]),Fo,by rw[jr];exact i.wo P,λy=> ?_,?_⟩;·rw[bQ Om,d.ob _ (by show K.nx<K.nx+1+1;omega)];refine aC ?_;all_goals rfl
    ·rw[bQ Om,d.ob _ (by show K.nx+1<K.nx+1+1;omega)];exact aZ;all_goals rfl
    ·unfold wo;split;·omega
     exact j y
    rw[dw,iN Om,iP Om,iN Om];rfl
  by_cases D:tk=55\/tk=56\/tk=57
  ·have Q:=hw.c;have iM:bc≠K.nx:=by omega
   have fI:bc≠K.nx+1:=by omega
   have R:=aon (q:=q) (l:=l) (k:=k) (c:=c+1) (f:=f) (ks:=ks) (A:=A) (K:=((K.new (.cells [.int .i64 (tk:Nat), .int .i64 tl, .string (tx x), .int .i64 (o:Nat), .slice q ks.length ks.length] 26 .ex)).new (.cells [.int .i64 0, .int .i64 0, .string ⟨⟨[]⟩⟩, .int .i64 0, .slice none 0 0] 26 .ex)).set bc (.cells [.int .i64 ((c:Int)+1)] 3 .ex)) (L.mv λb hb=>⟨hb,by have:=hA b hb;rw[cv Om,bQ (by show b≠K.nx+1;omega),bQ Om]⟩) (λb hb=>by have:=(hA b hb).1;show b<K.nx+1+1;omega) hT.2 ((m.ex (K':=((K.new _).new _).set bc _) hl ((((c7.refl K).new _).new _).set (.inr rfl) _) ⟨_,_,_,Q⟩)) (by show l<K.nx+1+1;omega) Om (by have:=Wy ks;have:a8 ks+1<=S:=hz;rw[NE] at hk;omega);rcases D with rfl | rfl | rfl
   all_goals
    refine rn (gK @Q @iM @fI) ?_;refine R.mono λv g ⟨l1,u,d,dT,T,s⟩=> ?_;subst u;have l7:K.nx+1+1<=g.nx:=d.nx;have dT:K.nx+1+1<=l1:=dT;have oB:=(d.ob K.nx (by show K.nx<K.nx+1+1;omega)).trans ((cv Om).trans ((bQ (by show K.nx≠K.nx+1;omega)).trans (jf)));have oZ:=(d.ob (K.nx+1) (by show K.nx+1<K.nx+1+1;omega)).trans ((cv Om).trans (jf (K:=K.new _)));have oC:g.ob bc= .cells [.int .i64 ((c+1:Nat):Int)] 3 .ex:=(d.ob bc (by show bc<K.nx+1+1;omega)).trans (by rw[bP,iP rfl];rfl);have M:c7 bc K g:=((((c7.refl K).new _).new _).set (.inr rfl) _).trans d.ex;have SL:WK g bc bw be (c+1):=hw.ex M oC;refine rn @oB ?_;have U:Ws=_:=rfl;conv at U=>rhs;reduce
    simp only[Int.reduceOfNat,Int.reduceNegSucc] at U;rw[<-U];have ub:a8 ks+1<=S:=hz;have Cp:c+(a8 ks+1)<=2305843009213693952:=hc;have sh:=Wy ks;have V:eD ks<=N:=by simp only[eV] at hN;omega
    have xn:k+S+N*S<=2305843009213693952:=by rw[NE] at hk;omega
    refine aoC Y Z V Om t.1 t.2 hT.2 (A:=A) (L.mv λb hb=>⟨hb,M.ob b (hA b hb).1 (hA b hb).2⟩) (λb hb=>⟨by have:=(hA b hb).1;omega,(hA b hb).2⟩) SL (m.ex hl M ⟨_,_,_,Q⟩) Om i (λy=>bW (j y) (Nat.le_succ _)) (.inl s) T i.uy (aoJ (λy=>bW (j y) (Nat.le_succ _)) (al _)) Om Om Om (by exact aZ) (by exact aZ) (by exact aZ) (by exact aZ) (by exact aZ) (by exact aZ) (by exact aZ) (by exact aZ) λfr K3 ns c' f5 f7 r Dt lV pL dP=> ?_;have E:fr 5=pN K.nx:=f5.trans (by exact aZ);have G:fr 7=pN (K.nx+1):=f7.trans (by exact aZ);obtain⟨va,f11,hv⟩:=lV.done (by have:=t.1;omega);have uA:=r.nx;have I:=(r.ob K.nx Om Om).trans oB;have J:=(r.ob (K.nx+1) Om Om).trans oZ;refine rn (iD @E @G @f11 @I @J) ?_;refine .inr ⟨rfl,?_⟩;refine rn (iD @E @G @f11 @I @J) ?_;rw[dw,iP de];have O:fA cI (wi ρ (iE ks) (c+1)) ρ true (c+1) ks=(ns,c'):=pL;have mJ:c7 bc K K3:=M.trans r;refine⟨(mJ.set Om _).set Om _,?_,[_,_,_,_,_],rfl,?_⟩;·rw[cv Om,cv Om,O];exact Dt.c
    rw[O];rw[f11] at hv;exact .cons (.sc rfl) (.cons (.sc rfl) (.cons (.sc rfl) (.cons (.sc rfl) (.cons (hv.mv λb hb=>⟨⟨Om,hb.2⟩,by rw[cv Om,cv Om]⟩) .nil))))
  refine aC ?_;refine .inl ⟨rfl,x,l,f,ρ,by(exact aZ;all_goals rfl),by(exact aZ;all_goals rfl),by(exact aZ;all_goals rfl),by(exact aZ;all_goals rfl),by(repeat (first | assumption | exact ag.refl _ | (refine ag.set ?_ Fo _) | (refine ag.new ?_ _))),al _,by(refine aC ?_;all_goals rfl),by exact aZ,m.ext (by exact aZ),Fo,i,j,?_⟩;rw[dw,iN D,iN Om,iN Om];rfl
 rintro x1 fr H (⟨rfl,x',l',f',ρ',f1,f4,f5,f7,hx,hn,s,o2,xy,iu,xw,W,O⟩ | ⟨rfl,h⟩)
 ·rw[O];have s:H.ob K.nx= .cells [.int .i64 (tk:Nat), .int .i64 tl, .string (tx x'), .int .i64 (o:Nat), .slice q ks.length ks.length] 26 .ex:=s;obtain⟨e4,o4⟩:=(hw.hx hx).e;have V:eD ks<=N:=by simp only[eV] at hN;omega
  have ub:a8 ks+1<=S:=hz;have Cp:c+(a8 ks+1)<=2305843009213693952:=hc;have xn:k+N*S<=2305843009213693952:=by rw[NE] at hk;omega
  have jJ:=aoA Z Y V Om t.1 t.2 hT.2 (K:=H) (A:=A) (L.mv λb hb=>⟨hb,hx.ob b (hA b hb).1⟩) (λb hb=>⟨by have:=(hA b hb).1;have:=hx.nx;omega,(hA b hb).2⟩) (hw.hx hx) xy iu xw W Om xn;refine rn (rT @f1 @f4 @f5 @f7 @s @o2 @o4) ?_;refine jJ.mono λv g ⟨d,o3,hv⟩=> ?_;obtain⟨va,rfl,_⟩:=mI hv;have l7:=d.nx;have X:=(d.ob _ Om Om).trans s;have Qx:=(d.ob _ Om Om).trans o2;refine rn (rR @f1 @f4 @f5 @f7 @X @Qx) ?_;have ef:c7 bc K g:=hx.ex.trans d;refine⟨(ef.set Om _).set Om _,?_,[_,_,_,_,_],rfl, .cons (.sc rfl) (.cons (.sc rfl) (.cons (.sc rfl) (.cons (.sc rfl) (.cons (hv.mv λb hb=>⟨⟨Om,hb.2⟩,?_⟩) .nil))))⟩;·rw[cv Om,cv Om];exact o3
  rw[cv Om,cv Om]
 exact h
theorem aei{S B bc bw be:Nat}(a:B+16<=4398046511104) : ∀N,Mp S B bc bw be N
 | 0=>λt h=>by cases t;simp[eV] at h
 | N+1=>aoK a (aei a N)
abbrev lJ(t:Nd):Nd:=(dw cI (λ_=>0) 0 t).1
theorem aoN{B:Nat}(i:B+16<=4398046511104){t:Nd}(hh:eV t<=1000)(hz:cf t<=1125899906842624)(j:kQ B t)(hT:zt t){K:CH}{A:Nat->Prop}{os:List ae}(hs:b9 K A (dr t) os)(hA : ∀b,A b->b<K.nx)(hp:wG K):aR gE 10 [.agg os.toArray] K λv K'=>ag K K'/\∃os',v= .agg os'.toArray/\b9 K' (λb=>K.nx<=b/\b<K'.nx) (dr (lJ t)) os':=by
 obtain⟨nt,d⟩:=tz hs;have l:os.length=5:=by rw[d];rfl
 have m:os.all bu=true:=by rw[d];rfl
 have n:List.take 5 os=os:=qD Om;refine du Rl Kr (aV ?_);refine rn (gK @l @m @n) ?_;refine(aei (S:=1125899906842624) (bc:=K.nx+1+1) (bw:=K.nx+1+1+1) (be:=K.nx+1+1+1+1) i 1000 t hh hz j hT _ A os (λ_=>0) (λ_=>none) 0 (K.nx+1+1+1+1+1) 0 (hs.mv λb hb=>⟨hb,by have:=hA b hb;exact aZ⟩) (λb hb=>⟨cj (hA b hb) Fo,by have:=hA b hb;omega⟩) ⟨by(refine aC ?_;all_goals rfl),⟨_,by(refine aC ?_;all_goals rfl)⟩,⟨_,by(refine aC ?_;all_goals rfl)⟩,⟨Fo,Fo,Fo⟩,hp.hx (by(repeat (first | assumption | exact ag.refl _ | (refine ag.set ?_ Fo _) | (refine ag.new ?_ _))))⟩ (.inr ⟨by exact aZ,rfl,rfl⟩) Fo RF.nil (λ_=>al _) Om Om).mono λv a ⟨c,u,w,o,g⟩=> ?_;subst o;have x:K.nx+1+1+1+1+1+1<=a.nx:=c.nx;obtain⟨n2,rfl⟩:=tz g;have r:a.ob (K.nx+1)= .cells [.int .i64 0, .int .i64 0, .string ⟨⟨[]⟩⟩, .int .i64 0, .slice none 0 0] 26 .ex:=(c.ob (K.nx+1) Fo Om).trans (by(exact aZ;all_goals rfl));have s:c7 (K.nx+1+1) K a:=c7.trans (ag.ex (by(repeat (first | assumption | exact ag.refl _ | (refine ag.set ?_ Fo _) | (refine ag.new ?_ _))))) c;repeat' (first | (simp (disch:=first | omega | (decide +kernel)) only[↓RD,RU,↓aP,↓ez,↓aT,qE,bP,aD,bD,bT,jc,dV,isVal,bu,dp,↓reduceIte,Nat.reduceEqDiff,Nat.reduceAdd,ρ7,ρ8,ρ15,ρ17,ρ18,ρ21,ρ22,ρ23,Kd.cD,ρ25,ρ26,fD,r]) | ((with_reducible first|apply aF|apply aG|apply aH)<;>intro _))
 refine⟨(s.ext Om).set Om _,fD n2,rfl,g.mv λb hb=> ?_⟩;have y:K.nx+1+1+1+1+1+1<=b:=hb.1;exact⟨⟨Om,hb.2⟩,cv Om⟩
end
section
def rm(k:Nat)(x:List UInt8):Prop:=∃l n,kg l=some (k,x,n)
def eK (n:Nd):Prop:=30<=n.kind/\n.kind<=57/\n.kind≠43/\n.kind≠48
def qo (l:List Nd):Prop:=∀n∈l,eK n
def sK (n:Nd):Prop:=2<=n.kind/\n.kind<=20
def QD (l:List Nd):Prop:=l≠ []/\∀n∈l,sK n
def FJ:List Nd->Bool
 | c::_=>decide (c.kind=58)
 | []=>false
def vE (l:List Nd):Prop:=∀n∈l,n.kind=58\/n.kind=59
def vK (n:Nd):Prop:=eK n\/n.kind=60
def rq (l:List Nd):Prop:=∀n∈l,n.kind=36
def yc (l:List Nd):Prop:=∀n∈l,n.kind=21
def eW (k:Nat)(x:List UInt8)(o:Nat)(ks:List Nd):Prop:=
 (k=30/\rm 5 x/\o=0/\ks= [])\/(k=31/\rm 6 x/\o=0/\ks= [])\/(k=32/\rm 7 x/\o=0/\ks= [])\/(k=36/\rm 4 x/\o=0/\ks= [])\/
 ((k=33\/k=34\/k=35\/k=48\/k=11\/k=12\/k=13)/\x= []/\o=0/\ks= [])\/
 (k=37/\x= []/\1<=o/\o<=7/\∃a b,ks= [a,b]/\eK a/\eK b)\/(k=38/\x= []/\(o=1\/o=2)/\∃a,ks= [a]/\eK a)\/
 ((k=39\/k=40)/\x= []/\o=0/\∃a b,ks= [a,b]/\eK a/\eK b)\/(k=41/\x= []/\o=0/\∃a,ks= [a]/\eK a)\/
 (k=42/\x= []/\o=0/\∃a l,ks=a::l/\eK a/\l≠ []/\∀n∈l,n.kind=43)\/(k=43/\x= []/\1<=o/\o<=10/\∃a,ks= [a]/\eK a)\/
 (k=44/\x= []/\o=0/\∃a l,ks=a::l/\eK a/\qo l)\/(k=45/\rm 4 x/\o=0/\∃a,ks= [a]/\eK a)\/(k=46/\x= []/\o=0/\∃a b,ks= [a,b]/\eK a/\eK b)\/
 (k=47/\x= []/\o=0/\∃a b c,ks= [a,b,c]/\eK a/\(eK b\/b.kind=48)/\(eK c\/c.kind=48))\/(k=49/\x= []/\o=0/\∃a b c,ks= [a,b,c]/\eK a/\eK b/\eK c)\/
 (k=50/\x= []/\o=0/\∃p e,ks= [p,e]/\p.kind=23/\eK e)\/(k=23/\x= []/\o=0/\rq ks)\/
 ((k=51\/k=52)/\x= []/\o=0/\qo ks)\/(k=53/\x= []/\o=0/\ks≠ []/\qo ks)\/(k=54/\x= []/\o=0/\ks.length % 2=0/\qo ks)\/
 ((k=55\/k=56)/\x= []/\o=0/\∃e l,ks=e::l/\eK e/\FJ l=true/\vE l)\/(k=57/\x= []/\o=0/\∃a b l,ks=a::b::l/\eK a/\eK b/\FJ l=true/\vE l)\/
 (k=58/\x= []/\o=0/\∃a b,ks= [a,b]/\eK a/\gz a=true/\eK b)\/(k=59/\x= []/\o=0/\∃a,ks= [a]/\eK a)\/
 ((k=60\/k=10\/k=14)/\x= []/\o=0/\(ks= []\/∃a,ks= [a]/\eK a))\/(k=20/\x= []/\o=0/\∃a,ks= [a]/\eK a)\/
 (k=2/\x= []/\o=0/\∃a,ks= [a]/\vK a)\/(k=3/\x= []/\o=0/\∃l v,ks=l++ [v]/\l≠ []/\vK v/\∀n∈l,eK n/\gz n=true)\/
 (k=4/\x= []/\1<=o/\o<=7/\∃a b,ks= [a,b]/\eK a/\yD a=true/\eK b)\/(k=19/\x= []/\o=0/\∃a,ks= [a]/\eK a/\yD a=true)\/
 ((k=17\/k=18)/\x= []/\o=0/\ks≠ []/\rq ks)\/(k=1/\x= []/\o=0/\QD ks)\/
 (k=5/\x= []/\o=0/\∃a b l,ks=a::b::l/\eK a/\b.kind=1/\(l= []\/∃e,l= [e]/\e.kind=1))\/(k=6/\x= []/\o=0/\∃a b,ks= [a,b]/\eK a/\b.kind=1)\/
 (k=7/\x= []/\o=0/\∃a b c,ks= [a,b,c]/\eK a/\gz a=true/\eK b/\c.kind=1)\/(k=8/\rm 4 x/\o=0/\∃a b,ks= [a,b]/\a.kind=23/\b.kind=1)\/
 (k=9/\rm 4 x/\o=0/\∃a b,ks= [a,b]/\a.kind=24/\b.kind=1)\/(k=24/\x= []/\o=0/\qo ks)\/
 (k=15/\x= []/\o=0/\∃b l,ks=b::l/\b.kind=1/\l≠ []/\∃h t,l=h++t/\yc h/\(∀n∈h.dropLast,n.kids.length=2)/\(t= []\/∃y,t= [y]/\y.kind=22))\/
 (k=21/\((x= []/\∃b,ks= [b]/\b.kind=1)\/((x= []\/rm 4 x)/\∃e b,ks= [e,b]/\eK e/\b.kind=1))/\o=0)\/(k=22/\x= []/\o=0/\∃b,ks= [b]/\b.kind=1)\/
 (k=16/\(x= []\/rm 4 x)/\o=0/\∃e b,ks= [e,b]/\eK e/\b.kind=1)
mutual
def lK:Nd->Prop
 | .mk k _ x o ks=>eW k x o ks/\eX ks
def eX:List Nd->Prop
 | []=>True
 | n::ks=>lK n/\eX ks
end
theorem qp : ∀ {a b:List Nd},eX (a++b)↔eX a/\eX b
 | [],b=>by simp[eX]
 | n::a,b=>by simp only[jU,eX,qp,and_assoc]
def TW (P:List Nd->Prop):PR->Prop
 | some (.ok (l,_))=>P l
 | _=>True
abbrev xE:List Nd->Prop:=λl=>∃n,l= [n]/\lK n/\eK n
abbrev xP:List Nd->Prop:=λl=>∃n,l= [n]/\lK n/\eK n/\gz n=true
abbrev xV:List Nd->Prop:=λl=>∃n,l= [n]/\lK n/\vK n
abbrev xS:List Nd->Prop:=λl=>∃n,l= [n]/\lK n/\sK n
abbrev xK(k:Nat):List Nd->Prop:=λl=>∃n,l= [n]/\lK n/\n.kind=k
def NT.out(ts:List PT)(i:Nat):NT->List Nd->Prop
 | .one | .places | .placesL _ _=>xP
 | .value=>xV
 | .simple | .plain | .mg _ _ | .stmt | .names _ _ _ | .ifs _ | .tries _ | .sU _ _=>xS
 | .maybe k _ _=>xK k
 | .block | .yH _=>xK 1
 | .params _ _ _=>xK 23
 | .row _ _=>λl=>eX l/\qo l
 | .clauses acc=>λl=>eX l/\vE l/\(acc= []->ap ts i GW=true->FJ l=true)/\(acc≠ []->FJ l=FJ acc)
 | .pV _=>λl=>∃b h,l=b::h/\eX l/\b.kind=1/\yc h/\∀n∈h.dropLast,n.kids.length=2
 | .top _=>λl=>eX l/\∀n∈l,sK n
 | _=>xE
def NT.lL(ts:List PT)(i:Nat):NT->Prop
 | .params _ _ acc=>eX acc/\rq acc
 | .row _ acc | .vX _ acc=>eX acc/\qo acc
 | .Ao n | .Ap n | .yE n | .vY n | .xh n | .index n=>lK n/\eK n
 | .cmpL n acc=>lK n/\eK n/\eX acc/\∀m∈acc,m.kind=43
 | .clauses acc=>eX acc/\vE acc
 | .yG _ acc=>eX acc/\qo acc/\acc.length % 2=0
 | .placesL _ acc=>eX acc/\qo acc/\kz acc=true/\acc≠ []
 | .names k _ acc=>(k=17\/k=18)/\eX acc/\rq acc
 | .maybe k _ _=>k=60\/k=10\/k=14
 | .mg _ acc=>eX acc/\(∃l v,acc=l++ [v]/\vK v/\∀n∈l,eK n/\gz n=true)/\(2<=acc.length\/ap ts i Sn=true)
 | .yH acc=>eX acc/\∀n∈acc,sK n
 | .pV acc=>∃b h,acc=b::h/\eX acc/\b.kind=1/\yc h/\∀n∈h,n.kids.length=2
 | .sU _ acc=>∃b h,acc=b::h/\eX acc/\b.kind=1/\yc h/\∀n∈h.dropLast,n.kids.length=2
 | .top acc=>eX acc/\∀n∈acc,sK n
 | _=>True
def zz (ts:List PT)(f:Nat):Prop:=∀a i,a.lL ts i->TW (a.out ts i) (gr ts f a i)
theorem qt{c:Prop}[Decidable c]{P:List Nd->Prop}{a b:PR}(h1:c->TW P a)(h2 : ¬c->TW P b):TW P (if c then a else b):=by
 split;·exact h1 ‹_›
 exact h2 ‹_›
theorem FK{ts:List PT}{s:List UInt8}{i:Nat}{P:List Nd->Prop}{k:Nat->PR}(h:TW P (k (i+1))):TW P (gV ts s i k):=qt (λ_=>h) λ_=>trivial
theorem QE{ts:List PT}{kd:Int}{i:Nat}{P:List Nd->Prop}{k:List UInt8->Nat->PR}(h:(ay ts i).kind=kd->TW P (k (ay ts i).text (i+1))):TW P (mS ts kd i k):=qt h λ_=>trivial
theorem QF{r:PR}{P Q:List Nd->Prop}{k:List Nd->Nat->PR}(h:TW Q r)(hk : ∀l j,Q l->TW P (k l j)):TW P (pb r k):=by
 match r,h with
 | none,_=>exact trivial
 | some (.error e),_=>exact trivial
 | some (.ok (l,j)),h=>exact hk l j h
theorem uB{r:PR}{P Q:List Nd->Prop}{k:Nd->Nat->PR}(h:TW Q r)(hk : ∀n j,Q [n]->TW P (k n j)):TW P (bF r k):=QF h λl j h2=>by
 match l,h2 with
 | [],_=>exact trivial
 | _::_::_,_=>exact trivial
 | [n],h2=>exact hk n j h2
theorem FL{P:List Nd->Prop}{e:Nat}:TW P (some (.error e)):=trivial
theorem Mu{P:List Nd->Prop}{j:Nat}{l:List Nd}(h2:P l):TW P (some (.ok (l,j))):=h2
theorem vF{P:List Nd->Prop}{j:Nat}{n:Nd}(h2:P [n]):TW P (bR n j):=h2
theorem aoO{ts:List PT}{p:Nat}{P:List Nd->Prop}{A:PR}{B:Nat->Nat->PR}(hA:TW P A)(a : ∀op j,op+1<=10->TW P (B op j)):TW P (match jk ts p with | .error e=>some (.error e) | .ok (0,_)=>A | .ok (op+1,j)=>B op j):=by
 have h : ∀o j,jk ts p= .ok (o,j)->o<=10:=by
  intro o j h;unfold jk at h
  (repeat' split at h)<;>first | (cases h;omega) | cases h
 match b:jk ts p with
 | .error e=>exact trivial
 | .ok (0,_)=>exact hA
 | .ok (op+1,j)=>exact a op j (h _ _ b)
end
section
variable (it:Nat->Bs)
def BL (own:List Bs)(ps:List Nd):List Bs:=own.filter λy=> !decide (y∈ps.map Nd.text)
mutual
def tA (own:List Bs)(t:Bs):Nd->Nd
 | .mk k l x o ks=>if k=36/\x∈own then .mk k l (x++t) o ks else .mk k l x o (n8 (if k=50 then BL own (cC ks).kids else own) t ks)
def n8(own:List Bs)(t:Bs):List Nd->List Nd
 | []=> []
 | n::ks=>tA own t n::n8 own t ks
end
def Mw(own:List Bs)(t:Bs):List Nd->List Nd
 | a::b::r=>tA own t a::b::n8 own t r
 | ks=>n8 own t ks
def rr(own:List Bs)(t:Bs)(a:Bool):List Nd->List Nd
 | []=> []
 | .mk k l x o ks::ns=>if k=58/\a=true then .mk k l x o (Mw own t ks)::rr own t false ns else tA own t (.mk k l x o ks)::rr own t a ns
mutual
def c9 (c:Nat):Nd->Nd×Nat
 | .mk k l x o ks=>if k=55\/k=56\/k=57 then
    let r:=ft (c+1) ks
    (.mk k l x o (rr (iE r.1) (46::it (c+1)) true r.1),r.2)
   else
    let r:=ft c ks
    (.mk k l x o r.1,r.2)
def ft(c:Nat):List Nd->List Nd×Nat
 | []=>([],c)
 | n::ks=>let a:=c9 c n;let r:=ft a.2 ks;(a.1::r.1,r.2)
end
abbrev qu:=List (List Bs×Nat)
def dm:qu->Bs->Nat
 | [],_=>0
 | (o,i)::L,y=>if y∈o then i else dm L y
def tB:qu->Nd->Nd
 | [],n=>n
 | (o,i)::L,n=>tB L (tA o (46::it i) n)
def tC:qu->List Nd->List Nd
 | [],n=>n
 | (o,i)::L,n=>tC L (n8 o (46::it i) n)
def zA (L:qu):Prop:=∀p∈L,0<p.2/\∀y∈p.1,(46:UInt8)∉y
def Dw (L:qu)(ps:List Nd):qu:=L.map λp=>(BL p.1 ps,p.2)
theorem WC(ps:List Nd) : ∀(L:qu),dm (Dw L ps)=wo (dm L) ps
 | []=>by funext y;simp[Dw,dm,wo]
 | (o,i)::L=>by
   have a:=WC ps L;funext y
   show(if y∈BL o ps then i else dm (Dw L ps) y)=_;rw[a];unfold wo BL;simp only[dm,List.mem_filter,Ab,decide_eq_false_iff_not];by_cases h:y∈ps.map Nd.text<;>by_cases h2:y∈o<;>simp[h,h2]
theorem QG : ∀(L:qu),tC it L []= []
 | []=>rfl
 | (o,i)::L=>by simp only[tC,n8];exact QG L
theorem FM : ∀(L:qu) (n:Nd) (ks:List Nd),tC it L (n::ks)=tB it L n::tC it L ks
 | [],_,_=>rfl
 | (o,i)::L,n,ks=>by simp only[tC,n8,tB];exact FM L _ _
theorem Mx{k:Nat}(h1:k≠36)(h2:k≠50)(l:Int)(x:Bs)(o:Nat) : ∀(L:qu) (ks:List Nd),tB it L (.mk k l x o ks)= .mk k l x o (tC it L ks)
 | [],_=>rfl
 | (w,i)::L,ks=>by
   simp only[tB,tC,tA,h1,h2,false_and,iF];exact Mx h1 h2 l x o L _
theorem aej{x t:Bs}(hd:(46:UInt8)∈x)(l:Int)(o:Nat) : ∀(L:qu),zA L->tB it L (.mk 36 l x o [])= .mk 36 l x o []
 | [],_=>rfl
 | (w,i)::L,h=>by
   have hx:x∉w:=λe=>(h (w,i) (j5 ..)).2 x e hd;simp only[tB,tA,hx,and_false,iF,n8];exact aej (t:=t) hd l o L λp hp=>h p (hU _ hp)
theorem aek(x:Bs)(l:Int)(o:Nat) : ∀(L:qu),zA L->tB it L (.mk 36 l x o [])= .mk 36 l (if 0<dm L x then x++46::it (dm L x) else x) o []
 | [],_=>by simp[tB,dm]
 | (w,i)::L,h=>by
   have h':zA L:=λp hp=>h p (hU _ hp);by_cases hx:x∈w
   ·have hi:=(h (w,i) (j5 ..)).1;simp only[tB,tA,hx,and_self,iT,dm];rw[iP hi];exact aej it (t:= []) Sm l o L h'
   simp only[tB,tA,hx,and_false,iF,n8,dm];exact aek x l o L h'
theorem WD(ps:List Nd)(a : ∀n∈ps,n.kind=36/\n.kids= []) : ∀(qs:List Nd) (o:List Bs) (t:Bs),(∀n∈qs,n∈ps)->n8 (BL o ps) t qs=qs
 | [],_,_,_=>rfl
 | n::qs,o,t,h=>by
   have hn:=h n (j5 ..);have b:=a n hn;rw[n8,WD ps a qs o t λm c=>h m (hU _ c)];congr 1
   obtain⟨k,l,x,o',ks⟩:=n;obtain⟨rfl,rfl⟩:k=36/\ks= []:=b;have hx:x∉BL o ps:=λe=>by
    unfold BL at e;have:=(List.mem_filter.1 e).2;simp only[Ab,decide_eq_false_iff_not] at this;exact this (List.mem_map.2 ⟨_,hn,rfl⟩)
   simp only[tA,hx,and_false,iF,n8]
theorem ael(ps:List Nd)(b : ∀n∈ps,n.kind=36/\n.kids= [])(l lp:Int)(x a:Bs)(o op:Nat) : ∀(L:qu) (r:List Nd),tB it L (.mk 50 l x o (.mk 23 lp a op ps::r))= .mk 50 l x o (.mk 23 lp a op ps::tC it (Dw L ps) r)
 | [],_=>rfl
 | (w,i)::L,r=>by
   have e:tA w (46::it i) (.mk 50 l x o (.mk 23 lp a op ps::r))= .mk 50 l x o (.mk 23 lp a op ps::n8 (BL w ps) (46::it i) r):=by
    simp only[tA,n8,cC,Nd.kids,show ¬((50:Nat)=36) by decide,show ¬((23:Nat)=36) by decide,show ¬((23:Nat)=50) by decide,false_and,iF,iT];rw[WD ps b ps w _ λ_ h=>h]
   rw[tB,e];exact ael ps b l lp x a o op L _
theorem aem(c:Nat) : ∀n:Nd,(c9 it c n).1.kind=n.kind
 | .mk k l x o ks=>by
   rw[c9];split<;>rfl
theorem zB{c:Nat}:ft it c []=([],c):=by rw[ft]
theorem zC{c:Nat}{n:Nd}{ks:List Nd}:ft it c (n::ks)=((c9 it c n).1::(ft it (c9 it c n).2 ks).1,(ft it (c9 it c n).2 ks).2):=by rw[ft]
theorem BM{c k:Nat}(h : ¬(k=55\/k=56\/k=57)){l:Int}{x:Bs}{o:Nat}{ks:List Nd}:c9 it c (.mk k l x o ks)=(.mk k l x o (ft it c ks).1,(ft it c ks).2):=by rw[c9,iN h]
theorem Dx{k:Nat}{l:Int}{x:Bs}{o:Nat}{ks:List Nd}:fy (.mk k l x o ks)=if k=36 then [x] else if k=52\/k=51 then eE ks else []:=by rw[fy]
def P1 (N:Nat):Prop:=∀(n:Nd) (c:Nat),dR n<N->fy (c9 it c n).1=fy n
def P2 (N:Nat):Prop:=∀(ks:List Nd) (c:Nat),dR ks<N->eE (ft it c ks).1=eE ks
theorem aoP(N:Nat):P1 it N/\P2 it N:=by
 induction N with
 | zero=>exact⟨λ_ _ h=>absurd h (fM _),λ_ _ h=>absurd h (fM _)⟩
 | succ N a=>
   refine⟨λn c b=> ?_,λks c b=> ?_⟩
   ·obtain⟨k,l,x,o,ks⟩:=n;have hs:dR ks<N:=by simp at b;omega
    by_cases hk:k=55\/k=56\/k=57
    ·rw[c9,iP hk];show fy (.mk k l x o _)=_;rw[Dx,Dx,iN Om,iN Om,iN Om,iN Om]
    rw[BM it hk];show fy (.mk k l x o (ft it c ks).1)=_;rw[Dx,Dx,a.2 ks c hs]
   cases ks with
   | nil=>rw[zB]
   | cons n ks=>
     simp at b;rw[zC];show eE ((c9 it c n).1::(ft it (c9 it c n).2 ks).1)=_;rw[eE,eE,a.1 n c Om,a.2 ks _ Om]
theorem aoQ(n:Nd)(c:Nat):fy (c9 it c n).1=fy n:=(aoP it (dR n+1)).1 n c (iC _)
theorem aen : ∀(ks:List Nd) (c:Nat),iE (ft it c ks).1=iE ks
 | [],c=>by rw[zB]
 | n::ks,c=>by
   rw[zC];show iE ((c9 it c n).1::(ft it (c9 it c n).2 ks).1)=_;rw[iE,iE,aen ks,aem];congr 1
   by_cases h:n.kind=58
   ·rw[iP h,iP h];obtain⟨k,l,x,o,tV⟩:=n;obtain rfl:k=58:=h;rw[BM it de];show fy (cC (ft it c tV).1)=fy (cC tV);cases tV with
    | nil=>rw[zB]
    | cons a r=>
      rw[zC];exact aoQ it a c
   rw[iN h,iN h]
theorem aeo{p:Nat->Bool} : ∀ {l:List UInt8},∀c∈l.take (nW p l),p c.toNat=true
 | [],c,hc=>(by cases hc)
 | a::l,c,hc=>by
   rw[nW] at hc;split at hc
   ·rename_i ha;rw[Ai] at hc;rcases List.mem_cons.1 hc with rfl | hc
    ·exact ha
    exact aeo c hc
   cases hc
theorem aoR{x:Bs}(h:rm 4 x):(46:UInt8)∉x:=by
 obtain⟨l,n,h⟩:=h;unfold kg at h;split at h;·simp only[Option.some.injEq,Prod.mk.injEq] at h;obtain⟨_,rfl,_⟩:=h;intro hx;exact absurd (aeo (p:=lW) _ hx) de
 split at h
 ·split at h;·cases h
  have:gv l≠4:=by
   unfold gv;split<;>decide
  simp only[Option.some.injEq,Prod.mk.injEq] at h;exact absurd h.1 this
 split at h
 ·cases hs:qd (hd l) (l.drop 1) with
  | none=>rw[hs] at h;cases h
  | some z=>rw[hs] at h;cases h
 cases hs:sw l with
 | none=>rw[hs] at h;cases h
 | some z=>rw[hs] at h;cases h
theorem aep : ∀ {ks:List Nd} {n:Nd},eX ks->n∈ks->lK n
 | m::ks,n,h,hn=>by
   rcases List.mem_cons.1 hn with rfl | hn
   ·exact h.1
   exact aep h.2 hn
theorem QH{k:Nat}{x:Bs}{o:Nat}{ks:List Nd}(h:eW k x o ks)(hk:23<=k) : ∀n∈ks,23<=n.kind:=by
 unfold eW at h;simp only[eK,qo,vE,rq,vK] at h;intro n hn;rcases h with h | h | h | h | h | h | h | h | h | h | h | h | h | h | h | h | h | h | h | h | h | h | h | h | h | h | h | h | h | h | h | h | h | h | h | h | h | h | h | h | h | h
 all_goals first
  | (exfalso;have:=h.1;omega)
  | (obtain⟨_,_,_,rfl⟩:=h;cases hn)
  | grind
theorem QI{x:Bs}{o:Nat}{ks:List Nd}(h:eW 36 x o ks):ks= []/\rm 4 x:=by
 unfold eW at h;simp at h;exact⟨h.2.2,h.1⟩
theorem aoS{x:Bs}{o:Nat}{ks:List Nd}(h:eW 50 x o ks) : ∃p e,ks= [p,e]/\p.kind=23:=by
 unfold eW at h;simp at h;obtain⟨_,_,p,e,h1,h2,_⟩:=h;exact⟨p,e,h1,h2⟩
theorem aoT{x:Bs}{o:Nat}{ks:List Nd}(h:eW 23 x o ks):rq ks:=by
 unfold eW at h;simp at h;exact h.2.2
theorem aeq{x:Bs}{o:Nat}{ks:List Nd}(h:eW 58 x o ks) : ∃a b,ks= [a,b]:=by
 unfold eW at h;simp at h;obtain⟨_,_,p,e,h1,_⟩:=h;exact⟨p,e,h1⟩
theorem aoU{ps:List Nd}(h:rq ps)(hw:eX ps) : ∀n∈ps,n.kind=36/\n.kids= []:=λn hn=>by
 have h1:=h n hn;have h2:=aep hw hn;obtain⟨k,l,x,o,ks⟩:=n;obtain rfl:k=36:=h1;exact⟨rfl,(QI h2.1).1⟩
def Q1 (N:Nat):Prop:=∀(n:Nd),dR n<N->lK n->∀y∈fy n,(46:UInt8)∉y
def Q2 (N:Nat):Prop:=∀(ks:List Nd),dR ks<N->eX ks->∀y∈eE ks,(46:UInt8)∉y
theorem aoV(N:Nat):Q1 N/\Q2 N:=by
 induction N with
 | zero=>exact⟨λ_ h=>absurd h (fM _),λ_ h=>absurd h (fM _)⟩
 | succ N a=>
   refine⟨λn b hw y hy=> ?_,λks b hw y hy=> ?_⟩
   ·obtain⟨k,l,x,o,ks⟩:=n;have hs:dR ks<N:=by simp at b;omega
    rw[Dx] at hy;split at hy;·rename_i c;subst c;rw[List.mem_singleton] at hy;subst hy;exact aoR (QI hw.1).2
    split at hy;·exact a.2 ks hs hw.2 y hy
    cases hy
   cases ks with
   | nil=>rw[eE] at hy;cases hy
   | cons n ks=>
     simp at b;rw[eE] at hy;rcases List.mem_append.1 hy with hy | hy
     ·exact a.1 n Om hw.1 y hy
     exact a.2 ks Om hw.2 y hy
theorem aer : ∀ {ks:List Nd},eX ks->∀y∈iE ks,(46:UInt8)∉y
 | [],_,y,hy=>by rw[iE] at hy;cases hy
 | n::ks,hw,y,hy=>by
   rw[iE] at hy;rcases List.mem_append.1 hy with hy | hy
   ·split at hy
    ·have hk:lK (cC n.kids)\/n.kids= []:=by
      obtain⟨k,l,x,o,tV⟩:=n;cases tV with
      | nil=>exact .inr rfl
      | cons a r=>exact .inl hw.1.2.1
     rcases hk with hk | hk
     ·exact(aoV (dR (cC n.kids)+1)).1 _ (iC _) hk y hy
     rw[hk] at hy;simp[cC,fy] at hy
    cases hy
   exact aer hw.2 y hy
theorem aes(ps:List Nd)(a : ∀n∈ps,n.kind=36/\n.kids= []) : ∀(L:qu),tC it (Dw L ps) ps=ps
 | []=>rfl
 | (o,i)::L=>by
   show tC it (Dw L ps) (n8 (BL o ps) (46::it i) ps)=ps;rw[WD ps a ps o _ λ_ h=>h];exact aes ps a L
theorem aoW(ps:List Nd)(a : ∀n∈ps,n.kind=36/\n.kids= [])(c:Nat):ft it c ps=(ps,c):=by
 induction ps with
 | nil=>rw[zB]
 | cons n ps b=>
   have h1:=a n (j5 ..);obtain⟨k,l,x,o,ks⟩:=n;obtain⟨rfl,rfl⟩:k=36/\ks= []:=h1;rw[zC,BM it de,zB];show(_::(ft it c ps).1,(ft it c ps).2)=_;rw[b λm d=>a m (hU _ d)]
theorem aoX{L:qu}(h:zA L)(ps:List Nd):zA (Dw L ps):=λp hp=>by
 obtain⟨q,a,rfl⟩:=List.mem_map.1 hp;exact⟨(h q a).1,λy b=>(h q a).2 y (List.mem_filter.1 b).1⟩
def M1 (N:Nat):Prop:=∀(n:Nd) (L:qu) (c:Nat),dR n<N->lK n->zA L->(L= []\/23<=n.kind)->dw it (dm L) c n=(tB it L (c9 it c n).1,(c9 it c n).2)
def M2 (N:Nat):Prop:=∀(ks:List Nd) (L:qu) (c:Nat),dR ks<N->eX ks->zA L->(L= []\/∀n∈ks,23<=n.kind)->jn it (dm L) c ks=(tC it L (ft it c ks).1,(ft it c ks).2)
def M3 (N:Nat):Prop:=∀(ks:List Nd) (L:qu) (w:List Bs) (i:Nat) (a:Bool) (c:Nat),dR ks<N->eX ks->zA L->zA ((w,i)::L)->(∀n∈ks,23<=n.kind)->fA it (dm ((w,i)::L)) (dm L) a c ks=(tC it L (rr w (46::it i) a (ft it c ks).1),(ft it c ks).2)
theorem aoY{N:Nat}(f:M2 it N)(m:M3 it N):M1 it (N+1):=by
 intro n L c q hw a hk;obtain⟨k,l,x,o,ks⟩:=n;have hs:dR ks<N:=by simp at q;omega
 have g:L= []\/23<=k:=hk;have r:L= []\/∀n∈ks,23<=n.kind:=g.imp id λh=>QH hw.1 h;by_cases hc:k=55\/k=56\/k=57
 ·have ho:zA ((iE ks,c+1)::L):=λp hp=>by
   rcases List.mem_cons.1 hp with rfl | hp
   ·exact⟨Nat.succ_pos _,aer hw.2⟩
   exact a p hp
  have:=m ks L (iE ks) (c+1) true (c+1) hs hw.2 a ho (QH hw.1 Om);rw[dw,iP hc,c9,iP hc];show(Nd.mk k l x o (fA it (dm ((iE ks,c+1)::L)) (dm L) true (c+1) ks).1,_)=_;rw[show wi (dm L) (iE ks) (c+1)=dm ((iE ks,c+1)::L) from rfl,this];show _=(tB it L (.mk k l x o (rr (iE (ft it (c+1) ks).1) (46::it (c+1)) true (ft it (c+1) ks).1)),_);rw[Mx it Om Om,aen]
 by_cases i:k=36
 ·subst i;obtain⟨rfl,ht⟩:=QI hw.1;rw[dw,iN hc,BM it hc,zB,aek it x l o L a];simp[jn]
 by_cases j:k=50
 ·subst j;obtain⟨p,e,rfl,hp⟩:=aoS hw.1;obtain⟨s,lp,b,op,ps⟩:=p;obtain rfl:s=23:=hp;have d:=aoU (aoT hw.2.1.1) hw.2.1.2;have t:=aoX a ps;have:=f [.mk 23 lp b op ps,e] (Dw L ps) c hs hw.2 t (.inr (QH hw.1 de));rw[dw,iN hc,BM it hc];show(Nd.mk 50 l (if (50:Nat)=36/\0<dm L x then x++ [46]++it (dm L x) else x) o (jn it (wo (dm L) ps) c [.mk 23 lp b op ps,e]).1,(jn it (wo (dm L) ps) c [.mk 23 lp b op ps,e]).2)=_;rw[<-WC,this,iN Om];simp only[zC,zB,BM it (show ¬((23:Nat)=55\/(23:Nat)=56\/(23:Nat)=57) by decide),aoW it ps d];rw[ael it ps d,FM,Mx it de de,aes it ps d]
 rw[dw,iN hc,BM it hc];have e:jn it (if k=8\/k=50 then wo (dm L) (cC ks).kids else dm L) c ks=jn it (dm L) c ks:=by
  by_cases u:k=8
  ·have hl:L= []:=g.resolve_right Om;subst hl;rw[iP (.inl u),<-WC];rfl
  rw[iN Om]
 show(Nd.mk k l (if k=36/\0<dm L x then x++ [46]++it (dm L x) else x) o (jn it (if k=8\/k=50 then wo (dm L) (cC ks).kids else dm L) c ks).1,(jn it (if k=8\/k=50 then wo (dm L) (cC ks).kids else dm L) c ks).2)=_;rw[e,f ks L c hs hw.2 a r,iN Om,Mx it i j]
theorem aoZ{N:Nat}(b:M1 it N)(d:M2 it N):M2 it (N+1):=by
 intro ks L c e hw a hk;cases ks with
 | nil=>rw[jn,zB,QG]
 | cons n ks=>
   simp at e;rw[jn,zC];show(_::_,_)=_;rw[b n L c Om hw.1 a (hk.imp id λh=>h n (j5 ..))];show(_::(jn it (dm L) (c9 it c n).2 ks).1,(jn it (dm L) (c9 it c n).2 ks).2)=_;rw[d ks L _ Om hw.2 a (hk.imp id λh m f=>h m (hU _ f)),FM]
theorem ao0{c:Nat}{l:Int}{x:Bs}{o:Nat}{p e:Nd}:c9 it c (.mk 58 l x o [p,e])=(.mk 58 l x o [(c9 it c p).1,(c9 it (c9 it c p).2 e).1],(c9 it (c9 it c p).2 e).2):=by
 rw[BM it de,zC,zC,zB]
theorem ao1{N:Nat}(j:M1 it N)(t:M3 it N):M3 it (N+1):=by
 intro ks L w i d c u hw q f hk;cases ks with
 | nil=>rw[zB];simp[fA,rr,QG]
 | cons n ks=>
   have A:=hk n (j5 ..);have v : ∀m∈ks,23<=m.kind:=λm B=>hk m (hU _ B);by_cases g:n.kind=58/\d=true
   ·obtain⟨k,l,x,o,kk⟩:=n;obtain⟨C,rfl⟩:k=58/\d=true:=g;subst C;obtain⟨p,e,rfl⟩:=aeq hw.1.1;have y:=QH hw.1.1 de;simp at u;rw[fA,iP ⟨rfl,rfl⟩,zC,ao0];have r:=j p ((w,i)::L) c Om hw.1.2.1 f (.inr (y p Sm));have D:=j e L (c9 it c p).2 Om hw.1.2.2.1 q (.inr (y e Sm));have s:=t ks L w i false (c9 it (c9 it c p).2 e).2 Om hw.2 q f v;rw[r];show(Nd.mk 58 l x o [_,(dw it (dm L) (c9 it c p).2 e).1]::(fA it (dm ((w,i)::L)) (dm L) false (dw it (dm L) (c9 it c p).2 e).2 ks).1,(fA it (dm ((w,i)::L)) (dm L) false (dw it (dm L) (c9 it c p).2 e).2 ks).2)=_;rw[D];show(Nd.mk 58 l x o [_,_]::(fA it (dm ((w,i)::L)) (dm L) false (c9 it (c9 it c p).2 e).2 ks).1,(fA it (dm ((w,i)::L)) (dm L) false (c9 it (c9 it c p).2 e).2 ks).2)=_;rw[s];show _=(tC it L (rr w (46::it i) true (.mk 58 l x o [(c9 it c p).1,(c9 it (c9 it c p).2 e).1]::(ft it (c9 it (c9 it c p).2 e).2 ks).1)),_);rw[rr,iP ⟨rfl,rfl⟩,FM,Mx it de de,Mw,n8,FM,FM,QG];rfl
   have E:fA it (dm ((w,i)::L)) (dm L) d c (n::ks)=((dw it (dm ((w,i)::L)) c n).1::(fA it (dm ((w,i)::L)) (dm L) d (dw it (dm ((w,i)::L)) c n).2 ks).1,(fA it (dm ((w,i)::L)) (dm L) d (dw it (dm ((w,i)::L)) c n).2 ks).2):=by
    obtain⟨k,l,x,o,kk⟩:=n;by_cases h2 : ∃a b,kk= [a,b]
    ·obtain⟨a,b,rfl⟩:=h2;have F : ¬(k=58/\d=true):=g;rw[fA,iN F]
    rw[fA];exactλk l x o p e h=>h2 ⟨p,e,by cases h;rfl⟩
   simp at u;have r:=j n ((w,i)::L) c Om hw.1 f (.inr A);have s:=t ks L w i d (c9 it c n).2 Om hw.2 q f v;rw[E,r];show(_::(fA it (dm ((w,i)::L)) (dm L) d (c9 it c n).2 ks).1,(fA it (dm ((w,i)::L)) (dm L) d (c9 it c n).2 ks).2)=_;rw[s,zC];have z:=aem it c n;obtain⟨k',l',x',o',G,H⟩ : ∃k l x o kk,(c9 it c n).1= .mk k l x o kk:=by
    cases (c9 it c n).1;exact⟨_,_,_,_,_,rfl⟩
   show _=(tC it L (rr w (46::it i) d ((c9 it c n).1::_)),_);rw[H] at z⊢;rw[rr,iN (by rw[<-show k'=n.kind from z] at g;exact g),FM];rfl
theorem ao2(N:Nat):M1 it N/\M2 it N/\M3 it N:=by
 induction N with
 | zero=>exact⟨λ_ _ _ h=>absurd h (fM _),λ_ _ _ h=>absurd h (fM _),λ_ _ _ _ _ _ h=>absurd h (fM _)⟩
 | succ N a=>exact⟨aoY it a.2.1 a.2.2,aoZ it a.1 a.2.1,ao1 it a.1 a.2.2⟩
end
section
mutual
def WE:Nd->Prop
 | .mk k _ _ _ ks=>((k=36->ks= [])/\(k=55\/k=56\/k=57->ks≠ []))/\(k=58->ks.length=2)/\WF ks
def WF:List Nd->Prop
 | []=>True
 | n::ks=>WE n/\WF ks
end
mutual
def ru (M:Nat):Nd->Prop
 | .mk _ _ x _ ks=>x.length<=M/\tD M ks
def tD (M:Nat):List Nd->Prop
 | []=>True
 | n::ks=>ru M n/\tD M ks
end
theorem QK{M:Nat} : ∀ {ks:List Nd} {n:Nd},tD M ks->n∈ks->ru M n
 | m::ks,n,h,hn=>by
   rcases List.mem_cons.1 hn with rfl | hn
   ·exact h.1
   exact QK h.2 hn
theorem ao3(own:List Bs)(t:Bs) : ∀(a:List Nd),(n8 own t a).length=a.length
 | []=>rfl
 | n::a=>by simp only[n8,cw,ao3 own t a]
mutual
def nk:Nd->Nd
 | .mk k _ _ _ ks=> .mk k 0 [] 0 (jF ks)
def jF:List Nd->List Nd
 | []=> []
 | n::ks=>nk n::jF ks
end
theorem WG : ∀ks:List Nd,(jF ks).length=ks.length
 | []=>rfl
 | n::ks=>by simp only[jF,cw,WG ks]
mutual
theorem WH : ∀n:Nd,eV (nk n)=eV n
 | .mk k l x o ks=>by simp only[nk,eV,aet ks]
theorem aet : ∀ks:List Nd,eD (jF ks)=eD ks
 | []=>rfl
 | n::ks=>by simp only[jF,eD,WH n,aet ks]
end
mutual
theorem WI : ∀n:Nd,cf (nk n)=cf n
 | .mk k l x o ks=>by simp only[nk,cf,aeu ks]
theorem aeu : ∀ks:List Nd,a8 (jF ks)=a8 ks
 | []=>rfl
 | n::ks=>by simp only[jF,a8,WI n,aeu ks]
end
mutual
theorem WJ(B:Nat) : ∀n:Nd,kQ B (nk n)↔kQ B n
 | .mk k l x o ks=>by simp only[nk,kQ,WG,aev B ks]
theorem aev(B:Nat) : ∀ks:List Nd,l8 B (jF ks)↔l8 B ks
 | []=>dS
 | n::ks=>by simp only[jF,l8,WJ B n,aev B ks]
end
mutual
theorem WL(own:List Bs)(t:Bs) : ∀n:Nd,nk (tA own t n)=nk n
 | .mk k l x o ks=>by
   rw[tA];split;·simp only[nk]
   simp only[nk];rw[QL _ t ks]
theorem QL(own:List Bs)(t:Bs) : ∀ks:List Nd,jF (n8 own t ks)=jF ks
 | []=>rfl
 | n::ks=>by simp only[n8,jF];rw[WL own t n,QL own t ks]
end
theorem ao4(own:List Bs)(t:Bs)(ks:List Nd):jF (Mw own t ks)=jF ks:=by
 match ks with
 | []=>rfl
 | [a]=>exact QL own t [a]
 | a::b::r=>simp only[Mw,jF];rw[WL,QL]
theorem WM(own:List Bs)(t:Bs) : ∀(ks:List Nd) (f:Bool),jF (rr own t f ks)=jF ks
 | [],f=>by simp[rr]
 | .mk k l x o ks::ns,f=>by
   rw[rr];split;·simp only[jF,nk];rw[ao4,WM own t ns]
   simp only[jF];rw[WL,WM own t ns]
variable (it:Nat->Bs)
mutual
theorem WN(c:Nat) : ∀n:Nd,nk (c9 it c n).1=nk n
 | .mk k l x o ks=>by
   rw[c9];split;·show nk (.mk k l x o (rr _ _ true (ft it (c+1) ks).1))=_;simp only[nk];rw[WM,WO (c+1) ks]
   show nk (.mk k l x o (ft it c ks).1)=_;simp only[nk];rw[WO c ks]
theorem WO(c:Nat) : ∀ks:List Nd,jF (ft it c ks).1=jF ks
 | []=>by rw[ft]
 | n::ks=>by
   rw[ft];show jF ((c9 it c n).1::(ft it (c9 it c n).2 ks).1)=_;simp only[jF];rw[WN c n,WO _ ks]
end
mutual
theorem QM{M M':Nat}(h:M<=M') : ∀n:Nd,ru M n->ru M' n
 | .mk k l x o ks,g=>⟨bW g.1 h,Mz h ks g.2⟩
theorem Mz{M M':Nat}(h:M<=M') : ∀ks:List Nd,tD M ks->tD M' ks
 | [],_=>trivial
 | n::ks,g=>⟨QM h n g.1,Mz h ks g.2⟩
end
mutual
theorem WP{M T:Nat}{t:Bs}(ht:t.length<=T) : ∀(n:Nd) (own:List Bs),ru M n->ru (M+T) (tA own t n)
 | .mk k l x o ks,own,g=>by
   rw[tA];split;·exact⟨by rw[cO];have:=g.1;omega,Mz Om ks g.2⟩
   exact⟨bW g.1 Om,QN ht ks _ g.2⟩
theorem QN{M T:Nat}{t:Bs}(ht:t.length<=T) : ∀(ks:List Nd) (own:List Bs),tD M ks->tD (M+T) (n8 own t ks)
 | [],_,_=>trivial
 | n::ks,own,g=>⟨WP ht n own g.1,QN ht ks own g.2⟩
end
theorem ao5{M T:Nat}{t:Bs}(ht:t.length<=T)(own:List Bs)(ks:List Nd)(g:tD M ks):tD (M+T) (Mw own t ks):=by
 match ks,g with
 | [],_=>trivial
 | [a],g=>exact QN ht [a] own g
 | a::b::r,g=>exact⟨WP ht a own g.1,QM Om b g.2.1,QN ht r own g.2.2⟩
theorem WQ{M T:Nat}{t:Bs}(ht:t.length<=T)(own:List Bs) : ∀(ks:List Nd) (f:Bool),tD M ks->tD (M+T) (rr own t f ks)
 | [],f,_=>by simp[rr,tD]
 | .mk k l x o ks::ns,f,g=>by
   rw[rr];split;·exact⟨⟨bW g.1.1 Om,ao5 ht own ks g.1.2⟩,WQ ht own ns _ g.2⟩
   exact⟨WP ht _ own g.1,WQ ht own ns _ g.2⟩
mutual
theorem aew(c:Nat) : ∀n:Nd,c<=(c9 it c n).2/\(c9 it c n).2<=c+cf n
 | .mk k l x o ks=>by
   rw[c9,cf];split;·have:=WR (c+1) ks;exact⟨by show c<=(ft it (c+1) ks).2;omega,by show(ft it (c+1) ks).2<=_;omega⟩
   have:=WR c ks;exact⟨by show c<=(ft it c ks).2;omega,by show(ft it c ks).2<=_;omega⟩
theorem WR(c:Nat) : ∀ks:List Nd,c<=(ft it c ks).2/\(ft it c ks).2<=c+a8 ks
 | []=>by rw[ft];exact⟨al _,al _⟩
 | n::ks=>by
   rw[ft,a8];have h1:=aew c n;have h2:=WR (c9 it c n).2 ks;exact⟨by show c<=(ft it (c9 it c n).2 ks).2;omega,by show(ft it (c9 it c n).2 ks).2<=_;omega⟩
end
mutual
theorem aex{M C T:Nat}(hT : ∀i,i<=C->(it i).length+1<=T) : ∀(n:Nd) (c:Nat),c+cf n<=C->ru M n->ru (M+eV n*T) (c9 it c n).1
 | .mk k l x o ks,c,hc,g=>by
   rw[cf] at hc;rw[c9,eV,NE];split;·refine⟨bW g.1 Om,?_⟩;rw[<-mP];exact WQ (by rw[cw];exact hT _ Om) _ _ _ (WS hT ks (c+1) Om g.2)
   exact⟨bW g.1 Om,Mz Om _ (WS hT ks c Om g.2)⟩
theorem WS{M C T:Nat}(hT : ∀i,i<=C->(it i).length+1<=T) : ∀(ks:List Nd) (c:Nat),c+a8 ks<=C->tD M ks->tD (M+eD ks*T) (ft it c ks).1
 | [],c,_,_=>by rw[ft];exact trivial
 | n::ks,c,hc,g=>by
   rw[a8] at hc;rw[ft,eD];have h1:=aew it c n;refine⟨QM (Nat.add_le_add_left (Ac _ (Nat.le_max_left _ _)) _) _ (aex hT n c Om g.1),Mz (Nat.add_le_add_left (Ac _ (Nat.le_max_right _ _)) _) _ (WS hT ks _ Om g.2)⟩
end
theorem ao6{k:Nat}{x:Bs}{o:Nat}{ks:List Nd}(h:eW k x o ks)(hk:k=55\/k=56\/k=57):ks≠ []:=by
 rcases hk with rfl | rfl | rfl
 all_goals
  unfold eW at h;simp at h;rintro rfl;simp at h
theorem aey : ∀n:Nd,lK n->WE n
 | .mk k l x o ks,h=>by
   refine⟨⟨λe=> ?_,λe=>ao6 h.1 e⟩,λe=> ?_,c ks h.2⟩;·subst e;exact(QI h.1).1
   subst e;obtain⟨a,b,rfl⟩:=aeq h.1;rfl
where c : ∀ks:List Nd,eX ks->WF ks
 | [],_=>trivial
 | n::ks,h=>⟨aey n h.1,c ks h.2⟩
end
section
structure Wh where
 f:Nat
 lp:Bool
 hd:Bool
 mb:Bool
abbrev Ev:=Nd×Wh
def Wh.no(h:Wh):Wh:=⟨h.f,h.lp,h.hd,false⟩
def Wh.me(h:Wh):Wh:=⟨h.f,h.lp,h.hd,true⟩
def qv (k c:Nat)(h:Wh):Wh:=if k=8\/k=50 then ⟨c,false,false,false⟩ else ⟨h.f,decide (k=6\/k=7)||h.lp,decide (k=21)||h.hd,false⟩
mutual
def bj (c:Nat)(h:Wh):Nd->List Ev×Nat
 | .mk k l x o ks=>if k=9 then (match ks with
    | [a, .mk bk bl bx bo bs]=>let r:=bj c h.no a;let s:=im r.2 h.no bs;((.mk k l x o [a, .mk bk bl bx bo bs],h)::(r.1++s.1),s.2)
    | ks=>([(.mk k l x o ks,h)],c))
   else let r:=mK (if k=8\/k=50 then c+1 else c) (qv k (c+1) h) ks;((.mk k l x o ks,h)::r.1,r.2)
def mK (c:Nat)(h:Wh):List Nd->List Ev×Nat
 | []=>([],c)
 | n::ks=>let r:=bj c h n;let s:=mK r.2 h ks;(r.1++s.1,s.2)
def im (c:Nat)(h:Wh):List Nd->List Ev×Nat
 | []=>([],c)
 | .mk k l x o (p::v::r)::ms=>if k=3 then let a:=bj c h v;let s:=im a.2 h ms;((.mk k l x o (p::v::r),h.me)::(a.1++s.1),s.2)
   else let a:=bj c h.me (.mk k l x o (p::v::r));let s:=im a.2 h ms;(a.1++s.1,s.2)
 | n::ms=>let a:=bj c h.me n;let s:=im a.2 h ms;(a.1++s.1,s.2)
end
mutual
def mL:Nd->Prop
 | .mk k _ _ _ ks=>((k=9\/k=8\/k=50->ks.length=2)/\(k=3->2<=ks.length))/\kS ks
def kS:List Nd->Prop
 | []=>True
 | n::ks=>mL n/\kS ks
end
mutual
theorem WT : ∀n:Nd,mL (nk n)↔mL n
 | .mk k l x o ks=>by simp only[nk,mL,WG,aez ks]
theorem aez : ∀ks:List Nd,kS (jF ks)↔kS ks
 | []=>dS
 | n::ks=>by simp only[jF,kS,WT n,aez ks]
end
theorem MA : ∀ {ks:List Nd} {n:Nd},kS ks->n∈ks->mL n
 | m::ks,n,h,hn=>by
   rcases List.mem_cons.1 hn with rfl | hn
   ·exact h.1
   exact MA h.2 hn
structure ah where
 nm:Bs
 par:Int
 ps:List Bs
 ls:List Bs
 cs:List Bs
 fs:List Bs
 gen:Bool
 g:List Bs
 o:List Bs
def jZ (n:Nd):Bool:=decide (n.kind=8\/n.kind=50)
def rv:ah:=⟨[109,97,105,110],-1,[],[],[],[],false,[],[]⟩
def MB (e:Ev):ah:=⟨if e.1.kind=8 then e.1.text else [108,97,109,98,100,97],e.2.f,(cC e.1.kids).kids.map Nd.text,[],[],[],false,[],[]⟩
def jG (es:List Ev):List ah:=rv::(es.filter λe=>jZ e.1).map MB
def Dy (e:Ev)(F:ah):ah:= { F with g:=if e.1.kind=17 then F.g++e.1.kids.map Nd.text else F.g,o:=if e.1.kind=18 then F.o++e.1.kids.map Nd.text else F.o,gen:=F.gen||decide (e.1.kind=60) }
def tE (f:Nat)(F:ah)(s:Bs):ah:=if s= []\/s∈F.ps\/s∈F.ls\/s∈F.g\/s∈F.o\/(f=0/\(46:UInt8)∉s) then F else { F with ls:=F.ls++ [s] }
def kT (e:Ev):List Bs:=
 if e.1.kind=3 then (if e.2.mb=true then [] else eE e.1.kids.dropLast)
 else if e.1.kind=4\/e.1.kind=7\/e.1.kind=58 then fy (cC e.1.kids)
 else if e.1.kind=19 then (if (cC e.1.kids).kind=36 then [(cC e.1.kids).text] else [])
 else if e.1.kind=8 then (if e.2.mb=true then [] else [e.1.text])
 else if e.1.kind=9\/e.1.kind=16\/e.1.kind=21 then [e.1.text]
 else []
def tF (e:Ev)(F:ah):ah:=(kT e).foldl (tE e.2.f) F
def dC (fns:List ah)(i:Nat)(u:ah->ah):List ah:=fns.modify i u
def sG (fns:List ah)(es:List Ev):List ah:=es.foldl (λfns e=>dC fns e.2.f (Dy e)) fns
def tG (fns:List ah)(es:List Ev):List ah:=es.foldl (λfns e=>dC fns e.2.f (tF e)) fns
def gG(es:List Ev):List ah:=tG (sG (jG es) es) es
def ah.binds(F:ah)(s:Bs):Prop:=s∈F.ps\/s∈F.ls
instance (F:ah) (s:Bs):Decidable (F.binds s):=inferInstanceAs (Decidable (_\/_))
def ry (fns:List ah)(s:Bs)(least:Int):Nat->Int->Bool
 | 0,_=>false
 | n+1,g=>if g<least then false else match fns[g.toNat]? with
   | none=>false
   | some G=>if G.binds s then true else if s∈G.g then false else ry fns s least n G.par
def iQ(fns:List ah)(f:Nat)(s:Bs)(least:Int):Bool:=match fns[f]? with
 | none=>false
 | some F=>ry fns s least fns.length F.par
def tH (n:Nd):Bool:=decide (n.kind=8\/n.kind=11)||(decide (n.kind=2)&&decide ((cC n.kids).kind=32))||(decide (n.kind=3)&&decide (n.kids.length=2)&&decide ((cC n.kids).kind=36))
def Dz:List Bs->Bool
 | []=>false
 | x::r=>decide (x∈r)||Dz r
def jH(fns:List ah)(e:Ev):Bool:=
 let G:=fns.getD e.2.f rv
 if (e.1.kind=10\/e.1.kind=60)/\e.2.f=0 then true
 else if (e.1.kind=12\/e.1.kind=13)/\e.2.lp=false then true
 else if e.1.kind=14/\e.1.kids= []/\e.2.hd=false then true
 else if e.1.kind=23/\Dz (e.1.kids.map Nd.text)=true then true
 else if e.1.kind=17/\(e.1.kids.any λk=>decide (k.text∈G.ps)||decide (k.text∈G.o))=true then true
 else if e.1.kind=18/\(e.1.kids.any λk=>decide (e.2.f=0)||decide (k.text∈G.ps) || !iQ fns e.2.f k.text 1)=true then true
 else e.2.mb && !tH e.1
def dv(fns:List ah)(f:Nat)(s:Bs):List ah:=dC fns f λF=>if s= []\/F.binds s\/s∈F.g\/s∈F.fs\/iQ fns f s 0=false then F else { F with fs:=F.fs++ [s] }
def iR (F:ah)(s:Bs):ah:=if F.binds s\/s∈F.fs then F else { F with fs:=F.fs++ [s] }
def rA(fns:List ah)(f g:Nat):List ah:=dC fns f λF=>((fns.getD g rv).fs).foldl iR F
mutual
def ci (st:List ah×Nat)(f:Nat)(mb:Bool):Nd->List ah×Nat
 | .mk k l x o ks=>if k=17 then st
   else if k=8\/k=50 then (match ks with
    | [p,b]=>let r:=ci (if k=8/\mb=false then dv st.1 f x else st.1,st.2+1) (st.2+1) false b;(rA r.1 f (st.2+1),r.2)
    | ks=>st)
   else if k=9 then (match ks with
    | [a, .mk bk bl bx bo bs]=>iU (ci (dv st.1 f x,st.2) f false a) f bs
    | ks=>st)
   else lM (if k=36\/k=16\/k=21 then (dv st.1 f x,st.2) else st) f ks
def lM (st:List ah×Nat)(f:Nat):List Nd->List ah×Nat
 | []=>st
 | n::ks=>lM (ci st f false n) f ks
def iU (st:List ah×Nat)(f:Nat):List Nd->List ah×Nat
 | []=>st
 | .mk k l x o (p::v::r)::ms=>if k=3 then iU (ci st f false v) f ms else iU (ci st f true (.mk k l x o (p::v::r))) f ms
 | n::ms=>iU (ci st f true n) f ms
end
def uC(fns:List ah)(f:Nat):List Bs:=(fns.filter λG=>decide (G.par=(f:Int))).flatMap ah.fs
def nu (tk:List Bs):List Bs->List Bs->List Bs
 | [],cs=>cs
 | s::r,cs=>nu tk r (if s∈tk/\s∉cs then cs++ [s] else cs)
def ku (fns:List ah)(f:Nat)(F:ah):ah:= { F with cs:=nu (uC fns f) (F.ps++F.ls) [] }
def yd (t:Nd):Except Int (List ah):=
 let es:=(bj 0 ⟨0,false,false,false⟩ t).1
 let fns:=gG es
 match es.find? (jH fns) with
 | some e=> .error e.1.line
 | none=>let fr:=(ci (fns,0) 0 false t).1;.ok (fr.mapIdx λf F=>ku fr f F)
end
section
open Go Go.RowKit
theorem ao7{T:bZ}{a t:bH}{fr:Fr}{H:CH}{Q:bq->Fr->CH->Prop}(M:bq->Fr->CH->Prop)(h1:cM T a fr H M)(h2 : ∀x fr' H',M x fr' H'->CT T t Q x fr' H'):cM T (.seq a t) fr H Q:=by
 rw[eF];exact h1.mono h2
def jT (x:Bs):List ae:= [.string (tx x)]
theorem FN : ∀x:Bs,(jT x).length=1/\(jT x).all bu=true:=λ_=>⟨rfl,rfl⟩
theorem IK : ∀xs:List Bs,xs.flatMap jT=xs.map λx=>Value.string (tx x)
 | []=>rfl
 | a::r=>by rw[List.flatMap_cons,IK];rfl
def NL (K:CH)(v:ae)(xs:List Bs):Prop:=∃q c,v= .slice q xs.length c/\gU 1 (λ_ cs x=>cs= [.string (tx x)]) K q c xs
theorem NL.nil{K:CH}:NL K (.slice none 0 0) []:=⟨none,0,rfl, .inl ⟨rfl,rfl, .inl rfl⟩⟩
theorem NL.ext{K K':CH}{v:ae}{xs:List Bs}(h:NL K v xs)(hx:ag K K'):NL K' v xs:=by
 obtain⟨q,c,rfl,h⟩:=h;exact⟨q,c,rfl,gU.jN (λ_ _ _ _ _ h=>h) hx h⟩
theorem NL.len{K:CH}{v:ae}{xs:List Bs}(h:NL K v xs) : ∃q c,v= .slice q xs.length c/\xs.length<=c/\c<=maxLen:=by
 obtain⟨q,c,rfl,h⟩:=h;rcases h with ⟨rfl,rfl,_⟩ | ⟨l,o,os,e,kd,rfl,_,h2,h3,_⟩
 ·exact⟨q,0,rfl,al _,cx _⟩
 exact⟨_,c,rfl,h2,h3⟩
theorem NL.cell{K:CH}{v:ae}{xs:List Bs}(h:NL K v xs){i:Nat}(hi:i<xs.length) : ∃l o c os e kd,v= .slice (some ⟨l,o,none⟩) xs.length c/\K.ob l= .cells os e kd/\o+xs.length<=os.length/\os[o+i]? = some (.string (tx xs[i])):=by
 obtain⟨q,c,rfl,h⟩:=h;rcases h with ⟨rfl,_⟩ | ⟨l,o,os,e,kd,rfl,h1,h2,h3,h4,h5,a⟩
 ·cases hi
 have g:=a i hi;simp only[iB] at g h5;rw[rQ Om] at g;simp only[Ai,xd,List.cons.injEq,and_true] at g;exact⟨l,o,c,os,e,kd,rfl,h4,h5,by rw[bM Om,g]⟩
abbrev DA(A K:CH)(v:ae)(xs:List Bs):Prop:=gP A 9 1 jT K v xs
theorem DA.nl{A K:CH}{v:ae}{xs:List Bs}(h:DA A K v xs)(a:xs.length<=9223372036854775807):NL K v xs:=by
 rcases h with ⟨rfl,rfl⟩ | ⟨b,kd,rfl,h1,h2,h3,h4⟩
 ·exact NL.nil
 rw[IK] at h3;refine⟨_,_,rfl, .inr ⟨b,0,_,_,_,rfl,h2,al _,by rw[gZ];omega,h3,Sm,λi hi=> ?_⟩⟩;rw[bJ,iB,rQ (by simpa using hi)];simp
structure GS(K K':CH)(v v':ae):Prop where
 nx:K.nx<=K'.nx
 ob : ∀b,b<K.nx->ik v b->K'.ob b=K.ob b
 off : ∀b,b<K.nx->ik v b->ik v' b
theorem GS.trans{K K' a:CH}{v v' v2:ae}(h:GS K K' v v')(g:GS K' a v' v2):GS K a v v2:=⟨bW h.nx g.nx,λb hb ho=>(g.ob b (cj hb h.nx) (h.off b hb ho)).trans (h.ob b hb ho),λb hb ho=>g.off b (cj hb h.nx) (h.off b hb ho)⟩
theorem GS.ext{K K':CH}{v:ae}(h:ag K K'):GS K K' v v:=⟨h.nx,λb hb _=>h.ob b hb,λ_ _ h=>h⟩
theorem gP.nx{α:Type}{A:CH}{e sz:Nat}{f:α->List ae}{K K':CH}{v:ae}{xs:List α}(h:gP A e sz f K v xs)(hn:K.nx<=K'.nx)(hx : ∀b,A.nx<=b->b<K.nx->(∃n c,v= .slice (some ⟨b,0,none⟩) n c)->K'.ob b=K.ob b):gP A e sz f K' v xs:=by
 rcases h with h | ⟨b,kd,rfl,h1,h2,h3,h4⟩
 ·exact .inl h
 exact .inr ⟨b,kd,rfl,h1,Om,(hx b h1 h2 ⟨_,_,rfl⟩).trans h3,h4⟩
theorem ao8{A K:CH}{v:ae}{xs:List Bs}{y:Bs}(hg:DA A K v xs)(hA:A.nx<=K.nx)(hb:xs.length+1<=4398046511104){us:List ae}(hu:us=jT y){Q:ae->CH->Prop}(k : ∀v' K',DA A K' v' (xs++ [y])->GS K K' v v'->Q v' K'):CU (p9 9 1 16 v us 1 K) Q:=
 Ds FN hg Om Om hu λK' a f d=>k _ _ (.inr ⟨K.nx, .gr,Sm,hA,Om,a,rfl⟩) ⟨Om,d,λb hb _ o n c e=>by cases e;omega⟩
theorem aeA{cs:List ae}{j:Nat}{a0 a a2 a3 a4:ae}(h:(cs.drop j).take 5= [a0,a,a2,a3,a4]):cs[j]? = some a0/\cs[j+1]? = some a/\cs[j+2]? = some a2/\cs[j+3]? = some a3/\cs[j+4]? = some a4:=by
 have e : ∀k,k<5->cs[j+k]? = ([a0,a,a2,a3,a4]:List ae)[k]? :=λk hk=>by
  rw[<-h,List.getElem?_take_of_lt hk,List.getElem?_drop]
 exact⟨e 0 Om,e 1 Om,e 2 Om,e 3 Om,e 4 Om⟩
theorem DA.aeB{A K:CH}{v:ae}{xs:List Bs}(h:DA A K v xs){b:Nat}(hb:b<A.nx):ik v b:=λo n c e=>by
 rcases h with ⟨_,g⟩ | ⟨a,d,g,g1,g2,_⟩
 ·rw[g] at e;cases e
 rw[g] at e;cases e;omega
theorem aeC{T:bZ}{a b d t:bH}{fr:Fr}{H:CH}{Q:bq->Fr->CH->Prop}(M:bq->Fr->CH->Prop)(h1:cM T (.seq a (.seq b d)) fr H M)(h2 : ∀x fr' H',M x fr' H'->CT T t Q x fr' H'):cM T (.seq a (.seq b (.seq d t))) fr H Q:=by
 rw[eF] at h1⊢
 refine h1.mono λx fr' H' h=> ?_;cases x with
 | normal=>
   rw[dy] at h⊢;exact QB M h h2
 | ret=>exact h2 .ret fr' H' h
 | exit i=>exact h2 (.exit i) fr' H' h
theorem ao9{T:bZ}{a b d e t:bH}{fr:Fr}{H:CH}{Q:bq->Fr->CH->Prop}(M:bq->Fr->CH->Prop)(h1:cM T (.seq a (.seq b (.seq d e))) fr H M)(h2 : ∀x fr' H',M x fr' H'->CT T t Q x fr' H'):cM T (.seq a (.seq b (.seq d (.seq e t)))) fr H Q:=by
 rw[eF] at h1⊢
 refine h1.mono λx fr' H' h=> ?_;cases x with
 | normal=>
   rw[dy] at h⊢;exact aeC M h h2
 | ret=>exact h2 .ret fr' H' h
 | exit i=>exact h2 (.exit i) fr' H' h
theorem FO{K:CH}{A:Nat->Prop}{n t:Nd}{os:List ae}{i:Nat}(h:b9 K A (dr n) os)(hA : ∀b,A b->b<K.nx)(hi:n.kids[i]? = some t):aR gE 28 [.agg os.toArray, .int .i64 (i:Nat)] K λv K'=>∃os',v= .agg os'.toArray/\ag K K'/\b9 K A (dr t) os':=by
 obtain⟨k,l,x,o,ks⟩:=n;obtain⟨q,rfl,d⟩:=ij h;obtain⟨u,e,w,y,g⟩:=mI d;cases e;have hi:ks[i]? = some t:=hi;obtain⟨z,_⟩:=List.getElem?_eq_some_iff.1 hi;obtain⟨b,cs,e,kd,rfl,j,m,B,C,h5,hs⟩:=g i t hi;have hb:=hA b j;obtain⟨os',a⟩ : ∃os',(cs.drop (i*5)).take 5=os':=⟨_,rfl⟩;rw[a] at hs;obtain⟨k',l',x',o',D,E,G,c⟩:=Dr hs;have r:os'.length=5:=by rw[c];rfl
 have s:os'.all bu=true:=by rw[c];rfl
 refine du Rl Kr (aV ?_);refine rn (iD @m @a @r @s @bJ) ?_;refine⟨os',by rw[qD Om],by(repeat (first | assumption | exact ag.refl _ | (refine ag.set ?_ Fo _) | (refine ag.new ?_ _))),hs⟩
def rC (h:Wh):List ae:= [.int .i64 (h.f:Nat), .bool h.lp, .bool h.hd, .bool h.mb]
structure VX(X W W':Nat->Prop)(K K':CH):Prop where
 nx:K.nx<=K'.nx
 ob : ∀b,b<K.nx->¬W b->¬X b->K'.ob b=K.ob b
 w : ∀b,W' b->W b\/K.nx<=b
theorem VX.trans{X W a c:Nat->Prop}{K d e:CH}(h:VX X W a K d)(g:VX X a c d e):VX X W c K e:=
 ⟨bW h.nx g.nx,λb hb hw hx=>(g.ob b (cj hb h.nx) (λh1=>(h.w b h1).elim hw λh2=>by omega) hx).trans (h.ob b hb hw hx),λb hb=>(g.w b hb).elim (h.w b) λh1=> .inr (bW h.nx h1)⟩
theorem VX.ext{X W:Nat->Prop}{K K':CH}(h:ag K K'):VX X W W K K':=⟨h.nx,λb hb _ _=>h.ob b hb,λb hb=> .inl hb⟩
theorem VX.set{X W a:Nat->Prop}{K c:CH}(h:VX X W a K c){p:Nat}(hp:K.nx<=p\/X p)(o:cy):VX X W a K (c.set p o):=
 ⟨h.nx,λb hb hw hx=>(cv (λe=>by subst e;rcases hp with h | h;exact absurd hb Om;exact hx h)).trans (h.ob b hb hw hx),h.w⟩
theorem VX.up{X Y W a:Nat->Prop}{K c:CH}(h:VX X W a K c)(hx : ∀b,X b->Y b):VX Y W a K c:=⟨h.nx,λb hb hw d=>h.ob b hb hw λh=>d (hx b h),h.w⟩
abbrev n9:Nat->Prop:=λ_=>False
abbrev JT:=List Ev->CH->(Nat->Prop)->Prop
structure zD(J:JT):Prop where
 st : ∀pre K K' W,J pre K W->K.nx<=K'.nx->(∀b,W b->K'.ob b=K.ob b)->J pre K' W
 lt : ∀pre K W,J pre K W->∀b,W b->b<K.nx
theorem zD.hx{J:JT}(a:zD J){pre:List Ev}{K K':CH}{W:Nat->Prop}(h:J pre K W)(hx:ag K K'):J pre K' W:=a.st pre K K' W h hx.nx λb hb=>hx.ob b (a.lt pre K W h b hb)
theorem zD.set{J:JT}(a:zD J){pre:List Ev}{K:CH}{W:Nat->Prop}(h:J pre K W){p:Nat}(hp : ¬W p)(o:cy):J pre (K.set p o) W:=a.st pre K _ W h (al _) λb hb=>cv λe=>hp (e▸hb)
def DB(fs:aU)(cap:List ae)(E:List Ev)(J:JT):Prop:=∀(pre:List Ev) (e:Ev) (rest:List Ev) (K:CH) (W A:Nat->Prop) (os:List ae),pre++e::rest=E->J pre K W->b9 K A (dr e.1) os->(∀b,A b->b<K.nx/\¬W b)->aR gE fs (.agg os.toArray:: .agg (rC e.2).toArray::cap) K λ_ K'=>∃W',J (pre++ [e]) K' W'/\VX n9 W W' K K'
structure VK(fs:aU)(cap:List ae)(bs bc bw:Nat)(K:CH)(W:Nat->Prop)(c:Nat):Prop where
 s : ∃e,K.ob bs= .cells [.func (.func fs) #[] cap.toArray] e .ex
 w : ∃e,K.ob bw= .cells [.func (.func 58) #[] #[pN bs,pN bc,pN bw]] e .ex
 c:K.ob bc= .cells [.int .i64 (c:Nat)] 3 .ex
 lt:bs<K.nx/\bw<K.nx/\bc<K.nx
 nw : ¬W bs/\¬W bw/\¬W bc
theorem VK.ex{fs:aU}{cap:List ae}{bs bc bw:Nat}{K K':CH}{W W':Nat->Prop}{c c':Nat}(h:VK fs cap bs bc bw K W c)(hx:VX (· = bc) W W' K K')(hc:K'.ob bc= .cells [.int .i64 (c':Nat)] 3 .ex):VK fs cap bs bc bw K' W' c':=by
 obtain⟨a,h1⟩:=h.s;obtain⟨b,h2⟩:=h.w;obtain⟨d,f,l3⟩:=h.lt;obtain⟨n1,n2,n3⟩:=h.nw;have hn:=hx.nx;have d1:bs≠bc:=λe=>by rw[e,h.c] at h1;cases h1
 have d2:bw≠bc:=λe=>by rw[e,h.c] at h2;cases h2
 exact⟨⟨a,(hx.ob _ d n1 d1).trans h1⟩,⟨b,(hx.ob _ f n2 d2).trans h2⟩,hc,⟨Om,Om,Om⟩,⟨λw=>(hx.w _ w).elim n1 λh=>by omega,λw=>(hx.w _ w).elim n2 λh=>by omega,λw=>(hx.w _ w).elim n3 λh=>by omega⟩⟩
theorem VK.hx{fs:aU}{cap:List ae}{bs bc bw:Nat}{K K':CH}{W:Nat->Prop}{c:Nat}(h:VK fs cap bs bc bw K W c)(hx:ag K K'):VK fs cap bs bc bw K' W c:=h.ex (.ext hx) ((hx.ob _ h.lt.2.2).trans h.c)
def VQ (J:JT)(bc:Nat)(pre:List Ev)(W:Nat->Prop)(K:CH)(r:List Ev×Nat)(K':CH):Prop:=∃W',J (pre++r.1) K' W'/\VX (· = bc) W W' K K'/\K'.ob bc= .cells [.int .i64 (r.2:Nat)] 3 .ex
def WU(fs:aU)(cap:List ae)(E:List Ev)(J:JT)(bs bc bw N:Nat):Prop:=∀(t:Nd),eV t<=N->mL t->∀(pre:List Ev) (c:Nat) (h:Wh) (K:CH) (W A:Nat->Prop) (os:List ae),b9 K A (dr t) os->(∀b,A b->b<K.nx/\¬W b/\b≠bc)->VK fs cap bs bc bw K W c->J pre K W->(∃rest,pre++(bj c h t).1++rest=E)->c+cf t<=2305843009213693952->aR gE 58 [.agg os.toArray, .agg (rC h).toArray,pN bs,pN bc,pN bw] K λ_ K'=>VQ J bc pre W K (bj c h t) K'
abbrev MC(h:Wh):cy:= .cells [.int .i64 (h.f:Nat), .bool h.lp, .bool h.hd, .bool h.mb] 69 .ex
abbrev WV(t:Nd)(q:Option Addr):cy:= .cells [.int .i64 (t.kind:Nat), .int .i64 t.line, .string (tx t.text), .int .i64 (t.op:Nat), .slice q t.kids.length t.kids.length] 26 .ex
def VM (J:JT)(bs bc bw:Nat)(pre:List Ev)(c:Nat)(h:Wh)(K:CH)(W:Nat->Prop)(t:Nd)(q:Option Addr)(x:bq)(fr:Fr)(H:CH):Prop:=
 (x= .normal/\fr 2=pN bs/\fr 3=pN bc/\fr 4=pN bw/\fr 5=pN K.nx/\fr 6=pN (K.nx+1)/\t.kind≠9/\∃a,J (pre++ [(t,h)]) H a/\VX (· = bc) W a K H/\K.nx+2<=H.nx/\(∀b,a b->W b\/K.nx+2<=b)/\H.ob bc= .cells [.int .i64 ((if t.kind=8\/t.kind=50 then c+1 else c:Nat):Int)] 3 .ex/\H.ob K.nx=WV t q/\H.ob (K.nx+1)=MC (qv t.kind (c+1) h))
 \/(x= .ret/\A8 [] (λ_ K'=>VQ J bc pre W K (bj c h t) K') x fr H)
def VkJ (J:JT)(bc C:Nat)(pre:List Ev)(c:Nat)(h:Wh)(K:CH)(W:Nat->Prop)(ks:List Nd)(n:Nat)(v:ae)(b:CH):Prop:=∃(i a:Nat) (es:List Ev) (d:Nat->Prop),n=ks.length-i/\i<=ks.length/\v= .int .i64 (i:Nat)/\J (pre++es) b d/\VX (· = bc) W d K b/\b.ob bc= .cells [.int .i64 (a:Nat)] 3 .ex/\a+a8 (ks.drop i)<=C/\mK c h ks=(es++(mK a h (ks.drop i)).1,(mK a h (ks.drop i)).2)
def VcJ (J:JT)(bc C:Nat)(pre:List Ev)(c:Nat)(h:Wh)(K:CH)(W:Nat->Prop)(ks:List Nd)(n:Nat)(v:ae)(b:CH):Prop:=∃(i a:Nat) (es:List Ev) (d:Nat->Prop),n=ks.length-i/\i<=ks.length/\v= .int .i64 (i:Nat)/\J (pre++es) b d/\VX (· = bc) W d K b/\b.ob bc= .cells [.int .i64 (a:Nat)] 3 .ex/\a+a8 (ks.drop i)<=C/\im c h ks=(es++(im a h (ks.drop i)).1,(im a h (ks.drop i)).2)
theorem zE{c k:Nat}{h:Wh}{l:Int}{x:Bs}{o:Nat}{ks:List Nd}(hk:k≠9):bj c h (.mk k l x o ks)=((.mk k l x o ks,h)::(mK (if k=8\/k=50 then c+1 else c) (qv k (c+1) h) ks).1,(mK (if k=8\/k=50 then c+1 else c) (qv k (c+1) h) ks).2):=by
 by_cases hh : ∃a bk bl bx bo bs,ks= [a, .mk bk bl bx bo bs]
 ·obtain⟨a,bk,bl,bx,bo,bs,rfl⟩:=hh;rw[bj,iN hk]
 rw[bj,iN hk];exactλa bk bl bx bo bs e=>hh ⟨a,bk,bl,bx,bo,bs,e⟩
theorem DE{c:Nat}{h:Wh}{l:Int}{x:Bs}{o:Nat}{a:Nd}{bk:Nat}{bl:Int}{bx:Bs}{bo:Nat}{bs:List Nd}:bj c h (.mk 9 l x o [a, .mk bk bl bx bo bs])=((.mk 9 l x o [a, .mk bk bl bx bo bs],h)::((bj c h.no a).1++(im (bj c h.no a).2 h.no bs).1),(im (bj c h.no a).2 h.no bs).2):=by
 rw[bj,iP rfl]
theorem zF{c:Nat}{h:Wh}{n:Nd}{ks:List Nd}:mK c h (n::ks)=((bj c h n).1++(mK (bj c h n).2 h ks).1,(mK (bj c h n).2 h ks).2):=by rw[mK]
theorem DF{c:Nat}{h:Wh}:mK c h []=([],c):=by rw[mK]
theorem MD{c:Nat}{h:Wh}:im c h []=([],c):=by rw[im]
theorem ME{c:Nat}{h:Wh}{l:Int}{x:Bs}{o:Nat}{p v:Nd}{r ms:List Nd}:im c h (.mk 3 l x o (p::v::r)::ms)=((.mk 3 l x o (p::v::r),h.me)::((bj c h v).1++(im (bj c h v).2 h ms).1),(im (bj c h v).2 h ms).2):=by rw[im,iP rfl]
theorem MF{c:Nat}{h:Wh}{n:Nd}{ms:List Nd}(hn : ¬(n.kind=3/\2<=n.kids.length)):im c h (n::ms)=((bj c h.me n).1++(im (bj c h.me n).2 h ms).1,(im (bj c h.me n).2 h ms).2):=by
 obtain⟨k,l,x,o,ks⟩:=n;match ks with
 | []=>rw[im];exactλk l x o p v r e=>by cases e
 | [p]=>rw[im];exactλk l x o p v r e=>by cases e
 | p::v::r=>
   have hk : ¬k=3:=λe=>hn ⟨e,by show 2<=r.length+1+1;omega⟩;rw[im,iN hk]
theorem ao'(N:Nat):(∀(t:Nd) (c:Nat) (h:Wh),dR t<N->c<=(bj c h t).2/\(bj c h t).2<=c+cf t)/\(∀(ks:List Nd) (c:Nat) (h:Wh),dR ks<N->c<=(mK c h ks).2/\(mK c h ks).2<=c+a8 ks)/\(∀(ks:List Nd) (c:Nat) (h:Wh),dR ks<N->c<=(im c h ks).2/\(im c h ks).2<=c+a8 ks):=by
 induction N with
 | zero=>exact⟨λ_ _ _ h=>absurd h (fM _),λ_ _ _ h=>absurd h (fM _),λ_ _ _ h=>absurd h (fM _)⟩
 | succ N d=>
   obtain⟨i1,i2,i3⟩:=d;refine⟨λt c h b=> ?_,λks c h b=> ?_,λks c h b=> ?_⟩
   ·obtain⟨k,l,x,o,ks⟩:=t;by_cases hk:k=9
    ·subst hk;by_cases hh : ∃a bk bl bx bo bs,ks= [a, .mk bk bl bx bo bs]
     ·obtain⟨a,bk,bl,bx,bo,bs,rfl⟩:=hh;rw[DE];simp at b;have h1:=i1 a c h.no Om;have h2:=i3 bs (bj c h.no a).2 h.no Om;simp only[cf,a8];omega
     rw[bj,iP rfl];·exact⟨al _,NH _ _⟩
     exactλa bk bl bx bo bs e=>hh ⟨a,bk,bl,bx,bo,bs,e⟩
    rw[zE hk];simp at b;have h1:=i2 ks (if k=8\/k=50 then c+1 else c) (qv k (c+1) h) Om;rw[cf];revert h1
    split<;>(intro h1;show _<=_/\_<=_;omega)
   ·cases ks with
    | nil=>rw[DF];exact⟨al _,NH _ _⟩
    | cons n ks=>
      simp at b;rw[zF,a8];have h1:=i1 n c h Om;have h2:=i2 ks (bj c h n).2 h Om;show _<=_/\_<=_;omega
   cases ks with
   | nil=>rw[MD];exact⟨al _,NH _ _⟩
   | cons n ms=>
     simp at b;rw[a8];by_cases hn:n.kind=3/\2<=n.kids.length
     ·obtain⟨k,l,x,o,ks⟩:=n;obtain⟨rfl,h2⟩:k=3/\2<=ks.length:=hn;match ks,h2 with
      | p::v::r,_=>
        simp at b;rw[ME];have h1:=i1 v c h Om;have h2:=i3 ms (bj c h v).2 h Om;simp only[cf,a8];omega
     rw[MF hn];have h1:=i1 n c h.me Om;have h2:=i3 ms (bj c h.me n).2 h Om;show _<=_/\_<=_;omega
theorem zG(t:Nd)(c:Nat)(h:Wh):c<=(bj c h t).2/\(bj c h t).2<=c+cf t:=(ao' (dR t+1)).1 t c h (iC _)
theorem apa(t:Nd)(c:Nat)(h:Wh) : ∃tl,(bj c h t).1=(t,h)::tl:=by
 obtain⟨k,l,x,o,ks⟩:=t;by_cases hk:k=9
 ·subst hk;by_cases hh : ∃a bk bl bx bo bs,ks= [a, .mk bk bl bx bo bs]
  ·obtain⟨a,bk,bl,bx,bo,bs,rfl⟩:=hh;rw[DE];exact⟨_,rfl⟩
  rw[bj,iP rfl];·exact⟨_,rfl⟩
  exactλa bk bl bx bo bs e=>hh ⟨a,bk,bl,bx,bo,bs,e⟩
 rw[zE hk];exact⟨_,rfl⟩
theorem apb{fs:aU}{cap:List ae}{E:List Ev}{J:JT}{bs bc bw N:Nat}(D:zD J)(FP:DB fs cap E J)(ih:WU fs cap E J bs bc bw N):WU fs cap E J bs bc bw (N+1):=by
 rintro⟨tk,ln,x,o,ks⟩ hN cR pre c h K W A os hs hA hV hj hG hC;obtain⟨q,rfl,eT⟩:=ij hs;obtain⟨q',e,fO,nK,fY⟩:=mI eT;cases e;rw[gZ] at fO;have rD:=D.lt pre K W hj;obtain⟨l1,l2,l3⟩:=hV.lt;obtain⟨n1,n2,n3⟩:=hV.nw;have e0:ag K ((K.new (WV (.mk tk ln x o ks) q)).new (MC h)):=((ag.refl K).new _).new _;have hV0:=hV.hx e0;obtain⟨ebs,av⟩:=hV.s;obtain⟨ebw,obw⟩:=hV.w;have eM:c+(a8 ks+1)<=2305843009213693952:=hC;unfold rC;refine du Rl Kr (aV ?_);refine ao9 (VM J bs bc bw pre c h K W (.mk tk ln x o ks) q) ?_ ?_
 ·obtain⟨T,hE0⟩:=hG;obtain⟨tl0,apc⟩:=apa (.mk tk ln x o ks) c h;have dk:=FP pre (.mk tk ln x o ks,h) (tl0++T) ((K.new (WV (.mk tk ln x o ks) q)).new (MC h)) W A _ (by rw[<-hE0,apc];simp) (D.hx hj e0) (hs.mv λb hb=>⟨hb,e0.ob b (hA b hb).1⟩) (λb hb=>⟨by have:=(hA b hb).1;show b<K.nx+1+1;omega,(hA b hb).2.1⟩);unfold rC at dk;refine rn @av ?_;refine dk.mono λv M ⟨j,cW,Y⟩=> ?_;have eG:K.nx+1+1<=M.nx:=Y.nx;have C:M.ob K.nx= .cells [.int .i64 (tk:Nat), .int .i64 ln, .string (tx x), .int .i64 (o:Nat), .slice q ks.length ks.length] 26 .ex:=(Y.ob K.nx (by show K.nx<K.nx+1+1;omega) (λw=>by have:=rD _ w;omega) id).trans ((bQ (by show K.nx≠K.nx+1;omega)).trans jf);have G:M.ob (K.nx+1)= .cells [.int .i64 (h.f:Nat), .bool h.lp, .bool h.hd, .bool h.mb] 69 .ex:=(Y.ob (K.nx+1) (by show K.nx+1<K.nx+1+1;omega) (λw=>by have:=rD _ w;omega) id).trans (jf (K:=K.new _));have BN:VX (· = bc) W j K M:=(VX.ext e0).trans (Y.up λ_ h=>h.elim);have V : ∀b,j b->W b\/K.nx+2<=b:=Y.w;have Z:M.ob bc= .cells [.int .i64 (c:Nat)] 3 .ex:=(Y.ob bc hV0.lt.2.2 n3 id).trans hV0.c;have X : ∀b,j b->b≠K.nx/\b≠K.nx+1/\b≠bc:=λb hb=>by
   rcases V b hb with h | h
   ·have:=rD b h;exact⟨Om,Om,λe=>n3 (e▸h)⟩
   exact⟨Om,Om,Om⟩
  have y:K.nx≠bc:=by omega
  have t:K.nx+1≠bc:=by omega
  by_cases wL:tk=9
  ·subst wL;obtain⟨a,bk,bl,bx,bo,ms,rfl⟩ : ∃a bk bl bx bo ms,ks= [a, .mk bk bl bx bo ms]:=by
    have h2:ks.length=2:=cR.1.1 (.inl rfl);match ks,h2 with
    | [a, .mk bk bl bx bo ms],_=>exact⟨a,bk,bl,bx,bo,ms,rfl⟩
   have hE:pre++(bj c h (.mk 9 ln x o [a, .mk bk bl bx bo ms])).1++T=E:=hE0;rw[DE] at hE;obtain⟨O,FQ⟩ : ∃O,M.set (K.nx+1) (.cells [.int .i64 (h.f:Nat), .bool h.lp, .bool h.hd, .bool false] 69 .ex)=O:=⟨_,rfl⟩;have hna:O.nx=M.nx:=by rw[<-FQ];rfl
   have hja:J (pre++ [(.mk 9 ln x o [a, .mk bk bl bx bo ms],h)]) O j:=FQ▸D.set cW (λw=>(X _ w).2.1 rfl) _;have WW:VX (· = bc) W j K O:=FQ▸BN.set (.inl Om) _;have oa1:O.ob K.nx= .cells [.int .i64 ((9:Nat):Int), .int .i64 ln, .string (tx x), .int .i64 (o:Nat), .slice q [a,Nd.mk bk bl bx bo ms].length [a,Nd.mk bk bl bx bo ms].length] 26 .ex:=by rw[<-FQ,cv Om];exact C
   have WX:O.ob (K.nx+1)= .cells [.int .i64 (h.f:Nat), .bool h.lp, .bool h.hd, .bool false] 69 .ex:=by rw[<-FQ,bP,iP rfl]
   have oac:O.ob bc= .cells [.int .i64 (c:Nat)] 3 .ex:=by rw[<-FQ,cv Om];exact Z
   have hVa:VK fs cap bs bc bw O j c:=hV.ex WW oac;have apd : ∀b,A b->O.ob b=K.ob b:=λb hb=>WW.ob b (hA b hb).1 (hA b hb).2.1 (hA b hb).2.2;have hAW : ∀b,A b->¬j b:=λb hb w=>(V b w).elim (hA b hb).2.1 λg=>by have:=(hA b hb).1;omega
   have WY:=FO (K:=O) (A:=A) (i:=0) (hs.mv λb hb=>⟨hb,apd b hb⟩) (λb hb=>by have:=(hA b hb).1;omega) rfl;have acR:c+(cf a+(a8 ms+1)+1)<=2305843009213693952:=by simp only[cf,a8] at eM;omega
   refine rn (an @C @G) ?_;rw[FQ];refine WY.mono λv2 K2 ⟨oW,e2,dt,iH⟩=> ?_;subst e2;have l7:=dt.nx;have WZ:=hVa.hx dt;obtain⟨ew2,sH⟩:=WZ.w;obtain⟨ew1,vG⟩:=hVa.w;have vB:=(dt.ob K.nx Om).trans oa1;have IG:=(dt.ob (K.nx+1) Om).trans WX;have oa:=WW.trans (VX.ext dt);have Hy:=ih a (by simp only[eV,eD] at hN;omega) cR.2.1 (pre++ [(.mk 9 ln x o [a, .mk bk bl bx bo ms],h)]) c h.no K2 j A oW (iH.mv λb hb=>⟨hb,dt.ob b (by have:=(hA b hb).1;omega)⟩) (λb hb=>⟨by have:=(hA b hb).1;omega,hAW b hb,(hA b hb).2.2⟩) WZ (D.hx hja dt) ⟨(im (bj c h.no a).2 h.no ms).1++T,by rw[<-hE];simp⟩ Om;unfold rC at Hy;refine rn (gy @sH @vG @IG @WX) ?_;refine Hy.mono λv3 K3 ⟨W3,hj3,tI,IL⟩=> ?_;have uA:=tI.nx;have QO : ∀b,W3 b->W b\/K.nx+2<=b:=λb hb=>(tI.w b hb).elim (V b) λg=> .inr Om;have hV3:=WZ.ex tI IL;obtain⟨ew3,DG⟩:=hV3.w;have rE:K3.ob K.nx= .cells [.int .i64 ((9:Nat):Int), .int .i64 ln, .string (tx x), .int .i64 (o:Nat), .slice q [a,Nd.mk bk bl bx bo ms].length [a,Nd.mk bk bl bx bo ms].length] 26 .ex:=(tI.ob K.nx Om (λw=>(X _ w).1 rfl) y).trans vB;have zI:K3.ob (K.nx+1)= .cells [.int .i64 (h.f:Nat), .bool h.lp, .bool h.hd, .bool false] 69 .ex:=(tI.ob (K.nx+1) Om (λw=>(X _ w).2.1 rfl) t).trans IG;have MG:=oa.trans tI;have FS : ∀b,A b->K3.ob b=K.ob b:=λb hb=>MG.ob b (hA b hb).1 (hA b hb).2.1 (hA b hb).2.2;have W9:=FO (K:=K3) (A:=A) (i:=1) (hs.mv λb hb=>⟨hb,FS b hb⟩) (λb hb=>by have:=(hA b hb).1;omega) rfl;refine rn (rR @sH @vG @IG @WX @rE @zI) ?_;refine W9.mono λv4 K4 ⟨Wt,e4,ef,vD⟩=> ?_;subst e4;obtain⟨q4,rfl,Xa⟩:=ij vD;obtain⟨_,e5,Xb,_,Xc⟩:=mI Xa;cases e5;rw[gZ] at Xb;have BI:=ef.nx;have Hx:=zG a c h.no;refine aC ?_;refine fC (λn fr d=>VcJ J bc 2305843009213693952 (pre++ [(.mk 9 ln x o [a, .mk bk bl bx bo ms],h)]++(bj c h.no a).1) (bj c h.no a).2 h.no K4 W3 ms n (fr 44) d) (n:=ms.length) ⟨0,(bj c h.no a).2,[],W3,rfl,cx _,by(refine aC ?_;all_goals rfl),by rw[jz];exact D.hx hj3 ef, .ext (ag.refl _),(ef.ob bc Om).trans IL,by rw[ly];omega,rfl⟩ ?_;rintro n td d ⟨i,c5,es,P,rfl,hi,f44,DH,I,zx,nj,z⟩ Q;have zy:=I.nx;have zJ:=(MG.trans (VX.ext ef)).trans I;have hW5 : ∀b,P b->W b\/K.nx+2<=b:=λb hb=>(I.w b hb).elim (QO b) λg=> .inr Om
   have QP : ∀b,P b->b≠K.nx/\b≠K.nx+1/\b≠bc/\b<d.nx:=λb hb=>by
    have aN:=D.lt _ _ _ DH b hb;rcases hW5 b hb with h | h
    ·have:=rD b h;exact⟨Om,Om,λe=>n3 (e▸h),aN⟩
    exact⟨Om,Om,Om,aN⟩
   have uk : ∀b,W3 b->b≠K.nx/\b≠K.nx+1:=λb hb=>by
    rcases QO b hb with h | h
    ·have:=rD b h;exact⟨Om,Om⟩
    exact⟨Om,Om⟩
   have BP : ∀b,A b->d.ob b=K.ob b:=λb hb=>zJ.ob b (hA b hb).1 (hA b hb).2.1 (hA b hb).2.2;have DI:VK fs cap bs bc bw d P c5:=(hV3.hx ef).ex I zx;obtain⟨ew5,sI⟩:=DI.w;obtain⟨es5,Wv⟩:=DI.s;obtain⟨l51,l52,l53⟩:=DI.lt;have MH:d.ob (K.nx+1)= .cells [.int .i64 (h.f:Nat), .bool h.lp, .bool h.hd, .bool false] 69 .ex:=(I.ob (K.nx+1) Om (λw=>(uk _ w).2 rfl) t).trans ((ef.ob _ Om).trans zI);by_cases L:i<ms.length
   ·obtain⟨m,hm⟩ : ∃m,ms[i]? = some m:=⟨_,bM L⟩;obtain⟨b,cs,e,kd,gi,hb,ob,fc,nI,ape,aL⟩:=Xc i m hm;subst gi;have aL:b9 K3 A (dr m) (List.take 5 (List.drop (i*5) cs)):=aL;have jx:=(BP b hb).trans ((FS b hb).symm.trans ob);have gQ:=fi hm;have dA:ms.drop i=m::ms.drop (i+1):=by
     obtain⟨_,e⟩:=List.getElem?_eq_some_iff.1 hm;rw[rQ L,e]
    have Qw:cf m+a8 (ms.drop (i+1))=a8 (ms.drop i):=by rw[dA];rfl
    have BQ:mL m:=MA cR.2.2.1.2 gQ;have zK:b9 K A (dr m) (List.take 5 (List.drop (i*5) cs)):=aL.mv λb hb=>⟨hb,(FS b hb).symm⟩;have FT:eV m<=N:=by
     have:=BH gQ;simp only[eV,eD] at hN;omega
    obtain⟨mk,ml,mx,u,cH⟩:=m;obtain⟨mq,dq,zL⟩:=ij zK;rw[dq] at aL zK;have DJ:pre++ [(.mk 9 ln x o [a, .mk bk bl bx bo ms],h)]++(bj c h.no a).1++es++(im c5 h.no (ms.drop i)).1++T=E:=by rw[<-hE,z];simp
    obtain⟨B,U⟩ : ∃B,(((d.new (.cells [.int .i64 0, .int .i64 0, .string ⟨⟨[]⟩⟩, .int .i64 0, .slice none 0 0] 26 .ex)).set d.nx (.cells [.int .i64 (mk:Nat), .int .i64 ml, .string (tx mx), .int .i64 (u:Nat), .slice mq cH.length cH.length] 26 .ex)).new (.cells [.int .i64 0, .bool false, .bool false, .bool false] 69 .ex)).set (d.nx+1) (.cells [.int .i64 (h.f:Nat), .bool h.lp, .bool h.hd, .bool true] 69 .ex)=B:=⟨_,rfl⟩;have R:ag d B:=by rw[<-U];exact((((ag.refl d).new _).set (al _) _).new _).set Om _
    have tp:B.nx=d.nx+2:=by rw[<-U];rfl
    have tK:B.ob d.nx= .cells [.int .i64 (mk:Nat), .int .i64 ml, .string (tx mx), .int .i64 (u:Nat), .slice mq cH.length cH.length] 26 .ex:=by
     rw[<-U,cv Om,bQ (by show d.nx≠d.nx+1;omega),bP,iP rfl]
    have FU:=DI.hx R;have odb:=(R.ob (K.nx+1) Om).trans MH;have QQ:=D.hx DH R;have S : ∀b,A b->b<B.nx/\¬P b/\b≠bc:=λb hb=>⟨by have:=(hA b hb).1;omega,λw=>(hW5 b w).elim (hA b hb).2.1 λg=>by have:=(hA b hb).1;omega,(hA b hb).2.2⟩;have Xd : ∀b,A b->B.ob b=K.ob b:=λb hb=>(R.ob b (by have:=(hA b hb).1;omega)).trans (BP b hb);by_cases h3:mk=3
    ·subst h3;obtain⟨p,v,r,rfl⟩ : ∃p v r,cH=p::v::r:=by
      have h2:2<=cH.length:=BQ.1.2 rfl;match cH,h2 with
      | p::v::r,_=>exact⟨p,v,r,rfl⟩
     rw[dA,ME] at DJ z;have FV:=FP _ (.mk 3 ml mx u (p::v::r),h.no.me) ((bj c5 h.no v).1++((im (bj c5 h.no v).2 h.no (ms.drop (i+1))).1++T)) B P A _ (by simpa using DJ) QQ (zK.mv λb hb=>⟨hb,Xd b hb⟩) (λb hb=>⟨(S b hb).1,(S b hb).2.1⟩);unfold rC at FV;refine rn (oA @Q @f44 @jx @dq @Wv @sI @MH @bJ) ?_;simp only[cw] at U tK;rw[U];refine FV.mono λv6 K6 ⟨W6,hj6,pM⟩=> ?_;have hn6:=pM.nx;have hV6:VK fs cap bs bc bw K6 W6 c5:=FU.ex (pM.up λ_ g=>g.elim) ((pM.ob bc FU.lt.2.2 FU.nw.2.2 id).trans FU.c);have ob6:=(pM.ob d.nx Om (λw=>by have:=(QP _ w).2.2.2;omega) id).trans tK;have Xe:=(pM.ob (K.nx+1) Om (λw=>(QP _ w).2.1 rfl) id).trans odb;have apf : ∀b,A b->K6.ob b=K.ob b:=λb hb=>(pM.ob b (S b hb).1 (S b hb).2.1 id).trans (Xd b hb);obtain⟨ew6,ye⟩:=hV6.w;have Xf:=FO (K:=K6) (A:=A) (i:=1) (zK.mv λb hb=>⟨hb,apf b hb⟩) (λb hb=>by have:=(S b hb).1;omega) rfl;refine rn (an @Q @ob6) ?_;refine Xf.mono λv7 K7 ⟨Xg,e7,rG,Xh⟩=> ?_;subst e7;have hn7:=rG.nx;have hV7:=hV6.hx rG;obtain⟨ew7,yf⟩:=hV7.w;have od7:=(rG.ob (K.nx+1) Om).trans Xe;have CJ:cf v+a8 (ms.drop (i+1))+cf p+a8 r+1<=a8 (ms.drop i):=by simp only[cf,a8] at Qw;omega
     have rY:=ih v (by simp only[eV,eD] at FT;omega) BQ.2.2.1 _ c5 h.no K7 W6 A Xg (Xh.mv λb hb=>⟨hb,rG.ob b (by have:=(S b hb).1;omega)⟩) (λb hb=>⟨by have:=(S b hb).1;omega,λw=>(pM.w b w).elim (S b hb).2.1 λg=>by have:=(S b hb).1;omega,(S b hb).2.2⟩) hV7 (D.hx hj6 rG) ⟨(im (bj c5 h.no v).2 h.no (ms.drop (i+1))).1++T,by simpa using DJ⟩ Om;unfold rC at rY;refine rn (iD @Q @ye @yf @Xe @od7) ?_;refine rY.mono λv8 K8 ⟨W8,MI,BR,wO⟩=> ?_;have IF:=zG v c5 h.no;refine rn (rR @Q @f44 @ye @yf @Xe @od7) ?_;refine⟨ms.length-(i+1),Om,i+1,(bj c5 h.no v).2,es++((.mk 3 ml mx u (p::v::r),h.no.me)::(bj c5 h.no v).1),W8,rfl,L,rfl,?_,(((I.trans (VX.ext R)).trans (pM.up λ_ g=>g.elim)).trans (VX.ext rG)).trans BR,wO,Om,?_⟩;·simpa using MI
     rw[z];simp
    have mE : ¬((Nd.mk mk ml mx u cH).kind=3/\2<=(Nd.mk mk ml mx u cH).kids.length):=λe=>h3 e.1;rw[dA,MF mE] at DJ z;have zM:=ih (.mk mk ml mx u cH) FT BQ _ c5 h.no.me B P A _ (zK.mv λb hb=>⟨hb,Xd b hb⟩) S FU QQ ⟨(im (bj c5 h.no.me (.mk mk ml mx u cH)).2 h.no (ms.drop (i+1))).1++T,by simpa using DJ⟩ Om;unfold rC at zM;refine rn (oA @Q @f44 @jx @dq @Wv @sI @MH @bJ) ?_;rw[U];refine zM.mono λv8 K8 ⟨W8,MI,BR,wO⟩=> ?_;have IF:=zG (.mk mk ml mx u cH) c5 h.no.me;refine rn (an @Q @f44) ?_;refine⟨ms.length-(i+1),Om,i+1,(bj c5 h.no.me (.mk mk ml mx u cH)).2,es++(bj c5 h.no.me (.mk mk ml mx u cH)).1,W8,rfl,L,rfl,?_,(I.trans (VX.ext R)).trans BR,wO,Om,?_⟩;·simpa using MI
    rw[z];simp
   have L:i=ms.length:=by omega
   subst L;rw[Ak,MD,jz] at z;refine rn (an @Q @f44) ?_;refine .inr ⟨rfl,?_⟩;refine aC ?_;refine⟨P,?_,zJ,?_⟩
   ·rw[DE,z];simpa using DH
   rw[DE,z];exact zx
  by_cases h8:tk=8\/tk=50
  ·rcases h8 with rfl | rfl
   all_goals
    refine rn (iD @C @G @Z @y @t) ?_;refine .inl ⟨rfl,by(exact aZ;all_goals rfl),by(exact aZ;all_goals rfl),by(exact aZ;all_goals rfl),by(exact aZ;all_goals rfl),by(exact aZ;all_goals rfl),(λe=>(by cases e)),j,D.st _ M _ j cW (al _) (λb hb=>by have:=X b hb;(repeat rw[cv Om])),?_,eG,V,?_,?_,?_⟩;·repeat (first | exact BN | refine VX.set ?_ (by first | exact .inr rfl | (left;omega)) _)
    ·refine rn (an @y @t) ?_;all_goals rfl
    ·refine rn (gK @C @y @t) ?_;all_goals rfl
    refine rn (an @y @t) ?_;all_goals rfl
  have KQ : ∀b1 b2,decide (tk=6\/tk=7)=b1->decide (tk=21)=b2->qv tk (c+1) h=⟨h.f,b1||h.lp,b2||h.hd,false⟩:=λb1 b2 g1 g2=>by
   unfold qv;rw[iN h8,g1,g2]
  by_cases h6:tk=6\/tk=7
  ·rcases h6 with rfl | rfl
   all_goals
    refine rn (iD @C @G @Z @y @t) ?_;refine .inl ⟨rfl,by(exact aZ;all_goals rfl),by(exact aZ;all_goals rfl),by(exact aZ;all_goals rfl),by(exact aZ;all_goals rfl),by(exact aZ;all_goals rfl),(λe=>(by cases e)),j,D.st _ M _ j cW (al _) (λb hb=>by have:=X b hb;(repeat rw[cv Om])),?_,eG,V,?_,?_,?_⟩;·repeat (first | exact BN | refine VX.set ?_ (by first | exact .inr rfl | (left;omega)) _)
    ·refine rn (gK @Z @y @t) ?_;all_goals rfl
    ·refine rn (gK @C @y @t) ?_;all_goals rfl
    refine rn (an @y @t) ?_;all_goals rfl
  by_cases h21:tk=21
  ·subst h21;refine rn (iD @C @G @Z @y @t) ?_;refine .inl ⟨rfl,by(exact aZ;all_goals rfl),by(exact aZ;all_goals rfl),by(exact aZ;all_goals rfl),by(exact aZ;all_goals rfl),by(exact aZ;all_goals rfl),(λe=>(by cases e)),j,D.st _ M _ j cW (al _) (λb hb=>by have:=X b hb;(repeat rw[cv Om])),?_,eG,V,?_,?_,?_⟩;·repeat (first | exact BN | refine VX.set ?_ (by first | exact .inr rfl | (left;omega)) _)
   ·refine rn (gK @Z @y @t) ?_;all_goals rfl
   ·refine rn (gK @C @y @t) ?_;all_goals rfl
   refine rn (an @y @t) ?_;all_goals rfl
  refine rn (iD @C @G @Z @y @t) ?_;refine .inl ⟨rfl,by(exact aZ;all_goals rfl),by(exact aZ;all_goals rfl),by(exact aZ;all_goals rfl),by(exact aZ;all_goals rfl),by(exact aZ;all_goals rfl),wL,j,D.st _ M _ j cW (al _) (λb hb=>by have:=X b hb;(repeat rw[cv Om])),?_,eG,V,?_,?_,?_⟩;·repeat (first | exact BN | refine VX.set ?_ (by first | exact .inr rfl | (left;omega)) _)
  ·show _=cy.cells [.int .i64 ((if tk=8\/tk=50 then c+1 else c:Nat):Int)] 3 .ex;rw[iN h8];exact rz (gK @Z @y @t)
  ·refine rn (gK @C @y @t) ?_;all_goals rfl
  show _=MC (qv tk (c+1) h);rw[KQ false false (decide_eq_false h6) (decide_eq_false h21)];exact rz (an @y @t);all_goals rfl
 rintro x1 fr H (⟨rfl,f2,f3,f4,f5,f6,wL,j,cW,Y,eG,V,rE,C,G⟩ | ⟨rfl,g⟩);case inr=>exact g
 have wL:tk≠9:=wL;have C:H.ob K.nx= .cells [.int .i64 (tk:Nat), .int .i64 ln, .string (tx x), .int .i64 (o:Nat), .slice q ks.length ks.length] 26 .ex:=C;obtain⟨h',hh'⟩ : ∃h',qv tk (c+1) h=h':=⟨_,rfl⟩;obtain⟨c',Cp⟩ : ∃c',(if tk=8\/tk=50 then c+1 else c)=c':=⟨_,rfl⟩;have rE:H.ob bc= .cells [.int .i64 ((if tk=8\/tk=50 then c+1 else c:Nat):Int)] 3 .ex:=rE;have G:H.ob (K.nx+1)=MC (qv tk (c+1) h):=G;have hvn:=zE (c:=c) (h:=h) (l:=ln) (x:=x) (o:=o) (ks:=ks) wL;rw[Cp,hh'] at hvn;rw[Cp] at rE;rw[hh'] at G;have G:H.ob (K.nx+1)= .cells [.int .i64 (h'.f:Nat), .bool h'.lp, .bool h'.hd, .bool h'.mb] 69 .ex:=G;have yR:c'+a8 ks<=2305843009213693952:=by rw[<-Cp];split<;>omega
 obtain⟨T,hE⟩:=hG;rw[hvn] at hE⊢;rw[dy];refine rn (rR @f2 @f3 @f4 @f5 @f6 @C) ?_;refine fC (λn fr d=>VkJ J bc 2305843009213693952 (pre++ [(.mk tk ln x o ks,h)]) c' h' H j ks n (fr 70) d) (n:=ks.length) ⟨0,c',[],j,rfl,cx _,by(refine aC ?_;all_goals rfl),by rw[jz];exact cW, .ext (ag.refl _),rE,yR,rfl⟩ ?_;rintro n td d ⟨i,c5,es,P,rfl,hi,f70,DH,I,zx,nj,z⟩ Q;have zy:=I.nx;have zJ:=Y.trans I;have t:K.nx+1≠bc:=by omega
 have X : ∀b,j b->b≠K.nx+1:=λb hb=>by
  rcases V b hb with h | h
  ·have:=rD b h;omega
  omega
 have DI:VK fs cap bs bc bw d P c5:=hV.ex zJ zx;obtain⟨ew5,sI⟩:=DI.w;obtain⟨l51,l52,l53⟩:=DI.lt;have BP : ∀b,A b->d.ob b=K.ob b:=λb hb=>zJ.ob b (hA b hb).1 (hA b hb).2.1 (hA b hb).2.2;have MH:=(I.ob (K.nx+1) Om (λw=>X _ w rfl) t).trans G;by_cases L:i<ks.length
 ·obtain⟨m,hm⟩ : ∃m,ks[i]? = some m:=⟨_,bM L⟩;obtain⟨b,cs,e,kd,gi,hb,ob,fc,nI,ape,aL⟩:=fY i m hm;have jx:=(BP b hb).trans ob;have gQ:=fi hm;have dA:ks.drop i=m::ks.drop (i+1):=by
   obtain⟨_,e⟩:=List.getElem?_eq_some_iff.1 hm;rw[rQ L,e]
  have Qw:cf m+a8 (ks.drop (i+1))=a8 (ks.drop i):=by rw[dA];rfl
  have BQ:mL m:=MA cR.2 gQ;have FT:eV m<=N:=by
   have:=BH gQ;simp only[eV] at hN;omega
  have DJ:pre++ [(.mk tk ln x o ks,h)]++es++(mK c5 h' (ks.drop i)).1++T=E:=by rw[<-hE,z];simp
  rw[dA,zF] at DJ z;obtain⟨mk,ml,mx,u,cH⟩:=m;obtain⟨mq,dq,zL⟩:=ij aL;rw[dq] at aL;obtain⟨B,U⟩ : ∃B,(d.new (.cells [.int .i64 0, .int .i64 0, .string ⟨⟨[]⟩⟩, .int .i64 0, .slice none 0 0] 26 .ex)).set d.nx (.cells [.int .i64 (mk:Nat), .int .i64 ml, .string (tx mx), .int .i64 (u:Nat), .slice mq cH.length cH.length] 26 .ex)=B:=⟨_,rfl⟩;have R:ag d B:=U▸((ag.refl d).new _).set (al _) _;have tp:B.nx=d.nx+1:=by rw[<-U];rfl
  have FU:=DI.hx R;have QQ:=D.hx DH R;have zM:=ih (.mk mk ml mx u cH) FT BQ _ c5 h' B P A _ (aL.mv λb hb=>⟨hb,(R.ob b (by have:=(hA b hb).1;omega)).trans (BP b hb)⟩) (λb hb=>⟨by have:=(hA b hb).1;omega,λw=>(zJ.w b w).elim (hA b hb).2.1 λg=>by have:=(hA b hb).1;omega,(hA b hb).2.2⟩) FU QQ ⟨(mK (bj c5 h' (.mk mk ml mx u cH)).2 h' (ks.drop (i+1))).1++T,by simpa using DJ⟩ Om;unfold rC at zM;refine rn (xf @Q @f4 @f6 @f70 @gi @jx @dq @sI @MH @bJ) ?_;rw[U];refine zM.mono λv8 K8 ⟨W8,MI,BR,wO⟩=> ?_;have IF:=zG (.mk mk ml mx u cH) c5 h';refine rn (an @Q @f70) ?_;refine⟨ks.length-(i+1),Om,i+1,(bj c5 h' (.mk mk ml mx u cH)).2,es++(bj c5 h' (.mk mk ml mx u cH)).1,W8,rfl,L,rfl,?_,(I.trans (VX.ext R)).trans BR,wO,Om,?_⟩;·simpa using MI
  rw[z];simp
 have L:i=ks.length:=by omega
 subst L;rw[Ak,DF,jz] at z;refine rn (an @Q @f70) ?_;refine⟨P,?_,zJ,?_⟩
 ·rw[z];simpa using DH
 rw[z];exact zx
theorem aeD{fs:aU}{cap:List ae}{E:List Ev}{J:JT}{bs bc bw:Nat}(a:zD J)(b:DB fs cap E J) : ∀N,WU fs cap E J bs bc bw N
 | 0=>λt h=>by cases t;simp[eV] at h
 | N+1=>apb a b (aeD a b N)
abbrev fU:Wh:=⟨0,false,false,false⟩
theorem aeE{fs:aU}{cap:List ae}{E:List Ev}{J:JT}(a:zD J)(j:DB fs cap E J){t:Nd}(hh:eV t<=1000)(l:mL t)(hz:cf t<=2305843009213693952){pre:List Ev}(m : ∃rest,pre++(bj 0 fU t).1++rest=E){K:CH}{W A:Nat->Prop}{os:List ae}(hs:b9 K A (dr t) os)(hA : ∀b,A b->b<K.nx/\¬W b)(g:J pre K W):aR gE 32 [.agg os.toArray, .func (.func fs) #[] cap.toArray] K λ_ K'=>∃W',J (pre++(bj 0 fU t).1) K' W'/\VX n9 W W' K K':=by
 obtain⟨nt,i⟩:=tz hs;have n:os.length=5:=by rw[i];rfl
 have o:os.all bu=true:=by rw[i];rfl
 have r:List.take 5 os=os:=qD Om;have c:=a.lt pre K W g;refine du Rl Kr (aV ?_);refine rn (gK @n @o @r) ?_;refine(aeD (bs:=K.nx+1) (bc:=K.nx+1+1) (bw:=K.nx+1+1+1) a j 1000 t hh l pre 0 fU _ W A os (hs.mv λb hb=>⟨hb,by have:=(hA b hb).1;exact aZ⟩) (λb hb=>⟨cj (hA b hb).1 Fo,(hA b hb).2,by have:=(hA b hb).1;omega⟩) ⟨⟨_,by(refine aC ?_;all_goals rfl)⟩,⟨_,by(refine aC ?_;all_goals rfl)⟩,by(refine aC ?_;all_goals rfl),⟨Fo,Fo,Fo⟩,λw=>by have:=c _ w;omega,λw=>by have:=c _ w;omega,λw=>by have:=c _ w;omega⟩ (a.hx g (by(repeat (first | assumption | exact ag.refl _ | (refine ag.set ?_ Fo _) | (refine ag.new ?_ _))))) m Om).mono λv z ⟨s,u,x,_⟩=> ?_;refine aC ?_;have y:ag K ((((((K.new (.cells os 26 .ex)).new (.cells [.func (.func fs) #[] cap.toArray] 71 .ex)).new (.cells [.int .i64 0] 3 .ex)).set (K.nx+1+1) (.cells [.int .i64 0] 3 .ex)).new (.cells [.nilFunc] 71 .ex)).set (K.nx+1+1+1) (.cells [.func (.func 58) #[] #[pN (K.nx+1),pN (K.nx+1+1),pN (K.nx+1+1+1)]] 71 .ex)):=by(repeat (first | assumption | exact ag.refl _ | (refine ag.set ?_ Fo _) | (refine ag.new ?_ _)))
 have d:=(VX.ext (X:=(· = K.nx+1+1)) (W:=W) y).trans x;exact⟨s,u,⟨d.nx,λb hb hw _=>d.ob b hb hw Om,d.w⟩⟩
def uD (s:Bs):List (Bs×Int)->Nat->Option (Nat×Int)
 | [],_=>none
 | p::L,j=>if s=p.1 then some (j,p.2) else uD s L (j+1)
def zN (L:List (Bs×Int))(s:Bs):Int:=((uD s L 0).map Prod.snd).getD 0
def MJ (l:List nv)(L:List (Bs×Int)):Prop:=l.map (λe=>(e.key,e.val))=L.map λp=>(Value.string (tx p.1),Value.int .i64 p.2)
theorem Xi{s:Bs} : ∀ {l:List nv} {L:List (Bs×Int)} {j:Nat},MJ l L->mj 1 (.string (tx s)) l j=some ((uD s L j).map λq=>(q.1, .int .i64 q.2))
 | [],[],j,_=>rfl
 | [],p::L,j,h=>by cases h
 | e::l,[],j,h=>by cases h
 | e::l,p::L,j,h=>by
   simp only[MJ,dG,List.cons.injEq,Prod.mk.injEq] at h;obtain⟨⟨h1,h2⟩,h3⟩:=h;have hs:Cs 1 (.string (tx s)) e.key=some (decide (s=p.1)):=by
    rw[h1];have a:(tx s==tx p.1)=((⟨s⟩:Array UInt8)==⟨p.1⟩):=rfl;show some (tx s==tx p.1)=_;rw[a];by_cases e:s=p.1
    ·rw[e];simp
    have:(⟨s⟩:Array UInt8)≠⟨p.1⟩:=λh=>e (congrArg Array.toList h);rw[decide_eq_false e];simp[this,e]
   rw[mj,hs,uD];by_cases hp:s=p.1
   ·simp only[hp,decide_true,iT,fg];rw[h2]
   simp only[decide_eq_false hp,iN hp];exact Xi h3
theorem Xj{s:Bs} : ∀ {L:List (Bs×Int)} {j:Nat},((uD s L j).map Prod.snd).getD 0=zN L s
 | [],_=>rfl
 | p::L,j=>by
   unfold zN;simp only[uD];by_cases h:s=p.1
   ·simp only[iP h];rfl
   simp only[iN h];exact Xj.trans Xj.symm
theorem FW{p:Bs×Int}{L:List (Bs×Int)}{y:Bs}:zN (p::L) y=if y=p.1 then p.2 else zN L y:=by
 show((uD y (p::L) 0).map Prod.snd).getD 0=_;rw[uD];by_cases h:y=p.1
 ·simp[h]
 simp only[iN h];exact Xj
theorem aeF{s:Bs}{n:Int} : ∀ {L:List (Bs×Int)} {j:Nat},uD s L j=none->∀y,zN (L++ [(s,n)]) y=if y=s then n else zN L y
 | [],_,_,y=>by
   rw[mR,FW]
 | p::L,j,h,y=>by
   rw[uD] at h;split at h;·cases h
   rename_i hp;rw[jU,FW,FW,aeF h y];by_cases h1:y=p.1
   ·have:y≠s:=λe=>hp (e▸h1);rw[iP h1,iN this,iP h1]
   rw[iN h1,iN h1]
theorem aeG{s:Bs}{n:Int} : ∀ {L:List (Bs×Int)} {j i:Nat} {v:Int},uD s L j=some (i,v)->j<=i/\i-j<L.length/\∀y,zN (L.modify (i-j) λ_=>(s,n)) y=if y=s then n else zN L y
 | [],_,_,_,h=>by cases h
 | p::L,j,i,v,h=>by
   rw[uD] at h;split at h
   ·rename_i hp;cases h;refine⟨al _,Sm,λy=> ?_⟩;rw[GJ,List.modify_zero_cons,FW,FW];by_cases h1:y=s
    ·rw[iP h1,iP h1]
    rw[iN h1,iN h1,iN (λe=>h1 (e.trans hp.symm))]
   rename_i hp;obtain⟨h1,h2,h3⟩:=aeG h;refine⟨Om,Sq,λy=> ?_⟩;have e:i-j=(i-(j+1))+1:=by omega
   rw[e,List.modify_succ_cons,FW,FW,h3 y];by_cases h4:y=p.1
   ·have:y≠s:=λe=>hp (e▸h4);rw[iP h4,iN this,iP h4]
   rw[iN h4,iN h4]
def gH (K:CH)(m:Nat)(ρ:Bs->Int):Prop:=∃(es:Array nv) (c:Nat) (L:List (Bs×Int)),K.ob m= .map es c/\MJ es.toList L/\∀y,zN L y=ρ y
theorem gH.nil{K:CH}{m:Nat}(h:K.ob m= .map #[] 0):gH K m λ_=>0:=⟨#[],0,[],h,rfl,λ_=>rfl⟩
theorem gH.ext{K K':CH}{m:Nat}{ρ:Bs->Int}(h:gH K m ρ)(e:K'.ob m=K.ob m):gH K' m ρ:=by
 obtain⟨es,c,L,h1,h2,h3⟩:=h;exact⟨es,c,L,e.trans h1,h2,h3⟩
theorem gH.lk{K:CH}{m:Nat}{ρ:Bs->Int}(h:gH K m ρ)(s:Bs):uV 1 (.int .i64 0) false (.string (tx s)) (K.ob m)=some (.int .i64 (ρ s)):=by
 obtain⟨es,c,L,h1,h2,h3⟩:=h;rw[h1];show uU _ _ (mj 1 (.string (tx s)) es.toList 0)=_;rw[Xi h2,<-h3 s];unfold zN;cases uD s L 0<;>rfl
theorem gH.up{K:CH}{m:Nat}{ρ:Bs->Int}(h:gH K m ρ)(s:Bs)(n:Int) : ∃o,(∀H:CH,uX 1 m (.string (tx s)) (.int .i64 n) H (K.ob m)=some (undef,H.set m o))/\∀K':CH,K'.ob m=o->gH K' m λy=>if y=s then n else ρ y:=by
 obtain⟨es,c,L,h1,h2,h3⟩:=h;rw[h1];have e : ∀H:CH,uX 1 m (.string (tx s)) (.int .i64 n) H (.map es c)=(match mj 1 (.string (tx s)) es.toList 0 with
  | some (some (i,_))=>some (undef,H.set m (.map (es.modify i λe=> { e with key:= .string (tx s),val:= .int .i64 n }) c))
  | some none=>some (undef,H.set m (.map (es.push { key:= .string (tx s),val:= .int .i64 n,born:=c }) (c+1)))
  | none=>none):=by
  intro H;have hc:isKey 1 (.string (tx s))=true/\isVal (.int .i64 n)=true:=⟨rfl,rfl⟩;simp only[uX];rw[iP hc];cases mj 1 (.string (tx s)) es.toList 0 with
  | none=>rfl
  | some o=>cases o<;>rfl
 simp only[e,Xi h2];cases a:uD s L 0 with
 | none=>
   refine⟨_,λ_=>rfl,λK' e=>⟨_,_,L++ [(s,n)],e,?_,λy=> ?_⟩⟩;·unfold MJ at h2⊢;simp[h2]
   rw[aeF a y,h3 y]
 | some q=>
   obtain⟨i,v⟩:=q;obtain⟨_,g2,g3⟩:=aeG (n:=n) a;rw[Nat.sub_zero] at g2 g3;refine⟨_,λ_=>rfl,λK' e=>⟨_,_,L.modify i λ_=>(s,n),e,?_,λy=> ?_⟩⟩
   ·unfold MJ at h2⊢;rw[Array.toList_modify];have hl:es.toList.length=L.length:=by have:=congrArg List.length h2;simpa using this
    apply Ca;intro j;have b:=congrArg (λl=>l[j]?) h2;simp only[hY] at b⊢;simp only[vV];by_cases d:i=j
    ·subst d;have u9:i<es.toList.length:=by omega
     simp only[iP rfl];rw[bM u9,bM g2];rfl
    simp only[iN d];simpa using b
   rw[g3 y,h3 y]
abbrev Ow:=Nat->Option (Nat×Nat)
def mf (L:List Bs):Bs->Int:=λy=>if y∈L then 1 else 0
def jg (K:CH)(ow:Ow)(a:Nat×Nat)(v:ae)(xs:List Bs):Prop:=(xs= []/\v= .slice none 0 0)\/∃r kd,v= .slice (some ⟨r,0,none⟩) xs.length xs.length/\ow r=some a/\r<K.nx/\K.ob r= .cells (xs.flatMap jT) 9 kd/\kd.cD=false
def uE (mp:Bool)(K:CH)(ow:Ow)(a:Nat×Nat)(v:ae)(L:List Bs):Prop:=if mp=true then ∃m,v= .map (some m)/\ow m=some a/\m<K.nx/\gH K m (mf L) else v= .map none
structure pd(ow bY:Ow)(K K':CH):Prop where
 nx:K.nx<=K'.nx
 ow : ∀b,b<K.nx->bY b=ow b
theorem pd.refl{ow:Ow}{K K':CH}(h:K.nx<=K'.nx):pd ow ow K K':=⟨h,λ_ _=>rfl⟩
theorem jg.mv{K K':CH}{ow bY:Ow}{a:Nat×Nat}{v:ae}{xs:List Bs}(h:jg K ow a v xs)(hx:pd ow bY K K')(ho : ∀b,b<K.nx->ow b=some a->K'.ob b=K.ob b):jg K' bY a v xs:=by
 rcases h with h | ⟨r,kd,h1,h2,h3,h4,h5⟩
 ·exact .inl h
 exact .inr ⟨r,kd,h1,(hx.ow r h3).trans h2,cj h3 hx.nx,(ho r h3 h2).trans h4,h5⟩
theorem uE.mv{mp:Bool}{K K':CH}{ow bY:Ow}{a:Nat×Nat}{v:ae}{L:List Bs}(h:uE mp K ow a v L)(hx:pd ow bY K K')(ho : ∀b,b<K.nx->ow b=some a->K'.ob b=K.ob b):uE mp K' bY a v L:=by
 unfold uE at h⊢;split at h;·rename_i c;rw[iP c];obtain⟨m,h1,h2,h3,h4⟩:=h;exact⟨m,h1,(hx.ow m h3).trans h2,cj h3 hx.nx,h4.ext (ho m h3 h2)⟩
 rename_i c;rw[iN c];exact h
def wP (n:Nat):CH:= { nx:=n,ob:=λ_=> .dead }
theorem jg.gr{K:CH}{ow:Ow}{a:Nat×Nat}{v:ae}{xs:List Bs}(h:jg K ow a v xs):DA (wP 0) K v xs:=by
 rcases h with ⟨h1,h2⟩ | ⟨r,kd,h1,h2,h3,h4,h5⟩
 ·exact .inl ⟨h1,h2⟩
 exact .inr ⟨r,kd,h1,cx _,h3,h4,h5⟩
theorem jg.off{K:CH}{ow:Ow}{a:Nat×Nat}{v:ae}{xs:List Bs}(h:jg K ow a v xs){b:Nat}(hb:ow b≠some a):ik v b:=λo n c e=>by
 rcases h with ⟨_,h2⟩ | ⟨r,kd,h1,h2,h3,h4,h5⟩
 ·rw[h2] at e;cases e
 rw[h1] at e;cases e;exact hb h2
structure QR(mp:Bool)(K:CH)(ow:Ow)(i:Nat)(F:ah)(vp vl vc vf m1 m2 m3:ae):Prop where
 p:jg K ow (i,1) vp F.ps
 l:jg K ow (i,2) vl F.ls
 c:jg K ow (i,3) vc F.cs
 f:jg K ow (i,4) vf F.fs
 b:uE mp K ow (i,5) m1 (F.ps++F.ls)
 g:uE mp K ow (i,6) m2 F.g
 o:uE mp K ow (i,7) m3 F.o
def FY (mp:Bool)(K:CH)(ow:Ow)(i b:Nat)(F:ah):Prop:=ow b=some (i,0)/\b<K.nx/\∃vp vl vc vf m1 m2 m3,K.ob b= .cells [.string (tx F.nm), .int .i64 F.par,vp,vl,vc,vf, .bool F.gen,m1,m2,m3] 75 .ex/\QR mp K ow i F vp vl vc vf m1 m2 m3
theorem QR.mv{mp:Bool}{K K':CH}{ow bY:Ow}{i:Nat}{F:ah}{vp vl vc vf m1 m2 m3:ae}(h:QR mp K ow i F vp vl vc vf m1 m2 m3)(hx:pd ow bY K K')(ho : ∀b j,b<K.nx->ow b=some (i,j)->1<=j/\j<=7->K'.ob b=K.ob b):QR mp K' bY i F vp vl vc vf m1 m2 m3:=
 ⟨h.p.mv hx λb h1 h2=>ho b _ h1 h2 de,h.l.mv hx λb h1 h2=>ho b _ h1 h2 de,h.c.mv hx λb h1 h2=>ho b _ h1 h2 de,h.f.mv hx λb h1 h2=>ho b _ h1 h2 de,h.b.mv hx λb h1 h2=>ho b _ h1 h2 de,h.g.mv hx λb h1 h2=>ho b _ h1 h2 de,h.o.mv hx λb h1 h2=>ho b _ h1 h2 de⟩
theorem FY.mv{mp:Bool}{K K':CH}{ow bY:Ow}{i b:Nat}{F:ah}(h:FY mp K ow i b F)(hx:pd ow bY K K')(ho : ∀b j,b<K.nx->ow b=some (i,j)->j<=7->K'.ob b=K.ob b):FY mp K' bY i b F:=by
 obtain⟨h1,h2,vp,vl,vc,vf,m1,m2,m3,h3,h4⟩:=h;exact⟨(hx.ow b h2).trans h1,cj h2 hx.nx,vp,vl,vc,vf,m1,m2,m3,(ho b 0 h2 h1 de).trans h3,h4.mv hx λb j g1 g2 g3=>ho b j g1 g2 g3.2⟩
structure Xk(mp:Bool)(K:CH)(ow:Ow)(fns:List ah)(bs:List Nat):Prop where
 len:bs.length=fns.length
 get : ∀i F b,fns[i]? = some F->bs[i]? = some b->FY mp K ow i b F
def j0 (mp:Bool)(K:CH)(ow:Ow)(v:ae)(fns:List ah)(bs:List Nat):Prop:=∃q kd,v= .slice (some ⟨q,0,none⟩) bs.length bs.length/\ow q=some (0,9)/\q<K.nx/\K.ob q= .cells (bs.flatMap λb=> [pN b]) 73 kd/\kd.cD=false/\Xk mp K ow fns bs
theorem j0.mv{mp:Bool}{K K':CH}{ow bY:Ow}{v:ae}{fns:List ah}{bs:List Nat}(h:j0 mp K ow v fns bs)(hx:pd ow bY K K')(ho : ∀b,b<K.nx->ow b≠none->K'.ob b=K.ob b):j0 mp K' bY v fns bs:=by
 obtain⟨q,kd,h1,h2,h3,h4,h5,a⟩:=h;exact⟨q,kd,h1,(hx.ow q h3).trans h2,cj h3 hx.nx,(ho q h3 (by rw[h2];simp)).trans h4,h5,a.len,λi F b g1 g2=>(a.get i F b g1 g2).mv hx λb j c d _=>ho b c (by rw[d];simp)⟩
theorem DK{L:List Bs}{s:Bs}:(λy=>if y=s then 1 else mf L y)=mf (L++ [s]):=by
 funext y
 unfold mf;by_cases h:y=s
 ·simp[h]
 by_cases h2:y∈L<;>simp[h,h2]
theorem BS{fns:List ah}{i:Nat}{u:ah->ah}:(dC fns i u).length=fns.length:=List.length_modify ..
theorem j0.db{mp:Bool}{K K':CH}{ow bY:Ow}{v:ae}{fns:List ah}{bs:List Nat}{i b:Nat}{F:ah}{u:ah->ah}(h:j0 mp K ow v fns bs)(e:fns[i]? = some F)(hb:bs[i]? = some b)(hx:pd ow bY K K')(ho : ∀x c j,x<K.nx->ow x=some (c,j)->(c≠i\/7<j)->K'.ob x=K.ob x)(hn:FY mp K' bY i b (u F)):j0 mp K' bY v (dC fns i u) bs:=by
 obtain⟨q,kd,h1,h2,h3,h4,h5,d⟩:=h;refine⟨q,kd,h1,(hx.ow q h3).trans h2,cj h3 hx.nx,(ho q 0 9 h3 h2 (.inr de)).trans h4,h5,by rw[BS];exact d.len,λi2 a f g1 g2=> ?_⟩;unfold dC at g1;rw[vV] at g1;by_cases hi:i=i2
 ·subst hi;rw[e] at g1;rw[hb] at g2;cases g2;have g1:u F=a:=by simpa using g1
  rw[<-g1];exact hn
 simp only[iN hi] at g1;have g1:fns[i2]? = some a:=by simpa using g1
 exact(d.get i2 a f g1 g2).mv hx λx j g k _=>ho x i2 j g k (.inl (Ne.symm hi))
def JF (mp:Bool)(p:Nat)(X:List Ev->List ah):JT:=λpre K W=>∃(ow:Ow) (v:ae) (bs:List Nat),(∀b,W b↔ow b≠none)/\(∀b,ow b≠none->b<K.nx)/\ow p=some (0,8)/\K.ob p= .cells [v] 65 .ex/\j0 mp K ow v (X pre) bs
theorem JF.ok{mp:Bool}{p:Nat}{X:List Ev->List ah}:zD (JF mp p X) where
 st:=λpre K K' W ⟨ow,v,bs,h1,h2,h3,h4,h5⟩ hn hx=>⟨ow,v,bs,h1,λb hb=>cj (h2 b hb) hn,h3,(hx p ((h1 p).2 (by rw[h3];simp))).trans h4,h5.mv (.refl hn) λb _ hb=>hx b ((h1 b).2 hb)⟩
 lt:=λpre K W ⟨ow,v,bs,h1,h2,_⟩ b hb=>h2 b ((h1 b).1 hb)
theorem Xl(pre:List Ev)(e:Ev):jG (pre++ [e])=jG pre++if jZ e.1=true then [MB e] else []:=by
 unfold jG;rw[List.filter_append,Ah,jU];by_cases h:jZ e.1=true
 ·rw[iP h];simp[GL,h]
 rw[iN h];simp[GL,h]
theorem MK{T:bZ}{f:aU}{args:List ae}{Q:ae->CH->Prop}{a:CH}(M:CH->Prop)(b:M a)(h : ∀K,M K->aR T f args K Q):aR T f args a Q:=h a b
def CpJ (K0:CH)(b:Nat)(nm:Bs)(par:Int)(ps:List Nd)(n:Nat)(v:ae)(a:CH):Prop:=∃(i:Nat) (vp:ae),n=ps.length-i/\i<=ps.length/\v= .int .i64 (i:Nat)/\c7 b K0 a/\a.ob b= .cells [.string (tx nm), .int .i64 par,vp, .slice none 0 0, .slice none 0 0, .slice none 0 0, .bool false, .map none, .map none, .map none] 75 .ex/\DA K0 a vp ((ps.take i).map Nd.text)
theorem apg{p B:Nat}{E:List Ev}(hB:B+16<=4398046511104)(hE:E.length<=1099511627776)(hK : ∀e∈E,kQ B e.1):DB 54 [pN p] E (JF false p jG):=by
 rintro pre ⟨⟨k,l,x,o,ks⟩,h⟩ rest K W A os vH V hs hA;have X:=V;obtain⟨ow,v,bs,O,Y,t,bp,q,kd,rfl,Z,uF,iA,fc,u⟩:=V;obtain⟨nq,rfl,eT⟩:=ij hs;have dK:p<K.nx:=Y p (by rw[t];simp);have dN:bs.length<=1099511627777:=by
  rw[u.len];unfold jG;rw[cw,fh];have h1:=List.length_filter_le (λe:Ev=>jZ e.1) pre;have h2:pre.length<=E.length:=by rw[<-vH];simp
  omega
 unfold rC;have asm : ∀b,K.nx<=b->¬W b:=λb hb w=>by have:=Y b ((O b).1 w);omega
 by_cases D:jZ (.mk k l x o ks)=true
 ·have xy:k=8\/k=50:=of_decide_eq_true D;have e0:ag K ((K.new (.cells [.int .i64 (k:Nat), .int .i64 l, .string (tx x), .int .i64 (o:Nat), .slice nq ks.length ks.length] 26 .ex)).new (.cells [.int .i64 (h.f:Nat), .bool h.lp, .bool h.hd, .bool h.mb] 69 .ex)):=((ag.refl K).new _).new _;obtain⟨pk,pl,px,po,d,z⟩ : ∃pk pl px po d,cC ks= .mk pk pl px po d:=by cases cC ks;exact⟨_,_,_,_,_,rfl⟩
  have asn:2*d.length<=B+16:=by
   have hke:kQ B (Nd.mk k l x o ks):=hK (.mk k l x o ks,h) (by rw[<-vH];simp);cases ks with
   | nil=>simp[cC] at z;obtain⟨_,_,_,_,rfl⟩:=z;simp
   | cons p r=>simp only[cC] at z;subst z;exact hke.2.1.1
  have QS:MB (.mk k l x o ks,h)=⟨if k=8 then x else [108,97,109,98,100,97],h.f,d.map Nd.text,[],[],[],false,[],[]⟩:=by
   show(⟨if k=8 then x else [108,97,109,98,100,97],h.f,(cC ks).kids.map Nd.text,[],[],[],false,[],[]⟩:ah)=_;rw[z];rfl
  obtain⟨nm,pZ⟩ : ∃nm,(if k=8 then x else [108,97,109,98,100,97]:Bs)=nm:=⟨_,rfl⟩;rw[pZ] at QS;rcases xy with rfl | rfl
  all_goals
   refine du Rl Kr (aV ?_);repeat' (first | (simp (disch:=first | omega | (decide +kernel)) only[↓RD,RU,↓aP,↓ez,↓aT,↓bf,gJ,cV,bP,bK,fS,pop,aD,da,bD,fj,isVal,bu,dp,ρ0,ρ1,ρ4,↓reduceIte,Nat.reduceEqDiff,Nat.reduceAdd,Int.reduceOfNat,reduceCtorEq,ρ5,ρ6,ρ7,ρ8,ρ15,ρ17,ρ18,ρ19,ρ20,ρ22,ρ23,Kd.cD,ρ25,ρ26,iv,Nat.reduceLeDiff,ρ28]) | ((with_reducible first|apply aF|apply aG|apply aH)<;>intro _))
   refine MK (λG=>ag K G/\G.nx=K.nx+3/\G.ob (K.nx+2)= .cells [.string (tx nm), .int .i64 (h.f:Nat), .slice none 0 0, .slice none 0 0, .slice none 0 0, .slice none 0 0, .bool false, .map none, .map none, .map none] 75 .ex) ⟨by(repeat (first | assumption | exact ag.refl _ | (refine ag.set ?_ Fo _) | (refine ag.new ?_ _))),rfl,?_⟩ ?_
   ·rw[<-pZ];repeat' (first | (simp (disch:=first | omega | (decide +kernel)) only[gJ,cV,bP,↓reduceIte,Nat.reduceEqDiff]) | ((with_reducible first|apply aF|apply aG|apply aH)<;>intro _))
    all_goals rfl
   rintro G ⟨dF,tp,Xm⟩;refine(Mf (A:=A) (hs.mv λb hb=>⟨hb,dF.ob b (hA b hb).1⟩) (λb hb=>by have:=(hA b hb).1;omega)).mono λv2 H ⟨oW,I,P,Q⟩=> ?_;subst I;have Q:b9 G A (dr (cC ks)) oW:=Q;rw[z] at Q;obtain⟨q2,rfl,Wz⟩:=ij Q;obtain⟨_,e5,ML,_,Qz⟩:=mI Wz;cases e5;rw[gZ] at ML;have l7:=P.nx;have zO:=dF.trans P;repeat' (first | (simp (disch:=first | omega | (decide +kernel)) only[↓RD,RU,↓aP,↓aT,↓bf,pop,↓reduceIte,ρ5,ρ6,wb]) | ((with_reducible first|apply aF|apply aG|apply aH)<;>intro _))
   refine fC (λn fr a=>CpJ H (K.nx+2) nm (h.f:Nat) d n (fr 34) a) (n:=d.length) ⟨0,_,rfl,cx _,by(repeat' (first | (simp (disch:=first | omega | (decide +kernel)) only[↓aP,↓reduceIte]) | ((with_reducible first|apply aF|apply aG|apply aH)<;>intro _));all_goals rfl),c7.refl _,(P.ob _ Om).trans Xm,gP.nil⟩ ?_;rintro n fr a ⟨i,vp,rfl,hi,f34,C,Xn,J⟩ R;have eG:=C.nx;by_cases L:i<d.length
   ·obtain⟨m,hm⟩ : ∃m,d[i]? = some m:=⟨_,bM L⟩;obtain⟨b,cs,e,S,gi,hb,ob,yg,nI,nj,aL⟩:=Qz i m hm;subst gi;have Mi:=(hA b hb).1;have jx:=(C.ob b Om Om).trans ((P.ob b Om).trans ob);obtain⟨mk,ml,mx,mo,cH⟩:=m;obtain⟨mq,dq,zL⟩:=ij aL;repeat' (first | (simp (disch:=first | omega | (decide +kernel)) only[↓RD,RU,↓aP,↓ez,↓aT,gJ,qE,cV,bP,pop,aD,da,bD,fj,isVal,bu,dp,ρ0,ρ1,ρ4,↓reduceIte,Nat.reduceEqDiff,Nat.reduceAdd,reduceCtorEq,ρ5,ρ6,ρ7,ρ8,qQ,ρ15,ρ17,ρ18,ρ21,ρ22,ρ23,Kd.cD,ρ25,ρ26,iv,Nat.reduceLeDiff,wB,qP,ρ28,ρ29,R,f34,jx,dq,Xn]) | ((with_reducible first|apply aF|apply aG|apply aH)<;>intro _))
    have M:ag a (((a.new (.cells [.int .i64 0, .int .i64 0, .string ⟨⟨[]⟩⟩, .int .i64 0, .slice none 0 0] 26 .ex)).set a.nx (.cells [.int .i64 (mk:Nat), .int .i64 ml, .string (tx mx), .int .i64 (mo:Nat), .slice mq cH.length cH.length] 26 .ex)).new (.cells [.string (tx mx)] 9 .ex)):=by(repeat (first | assumption | exact ag.refl _ | (refine ag.set ?_ Fo _) | (refine ag.new ?_ _)))
    refine ao8 (y:=mx) (J.ext M) (by show H.nx<=a.nx+1+1;omega) (by rw[fh,ny];omega) rfl λv' K3 h1 h2=> ?_;have gF:GS a K3 vp v':=(GS.ext M).trans h2;have uA:=gF.nx;have of3:=(gF.ob (K.nx+2) Om (J.aeB Om)).trans Xn;obtain⟨vq',cq',ev',_⟩:=(h1.nl (by rw[cO,fh,ny];simp;omega)).len;subst ev';repeat' (first | (simp (disch:=first | omega | (decide +kernel)) only[↓RD,RU,↓aP,↓ez,↓aT,↓bf,pop,bD,isVal,bu,dp,↓reduceIte,Nat.reduceEqDiff,Nat.reduceAdd,ρ7,ρ8,ρ17,ρ18,ρ19,ρ20,ρ22,ρ23,Kd.cD,ρ25,ρ26,Nat.reduceLeDiff,ρ28,R,f34,of3]) | ((with_reducible first|apply aF|apply aG|apply aH)<;>intro _))
    refine⟨d.length-(i+1),Om,i+1,_,rfl,L,rfl,⟨by show H.nx<=K3.nx;omega,λb hb hc=>(cv hc).trans ((gF.ob b Om (J.aeB hb)).trans (C.ob b hb hc))⟩,by(repeat' (first | (simp (disch:=first | omega | (decide +kernel)) only[bP,↓reduceIte]) | ((with_reducible first|apply aF|apply aG|apply aH)<;>intro _));all_goals rfl),?_⟩;have et:(d.take (i+1)).map Nd.text=(d.take i).map Nd.text++ [mx]:=by
     obtain⟨_,e⟩:=List.getElem?_eq_some_iff.1 hm;rw[rL L,e,Ah];rfl
    rw[et];rw[cO,fh] at h1;refine gP.nx (K:=K3) h1 (al _) ?_;intro b g1 g2 _;exact cv Om
   have L:i=d.length:=by omega
   subst L;rw[pQ] at J;have Bo:=(C.ob p Om Om).trans ((zO.ob p dK).trans bp);have oq1:=(C.ob q Om Om).trans ((zO.ob q uF).trans iA);have N : ∀b,b<K.nx->a.ob b=K.ob b:=λb hb=>(C.ob b Om Om).trans (zO.ob b hb);repeat' (first | (simp (disch:=first | omega | (decide +kernel)) only[↓eF,↓dy,↓OI,↓OJ,↓ON,↓gX,↓gO,↓qL,↓eR,↓eS,↓dY,↓fB,↓ti,↓mz,↓aP,↓aT,cV,dX,th,↓eQ,↓Oo,bK,fS,sn,pop,aD,da,fj,isVal,dp,dG,nz,fg,↓reduceIte,Nat.reduceEqDiff,reduceCtorEq,fK,cw,cX,qM,qQ,xI,Ai,tR,ly,jz,GK,yA,qB,tS,iv,Nat.reduceLeDiff,al,wB,qN,↓xH,qP,iB,bJ,and_true,R,f34,Bo]) | ((with_reducible first|apply aF|apply aG|apply aH)<;>intro _))
   refine Ds (A:=wP 0) (bytes:=8) (f:=λb=> [pN b]) (y:=K.nx+2) (xs:=bs) (λ_=>⟨rfl,rfl⟩) (.inr ⟨q,kd,rfl,cx _,by show q<a.nx+1;omega,(bQ Om).trans oq1,fc⟩) Om Om rfl λs k1 k2 k3=> ?_;have k2:s.nx=a.nx+1+1:=k2;have T : ∀b,b<a.nx->b≠q->s.ob b=a.ob b:=λb hb hc=>(k3 b (by show b<a.nx+1;omega) λo n c e=>by cases e;exact hc rfl).trans (bQ Om);have hpq:p≠q:=λe=>by rw[e,Z] at t;cases t
   have op5:=(T p Om hpq).trans Bo;repeat' (first | (simp (disch:=first | omega | (decide +kernel)) only[↓RD,RU,↓aP,↓aT,gJ,bK,fS,bD,bT,isVal,bu,dp,↓reduceIte,Nat.reduceEqDiff,ρ7,ρ8,ρ17,ρ21,ρ22,ρ23,Kd.cD,ρ25,ρ26,R,op5]) | ((with_reducible first|apply aF|apply aG|apply aH)<;>intro _))
   obtain⟨r,CE,DN,hr3⟩ : ∃r,H.nx<=r/\r<=a.nx/\((d.map Nd.text= []/\vp= .slice none 0 0)\/∃kd,vp= .slice (some ⟨r,0,none⟩) (d.map Nd.text).length (d.map Nd.text).length/\r<a.nx/\a.ob r= .cells ((d.map Nd.text).flatMap jT) 9 kd/\kd.cD=false):=by
    rcases J with g | ⟨r,S,g1,g2,g3,g4,g5⟩
    ·exact⟨H.nx,al _,eG, .inl g⟩
    exact⟨r,g2,Nat.le_of_lt g3, .inr ⟨S,g1,g3,g4,g5⟩⟩
   let bY:Ow:=λb=>if b=K.nx+2 then some (bs.length,0) else if b=r then some (bs.length,1) else if b=a.nx+1 then some (0,9) else ow b
   have hK6 : ∀o,(s.set p o).nx=s.nx:=λ_=>rfl;have mJ : ∀o,pd ow bY K (s.set p o):=λo=>⟨by show K.nx<=s.nx;omega,λb hb=>by
    show(if b=K.nx+2 then _ else if b=r then _ else if b=a.nx+1 then _ else ow b)=ow b;rw[iN Om,iN Om,iN Om]⟩
   have jE : ∀o b,b<K.nx->b≠p->b≠q->(s.set p o).ob b=K.ob b:=λo b hb h1 h2=>(cv h1).trans ((T b Om h2).trans (N b hb));have EC : ∀b j i,j<=7->ow b=some (i,j)->b≠p/\b≠q:=λb j i V e=>⟨λI=>by rw[I,t] at e;cases e;omega,λI=>by rw[I,Z] at e;cases e;omega⟩;refine⟨λb=>bY b≠none,⟨bY,_,bs++ [K.nx+2],λb=>dS,λb hb=> ?_,?_,by rw[bP,iP rfl],?_⟩,?_⟩
   ·have hb:(if b=K.nx+2 then some (bs.length,0) else if b=r then some (bs.length,1) else if b=a.nx+1 then some (0,9) else ow b)≠none:=hb;show b<s.nx;by_cases h1:b=K.nx+2
    ·omega
    rw[iN h1] at hb;by_cases h2:b=r
    ·omega
    rw[iN h2] at hb;by_cases h3:b=a.nx+1
    ·omega
    rw[iN h3] at hb;have:=Y b hb;omega
   ·exact((mJ .dead).ow p dK).trans t
   ·refine⟨a.nx+1, .gr,Sm,?_,by show a.nx+1<s.nx;omega,(cv Om).trans k1,rfl,⟨?_,?_⟩⟩;·show(if a.nx+1=K.nx+2 then _ else if a.nx+1=r then _ else if a.nx+1=a.nx+1 then some (0,9) else _)=_;rw[iN Om,iN Om,iP rfl]
    ·rw[Xl,iP D];simp[u.len]
    rw[Xl,iP D,QS];intro i F b U hb;by_cases Kq:i<bs.length
    ·rw[tP Kq] at hb;rw[tP (by rw[<-u.len];exact Kq)] at U;refine(u.get i F b U hb).mv (mJ _) λb2 j g1 g2 g3=> ?_;obtain⟨n1,n2⟩:=EC b2 j i g3 g2;exact jE _ b2 g1 n1 n2
    have Ks:i<(bs++ [K.nx+2]).length:=(List.getElem?_eq_some_iff.1 hb).1;have hi:i=bs.length:=by simp at Ks;omega
    subst hi;rw[uN (al _),GJ] at hb;rw[uN (by rw[u.len];exact al _),u.len,GJ] at U;cases hb;cases U;have tK:=(T (K.nx+2) Om Om).trans Xn;refine⟨by show(if K.nx+2=K.nx+2 then _ else _)=_;rw[iP rfl],by show K.nx+2<s.nx;omega,vp,_,_,_,_,_,_,(cv Om).trans tK,⟨?_, .inl ⟨rfl,rfl⟩, .inl ⟨rfl,rfl⟩, .inl ⟨rfl,rfl⟩,rfl,rfl,rfl⟩⟩;rcases hr3 with g | ⟨S,g1,g2,g3,g4⟩
    ·exact .inl g
    refine .inr ⟨r,S,g1,?_,by show r<s.nx;omega,(cv Om).trans ((T r g2 Om).trans g3),g4⟩;show(if r=K.nx+2 then _ else if r=r then some (bs.length,1) else _)=_;rw[iN Om,iP rfl]
   refine⟨by show K.nx<=s.nx;omega,λb hb hw _=>jE _ b hb (λe=>hw ((O b).2 (by rw[e,t];simp))) (λe=>hw ((O b).2 (by rw[e,Z];simp))),λb hb=> ?_⟩;by_cases Mi:b<K.nx
   ·exact .inl ((O b).2 (by rw[<-(mJ .dead).ow b Mi];exact hb))
   exact .inr Om
 have xy : ¬(k=8\/k=50):=λe=>D (decide_eq_true e);refine du Rl Kr (aV ?_);repeat' (first | (simp (disch:=first | omega | (decide +kernel)) only[↓RD,RU,↓aP,↓aT,↓bf,gJ,cV,bK,fS,pop,aD,da,bT,fj,isVal,dp,↓reduceIte,Nat.reduceEqDiff,Int.reduceOfNat,reduceCtorEq,ρ5,ρ26,ρ28]) | ((with_reducible first|apply aF|apply aG|apply aH)<;>intro _))
 have e0:ag K ((K.new (.cells [.int .i64 (k:Nat), .int .i64 l, .string (tx x), .int .i64 (o:Nat), .slice nq ks.length ks.length] 26 .ex)).new (.cells [.int .i64 (h.f:Nat), .bool h.lp, .bool h.hd, .bool h.mb] 69 .ex)):=((ag.refl K).new _).new _;refine⟨W,?_,VX.ext e0⟩;have:=JF.ok.hx X e0;obtain⟨ow,v,bs,g1,g2,g3,g4,g5⟩:=this;refine⟨ow,v,bs,g1,g2,g3,g4,?_⟩;rw[Xl,iN D,jz];exact g5
theorem aph(fns:List ah)(pre:List Ev)(e:Ev):sG fns (pre++ [e])=dC (sG fns pre) e.2.f (Dy e):=by
 unfold sG;rw[NI];rfl
theorem MM(fns:List ah) : ∀pre:List Ev,(sG fns pre).length=fns.length:=by
 intro pre;unfold sG;induction pre generalizing fns with
 | nil=>rfl
 | cons e pre a=>rw[yt,a,BS]
theorem api(fns:List ah)(pre:List Ev)(e:Ev):tG fns (pre++ [e])=dC (tG fns pre) e.2.f (tF e):=by
 unfold tG;rw[NI];rfl
theorem QT(fns:List ah) : ∀pre:List Ev,(tG fns pre).length=fns.length:=by
 intro pre;unfold tG;induction pre generalizing fns with
 | nil=>rfl
 | cons e pre a=>rw[yt,a,BS]
theorem zP{bs:List Nat}{i b:Nat}(h:bs[i]? = some b):(bs.flatMap λb=> [pN b])[i]? = some (pN b)/\i<(bs.flatMap λb=> [pN b]).length:=by
 have e:(bs.flatMap λb=> [pN b])=bs.map pN:=by
  rw[List.flatMap_def];clear h;induction bs with
  | nil=>rfl
  | cons a r c=>rw[dG,List.flatten_cons,c];rfl
 rw[e,hY,h];obtain⟨hi,_⟩:=List.getElem?_eq_some_iff.1 h;exact⟨rfl,by rw[fh];exact hi⟩
def CsJ (K0:CH)(a:Nat)(LL:List Bs)(ks:List Nd)(n:Nat)(v:ae)(b:CH):Prop:=∃i:Nat,n=ks.length-i/\i<=ks.length/\v= .int .i64 (i:Nat)/\c7 a K0 b/\gH b a (mf (LL++(ks.take i).map Nd.text))
def CnJ (K0:CH)(ks:List Nd)(n:Nat)(v:ae)(a:CH):Prop:=∃i:Nat,n=ks.length-i/\i<=ks.length/\v= .int .i64 (i:Nat)/\ag K0 a
theorem wQ{K:CH}{ow:Ow}{a:Nat×Nat}{v:ae}{L:List Bs}(h:uE true K ow a v L) : ∃m,v= .map (some m)/\ow m=some a/\m<K.nx/\gH K m (mf L):=by
 unfold uE at h;rw[iP rfl] at h;exact h
theorem IM{K:CH}{ow:Ow}{a:Nat×Nat}{m:Nat}{L:List Bs}(h1:ow m=some a)(h2:m<K.nx)(h3:gH K m (mf L)):uE true K ow a (.map (some m)) L:=by
 unfold uE;rw[iP rfl];exact⟨m,rfl,h1,h2,h3⟩
theorem apj{p:Nat}{E:List Ev}{R:List ah}(hf : ∀e∈E,e.2.f<R.length):DB 55 [pN p] E (JF true p (sG R)):=by
 rintro pre ⟨⟨k,l,x,o,ks⟩,h⟩ rest K W A os vH hj hs hA;obtain⟨ow,v,bs,O,aN,iq,bp,kw⟩:=hj;have wR:=kw;obtain⟨q,kd,rfl,pe,uF,iA,fc,e9⟩:=kw;obtain⟨nq,rfl,eT⟩:=ij hs;obtain⟨_,e5,fO,nK,fY⟩:=mI eT;cases e5;rw[gZ] at fO;have dK:p<K.nx:=aN p (by rw[iq];simp);have gd:h.f<R.length:=hf (.mk k l x o ks,h) (by rw[<-vH];simp);obtain⟨F,hF⟩ : ∃F,(sG R pre)[h.f]? = some F:=⟨_,bM (by rw[MM];exact gd)⟩;obtain⟨b,hb⟩ : ∃b,bs[h.f]? = some b:=⟨_,bM (by rw[e9.len,MM];exact gd)⟩;obtain⟨ai,gT,vp,vl,vc,vf,m1,m2,m3,dH,H⟩:=e9.get h.f F b hF hb;obtain⟨r,rfl,P,l7,S⟩:=wQ H.g;obtain⟨s,rfl,Q,uA,T⟩:=wQ H.o;obtain⟨jy,tm⟩:=zP hb;have dN:h.f<bs.length:=by rw[e9.len,MM];exact gd
 have Cf : ∀x i j,ow x=some (i,j)->(i≠h.f\/j≠0)->x≠b:=λx i j e hn U=>by rw[U,ai] at e;simp only[Option.some.injEq,Prod.mk.injEq] at e;omega
 have uq : ∀x i j,ow x=some (i,j)->(i≠h.f\/j≠6)->x≠r:=λx i j e hn U=>by rw[U,P] at e;simp only[Option.some.injEq,Prod.mk.injEq] at e;omega
 have V : ∀x i j,ow x=some (i,j)->(i≠h.f\/j≠7)->x≠s:=λx i j e hn U=>by rw[U,Q] at e;simp only[Option.some.injEq,Prod.mk.injEq] at e;omega
 have X:r≠b:=Cf r _ _ P (.inr de);have Y:s≠b:=Cf s _ _ Q (.inr de);have xN:p≠b:=Cf p _ _ iq (.inr de);have Z:ag K ((K.new (.cells [.int .i64 (k:Nat), .int .i64 l, .string (tx x), .int .i64 (o:Nat), .slice nq ks.length ks.length] 26 .ex)).new (.cells [.int .i64 (h.f:Nat), .bool h.lp, .bool h.hd, .bool h.mb] 69 .ex)):=((ag.refl K).new _).new _;have CF : ∀(d:CH) (gg oo:List Bs) (gn:Bool),K.nx<=d.nx->(∀y,y<K.nx->y≠r->y≠s->d.ob y=K.ob y)->gH d r (mf gg)->gH d s (mf oo)->Dy (.mk k l x o ks,h) F= { F with g:=gg,o:=oo,gen:=gn }->
  ∃W',JF true p (sG R) (pre++ [(.mk k l x o ks,h)]) (d.set b (.cells [.string (tx F.nm), .int .i64 F.par,vp,vl,vc,vf, .bool gn,m1, .map (some r), .map (some s)] 75 .ex)) W'/\VX n9 W W' K (d.set b (.cells [.string (tx F.nm), .int .i64 F.par,vp,vl,vc,vf, .bool gn,m1, .map (some r), .map (some s)] 75 .ex)):=by
  intro d gg oo gn w kH s7 vn apk;have I : ∀y i j,y<K.nx->ow y=some (i,j)->(i≠h.f\/(j≠0/\j≠6/\j≠7))->(d.set b (.cells [.string (tx F.nm), .int .i64 F.par,vp,vl,vc,vf, .bool gn,m1, .map (some r), .map (some s)] 75 .ex)).ob y=K.ob y:=λy i j g1 g2 g3=>(cv (Cf y i j g2 Om)).trans (kH y g1 (uq y i j g2 Om) (V y i j g2 Om));refine⟨W,⟨ow,_,bs,O,λy J=>cj (aN y J) w,iq,(I p _ _ dK iq (.inr de)).trans bp,?_⟩,⟨w,λy g1 g2 _=> ?_,λ_ g=> .inl g⟩⟩
  ·rw[aph];refine wR.db hF hb (.refl w) (λy i j g1 g2 g3=>I y i j g1 g2 (by have g3:i≠h.f\/7<j:=g3;omega)) ?_;rw[apk];refine⟨ai,by show b<d.nx;omega,vp,vl,vc,vf,m1,_,_,by rw[bP,iP rfl],?_⟩;refine⟨H.p.mv (.refl w) λy g1 g2=>I y _ _ g1 g2 (.inr de),H.l.mv (.refl w) λy g1 g2=>I y _ _ g1 g2 (.inr de),H.c.mv (.refl w) λy g1 g2=>I y _ _ g1 g2 (.inr de),H.f.mv (.refl w) λy g1 g2=>I y _ _ g1 g2 (.inr de),H.b.mv (.refl w) λy g1 g2=>I y _ _ g1 g2 (.inr de),?_,?_⟩;·exact IM P (by show r<d.nx;omega) (s7.ext (cv X))
   exact IM Q (by show s<d.nx;omega) (vn.ext (cv Y))
  have IN:W b:=(O b).2 (by rw[ai];simp);have hW2:W r:=(O _).2 (by rw[P];simp);have QO:W s:=(O _).2 (by rw[Q];simp);exact(cv λe=>g2 (by rw[e];exact IN)).trans (kH y g1 (λe=>g2 (by rw[e];exact hW2)) λe=>g2 (by rw[e];exact QO))
 unfold rC;by_cases hk:k=17
 ·subst hk;refine du Rl Kr (aV ?_);refine rn (gy @bp @iA @jy @dN) ?_;refine fC (λn fr d=>CsJ ((K.new (.cells [.int .i64 ((17:Nat):Int), .int .i64 l, .string (tx x), .int .i64 (o:Nat), .slice nq ks.length ks.length] 26 .ex)).new (.cells [.int .i64 (h.f:Nat), .bool h.lp, .bool h.hd, .bool h.mb] 69 .ex)) r F.g ks n (fr 16) d) (n:=ks.length) ⟨0,rfl,cx _,by(refine aC ?_;all_goals rfl),c7.refl _,by rw[xd,nz,jz];exact S.ext (Z.ob _ Om)⟩ ?_;rintro n fr d ⟨i,rfl,hi,f16,u,L⟩ z;have w:K.nx+1+1<=d.nx:=u.nx;have a : ∀y,y<K.nx->y≠r->d.ob y=K.ob y:=λy J hc=>(u.ob y (by show y<K.nx+1+1;omega) hc).trans (Z.ob y J);have B:=(a b gT (Ne.symm X)).trans dH;have C:=(u.ob K.nx (by show K.nx<K.nx+1+1;omega) Om).trans ((bQ (by show K.nx≠K.nx+1;omega)).trans jf);by_cases t:i<ks.length
  ·obtain⟨m,M⟩ : ∃m,ks[i]? = some m:=⟨_,bM t⟩;obtain⟨D,cs,e,lh,G,N,ob,yg,nI,nj,aL⟩:=fY i m M;have apl:W r:=(O _).2 (by rw[P];simp);have jx:=(a D (hA D N).1 (λe=>(hA D N).2 (e▸apl))).trans ob;obtain⟨mk,ml,mx,mo,cH⟩:=m;obtain⟨mq,dq,zL⟩:=ij aL;obtain⟨oo,pf,kN⟩:=L.up mx 1;have QS:r<d.nx:=by omega
   repeat' (first | (simp (disch:=first | omega | (decide +kernel)) only[↓eF,↓pF,↓dy,↓si,↓sk,↓gX,↓lF,↓gO,↓iI,↓eR,↓eS,↓dY,↓fB,↓ti,↓mz,↓aP,↓ez,↓aT,↓bf,cV,bP,dX,pE,th,↓eQ,↓nM,iJ,y7,sn,gY,pop,aD,da,bD,fj,isVal,bu,dp,↓reduceIte,Nat.reduceEqDiff,Nat.reduceAdd,fK,fL,cw,cX,qM,tR,jz,yA,yz,GM,Cc,Kd.cD,qB,tS,al,iK,iP,iN,bJ,lP,gj,and_true,z,f16,G,jx,dq,B,C,pf,bJ]) | ((with_reducible first|apply aF|apply aG|apply aH)<;>intro _))
   refine⟨ks.length-(i+1),Om,i+1,rfl,t,rfl,?_,?_⟩;·rw[<-G];exact((u.new _).set (.inl (by show K.nx+1+1<=d.nx;omega)) _).set (.inr rfl) _
   have et:F.g++(ks.take (i+1)).map Nd.text=(F.g++(ks.take i).map Nd.text)++ [mx]:=by
    obtain⟨_,e⟩:=List.getElem?_eq_some_iff.1 M;rw[rL t,e,Ah,rP];rfl
   rw[et,<-DK];exact kN _ (by rw[bP,iP rfl])
  have t:i=ks.length:=by omega
  subst t;rw[pQ] at L;have od:F.gen=true\/F.gen=false:=by cases F.gen<;>simp
  rcases od with od | od
  all_goals
   refine rn (iD @z @f16 @B @C @od) ?_;exact CF d _ _ _ Om (λy h1 h2 h3=>a y h1 h2) L (T.ext (a s uA (uq s _ _ Q (.inr de)))) (by simp[Dy,Nd.kind,Nd.kids,od])
 by_cases jq:k=18
 ·subst jq;refine du Rl Kr (aV ?_);refine rn (gy @bp @iA @jy @dN) ?_;refine fC (λn fr d=>CsJ ((K.new (.cells [.int .i64 ((18:Nat):Int), .int .i64 l, .string (tx x), .int .i64 (o:Nat), .slice nq ks.length ks.length] 26 .ex)).new (.cells [.int .i64 (h.f:Nat), .bool h.lp, .bool h.hd, .bool h.mb] 69 .ex)) s F.o ks n (fr 16) d) (n:=ks.length) ⟨0,rfl,cx _,by(refine aC ?_;all_goals rfl),c7.refl _,by rw[xd,nz,jz];exact T.ext (Z.ob _ Om)⟩ ?_;rintro n fr d ⟨i,rfl,hi,f16,u,L⟩ z;have w:K.nx+1+1<=d.nx:=u.nx;have a : ∀y,y<K.nx->y≠s->d.ob y=K.ob y:=λy J hc=>(u.ob y (by show y<K.nx+1+1;omega) hc).trans (Z.ob y J);have B:=(a b gT (Ne.symm Y)).trans dH;have C:=(u.ob K.nx (by show K.nx<K.nx+1+1;omega) Om).trans ((bQ (by show K.nx≠K.nx+1;omega)).trans jf);by_cases t:i<ks.length
  ·obtain⟨m,M⟩ : ∃m,ks[i]? = some m:=⟨_,bM t⟩;obtain⟨D,cs,e,lh,G,N,ob,yg,nI,nj,aL⟩:=fY i m M;have apm:W s:=(O _).2 (by rw[Q];simp);have jx:=(a D (hA D N).1 (λe=>(hA D N).2 (e▸apm))).trans ob;obtain⟨mk,ml,mx,mo,cH⟩:=m;obtain⟨mq,dq,zL⟩:=ij aL;obtain⟨oo,pf,kN⟩:=L.up mx 1;have QS:s<d.nx:=by omega
   repeat' (first | (simp (disch:=first | omega | (decide +kernel)) only[↓eF,↓pF,↓dy,↓si,↓sk,↓gX,↓lF,↓gO,↓iI,↓qL,↓eR,↓eS,↓dY,↓fB,↓ti,↓mz,↓aP,↓ez,↓aT,↓bf,cV,bP,dX,pE,th,↓eQ,↓nM,iJ,y7,sn,gY,pop,aD,da,bD,fj,isVal,bu,dp,↓reduceIte,Nat.reduceEqDiff,Nat.reduceAdd,fK,fL,cw,cX,qM,tR,jz,yA,yz,GM,Cc,Kd.cD,qB,tS,al,iK,qN,iP,iN,bJ,lP,gj,and_true,z,f16,G,jx,dq,B,C,pf,bJ]) | ((with_reducible first|apply aF|apply aG|apply aH)<;>intro _))
   refine⟨ks.length-(i+1),Om,i+1,rfl,t,rfl,?_,?_⟩;·rw[<-G];exact((u.new _).set (.inl (by show K.nx+1+1<=d.nx;omega)) _).set (.inr rfl) _
   have et:F.o++(ks.take (i+1)).map Nd.text=(F.o++(ks.take i).map Nd.text)++ [mx]:=by
    obtain⟨_,e⟩:=List.getElem?_eq_some_iff.1 M;rw[rL t,e,Ah,rP];rfl
   rw[et,<-DK];exact kN _ (by rw[bP,iP rfl])
  have t:i=ks.length:=by omega
  subst t;rw[pQ] at L;have od:F.gen=true\/F.gen=false:=by cases F.gen<;>simp
  rcases od with od | od
  all_goals
   refine rn (iD @z @f16 @B @C @od) ?_;exact CF d _ _ _ Om (λy h1 h2 h3=>a y h1 h3) (S.ext (a r l7 (V r _ _ P (.inr de)))) L (by simp[Dy,Nd.kind,Nd.kids,od])
 refine du Rl Kr (aV ?_);refine rn (gy @bp @iA @jy @dN) ?_;refine fC (λn fr d=>CnJ ((K.new (.cells [.int .i64 (k:Nat), .int .i64 l, .string (tx x), .int .i64 (o:Nat), .slice nq ks.length ks.length] 26 .ex)).new (.cells [.int .i64 (h.f:Nat), .bool h.lp, .bool h.hd, .bool h.mb] 69 .ex)) ks n (fr 16) d) (n:=ks.length) ⟨0,rfl,cx _,by(refine aC ?_;all_goals rfl),ag.refl _⟩ ?_;rintro n fr d ⟨i,rfl,hi,f16,u⟩ z;have w:K.nx+1+1<=d.nx:=u.nx;have a : ∀y,y<K.nx->d.ob y=K.ob y:=λy J=>(u.ob y (by show y<K.nx+1+1;omega)).trans (Z.ob y J);have B:=(a b gT).trans dH;have C:=(u.ob K.nx (by show K.nx<K.nx+1+1;omega)).trans ((bQ (by show K.nx≠K.nx+1;omega)).trans jf);by_cases t:i<ks.length
 ·obtain⟨m,M⟩ : ∃m,ks[i]? = some m:=⟨_,bM t⟩;obtain⟨D,cs,e,lh,G,N,ob,yg,nI,nj,aL⟩:=fY i m M;have jx:=(a D (hA D N).1).trans ob;obtain⟨mk,ml,mx,mo,cH⟩:=m;obtain⟨mq,dq,zL⟩:=ij aL;refine rn (oA @z @f16 @G @jx @dq @B @C @bJ) ?_;refine⟨ks.length-(i+1),Om,i+1,rfl,t,rfl,?_⟩;rw[<-G];exact(u.new _).set (by show K.nx+1+1<=d.nx;omega) _
 have t:i=ks.length:=by omega
 subst t;have od:F.gen=true\/F.gen=false:=by cases F.gen<;>simp
 rcases od with od | od
 ·refine rn (iD @z @f16 @B @C @od) ?_;exact CF d _ _ _ Om (λy h1 _ _=>a y h1) (S.ext (a r l7)) (T.ext (a s uA)) (by simp[Dy,Nd.kind,Nd.kids,od,hk,jq])
 by_cases zr:k=60
 ·subst zr;refine rn (iD @z @f16 @B @C @od) ?_;exact CF d _ _ _ Om (λy h1 _ _=>a y h1) (S.ext (a r l7)) (T.ext (a s uA)) (by simp[Dy,Nd.kind,Nd.kids,od])
 refine rn (iD @z @f16 @B @C @od) ?_;exact CF d _ _ _ Om (λy h1 _ _=>a y h1) (S.ext (a r l7)) (T.ext (a s uA)) (by simp[Dy,Nd.kind,Nd.kids,od,hk,jq,zr])
theorem apn{K:CH}{q:Option Addr}{c:Nat}{src:List UInt8}(h:gU 1 (pG .u8) K q c (mF src))(t:src.length<=9223372036854775807):aR gE 128 [.slice q src.length c, .int .u8 46] K λr K'=>K'=K/\∃z:Int,r= .int .i64 z/\(0<=z↔(46:UInt8)∈src):=by
 refine du Rl Kr (aV ?_);refine aC ?_;refine fC (λm fr d=>∃i:Nat,m=src.length-i/\i<=src.length/\fr 8= .int .i64 (i:Nat)/\d=K/\∀j (a:j<src.length),j<i->src[j]≠46) (n:=src.length) ⟨0,rfl,Om,by(refine aC ?_;all_goals rfl),rfl,λj _ h=>absurd h Om⟩ ?_;rintro m fr d ⟨i,rfl,hi,f8,rfl,hn⟩ s;by_cases b:i<src.length
 ·obtain⟨l,o,os,e,kd,rfl,h4,h5,g⟩ : ∃l o os e kd,q=some ⟨l,o,none⟩/\d.ob l= .cells os e kd/\o+src.length<=os.length/\os[o+i]? = some (.int .u8 (src[i].toNat:Nat)):=by
   rcases h with ⟨h,_⟩ | ⟨l,o,os,e,kd,rfl,h1,h2,h3,h4,h5,u⟩
   ·rw[<-Dd,h] at b;cases b
   rw[Dd] at h5;have g:=(u i (by rw[Dd];exact b)).1;rw[iB,rQ Om] at g;simp only[Ai,xd,List.cons.injEq,and_true] at g;refine⟨l,o,os,e,kd,rfl,h4,Om,?_⟩;rw[bM Om,g];simp[mF]
  by_cases he:src[i]=46
  ·have hv:(src[i].toNat:Int)=46:=by rw[he];rfl
   rw[hv] at g;refine rn (gy @s @f8 @h4 @g) ?_;exact⟨_,rfl,⟨λ_=>he▸List.getElem_mem b,λ_=>by omega⟩⟩
  have hv:(src[i].toNat:Int)≠46:=λe=>he (by
   apply UInt8.toNat.inj;have:src[i].toNat=46:=by omega
   rw[this];rfl)
  refine rn (iD @s @f8 @h4 @g @hv) ?_;all_goals exact⟨src.length-(i+1),Om,i+1,rfl,Om,rfl,λj a v=>by
   by_cases e:j=i
   ·subst e;exact he
   exact hn j a Om⟩
 refine rn (an @s @f8) ?_;refine⟨_,rfl,⟨λh=>absurd h de,λt=> ?_⟩⟩;obtain⟨j,a,e⟩:=List.getElem_of_mem t;exact absurd e (hn j a Om)
theorem apo{K:CH}{q:Option Addr}{c:Nat}{src:List UInt8}(h:gU 1 (pG .u8) K q c (mF src))(b:src.length<=9223372036854775807):aR gE 95 [.slice q src.length c, .int .u8 46] K λr K'=>K'=K/\r= .bool (decide ((46:UInt8)∈src)):=by
 refine du Rl Kr (aV ?_);refine aC ?_;refine(apn h b).mono λr K' ⟨e,z,d,hz⟩=> ?_;subst d;rw[e];by_cases hp:(46:UInt8)∈src
 ·have a:=hz.2 hp;rw[decide_eq_true hp];exact rz @a
 have a : ¬ 0<=z:=λg=>hp (hz.1 g);rw[decide_eq_false hp];exact rz @a
structure QU{α:Type}(P:Nat->α->CH->(Nat->Prop)->Prop):Prop where
 st : ∀r a K K' W,P r a K W->K.nx<=K'.nx->(∀b,W b->K'.ob b=K.ob b)->P r a K' W
 lt : ∀r a K W,P r a K W->∀b,W b->b<K.nx
theorem QU.hx{α:Type}{P:Nat->α->CH->(Nat->Prop)->Prop}(c:QU P){r:Nat}{a:α}{K K':CH}{W:Nat->Prop}(h:P r a K W)(hx:ag K K'):P r a K' W:=c.st r a K K' W h hx.nx λb hb=>hx.ob b (c.lt r a K W h b hb)
def aeK{α:Type}(b:aU)(cap:List ae)(P:Nat->α->CH->(Nat->Prop)->Prop)(step:α->Bs->α):Prop:=∀(r:Nat) (a:α) (s:Bs) (K:CH) (W:Nat->Prop),P (r+1) a K W->s.length<=2199023255552->aR gE b (.string (tx s)::cap) K λ_ K'=>∃W',P r (step a s) K' W'/\VX n9 W W' K K'
def PgJ {α:Type}(P:Nat->α->CH->(Nat->Prop)->Prop)(step:α->Bs->α)(r:Nat)(a:α)(K:CH)(W:Nat->Prop)(ks:List Nd)(n:Nat)(v:ae)(b:CH):Prop:=∃(i:Nat) (c:Nat->Prop),n=ks.length-i/\i<=ks.length/\v= .int .i64 (i:Nat)/\P ((eE (ks.drop i)).length+r) ((eE (ks.take i)).foldl step a) b c/\VX n9 W c K b
theorem aeL{α:Type}{B:aU}{cap:List ae}{P:Nat->α->CH->(Nat->Prop)->Prop}{step:α->Bs->α}(l:QU P)(he:aeK B cap P step) : ∀(N:Nat) (t:Nd),eV t<=N->ru 2199023255552 t->∀(K:CH) (W A:Nat->Prop) (os:List ae) (r:Nat) (a:α),b9 K A (dr t) os->(∀b,A b->b<K.nx/\¬W b)->P ((fy t).length+r) a K W->aR gE 48 [.agg os.toArray, .func (.func B) #[] cap.toArray] K λ_ K'=>∃W',P r ((fy t).foldl step a) K' W'/\VX n9 W W' K K':=by
 intro N;induction N with
 | zero=>intro t h;cases t;simp[eV] at h
 | succ N O=>
 rintro⟨tk,tl,x,o,ks⟩ Q hT K W A os r a hs hA hp;obtain⟨q,rfl,R⟩:=ij hs;obtain⟨q',e,S,nK,T⟩:=mI R;cases e;rw[gZ] at S;have d:ag K (K.new (.cells [.int .i64 (tk:Nat), .int .i64 tl, .string (tx x), .int .i64 (o:Nat), .slice q ks.length ks.length] 26 .ex)):=(ag.refl K).new _;have rD:=l.lt _ a K W hp;by_cases C:tk=36
 ·subst C;refine du Rl Kr (aV ?_);refine aC ?_;rw[fy,iP rfl] at hp;have hp:P (r+1) a K W:=by rw[Nat.add_comm];exact hp
  refine(he r a x _ W (l.hx hp d) hT.1).mono λv K' ⟨W',h1,h2⟩=> ?_;refine aC ?_;rw[fy,iP rfl];exact⟨W',h1,(VX.ext d).trans h2⟩
 by_cases h5:tk=52\/tk=51
 ·rcases h5 with rfl | rfl
  all_goals
   rw[fy,iN de,iP de] at hp⊢;refine du Rl Kr (aV ?_);refine aC ?_;refine fC (λn fr c=>PgJ P step r a (K.new _) W ks n (fr 20) c) (n:=ks.length) ⟨0,W,rfl,cx _,by(refine aC ?_;all_goals rfl),l.hx hp d, .ext (ag.refl _)⟩ ?_;rintro n fr c ⟨i,D,rfl,hi,f20,m,s⟩ u;have eG:K.nx+1<=c.nx:=s.nx;have y:=(VX.ext d).trans s;by_cases j:i<ks.length
   ·obtain⟨t,ht⟩ : ∃t,ks[i]? = some t:=⟨_,bM j⟩;obtain⟨b,cs,e,kd,U,hb,ob,fc,cR,nj,E⟩:=T i t ht;subst U;have G : ∀b,A b->c.ob b=K.ob b:=λb hb=>y.ob b (hA b hb).1 (hA b hb).2 id;have V:=(G b hb).trans ob;obtain⟨k',l',x',o',H,I,J,L⟩:=Dr E;have X:eE (ks.take (i+1))=eE (ks.take i)++fy t:=by
     obtain⟨_,e⟩:=List.getElem?_eq_some_iff.1 ht;rw[rL j,e,Mh];simp[eE]
    have z:ag c (c.new (.cells [.int .i64 k', .int .i64 l', .string x', .int .i64 o', .slice H I J] 26 .ex)):=(ag.refl c).new _;have Y:(eE (ks.drop i)).length=(fy t).length+(eE (ks.drop (i+1))).length:=by
     obtain⟨_,e⟩:=List.getElem?_eq_some_iff.1 ht;rw[rQ j,e,eE,cO]
    rw[Y,mP] at m;have M:=O t (bW (BH (fi ht)) (by simp only[eV] at Q;omega)) (QK hT.2 (fi ht)) (c.new (.cells [.int .i64 k', .int .i64 l', .string x', .int .i64 o', .slice H I J] 26 .ex)) D A _ _ _ (E.mv λb hb=>⟨hb,(z.ob b (by have:=(hA b hb).1;omega)).trans (G b hb)⟩) (λb hb=>⟨by have:=(hA b hb).1;show b<c.nx+1;omega,λw=>(y.w b w).elim (hA b hb).2 λg=>by have:=(hA b hb).1;omega⟩) (l.hx m z);rw[L] at M;refine rn (rR @u @f20 @V @L @bJ @pJ) ?_;refine M.mono λv K2 ⟨Z,jL,oa⟩=> ?_;refine rn (an @u @f20) ?_;exact⟨ks.length-(i+1),Om,i+1,Z,rfl,j,rfl,by rw[X,NI];exact jL,(s.trans (VX.ext z)).trans oa⟩
   have j:i=ks.length:=by omega
   subst j;rw[pQ,Ak,eE,cX,bJ] at m;refine rn (an @u @f20) ?_;exact⟨D,m,y⟩
 refine du Rl Kr (aV ?_);refine aC ?_;rw[fy,iN C,iN h5] at hp⊢;rw[cX,bJ] at hp;exact⟨W,l.hx hp d,VX.ext d⟩
theorem og{L:List Bs}{s:Bs}(h:s∈L):mf L s=1:=iP h
theorem oh{L:List Bs}{s:Bs}(h:s∉L):mf L s=0:=iN h
def PB (p i b bg bh:Nat)(h:Wh)(fns:List ah):Nat->ah->CH->(Nat->Prop)->Prop:=λr F K W=>F.ls.length+r<=1099511627776/\∃(ow:Ow) (v:ae) (bs:List Nat),(∀b,W b↔ow b≠none)/\(∀b,ow b≠none->b<K.nx)/\ow p=some (0,8)/\K.ob p= .cells [v] 65 .ex/\j0 true K ow v (dC fns i λ_=>F) bs/\bs[i]? = some b/\ow bg=some (0,10)/\K.ob bg= .cells [pN b] 73 .ex/\ow bh=some (0,11)/\K.ob bh= .cells [.int .i64 (h.f:Nat), .bool h.lp, .bool h.hd, .bool h.mb] 69 .ex
theorem PB.ok{p i b bg bh:Nat}{h:Wh}{fns:List ah}:QU (PB p i b bg bh h fns) where
 st:=λr F K K' W ⟨d,ow,v,bs,h1,h2,h3,h4,h5,e,a,f,c,g⟩ hn hx=>⟨d,ow,v,bs,h1,λb hb=>cj (h2 b hb) hn,h3,(hx p ((h1 p).2 (by rw[h3];simp))).trans h4,h5.mv (.refl hn) λb _ hb=>hx b ((h1 b).2 hb),e,a,(hx bg ((h1 bg).2 (by rw[a];simp))).trans f,c,(hx bh ((h1 bh).2 (by rw[c];simp))).trans g⟩
 lt:=λr F K W ⟨_,ow,v,bs,h1,h2,_⟩ b hb=>h2 b ((h1 b).1 hb)
def MN (i:Nat)(F:ah)(s:Bs):Prop:=s= []\/s∈F.ps\/s∈F.ls\/s∈F.g\/s∈F.o\/(i=0/\(46:UInt8)∉s)
def BoM (K:CH)(i:Nat)(F:ah)(s:Bs)(bg bh:Nat)(x:bq)(fr:Fr)(H:CH):Prop:=ag K H/\((x= .normal/\fr 0= .string (tx s)/\fr 1=pN bg/\fr 2=pN bh/\¬MN i F s)\/(x= .ret/\MN i F s))
theorem Xo{fns:List ah}{i:Nat}{F:ah}{u:ah->ah}:dC (dC fns i λ_=>F) i u=dC fns i λ_=>u F:=by
 unfold dC;apply Ca;intro j;simp only[vV];by_cases h:i=j
 ·simp only[iP h];cases fns[j]?<;>rfl
 simp only[iN h];cases fns[j]?<;>rfl
theorem Xp{fns:List ah}{i:Nat}{F:ah}(hi:i<fns.length):(dC fns i λ_=>F)[i]? = some F:=by
 unfold dC;rw[vV,bM hi];simp
theorem apq{p i b bg bh:Nat}{h:Wh}{fns:List ah}(hi:i<fns.length)(zS:h.f=i):aeK 94 [pN bg,pN bh] (PB p i b bg bh h fns) (tE i):=by
 rintro r F s K W ⟨uW,ow,v,bs,hW,T,U,bp,kw,wk,M,C,QV,QW⟩ jV;have wR:=kw;obtain⟨q,kd,rfl,pe,uF,iA,fc,e9⟩:=kw;obtain⟨N,gT,vp,vl,vc,vf,m1,m2,m3,G,E⟩:=e9.get i F b (Xp hi) wk;obtain⟨m,rfl,O,eG,rH⟩:=wQ E.b;obtain⟨mM,rfl,mr,l7,tL⟩:=wQ E.g;obtain⟨mN,rfl,sb,uA,zQ⟩:=wQ E.o;have zo:=T bg (by rw[M];simp);have V:=T bh (by rw[QV];simp);have w:=zb (a:=s) (b:= []);have I:=rH.lk s;have D:=tL.lk s;have t:=zQ.lk s;refine du Rl Kr (aV ?_);refine ao7 (BoM K i F s bg bh) ?_ ?_
 ·by_cases X:s= []
  ·rw[decide_eq_true X] at w;have w:bV (binOp .eql 0 (.string (tx s)) (.string ⟨⟨[]⟩⟩))=some (.bool true):=w;refine rn @w ?_;exact⟨ag.refl _, .inr ⟨rfl, .inl X⟩⟩
  rw[decide_eq_false X] at w;have w:bV (binOp .eql 0 (.string (tx s)) (.string ⟨⟨[]⟩⟩))=some (.bool false):=w;by_cases hp:s∈F.ps++F.ls
  ·rw[og hp] at I;have z:MN i F s:=(List.mem_append.1 hp).elim (λh=> .inr (.inl h)) λh=> .inr (.inr (.inl h));by_cases hg:s∈F.g
   ·rw[og hg] at D;by_cases ho:s∈F.o
    ·rw[og ho] at t;repeat' (first | (simp (disch:=first | omega | (decide +kernel)) only[↓eF,↓dy,↓lF,↓gO,↓iI,↓eR,↓nR,↓nS,↓sj,↓A9,↓eS,↓dY,↓fB,↓aP,↓aT,↓bf,dX,↓eQ,↓nN,bK,fS,iJ,jM,gY,pop,aD,↓reduceIte,Nat.reduceEqDiff,Int.reduceOfNat,reduceCtorEq,fK,fL,Int.reduceAdd,iK,bJ,w,C,G,I,D,t]) | ((with_reducible first|apply aF|apply aG|apply aH)<;>intro _))
     exact⟨ag.refl _, .inr ⟨rfl,z⟩⟩
    rw[oh ho] at t;repeat' (first | (simp (disch:=first | omega | (decide +kernel)) only[↓eF,↓dy,↓lF,↓gO,↓iI,↓eR,↓nR,↓nS,↓sj,↓A9,↓eS,↓dY,↓fB,↓aP,↓aT,↓bf,dX,↓eQ,↓nN,bK,fS,iJ,jM,gY,pop,aD,↓reduceIte,Nat.reduceEqDiff,Int.reduceOfNat,reduceCtorEq,fK,fL,Int.reduceAdd,sT,iK,bJ,w,C,G,I,D,t]) | ((with_reducible first|apply aF|apply aG|apply aH)<;>intro _))
    exact⟨ag.refl _, .inr ⟨rfl,z⟩⟩
   rw[oh hg] at D;by_cases ho:s∈F.o
   ·rw[og ho] at t;repeat' (first | (simp (disch:=first | omega | (decide +kernel)) only[↓eF,↓dy,↓lF,↓gO,↓iI,↓eR,↓nR,↓nS,↓sj,↓A9,↓eS,↓dY,↓fB,↓aP,↓aT,↓bf,dX,↓eQ,↓nN,bK,fS,iJ,jM,gY,pop,aD,↓reduceIte,Nat.reduceEqDiff,Int.reduceOfNat,reduceCtorEq,fK,fL,Int.reduceAdd,sT,iK,bJ,w,C,G,I,D,t]) | ((with_reducible first|apply aF|apply aG|apply aH)<;>intro _))
    exact⟨ag.refl _, .inr ⟨rfl,z⟩⟩
   rw[oh ho] at t;repeat' (first | (simp (disch:=first | omega | (decide +kernel)) only[↓eF,↓dy,↓lF,↓gO,↓iI,↓eR,↓nR,↓nS,↓sj,↓A9,↓eS,↓dY,↓fB,↓aP,↓aT,↓bf,dX,↓eQ,↓nN,bK,fS,iJ,jM,gY,pop,aD,↓reduceIte,Nat.reduceEqDiff,Int.reduceOfNat,reduceCtorEq,fK,fL,sT,iK,bJ,w,C,G,I,D,t]) | ((with_reducible first|apply aF|apply aG|apply aH)<;>intro _))
   exact⟨ag.refl _, .inr ⟨rfl,z⟩⟩
  rw[oh hp] at I;have zU:s∉F.ps/\s∉F.ls:=⟨λh=>hp (List.mem_append.2 (.inl h)),λh=>hp (List.mem_append.2 (.inr h))⟩;by_cases hg:s∈F.g
  ·rw[og hg] at D;have z:MN i F s:= .inr (.inr (.inr (.inl hg)));by_cases ho:s∈F.o
   ·rw[og ho] at t;repeat' (first | (simp (disch:=first | omega | (decide +kernel)) only[↓eF,↓dy,↓lF,↓gO,↓iI,↓eR,↓nR,↓nS,↓sj,↓A9,↓eS,↓dY,↓fB,↓aP,↓aT,↓bf,dX,↓eQ,↓nN,bK,fS,iJ,jM,gY,pop,aD,↓reduceIte,Nat.reduceEqDiff,Int.reduceOfNat,reduceCtorEq,fK,fL,Int.reduceAdd,Cd,iK,bJ,w,C,G,I,D,t]) | ((with_reducible first|apply aF|apply aG|apply aH)<;>intro _))
    exact⟨ag.refl _, .inr ⟨rfl,z⟩⟩
   rw[oh ho] at t;repeat' (first | (simp (disch:=first | omega | (decide +kernel)) only[↓eF,↓dy,↓lF,↓gO,↓iI,↓eR,↓nR,↓nS,↓sj,↓A9,↓eS,↓dY,↓fB,↓aP,↓aT,↓bf,dX,↓eQ,↓nN,bK,fS,iJ,jM,gY,pop,aD,↓reduceIte,Nat.reduceEqDiff,Int.reduceOfNat,reduceCtorEq,fK,fL,Cd,sT,iK,bJ,w,C,G,I,D,t]) | ((with_reducible first|apply aF|apply aG|apply aH)<;>intro _))
   exact⟨ag.refl _, .inr ⟨rfl,z⟩⟩
  rw[oh hg] at D;by_cases ho:s∈F.o
  ·rw[og ho] at t;have z:MN i F s:= .inr (.inr (.inr (.inr (.inl ho))));repeat' (first | (simp (disch:=first | omega | (decide +kernel)) only[↓eF,↓dy,↓lF,↓gO,↓iI,↓eR,↓nR,↓nS,↓sj,↓A9,↓eS,↓dY,↓fB,↓aP,↓aT,↓bf,dX,↓eQ,↓nN,bK,fS,iJ,jM,gY,pop,aD,↓reduceIte,Nat.reduceEqDiff,Int.reduceOfNat,reduceCtorEq,fK,fL,Cd,sT,iK,bJ,w,C,G,I,D,t]) | ((with_reducible first|apply aF|apply aG|apply aH)<;>intro _))
   exact⟨ag.refl _, .inr ⟨rfl,z⟩⟩
  rw[oh ho] at t;by_cases h0:i=0
  ·have lD:(h.f:Int)=0:=by omega
   have eM:(tx s).size<=9223372036854775807:=by show s.length<=_;omega
   have pu:ag K (K.new (.cells (s.map λb=> .int .u8 b.toNat) 5 .gr)):=(ag.refl K).new _;have hsa:gU 1 (pG .u8) (K.new (.cells (s.map λb=> .int .u8 b.toNat) 5 .gr)) (some ⟨K.nx,0,none⟩) s.length (mF s):=by
    refine .inr ⟨K.nx,0,_,_,_,rfl,iC _,by rw[Dd];exact al _,by rw[gZ];omega,jf,by rw[Dd];simp,λj hj=> ?_⟩;rw[Dd] at hj;rw[bJ,iB,rQ (by simpa using hj)];refine⟨by simp[mF],?_⟩;have aso:=s[j].toNat_lt;simp[mF,Lit.wf,IntKind.min,IntKind.max,IntKind.signed,IntKind.bits];omega
   repeat' (first | (simp (disch:=first | omega | (decide +kernel)) only[↓eF,↓lF,↓eR,↓nR,↓TX,↓nS,↓eS,↓dY,↓fB,↓mz,↓KK,↓aP,↓aT,↓bf,dX,pE,bK,fS,iJ,y7,jM,gY,pop,aD,bD,dG,nz,↓reduceIte,Nat.reduceEqDiff,Int.reduceOfNat,reduceCtorEq,fK,fL,sT,gZ,iK,qN,bJ,lP,w,C,QW,G,I,D,t,lD,eM]) | ((with_reducible first|apply aF|apply aG|apply aH)<;>intro _))
   refine(apo hsa Om).mono λr K' ⟨eK,er⟩=> ?_;subst er;rw[eK];by_cases jy:(46:UInt8)∈s
   ·rw[decide_eq_true jy];refine aC ?_;refine⟨pu, .inl ⟨rfl,by(exact aZ;all_goals rfl),by(exact aZ;all_goals rfl),by(exact aZ;all_goals rfl),λz=> ?_⟩⟩;rcases z with h | h | h | h | h | h
    ·exact X h
    ·exact zU.1 h
    ·exact zU.2 h
    ·exact hg h
    ·exact ho h
    exact h.2 jy
   rw[decide_eq_false jy];refine aC ?_;exact⟨pu, .inr ⟨rfl, .inr (.inr (.inr (.inr (.inr ⟨h0,jy⟩))))⟩⟩
  have lD:(h.f:Int)≠0:=by omega
  repeat' (first | (simp (disch:=first | omega | (decide +kernel)) only[↓eF,↓dy,↓lF,↓gO,↓qL,↓eR,↓nR,↓nS,↓TY,↓eS,↓dY,↓fB,↓aP,↓aT,↓bf,dX,↓eQ,↓nM,bK,fS,iJ,y7,jM,gY,pop,aD,↓reduceIte,Nat.reduceEqDiff,Int.reduceOfNat,reduceCtorEq,fK,fL,sT,qN,bJ,lP,w,C,QW,G,I,D,t,lD]) | ((with_reducible first|apply aF|apply aG|apply aH)<;>intro _))
  refine⟨ag.refl _, .inl ⟨rfl,by(exact aZ;all_goals rfl),by(exact aZ;all_goals rfl),by(exact aZ;all_goals rfl),λz=> ?_⟩⟩;rcases z with h | h | h | h | h | h
  ·exact X h
  ·exact zU.1 h
  ·exact zU.2 h
  ·exact hg h
  ·exact ho h
  exact h0 h.1
 rintro x1 fr H ⟨hx,⟨rfl,f0,f1,f2,mE⟩ | ⟨rfl,z⟩⟩
 ·have AZ:tE i F s= { F with ls:=F.ls++ [s] }:=iN mE;obtain⟨oo,pf,kN⟩:=rH.up s 1;have hnH:=hx.nx;have omm:=hx.ob m eG;rw[<-omm] at pf;have Y:=(hx.ob bg zo).trans C;have BT:=(hx.ob b gT).trans G;rw[dy,AZ];have Z:bg≠m:=λe=>by rw[e,O] at M;simp at M
  have apr:b≠m:=λe=>by rw[e,O] at N;simp at N
  have aps:b≠bg:=λe=>by rw[e,M] at N;simp at N
  have aeN : ∀x d,x<K.nx->ow x=some d->d≠(i,2)->ik vl x:=λx d _ e aA o n c B=>by
   rcases E.l with ⟨_,g⟩ | ⟨r',nV,g,g1,g2,_⟩
   ·rw[g] at B;cases B
   rw[g] at B;cases B;rw[g1] at e;cases e;exact aA rfl
  repeat' (first | (simp (disch:=first | omega | (decide +kernel)) only[↓eF,↓dy,↓gX,↓eR,↓Bc,↓y8,↓KP,oO,bS,↓eS,↓dY,↓fB,↓ti,↓mz,↓aP,↓ez,↓aT,↓bf,qE,cV,bP,dX,pE,th,↓eQ,pop,aD,da,bD,fj,isVal,dp,dG,nz,fg,↓reduceIte,Nat.reduceEqDiff,Int.reduceOfNat,reduceCtorEq,fK,fL,cw,cX,qM,qQ,xI,Ai,tR,ly,jz,GK,yA,qB,tS,iv,Nat.reduceLeDiff,al,wB,↓xH,qP,iB,bJ,lP,and_true,f0,f1,Y,BT,pf,Z,apr]) | ((with_reducible first|apply aF|apply aG|apply aH)<;>intro _))
  have aeO:gP (wP 0) 9 1 jT ((H.set m oo).new (.cells [.string (tx s)] 9 .ex)) vl F.ls:=by
   refine gP.nx E.l.gr (by show K.nx<=H.nx+1;omega) λy g1 g2 ⟨n',c',B⟩=> ?_;have rZ:ow y=some (i,2):=by
    rcases E.l with ⟨_,g⟩ | ⟨r',nV,g,g1,g2,_⟩
    ·rw[g] at B;cases B
    rw[g] at B;cases B;exact g1
   have MO:y≠m:=λe=>by rw[e,O] at rZ;simp at rZ
   rw[bQ (by show y≠H.nx;omega),cv MO];exact hx.ob y g2
  refine Ds (A:=wP 0) (bytes:=16) (f:=jT) (y:=s) FN aeO Om Om rfl λK3 k1 k2 k3=> ?_;have k2:K3.nx=H.nx+1+1:=k2;have DL : ∀y d,y<K.nx->ow y=some d->d≠(i,2)->d≠(i,5)->K3.ob y=K.ob y:=λy d hy e h1 h2=>by
   have MO:y≠m:=λe2=>by rw[e2,O] at e;cases e;exact h2 rfl
   rw[k3 y (by show y<H.nx+1;omega) (aeN y d hy e h1),bQ (by show y≠H.nx;omega),cv MO];exact hx.ob y hy
  have apt:=(DL bg _ zo M Sm Sm).trans C;have Xq:=(DL b _ gT N Sm Sm).trans G;repeat' (first | (simp (disch:=first | omega | (decide +kernel)) only[↓OK,↓Bc,↓HQ,↓y8,↓HT,↓HV,↓HX,HY,HU,sq,oO,bS,↓dY,↓fB,↓mz,↓aP,↓ez,↓aT,gJ,qE,bP,dX,pE,CW,pop,aD,bD,bT,isVal,bu,dp,↓reduceIte,Nat.reduceEqDiff,Nat.reduceAdd,fK,fL,cw,cX,qM,EY,tR,ly,jU,mR,yz,GM,Cc,Kd.cD,qB,tS,Nat.reduceLeDiff,bJ,lP,and_true,f1,Y,apt,Xq,Z]) | ((with_reducible first|apply aF|apply aG|apply aH)<;>intro _))
  obtain⟨P,Q⟩ : ∃P,P=K3.set b (.cells [.string (tx F.nm), .int .i64 F.par,vp, .slice (some ⟨H.nx+1,0,none⟩) (F.ls.length+1) (F.ls.length+1),vc,vf, .bool F.gen, .map (some m), .map (some mM), .map (some mN)] 75 .ex):=⟨_,rfl⟩;rw[<-Q];have BI:P.nx=H.nx+1+1:=by rw[Q];exact k2
  have aeP : ∀y d,ow y=some d->d≠(i,0)->y≠b:=λy d e aA e2=>by rw[e2,N] at e;cases e;exact aA rfl
  have L : ∀y d,y<K.nx->ow y=some d->d≠(i,0)->d≠(i,2)->d≠(i,5)->P.ob y=K.ob y:=λy d hy e h0 h1 h2=>by
   rw[Q,cv (aeP y d e h0)];exact DL y d hy e h1 h2
  let bY:Ow:=λx=>if x=H.nx+1 then some (i,2) else ow x
  have J:pd ow bY K P:=⟨Om,λx hx=>by
   show(if x=H.nx+1 then _ else ow x)=ow x;rw[iN Om]⟩
  have R:m≠b:=aeP m _ O Sm;have om4:P.ob m=oo:=by
   rw[Q,cv R,k3 m (by show m<H.nx+1;omega) (aeN m _ eG O Sm),bQ (by show m≠H.nx;omega),bP,iP rfl]
  refine⟨λx=>bY x≠none,⟨Sq,bY,_,bs,λx=>dS,λx hx=> ?_,(J.ow p (T p (by rw[U];simp))).trans U,(L p _ (T p (by rw[U];simp)) U Sm Sm Sm).trans bp,?_,wk,(J.ow bg zo).trans M,(L bg _ zo M Sm Sm Sm).trans C,(J.ow bh V).trans QV,(L bh _ V QV Sm Sm Sm).trans QW⟩,⟨Om,λy g1 g2 _=> ?_,λy g=> ?_⟩⟩
  ·have hx:(if x=H.nx+1 then some (i,2) else ow x)≠none:=hx;by_cases h1:x=H.nx+1
   ·omega
   rw[iN h1] at hx;have:=T x hx;omega
  ·rw[<-Xo (F:=F) (u:=λ_=> { F with ls:=F.ls++ [s] })];refine wR.db (Xp hi) wk J (λy i' j g1 g2 g3=>L y (i',j) g1 g2 Sq Sq Sq) ?_;refine⟨(J.ow b gT).trans N,Om,vp,_,vc,vf,_,_,_,by rw[Q,bP,iP rfl],?_⟩;refine⟨E.p.mv J λy g1 g2=>L y _ g1 g2 Sm Sm Sm, .inr ⟨H.nx+1, .gr,Sm,?_,Om,?_,rfl⟩,E.c.mv J λy g1 g2=>L y _ g1 g2 Sm Sm Sm,E.f.mv J λy g1 g2=>L y _ g1 g2 Sm Sm Sm,IM ((J.ow m eG).trans O) Om ?_,E.g.mv J λy g1 g2=>L y _ g1 g2 Sm Sm Sm,E.o.mv J λy g1 g2=>L y _ g1 g2 Sm Sm Sm⟩;·show(if H.nx+1=H.nx+1 then _ else _)=_;rw[iP rfl]
   ·rw[Q,cv Om];exact k1
   show gH P m (mf (F.ps++(F.ls++ [s])));rw[<-rP,<-DK];exact kN P om4
  ·by_cases S:ow y=none
   ·have hyb:y≠b:=λe=>by rw[e,N] at S;cases S
    have MO:y≠m:=λe=>by rw[e,O] at S;cases S
    have Vg:ik vl y:=λo n c B=>by
     rcases E.l with ⟨_,g⟩ | ⟨r',nV,g,g1,_⟩
     ·rw[g] at B;cases B
     rw[g] at B;cases B;rw[g1] at S;cases S
    rw[Q,cv hyb,k3 y (by show y<H.nx+1;omega) Vg,bQ (by show y≠H.nx;omega),cv MO];exact hx.ob y g1
   exact absurd ((hW y).2 S) g2
  have g:(if y=H.nx+1 then some (i,2) else ow y)≠none:=g;by_cases h1:y=H.nx+1
  ·exact .inr Om
  rw[iN h1] at g;exact .inl ((hW y).2 g)
 have AZ:tE i F s=F:=iP z;rw[AZ];refine aC ?_;exact⟨W,PB.ok.hx (r:=r) ⟨Om,ow,_,bs,hW,T,U,bp,wR,wk,M,C,QV,QW⟩ hx,VX.ext hx⟩
def JS (p i b:Nat)(fns:List ah)(K:CH)(W:Nat->Prop):Prop:=∃(ow:Ow) (v:ae) (bs:List Nat),(∀b,W b↔ow b≠none)/\(∀b,ow b≠none->b<K.nx)/\ow p=some (0,8)/\K.ob p= .cells [v] 65 .ex/\j0 true K ow v fns bs/\bs[i]? = some b
theorem QX{fns:List ah}{i:Nat}{F:ah}(h:fns[i]? = some F):(dC fns i λ_=>F)=fns:=by
 unfold dC;apply Ca;intro j;rw[vV];by_cases a:i=j
 ·subst a;rw[h];simp
 simp only[iN a];cases fns[j]?<;>rfl
theorem MP{fns:List ah}{i:Nat}{F:ah}{u:ah->ah}(h:fns[i]? = some F):dC fns i u=dC fns i λ_=>u F:=by
 conv=>lhs;rw[<-QX h]
 exact Xo
def BiJ (p i b bg bh:Nat)(h:Wh)(fns:List ah)(F:ah)(K:CH)(W:Nat->Prop)(ks:List Nd)(n:Nat)(v:ae)(a:CH):Prop:=∃(j:Nat) (c:Nat->Prop),n=ks.length-j/\j<=ks.length/\v= .int .i64 (j:Nat)/\PB p i b bg bh h fns (eE (ks.drop j)).length ((eE (ks.take j)).foldl (tE i) F) a c/\VX n9 W c K a
theorem apu{p i b:Nat}{fns:List ah}{t:Nd}{h:Wh}{F:ah}(P:h.f=i)(hF:fns[i]? = some F)(uW:F.ls.length+(kT (t,h)).length<=1099511627776)(hT:ru 2199023255552 t){K:CH}{W A:Nat->Prop}{os:List ae}(hs:b9 K A (dr t) os)(hA : ∀b,A b->b<K.nx/\¬W b)(hj:JS p i b fns K W):aR gE 57 [.agg os.toArray, .agg (rC h).toArray,pN b] K λ_ K'=>∃W',JS p i b (dC fns i (tF (t,h))) K' W'/\VX n9 W W' K K':=by
 obtain⟨k,l,x,o,ks⟩:=t;obtain⟨q,rfl,eT⟩:=ij hs;obtain⟨q',e,fO,nK,fY⟩:=mI eT;cases e;rw[gZ] at fO;have hi:i<fns.length:=(List.getElem?_eq_some_iff.1 hF).1;obtain⟨ow,v,bs,hW,aN,iq,bp,kw,wk⟩:=hj;obtain⟨K0,d⟩ : ∃K0,K0=((K.new (.cells [.int .i64 (k:Nat), .int .i64 l, .string (tx x), .int .i64 (o:Nat), .slice q ks.length ks.length] 26 .ex)).new (.cells [.int .i64 (h.f:Nat), .bool h.lp, .bool h.hd, .bool h.mb] 69 .ex)).new (.cells [pN b] 73 .ex):=⟨_,rfl⟩;have E:ag K K0:=by rw[d];exact(((ag.refl K).new _).new _).new _
 have eO:K0.nx=K.nx+3:=by rw[d];rfl
 have Z:K0.ob K.nx= .cells [.int .i64 (k:Nat), .int .i64 l, .string (tx x), .int .i64 (o:Nat), .slice q ks.length ks.length] 26 .ex:=by
  rw[d,bQ (by show K.nx≠K.nx+1+1;omega),bQ (by show K.nx≠K.nx+1;omega),jf]
 have Q:K0.ob (K.nx+1)= .cells [.int .i64 (h.f:Nat), .bool h.lp, .bool h.hd, .bool h.mb] 69 .ex:=by
  rw[d,bQ (by show K.nx+1≠K.nx+1+1;omega)];exact jf (K:=K.new _)
 have og0:K0.ob (K.nx+2)= .cells [pN b] 73 .ex:=by
  rw[d];exact jf (K:=(K.new _).new _)
 let F3:Ow:=λy=>if y=K.nx+2 then some (0,10) else if y=K.nx+1 then some (0,11) else ow y
 let W0:Nat->Prop:=λy=>F3 y≠none
 have ic:pd ow F3 K K0:=⟨E.nx,λy a=>by
  show(if y=K.nx+2 then _ else if y=K.nx+1 then _ else ow y)=ow y;rw[iN Om,iN Om]⟩
 have dK:p<K.nx:=aN p (by rw[iq];simp);have B:PB p i b (K.nx+2) (K.nx+1) h fns (kT (.mk k l x o ks,h)).length F K0 W0:=by
  refine⟨uW,F3,v,bs,λy=>dS,λy a=> ?_,(ic.ow p dK).trans iq,(E.ob p dK).trans bp,?_,wk,iP rfl,og0,?_,Q⟩
  ·have a:(if y=K.nx+2 then some (0,10) else if y=K.nx+1 then some (0,11) else ow y)≠none:=a;by_cases h1:y=K.nx+2
   ·omega
   rw[iN h1] at a;by_cases h2:y=K.nx+1
   ·omega
   rw[iN h2] at a;have:=aN y a;omega
  ·rw[QX hF];exact kw.mv ic λy a _=>E.ob y a
  show(if K.nx+1=K.nx+2 then _ else if K.nx+1=K.nx+1 then some (0,11) else _)=_;rw[iN Om,iP rfl]
 have QY:VX n9 W W0 K K0:=⟨E.nx,λy a _ _=>E.ob y a,λy a=>by
  by_cases hyK:y<K.nx
  ·refine .inl ((hW y).2 ?_);rw[<-ic.ow y hyK];exact a
  exact .inr Om⟩
 have C : ∀y,A y->y<K0.nx/\¬W0 y:=λy a=>⟨by have:=(hA y a).1;omega,λw=>(QY.w y w).elim (hA y a).2 λg=>by have:=(hA y a).1;omega⟩;have R : ¬W0 K.nx:=λw=>by
  have w:(if K.nx=K.nx+2 then some (0,10) else if K.nx=K.nx+1 then some (0,11) else ow K.nx)≠none:=w;rw[iN Om,iN Om] at w;have:=aN K.nx w;omega
 have he:=apq (p:=p) (b:=b) (bg:=K.nx+2) (bh:=K.nx+1) hi P;have J : ∀(r:Nat) (F':ah) (c:CH) (L:Nat->Prop),PB p i b (K.nx+2) (K.nx+1) h fns r F' c L->VX n9 W0 L K0 c->F'=tF (.mk k l x o ks,h) F->∃W',JS p i b (dC fns i (tF (.mk k l x o ks,h))) c W'/\VX n9 W W' K c:=by
  rintro r F' c L ⟨_,vG,v1,Xr,g1,g2,g3,g4,g5,g6,_⟩ ep rfl;exact⟨L,⟨vG,v1,Xr,g1,g2,g3,g4,by rw[MP hF];exact g5,g6⟩,QY.trans ep⟩
 have iM : ∀s:Bs,kT (.mk k l x o ks,h)= [s]->s.length<=2199023255552->aR gE 94 [.string (tx s),pN (K.nx+2),pN (K.nx+1)] K0 λ_ K'=>∃W',JS p i b (dC fns i (tF (.mk k l x o ks,h))) K' W'/\VX n9 W W' K K':=λs hb jV=>by
  rw[hb] at B;refine(he 0 F s K0 W0 B jV).mono λv1 c ⟨L,F4,ep⟩=>J 0 _ c L F4 ep ?_;unfold tF;rw[hb];show _= [s].foldl (tE h.f) F;rw[P];rfl
 unfold rC;have wg:x.length<=2199023255552:=hT.1;have yj:kT (.mk k l x o ks,h)= []->∃W',JS p i b (dC fns i (tF (.mk k l x o ks,h))) K0 W'/\VX n9 W W' K K0:=λe=>J _ F K0 W0 B (.ext (ag.refl _)) (by unfold tF;rw[e];rfl);have yb:=Mf (K:=K0) (A:=A) (hs.mv λy a=>⟨a,E.ob y (hA y a).1⟩) (λy a=>(C y a).1);by_cases h8:k=8
 ·subst h8;cases z:h.mb
  ·rw[z] at d;refine du Rl Kr (aV ?_);refine rn @z ?_;rw[<-d];refine(iM x (by simp[kT,Nd.kind,Nd.text,z]) wg).mono λv c h1=> ?_;refine aC ?_;exact h1
  rw[z] at d;refine du Rl Kr (aV ?_);refine rn @z ?_;rw[<-d];exact yj (by simp[kT,Nd.kind,Nd.text,z])
 by_cases h9:k=9\/k=16\/k=21
 ·rcases h9 with rfl | rfl | rfl
  all_goals
   refine du Rl Kr (aV ?_);refine aC ?_;rw[<-d];refine(iM x (by simp[kT,Nd.kind,Nd.text]) wg).mono λv c h1=> ?_;refine aC ?_;exact h1
 by_cases h4:k=4\/k=7\/k=58
 ·have G:kT (.mk k l x o ks,h)=fy (cC ks):=by
   rcases h4 with rfl | rfl | rfl<;>simp[kT,Nd.kind,Nd.kids]
  have hTk:ru 2199023255552 (cC ks):=by
   cases ks with
   | nil=>exact⟨cx _,trivial⟩
   | cons n r=>exact hT.2.1
  rw[G] at B;have mu : ∀(c:CH) (D:List ae),ag K0 c->b9 K0 A (dr (cC ks)) D->aR gE 48 [.agg D.toArray, .func (.func 94) #[] #[pN (K.nx+2),pN (K.nx+1)]] c λ_ K'=>∃W',JS p i b (dC fns i (tF (.mk k l x o ks,h))) K' W'/\VX n9 W W' K K':=λc D u H=>by
   refine(aeL (cap:= [pN (K.nx+2),pN (K.nx+1)]) PB.ok he (eV (cC ks)) (cC ks) (al _) hTk c W0 A D 0 F (H.mv λy a=>⟨a,u.ob y (C y a).1⟩) (λy a=>⟨cj (C y a).1 u.nx,(C y a).2⟩) (PB.ok.hx B u)).mono λv2 K2 ⟨W2,FH,oa⟩=> ?_;refine J 0 _ K2 W2 FH ((VX.ext u).trans oa) ?_;unfold tF;rw[G];show _=(fy (cC ks)).foldl (tE h.f) F;rw[P]
  rcases h4 with rfl | rfl | rfl
  all_goals
   refine du Rl Kr (aV ?_);refine aC ?_;rw[<-d];refine yb.mono λv1 c ⟨D,e1,u,H⟩=> ?_;subst e1;refine aC ?_;refine(mu c D u H).mono λv2 K2 h2=> ?_;refine aC ?_;exact h2
 by_cases S:k=19
 ·subst S;refine du Rl Kr (aV ?_);refine aC ?_;rw[<-d];refine yb.mono λv1 c ⟨D,e1,u,H⟩=> ?_;subst e1;have H:b9 K0 A (dr (cC ks)) D:=H;have eG:=u.nx;have jh:=(u.ob K.nx Om).trans Z;cases ks with
  | nil=>
    obtain⟨q1,rfl,_⟩:=ij (show b9 K0 A (dr (.mk 0 0 [] 0 [])) D from H);refine aC ?_;refine(λh1=> ?_) (J _ F c W0 (PB.ok.hx B u) (.ext u) (by unfold tF;simp[kT,Nd.kind,Nd.kids,cC]));exact h1
  | cons m r=>
    obtain⟨mk,ml,mx,mo,cH⟩:=m;obtain⟨q1,rfl,_⟩:=ij (show b9 K0 A (dr (.mk mk ml mx mo cH)) D from H);obtain⟨M,cs,e,lh,gi,lN,ob,yg,nI,nj,aL⟩:=fY 0 _ rfl;obtain⟨mq,dq,_⟩:=ij aL;obtain⟨_,_,g2,_,_⟩:=aeA dq;have jx:=(u.ob M (C M lN).1).trans ((E.ob M (hA M lN).1).trans ob);by_cases lH:mk=36
    ·subst lH;have G:kT (.mk 19 l x o (.mk 36 ml mx mo cH::r),h)= [mx]:=by simp[kT,Nd.kind,Nd.kids,cC,Nd.text]
     rw[G] at B;refine rn (rR @jh @gi @jx @g2 @bJ @Nat.zero_mul) ?_;refine(he 0 F mx c W0 (PB.ok.hx B u) hT.2.1.1).mono λv2 K2 ⟨W2,FH,oa⟩=> ?_;refine aC ?_;refine J 0 _ K2 W2 FH ((VX.ext u).trans oa) ?_;unfold tF;rw[G];show _= [mx].foldl (tE h.f) F;rw[P];rfl
    refine rn @jh ?_;refine(λh1=> ?_) (J _ F c W0 (PB.ok.hx B u) (.ext u) (by unfold tF;simp[kT,Nd.kind,Nd.kids,cC,lH]));exact h1
 by_cases h3:k=3
 ·subst h3;cases z:h.mb
  ·have G:kT (.mk 3 l x o ks,h)=eE ks.dropLast:=by simp[kT,Nd.kind,Nd.kids,z]
   rw[G] at B;rw[z] at d Q;refine du Rl Kr (aV ?_);refine rn @z ?_;rw[<-d];refine fC (λn fr c=>BiJ p i b (K.nx+2) (K.nx+1) h fns F K0 W0 ks.dropLast n (fr 7) c) (n:=ks.dropLast.length) ⟨0,W0,rfl,cx _,by(refine aC ?_;all_goals rfl),B, .ext (ag.refl _)⟩ ?_;rintro n td T ⟨j,W5,rfl,hj,f7,U,N⟩ O;have zy:=N.nx;have QZ:=(N.ob K.nx Om R id).trans Z;have V:T.ob (K.nx+1)= .cells [.int .i64 (h.f:Nat), .bool h.lp, .bool h.hd, .bool false] 69 .ex:=by
    obtain⟨_,_,_,_,_,_,_,_,_,_,_,_,_,g⟩:=U;rw[z] at g;exact g
   by_cases I:j<ks.dropLast.length
   ·have X:j+1<ks.length:=by rw[List.length_dropLast] at I;omega
    obtain⟨t,ht⟩ : ∃t,ks[j]? = some t:=⟨_,bM Om⟩;have Y:ks.dropLast[j]? = some t:=by rw[List.getElem?_dropLast,iP Om];exact ht
    obtain⟨M,cs,e,lh,gi,lN,ob,yg,nI,nj,aL⟩:=fY j t ht;subst gi;have uu : ∀y,A y->T.ob y=K.ob y:=λy a=>(N.ob y (C y a).1 (C y a).2 id).trans (E.ob y (hA y a).1);have jx:=(uu M lN).trans ob;obtain⟨k',l',x',o',wa,wn,wc,dq⟩:=Dr aL;have Fc:eE (ks.dropLast.take (j+1))=eE (ks.dropLast.take j)++fy t:=by
     obtain⟨_,e⟩:=List.getElem?_eq_some_iff.1 Y;rw[rL I,e,Mh];simp[eE]
    have dA:(eE (ks.dropLast.drop j)).length=(fy t).length+(eE (ks.dropLast.drop (j+1))).length:=by
     obtain⟨_,e⟩:=List.getElem?_eq_some_iff.1 Y;rw[rQ I,e,eE,cO]
    rw[dA] at U;have jJ:=aeL (cap:= [pN (K.nx+2),pN (K.nx+1)]) PB.ok he (eV t) t (al _) (QK hT.2 (fi ht)) T W5 A _ _ _ (aL.mv λy a=>⟨a,uu y a⟩) (λy a=>⟨cj (C y a).1 zy,λw=>(N.w y w).elim (C y a).2 λg=>by have:=(C y a).1;omega⟩) U;rw[dq] at jJ;refine rn (oA @O @f7 @QZ @V @jx @dq @X @bJ) ?_;refine jJ.mono λv6 K6 ⟨W6,hP6,pM⟩=> ?_;refine rn (an @O @f7) ?_;exact⟨ks.dropLast.length-(j+1),Om,j+1,W6,rfl,I,rfl,by rw[Fc,NI];exact hP6,N.trans pM⟩
   have I:j=ks.dropLast.length:=by omega
   have asq:j=ks.length-1:=by rw[List.length_dropLast] at I;exact I
   have X : ¬(j:Int)+1<(ks.length:Int):=by omega
   rw[I,pQ,Ak,eE,cX] at U;refine rn (gy @O @f7 @QZ @V) ?_;refine J 0 _ T W5 U N ?_;unfold tF;rw[G];show _=(eE ks.dropLast).foldl (tE h.f) F;rw[P]
  rw[z] at d Q;refine du Rl Kr (aV ?_);refine rn @z ?_;rw[<-d];refine fC (λn fr c=>n=0/\fr 7= .int .i64 0/\c=K0) (n:=0) ⟨rfl,by(exact aZ;all_goals rfl),rfl⟩ ?_;rintro n td T ⟨rfl,f7,rfl⟩ O;have SU:=yj (by simp[kT,Nd.kind,Nd.kids,z]);by_cases X:(0:Int)+1<(ks.length:Int)
  ·refine rn (iD @O @f7 @Z @Q @X) ?_;exact SU
  refine rn (iD @O @f7 @Z @Q @X) ?_;exact SU
 refine du Rl Kr (aV ?_);refine aC ?_;rw[<-d];exact yj (by simp[kT,Nd.kind,h3,h4,S,h8,h9])
end
end Can
end Go.Proofs.YticlaccbodpkeaaGreatDoor
