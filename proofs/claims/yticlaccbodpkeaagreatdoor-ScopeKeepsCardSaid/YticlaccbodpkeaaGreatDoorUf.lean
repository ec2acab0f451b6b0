/- Lex, the document: text. Lex, the document: next. Lex, the document: lines. Lex, the document: what is open and what is out. Lex, the document: Lex. Parse, the document: the reader in memory; its looks at a token. (Printed by tools/gendoc.py.). Parse, the document: the reader as the one object of runs over trees; nodes of any content. Parse, the document: its small steps, as runs over trees. Parse, the document: its rules when a token has been found that can't stand there: nothing more is read. (Printed by tools/gendb.py.). Parse, the document: steps along the grammar, in good mode. (Printed by tools/gendd.py.). Parse, the document: leaf, single, place. (Printed by tools/gende.py.). Parse, the document: single and place, asked of a node of any content. Parse, the document: Height. (Printed by tools/gendy.py.). Parse, the document: its rules, as runs over trees, along the grammar; where a token can't stand, on in bad mode. (Printed by tools/gendw.py.). Parse, the document: its rules, as runs over trees, along the grammar; where a token can't stand, on in bad mode. (Printed by tools/gendw.py.). Parse, the document: its rules, as runs over trees, along the grammar; where a token can't stand, on in bad mode. (Printed by tools/gendw.py.). -/
import Derived.Test.YticlaccbodpkeaaGreatDoorUa
import Derived.Test.YticlaccbodpkeaaGreatDoorUe
import Derived.Test.YticlaccbodpkeaaGreatDoorUd
open Bool renaming and_true → pL, true_and → Jn
open Go renaming FuncId → aS, Value → ae
open Go.Value renaming cells → ci, int → o7
open Int renaming toNat_natCast → fJ
open List renaming append_assoc → oY, append_nil → gY, cons_append → gZ, drop_drop → j9, drop_eq_getElem_cons → mz, drop_eq_nil_of_le → Cc, drop_length → yu, drop_nil → tz, drop_succ_cons → kc, drop_zero → gI, getD_eq_getElem?_getD → yq, getElem?_eq_getElem → cj, getElem_mem → Gr, length → tu, length_append → cG, length_cons → bN, length_drop → lB, length_nil → bZ, length_singleton → SC, map_cons → c8, map_nil → iw, mem_append → gu, mem_of_getElem? → fD, nil_append → ju, replicate → j8, replicate_succ' → YX, size_toArray → jt, sum_cons → Jp, take_nil → tB, take_succ_cons → qx, toList_toArray → jS
open Nat renaming add_assoc → oa, le_refl → ai, lt_of_lt_of_le → cQ, lt_succ_self → fN, mul_one → fp, not_lt_zero → fW, one_mul → xg, zero_add → ba, zero_le → bR
open Option renaming getD_some → tt, isSome_none → Sp, isSome_some → YT, map_some → dC
open UInt8 renaming ofNat → ar
set_option maxRecDepth 4000
set_option maxHeartbeats 8000000
set_option linter.unusedSimpArgs false
set_option linter.unusedVariables false
namespace Go.Proofs.YticlaccbodpkeaaGreatDoor
namespace Can
section
open Go Go.RowKit
theorem alz{K:CH}{t:List UInt8}{j:Nat}(hl:t.length<=100000){Q:ae->CH->Prop}:aQ (bF Tryz.prog LG GG) 112 [.string ⟨⟨t⟩⟩, .int .i64 (j:Nat)] K Q↔Q (.int .i64 (vk (hd (t.drop j)))) K:=sQ (alw K hl)
theorem alA{K:CH}{n:Nat}(hn:n<256){Q:ae->CH->Prop}:aQ (bF Tryz.prog LG GG) 113 [.int .u8 (n:Nat)] K Q↔Q (.int .u8 (Ae n:Nat)) K:=sQ (alx K hn)
theorem n3{a:Nat}:((a:Int)+3)=((a+3:Nat):Int):=rfl
def TxJ (A:CH)(q j:Nat)(L:List UInt8)(n:Nat)(v5 c:ae)(a:CH):Prop:=∃(i f:Nat) (acc:List UInt8),n=f+1/\i+f=L.length/\uI q L=(mE q (f+1) (L.drop i)).map (λx=>(acc++x.1,x.2+i))/\c= .int .i64 (j+1+i:Nat)/\eV A 5 1 (ints .u8) a v5 (nL acc)/\ag A a/\acc.length<=i
theorem alB{q:Nat}(a:32<=q) : ∀ {f:Nat},mE q f []=none
 | 0=>rfl
 | f+1=>by
   unfold mE;rw[iN (show ¬hd []=q by simp[hd];omega),iP (show hd []<32 by decide)]
theorem adn{K:CH}{t:List UInt8}{j:Nat}(hj:j<t.length)(hl:t.length<=20000)(hq:32<=hd (t.drop j)/\hd (t.drop j)≠92) :
 aQ (bF Tryz.prog LG GG) 77 [.string (str t), .int .i64 (j:Nat)] K λv K'=>ag K K'/\v= .agg (xR ((uI (hd (t.drop j)) (t.drop (j+1))).map λx=>(7,x.1,x.2+1)) j).toArray:=by
 obtain⟨q,Y⟩ : ∃q,hd (t.drop j)=q:=⟨_,rfl⟩;have o:=get_some hj;rw[Y] at hq o⊢;obtain⟨L,hL⟩ : ∃L,t.drop (j+1)=L:=⟨_,rfl⟩;have Qq:L.length=t.length-(j+1):=by rw[<-hL];simp
 have jH : ∀i,t.drop (j+1+i)=L.drop i:=λi=>by rw[<-hL,j9]
 have l7:=λ(i:Nat) (hi:j+1+i<t.length)=>get_some hi;simp only[jH] at l7;rw[hL];refine l5 Rl Kr (aK ?_);obtain⟨A,hA⟩ : ∃A,K.new (.cells [.int .i64 0, .string ⟨⟨[]⟩⟩, .int .i64 0] 87 .ex)=A:=⟨_,rfl⟩;have w:ag K A:=by rw[<-hA];exact(ag.refl K).new _
 have lL:A.ob K.nx= .cells [.int .i64 0, .string ⟨⟨[]⟩⟩, .int .i64 0] 87 .ex:=by rw[<-hA];exact bS.trans (iP rfl)
 have Qr:K.nx<A.nx:=by rw[<-hA];exact fN _
 refine pA (λfr K1=>fr 4= .pointer (some ⟨K.nx,0,none⟩)/\K1=A) (by exact rz @hA) ?_;rintro am K1 ⟨f4,rfl⟩ l;refine rn (an @l @n1) ?_;refine ef (λn fr K2=>TxJ K1 q j L n (fr 5) (fr 6) K2) (n:=L.length+1) ⟨0,L.length,[],rfl,Om,by simp[uI],by(exact aV;all_goals rfl),by(refine aM ?_;all_goals exact .inl ⟨rfl,rfl⟩),ag.refl _,Sm⟩ ?_;rintro n fr K2 ⟨i,f,acc,rfl,oI,C,f6,H,d,hac⟩ r;obtain⟨vb,f5⟩ : ∃vb,fr 5=vb:=⟨_,rfl⟩;rw[f5] at H;have s:=(d.ob _ Qr).trans lL;have j0:=d.nx;have hc:= @SG (L.drop i);by_cases au:i<L.length
 ·have g0:=l7 i Om;by_cases B:hd (L.drop i)=q
  ·have I:uI q L=some (acc,i+1):=by rw[C,mE,iP B];simp;omega
   rw[I];rw[B] at g0;rcases H with ⟨e1,rfl⟩ | ⟨b,kd,rfl,g1,g2,g3,g4⟩
   ·have ea:acc= []:=by simpa[nL] using e1
    subst ea;refine rn (D1 @r @l @f4 @f5 @f6 @g0 @o @cJ @dW @n1 @s) ?_;all_goals exact⟨(w.trans d).set (ai _) _,(congrArg (λn:Nat=>Value.agg #[.int .i64 7, .string (str []), .int .i64 n]) (show j+1+i+1=j+(i+1+1) by omega))⟩
   rw[aja] at g3;have JV:(nL acc).length=acc.length:=by simp[nL]
   rw[JV] at f5;refine rn (Jr @r @l @f4 @f5 @f6 @g0 @o @cJ @dW @n1 @s @g3 @abX) ?_;all_goals exact⟨(w.trans d).set (ai _) _,(congrArg (λn:Nat=>Value.agg #[.int .i64 7, .string (str acc), .int .i64 n]) (show j+1+i+1=j+(i+1+1) by omega))⟩
  have L6 : ¬hd (L.drop i)=q:=B;by_cases T:hd (L.drop i)<32
  ·have I:uI q L=none:=by rw[C,mE,iN B,iP T];rfl
   rw[I];refine rn (D1 @r @l @f4 @f5 @f6 @g0 @o @cJ @dW @n1 @s) ?_;all_goals exact⟨(w.trans d).set (ai _) _,rfl⟩
  obtain⟨y,rfl⟩ : ∃y,f=y+1:=⟨f-1,Om⟩;by_cases c3:hd (L.drop i)=92
  ·rw[c3] at g0;have At : ∀b n,rm (L.drop (i+1))=some (b,n)->∃f2,y=f2+n/\b<256/\uI q L=(mE q (f2+1) (L.drop (i+1+n))).map (λx=>((acc++ [ar b])++x.1,x.2+(i+1+n))):=λb n u=>by
    obtain⟨GO,Wf⟩:=ajb u;simp only[lB] at GO;obtain⟨f2,rfl⟩ : ∃f2,y=f2+n:=⟨y-n,Om⟩;refine⟨f2,rfl,Wf,?_⟩;rw[C,mE,iN B,iN T,iN (by simpa using c3),j9,u];simp only[j9];rw[UD (f:=f2+n+1) (g:=f2+1) Sq Sq,show i+(1+n)=i+1+n by omega];cases mE q (f2+1) (L.drop (i+1+n)) with
    | none=>rfl
    | some x=>simp;omega
   have U:rm (L.drop (i+1))=none->uI q L=none:=λu=>by
    rw[C,mE,iN B,iN T,iN (by simpa using c3),j9,u];rfl
   by_cases Cx:i+1<L.length
   ·have g1:=l7 (i+1) Om;simp only[<-oa] at g1;by_cases J:hd (L.drop (i+1))=120
    ·rw[J] at g1;have mi:hd (t.drop (j+1+i+2))=hd (L.drop (i+2)):=by rw[oa,jH]
     have fE:hd (t.drop (j+1+i+3))=hd (L.drop (i+3)):=by rw[oa,jH]
     have V:rm (L.drop (i+1))=if rj (hd (L.drop (i+2)))<16/\rj (hd (L.drop (i+3)))<16 then some (16*rj (hd (L.drop (i+2)))+rj (hd (L.drop (i+3))),3) else none:=by
      unfold rm;rw[iP J];simp only[j9]
     have bH:= @UC (hd (L.drop (i+2)));have alC:= @UC (hd (L.drop (i+3)));obtain⟨D,a⟩ : ∃x,rj (hd (L.drop (i+2)))=x:=⟨_,rfl⟩;obtain⟨G,c⟩ : ∃x,rj (hd (L.drop (i+3)))=x:=⟨_,rfl⟩;rw[a] at bH;rw[c] at alC;rw[a,c] at V;have bi:=λ(m:Nat) (K:CH) (Q:ae->CH->Prop)=> @alz K t m Om Q;by_cases d1:D<16
     ·have W:vk (hd (L.drop (i+2)))=(D:Int):=by unfold vk;rw[a,iN Om]
      by_cases d2:G<16
      ·have b2:vk (hd (L.drop (i+3)))=(G:Int):=by unfold vk;rw[c,iN Om]
       have u:rm (L.drop (i+1))=some (16*D+G,3):=by rw[V,iP ⟨d1,d2⟩]
       refine rn (Y9 @r @l @f4 @f5 @f6 @g0 @o @cJ @dW @n1 @n2 @n3 @s @g1 @bi @mi @fE @W @b2) ?_;obtain⟨f2,rfl,Wf,M⟩:=At _ _ u;refine yS (Uu .u8) (ys:= [16*(D:Int)+(G:Int)]) (H.ext (by(repeat (first | assumption | exact ag.refl _ | (refine ag.set ?_ Fo _) | (refine ag.new ?_ _))))) (d.trans (by(repeat (first | assumption | exact ag.refl _ | (refine ag.set ?_ Fo _) | (refine ag.new ?_ _))))) (by simp[nL];omega) (by simp[nL];omega) rfl rfl λv' K4 z N j3 j4=> ?_;have hu:nL acc++ [(16*(D:Int)+(G:Int):Int)]=nL (acc++ [ar (16*D+G)]):=by simp[nL];omega
       rw[hu] at z;refine rn @f6 ?_;all_goals exact⟨_,Om,i+1+3,f2,_,rfl,Om,M,congrArg (o7 .i64) Om,z,N,Sq⟩
      have b2:vk (hd (L.drop (i+3)))= -1:=by unfold vk;rw[c,iP Om]
      rw[U (by rw[V,iN (λg=>d2 g.2)])];refine rn (Y9 @r @l @f4 @f5 @f6 @g0 @o @cJ @dW @n1 @n2 @n3 @s @g1 @bi @mi @fE @W @b2) ?_;all_goals exact⟨(w.trans d).set (ai _) _,rfl⟩
     have W:vk (hd (L.drop (i+2)))= -1:=by unfold vk;rw[a,iP Om]
     rw[U (by rw[V,iN (λg=>d1 g.1)])];refine rn (agn @r @l @f4 @f5 @f6 @g0 @o @cJ @dW @n1 @n2 @n3 @s @g1 @bi @mi @fE @W) ?_;all_goals exact⟨(w.trans d).set (ai _) _,rfl⟩
    have oR:rm (L.drop (i+1))=if Ae (hd (L.drop (i+1)))≠0 then some (Ae (hd (L.drop (i+1))),1) else none:=by
     unfold rm;rw[iN J]
    have Wg:=λ(K:CH) (Q:ae->CH->Prop)=> @alA K (hd (L.drop (i+1))) SG Q;obtain⟨O,S⟩ : ∃x,Ae (hd (L.drop (i+1)))=x:=⟨_,rfl⟩;rw[S] at oR;simp only[S] at Wg;by_cases d1:O=0
    ·rw[U (by rw[oR,iN (λg=>g d1)])];subst d1;refine rn (Gx @r @l @f4 @f5 @f6 @g0 @o @cJ @dW @n1 @n2 @n3 @s @g1 @J @Wg) ?_;all_goals exact⟨(w.trans d).set (ai _) _,rfl⟩
    have u:rm (L.drop (i+1))=some (O,1):=by rw[oR,iP d1]
    refine rn (Y8 @r @l @f4 @f5 @f6 @g0 @o @cJ @dW @n1 @n2 @n3 @s @g1 @J @Wg @d1) ?_;obtain⟨f2,rfl,Wf,M⟩:=At _ _ u;refine yS (Uu .u8) (ys:= [(O:Int)]) (H.ext (by(repeat (first | assumption | exact ag.refl _ | (refine ag.set ?_ Fo _) | (refine ag.new ?_ _))))) (d.trans (by(repeat (first | assumption | exact ag.refl _ | (refine ag.set ?_ Fo _) | (refine ag.new ?_ _))))) (by simp[nL];omega) (by simp[nL];omega) rfl rfl λv' K4 z N j3 j4=> ?_;have hu:nL acc++ [((O:Int):Int)]=nL (acc++ [ar (O)]):=by simp[nL];omega
    rw[hu] at z;refine rn @f6 ?_;all_goals exact⟨_,Om,i+1+1,f2,_,rfl,Om,M,congrArg (o7 .i64) Om,z,N,Sq⟩
   have u:rm (L.drop (i+1))=none:=by rw[Cc Om];rfl
   rw[U u];refine rn (Jr @r @l @f4 @f5 @f6 @g0 @o @cJ @dW @n1 @n2 @n3 @s) ?_;all_goals exact⟨(w.trans d).set (ai _) _,rfl⟩
  have M:uI q L=(mE q (y+1) (L.drop (i+1))).map (λx=>((acc++ [ar (hd (L.drop i))])++x.1,x.2+(i+1))):=by
   rw[C,mE,iN B,iN T,iP c3,j9];cases mE q (y+1) (L.drop (i+1)) with
   | none=>rfl
   | some x=>simp;omega
  refine rn (D1 @r @l @f4 @f5 @f6 @g0 @o @cJ @dW @n1 @s) ?_;refine yS (Uu .u8) (ys:= [(hd (L.drop i):Int)]) (H.ext (by(repeat (first | assumption | exact ag.refl _ | (refine ag.set ?_ Fo _) | (refine ag.new ?_ _))))) (d.trans (by(repeat (first | assumption | exact ag.refl _ | (refine ag.set ?_ Fo _) | (refine ag.new ?_ _))))) (by simp[nL];omega) (by simp[nL];omega) rfl rfl λv' K4 z N j3 j4=> ?_;have hu:nL acc++ [(hd (L.drop i):Int)]=nL (acc++ [ar (hd (L.drop i))]):=by simp[nL];omega
  rw[hu] at z;refine rn @f6 ?_;all_goals exact⟨_,Om,i+1,y,_,rfl,Om,M,congrArg (o7 .i64) Om,z,N,Sq⟩
 have I:uI q L=none:=by rw[C,Cc Om,alB hq.1];rfl
 rw[I];refine rn (Ad @r @l @f4 @f5 @f6 @cJ @dW @n1 @s) ?_;all_goals exact⟨(w.trans d).set (ai _) _,rfl⟩
theorem Wi{x:List UInt8}(h:x∈xQ):(x.length=3/\x∈S3)\/(x.length=2/\x∈S2)\/(x.length=1/\x∈S1.map λc=> [c]):=by
 unfold xQ at h;simp only[gu] at h;rcases h with (h | h) | h
 ·exact .inl ⟨by revert h;revert x;decide,h⟩
 ·exact .inr (.inl ⟨by revert h;revert x;decide,h⟩)
 exact .inr (.inr ⟨by obtain⟨c,_,rfl⟩:=List.mem_map.1 h;rfl,h⟩)
theorem alD{x:List UInt8}(h:x∈S3):x.length=3:=by revert h;revert x;decide
theorem alE{x:List UInt8}(h:x∈S2):x.length=2:=by revert h;revert x;decide
theorem alF{l:List UInt8}(h:3<=l.length):decide (l.take 3∈xQ)=decide (l.take 3∈S3):=decide_eq_decide.2 ⟨λg=>by
 rcases Wi g with ⟨_,g⟩ | ⟨e,_⟩ | ⟨e,_⟩
 ·exact g
 ·simp at e;omega
 simp at e;omega,λg=>by unfold xQ;simp only[gu];exact .inl (.inl g)⟩
theorem alG{l:List UInt8}(h:2<=l.length):decide (l.take 2∈xQ)=decide (l.take 2∈S2):=decide_eq_decide.2 ⟨λg=>by
 rcases Wi g with ⟨e,_⟩ | ⟨_,g⟩ | ⟨e,_⟩
 ·simp at e;omega
 ·exact g
 simp at e;omega,λg=>by unfold xQ;simp only[gu];exact .inl (.inr g)⟩
theorem alH{l:List UInt8}(h:1<=l.length):decide (l.take 1∈xQ)=decide (hd l∈S1.map UInt8.toNat):=decide_eq_decide.2 (by
 cases l with
 | nil=>simp at h
 | cons c r=>
   refine⟨λg=> ?_,λg=> ?_⟩
   ·rcases Wi g with ⟨e,_⟩ | ⟨e,_⟩ | ⟨_,g⟩
    ·simp at e
    ·simp at e
    obtain⟨d,a,e⟩:=List.mem_map.1 g;simp at e;subst e;exact List.mem_map.2 ⟨d,a,rfl⟩
   obtain⟨d,a,e⟩:=List.mem_map.1 g;have:d=c:=UInt8.toNat_inj.1 e;subst this;unfold xQ;simp only[gu];exact .inr (List.mem_map.2 ⟨d,a,rfl⟩))
def SyJ (a:CH)(l:List UInt8)(n:Nat)(v:ae)(K:CH):Prop:=n<=3/\v= .int .i64 (n:Nat)/\K=a/\(n<3->¬l.take 3∈S3)/\(n<2->¬l.take 2∈S2)/\(n<1->¬hd l∈S1.map UInt8.toNat)
theorem alI{K:CH}{t:List UInt8}{j:Nat}(S:j<t.length)(hl:t.length<=20000) :
 aQ (bF Tryz.prog LG GG) 42 [.string (str t), .int .i64 (j:Nat)] K λv K'=>ag K K'/\v= .agg (xR (mF (t.drop j)) j).toArray:=by
 obtain⟨l,o⟩ : ∃l,t.drop j=l:=⟨_,rfl⟩;have D:=get_some S;have Ti:l.length=t.length-j:=by rw[<-o];simp
 have jH : ∀i,t.drop (j+i)=l.drop i:=λi=>by rw[<-o,j9]
 have l7:=λ(i:Nat) (hi:j+i<t.length)=>get_some hi;simp only[jH] at l7;have arB:= @adl;have arC:= @adn;rw[o] at D⊢;refine l5 Rl Kr (aK ?_);obtain⟨A,hA⟩ : ∃A,K.new (.cells [.int .i64 0, .string ⟨⟨[]⟩⟩, .int .i64 0] 87 .ex)=A:=⟨_,rfl⟩;have r:ag K A:=by rw[<-hA];exact(ag.refl K).new _
 have m:A.ob K.nx= .cells [.int .i64 0, .string ⟨⟨[]⟩⟩, .int .i64 0] 87 .ex:=by rw[<-hA];exact bS.trans (iP rfl)
 have Qr:K.nx<A.nx:=by rw[<-hA];exact fN _
 refine pA (λfr M=>fr 4= .pointer (some ⟨K.nx,0,none⟩)/\M=A) (by exact rz @hA) ?_;rintro am M ⟨f4,rfl⟩ c;by_cases G:tD (hd l)=true
 ·have w:mF l=some (if l.take (nW kY l)∈Cg then 8 else 4,l.take (nW kY l),nW kY l):=by unfold mF;rw[iP G]
  rw[w];refine rn (o8 @c @cJ @dW @D @uX @G) ?_;refine ef (λn fr y=>Wd kY t j M n (fr 6) y) (n:=t.length-j) ⟨j,rfl,ai _,Om,by(exact aV;all_goals rfl),rfl,rfl⟩ ?_;rintro n fr y ⟨i,rfl,tP,hi,f6,rfl,HI⟩ d;rw[o] at HI;have rH:i-j=nW kY l->(t.drop j).take (i-j)=l.take (nW kY l):=λg=>by rw[o,g]
  by_cases T:i<t.length
  ·have g1:=get_some T;obtain⟨e,he⟩ : ∃e,hd (t.drop i)=e:=⟨_,rfl⟩;rw[he] at g1;by_cases d1:tD e=true
   ·have hy:=D2 (p:=kY) T (by rw[he];simp[kY,d1]);refine rn (Ad @d @c @f6 @cJ @dW @g1 @uX @mQ @d1) ?_;all_goals exact⟨t.length-(i+1),Om,i+1,rfl,Om,Om,rfl,rfl,by rw[o];omega⟩
   have N:tD e=false:=by simpa using d1
   by_cases d2:iU e=true
   ·have hy:=D2 (p:=kY) T (by rw[he];simp[kY,d2]);refine rn (Ce @d @c @f6 @cJ @dW @g1 @uX @mQ @N @d2) ?_;all_goals exact⟨t.length-(i+1),Om,i+1,rfl,Om,Om,rfl,rfl,by rw[o];omega⟩
   have Kq:iU e=false:=by simpa using d2
   have hn:=Gz (p:=kY) (l:=t.drop i) (.inr (by rw[he];simp[kY,N,Kq]));have U:i-j=nW kY l:=by omega
   have I:i=j+nW kY l:=by omega
   have J:=rH U;by_cases hw:l.take (nW kY l)∈Cg
   ·rw[iP hw];refine rn (Gx @d @c @f4 @f6 @cJ @dW @qH @g1 @uX @mQ @N @Kq @J @Qp @hw @m) ?_;all_goals exact⟨r.set (ai _) _,by rw[I];rfl⟩
   rw[iN hw];refine rn (Gx @d @c @f4 @f6 @cJ @dW @qH @g1 @uX @mQ @N @Kq @J @Qp @hw @m) ?_;all_goals exact⟨r.set (ai _) _,by rw[I];rfl⟩
  have hn:=Gz (p:=kY) (l:=t.drop i) (.inl (Cc Om));have U:i-j=nW kY l:=by omega
  have I:i=j+nW kY l:=by omega
  have J:=rH U;by_cases hw:l.take (nW kY l)∈Cg
  ·rw[iP hw];refine rn (Jr @d @c @f4 @f6 @cJ @dW @qH @uX @mQ @J @Qp @hw @m) ?_;all_goals exact⟨r.set (ai _) _,by rw[I];rfl⟩
  rw[iN hw];refine rn (Jr @d @c @f4 @f6 @cJ @dW @qH @uX @mQ @J @Qp @hw @m) ?_;all_goals exact⟨r.set (ai _) _,by rw[I];rfl⟩
 have O:tD (hd l)=false:=by simpa using G
 by_cases H:iU (hd l)=true
 ·have w:mF l=if GA l=true then none else some (Cf l,l.take (sE l),sE l):=by unfold mF;rw[iN G,iP H]
  rw[w];refine rn (qz @c @cJ @dW @D @uX @mQ @O @H) ?_;refine(adl S hl (by rw[o];exact H)).mono λv y ⟨z,hv⟩=> ?_;subst hv;rw[o];have L:=(z.ob _ Qr).trans m;cases hb:GA l with
  | true=>
    repeat' (first | (simp (disch:=first | omega | (decide +kernel)) only[↓RD,RU,↓aH,↓dA,↓aL,br,aD,bq,cY,fQ,dU,isVal,a8,ci,↓reduceIte,Nat.reduceEqDiff,Nat.reduceAdd,ρ7,ρ8,ρ15,ρ17,ρ18,ρ21,ρ22,ρ23,Kd.bY,ρ25,ρ26,f4,L,xR]) | ((with_reducible first|apply aE|apply aF|apply aG)<;>intro _))
    all_goals exact(r.trans z).set (ai _) _
  | false=>
    repeat' (first | (simp (disch:=first | omega | (decide +kernel)) only[↓RD,RU,↓aH,↓dA,↓aL,br,aD,bq,cY,fQ,dU,isVal,a8,ci,↓reduceIte,Nat.reduceEqDiff,Nat.reduceAdd,reduceCtorEq,ρ7,ρ8,ρ15,ρ17,ρ18,ρ21,ρ22,ρ23,Kd.bY,ρ25,ρ26,f4,L,xR]) | ((with_reducible first|apply aE|apply aF|apply aG)<;>intro _))
    all_goals exact(r.trans z).set (ai _) _
 have V:iU (hd l)=false:=by simpa using H
 by_cases c3:hd l=39\/hd l=34
 ·have w:mF l=(uI (hd l) (l.drop 1)).map λx=>(7,x.1,x.2+1):=by unfold mF;rw[iN G,iN H,iP c3]
  rw[w];have hq:32<=hd (t.drop j)/\hd (t.drop j)≠92:=by rw[o];omega
  rcases c3 with c3 | c3
  all_goals
   rw[c3] at D O V;refine rn (qz @c @cJ @dW @D @uX @mQ @O @V) ?_;refine(adn S hl hq).mono λv y ⟨z,hv⟩=> ?_;subst hv;rw[jH 1,o];have L:=(z.ob _ Qr).trans m;cases hb:uI (hd l) (l.drop 1) with
   | none=>
     repeat' (first | (simp (disch:=first | omega | (decide +kernel)) only[↓RD,RU,↓aH,↓dA,↓aL,br,aD,bq,cY,fQ,dU,isVal,a8,ci,↓reduceIte,Nat.reduceEqDiff,Nat.reduceAdd,ρ7,ρ8,ρ15,ρ17,ρ18,ρ21,ρ22,ρ23,Kd.bY,ρ25,ρ26,f4,L,xR,Option.map_none]) | ((with_reducible first|apply aE|apply aF|apply aG)<;>intro _))
     all_goals exact(r.trans z).set (ai _) _
   | some x=>
     repeat' (first | (simp (disch:=first | omega | (decide +kernel)) only[↓RD,RU,↓aH,↓dA,↓aL,br,aD,bq,cY,fQ,dU,isVal,a8,ci,ρ4,↓reduceIte,Nat.reduceEqDiff,Nat.reduceAdd,ρ7,ρ8,ρ15,ρ17,ρ18,ρ21,ρ22,ρ23,Kd.bY,ρ25,ρ26,f4,L,xR]) | ((with_reducible first|apply aE|apply aF|apply aG)<;>intro _))
     all_goals exact(r.trans z).set (ai _) _
 have W : ¬hd l=39:=λg=>c3 (.inl g);have Y : ¬hd l=34:=λg=>c3 (.inr g);have w:mF l=(uJ l).map λn=>(9,l.take n,n):=by unfold mF;rw[iN G,iN H,iN c3]
 rw[w];refine rn (Ce @c @cJ @dW @D @uX @mQ @O @V @W @Y) ?_;have s : ∀n,(t.drop j).take (j+n-j)=l.take n:=λn=>by rw[o,show j+n-j=n by omega]
 refine ef (λn fr y=>SyJ M l n (fr 7) y) (n:=3) ⟨Om,by(refine aM ?_;all_goals rfl),rfl,λh=>absurd h Om,λh=>absurd h Om,λh=>absurd h Om⟩ ?_;rintro n fr y ⟨pC,f7,rfl,B,s2,s1⟩ d;obtain rfl | rfl | rfl | rfl:n=3\/n=2\/n=1\/n=0:=by omega
 ·by_cases u:3<=l.length
  ·have hs:=alF u;by_cases a:l.take 3∈S3
   ·rw[decide_eq_true a] at hs;have C:uJ l=some 3:=by
     unfold uJ;rw[iP a]
    rw[C];repeat' (first | (simp (disch:=first | omega | (decide +kernel)) only[↓RD,RU,↓aH,↓dA,↓aL,↓bf,br,cZ,eT,pop,aD,bq,cY,fQ,dU,isVal,a8,ci,ρ0,ρ1,ρ4,↓reduceIte,Nat.reduceEqDiff,Nat.reduceAdd,reduceCtorEq,ρ7,ρ8,gT,ρ15,ρ17,ρ18,ρ19,ρ20,ρ21,ρ22,ρ23,Kd.bY,ρ25,ρ26,dv,Nat.reduceLeDiff,ρ29,d,c,f4,f7,cJ,qH,s,Bn,hs,m,xR]) | ((with_reducible first|apply aE|apply aF|apply aG)<;>intro _))
    all_goals exact⟨r.set (ai _) _,rfl⟩
   rw[decide_eq_false a] at hs;refine rn (D1 @d @c @f4 @f7 @cJ @dW @qH @s @Bn @hs @m) ?_;all_goals exact⟨2,Om,Om,rfl,rfl,λ_=>a,λh=>absurd h Om,λh=>absurd h Om⟩
  have a : ¬(l.take 3∈S3):=λg=>u (by have:=alD g;simp at this;omega);refine rn (Ce @d @c @f4 @f7 @cJ @dW @qH @s @Bn @m) ?_;all_goals exact⟨2,Om,Om,rfl,rfl,λ_=>a,λh=>absurd h Om,λh=>absurd h Om⟩
 ·by_cases u:2<=l.length
  ·have hs:=alG u;by_cases a:l.take 2∈S2
   ·rw[decide_eq_true a] at hs;have C:uJ l=some 2:=by
     unfold uJ;rw[iN (B Om),iP a]
    rw[C];repeat' (first | (simp (disch:=first | omega | (decide +kernel)) only[↓RD,RU,↓aH,↓dA,↓aL,↓bf,br,cZ,eT,pop,aD,bq,cY,fQ,dU,isVal,a8,ci,ρ0,ρ1,ρ4,↓reduceIte,Nat.reduceEqDiff,Nat.reduceAdd,reduceCtorEq,ρ7,ρ8,gT,ρ15,ρ17,ρ18,ρ19,ρ20,ρ21,ρ22,ρ23,Kd.bY,ρ25,ρ26,dv,Nat.reduceLeDiff,ρ29,d,c,f4,f7,cJ,qH,s,Bn,hs,m,xR]) | ((with_reducible first|apply aE|apply aF|apply aG)<;>intro _))
    all_goals exact⟨r.set (ai _) _,rfl⟩
   rw[decide_eq_false a] at hs;refine rn (D1 @d @c @f4 @f7 @cJ @dW @qH @s @Bn @hs @m) ?_;all_goals exact⟨1,Om,Om,rfl,rfl,λ_=>B Om,λ_=>a,λh=>absurd h Om⟩
  have a : ¬(l.take 2∈S2):=λg=>u (by have:=alE g;simp at this;omega);refine rn (Ce @d @c @f4 @f7 @cJ @dW @qH @s @Bn @m) ?_;all_goals exact⟨1,Om,Om,rfl,rfl,λ_=>B Om,λ_=>a,λh=>absurd h Om⟩
 ·by_cases u:1<=l.length
  ·have hs:=alH u;by_cases a:hd l∈S1.map UInt8.toNat
   ·rw[decide_eq_true a] at hs;have C:uJ l=some 1:=by
     unfold uJ;rw[iN (B Om),iN (s2 Om),iP a]
    rw[C];repeat' (first | (simp (disch:=first | omega | (decide +kernel)) only[↓RD,RU,↓aH,↓dA,↓aL,↓bf,br,cZ,eT,pop,aD,bq,cY,fQ,dU,isVal,a8,ci,ρ0,ρ1,ρ4,↓reduceIte,Nat.reduceEqDiff,Nat.reduceAdd,reduceCtorEq,ρ7,ρ8,gT,ρ15,ρ17,ρ18,ρ19,ρ20,ρ21,ρ22,ρ23,Kd.bY,ρ25,ρ26,dv,Nat.reduceLeDiff,ρ29,d,c,f4,f7,cJ,qH,s,Bn,hs,m,xR]) | ((with_reducible first|apply aE|apply aF|apply aG)<;>intro _))
    all_goals exact⟨r.set (ai _) _,rfl⟩
   rw[decide_eq_false a] at hs;refine rn (D1 @d @c @f4 @f7 @cJ @dW @qH @s @Bn @hs @m) ?_;all_goals exact⟨0,Om,Om,rfl,rfl,λ_=>B Om,λ_=>s2 Om,λ_=>a⟩
  have a : ¬(hd l∈S1.map UInt8.toNat):=λg=>u Om;refine rn (Ce @d @c @f4 @f7 @cJ @dW @qH @s @Bn @m) ?_;all_goals first | exact⟨0,Om,Om,rfl,rfl,λ_=>B Om,λ_=>s2 Om,λ_=>a⟩ | (exfalso;omega)
 have C:uJ l=none:=by
  unfold uJ;rw[iN (B Om),iN (s2 Om),iN (s1 Om)]
 rw[C];repeat' (first | (simp (disch:=first | omega | (decide +kernel)) only[↓RD,RU,↓aH,↓dA,↓aL,↓bf,br,pop,aD,bq,cY,fQ,dU,isVal,a8,ci,ρ0,ρ1,ρ4,↓reduceIte,Nat.reduceEqDiff,Nat.reduceAdd,ρ7,ρ8,ρ15,ρ17,ρ18,ρ19,ρ20,ρ21,ρ22,ρ23,Kd.bY,ρ25,ρ26,dv,Nat.reduceLeDiff,d,f4,f7,m,xR]) | ((with_reducible first|apply aE|apply aF|apply aG)<;>intro _))
 all_goals exact⟨r.set (ai _) _,rfl⟩
def Db (r:List UInt8):List ae:= [.string (str r)]
theorem ado : ∀r,(Db r).length=1/\(Db r).all a8=true:=λ_=>⟨rfl,rfl⟩
def LnJ (A:CH)(src:List UInt8)(n:Nat)(v3 v4 v5:ae)(K:CH):Prop:=∃(i fm:Nat) (acc:List (List UInt8)),n=src.length+1-i/\i<=src.length+1/\fm<=i/\v5= .int .i64 (i:Nat)/\v4= .int .i64 (fm:Nat)/\eV A 9 1 Db K v3 acc/\ag A K/\acc.length<=i/\
 (i<=src.length->(∀x∈(src.drop fm).take (i-fm),x.toNat≠10)/\iI src=acc++iI (src.drop fm))/\(i=src.length+1->iI src=acc)
theorem alK{A:CH}{src:List UInt8}(hl:src.length<=20000):aQ (bF Tryz.prog LG GG) 40 [.string (str src)] A λv K=>ag A K/\eV A 9 1 Db K v (iI src):=by
 refine l5 Rl Kr (aK ?_);refine aM ?_;refine ef (λn fr K=>LnJ A src n (fr 3) (fr 4) (fr 5) K) (n:=src.length+1) ⟨0,0,[],rfl,Om,Om,by(refine aM ?_;all_goals rfl),by(refine aM ?_;all_goals rfl),by(refine aM ?_;all_goals exact .inl ⟨rfl,rfl⟩),ag.refl _,Sm,λ_=>⟨Sm,rfl⟩,λh=>by omega⟩ ?_;rintro n fr K ⟨i,fm,acc,rfl,hi,z,f5,f4,a,hx,r,o,s⟩ d;obtain⟨v3,f3⟩ : ∃v,fr 3=v:=⟨_,rfl⟩;rw[f3] at a;by_cases g:i<src.length
 ·have g0:=get_some g;obtain⟨h1,h2⟩:=o Om;have j:src.drop fm=(src.drop fm).take (i-fm)++src.drop i:=by
   have:(src.drop fm).drop (i-fm)=src.drop i:=by rw[j9];congr 1;omega
   rw[<-this,List.take_append_drop]
  by_cases c:hd (src.drop i)=10
  ·rw[c] at g0;have hu:src.drop i=10::src.drop (i+1):=by
    rw[mz g] at c⊢;have:src[i]=10:=UInt8.toNat_inj.1 c;rw[this]
   have h3:iI src=(acc++ [(src.drop fm).take (i-fm)])++iI (src.drop (i+1)):=by
    rw[h2];conv=>lhs;rw[j,hu]
    rw[UJ (.inr ⟨_,rfl⟩) h1];simp
   refine rn (qz @d @f3 @f4 @f5 @g0 @cJ @dW @qH) ?_;refine yS ado (ys:= [(src.drop fm).take (i-fm)]) (a.ext (by(repeat (first | assumption | exact ag.refl _ | (refine ag.set ?_ Fo _) | (refine ag.new ?_ _))))) (hx.trans (by(repeat (first | assumption | exact ag.refl _ | (refine ag.set ?_ Fo _) | (refine ag.new ?_ _))))) Sq Sq rfl rfl λv' t l m u w=> ?_;refine rn @f5 ?_;all_goals exact⟨src.length+1-(i+1),Om,i+1,i+1,_,rfl,Om,Om,rfl,rfl,l,m,Sq,λ_=>⟨Sm,h3⟩,λh=>by omega⟩
  have h4 : ∀x∈(src.drop fm).take (i+1-fm),x.toNat≠10:=by
   rw[show i+1-fm=(i-fm)+1 by omega,List.take_succ_eq_append_getElem Sq];intro x hx;rcases List.mem_append.1 hx with hx | hx
   ·exact h1 x hx
   simp only[List.mem_singleton] at hx;subst hx;rw[Oc g] at c;simp only[List.getElem_drop];have:fm+(i-fm)=i:=by omega
   simp only[this];exact c
  refine rn (qz @d @f3 @f4 @f5 @g0 @cJ @dW @qH) ?_;all_goals exact⟨src.length+1-(i+1),Om,i+1,fm,acc,rfl,Om,Om,rfl,rfl,a,hx,Om,λ_=>⟨h4,h2⟩,λh=>by omega⟩
 by_cases y:i=src.length
 ·obtain⟨h1,h2⟩:=o Om;have j:src.drop fm=(src.drop fm).take (i-fm)++ []:=by
   rw[gY,List.take_of_length_le Sq]
  have h3:iI src=acc++ [(src.drop fm).take (i-fm)]:=by
   rw[h2];conv=>lhs;rw[j]
   rw[UJ (.inl rfl) h1]
  subst y;refine rn (uF @d @f3 @f4 @f5 @cJ @dW @qH) ?_;refine yS ado (ys:= [(src.drop fm).take (src.length-fm)]) (a.ext (by(repeat (first | assumption | exact ag.refl _ | (refine ag.set ?_ Fo _) | (refine ag.new ?_ _))))) (hx.trans (by(repeat (first | assumption | exact ag.refl _ | (refine ag.set ?_ Fo _) | (refine ag.new ?_ _))))) Sq Sq rfl rfl λv' t l m u w=> ?_;refine rn @f5 ?_;all_goals exact⟨0,Om,src.length+1,src.length+1,_,Om,Om,Om,rfl,rfl,l,m,Sq,λh=>by omega,λ_=>h3⟩
 have h3:=s Om;rw[h3];refine rn (jL @d @f3 @f4 @f5 @cJ) ?_;all_goals exact⟨hx,a⟩
end
section
open Go Go.RowKit
def j5 (A K:CH)(vo vt:ae)(ja:List Nat)(out:List Tok):Prop:=CP A K vo ja/\eV A 85 3 AX K vt out/\ag A K
theorem CP.mv{A K K':CH}{v:ae}{ns:List Nat}(h:CP A K v ns)(hn:K.nx<=K'.nx)(hk : ∀b o n c,v= .slice (some ⟨b,o,none⟩) n c->K'.ob b=K.ob b):CP A K' v ns:=by
 obtain⟨b,kd,c,os,h1,h2,h3,h4,h5⟩:=h;exact⟨b,kd,c,os,h1,h2,cQ h3 hn,(hk _ _ _ _ h1).trans h4,h5⟩
theorem j5.mv{A K K':CH}{vo vt:ae}{ja:List Nat}{out:List Tok}(h:j5 A K vo vt ja out)(hx:ag K K'):j5 A K' vo vt ja out:=by
 obtain⟨h1,h2,h3⟩:=h;refine⟨h1.mv hx.nx λb o n c e=> ?_,h2.ext hx,h3.trans hx⟩;obtain⟨a,kd,c',os,e',g1,g2,_⟩:=h1;rw[e] at e';cases e';exact hx.ob b g2
theorem j5.put{A K:CH}{vo vt:ae}{ja:List Nat}{out:List Tok}(h:j5 A K vo vt ja out)(t:Tok)(hb:out.length<1000000){us:List ae}(hu:us=AX t){Q:ae->CH->Prop}(k : ∀a K',j5 A K' vo a ja (out++ [t])->K.nx<=K'.nx->(∀l e kd cs,l<K.nx->K.ob l= .cells cs e kd->e≠85->K'.ob l=K.ob l)->Q a K'):uV (lY 85 3 32 vt us 1 K) Q:=by
 obtain⟨h1,h2,h3⟩:=h;have aB : ∀l cs e kd,K.ob l= .cells cs e kd->e≠85->∀o n c,vt≠ .slice (some ⟨l,o,none⟩) n c:=λl cs e kd hl he o n c hv=>by
  rcases h2 with ⟨_,g⟩ | ⟨b,r,e',g1,g2,g3,g4⟩
  ·rw[g] at hv;cases hv
  rw[e'] at hv;cases hv;rw[hl] at g3;exact he (dD.cells.inj g3).2.1
 refine yS ai6 (ys:= [t]) h2 h3 Sq Sq (by rw[hu];simp) rfl λa K' m q d j=> ?_;refine k a K' ⟨h1.mv d λb o n c e=> ?_,m,q⟩ d λl e kd cs hl hc he=>j l hl (aB l cs e kd hc he);obtain⟨s,kd,c',os,e',g1,g2,g3,_⟩:=h1;rw[e] at e';cases e';exact j b g2 (aB b os _ kd g3 de)
theorem j5.push{A K:CH}{vo vt:ae}{ja:List Nat}{out:List Tok}(h:j5 A K vo vt ja out)(n:Nat)(hb:ja.length<1000000){Q:ae->CH->Prop}(k : ∀a K',j5 A K' a vt (ja++ [n]) out->K.nx<=K'.nx->(∀l e kd cs,l<K.nx->K.ob l= .cells cs e kd->e≠3->K'.ob l=K.ob l)->Q a K'):uV (lY 3 1 8 vo [.int .i64 n] 1 K) Q:=by
 obtain⟨h1,h2,h3⟩:=h;have aB : ∀l cs e kd,K.ob l= .cells cs e kd->e≠3->∀o n c,vo≠ .slice (some ⟨l,o,none⟩) n c:=λl cs e kd hl he o n c hv=>by
  obtain⟨r,s,c',os,e',g1,g2,g3,_⟩:=h1;rw[e'] at hv;cases hv;rw[hl] at g3;exact he (dD.cells.inj g3).2.1
 refine aje h1 h3 hb λa K' m q d j=> ?_;refine k a K' ⟨m,?_,q⟩ d λl e kd cs hl hc he=>j l hl (aB l cs e kd hc he);rcases h2 with g | ⟨b,kd,e,g1,g2,g3,g4⟩
 ·exact .inl g
 exact .inr ⟨b,kd,e,g1,cQ g2 d,(j b g2 (aB b _ _ kd g3 de)).trans g3,g4⟩
theorem j5.last{A K:CH}{vo vt:ae}{ja:List Nat}{out:List Tok}(h:j5 A K vo vt ja out) : ∃b kd c os,vo= .slice (some ⟨b,0,none⟩) ja.length c/\K.ob b= .cells os 3 kd/\ja.length<=c/\ja.length<=os.length/\∀i,i<ja.length->os[i]? = some (.int .i64 (ja.getD i 0:Nat)):=by
 obtain⟨⟨b,kd,c,os,h1,h2,h3,h4,h5,a,g,d,e⟩,_⟩:=h;exact⟨b,kd,c,os,h1,h4,a,d,e⟩
theorem j5.pop{A K:CH}{vt:ae}{b c m:Nat}{ja:List Nat}{out:List Tok}(h:j5 A K (.slice (some ⟨b,0,none⟩) ja.length c) vt ja out)(e:m<=ja.length):j5 A K (.slice (some ⟨b,0,none⟩) m c) vt (ja.take m) out:=by
 obtain⟨⟨j,kd,c',os,h1,h2,h3,h4,h5,k,a,l,d⟩,g⟩:=h;cases h1;have hl:(ja.take m).length=m:=by simp;omega
 refine⟨⟨b,kd,c,os,by rw[hl],h2,h3,h4,h5,Om,a,Om,λi hi=> ?_⟩,g⟩;rw[hl] at hi;rw[d i Om];congr 3
 simp only[yq];rw[List.getElem?_take_of_lt hi]
theorem alL{A:CH}{src:List UInt8}(hl:src.length<=20000) : ∃v K,ag A K/\eV A 9 1 Db K v (iI src)/\∀Q:ae->CH->Prop,aQ (bF Tryz.prog LG GG) 40 [.string ⟨⟨src⟩⟩] A Q↔Q v K:=by
 obtain⟨n,v,K,h1,h2,h3⟩:=alK (A:=A) hl;exact⟨v,K,h2,h3,λQ=>sQ ⟨n,v,K,h1,rfl,rfl⟩⟩
structure xU(R:List (List UInt8))(B i d:Nat)(st:List Nat)(out:List Tok):Prop where
 z:st.getLast? = some 0
 il:i<=R.length
 rows:kE 1 R 0 [0]=EP out (kE (i+1) (R.drop i) d st)
 bo:out.length+st.length+((R.drop i).map tu).sum+3*(R.length-i)<=B
 bd:d+((R.drop i).map tu).sum<=B
theorem xU.init{R:List (List UInt8)}{B:Nat}(a:1+(R.map tu).sum+3*R.length<=B):xU R B 0 0 [0] []:=by
 refine⟨rfl,bR _,?_,by simp only[gI,bZ,SC];omega,by simp only[gI];omega⟩;simp only[gI];cases kE 1 R 0 [0]<;>rfl
theorem xU.step{R:List (List UInt8)}{B i d:Nat}{st:List Nat}{out:List Tok}(h:xU R B i d st out)(hi:i<R.length){x:List Tok}{d':Nat}{bB:List Nat}(a:lR (i+1) R[i] d st= .ok (x,d',bB)):xU R B (i+1) d' bB (out++x):=by
 obtain⟨g1,g2,g3⟩:=ab6 a h.z;have c:=h.bo;have g:=h.bd;have e:R.drop i=R[i]::R.drop (i+1):=mz hi;rw[e] at c g;simp only[c8,Jp] at c g;refine⟨g3,hi,?_,by simp only[cG];omega,Om⟩;rw[h.rows,e,HA,a,<-ajm]
theorem xU.err{R:List (List UInt8)}{B i d:Nat}{st:List Nat}{out:List Tok}(h:xU R B i d st out)(hi:i<R.length){e:Nat}(a:lR (i+1) R[i] d st= .error e):kE 1 R 0 [0]= .error (i+1,e):=by
 rw[h.rows,mz hi,HA,a];rfl
theorem xU.fin{R:List (List UInt8)}{B d:Nat}{st:List Nat}{out:List Tok}(h:xU R B R.length d st out):kE 1 R 0 [0]= .ok (out,st):=by
 rw[h.rows,Cc (ai _)];simp[kE,EP]
end
section
open Go Go.RowKit
theorem adp : ∀ {R:List (List UInt8)},R.flatMap Db=R.map λr=>Value.string (str r)
 | []=>rfl
 | a::r=>by rw[List.flatMap_cons,adp];rfl
theorem adq : ∀ {src:List UInt8},∀t∈iI src,∀x∈t,x.toNat≠10
 | [],t,h,x,hx=>by simp[iI] at h;subst h;cases hx
 | c::r,t,h,x,hx=>by
   have d:=λt h=>adq (src:=r) t h;simp only[iI] at h;split at h
   ·rcases List.mem_cons.1 h with rfl | h
    ·cases hx
    exact d t h x hx
   rename_i hc;split at h
   ·rename_i a b e;rcases List.mem_cons.1 h with rfl | h
    ·rcases List.mem_cons.1 hx with rfl | hx
     ·exact hc
     exact d a (by rw[e];simp) x hx
    exact d t (by rw[e];simp[h]) x hx
   simp at h;subst h;simp at hx;subst hx;exact hc
theorem Fh{a b c:ae}:setCells (jU [.int .i64 0, .int .i64 0, .string ⟨⟨[]⟩⟩] 3) (0*3) [a,b,c]= [a,b,c]:=rfl
theorem tt3{a b c:ae}:List.take 3 [a,b,c]= [a,b,c]:=rfl
theorem ll3{a b c:ae} : [a,b,c].length=3:=rfl
theorem j5.adr{A K:CH}{vt:ae}{b c m:Nat}{st:List Nat}{out:List Tok}(h:j5 A K (.slice (some ⟨b,0,none⟩) (st.length-m) c) vt (st.drop m).reverse out)(d:m<st.length):j5 A K (.slice (some ⟨b,0,none⟩) (st.length-(m+1)) c) vt (st.drop (m+1)).reverse out:=by
 have e:(st.drop m).reverse.length=st.length-m:=by simp
 rw[<-e] at h;have h2:=h.pop (m:=st.length-(m+1)) Sq;rw[List.take_reverse,lB,j9] at h2;have a:m+(st.length-m-(st.length-(m+1)))=m+1:=by omega
 rw[a] at h2;exact h2
theorem j5.top{A K:CH}{vt:ae}{b c m:Nat}{st:List Nat}{out:List Tok}(h:j5 A K (.slice (some ⟨b,0,none⟩) (st.length-m) c) vt (st.drop m).reverse out)(a:m<st.length) : ∃kd os,K.ob b= .cells os 3 kd/\st.length-m<=c/\st.length-m<=os.length/\os[st.length-m-1]? = some (.int .i64 (st.getD m 0:Nat)):=by
 have el:(st.drop m).reverse.length=st.length-m:=by simp
 rw[<-el] at h;obtain⟨d,kd,c',os,e,h1,h2,h3,h4⟩:=h.last;cases e;rw[el] at h2 h3 h4;refine⟨kd,os,h1,h2,h3,(h4 _ Om).trans ?_⟩;congr 3
 simp only[yq];rw[List.getElem?_reverse Sq,lB,List.getElem?_drop];congr 2;omega
theorem ads{b n c j:Nat}(h2:j<=c)(h3:0<j):tG 1 (.slice (some ⟨b,0,none⟩) n c) ((0:Nat):Int) (j:Int) (c:Int) false=some (.slice (some ⟨b,0,none⟩) j c):=by
 obtain⟨i,rfl⟩ : ∃i,j=i+1:=⟨j-1,Om⟩;exact ajf h2
def Im (A:CH)(b c k line:Nat)(st:List Nat)(out:List Tok)(q:Nat)(a d:ae)(K:CH):Prop:=∃m,q=k-m/\m<=k/\a= .slice (some ⟨b,0,none⟩) (st.length-m) c/\j5 A K (.slice (some ⟨b,0,none⟩) (st.length-m) c) d (st.drop m).reverse (out++j8 m ⟨3,line,[]⟩)
theorem Im.init{A K:CH}{b c k line:Nat}{st:List Nat}{out:List Tok}{vt:ae}(h:j5 A K (.slice (some ⟨b,0,none⟩) st.length c) vt st.reverse out):Im A b c k line st out k (.slice (some ⟨b,0,none⟩) st.length c) vt K:=⟨0,rfl,bR _,rfl,by simpa using h⟩
def Dc (d k:Nat)(x:List UInt8):Nat:=if k=9/\x∈ [[ar 40],[ar 91],[ar 123]] then d+1 else d
def L9 (d k:Nat)(x:List UInt8):Nat:=if k=9/\x∈ [[ar 41],[ar 93],[ar 125]]/\0<d then d-1 else d
theorem alM{d k:Nat}{x:List UInt8}:L9 (Dc d k x) k x=D3 d k x:=by
 have aB:x∈ [[ar 40],[ar 91],[ar 123]]->x ∉ [[ar 41],[ar 93],[ar 125]]:=λh=>by revert x;decide
 show _=if k=9/\x∈ [[ar 40],[ar 91],[ar 123]] then d+1 else if k=9/\x∈ [[ar 41],[ar 93],[ar 125]]/\0<d then d-1 else d
 unfold L9 Dc;by_cases h:k=9/\x∈ [[ar 40],[ar 91],[ar 123]]
 ·rw[iP h,iP h,iN (λg=>aB h.2 g.2.1)]
 rw[iN h,iN h]
theorem adt{x a b c:List UInt8}:x∈ [a,b,c]↔(decide (x=a)||decide (x=b)||decide (x=c))=true:=by simp[or_assoc]
def PcJ (A:CH)(line d:Nat)(t:List UInt8)(op:List Nat)(o2:List Tok)(vo:ae)(q:Nat)(c e g a:ae)(K:CH):Prop:=∃(j dd:Nat) (ts:List Tok),xF ⟨0,line,d,[],[],0,0⟩ t j q dd ts/\a= .int .i64 (j+du (t.drop j):Nat)/\e= .int .i64 (dd:Nat)/\c=vo/\j5 A K vo g op.reverse (o2++ts)
theorem xF.alN{line d:Nat}{t:List UInt8}:xF ⟨0,line,d,[],[],0,0⟩ t 0 (t.length+1) d []:=by
 refine⟨?_,Om,Om,Om,by show d<=d+0;omega,Sm⟩;show nj line (t.length+1) t d=_;rw[gI];cases nj line (t.length+1) t d<;>simp
def OtJ (A:CH)(vo:ae)(ja:List Nat)(out:List Tok)(rows m n:Nat)(c a:ae)(K:CH):Prop:=∃k:Nat,n=m-k/\k<=m/\a= .int .i64 (1+k:Nat)/\j5 A K vo c ja (out++j8 k ⟨3,rows,[]⟩)
def OuJ (A:CH)(R:List (List UInt8))(B n:Nat)(v5 a c e v9:ae)(K:CH):Prop:=∃(i d:Nat) (st:List Nat) (out:List Tok),n=R.length-i/\v9= .int .i64 (i:Nat)/\c= .int .i64 (d:Nat)/\xU R B i d st out/\j5 A K a e st.reverse out/\ag A K
theorem alO(H:CH){q:Option Addr}{c:Nat}{src:List UInt8}(h:ig 1 (pY .u8) H q c (l6 src)) :
 aQ (bF Tryz.prog LG GG) 22 [.slice q src.length c] H λv K=>ag H K/\UL H K v (lC src):=by
 refine l5 Rl Kr (aK ?_);by_cases hl:20000<src.length
 ·have e:lC src= .error (0,24):=by unfold lC;rw[iP hl]
  rw[e];refine aM ?_;all_goals exact⟨ag.refl _,rfl⟩
 have hb:=ajo h;obtain⟨vl,r,bH,Wk,hli⟩:=alL (A:=H) (src:=src) Om;repeat' (first | (simp (disch:=first | omega | (decide +kernel)) only[↓dx,↓jN,↓cE,↓ez,↓fj,↓oJ,↓c9,↓da,↓cM,↓dL,↓kj,↓KO,↓aH,↓aL,↓bf,cL,ki,↓di,↓jW,cZ,jg,pop,cq,db,isVal,ci,c8,iw,dC,↓reduceIte,Int.reduceOfNat,reduceCtorEq,bN,bZ,jD,kc,gY,tz,jt,jS,dv,Nat.reduceLeDiff,ai,tR,oK,fp,ba,and_true,ajn,hb,hli]) | ((with_reducible first|apply aE|apply aF|apply aG)<;>intro _))
 have arD:ag H (r.new (.cells [.int .i64 0] 3 .ex)):=bH.new _;have alP:=Pw (src:=src);obtain⟨R,hR⟩ : ∃R,iI src=R:=⟨_,rfl⟩;have fL : ∀t∈R,t.length<=src.length:=λt ht=>UM t (by rw[hR];exact ht);have GO : ∀t∈R,∀x∈t,x.toNat≠10:=λt ht=>adq t (by rw[hR];exact ht);rw[hR] at Wk alP;have aU:lC src=match kE 1 R 0 [0] with
  | .error e=> .error e
  | .ok (x,st)=> .ok (x++D4 R.length st):=by unfold lC;rw[iN hl,hR];cases kE 1 R 0 [0]<;>rfl
 obtain⟨A,hA⟩ : ∃A,r.new (.cells [.int .i64 0] 3 .ex)=A:=⟨_,rfl⟩;have hGA:eV H 9 1 Db A vl R:=by rw[<-hA];exact Wk.ext ((ag.refl _).new _)
 obtain⟨B,hB⟩ : ∃B,1+(R.map tu).sum+3*R.length=B:=⟨_,rfl⟩;have hB':B<=80005:=by omega
 refine ef (λn fr K=>OuJ r R B n (fr 5) (fr 6) (fr 7) (fr 8) (fr 9) K) (n:=R.length) ⟨0,0,[0],[],rfl,by(refine aM ?_;all_goals rfl),by(refine aM ?_;all_goals rfl),xU.init Om,⟨?_,?_,?_⟩,?_⟩ ?_
 ·refine aM ?_;all_goals exact⟨r.nx, .ex,1,[.int .i64 0],rfl,ai _,fN _,bS.trans (iP rfl),rfl,de,de,de,λi hi=>by
   have:i=0:=by simpa using hi
   subst this;rfl⟩
 ·refine aM ?_;all_goals exact .inl ⟨rfl,rfl⟩
 ·exact(ag.refl _).new _
 ·exact(ag.refl _).new _
 rintro n fr K ⟨i,d,st,out,rfl,f9,f7,w,s,gG⟩ G;obtain⟨vo,f6⟩ : ∃v,fr 6=v:=⟨_,rfl⟩;obtain⟨vt,f8⟩ : ∃v,fr 8=v:=⟨_,rfl⟩;rw[f6,f8] at s;have f5:fr 5=vl:=by exact rz @G
 have hGK:=Wk.ext gG;have L8:=w.bo;have alQ : ∃qv cv,vl= .slice qv R.length cv:=by
  rcases hGA with ⟨I,J⟩ | ⟨b,kd,J,_⟩
  ·exact⟨_,_,by rw[J,I];rfl⟩
  exact⟨_,_,J⟩
 by_cases C:i<R.length
 ·rcases hGK with ⟨I,_⟩ | ⟨b,kd,rfl,g1,g2,g3,g4⟩
  ·rw[I] at C;cases C
  have Wl:(R.flatMap Db)[i]? = some (.string (str R[i])):=by
   rw[adp,List.getElem?_map,cj C];rfl
  obtain⟨t,ht⟩ : ∃t,R[i]=t:=⟨_,rfl⟩;rw[ht] at Wl;have G':=fL t (by rw[<-ht];exact Gr C);have mh : ∀x∈t,x.toNat≠10:=GO t (by rw[<-ht];exact Gr C);have hbk:=λ(K:CH) (j:Nat) (hj:j<=t.length) (Q:ae->CH->Prop)=> @alv K t j hj Om mh Q;have adu:=λ(K:CH) (Q:ae->CH->Prop)=>hbk K 0 (bR _) Q;simp only[gI,ba] at adu;have adv : ∀(K:CH) (Q:ae->CH->Prop),aQ (bF Tryz.prog LG GG) 41 [.string ⟨⟨t⟩⟩, .int .i64 0] K Q↔Q (.int .i64 (du t:Nat)) K:=adu;have arE:=ab1 (t:=t);by_cases fO:du t=t.length
  ·have L:lR (i+1) R[i] d st= .ok ([],d,st):=by rw[ht];unfold lR;rw[iP Om]
   have Io:=w.step C L;rw[gY] at Io;refine rn (Ce @G @f5 @f6 @f7 @f8 @f9 @g3 @Wl @adv @cJ) ?_;all_goals exact⟨R.length-(i+1),Om,i+1,d,st,out,rfl,congrArg (o7 .i64) Om,by first | exact f7 | rfl,Io,by first | (rw[f6,f8];exact s) | exact s,gG⟩
  refine pA (λfr' K'=>K'=K) (by exact rz (o8 @G @f5 @f6 @f7 @f8 @f9)) ?_;rintro am K' rfl qL;refine dx.2 (jN.2 ?_);refine pA (λfr' V=>fr' 10= .string (str t)/\V=K') (by exact rz (Ad @G @qL @f5 @f6 @f7 @f8 @f9 @g3 @Wl)) ?_;rintro bt V ⟨f10,rfl⟩ wM;refine pA (λfr' K'=>fr' 11= .int .i64 (du t:Nat)/\K'=V) (by exact rz (jL @G @qL @wM @f10 @adv)) ?_;rintro tK K' ⟨f11,rfl⟩ Qw;refine pA (λfr' V=>V=K') (by exact rz (uF @G @qL @wM @Qw @f10 @f11 @cJ)) ?_;rintro yL V rfl Qx;have ha : ∀k,k=5\/k=6\/k=7\/k=8\/k=9->yL k=fr k:=λk hk=>by
   rcases hk with rfl | rfl | rfl | rfl | rfl<;>(rw[Qx _ (by decide +kernel),Qw _ (by decide +kernel),wM _ (by decide +kernel),qL _ (by decide +kernel)])
  have b5:=(ha 5 Om).trans f5;have W:=(ha 6 Om).trans f6;have b7:=(ha 7 Om).trans f7;have b8:=(ha 8 Om).trans f8;have Y:=(ha 9 Om).trans f9;have b10:yL 10= .string (str t):=(Qx 10 (by decide +kernel)).trans ((Qw 10 (by decide +kernel)).trans f10);have M:yL 11= .int .i64 (du t:Nat):=(Qx 11 (by decide +kernel)).trans f11;by_cases Ip:d=0/\(kD (i+1) st (du t)).2.headD 0≠du t
  ·have N:=Ip.1;have Ma : ¬st.headD 0<du t:=λg=>Ip.2 (by unfold kD;rw[iP g];rfl);have L:lR (i+1) R[i] d st= .error 21:=by rw[ht];unfold lR;rw[iN Om,iP Ip]
   have xW:0<st.length:=by
    have:=w.z;cases st with
    | nil=>cases this
    | cons a l=>simp
   have wN:st.reverse.length=st.length:=by simp
   obtain⟨O,mU,u,l9,rfl,q1,q2,q3,q4⟩:=s.last;have Fi:l9[st.length-1]? = some (.int .i64 (st.headD 0:Nat)):=by
    rw[q4 _ Om];congr 3
    cases st with
    | nil=>cases xW
    | cons a l=>simp[yq]
   have yQ:((st.length:Nat):Int)-1=((st.length-1:Nat):Int):=by omega
   rw[wN] at W s q3;obtain⟨k,jY,iA,wO,sW,S⟩:=UF (n:=du t) w.z;have Iq:kD (i+1) st (du t)=(j8 k ⟨3,i+1,[]⟩,st.drop k):=by unfold kD;rw[iN Ma,jY,S]
   have Wm:(st.drop k).headD 0=st.getD k 0:=by
    rw[mz iA];simp[List.getD,cj iA]
   have G6 : ¬du t=st.getD k 0:=λg=>Ip.2 (by rw[Iq];show(st.drop k).headD 0=_;rw[Wm,g]);repeat' (first | (simp (disch:=first | omega | (decide +kernel)) only[↓dx,↓jN,↓cE,↓ez,↓fj,↓fZ,↓oJ,↓c9,↓da,↓cM,↓dL,↓aH,↓aL,↓bf,cL,↓di,↓jW,EL,tQ,jg,eU,pop,aD,↓reduceIte,Nat.reduceEqDiff,gi,oK,iP,fp,ba,fJ,b7,W,M,N,q1,Fi,yQ]) | ((with_reducible first|apply aE|apply aF|apply aG)<;>intro _))
   refine ef (λq fr K=>Im r O u k (i+1) st out q (fr 6) (fr 8) K) (n:=k) (by
    have:Im r O u k (i+1) st out k (.slice (some ⟨O,0,none⟩) st.length u) vt V:= .init s;first | exact this | (refine rn (gS @W @b8 @wN) ?_;all_goals exact this)) ?_
   rintro q Mb K9 ⟨m,rfl,hm,u6,D⟩ Fj;obtain⟨vt9,u8⟩ : ∃v,Mb 8=v:=⟨_,rfl⟩;rw[u8] at D;obtain⟨kd9,os9,T,s2,s3,s4⟩:=D.top Om;have Mc:((st.length-m:Nat):Int)-1=((st.length-m-1:Nat):Int):=by omega
   by_cases xX:m<k
   ·have xG:=wO m xX;have xY:= @ads O (st.length-m) u (st.length-m-1) Om Om;have bX:=abY (o:=0) (n:=st.length-m) (c:=u) T;repeat' (first | (simp (disch:=first | omega | (decide +kernel)) only[↓dx,↓jN,↓cE,↓ez,↓fj,↓fZ,↓c9,↓da,↓cM,↓dL,↓kj,↓iB,↓aH,↓aL,↓bf,bS,cL,ki,↓di,↓jW,gh,EL,mO,eU,pop,aD,cq,db,isVal,ci,c8,iw,dC,↓reduceIte,Nat.reduceEqDiff,Nat.reduceAdd,reduceCtorEq,bN,bZ,jD,rM,kQ,pu,gT,vY,Sp,Option.isNone_none,YT,Bool.or_true,qx,kc,gI,gZ,ju,tB,pL,jt,jS,dv,Nat.reduceLeDiff,ai,gi,↓mP,kO,iP,fp,xg,ba,fJ,true_and,and_true,Fj,Y,M,u6,u8,T,s4,Mc,xY,bX,Fh]) | ((with_reducible first|apply aE|apply aF|apply aG)<;>intro _))
    refine((D.adr Om).mv (by(repeat (first | assumption | exact ag.refl _ | (refine ag.set ?_ Fo _) | (refine ag.new ?_ _))))).put ⟨3,i+1,[]⟩ Sq rfl λMd K5 h5 rU S=> ?_;refine rn @Y ?_;all_goals exact⟨k-(m+1),Om,m+1,rfl,Om,rfl,by
     have e:out++j8 (m+1) (⟨3,i+1,[]⟩:Tok)=out++j8 m ⟨3,i+1,[]⟩++ [⟨3,i+1,[]⟩]:=by rw[YX,oY]
     rw[e];exact h5⟩
   have Wn:m=k:=by omega
   subst Wn;refine rn (Ad @Fj @Y @M @u6 @u8 @T @s4 @Mc @G6) ?_;all_goals exact⟨bH.trans D.2.2,by rw[aU,w.err C L];rfl⟩
  refine pA (λfr' K'=>j5 r K' (fr' 6) (fr' 8) (if d=0 then (kD (i+1) st (du t)).2 else st).reverse (out++(if d=0 then (kD (i+1) st (du t)).1 else []))/\ag r K') ?_ ?_
  ·by_cases N:d=0
   ·rw[iP N,iP N];have xW:0<st.length:=by
     have:=w.z;cases st with
     | nil=>cases this
     | cons a l=>simp
    have wN:st.reverse.length=st.length:=by simp
    obtain⟨O,mU,u,l9,rfl,q1,q2,q3,q4⟩:=s.last;have Fi:l9[st.length-1]? = some (.int .i64 (st.headD 0:Nat)):=by
     rw[q4 _ Om];congr 3
     cases st with
     | nil=>cases xW
     | cons a l=>simp[yq]
    have yQ:((st.length:Nat):Int)-1=((st.length-1:Nat):Int):=by omega
    rw[wN] at W s q3;by_cases Ma:st.headD 0<du t
    ·have Iq:kD (i+1) st (du t)=([⟨2,i+1,[]⟩],du t::st):=by unfold kD;rw[iP Ma]
     repeat' (first | (simp (disch:=first | omega | (decide +kernel)) only[↓dx,↓cE,↓ez,↓fj,↓fZ,↓c9,↓da,↓cM,↓dL,↓kj,↓iB,↓aH,↓aL,↓bf,bS,cL,ki,↓di,EL,tQ,jg,eU,pop,aD,cq,db,isVal,ci,c8,iw,dC,↓reduceIte,Nat.reduceEqDiff,reduceCtorEq,bN,bZ,jD,kQ,pu,qx,kc,gI,gY,tB,tz,jt,jS,dv,Nat.reduceLeDiff,ai,tR,gi,↓mP,kO,iP,fp,ba,fJ,and_true,b7,W,M,N,q1,Fi,yQ]) | ((with_reducible first|apply aE|apply aF|apply aG)<;>intro _))
     refine(s.mv (by(repeat (first | assumption | exact ag.refl _ | (refine ag.set ?_ Fo _) | (refine ag.new ?_ _))))).push (du t) Sq λvo2 K4 h4 Br sW=> ?_;have Cu:(st.reverse++ [du t]).length=st.length+1:=by simp
     have h4':=h4.last;obtain⟨b3,kd3,c3,Wo,rfl,r1,r2,r3,r4⟩:=h4';rw[Cu] at h4;repeat' (first | (simp (disch:=first | omega | (decide +kernel)) only[↓cE,↓ez,↓c9,↓da,↓cM,↓kj,↓iB,↓aH,↓aL,↓bf,bS,cL,ki,↓di,gh,eU,pop,cq,db,isVal,ci,c8,iw,dC,↓reduceIte,Nat.reduceEqDiff,Nat.reduceAdd,reduceCtorEq,bN,bZ,jD,rM,kQ,pu,qx,kc,gI,gZ,ju,tB,jt,jS,dv,Nat.reduceLeDiff,ai,cG,↓mP,kO,iP,xg,ba,true_and,and_true,b8,Y,Fh]) | ((with_reducible first|apply aE|apply aF|apply aG)<;>intro _))
     refine(h4.mv (by(repeat (first | assumption | exact ag.refl _ | (refine ag.set ?_ Fo _) | (refine ag.new ?_ _))))).put ⟨2,i+1,[]⟩ Om rfl λMd K5 h5 rU S=> ?_;repeat' (first | (simp (disch:=first | omega | (decide +kernel)) only[↓dx,↓jN,↓cE,↓c9,↓da,↓cM,↓aH,↓aL,cL,↓di,pop,↓reduceIte]) | ((with_reducible first|apply aE|apply aF|apply aG)<;>intro _))
     have h5':=h5.last;rw[Cu] at h5';obtain⟨b4,kd4,c4,Me,e4,T,s2,s3,s4⟩:=h5';cases e4;have g5:Me[st.length]? = some (.int .i64 (du t:Nat)):=by
      rw[s4 _ Om];simp[yq,List.getElem?_append_right]
     have alR:((st.length+1:Nat):Int)-1=((st.length:Nat):Int):=by omega
     refine ef (λn fr K=>fr 6= .slice (some ⟨b3,0,none⟩) (st.length+1) c3/\fr 8=Md/\K=K5) (n:=0) ⟨by simp only[aH,dA,Nat.reduceEqDiff,↓reduceIte,Cu,wN,cG,SC],by(exact aV;all_goals rfl),rfl⟩ ?_;rintro n Mb K9 ⟨u6,u8,rfl⟩ Fj;refine rn (uF @Fj @M @u6 @u8 @T @g5 @alR) ?_;all_goals exact⟨by rw[Iq,List.reverse_cons];exact h5,h5.2.2⟩
    obtain⟨k,jY,iA,wO,sW,S⟩:=UF (n:=du t) w.z;have Iq:kD (i+1) st (du t)=(j8 k ⟨3,i+1,[]⟩,st.drop k):=by unfold kD;rw[iN Ma,jY,S]
    have Wm:(st.drop k).headD 0=st.getD k 0:=by
     rw[mz iA];simp[List.getD,cj iA]
    have G6:st.getD k 0=du t:=Classical.byContradiction λg=>Ip ⟨N,by rw[Iq];show(st.drop k).headD 0≠_;rwa [Wm]⟩;repeat' (first | (simp (disch:=first | omega | (decide +kernel)) only[↓dx,↓jN,↓cE,↓ez,↓fj,↓fZ,↓oJ,↓c9,↓da,↓cM,↓dL,↓aH,↓aL,↓bf,cL,↓di,↓jW,EL,tQ,jg,eU,pop,aD,↓reduceIte,Nat.reduceEqDiff,gi,oK,iP,fp,ba,fJ,b7,W,M,N,q1,Fi,yQ]) | ((with_reducible first|apply aE|apply aF|apply aG)<;>intro _))
    refine ef (λq fr K=>Im r O u k (i+1) st out q (fr 6) (fr 8) K) (n:=k) (by
     have:Im r O u k (i+1) st out k (.slice (some ⟨O,0,none⟩) st.length u) vt V:= .init s;first | exact this | (refine rn (gS @W @b8 @wN) ?_;all_goals exact this)) ?_
    rintro q Mb K9 ⟨m,rfl,hm,u6,D⟩ Fj;obtain⟨vt9,u8⟩ : ∃v,Mb 8=v:=⟨_,rfl⟩;rw[u8] at D;obtain⟨kd9,os9,T,s2,s3,s4⟩:=D.top Om;have Mc:((st.length-m:Nat):Int)-1=((st.length-m-1:Nat):Int):=by omega
    by_cases xX:m<k
    ·have xG:=wO m xX;have xY:= @ads O (st.length-m) u (st.length-m-1) Om Om;have bX:=abY (o:=0) (n:=st.length-m) (c:=u) T;repeat' (first | (simp (disch:=first | omega | (decide +kernel)) only[↓dx,↓jN,↓cE,↓ez,↓fj,↓fZ,↓c9,↓da,↓cM,↓dL,↓kj,↓iB,↓aH,↓aL,↓bf,bS,cL,ki,↓di,↓jW,gh,EL,mO,eU,pop,aD,cq,db,isVal,ci,c8,iw,dC,↓reduceIte,Nat.reduceEqDiff,Nat.reduceAdd,reduceCtorEq,bN,bZ,jD,rM,kQ,pu,gT,vY,Sp,Option.isNone_none,YT,Bool.or_true,qx,kc,gI,gZ,ju,tB,pL,jt,jS,dv,Nat.reduceLeDiff,ai,gi,↓mP,kO,iP,fp,xg,ba,fJ,true_and,and_true,Fj,Y,M,u6,u8,T,s4,Mc,xY,bX,Fh]) | ((with_reducible first|apply aE|apply aF|apply aG)<;>intro _))
     refine((D.adr Om).mv (by(repeat (first | assumption | exact ag.refl _ | (refine ag.set ?_ Fo _) | (refine ag.new ?_ _))))).put ⟨3,i+1,[]⟩ Sq rfl λMd K5 h5 rU S=> ?_;refine rn @Y ?_;all_goals exact⟨k-(m+1),Om,m+1,rfl,Om,rfl,by
      have e:out++j8 (m+1) (⟨3,i+1,[]⟩:Tok)=out++j8 m ⟨3,i+1,[]⟩++ [⟨3,i+1,[]⟩]:=by rw[YX,oY]
      rw[e];exact h5⟩
    have Wn:m=k:=by omega
    subst Wn;refine rn (Ad @Fj @Y @M @u6 @u8 @T @s4 @Mc @G6) ?_;all_goals exact⟨by rw[Iq];exact D,D.2.2⟩
   rw[iN N,iN N,gY];refine rn (gS @b7 @W @b8) ?_;all_goals first | exact⟨s,gG⟩ | skip
  rintro rI K3 ⟨Wp,arF⟩ Qy;obtain⟨Qz,g6⟩ : ∃v,rI 6=v:=⟨_,rfl⟩;obtain⟨Wq,g8⟩ : ∃v,rI 8=v:=⟨_,rfl⟩;rw[g6,g8] at Wp;have g7:=(Qy 7 (by decide +kernel)).trans b7;have g9:=(Qy 9 (by decide +kernel)).trans Y;have g10:=(Qy 10 (by decide +kernel)).trans b10;have g11:=(Qy 11 (by decide +kernel)).trans M;have wA:= @ab4 (i+1) (du t) st;have hlen:(if d=0 then (kD (i+1) st (du t)).1 else []).length+(if d=0 then (kD (i+1) st (du t)).2 else st).length<=st.length+2:=by
   by_cases h:d=0
   ·rw[iP h,iP h];exact wA
   rw[iN h,iN h];simp
  have dJ:lR (i+1) R[i] d st=match nj (i+1) (t.length+1) t d with
   | none=> .error 20
   | some (ts,d')=> .ok ((if d=0 then (kD (i+1) st (du t)).1 else [])++ts++(if d'=0 then [⟨1,i+1,[]⟩] else []),d',if d=0 then (kD (i+1) st (du t)).2 else st):=by
   rw[ht];unfold lR;rw[iN Om,iN Ip];rfl
  obtain⟨op,bC⟩ : ∃o,(if d=0 then (kD (i+1) st (du t)).2 else st)=o:=⟨_,rfl⟩;obtain⟨ins,alS⟩ : ∃o,(if d=0 then (kD (i+1) st (du t)).1 else [])=o:=⟨_,rfl⟩;rw[bC,alS] at Wp hlen dJ;have hdp:d<=B:=by have:=w.bd;omega
  have hbi:out.length+st.length+t.length+3<=B:=by
   have e:R.drop i=R[i]::R.drop (i+1):=mz C;rw[e,ht] at L8;simp only[c8,Jp] at L8;omega
  refine aM ?_;refine ef (λq fr K=>PcJ r (i+1) d t op (out++ins) Qz q (fr 6) (fr 7) (fr 8) (fr 11) K) (n:=t.length+1) ⟨0,d,[], .alN,by rw[g11];simp,g7,g6,by rw[g8,gY];exact Wp⟩ ?_;rintro q fr6 K4 ⟨j,dd,ts,hB,Ir,u7,u6,Mf⟩ y;obtain⟨vt4,u8⟩ : ∃v,fr6 8=v:=⟨_,rfl⟩;rw[u8] at Mf;have fK:=hB.jl;have arG:=hB.tl;have UI:dd<=d+j:=hB.dl;have arH:=ab1 (t:=t.drop j);by_cases fq:j+du (t.drop j)<t.length
  ·obtain⟨at',alT⟩ : ∃a,j+du (t.drop j)=a:=⟨_,rfl⟩;have hnr:=λ(K:CH)=> @alI K t at' Om Om;have Oi : ¬(t.drop j).length<=du (t.drop j):=by simp;omega
   have wz:=λk n x=> @xF.step _ _ _ _ _ _ hB Oi k n x;have adw:=hB.bad Oi;have arI:=λk x n=> @Ld (t.drop at') k x n;rw[alT] at Ir fq wz adw;refine pA (λfr' K'=>K'=K4) (by exact rz (jz @y @g10 @Ir @cJ)) ?_;rintro fr7 K5 rfl U;refine jN.2 ?_;cases L:mF (t.drop at') with
   | none=>
     have j0:=λK=>(hnr K).mono (Q':=λv K'=>ag K K'/\v= .agg #[.int .i64 (-1), .string ⟨⟨[]⟩⟩, .int .i64 0]) λv K' ⟨h1,h2⟩=>⟨h1,by rw[h2,L];rfl⟩;have hT:nj (i+1) (t.length+1) t d=none:=adw L;rw[hT] at dJ;refine rn (jz @y @U @g10 @Ir) ?_;refine(j0 _).mono λv K6 ⟨iD,hv⟩=> ?_;subst hv;refine rn (gS @y @U @g9) ?_;all_goals exact⟨bH.trans (Mf.2.2.trans ((iD.new _).set iD.nx _)),by rw[aU,w.err C dJ];rfl⟩
   | some z=>
     obtain⟨k,x,n⟩:=z;obtain⟨q',ED,hB'⟩:=wz k n x L;have htn:=Ld L;have j0:=λK=>(hnr K).mono (Q':=λv K'=>ag K K'/\v= .agg #[.int .i64 k, .string (str x), .int .i64 (at'+n:Nat)]) λv K' ⟨h1,h2⟩=>⟨h1,by rw[h2,L];rfl⟩;refine pA (λfr' K'=>∃p,fr' 12= .pointer (some ⟨p,0,none⟩)/\K'.ob p= .cells [.int .i64 k, .string (str x), .int .i64 (at'+n:Nat)] 87 .ex/\p<K'.nx/\ag K5 K') (by
      refine rn (jz @y @U @g10 @Ir) ?_;refine(j0 _).mono λv K6 ⟨iD,hv⟩=> ?_;subst hv;refine aM ?_;all_goals exact⟨_,rfl,by exact aV,fN _,(iD.new _).set iD.nx _⟩) ?_
     rintro fr8 K6 ⟨p,Fk,ak,jx,iD⟩ Is;refine pA (λfr' K'=>K'=K6) (by repeat' (first | (simp (disch:=first | omega | (decide +kernel)) only[↓RD,RU,↓aH,↓aL,↓bf,pop,aD,↓reduceIte,ρ5,ρ28,Fk,ak]) | ((with_reducible first|apply aE|apply aF|apply aG)<;>intro _))) ?_;rintro Mb K7 rfl It;have Lp : ∀o,(K7.new o).ob p= .cells [.int .i64 k, .string (str x), .int .i64 (at'+n:Nat)] 87 .ex:=λo=>by rw[bS,iN Om];exact ak
     refine pA (λfr' K'=>j5 r K' Qz (fr' 8) op.reverse (out++ins++(ts++ [⟨k,i+1,x⟩]))/\K'.ob p= .cells [.int .i64 k, .string (str x), .int .i64 (at'+n:Nat)] 87 .ex) (by
      repeat' (first | (simp (disch:=first | omega | (decide +kernel)) only[↓ez,↓c9,↓da,↓cM,↓dL,↓kj,↓iB,↓aH,↓aL,↓bf,bS,cL,ki,gh,eU,pop,aD,cq,db,isVal,ci,c8,iw,dC,↓reduceIte,Nat.reduceEqDiff,Nat.reduceAdd,reduceCtorEq,List.getElem?_cons_zero,List.getElem?_cons_succ,bN,bZ,jD,rM,kQ,pu,qx,kc,gI,gZ,ju,gY,tB,tz,jt,jS,dv,Nat.reduceLeDiff,ai,↓mP,kO,iP,xg,ba,Nat.add_zero,true_and,and_true,y,U,Is,It,Fk,ak,g9,u8,Fh]) | ((with_reducible first|apply aE|apply aF|apply aG)<;>intro _))
      refine(Mf.mv (iD.trans (by(repeat (first | assumption | exact ag.refl _ | (refine ag.set ?_ Fo _) | (refine ag.new ?_ _)))))).put ⟨k,i+1,x⟩ Sq rfl λMd K8 h5 rU S=> ?_;repeat' (first | (simp (disch:=first | omega | (decide +kernel)) only[↓RD,RU,↓aH,↓aL,pop,↓reduceIte]) | ((with_reducible first|apply aE|apply aF|apply aG)<;>intro _))
      all_goals exact⟨by rw[<-oY];exact h5,(S p _ _ _ (Nat.lt_succ_of_lt jx) (Lp _) de).trans (Lp _)⟩) ?_
     rintro arJ K8 ⟨hD8,Mg⟩ Mh;refine pA (λfr' K'=>fr' 7= .int .i64 (Dc dd k x:Nat)/\K'=K8) ?_ ?_
     ·obtain⟨c1,I⟩ : ∃b,decide (x= [ar 40])=b:=⟨_,rfl⟩;obtain⟨u,J⟩ : ∃b,decide (x= [ar 91])=b:=⟨_,rfl⟩;obtain⟨c3,e3⟩ : ∃b,decide (x= [ar 123])=b:=⟨_,rfl⟩;by_cases qc:k=9
      ·subst qc;unfold Dc;simp only[adt,I,J,e3,true_and];cases c1<;>cases u<;>cases c3;all_goals
        repeat' (first | (simp (disch:=first | omega | (decide +kernel)) only[↓RD,RU,↓aH,↓aL,↓bf,pop,aD,↓reduceIte,Nat.reduceEqDiff,reduceCtorEq,ρ5,ρ6,ρ28,U,Is,It,Mh,u7,Fk,Mg,EO,Pu,I,J,e3]) | ((with_reducible first|apply aE|apply aF|apply aG)<;>intro _))
        all_goals rfl
      rw[show Dc dd k x=dd from iN λg=>qc g.1];exact rz (Ad @y @U @Is @It @Mh @u7 @Fk @Mg @qc);all_goals rfl
     rintro QA K9 ⟨x7,rfl⟩ Wr;refine pA (λfr' K'=>fr' 7= .int .i64 (L9 (Dc dd k x) k x:Nat)/\K'=K9) ?_ ?_
     ·obtain⟨c1,I⟩ : ∃b,decide (x= [ar 41])=b:=⟨_,rfl⟩;obtain⟨u,J⟩ : ∃b,decide (x= [ar 93])=b:=⟨_,rfl⟩;obtain⟨c3,e3⟩ : ∃b,decide (x= [ar 125])=b:=⟨_,rfl⟩;obtain⟨e,he⟩ : ∃e,Dc dd k x=e:=⟨_,rfl⟩;have heb:e<=dd+1:=by rw[<-he];unfold Dc;split<;>omega
      have alU:0<e->((e:Nat):Int)-1=((e-1:Nat):Int):=λ_=>by omega
      rw[he] at x7⊢
      by_cases qc:k=9
      ·subst qc;unfold L9;simp only[adt,I,J,e3,true_and];by_cases h0:0<e
       all_goals cases c1<;>cases u<;>cases c3
       all_goals
        exact rz (Gx @y @U @Is @It @Mh @Wr @x7 @Fk @Mg @EO @Pu @I @J @e3 @h0 @alU);all_goals rfl
      rw[show L9 e k x=e from iN λg=>qc g.1];exact rz (Ce @y @U @Is @It @Mh @Wr @x7 @Fk @Mg @qc);all_goals rfl
     rintro Mi ik ⟨y7,rfl⟩ alV;rw[alM] at y7;have gR:=λ(K:CH) (Q:ae->CH->Prop)=>hbk K (at'+n) (by simp at htn;omega) Q;refine rn (Ob @y @U @Is @It @Mh @Wr @alV @g10 @Fk @Mg @y7 @gR) ?_;all_goals exact⟨q',ED,at'+n,D3 dd k x,ts++ [⟨k,i+1,x⟩],hB',rfl,rfl,g6,hD8⟩
  have hT:nj (i+1) (t.length+1) t d=some (ts,dd):=hB.fin Sq;rw[hT] at dJ;have Io:=w.step C dJ;have fin : ∀(K':CH) (v5 v6 v7 v8:ae),v6=Qz->v7= .int .i64 (dd:Nat)->j5 r K' Qz v8 op.reverse (out++(ins++ts++(if dd=0 then [⟨1,i+1,[]⟩] else [])))->OuJ r R B (R.length-(i+1)) v5 v6 v7 v8 (.int .i64 ((i:Nat)+1:Int)) K':=λK' v5 v6 v7 v8 e6 e7 g=>by
   subst e6 e7;exact⟨i+1,dd,op,_,rfl,rfl,rfl,Io,g,g.2.2⟩
  by_cases zi:dd=0
  ·repeat' (first | (simp (disch:=first | omega | (decide +kernel)) only[↓dx,↓cE,↓KM,↓KN,↓KP,↓ez,↓fj,↓fZ,↓oJ,↓c9,↓da,↓cM,↓kj,↓iB,↓aH,↓aL,↓bf,bS,cL,ki,↓di,↓Kj,gh,tQ,mO,eU,pop,cq,db,isVal,ci,c8,iw,dC,↓reduceIte,Nat.reduceEqDiff,Nat.reduceAdd,reduceCtorEq,bN,bZ,jD,rM,kQ,pu,qx,kc,gI,gZ,ju,tB,jt,jS,dv,Nat.reduceLeDiff,ai,gi,oK,↓mP,kO,iP,xg,ba,true_and,and_true,y,g10,Ir,u7,u8,g9,Fh,zi,cJ]) | ((with_reducible first|apply aE|apply aF|apply aG)<;>intro _))
   refine(Mf.mv (by(repeat (first | assumption | exact ag.refl _ | (refine ag.set ?_ Fo _) | (refine ag.new ?_ _))))).put ⟨1,i+1,[]⟩ Sq rfl λMd K5 h5 rU S=> ?_;refine rn (an @y @g9) ?_;all_goals exact⟨R.length-(i+1),Om,fin _ _ _ _ _ g6 (by first | rfl | exact u7) (by rw[iP zi];simpa only[oY] using h5)⟩
  refine rn (qz @y @g10 @Ir @u7 @u8 @g9 @zi @cJ) ?_;all_goals exact⟨R.length-(i+1),Om,fin _ _ _ _ _ g6 (by first | rfl | exact u7) (by rw[iN zi,gY,<-oY];exact Mf)⟩
 obtain⟨qv,cv,rfl⟩:=alQ;have Ec:i=R.length:=by have:=w.il;omega
 subst Ec;have rH:=w.fin;rw[aU,rH];have Ts:=s;obtain⟨b,kd,c6,os,rfl,o1,o2,o3,o4⟩:=s.last;have xW:0<st.length:=by
  have:=w.z;cases st with
  | nil=>cases this
  | cons a l=>simp
 have wN:st.reverse.length=st.length:=by simp
 rw[wN] at f6 s;refine rn (o8 @G @f5 @f6 @f7 @f8 @f9) ?_;refine ef (λn fr K=>OtJ r (.slice (some ⟨b,0,none⟩) st.length c6) st.reverse out R.length (st.length-1) n (fr 8) (fr 13) K) (n:=st.length-1) ⟨0,rfl,Om,by(refine aM ?_;all_goals rfl),by
  have:j5 r K (.slice (some ⟨b,0,none⟩) st.length c6) (fr 8) st.reverse (out++j8 0 ⟨3,R.length,[]⟩):=by rw[f8];simpa using s
  first | exact this | (exact aV;all_goals exact this)⟩ ?_
 rintro n bt K2 ⟨k,rfl,hk,f13,Ws⟩ hY;obtain⟨vt2,f82⟩ : ∃v,bt 8=v:=⟨_,rfl⟩;rw[f82] at Ws;by_cases mV:k<st.length-1
 ·refine rn (Ad @G @hY @f5 @f6 @f82 @f13 @Fh @tt3 @ll3) ?_;refine(Ws.mv (by(repeat (first | assumption | exact ag.refl _ | (refine ag.set ?_ Fo _) | (refine ag.new ?_ _))))).put ⟨3,R.length,[]⟩ Sq rfl λWq K3 h3 pC _=> ?_;refine rn @f13 ?_;all_goals exact⟨st.length-1-(k+1),Om,k+1,rfl,Om,congrArg (o7 .i64) Om,by
   have e:out++j8 (k+1) (⟨3,R.length,[]⟩:Tok)=out++j8 k ⟨3,R.length,[]⟩++ [⟨3,R.length,[]⟩]:=by rw[YX,oY]
   rw[e];exact h3⟩
 refine rn (Ad @G @hY @f5 @f6 @f82 @f13 @Fh @tt3 @ll3) ?_;refine(Ws.mv (by(repeat (first | assumption | exact ag.refl _ | (refine ag.set ?_ Fo _) | (refine ag.new ?_ _))))).put ⟨0,R.length,[]⟩ Sq rfl λWq K3 h3 pC _=> ?_;refine aM ?_;all_goals
  have ek:k=st.length-1:=by omega
  subst ek;exact⟨bH.trans h3.2.2,Wq,rfl,by
   have e:out++D4 R.length st=out++j8 (st.length-1) (⟨3,R.length,[]⟩:Tok)++ [⟨0,R.length,[]⟩]:=by unfold D4;rw[oY]
   rw[e];exact h3.2.1.low bH.nx⟩
def Bu (sl:Sl)(i:Nat)(b:Bool):dD:= .cells [.slice sl.q sl.n sl.c, .int .i64 (i:Nat), .bool b] 91 .ex
structure Bv(K:CH)(p:Nat)(sl:Sl)(ts:List PT)(i:Nat)(b:Bool):Prop where
 ob:K.ob p=Bu sl i b
 pl:p<K.nx
 il:i<=ts.length
 n:sl.n=ts.length
 tk:ig 3 tX K sl.q sl.c ts
theorem Bv.len{K:CH}{p:Nat}{sl:Sl}{ts:List PT}{i:Nat}{b:Bool}(h:Bv K p sl ts i b):ts.length<=9223372036854775807:=by
 rcases h.tk with ⟨rfl,_⟩ | ⟨l,o,os,e,kd,_,_,h2,h3,_⟩
 ·simp
 rw[gE] at h3;omega
theorem adx{K:CH}{p:Nat}{sl:Sl}{ts:List PT}{i:Nat}{b:Bool}(h:Bv K p sl ts i b):aQ (bF Tryz.prog LG GG) 44 [.pointer (some ⟨p,0,none⟩)] K λv K'=>v= .agg (jF (aC ts i)).toArray/\K'=K.new (xO (aC ts i)):=by
 have a:=h.ob;have m:=h.pl;have r:=h.len;have s:=h.il;unfold Bu at a;rw[h.n] at a;refine l5 Rl Kr (aK ?_);by_cases hi:i<ts.length
 ·obtain⟨l,o,os,e,kd,c,g1,g2,g3,g4,g5⟩:=Qn h.tk hi;have hn:aC ts i=ts[i]:=by unfold aC;rw[cj hi]
  rw[hn];rw[c] at a;unfold jF at g4⊢;refine rn (jz @a @g1 @g3 @g4) ?_;all_goals exact oQ
 by_cases d:0<ts.length
 ·obtain⟨l,o,os,e,kd,c,g1,g2,g3,g4,g5⟩:=Qn h.tk (i:=ts.length-1) Om;have hn:aC ts i=⟨0,ts[ts.length-1].line,[]⟩:=by
   unfold aC;rw[List.getElem?_eq_none Om,List.getLast?_eq_getElem?,cj Om]
  rw[hn];rw[c] at a;have g:((ts.length:Nat):Int)-1=((ts.length-1:Nat):Int):=by omega
  unfold jF;refine rn (jL @a @g1 @g3 @g5 @g) ?_;all_goals exact oQ
 have j:ts= []:=List.length_eq_zero_iff.1 Om;have hn:aC ts i=⟨0,0,[]⟩:=by subst j;rfl
 rw[hn];unfold jF;refine rn (an @a @d) ?_;all_goals exact oQ
theorem Wt{K:CH}{p:Nat}{sl:Sl}{ts:List PT}{i:Nat}{b:Bool}(h:Bv K p sl ts i b){Q:ae->CH->Prop}:aQ (bF Tryz.prog LG GG) 44 [.pointer (some ⟨p,0,none⟩)] K Q↔Q (.agg (jF (aC ts i)).toArray) (K.new (xO (aC ts i))):=sQ (adx h)
theorem alW(K:CH){c:UInt8}{s:List UInt8}:aQ (bF Tryz.prog LG GG) 148 [.string ⟨⟨c::s⟩⟩] K λv K'=>v= .bool (za (c::s))/\K'=K:=by
 have hg:((c::s)[0]?).map (λb=>o7 .u8 (b.toNat:Int))=some (.int .u8 (c.toNat:Int)):=rfl;have hc:=c.toNat_lt;have e:za (c::s)=decide ((65<=c.toNat/\c.toNat<=90)\/(97<=c.toNat/\c.toNat<=122)):=rfl;rw[e];obtain⟨n,hn⟩ : ∃n,c.toNat=n:=⟨_,rfl⟩;rw[hn] at hg hc⊢;refine l5 Rl Kr (aK ?_);by_cases h1:65<=n
 ·by_cases h2:n<=90
  ·rw[decide_eq_true Om];exact rz (jz @LQ @hg @h1 @h2)
  by_cases h3:97<=n
  ·by_cases h4:n<=122
   ·rw[decide_eq_true Om];exact rz (o8 @LQ @hg @h1 @h2 @h3 @h4)
   rw[decide_eq_false Om];exact rz (o8 @LQ @hg @h1 @h2 @h3 @h4)
  rw[decide_eq_false Om];exact rz (jL @LQ @hg @h1 @h2 @h3)
 rw[decide_eq_false Om];have h3 : ¬ 97<=n:=by omega
 exact rz (jz @LQ @hg @h1 @h3)
theorem ady{K:CH}{c:UInt8}{s:List UInt8}{Q:ae->CH->Prop}:aQ (bF Tryz.prog LG GG) 148 [.string ⟨⟨c::s⟩⟩] K Q↔Q (.bool (za (c::s))) K:=sQ (alW K)
theorem alX{K:CH}{p:Nat}{sl:Sl}{ts:List PT}{i:Nat}(h:Bv K p sl ts i false){d:UInt8}{s:List UInt8}:aQ (bF Tryz.prog LG GG) 114 [.pointer (some ⟨p,0,none⟩), .string ⟨⟨d::s⟩⟩] K λv K'=>v= .bool (ap ts i (d::s))/\K'=(K.new (xO (aC ts i))).new (xO (aC ts i)):=by
 have w:=h.ob;have x:=h.pl;have a:=λQ=> @Wt K p sl ts i _ h Q;obtain⟨t,ht⟩ : ∃t,aC ts i=t:=⟨_,rfl⟩;unfold Bu at w;rw[ht] at a;unfold ap;rw[ht];obtain⟨kd,ln,tx⟩:=t;obtain⟨G,o⟩ : ∃G,K.new (xO ⟨kd,ln,tx⟩)=G:=⟨_,rfl⟩;rw[o] at a⊢;unfold jF at a;have j:G.ob p= .cells [.slice sl.q sl.n sl.c, .int .i64 (i:Nat), .bool false] 91 .ex:=by rw[<-o,bL Om];exact w
 have l:p≠G.nx:=by rw[<-o,jK];omega
 have fin:G.new (.cells [.int .i64 kd, .int .i64 ln, .string ⟨⟨tx⟩⟩] 85 .ex)=G.new (xO ⟨kd,ln,tx⟩):=rfl;refine l5 Rl Kr (aK ?_);by_cases r:kd=8
 ·subst r;by_cases e:tx=d::s
  ·have hd:=decide_eq_true e;have hw:=λK Q=> @ady K d s Q;cases m:za (d::s) with
   | true=>
     rw[m] at hw;rw[decide_eq_true ⟨.inl rfl,e,rfl⟩];repeat' (first | (simp (disch:=first | omega | (decide +kernel)) only[↓RD,RU,qG,nK,bT,↓aH,↓dA,↓aL,↓bf,bS,cZ,eT,sP,pop,aD,cq,bq,cY,fQ,dU,db,isVal,a8,ci,ρ0,ρ1,ρ3,↓reduceIte,Nat.reduceEqDiff,Nat.reduceAdd,Int.reduceOfNat,reduceCtorEq,ρ5,ρ6,ρ7,ρ8,ρ17,ρ20,ρ21,ρ22,ρ23,Kd.bY,ρ25,ρ26,ρ28,a,j,l,oQ,H8,hw]) | ((with_reducible first|apply aE|apply aF|apply aG)<;>intro _))
     all_goals exact fin
   | false=>
     rw[m] at hw;rw[decide_eq_false Sm];repeat' (first | (simp (disch:=first | omega | (decide +kernel)) only[↓RD,RU,qG,nK,bT,↓aH,↓dA,↓aL,↓bf,bS,cZ,eT,sP,pop,aD,cq,bq,cY,fQ,dU,db,isVal,a8,ci,ρ0,ρ1,ρ3,↓reduceIte,Nat.reduceEqDiff,Nat.reduceAdd,Int.reduceOfNat,reduceCtorEq,ρ5,ρ6,ρ7,ρ8,ρ17,ρ20,ρ21,ρ22,ρ23,Kd.bY,ρ25,ρ26,ρ28,a,j,l,oQ,H8,hw]) | ((with_reducible first|apply aE|apply aF|apply aG)<;>intro _))
     all_goals exact fin
  have hd:=decide_eq_false e;rw[decide_eq_false (λg=>e g.2.1)];repeat' (first | (simp (disch:=first | omega | (decide +kernel)) only[↓RD,RU,qG,nK,bT,↓aH,↓dA,↓aL,↓bf,bS,cZ,eT,sP,pop,aD,cq,bq,cY,fQ,dU,db,isVal,a8,ci,ρ0,ρ1,ρ3,↓reduceIte,Nat.reduceEqDiff,Nat.reduceAdd,Int.reduceOfNat,reduceCtorEq,ρ5,ρ6,ρ7,ρ8,ρ17,ρ20,ρ21,ρ22,ρ23,Kd.bY,ρ25,ρ26,ρ28,a,j,l,oQ,H8]) | ((with_reducible first|apply aE|apply aF|apply aG)<;>intro _))
  all_goals exact fin
 by_cases u:kd=9
 ·subst u;by_cases e:tx=d::s
  ·have hd:=decide_eq_true e;have hw:=λK Q=> @ady K d s Q;cases m:za (d::s) with
   | true=>
     rw[m] at hw;rw[decide_eq_false Sm];repeat' (first | (simp (disch:=first | omega | (decide +kernel)) only[↓RD,RU,qG,nK,bT,↓aH,↓dA,↓aL,↓bf,bS,cZ,eT,sP,pop,aD,cq,bq,cY,fQ,dU,db,isVal,a8,ci,ρ0,ρ1,ρ2,ρ3,↓reduceIte,Nat.reduceEqDiff,Nat.reduceAdd,Int.reduceOfNat,reduceCtorEq,ρ5,ρ6,ρ7,ρ8,ρ17,ρ20,ρ21,ρ22,ρ23,Kd.bY,ρ25,ρ26,ρ28,a,j,l,oQ,H8,hw]) | ((with_reducible first|apply aE|apply aF|apply aG)<;>intro _))
     all_goals exact fin
   | false=>
     rw[m] at hw;rw[decide_eq_true ⟨.inr rfl,e,Sm⟩];repeat' (first | (simp (disch:=first | omega | (decide +kernel)) only[↓RD,RU,qG,nK,bT,↓aH,↓dA,↓aL,↓bf,bS,cZ,eT,sP,pop,aD,cq,bq,cY,fQ,dU,db,isVal,a8,ci,ρ0,ρ1,ρ3,↓reduceIte,Nat.reduceEqDiff,Nat.reduceAdd,Int.reduceOfNat,reduceCtorEq,ρ5,ρ6,ρ7,ρ8,ρ17,ρ20,ρ21,ρ22,ρ23,Kd.bY,ρ25,ρ26,ρ28,a,j,l,oQ,H8,hw]) | ((with_reducible first|apply aE|apply aF|apply aG)<;>intro _))
     all_goals exact fin
  have hd:=decide_eq_false e;rw[decide_eq_false (λg=>e g.2.1)];repeat' (first | (simp (disch:=first | omega | (decide +kernel)) only[↓RD,RU,qG,nK,bT,↓aH,↓dA,↓aL,↓bf,bS,cZ,eT,sP,pop,aD,cq,bq,cY,fQ,dU,db,isVal,a8,ci,ρ0,ρ1,ρ3,↓reduceIte,Nat.reduceEqDiff,Nat.reduceAdd,Int.reduceOfNat,reduceCtorEq,ρ5,ρ6,ρ7,ρ8,ρ17,ρ20,ρ21,ρ22,ρ23,Kd.bY,ρ25,ρ26,ρ28,a,j,l,oQ,H8]) | ((with_reducible first|apply aE|apply aF|apply aG)<;>intro _))
  all_goals exact fin
 rw[decide_eq_false (λg=>g.1.elim r u)];refine rn (o8 @a @j @l @oQ @r @u) ?_;all_goals exact fin
theorem alY{K:CH}{p:Nat}{sl:Sl}{ts:List PT}{i:Nat}(h:Bv K p sl ts i true){s:ByteArray}:aQ (bF Tryz.prog LG GG) 114 [.pointer (some ⟨p,0,none⟩), .string s] K λv K'=>v= .bool false/\K'=(K.new (xO (aC ts i))).new (xO (aC ts i)):=by
 have g:=h.ob;have m:=h.pl;have a:=λQ=> @Wt K p sl ts i _ h Q;obtain⟨t,ht⟩ : ∃t,aC ts i=t:=⟨_,rfl⟩;unfold Bu at g;rw[ht] at a⊢;obtain⟨kd,ln,tx⟩:=t;obtain⟨G,d⟩ : ∃G,K.new (xO ⟨kd,ln,tx⟩)=G:=⟨_,rfl⟩;rw[d] at a⊢;unfold jF at a;have j:G.ob p= .cells [.slice sl.q sl.n sl.c, .int .i64 (i:Nat), .bool true] 91 .ex:=by rw[<-d,bL Om];exact g
 have l:p≠G.nx:=by rw[<-d,jK];omega
 refine l5 Rl Kr (aK ?_);refine rn (jz @a @j @l @oQ) ?_;all_goals rfl
theorem alZ{K:CH}{p:Nat}{sl:Sl}{ts:List PT}{i:Nat}(h:Bv K p sl ts i false){k:Int}:aQ (bF Tryz.prog LG GG) 116 [.pointer (some ⟨p,0,none⟩), .int .i64 k] K λv K'=>v= .bool (decide ((aC ts i).kind=k))/\K'=K.new (xO (aC ts i)):=by
 have c:=h.ob;have d:=h.pl;have a:=λQ=> @Wt K p sl ts i _ h Q;obtain⟨t,ht⟩ : ∃t,aC ts i=t:=⟨_,rfl⟩;unfold Bu at c;rw[ht] at a⊢;obtain⟨kd,ln,tx⟩:=t;unfold jF at a;refine l5 Rl Kr (aK ?_);by_cases hk:kd=k
 ·rw[decide_eq_true hk];subst hk;exact rz (an @c @a);all_goals rfl
 rw[decide_eq_false hk];exact rz (gS @c @a @hk);all_goals rfl
theorem al0{K:CH}{p:Nat}{sl:Sl}{ts:List PT}{i:Nat}(h:Bv K p sl ts i true){k:Int}:aQ (bF Tryz.prog LG GG) 116 [.pointer (some ⟨p,0,none⟩), .int .i64 k] K λv K'=>v= .bool false/\K'=K:=by
 have a:=h.ob;have c:=h.pl;unfold Bu at a;refine l5 Rl Kr (aK ?_);exact rz @a
theorem al1{K:CH}{k l:Int}{a:Option Addr}{n c:Nat}:aQ (bF Tryz.prog LG GG) 43 [.int .i64 k, .int .i64 l, .slice a n c] K λv K'=>v= .agg #[.int .i64 k, .int .i64 l, .string ⟨⟨[]⟩⟩, .int .i64 0, .slice a n c]/\∃o,K'=K.new o:=by
 refine l5 Rl Kr (aK ?_);refine rn @oQ ?_;all_goals exact⟨_,rfl⟩
inductive ib:List SV->Prop
 | mk {k l:Int} {x:ByteArray} {o:Int} {gs:List (List SV)} (h : ∀g∈gs,ib g):ib [.sc (.int .i64 k), .sc (.int .i64 l), .sc (.string x), .sc (.int .i64 o), .row 5 gs]
mutual
theorem sX : ∀t:Nd,ib (cF t)
 | .mk _ _ _ _ ks=> .mk (rV ks)
theorem rV : ∀ks:List Nd,∀g∈cT ks,ib g
 | [],g,h=>by cases h
 | n::ks,g,h=>by
   rcases List.mem_cons.1 h with rfl | h
   ·exact sX n
   exact rV ks g h
end
abbrev gA(k l:Int)(x:ByteArray)(o:Int)(gs:List (List SV)):AV:= .r (.agg [cS (.int .i64 k),cS (.int .i64 l),cS (.string x),cS (.int .i64 o), .s (.row 5 gs)])
def dB (sl:Sl)(i:Nat)(b:Bool):List SV:= [.sc (.slice sl.q sl.n sl.c), .sc (.int .i64 (i:Nat)), .sc (.bool b)]
abbrev ic(sl:Sl)(i:Nat)(b:Bool):Self:=some (91,dB sl i b)
theorem al2{K:CH}{E:TE}{sp:Option Nat}{sl:Sl}{i:Nat}{b:Bool}(h:CS K E sp (ic sl i b)) : ∃p,sp=some p/\p<K.nx/\K.ob p=Bu sl i b:=by
 obtain⟨p,os,h1,h2,h3,h4⟩:=h;refine⟨p,h1,h2,?_⟩;rw[h3];cases h4 with
 | cons a h4=>cases h4 with
   | cons b h4=>cases h4 with
     | cons c h4=>cases h4;cases a;cases b;cases c;rfl
theorem al3{K:CH}{E:TE}{p:Nat}{sl:Sl}{i:Nat}{b:Bool}(h:p<K.nx)(ho:K.ob p=Bu sl i b):CS K E (some p) (ic sl i b):=⟨p,_,rfl,h,ho, .cons (.sc rfl) (.cons (.sc rfl) (.cons (.sc rfl) .nil))⟩
theorem Mj{Z:TP}{X:dz}{sl:Sl}{ts:List PT}(g:VV Z sl ts){f:aS}{L:List ae}{i j:Nat}{b c:Bool}{a:AV}{V:ae}{Q:AV->List SV->Prop}{R:ae->Prop}(hi:i<=ts.length)(m : ∀K E,cp K E a V)(hc:a.clean)
 (h : ∀K p,Bv K p sl ts i b->aQ (bF Tryz.prog LG GG) f (.pointer (some ⟨p,0,none⟩)::L) K λv K'=>v=V/\K.nx<=K'.nx/\(∀x,x<K.nx->x≠p->K'.ob x=K.ob x)/\K'.ob p=Bu sl j c) (o:Q a (dB sl j c)):TC Z (bF Tryz.prog LG GG) X f (.ptr 0 0::L.map rS) (ic sl i b) Q R:=by
 refine akd rfl λK sp hid vs h1 h2 h3 h4=> ?_;obtain⟨p,rfl,hp,ho⟩:=al2 h4;have q:vs= .pointer (some ⟨p,0,none⟩)::L:=by
  cases h3 with
  | cons g1 g2=>
    obtain⟨l,d,r⟩:=g1.A0;have d:some p=some l:=d;cases d;rw[r,adc g2]
 subst q;left;refine(h K p ⟨ho,hp,hi,g.n,g.tk K λx hx=>⟨(h2 x hx).1,(h2 x hx).2.2⟩⟩).mono λv K' ⟨s,k,t,u⟩=> ?_;subst s;exact⟨k,λx hx hs=>t x hx λe=>hs (by rw[e]),a,dB sl j c,m _ _,hc,al3 (cQ hp k) u,rfl,o⟩
structure cr(Z:TP)(ts:List PT)(sl:Sl):Prop where
 Ml:VV Z sl ts
 len:ts.length<=4398046510976
def DTd:TD:=⟨[43]⟩
theorem dp:y0 (bF Tryz.prog LG GG) DTd:=⟨λf d K k l a n c=>by
 have:f=43:=by
  simp only[DTd,List.elem_cons,List.elem_nil] at d;split at d;·rename_i h;exact eq_of_beq h
  cases d
 subst this;exact al1⟩
section
variable {Z:TP} {X:dz} {ts:List PT} {sl:Sl} {R:ae->Prop} {Q:AV->List SV->Prop} {i:Nat} {b:Bool}
theorem lq(C:cr Z ts sl)(hi:i<=ts.length)(a:Q (adb (aC ts i)) (dB sl i b)):TC Z (bF Tryz.prog LG GG) X 44 [.ptr 0 0] (ic sl i b) Q R:=
 Mj C.Ml (L:= []) hi (λ_ _=>akY) trivial (λK p h=>(adx h).mono λv K' ⟨c,d⟩=>by
  subst d;exact⟨c,Nat.le_succ _,λb hb _=>bL Om,(bL (by have:=h.pl;omega)).trans h.ob⟩) a
theorem adz(C:cr Z ts sl){s:List UInt8}(hs:s≠ [])(hi:i<=ts.length)(c:Q (rS (.bool (ap ts i s))) (dB sl i false)):TC Z (bF Tryz.prog LG GG) X 114 [.ptr 0 0,rS (.string ⟨⟨s⟩⟩)] (ic sl i false) Q R:=by
 obtain⟨a,s,rfl⟩ : ∃a d,s=a::d:=by cases s;exact absurd rfl hs;exact⟨_,_,rfl⟩
 exact Mj C.Ml (L:= [.string ⟨⟨a::s⟩⟩]) hi (λ_ _=>Ia rfl) trivial (λK p h=>(alX h).mono λv K' ⟨e,g⟩=>by
  subst g;have:=h.pl;refine⟨e,by simp only[jK];omega,λb hb _=> ?_,?_⟩;·rw[bL (by simp only[jK];omega),bL Om]
  rw[bL (by simp only[jK];omega),bL Om];exact h.ob) c
theorem ku(C:cr Z ts sl){s:ByteArray}(hi:i<=ts.length)(a:Q (rS (.bool false)) (dB sl i true)):TC Z (bF Tryz.prog LG GG) X 114 [.ptr 0 0,rS (.string s)] (ic sl i true) Q R:=
 Mj C.Ml (L:= [.string s]) hi (λ_ _=>Ia rfl) trivial (λK p h=>(alY h).mono λv K' ⟨c,d⟩=>by
  subst d;have:=h.pl;refine⟨c,by simp only[jK];omega,λb hb _=> ?_,?_⟩;·rw[bL (by simp only[jK];omega),bL Om]
  rw[bL (by simp only[jK];omega),bL Om];exact h.ob) a
theorem al4(C:cr Z ts sl){k:Int}(hi:i<=ts.length)(a:Q (rS (.bool (decide ((aC ts i).kind=k)))) (dB sl i false)):TC Z (bF Tryz.prog LG GG) X 116 [.ptr 0 0,rS (.int .i64 k)] (ic sl i false) Q R:=
 Mj C.Ml (L:= [.int .i64 k]) hi (λ_ _=>Ia rfl) trivial (λK p h=>(alZ h).mono λv K' ⟨c,d⟩=>by
  subst d;exact⟨c,Nat.le_succ _,λb hb _=>bL Om,(bL (by have:=h.pl;omega)).trans h.ob⟩) a
theorem rX(C:cr Z ts sl){k:Int}(hi:i<=ts.length)(a:Q (rS (.bool false)) (dB sl i true)):TC Z (bF Tryz.prog LG GG) X 116 [.ptr 0 0,rS (.int .i64 k)] (ic sl i true) Q R:=
 Mj C.Ml (L:= [.int .i64 k]) hi (λ_ _=>Ia rfl) trivial (λK p h=>(al0 h).mono λv K' ⟨c,d⟩=>by
  subst d;exact⟨c,ai _,λb _ _=>rfl,h.ob⟩) a
end
end
section
open Go Go.RowKit
attribute [local irreducible] TC ap aC jb
section
variable {Z:TP} {X:dz} {ts:List PT} {sl:Sl} {R:ae->Prop} {Q:AV->List SV->Prop} {E:Nat->Prop} {P:List Nd->Nat->Prop} {i:Nat}
theorem adA(C:cr Z ts sl)(h:i<ts.length){a:AV}(d:Q a (dB sl (i+1) false)):Q a [SV.sc (.slice sl.q sl.n sl.c),SV.sc (.int .i64 (IntKind.wrap .i64 ((i:Int)+1))),SV.sc (.bool false)]:=by
 rw[ade h C.len];exact d
theorem wP(C:cr Z ts sl){s:List UInt8}(hs:s≠ [])(hi:i<=ts.length)(h1:ap ts i s=true->Q (rS (.bool true)) (dB sl i false))(h2:ap ts i s=false->Q (rS (.bool false)) (dB sl i false)):TC Z (bF Tryz.prog LG GG) X 114 [.ptr 0 0,rS (.string ⟨⟨s⟩⟩)] (ic sl i false) Q R:=by
 refine adz C hs hi ?_;cases hb:ap ts i s with
 | true=>exact h1 hb
 | false=>exact h2 hb
theorem pD(C:cr Z ts sl){s:List UInt8}(hs:s≠ [])(hi:i<=ts.length)(h1:ap ts i s=true->i<ts.length->Q (rS (.bool true)) (dB sl (i+1) false))(h2:ap ts i s=false->Q (rS (.bool false)) (dB sl i false)):TC Z (bF Tryz.prog LG GG) X 79 [.ptr 0 0,rS (.string ⟨⟨s⟩⟩)] (ic sl i false) Q R:=by
 refine dm dp Rl Kr (aK ?_)
 conv=>whnf
 refine adz C hs hi ?_;cases hb:ap ts i s with
 | false=>
   conv=>whnf
   exact h2 hb
 | true=>
   conv=>whnf
   exact adA C (E9 hb) (h1 hb (E9 hb))
theorem Wu(C:cr Z ts sl){s:List UInt8}(hs:s≠ [])(hi:i<=ts.length)(h1:ap ts i s=true->i<ts.length->Q (.iC []) (dB sl (i+1) false))(h2:ap ts i s=false->Q (.iC []) (dB sl i true)):TC Z (bF Tryz.prog LG GG) X 82 [.ptr 0 0,rS (.string ⟨⟨s⟩⟩)] (ic sl i false) Q R:=by
 refine dm dp Rl Kr (aK ?_)
 conv=>whnf
 refine pD C hs hi (λhb hl=> ?_) (λhb=> ?_)
 ·conv=>whnf
  exact h1 hb hl
 conv=>whnf
 exact h2 hb
theorem al5(C:cr Z ts sl){k:Int}(a:k≠0)(hi:i<=ts.length)(h1:(aC ts i).kind=k->i<ts.length->Q (rS (.string ⟨⟨(aC ts i).text⟩⟩)) (dB sl (i+1) false))(h2:(aC ts i).kind≠k->Q (rS (.string ⟨⟨[]⟩⟩)) (dB sl i true)):TC Z (bF Tryz.prog LG GG) X 86 [.ptr 0 0,rS (.int .i64 k)] (ic sl i false) Q R:=by
 refine dm dp Rl Kr (aK ?_)
 conv=>whnf
 refine lq C hi ?_;conv=>whnf
 refine eO (λhb=> ?_) (λhb=> ?_)
 ·conv=>whnf
  refine h2 ?_;simpa using hb
 have hk:(aC ts i).kind=k:=by simpa using hb
 have hl:i<ts.length:=zh (by rw[hk];exact a);conv=>whnf
 exact adA C hl (h1 hk hl)
theorem al6(C:cr Z ts sl)(hi:i<=ts.length)(a:Q (rS (.bool (jb ts i))) (dB sl i false)):TC Z (bF Tryz.prog LG GG) X 118 [.ptr 0 0] (ic sl i false) Q R:=by
 refine dm dp Rl Kr (aK ?_)
 conv=>whnf
 refine lq C hi ?_;obtain⟨t,ht⟩ : ∃t,aC ts i=t:=⟨_,rfl⟩;have hw:= @akK ts i;have hs:= @akL ts i;have hk:= @akI ts i;have hn:= @akJ ts i;rw[ht] at hw hs hk hn⊢;obtain⟨kd,ln,tx⟩:=t;by_cases m:kd=4
 ·subst m;rw[hk (show(4:Int)<=4/\(4:Int)<=7 by decide)] at a;conv=>whnf
  exact a
 by_cases n:kd=5
 ·subst n;rw[hk (show(4:Int)<=5/\(5:Int)<=7 by decide)] at a;conv=>whnf
  exact a
 by_cases o:kd=6
 ·subst o;rw[hk (show(4:Int)<=6/\(6:Int)<=7 by decide)] at a;conv=>whnf
  exact a
 by_cases r:kd=7
 ·subst r;rw[hk (show(4:Int)<=7/\(7:Int)<=7 by decide)] at a;conv=>whnf
  exact a
 by_cases j:kd=8
 ·subst j;conv=>whnf
  refine wP C de hi (λ(c:ap ts i E7=true)=> ?_) λ(c:ap ts i E7=false)=> ?_
  ·conv=>whnf
   rw[hw rfl,c] at a;exact a
  conv=>whnf
  refine wP C de hi (λ(d:ap ts i vg=true)=> ?_) λ(d:ap ts i vg=false)=> ?_
  ·conv=>whnf
   rw[hw rfl,c,d] at a;exact a
  conv=>whnf
  refine wP C de hi (λ(g:ap ts i HY=true)=> ?_) λ(g:ap ts i HY=false)=> ?_
  ·conv=>whnf
   rw[hw rfl,c,d,g] at a;exact a
  conv=>whnf
  refine wP C de hi (λ(b3:ap ts i HZ=true)=> ?_) λ(b3:ap ts i HZ=false)=> ?_
  ·conv=>whnf
   rw[hw rfl,c,d,g,b3] at a;exact a
  conv=>whnf
  refine wP C de hi (λ(b4:ap ts i H5=true)=> ?_) λ(b4:ap ts i H5=false)=> ?_
  ·conv=>whnf
   rw[hw rfl,c,d,g,b3,b4] at a;exact a
  conv=>whnf
  rw[hw rfl,c,d,g,b3,b4] at a;exact a
 by_cases l:kd=9
 ·subst l;conv=>whnf
  refine wP C de hi (λ(c:ap ts i C4=true)=> ?_) λ(c:ap ts i C4=false)=> ?_
  ·conv=>whnf
   rw[hs rfl,c] at a;exact a
  conv=>whnf
  refine wP C de hi (λ(d:ap ts i C5=true)=> ?_) λ(d:ap ts i C5=false)=> ?_
  ·conv=>whnf
   rw[hs rfl,c,d] at a;exact a
  conv=>whnf
  refine wP C de hi (λ(g:ap ts i Be=true)=> ?_) λ(g:ap ts i Be=false)=> ?_
  ·conv=>whnf
   rw[hs rfl,c,d,g] at a;exact a
  conv=>whnf
  refine wP C de hi (λ(b3:ap ts i E8=true)=> ?_) λ(b3:ap ts i E8=false)=> ?_
  ·conv=>whnf
   rw[hs rfl,c,d,g,b3] at a;exact a
  conv=>whnf
  refine wP C de hi (λ(b4:ap ts i HX=true)=> ?_) λ(b4:ap ts i HX=false)=> ?_
  ·conv=>whnf
   rw[hs rfl,c,d,g,b3,b4] at a;exact a
  conv=>whnf
  rw[hs rfl,c,d,g,b3,b4] at a;exact a
 rw[hn (by simp only;omega) j l] at a;conv=>whnf
 refine eO (λh=>absurd (by simpa using h) m) λ_=> ?_;conv=>whnf
 refine eO (λh=>absurd (by simpa using h) n) λ_=> ?_;conv=>whnf
 refine eO (λh=>absurd (by simpa using h) o) λ_=> ?_;conv=>whnf
 refine eO (λh=>absurd (by simpa using h) r) λ_=> ?_;conv=>whnf
 refine eO (λh=>absurd (by simpa using h) j) λ_=> ?_;conv=>whnf
 refine eO (λh=>absurd (by simpa using h) l) λ_=> ?_;conv=>whnf
 exact a
theorem al7(C:cr Z ts sl)(hi:i<=ts.length)(h1:jZ ts i≠0->i<ts.length->Q (rS (.int .i64 (jZ ts i:Nat))) (dB sl (i+1) false))(h2:jZ ts i=0->Q (rS (.int .i64 0)) (dB sl i false)):TC Z (bF Tryz.prog LG GG) X 154 [.ptr 0 0] (ic sl i false) Q R:=by
 refine dm dp Rl Kr (aK ?_)
 conv=>whnf
 refine pD C de hi (λ(a:ap ts i VB=true) hl=> ?_) (λ(a:ap ts i VB=false)=> ?_)
 ·conv=>whnf
  have e:jZ ts i=1:=by simp[jZ,a]
  have h1:=h1 (by rw[e];decide) hl;rw[e] at h1;exact h1
 conv=>whnf
 refine pD C de hi (λ(c:ap ts i VC=true) hl=> ?_) (λ(c:ap ts i VC=false)=> ?_)
 ·conv=>whnf
  have e:jZ ts i=2:=by simp[jZ,a,c]
  have h1:=h1 (by rw[e];decide) hl;rw[e] at h1;exact h1
 conv=>whnf
 refine pD C de hi (λ(d:ap ts i VD=true) hl=> ?_) (λ(d:ap ts i VD=false)=> ?_)
 ·conv=>whnf
  have e:jZ ts i=3:=by simp[jZ,a,c,d]
  have h1:=h1 (by rw[e];decide) hl;rw[e] at h1;exact h1
 conv=>whnf
 refine pD C de hi (λ(b3:ap ts i VE=true) hl=> ?_) (λ(b3:ap ts i VE=false)=> ?_)
 ·conv=>whnf
  have e:jZ ts i=4:=by simp[jZ,a,c,d,b3]
  have h1:=h1 (by rw[e];decide) hl;rw[e] at h1;exact h1
 conv=>whnf
 refine pD C de hi (λ(b4:ap ts i VF=true) hl=> ?_) (λ(b4:ap ts i VF=false)=> ?_)
 ·conv=>whnf
  have e:jZ ts i=5:=by simp[jZ,a,c,d,b3,b4]
  have h1:=h1 (by rw[e];decide) hl;rw[e] at h1;exact h1
 conv=>whnf
 refine pD C de hi (λ(g:ap ts i VG=true) hl=> ?_) (λ(g:ap ts i VG=false)=> ?_)
 ·conv=>whnf
  have e:jZ ts i=6:=by simp[jZ,a,c,d,b3,b4,g]
  have h1:=h1 (by rw[e];decide) hl;rw[e] at h1;exact h1
 conv=>whnf
 refine pD C de hi (λ(j:ap ts i VH=true) hl=> ?_) (λ(j:ap ts i VH=false)=> ?_)
 ·conv=>whnf
  have e:jZ ts i=7:=by simp[jZ,a,c,d,b3,b4,g,j]
  have h1:=h1 (by rw[e];decide) hl;rw[e] at h1;exact h1
 conv=>whnf
 exact h2 (by simp[jZ,a,c,d,b3,b4,g,j])
theorem al8(C:cr Z ts sl)(hi:i<=ts.length)(s : ∀e,ji ts i= .error e->Q (rS (.int .i64 8)) (dB sl e true))(d : ∀op j,ji ts i= .ok (op,j)->j<=ts.length->Q (rS (.int .i64 (op:Nat))) (dB sl j false)):TC Z (bF Tryz.prog LG GG) X 193 [.ptr 0 0] (ic sl i false) Q R:=by
 refine dm dp Rl Kr (aK ?_)
 conv=>whnf
 refine pD C de hi (λ(a:ap ts i Vt=true) hl=> ?_) (λ(a:ap ts i Vt=false)=> ?_)
 ·conv=>whnf
  exact d 1 (i+1) (by simp[ji,a]) hl
 conv=>whnf
 refine pD C de hi (λ(c:ap ts i Vu=true) hl=> ?_) (λ(c:ap ts i Vu=false)=> ?_)
 ·conv=>whnf
  exact d 2 (i+1) (by simp[ji,a,c]) hl
 conv=>whnf
 refine pD C de hi (λ(g:ap ts i Vv=true) hl=> ?_) (λ(g:ap ts i Vv=false)=> ?_)
 ·conv=>whnf
  exact d 3 (i+1) (by simp[ji,a,c,g]) hl
 conv=>whnf
 refine pD C de hi (λ(b3:ap ts i Vw=true) hl=> ?_) (λ(b3:ap ts i Vw=false)=> ?_)
 ·conv=>whnf
  exact d 4 (i+1) (by simp[ji,a,c,g,b3]) hl
 conv=>whnf
 refine pD C de hi (λ(b4:ap ts i Vx=true) hl=> ?_) (λ(b4:ap ts i Vx=false)=> ?_)
 ·conv=>whnf
  exact d 5 (i+1) (by simp[ji,a,c,g,b3,b4]) hl
 conv=>whnf
 refine pD C de hi (λ(l:ap ts i Vy=true) hl=> ?_) (λ(l:ap ts i Vy=false)=> ?_)
 ·conv=>whnf
  exact d 6 (i+1) (by simp[ji,a,c,g,b3,b4,l]) hl
 conv=>whnf
 refine pD C de hi (λ(m:ap ts i C1=true) hl=> ?_) (λ(m:ap ts i C1=false)=> ?_)
 ·conv=>whnf
  exact d 7 (i+1) (by simp[ji,a,c,g,b3,b4,l,m]) hl
 conv=>whnf
 refine pD C de hi (λ(o:ap ts i vg=true) hl=> ?_) (λ(o:ap ts i vg=false)=> ?_)
 ·conv=>whnf
  refine Wu C de hl (λ(n:ap ts (i+1) C1=true) hl=> ?_) (λ(n:ap ts (i+1) C1=false)=> ?_)
  ·conv=>whnf
   exact d 8 (i+2) (by simp[ji,a,c,g,b3,b4,l,m,o,n]) hl
  conv=>whnf
  exact s (i+1) (by simp[ji,a,c,g,b3,b4,l,m,o,n])
 conv=>whnf
 refine pD C de hi (λ(r:ap ts i Vz=true) hl=> ?_) (λ(r:ap ts i Vz=false)=> ?_)
 ·conv=>whnf
  refine pD C de hl (λ(n:ap ts (i+1) vg=true) hl=> ?_) (λ(n:ap ts (i+1) vg=false)=> ?_)
  ·conv=>whnf
   exact d 10 (i+2) (by simp[ji,a,c,g,b3,b4,l,m,o,r,n]) hl
  conv=>whnf
  exact d 9 (i+1) (by simp[ji,a,c,g,b3,b4,l,m,o,r,n]) hl
 conv=>whnf
 exact d 0 i (by simp[ji,a,c,g,b3,b4,l,m,o,r]) hi
theorem jc(C:cr Z ts sl){s:ByteArray}(hi:i<=ts.length)(a:Q (rS (.bool false)) (dB sl i true)):TC Z (bF Tryz.prog LG GG) X 79 [.ptr 0 0,rS (.string s)] (ic sl i true) Q R:=by
 refine dm dp Rl Kr (aK ?_)
 conv=>whnf
 refine ku C hi ?_;conv=>whnf
 exact a
theorem rY(C:cr Z ts sl){s:ByteArray}(hi:i<=ts.length)(a:Q (.iC []) (dB sl i true)):TC Z (bF Tryz.prog LG GG) X 82 [.ptr 0 0,rS (.string s)] (ic sl i true) Q R:=by
 refine dm dp Rl Kr (aK ?_)
 conv=>whnf
 refine jc C hi ?_;conv=>whnf
 exact a
theorem rZ(C:cr Z ts sl){k:Int}(hi:i<=ts.length)(a:Q (rS (.string ⟨⟨[]⟩⟩)) (dB sl i true)):TC Z (bF Tryz.prog LG GG) X 86 [.ptr 0 0,rS (.int .i64 k)] (ic sl i true) Q R:=by
 refine dm dp Rl Kr (aK ?_)
 conv=>whnf
 refine lq C hi ?_;conv=>whnf
 exact a
theorem r8(C:cr Z ts sl)(hi:i<=ts.length)(a:Q (rS (.int .i64 0)) (dB sl i true)):TC Z (bF Tryz.prog LG GG) X 154 [.ptr 0 0] (ic sl i true) Q R:=by
 refine dm dp Rl Kr (aK ?_)
 conv=>whnf
 refine jc C hi ?_;conv=>whnf
 refine jc C hi ?_;conv=>whnf
 refine jc C hi ?_;conv=>whnf
 refine jc C hi ?_;conv=>whnf
 refine jc C hi ?_;conv=>whnf
 refine jc C hi ?_;conv=>whnf
 refine jc C hi ?_;conv=>whnf
 exact a
theorem r9(C:cr Z ts sl)(hi:i<=ts.length)(a:Q (rS (.int .i64 0)) (dB sl i true)):TC Z (bF Tryz.prog LG GG) X 193 [.ptr 0 0] (ic sl i true) Q R:=by
 refine dm dp Rl Kr (aK ?_)
 conv=>whnf
 refine jc C hi ?_;conv=>whnf
 refine jc C hi ?_;conv=>whnf
 refine jc C hi ?_;conv=>whnf
 refine jc C hi ?_;conv=>whnf
 refine jc C hi ?_;conv=>whnf
 refine jc C hi ?_;conv=>whnf
 refine jc C hi ?_;conv=>whnf
 refine jc C hi ?_;conv=>whnf
 refine jc C hi ?_;conv=>whnf
 exact a
theorem sa(C:cr Z ts sl)(hi:i<=ts.length)(a:Q (rS (.bool false)) (dB sl i true)):TC Z (bF Tryz.prog LG GG) X 118 [.ptr 0 0] (ic sl i true) Q R:=by
 refine dm dp Rl Kr (aK ?_)
 conv=>whnf
 refine lq C hi ?_;obtain⟨t,ht⟩ : ∃t,aC ts i=t:=⟨_,rfl⟩;rw[ht];obtain⟨kd,ln,tx⟩:=t;by_cases c:kd=4
 ·subst c;conv=>whnf
  exact a
 by_cases d:kd=5
 ·subst d;conv=>whnf
  exact a
 by_cases g:kd=6
 ·subst g;conv=>whnf
  exact a
 by_cases j:kd=7
 ·subst j;conv=>whnf
  exact a
 by_cases l:kd=8
 ·subst l;conv=>whnf
  refine ku C hi ?_;conv=>whnf
  refine ku C hi ?_;conv=>whnf
  refine ku C hi ?_;conv=>whnf
  refine ku C hi ?_;conv=>whnf
  refine ku C hi ?_;conv=>whnf
  exact a
 by_cases m:kd=9
 ·subst m;conv=>whnf
  refine ku C hi ?_;conv=>whnf
  refine ku C hi ?_;conv=>whnf
  refine ku C hi ?_;conv=>whnf
  refine ku C hi ?_;conv=>whnf
  refine ku C hi ?_;conv=>whnf
  exact a
 conv=>whnf
 refine eO (λh=>absurd (by simpa using h) c) λ_=> ?_;conv=>whnf
 refine eO (λh=>absurd (by simpa using h) d) λ_=> ?_;conv=>whnf
 refine eO (λh=>absurd (by simpa using h) g) λ_=> ?_;conv=>whnf
 refine eO (λh=>absurd (by simpa using h) j) λ_=> ?_;conv=>whnf
 refine eO (λh=>absurd (by simpa using h) l) λ_=> ?_;conv=>whnf
 refine eO (λh=>absurd (by simpa using h) m) λ_=> ?_;conv=>whnf
 exact a
end
end
section
open Go Go.RowKit
attribute [local irreducible] TC ap aC jb
def DB (Z:TP)(X:dz)(ts:List PT)(sl:Sl)(F:aS)(args:List AV):Prop:=
 ∀(i:Nat) (Q:AV->List SV->Prop) (R:ae->Prop),i<=ts.length->(∀k l x o gs,(∀g∈gs,ib g)->Q (gA k l x o gs) (dB sl i true))->TC Z (bF Tryz.prog LG GG) X F args (ic sl i true) Q R
section
variable {Z:TP} {X:dz} {ts:List PT} {sl:Sl}
theorem jO : ∀g∈([]:List (List SV)),ib g:=λ_ h=>by cases h
theorem sY{a:List SV}(h:ib a) : ∀g∈ [a],ib g:=λ_ h=>by cases h with
 | head=>assumption
 | tail _ h=>cases h
theorem ah{Z:TP}{X:dz}{args:List AV}{self:Self}{Q:AV->List SV->Prop}{R:ae->Prop}(g:aS)(h:TC Z (bF Tryz.prog LG GG) X g args self Q R):TC Z (bF Tryz.prog LG GG) X g args self Q R:=h
theorem sZ(C:cr Z ts sl):DB Z X ts sl 151 [.ptr 0 0]:=by
 intro i Q R hi a;refine dm dp Rl Kr (aK ?_)
 conv=>whnf
 repeat' first
  | ((with_reducible refine ah 79 ?_);refine jc C hi ?_;conv=>whnf)
  | ((with_reducible refine ah 44 ?_);refine lq C hi ?_;conv=>whnf)
  | ((with_reducible refine ah 114 ?_);refine ku C hi ?_;conv=>whnf)
  | ((with_reducible refine ah 82 ?_);refine rY C hi ?_;conv=>whnf)
  | ((with_reducible refine ah 86 ?_);refine rZ C hi ?_;conv=>whnf)
  | ((with_reducible refine ah 118 ?_);refine sa C hi ?_;conv=>whnf)
  | ((with_reducible refine ah 116 ?_);refine rX C hi ?_;conv=>whnf)
  | ((with_reducible refine ah 193 ?_);refine r9 C hi ?_;conv=>whnf)
  | ((with_reducible refine ah 154 ?_);refine r8 C hi ?_;conv=>whnf)
  | (refine rQ [] rfl ?_;intro f;conv=>whnf)
  | (refine⟨rfl,?_⟩;conv=>whnf)
  | (intro c;conv=>whnf)
  | ((with_reducible apply eO)<;>(intro d;conv=>whnf))
 all_goals first | exact a | exact a _ _ _ _ _ jO | exact a _ _ _ _ _ hg | exact a _ _ _ _ _ (sY (.mk hg))
theorem tZ(C:cr Z ts sl):DB Z X ts sl 121 [.ptr 0 0]:=by
 intro i Q R hi a;refine dm dp Rl Kr (aK ?_)
 conv=>whnf
 repeat' first
  | ((with_reducible refine ah 79 ?_);refine jc C hi ?_;conv=>whnf)
  | ((with_reducible refine ah 44 ?_);refine lq C hi ?_;conv=>whnf)
  | ((with_reducible refine ah 114 ?_);refine ku C hi ?_;conv=>whnf)
  | ((with_reducible refine ah 82 ?_);refine rY C hi ?_;conv=>whnf)
  | ((with_reducible refine ah 86 ?_);refine rZ C hi ?_;conv=>whnf)
  | ((with_reducible refine ah 118 ?_);refine sa C hi ?_;conv=>whnf)
  | ((with_reducible refine ah 116 ?_);refine rX C hi ?_;conv=>whnf)
  | ((with_reducible refine ah 193 ?_);refine r9 C hi ?_;conv=>whnf)
  | ((with_reducible refine ah 154 ?_);refine r8 C hi ?_;conv=>whnf)
  | ((with_reducible refine ah 151 ?_);refine sZ C i _ _ hi ?_;intro c l x o gs hg;conv=>whnf)
  | (refine rQ [] rfl ?_;intro f;conv=>whnf)
  | (refine⟨rfl,?_⟩;conv=>whnf)
  | (intro d;conv=>whnf)
  | ((with_reducible apply eO)<;>(intro g;conv=>whnf))
 all_goals first | exact a | exact a _ _ _ _ _ jO | exact a _ _ _ _ _ hg | exact a _ _ _ _ _ (sY (.mk hg))
theorem vv(C:cr Z ts sl):DB Z X ts sl 202 [.ptr 0 0]:=by
 intro i Q R hi a;refine dm dp Rl Kr (aK ?_)
 conv=>whnf
 repeat' first
  | ((with_reducible refine ah 79 ?_);refine jc C hi ?_;conv=>whnf)
  | ((with_reducible refine ah 44 ?_);refine lq C hi ?_;conv=>whnf)
  | ((with_reducible refine ah 114 ?_);refine ku C hi ?_;conv=>whnf)
  | ((with_reducible refine ah 82 ?_);refine rY C hi ?_;conv=>whnf)
  | ((with_reducible refine ah 86 ?_);refine rZ C hi ?_;conv=>whnf)
  | ((with_reducible refine ah 118 ?_);refine sa C hi ?_;conv=>whnf)
  | ((with_reducible refine ah 116 ?_);refine rX C hi ?_;conv=>whnf)
  | ((with_reducible refine ah 193 ?_);refine r9 C hi ?_;conv=>whnf)
  | ((with_reducible refine ah 154 ?_);refine r8 C hi ?_;conv=>whnf)
  | ((with_reducible refine ah 151 ?_);refine sZ C i _ _ hi ?_;intro c l x o gs hg;conv=>whnf)
  | ((with_reducible refine ah 121 ?_);refine tZ C i _ _ hi ?_;intro d l x o gs hg;conv=>whnf)
  | (refine rQ [] rfl ?_;intro f;conv=>whnf)
  | (refine⟨rfl,?_⟩;conv=>whnf)
  | (intro g;conv=>whnf)
  | ((with_reducible apply eO)<;>(intro j;conv=>whnf))
 all_goals first | exact a | exact a _ _ _ _ _ jO | exact a _ _ _ _ _ hg | exact a _ _ _ _ _ (sY (.mk hg))
theorem wR(C:cr Z ts sl):DB Z X ts sl 199 [.ptr 0 0]:=by
 intro i Q R hi a;refine dm dp Rl Kr (aK ?_)
 conv=>whnf
 repeat' first
  | ((with_reducible refine ah 79 ?_);refine jc C hi ?_;conv=>whnf)
  | ((with_reducible refine ah 44 ?_);refine lq C hi ?_;conv=>whnf)
  | ((with_reducible refine ah 114 ?_);refine ku C hi ?_;conv=>whnf)
  | ((with_reducible refine ah 82 ?_);refine rY C hi ?_;conv=>whnf)
  | ((with_reducible refine ah 86 ?_);refine rZ C hi ?_;conv=>whnf)
  | ((with_reducible refine ah 118 ?_);refine sa C hi ?_;conv=>whnf)
  | ((with_reducible refine ah 116 ?_);refine rX C hi ?_;conv=>whnf)
  | ((with_reducible refine ah 193 ?_);refine r9 C hi ?_;conv=>whnf)
  | ((with_reducible refine ah 154 ?_);refine r8 C hi ?_;conv=>whnf)
  | ((with_reducible refine ah 151 ?_);refine sZ C i _ _ hi ?_;intro c l x o gs hg;conv=>whnf)
  | ((with_reducible refine ah 121 ?_);refine tZ C i _ _ hi ?_;intro d l x o gs hg;conv=>whnf)
  | ((with_reducible refine ah 202 ?_);refine vv C i _ _ hi ?_;intro g l x o gs hg;conv=>whnf)
  | (refine rQ [] rfl ?_;intro f;conv=>whnf)
  | (refine⟨rfl,?_⟩;conv=>whnf)
  | (intro j;conv=>whnf)
  | ((with_reducible apply eO)<;>(intro m;conv=>whnf))
 all_goals first | exact a | exact a _ _ _ _ _ jO | exact a _ _ _ _ _ hg | exact a _ _ _ _ _ (sY (.mk hg))
theorem x5(C:cr Z ts sl):DB Z X ts sl 192 [.ptr 0 0]:=by
 intro i Q R hi a;refine dm dp Rl Kr (aK ?_)
 conv=>whnf
 repeat' first
  | ((with_reducible refine ah 79 ?_);refine jc C hi ?_;conv=>whnf)
  | ((with_reducible refine ah 44 ?_);refine lq C hi ?_;conv=>whnf)
  | ((with_reducible refine ah 114 ?_);refine ku C hi ?_;conv=>whnf)
  | ((with_reducible refine ah 82 ?_);refine rY C hi ?_;conv=>whnf)
  | ((with_reducible refine ah 86 ?_);refine rZ C hi ?_;conv=>whnf)
  | ((with_reducible refine ah 118 ?_);refine sa C hi ?_;conv=>whnf)
  | ((with_reducible refine ah 116 ?_);refine rX C hi ?_;conv=>whnf)
  | ((with_reducible refine ah 193 ?_);refine r9 C hi ?_;conv=>whnf)
  | ((with_reducible refine ah 154 ?_);refine r8 C hi ?_;conv=>whnf)
  | ((with_reducible refine ah 151 ?_);refine sZ C i _ _ hi ?_;intro c l x o gs hg;conv=>whnf)
  | ((with_reducible refine ah 121 ?_);refine tZ C i _ _ hi ?_;intro d l x o gs hg;conv=>whnf)
  | ((with_reducible refine ah 202 ?_);refine vv C i _ _ hi ?_;intro g l x o gs hg;conv=>whnf)
  | ((with_reducible refine ah 199 ?_);refine wR C i _ _ hi ?_;intro j l x o gs hg;conv=>whnf)
  | (refine rQ [] rfl ?_;intro f;conv=>whnf)
  | (refine⟨rfl,?_⟩;conv=>whnf)
  | (intro m;conv=>whnf)
  | ((with_reducible apply eO)<;>(intro n;conv=>whnf))
 all_goals first | exact a | exact a _ _ _ _ _ jO | exact a _ _ _ _ _ hg | exact a _ _ _ _ _ (sY (.mk hg))
theorem zl(C:cr Z ts sl):DB Z X ts sl 186 [.ptr 0 0]:=by
 intro i Q R hi a;refine dm dp Rl Kr (aK ?_)
 conv=>whnf
 repeat' first
  | ((with_reducible refine ah 79 ?_);refine jc C hi ?_;conv=>whnf)
  | ((with_reducible refine ah 44 ?_);refine lq C hi ?_;conv=>whnf)
  | ((with_reducible refine ah 114 ?_);refine ku C hi ?_;conv=>whnf)
  | ((with_reducible refine ah 82 ?_);refine rY C hi ?_;conv=>whnf)
  | ((with_reducible refine ah 86 ?_);refine rZ C hi ?_;conv=>whnf)
  | ((with_reducible refine ah 118 ?_);refine sa C hi ?_;conv=>whnf)
  | ((with_reducible refine ah 116 ?_);refine rX C hi ?_;conv=>whnf)
  | ((with_reducible refine ah 193 ?_);refine r9 C hi ?_;conv=>whnf)
  | ((with_reducible refine ah 154 ?_);refine r8 C hi ?_;conv=>whnf)
  | ((with_reducible refine ah 151 ?_);refine sZ C i _ _ hi ?_;intro c l x o gs hg;conv=>whnf)
  | ((with_reducible refine ah 121 ?_);refine tZ C i _ _ hi ?_;intro d l x o gs hg;conv=>whnf)
  | ((with_reducible refine ah 202 ?_);refine vv C i _ _ hi ?_;intro g l x o gs hg;conv=>whnf)
  | ((with_reducible refine ah 199 ?_);refine wR C i _ _ hi ?_;intro j l x o gs hg;conv=>whnf)
  | ((with_reducible refine ah 192 ?_);refine x5 C i _ _ hi ?_;intro m l x o gs hg;conv=>whnf)
  | (refine rQ [] rfl ?_;intro f;conv=>whnf)
  | (refine⟨rfl,?_⟩;conv=>whnf)
  | (intro n;conv=>whnf)
  | ((with_reducible apply eO)<;>(intro r;conv=>whnf))
 all_goals first | exact a | exact a _ _ _ _ _ jO | exact a _ _ _ _ _ hg | exact a _ _ _ _ _ (sY (.mk hg))
theorem Bz(C:cr Z ts sl):DB Z X ts sl 172 [.ptr 0 0]:=by
 intro i Q R hi a;refine dm dp Rl Kr (aK ?_)
 conv=>whnf
 repeat' first
  | ((with_reducible refine ah 79 ?_);refine jc C hi ?_;conv=>whnf)
  | ((with_reducible refine ah 44 ?_);refine lq C hi ?_;conv=>whnf)
  | ((with_reducible refine ah 114 ?_);refine ku C hi ?_;conv=>whnf)
  | ((with_reducible refine ah 82 ?_);refine rY C hi ?_;conv=>whnf)
  | ((with_reducible refine ah 86 ?_);refine rZ C hi ?_;conv=>whnf)
  | ((with_reducible refine ah 118 ?_);refine sa C hi ?_;conv=>whnf)
  | ((with_reducible refine ah 116 ?_);refine rX C hi ?_;conv=>whnf)
  | ((with_reducible refine ah 193 ?_);refine r9 C hi ?_;conv=>whnf)
  | ((with_reducible refine ah 154 ?_);refine r8 C hi ?_;conv=>whnf)
  | ((with_reducible refine ah 151 ?_);refine sZ C i _ _ hi ?_;intro c l x o gs hg;conv=>whnf)
  | ((with_reducible refine ah 121 ?_);refine tZ C i _ _ hi ?_;intro d l x o gs hg;conv=>whnf)
  | ((with_reducible refine ah 202 ?_);refine vv C i _ _ hi ?_;intro g l x o gs hg;conv=>whnf)
  | ((with_reducible refine ah 199 ?_);refine wR C i _ _ hi ?_;intro j l x o gs hg;conv=>whnf)
  | ((with_reducible refine ah 192 ?_);refine x5 C i _ _ hi ?_;intro m l x o gs hg;conv=>whnf)
  | ((with_reducible refine ah 186 ?_);refine zl C i _ _ hi ?_;intro n l x o gs hg;conv=>whnf)
  | (refine rQ [] rfl ?_;intro f;conv=>whnf)
  | (refine⟨rfl,?_⟩;conv=>whnf)
  | (intro r;conv=>whnf)
  | ((with_reducible apply eO)<;>(intro s;conv=>whnf))
 all_goals first | exact a | exact a _ _ _ _ _ jO | exact a _ _ _ _ _ hg | exact a _ _ _ _ _ (sY (.mk hg))
theorem De(C:cr Z ts sl):DB Z X ts sl 149 [.ptr 0 0]:=by
 intro i Q R hi a;refine dm dp Rl Kr (aK ?_)
 conv=>whnf
 repeat' first
  | ((with_reducible refine ah 79 ?_);refine jc C hi ?_;conv=>whnf)
  | ((with_reducible refine ah 44 ?_);refine lq C hi ?_;conv=>whnf)
  | ((with_reducible refine ah 114 ?_);refine ku C hi ?_;conv=>whnf)
  | ((with_reducible refine ah 82 ?_);refine rY C hi ?_;conv=>whnf)
  | ((with_reducible refine ah 86 ?_);refine rZ C hi ?_;conv=>whnf)
  | ((with_reducible refine ah 118 ?_);refine sa C hi ?_;conv=>whnf)
  | ((with_reducible refine ah 116 ?_);refine rX C hi ?_;conv=>whnf)
  | ((with_reducible refine ah 193 ?_);refine r9 C hi ?_;conv=>whnf)
  | ((with_reducible refine ah 154 ?_);refine r8 C hi ?_;conv=>whnf)
  | ((with_reducible refine ah 151 ?_);refine sZ C i _ _ hi ?_;intro c l x o gs hg;conv=>whnf)
  | ((with_reducible refine ah 121 ?_);refine tZ C i _ _ hi ?_;intro d l x o gs hg;conv=>whnf)
  | ((with_reducible refine ah 202 ?_);refine vv C i _ _ hi ?_;intro g l x o gs hg;conv=>whnf)
  | ((with_reducible refine ah 199 ?_);refine wR C i _ _ hi ?_;intro j l x o gs hg;conv=>whnf)
  | ((with_reducible refine ah 192 ?_);refine x5 C i _ _ hi ?_;intro m l x o gs hg;conv=>whnf)
  | ((with_reducible refine ah 186 ?_);refine zl C i _ _ hi ?_;intro n l x o gs hg;conv=>whnf)
  | ((with_reducible refine ah 172 ?_);refine Bz C i _ _ hi ?_;intro r l x o gs hg;conv=>whnf)
  | (refine rQ [] rfl ?_;intro f;conv=>whnf)
  | (refine⟨rfl,?_⟩;conv=>whnf)
  | (intro s;conv=>whnf)
  | ((with_reducible apply eO)<;>(intro t;conv=>whnf))
 all_goals first | exact a | exact a _ _ _ _ _ jO | exact a _ _ _ _ _ hg | exact a _ _ _ _ _ (sY (.mk hg))
theorem Fm(C:cr Z ts sl):DB Z X ts sl 115 [.ptr 0 0]:=by
 intro i Q R hi a;refine dm dp Rl Kr (aK ?_)
 conv=>whnf
 repeat' first
  | ((with_reducible refine ah 79 ?_);refine jc C hi ?_;conv=>whnf)
  | ((with_reducible refine ah 44 ?_);refine lq C hi ?_;conv=>whnf)
  | ((with_reducible refine ah 114 ?_);refine ku C hi ?_;conv=>whnf)
  | ((with_reducible refine ah 82 ?_);refine rY C hi ?_;conv=>whnf)
  | ((with_reducible refine ah 86 ?_);refine rZ C hi ?_;conv=>whnf)
  | ((with_reducible refine ah 118 ?_);refine sa C hi ?_;conv=>whnf)
  | ((with_reducible refine ah 116 ?_);refine rX C hi ?_;conv=>whnf)
  | ((with_reducible refine ah 193 ?_);refine r9 C hi ?_;conv=>whnf)
  | ((with_reducible refine ah 154 ?_);refine r8 C hi ?_;conv=>whnf)
  | ((with_reducible refine ah 151 ?_);refine sZ C i _ _ hi ?_;intro c l x o gs hg;conv=>whnf)
  | ((with_reducible refine ah 121 ?_);refine tZ C i _ _ hi ?_;intro d l x o gs hg;conv=>whnf)
  | ((with_reducible refine ah 202 ?_);refine vv C i _ _ hi ?_;intro g l x o gs hg;conv=>whnf)
  | ((with_reducible refine ah 199 ?_);refine wR C i _ _ hi ?_;intro j l x o gs hg;conv=>whnf)
  | ((with_reducible refine ah 192 ?_);refine x5 C i _ _ hi ?_;intro m l x o gs hg;conv=>whnf)
  | ((with_reducible refine ah 186 ?_);refine zl C i _ _ hi ?_;intro n l x o gs hg;conv=>whnf)
  | ((with_reducible refine ah 172 ?_);refine Bz C i _ _ hi ?_;intro r l x o gs hg;conv=>whnf)
  | ((with_reducible refine ah 149 ?_);refine De C i _ _ hi ?_;intro s l x o gs hg;conv=>whnf)
  | (refine rQ [] rfl ?_;intro f;conv=>whnf)
  | (refine⟨rfl,?_⟩;conv=>whnf)
  | (intro t;conv=>whnf)
  | ((with_reducible apply eO)<;>(intro u;conv=>whnf))
 all_goals first | exact a | exact a _ _ _ _ _ jO | exact a _ _ _ _ _ hg | exact a _ _ _ _ _ (sY (.mk hg))
theorem Iv(C:cr Z ts sl):DB Z X ts sl 81 [.ptr 0 0]:=by
 intro i Q R hi a;refine dm dp Rl Kr (aK ?_)
 conv=>whnf
 repeat' first
  | ((with_reducible refine ah 79 ?_);refine jc C hi ?_;conv=>whnf)
  | ((with_reducible refine ah 44 ?_);refine lq C hi ?_;conv=>whnf)
  | ((with_reducible refine ah 114 ?_);refine ku C hi ?_;conv=>whnf)
  | ((with_reducible refine ah 82 ?_);refine rY C hi ?_;conv=>whnf)
  | ((with_reducible refine ah 86 ?_);refine rZ C hi ?_;conv=>whnf)
  | ((with_reducible refine ah 118 ?_);refine sa C hi ?_;conv=>whnf)
  | ((with_reducible refine ah 116 ?_);refine rX C hi ?_;conv=>whnf)
  | ((with_reducible refine ah 193 ?_);refine r9 C hi ?_;conv=>whnf)
  | ((with_reducible refine ah 154 ?_);refine r8 C hi ?_;conv=>whnf)
  | ((with_reducible refine ah 151 ?_);refine sZ C i _ _ hi ?_;intro c l x o gs hg;conv=>whnf)
  | ((with_reducible refine ah 121 ?_);refine tZ C i _ _ hi ?_;intro d l x o gs hg;conv=>whnf)
  | ((with_reducible refine ah 202 ?_);refine vv C i _ _ hi ?_;intro g l x o gs hg;conv=>whnf)
  | ((with_reducible refine ah 199 ?_);refine wR C i _ _ hi ?_;intro j l x o gs hg;conv=>whnf)
  | ((with_reducible refine ah 192 ?_);refine x5 C i _ _ hi ?_;intro m l x o gs hg;conv=>whnf)
  | ((with_reducible refine ah 186 ?_);refine zl C i _ _ hi ?_;intro n l x o gs hg;conv=>whnf)
  | ((with_reducible refine ah 172 ?_);refine Bz C i _ _ hi ?_;intro r l x o gs hg;conv=>whnf)
  | ((with_reducible refine ah 149 ?_);refine De C i _ _ hi ?_;intro s l x o gs hg;conv=>whnf)
  | ((with_reducible refine ah 115 ?_);refine Fm C i _ _ hi ?_;intro t l x o gs hg;conv=>whnf)
  | (refine rQ [] rfl ?_;intro f;conv=>whnf)
  | (refine⟨rfl,?_⟩;conv=>whnf)
  | (intro u;conv=>whnf)
  | ((with_reducible apply eO)<;>(intro v;conv=>whnf))
 all_goals first | exact a | exact a _ _ _ _ _ jO | exact a _ _ _ _ _ hg | exact a _ _ _ _ _ (sY (.mk hg))
theorem Mn(C:cr Z ts sl):DB Z X ts sl 85 [.ptr 0 0]:=by
 intro i Q R hi a;refine dm dp Rl Kr (aK ?_)
 conv=>whnf
 repeat' first
  | ((with_reducible refine ah 79 ?_);refine jc C hi ?_;conv=>whnf)
  | ((with_reducible refine ah 44 ?_);refine lq C hi ?_;conv=>whnf)
  | ((with_reducible refine ah 114 ?_);refine ku C hi ?_;conv=>whnf)
  | ((with_reducible refine ah 82 ?_);refine rY C hi ?_;conv=>whnf)
  | ((with_reducible refine ah 86 ?_);refine rZ C hi ?_;conv=>whnf)
  | ((with_reducible refine ah 118 ?_);refine sa C hi ?_;conv=>whnf)
  | ((with_reducible refine ah 116 ?_);refine rX C hi ?_;conv=>whnf)
  | ((with_reducible refine ah 193 ?_);refine r9 C hi ?_;conv=>whnf)
  | ((with_reducible refine ah 154 ?_);refine r8 C hi ?_;conv=>whnf)
  | ((with_reducible refine ah 151 ?_);refine sZ C i _ _ hi ?_;intro c l x o gs hg;conv=>whnf)
  | ((with_reducible refine ah 121 ?_);refine tZ C i _ _ hi ?_;intro d l x o gs hg;conv=>whnf)
  | ((with_reducible refine ah 202 ?_);refine vv C i _ _ hi ?_;intro g l x o gs hg;conv=>whnf)
  | ((with_reducible refine ah 199 ?_);refine wR C i _ _ hi ?_;intro j l x o gs hg;conv=>whnf)
  | ((with_reducible refine ah 192 ?_);refine x5 C i _ _ hi ?_;intro m l x o gs hg;conv=>whnf)
  | ((with_reducible refine ah 186 ?_);refine zl C i _ _ hi ?_;intro n l x o gs hg;conv=>whnf)
  | ((with_reducible refine ah 172 ?_);refine Bz C i _ _ hi ?_;intro r l x o gs hg;conv=>whnf)
  | ((with_reducible refine ah 149 ?_);refine De C i _ _ hi ?_;intro s l x o gs hg;conv=>whnf)
  | ((with_reducible refine ah 115 ?_);refine Fm C i _ _ hi ?_;intro t l x o gs hg;conv=>whnf)
  | ((with_reducible refine ah 81 ?_);refine Iv C i _ _ hi ?_;intro u l x o gs hg;conv=>whnf)
  | (refine rQ [] rfl ?_;intro f;conv=>whnf)
  | (refine⟨rfl,?_⟩;conv=>whnf)
  | (intro v;conv=>whnf)
  | ((with_reducible apply eO)<;>(intro w;conv=>whnf))
 all_goals first | exact a | exact a _ _ _ _ _ jO | exact a _ _ _ _ _ hg | exact a _ _ _ _ _ (sY (.mk hg))
theorem QB(C:cr Z ts sl){ln:Int}{s:ByteArray}:DB Z X ts sl 87 [.ptr 0 0,rS (.int .i64 ln),rS (.string s)]:=by
 intro i Q R hi a;refine dm dp Rl Kr (aK ?_)
 conv=>whnf
 repeat' first
  | ((with_reducible refine ah 79 ?_);refine jc C hi ?_;conv=>whnf)
  | ((with_reducible refine ah 44 ?_);refine lq C hi ?_;conv=>whnf)
  | ((with_reducible refine ah 114 ?_);refine ku C hi ?_;conv=>whnf)
  | ((with_reducible refine ah 82 ?_);refine rY C hi ?_;conv=>whnf)
  | ((with_reducible refine ah 86 ?_);refine rZ C hi ?_;conv=>whnf)
  | ((with_reducible refine ah 118 ?_);refine sa C hi ?_;conv=>whnf)
  | ((with_reducible refine ah 116 ?_);refine rX C hi ?_;conv=>whnf)
  | ((with_reducible refine ah 193 ?_);refine r9 C hi ?_;conv=>whnf)
  | ((with_reducible refine ah 154 ?_);refine r8 C hi ?_;conv=>whnf)
  | ((with_reducible refine ah 151 ?_);refine sZ C i _ _ hi ?_;intro d l x o gs hg;conv=>whnf)
  | ((with_reducible refine ah 121 ?_);refine tZ C i _ _ hi ?_;intro g l x o gs hg;conv=>whnf)
  | ((with_reducible refine ah 202 ?_);refine vv C i _ _ hi ?_;intro j l x o gs hg;conv=>whnf)
  | ((with_reducible refine ah 199 ?_);refine wR C i _ _ hi ?_;intro m l x o gs hg;conv=>whnf)
  | ((with_reducible refine ah 192 ?_);refine x5 C i _ _ hi ?_;intro n l x o gs hg;conv=>whnf)
  | ((with_reducible refine ah 186 ?_);refine zl C i _ _ hi ?_;intro r l x o gs hg;conv=>whnf)
  | ((with_reducible refine ah 172 ?_);refine Bz C i _ _ hi ?_;intro t l x o gs hg;conv=>whnf)
  | ((with_reducible refine ah 149 ?_);refine De C i _ _ hi ?_;intro u l x o gs hg;conv=>whnf)
  | ((with_reducible refine ah 115 ?_);refine Fm C i _ _ hi ?_;intro v l x o gs hg;conv=>whnf)
  | ((with_reducible refine ah 81 ?_);refine Iv C i _ _ hi ?_;intro c l x o gs hg;conv=>whnf)
  | ((with_reducible refine ah 85 ?_);refine Mn C i _ _ hi ?_;intro c l x o gs hg;conv=>whnf)
  | (refine rQ [] rfl ?_;intro f;conv=>whnf)
  | (refine⟨rfl,?_⟩;conv=>whnf)
  | (intro w;conv=>whnf)
  | ((with_reducible apply eO)<;>(intro y;conv=>whnf))
 all_goals first | exact a | exact a _ _ _ _ _ jO | exact a _ _ _ _ _ hg | exact a _ _ _ _ _ (sY (.mk hg))
theorem Wv(C:cr Z ts sl):DB Z X ts sl 123 [.ptr 0 0]:=by
 intro i Q R hi a;refine dm dp Rl Kr (aK ?_)
 conv=>whnf
 repeat' first
  | ((with_reducible refine ah 79 ?_);refine jc C hi ?_;conv=>whnf)
  | ((with_reducible refine ah 44 ?_);refine lq C hi ?_;conv=>whnf)
  | ((with_reducible refine ah 114 ?_);refine ku C hi ?_;conv=>whnf)
  | ((with_reducible refine ah 82 ?_);refine rY C hi ?_;conv=>whnf)
  | ((with_reducible refine ah 86 ?_);refine rZ C hi ?_;conv=>whnf)
  | ((with_reducible refine ah 118 ?_);refine sa C hi ?_;conv=>whnf)
  | ((with_reducible refine ah 116 ?_);refine rX C hi ?_;conv=>whnf)
  | ((with_reducible refine ah 193 ?_);refine r9 C hi ?_;conv=>whnf)
  | ((with_reducible refine ah 154 ?_);refine r8 C hi ?_;conv=>whnf)
  | ((with_reducible refine ah 151 ?_);refine sZ C i _ _ hi ?_;intro g l x o gs hg;conv=>whnf)
  | ((with_reducible refine ah 121 ?_);refine tZ C i _ _ hi ?_;intro j l x o gs hg;conv=>whnf)
  | ((with_reducible refine ah 202 ?_);refine vv C i _ _ hi ?_;intro m l x o gs hg;conv=>whnf)
  | ((with_reducible refine ah 199 ?_);refine wR C i _ _ hi ?_;intro n l x o gs hg;conv=>whnf)
  | ((with_reducible refine ah 192 ?_);refine x5 C i _ _ hi ?_;intro r l x o gs hg;conv=>whnf)
  | ((with_reducible refine ah 186 ?_);refine zl C i _ _ hi ?_;intro s l x o gs hg;conv=>whnf)
  | ((with_reducible refine ah 172 ?_);refine Bz C i _ _ hi ?_;intro t l x o gs hg;conv=>whnf)
  | ((with_reducible refine ah 149 ?_);refine De C i _ _ hi ?_;intro u l x o gs hg;conv=>whnf)
  | ((with_reducible refine ah 115 ?_);refine Fm C i _ _ hi ?_;intro v l x o gs hg;conv=>whnf)
  | ((with_reducible refine ah 81 ?_);refine Iv C i _ _ hi ?_;intro c l x o gs hg;conv=>whnf)
  | ((with_reducible refine ah 85 ?_);refine Mn C i _ _ hi ?_;intro c l x o gs hg;conv=>whnf)
  | ((with_reducible refine ah 87 ?_);refine QB C i _ _ hi ?_;intro d l x o gs hg;conv=>whnf)
  | (refine rQ [] rfl ?_;intro f;conv=>whnf)
  | (refine⟨rfl,?_⟩;conv=>whnf)
  | (intro w;conv=>whnf)
  | ((with_reducible apply eO)<;>(intro y;conv=>whnf))
 all_goals first | exact a | exact a _ _ _ _ _ jO | exact a _ _ _ _ _ hg | exact a _ _ _ _ _ (sY (.mk hg))
theorem adB(C:cr Z ts sl):DB Z X ts sl 90 [.ptr 0 0]:=by
 intro i Q R hi a;refine dm dp Rl Kr (aK ?_)
 conv=>whnf
 repeat' first
  | ((with_reducible refine ah 79 ?_);refine jc C hi ?_;conv=>whnf)
  | ((with_reducible refine ah 44 ?_);refine lq C hi ?_;conv=>whnf)
  | ((with_reducible refine ah 114 ?_);refine ku C hi ?_;conv=>whnf)
  | ((with_reducible refine ah 82 ?_);refine rY C hi ?_;conv=>whnf)
  | ((with_reducible refine ah 86 ?_);refine rZ C hi ?_;conv=>whnf)
  | ((with_reducible refine ah 118 ?_);refine sa C hi ?_;conv=>whnf)
  | ((with_reducible refine ah 116 ?_);refine rX C hi ?_;conv=>whnf)
  | ((with_reducible refine ah 193 ?_);refine r9 C hi ?_;conv=>whnf)
  | ((with_reducible refine ah 154 ?_);refine r8 C hi ?_;conv=>whnf)
  | ((with_reducible refine ah 151 ?_);refine sZ C i _ _ hi ?_;intro j l x o gs hg;conv=>whnf)
  | ((with_reducible refine ah 121 ?_);refine tZ C i _ _ hi ?_;intro m l x o gs hg;conv=>whnf)
  | ((with_reducible refine ah 202 ?_);refine vv C i _ _ hi ?_;intro n l x o gs hg;conv=>whnf)
  | ((with_reducible refine ah 199 ?_);refine wR C i _ _ hi ?_;intro r l x o gs hg;conv=>whnf)
  | ((with_reducible refine ah 192 ?_);refine x5 C i _ _ hi ?_;intro s l x o gs hg;conv=>whnf)
  | ((with_reducible refine ah 186 ?_);refine zl C i _ _ hi ?_;intro t l x o gs hg;conv=>whnf)
  | ((with_reducible refine ah 172 ?_);refine Bz C i _ _ hi ?_;intro u l x o gs hg;conv=>whnf)
  | ((with_reducible refine ah 149 ?_);refine De C i _ _ hi ?_;intro v l x o gs hg;conv=>whnf)
  | ((with_reducible refine ah 115 ?_);refine Fm C i _ _ hi ?_;intro w l x o gs hg;conv=>whnf)
  | ((with_reducible refine ah 81 ?_);refine Iv C i _ _ hi ?_;intro c l x o gs hg;conv=>whnf)
  | ((with_reducible refine ah 85 ?_);refine Mn C i _ _ hi ?_;intro c l x o gs hg;conv=>whnf)
  | ((with_reducible refine ah 87 ?_);refine QB C i _ _ hi ?_;intro d l x o gs hg;conv=>whnf)
  | ((with_reducible refine ah 123 ?_);refine Wv C i _ _ hi ?_;intro g l x o gs hg;conv=>whnf)
  | (refine rQ [] rfl ?_;intro f;conv=>whnf)
  | (refine⟨rfl,?_⟩;conv=>whnf)
  | (intro y;conv=>whnf)
  | ((with_reducible apply eO)<;>(intro z;conv=>whnf))
 all_goals first | exact a | exact a _ _ _ _ _ jO | exact a _ _ _ _ _ hg | exact a _ _ _ _ _ (sY (.mk hg))
theorem al9(C:cr Z ts sl):DB Z X ts sl 83 [.ptr 0 0]:=by
 intro i Q R hi a;refine dm dp Rl Kr (aK ?_)
 conv=>whnf
 repeat' first
  | ((with_reducible refine ah 79 ?_);refine jc C hi ?_;conv=>whnf)
  | ((with_reducible refine ah 44 ?_);refine lq C hi ?_;conv=>whnf)
  | ((with_reducible refine ah 114 ?_);refine ku C hi ?_;conv=>whnf)
  | ((with_reducible refine ah 82 ?_);refine rY C hi ?_;conv=>whnf)
  | ((with_reducible refine ah 86 ?_);refine rZ C hi ?_;conv=>whnf)
  | ((with_reducible refine ah 118 ?_);refine sa C hi ?_;conv=>whnf)
  | ((with_reducible refine ah 116 ?_);refine rX C hi ?_;conv=>whnf)
  | ((with_reducible refine ah 193 ?_);refine r9 C hi ?_;conv=>whnf)
  | ((with_reducible refine ah 154 ?_);refine r8 C hi ?_;conv=>whnf)
  | ((with_reducible refine ah 151 ?_);refine sZ C i _ _ hi ?_;intro m l x o gs hg;conv=>whnf)
  | ((with_reducible refine ah 121 ?_);refine tZ C i _ _ hi ?_;intro n l x o gs hg;conv=>whnf)
  | ((with_reducible refine ah 202 ?_);refine vv C i _ _ hi ?_;intro r l x o gs hg;conv=>whnf)
  | ((with_reducible refine ah 199 ?_);refine wR C i _ _ hi ?_;intro s l x o gs hg;conv=>whnf)
  | ((with_reducible refine ah 192 ?_);refine x5 C i _ _ hi ?_;intro t l x o gs hg;conv=>whnf)
  | ((with_reducible refine ah 186 ?_);refine zl C i _ _ hi ?_;intro u l x o gs hg;conv=>whnf)
  | ((with_reducible refine ah 172 ?_);refine Bz C i _ _ hi ?_;intro v l x o gs hg;conv=>whnf)
  | ((with_reducible refine ah 149 ?_);refine De C i _ _ hi ?_;intro w l x o gs hg;conv=>whnf)
  | ((with_reducible refine ah 115 ?_);refine Fm C i _ _ hi ?_;intro y l x o gs hg;conv=>whnf)
  | ((with_reducible refine ah 81 ?_);refine Iv C i _ _ hi ?_;intro c l x o gs hg;conv=>whnf)
  | ((with_reducible refine ah 85 ?_);refine Mn C i _ _ hi ?_;intro c l x o gs hg;conv=>whnf)
  | ((with_reducible refine ah 87 ?_);refine QB C i _ _ hi ?_;intro d l x o gs hg;conv=>whnf)
  | ((with_reducible refine ah 123 ?_);refine Wv C i _ _ hi ?_;intro g l x o gs hg;conv=>whnf)
  | ((with_reducible refine ah 90 ?_);refine adB C i _ _ hi ?_;intro j l x o gs hg;conv=>whnf)
  | (refine rQ [] rfl ?_;intro f;conv=>whnf)
  | (refine⟨rfl,?_⟩;conv=>whnf)
  | (intro z;conv=>whnf)
  | ((with_reducible apply eO)<;>(intro A;conv=>whnf))
 all_goals first | exact a | exact a _ _ _ _ _ jO | exact a _ _ _ _ _ hg | exact a _ _ _ _ _ (sY (.mk hg))
end
end
section
open Go Go.RowKit
attribute [local irreducible] TC ap aC jb
def DG (Z:TP)(X:dz)(ts:List PT)(sl:Sl)(f:Nat)(a:NT)(F:aS)(args:List AV):Prop:=
 ∀(i:Nat) (Q:AV->List SV->Prop) (R:ae->Prop) (E:Nat->Prop) (P:List Nd->Nat->Prop),i<=ts.length->Gd E P (gr ts f a i)->(∀e,E e->e<=ts.length->∀k l x o gs,(∀g∈gs,ib g)->Q (gA k l x o gs) (dB sl e true))->(∀l j,P l j->j<=ts.length->Q (ak1 l) (dB sl j false))->TC Z (bF Tryz.prog LG GG) X F args (ic sl i false) Q R
def Mo (Z:TP)(X:dz)(ts:List PT)(sl:Sl)(f:Nat)(a:NT)(F:aS)(args:List AV):Prop:=
 ∀(i:Nat) (Q:AV->List SV->Prop) (R:ae->Prop) (E:Nat->Prop) (P:List Nd->Nat->Prop),i<=ts.length->Gd E P (gr ts f a i)->(∀e,E e->e<=ts.length->∀gs:List (List SV),(∀g∈gs,ib g)->2*gs.length<=ts.length+2->Q (.r (.c (.s (.row 5 gs)))) (dB sl e true))->(∀l j,P l j->j<=ts.length->Q (adf l) (dB sl j false))->TC Z (bF Tryz.prog LG GG) X F args (ic sl i false) Q R
section
variable {Z:TP} {X:dz} {ts:List PT} {sl:Sl} {R:ae->Prop} {Q:AV->List SV->Prop} {E:Nat->Prop} {P:List Nd->Nat->Prop} {i:Nat}
theorem al'(C:cr Z ts sl){s:List UInt8}{A B:PR}(a:Gd E P (if ap ts i s=true then A else B))(hs:s≠ [])(hi:i<=ts.length)(h1:i<ts.length->Gd E P A->Q (rS (.bool true)) (dB sl (i+1) false))(h2:Gd E P B->Q (rS (.bool false)) (dB sl i false)):TC Z (bF Tryz.prog LG GG) X 79 [.ptr 0 0,rS (.string ⟨⟨s⟩⟩)] (ic sl i false) Q R:=by
 refine pD C hs hi (λh hl=> ?_) (λh=> ?_);·rw[iP h] at a;exact h1 hl a
 rw[iN (by rw[h];decide)] at a;exact h2 a
theorem ama(C:cr Z ts sl){s:List UInt8}{A B:PR}(a:Gd E P (if ap ts i s=true then A else B))(hs:s≠ [])(hi:i<=ts.length)(h1:ap ts i s=true->i<ts.length->Gd E P A->Q (rS (.bool true)) (dB sl i false))(h2:ap ts i s=false->Gd E P B->Q (rS (.bool false)) (dB sl i false)):TC Z (bF Tryz.prog LG GG) X 114 [.ptr 0 0,rS (.string ⟨⟨s⟩⟩)] (ic sl i false) Q R:=by
 refine wP C hs hi (λh=> ?_) (λh=> ?_);·rw[iP h] at a;exact h1 h (E9 h) a
 rw[iN (by rw[h];decide)] at a;exact h2 h a
theorem amb(C:cr Z ts sl){s:List UInt8}{A B:PR}(a:Gd E P (if ap ts i s=false then A else B))(hs:s≠ [])(hi:i<=ts.length)(h1:Gd E P B->Q (rS (.bool true)) (dB sl i false))(h2:Gd E P A->Q (rS (.bool false)) (dB sl i false)):TC Z (bF Tryz.prog LG GG) X 114 [.ptr 0 0,rS (.string ⟨⟨s⟩⟩)] (ic sl i false) Q R:=by
 refine wP C hs hi (λh=> ?_) (λh=> ?_);·rw[iN (by rw[h];decide)] at a;exact h1 a
 rw[iP h] at a;exact h2 a
theorem amc(C:cr Z ts sl){s:List UInt8}(hs:s≠ [])(hi:i<=ts.length)(hb:ap ts i s=true)(h1:i<ts.length->Q (.iC []) (dB sl (i+1) false)):TC Z (bF Tryz.prog LG GG) X 82 [.ptr 0 0,rS (.string ⟨⟨s⟩⟩)] (ic sl i false) Q R:=
 Wu C hs hi (λ_ hl=>h1 hl) λh=>by rw[hb] at h;cases h
theorem Ww(C:cr Z ts sl)(h:i<ts.length) : [SV.sc (.slice sl.q sl.n sl.c),SV.sc (.int .i64 (IntKind.wrap .i64 ((i:Int)+1))),SV.sc (.bool false)]=dB sl (i+1) false:=by
 rw[ade h C.len];rfl
theorem amd(C:cr Z ts sl){A B:PR}(a:Gd E P (if jb ts i=true then A else B))(hi:i<=ts.length)(h1:Gd E P A->Q (rS (.bool true)) (dB sl i false))(h2:Gd E P B->Q (rS (.bool false)) (dB sl i false)):TC Z (bF Tryz.prog LG GG) X 118 [.ptr 0 0] (ic sl i false) Q R:=by
 refine al6 C hi ?_;cases h:jb ts i with
 | true=>rw[iP h] at a;exact h1 a
 | false=>rw[iN (by rw[h];decide)] at a;exact h2 a
theorem ame(C:cr Z ts sl){k:Int}{A B:PR}(a:Gd E P (if (aC ts i).kind=k then A else B))(c:k≠0)(hi:i<=ts.length)(h1:i<ts.length->Gd E P A->Q (rS (.bool true)) (dB sl i false))(h2:Gd E P B->Q (rS (.bool false)) (dB sl i false)):TC Z (bF Tryz.prog LG GG) X 116 [.ptr 0 0,rS (.int .i64 k)] (ic sl i false) Q R:=by
 refine al4 C hi ?_;by_cases h:(aC ts i).kind=k
 ·rw[iP h] at a;rw[decide_eq_true h];exact h1 (zh (by rw[h];exact c)) a
 rw[iN h] at a;rw[decide_eq_false h];exact h2 a
theorem amf(C:cr Z ts sl){s:List UInt8}{k:Nat->PR}(a:Gd E P (gW ts s i k))(hs:s≠ [])(hi:i<=ts.length)(c:E i->Q (.iC []) (dB sl i true))(h1:i<ts.length->Gd E P (k (i+1))->Q (.iC []) (dB sl (i+1) false)):TC Z (bF Tryz.prog LG GG) X 82 [.ptr 0 0,rS (.string ⟨⟨s⟩⟩)] (ic sl i false) Q R:=by
 unfold gW at a;refine Wu C hs hi (λh hl=> ?_) (λh=> ?_);·rw[iP h] at a;exact h1 hl a
 rw[iN (by rw[h];decide)] at a;exact c a
theorem amg(C:cr Z ts sl){kd:Int}{k:List UInt8->Nat->PR}(a:Gd E P (mS ts kd i k))(c:kd≠0)(hi:i<=ts.length)(d:E i->Q (rS (.string ⟨⟨[]⟩⟩)) (dB sl i true))(h1:i<ts.length->Gd E P (k (aC ts i).text (i+1))->Q (rS (.string ⟨⟨(aC ts i).text⟩⟩)) (dB sl (i+1) false)):TC Z (bF Tryz.prog LG GG) X 86 [.ptr 0 0,rS (.int .i64 kd)] (ic sl i false) Q R:=by
 unfold mS at a;refine al5 C c hi (λh hl=> ?_) (λh=> ?_);·rw[iP h] at a;exact h1 hl a
 rw[iN h] at a;exact d a
theorem amh(C:cr Z ts sl){A:PR}{B:Nat->Nat->PR}(a:Gd E P (match ji ts i with | .error e=>some (.error e) | .ok (0,_)=>A | .ok (op+1,j)=>B op j))(hi:i<=ts.length)(c : ∀e,E e->e<=ts.length->Q (rS (.int .i64 8)) (dB sl e true))(d:Gd E P A->Q (rS (.int .i64 0)) (dB sl i false))(h1 : ∀op j,i<j->j<=ts.length->Gd E P (B op j)->Q (rS (.int .i64 ((op+1:Nat):Int))) (dB sl j false)):TC Z (bF Tryz.prog LG GG) X 193 [.ptr 0 0] (ic sl i false) Q R:=by
 have ho:=VO hi;refine al8 C hi (λe h=> ?_) (λop j h g=> ?_);·rw[h] at a ho;exact c e a ho.2
 rw[h] at a ho;cases op with
 | zero=>
   rcases ho with ⟨_,e⟩ | ⟨h,_⟩
   ·subst e;exact d a
   exact absurd rfl h
 | succ op=>
   rcases ho with ⟨h,_⟩ | ⟨_,h2,_⟩
   ·cases h
   exact h1 op j h2 g a
theorem ami(C:cr Z ts sl){A B:PR}(a:Gd E P (if jZ ts i=0 then A else B))(hi:i<=ts.length)(h1:jZ ts i≠0->i<ts.length->Gd E P B->Q (rS (.int .i64 (jZ ts i:Nat))) (dB sl (i+1) false))(h2:Gd E P A->Q (rS (.int .i64 0)) (dB sl i false)):TC Z (bF Tryz.prog LG GG) X 154 [.ptr 0 0] (ic sl i false) Q R:=by
 refine al7 C hi (λh hl=> ?_) (λh=> ?_);·rw[iN h] at a;exact h1 h hl a
 rw[iP h] at a;exact h2 a
theorem jP{f:Nat}{a:NT}{F:aS}{args:List AV}(h:DG Z X ts sl f a F args){k:Nd->Nat->PR}(c:Gd E P (bG (gr ts f a i) k))(hg:a.jX)(ha:a.acc=none)(d : ∀e,E e->e<=ts.length->∀k l x o gs,(∀g∈gs,ib g)->Q (gA k l x o gs) (dB sl e true))(hi:i<=ts.length)(h1 : ∀n l x o ks j,i+a.min<=j->j<=ts.length->Gd E P (k (.mk n l x o ks) j)->Q (vi (.mk n l x o ks)) (dB sl j false)):TC Z (bF Tryz.prog LG GG) X F args (ic sl i false) Q R:=by
 rw[LP] at c;refine h i Q R _ _ hi (VW hg hi c) (λe he hl=>d e he.1 hl) λl j ⟨⟨t,e,m⟩,hp⟩ p=> ?_;subst e;obtain⟨n,l,x,o,ks⟩:=t;exact h1 n l x o ks j hp.1 hp.2.1 m
theorem adC{f:Nat}{a:NT}{F:aS}{args:List AV}(h:Mo Z X ts sl f a F args){k:List Nd->Nat->PR}(d:Gd E P (pb (gr ts f a i) k))(hg:a.jX)(ha:a.acc=some (a.acc.getD 0))(n : ∀e,E e->e<=ts.length->∀gs:List (List SV),(∀g∈gs,ib g)->2*gs.length<=ts.length+2->Q (.r (.c (.s (.row 5 gs)))) (dB sl e true))(hi:i<=ts.length)(h1 : ∀l j,i<=j->j<=ts.length->2*l.length+i<=2*a.acc.getD 0+j+1->Gd E P (k l j)->Q (adf l) (dB sl j false)):TC Z (bF Tryz.prog LG GG) X F args (ic sl i false) Q R:=by
 rw[Qk] at d;refine h i Q R _ _ hi (VW hg hi d) (λe he hl=>n e he.1 hl) λl j ⟨o,hp⟩ t=> ?_;obtain⟨u,q,m⟩:=hp;rw[ha] at m;exact h1 l j Om q m.1 o
theorem kw{f:Nat}{a:NT}{F:aS}{args:List AV}(h:DG Z X ts sl f a F args)(c:Gd E P (gr ts f a i))(hg:a.jX)(ha:a.acc=none)(d : ∀e,E e->e<=ts.length->∀k l x o gs,(∀g∈gs,ib g)->Q (gA k l x o gs) (dB sl e true))(hi:i<=ts.length)(h1 : ∀n l x o ks j,i+a.min<=j->j<=ts.length->P [.mk n l x o ks] j->Q (vi (.mk n l x o ks)) (dB sl j false)):TC Z (bF Tryz.prog LG GG) X F args (ic sl i false) Q R:=by
 refine h i Q R _ _ hi (VW hg hi c) (λe he hl=>d e he.1 hl) λl j ⟨m,hp⟩ p=> ?_;have h3:=hp.2.2;rw[ha] at h3;obtain⟨t,rfl⟩:=VJ h3;obtain⟨n,l,x,o,ks⟩:=t;exact h1 n l x o ks j hp.1 hp.2.1 m
end
end
section
open Go Go.RowKit
attribute [local irreducible] TC ap aC jb
section
variable {Z:TP} {X:dz} {R:ae->Prop} {Q:AV->List SV->Prop}
theorem amj{k:Int}(h4:4<=k)(c:k<=7)(a:Q (rS (.int .i64 (H7 k:Nat))) []):TC Z (bF Tryz.prog LG GG) X 173 [rS (.int .i64 k)] none Q R:=by
 refine dm dp Rl Kr (aK ?_)
 obtain rfl | rfl | rfl | rfl:k=4\/k=5\/k=6\/k=7:=by omega
 all_goals
  conv=>whnf
  exact a
theorem adD{k:Nat}{l:Int}{x:List UInt8}{o:Nat}{ks:List Nd}(a:Q (rS (.bool (zb (.mk k l x o ks)))) []):TC Z (bF Tryz.prog LG GG) X 122 [vi (.mk k l x o ks)] none Q R:=by
 have e:zb (.mk k l x o ks)=decide (k=36\/k=45\/k=46):=rfl;rw[e] at a;refine dm dp Rl Kr (aK ?_)
 by_cases h1:k=36
 ·subst h1;conv=>whnf
  exact a
 by_cases h2:k=45
 ·subst h2;conv=>whnf
  exact a
 by_cases h3:k=46
 ·subst h3;conv=>whnf
  exact a
 rw[decide_eq_false Om] at a;conv=>whnf
 refine eO (λh=>by exfalso;simp at h;omega) λh=> ?_;conv=>whnf
 refine eO (λh=>by exfalso;simp at h;omega) λh=> ?_;conv=>whnf
 refine eO (λh=>by exfalso;simp at h;omega) λh=> ?_;conv=>whnf
 exact a
theorem amk{k:Nat}{l:Int}{x:List UInt8}{o:Nat}{ks:List Nd}{E:Nat->Prop}{P:List Nd->Nat->Prop}{A B:PR}(a:Gd E P (if zb (.mk k l x o ks)=true then A else B))(h1:Gd E P A->Q (rS (.bool true)) [])(h2:Gd E P B->Q (rS (.bool false)) []):TC Z (bF Tryz.prog LG GG) X 122 [vi (.mk k l x o ks)] none Q R:=by
 refine adD ?_;cases h:zb (.mk k l x o ks) with
 | true=>rw[iP h] at a;exact h1 a
 | false=>rw[iN (by rw[h];decide)] at a;exact h2 a
theorem aml : ∀(N:Nat) (k:Nat) (l:Int) (x:List UInt8) (o:Nat) (ks:List Nd),vj (.mk k l x o ks)<N->∀(Q:AV->List SV->Prop) (R:ae->Prop),Q (rS (.bool (gK (.mk k l x o ks)))) []->TC Z (bF Tryz.prog LG GG) X 150 [vi (.mk k l x o ks)] none Q R:=by
 intro N;induction N with
 | zero=>intro k l x o ks h;exact absurd h (fW _)
 | succ N y=>
 intro k l x o ks z Q R c;refine dm dp Rl Kr (aK ?_)
 by_cases hk:k=52\/k=51
 ·have e:gK (.mk k l x o ks)=(kq ks && !ks.isEmpty):=iP hk;rw[e] at c;rcases hk with rfl | rfl
  all_goals
   conv=>whnf
   refine HU 3 (λm a s=>∃i:Nat,a=rS (.int .i64 (i:Nat))/\s=⟨0,[oN (nA _ l x o ks)]⟩/\m+i=ks.length/\kq ks=kq (ks.drop i)) ks.length [] rfl ⟨0,rfl,rfl,rfl,rfl⟩ ?_;rintro m a f s ⟨i,rfl,rfl,A,hp⟩;conv=>whnf
   intro d;conv=>whnf
   refine eO (λh=> ?_) λh=> ?_
   ·have hi:i<ks.length:=by simp[jG] at h;omega
    obtain⟨t,ht⟩ : ∃t,ks[i]? = some t:=⟨_,cj hi⟩;have hd:=alh ht;have B:=Ic (fD ht) (k:=52) (l:=l) (x:=x) (o:=o);have C:=Ic (fD ht) (k:=51) (l:=l) (x:=x) (o:=o);obtain⟨g,j,r,u,v⟩:=t;conv=>whnf
    refine⟨rfl,i,_,rfl,Fb ht,?_⟩;conv=>whnf
    refine y g j r u v Om _ _ ?_;conv=>whnf
    cases w:gK (.mk g j r u v) with
    | true=>
      rw[w,Jn] at hd;conv=>whnf
      rw[jG] at d;exact⟨m-1,[],Om,rfl,i+1,congrArg (λn=>rS (.int .i64 n)) (LU hi d),rfl,Om,hp.trans hd⟩
    | false=>
      rw[hp,hd,w] at c;conv=>whnf
      exact c
   have hi:i=ks.length:=by simp[jG] at h;omega
   subst hi;have hp:kq ks=true:=by rw[hp,yu];rfl
   rw[hp,Jn] at c;conv=>whnf
   intro d;conv=>whnf
   refine eO (λh=> ?_) λh=> ?_
   ·have:ks.isEmpty=false:=by cases ks;simp[cT] at h;rfl
    rw[this] at c;conv=>whnf
    exact c
   have:ks.isEmpty=true:=by cases ks;rfl;simp[cT] at h
   rw[this] at c;conv=>whnf
   exact c
 have e:gK (.mk k l x o ks)=decide (k=36\/k=45\/k=46):=iN hk;have e':zb (.mk k l x o ks)=decide (k=36\/k=45\/k=46):=rfl;rw[e,<-e'] at c;conv=>whnf
 refine eO (λh=> ?_) λh=>by exfalso;simp at h;omega
 conv=>whnf
 refine eO (λh=> ?_) λh=>by exfalso;simp at h;omega
 conv=>whnf
 refine adD ?_;conv=>whnf
 cases hs:zb (.mk k l x o ks) with
 | true=>
   rw[hs] at c;conv=>whnf
   exact c
 | false=>
   rw[hs] at c;conv=>whnf
   exact c
theorem amm{k:Nat}{l:Int}{x:List UInt8}{o:Nat}{ks:List Nd}{E:Nat->Prop}{P:List Nd->Nat->Prop}{A B:PR}(a:Gd E P (if gK (.mk k l x o ks)=true then A else B))(h1:Gd E P A->Q (rS (.bool true)) [])(h2:Gd E P B->Q (rS (.bool false)) []):TC Z (bF Tryz.prog LG GG) X 150 [vi (.mk k l x o ks)] none Q R:=by
 refine aml _ k l x o ks (fN _) Q R ?_;cases h:gK (.mk k l x o ks) with
 | true=>rw[iP h] at a;exact h1 a
 | false=>rw[iN (by rw[h];decide)] at a;exact h2 a
end
end
section
open Go Go.RowKit
attribute [local irreducible] TC ap aC jb
section
variable {Z:TP} {X:dz} {R:ae->Prop} {Q:AV->List SV->Prop}
theorem adE{k l:Int}{x:ByteArray}{o:Int}{gs:List (List SV)}(a : ∀b,Q (rS (.bool b)) []):TC Z (bF Tryz.prog LG GG) X 122 [gA k l x o gs] none Q R:=by
 refine dm dp Rl Kr (aK ?_)
 conv=>whnf
 repeat' first
  | exact a _
  | (refine eO (λ_=> ?_) (λ_=> ?_)<;>(conv=>whnf))
theorem amn{L:List SV}(hn:ib L) : ∀(k l:Int) (x:ByteArray) (o:Int) (gs:List (List SV)),L= [.sc (.int .i64 k), .sc (.int .i64 l), .sc (.string x), .sc (.int .i64 o), .row 5 gs]->∀(Q:AV->List SV->Prop) (R:ae->Prop),(∀b,Q (rS (.bool b)) [])->TC Z (bF Tryz.prog LG GG) X 150 [gA k l x o gs] none Q R:=by
 induction hn with
 | @mk k' l' x' o' c hg u=>
 intro k l x o gs e Q R d;injection e with v e
 injection e with w e
 injection e with y e
 injection e with z e
 injection e with A e
 cases v;cases w;cases y;cases z;cases A;refine dm dp Rl Kr (aK ?_)
 by_cases hk:k'=52\/k'=51
 ·rcases hk with rfl | rfl
  all_goals
   conv=>whnf
   refine HU 3 (λm a s=>∃i:Nat,a=rS (.int .i64 (i:Nat))/\s=⟨0,[oN [cS (.int .i64 _),cS (.int .i64 l'),cS (.string x'),cS (.int .i64 o'), .s (.row 5 c)]]⟩/\m+i=c.length) c.length [] rfl ⟨0,rfl,rfl,rfl⟩ ?_;rintro m a f s ⟨i,rfl,rfl,D⟩;conv=>whnf
   intro j;conv=>whnf
   refine eO (λh=> ?_) λh=> ?_
   ·have hi:i<c.length:=by simp at h;omega
    have ht:c[i]? = some c[i]:=cj hi;obtain⟨t,B⟩ : ∃t,c[i]=t:=⟨_,rfl⟩;rw[B] at ht;have r:t∈c:=fD ht;have g:=u t r;have C:=hg t r;cases C with
    | @mk F G H I g1 h1=>
    conv=>whnf
    refine⟨rfl,i,_,rfl,ht,?_⟩;conv=>whnf
    refine g _ _ _ _ _ rfl _ _ λb=> ?_;conv=>whnf
    cases b with
    | true=>
      conv=>whnf
      exact⟨m-1,[],Om,rfl,i+1,congrArg (λn=>rS (.int .i64 n)) (LU hi j),rfl,Om⟩
    | false=>
      conv=>whnf
      exact d _
   conv=>whnf
   intro j;conv=>whnf
   repeat' first
    | exact d _
    | (refine eO (λ_=> ?_) (λ_=> ?_)<;>(conv=>whnf))
 conv=>whnf
 refine eO (λh=> ?_) λh=>by exfalso;simp at h;omega
 conv=>whnf
 refine eO (λh=> ?_) λh=>by exfalso;simp at h;omega
 conv=>whnf
 refine adE λb=> ?_;cases b with
 | true=>
   conv=>whnf
   exact d _
 | false=>
   conv=>whnf
   exact d _
end
end
section
open Go Go.RowKit
attribute [local irreducible] TC ap aC jb
section
variable {Z:TP} {X:dz} {R:ae->Prop} {Q:AV->List SV->Prop}
theorem adF : ∀(N:Nat) (k:Nat) (l:Int) (x:List UInt8) (o:Nat) (ks:List Nd),vj (.mk k l x o ks)<N->gk ks+1<=9223372036854775807->∀(Q:AV->List SV->Prop) (R:ae->Prop),Q (rS (.int .i64 (gk ks+1:Nat))) []->TC Z (bF Tryz.prog LG GG) X 46 [vi (.mk k l x o ks)] none Q R:=by
 intro N;induction N with
 | zero=>intro k l x o ks h;exact absurd h (fW _)
 | succ N v=>
 intro k l x o ks z A Q R w;refine dm dp Rl Kr (aK ?_)
 conv=>whnf
 refine aki 4 3 (λm a b s=>∃i h:Nat,a=rS (.int .i64 (i:Nat))/\b=rS (.int .i64 (h:Nat))/\s=⟨0,[oN (nA k l x o ks)]⟩/\m+i=ks.length/\max h (gk (ks.drop i))=gk ks) ks.length [] rfl ⟨0,0,rfl,rfl,rfl,rfl,Nat.zero_max _⟩ ?_;rintro m a b f s ⟨i,h,rfl,rfl,rfl,B,hp⟩;conv=>whnf
 intro d;conv=>whnf
 refine eO (λhc=> ?_) λhc=> ?_
 ·have hi:i<ks.length:=by simp[jG] at hc;omega
  obtain⟨t,ht⟩ : ∃t,ks[i]? = some t:=⟨_,cj hi⟩;have hd:=ak9 ht;have C:=Ic (fD ht) (k:=k) (l:=l) (x:=x) (o:=o);have D:=adg (fD ht);obtain⟨g,j,r,u,c⟩:=t;have y:eX (.mk g j r u c)=gk c+1:=rfl;conv=>whnf
  refine⟨rfl,i,_,rfl,Fb ht,?_⟩;conv=>whnf
  refine v g j r u c Om Om _ _ ?_;conv=>whnf
  rw[jG] at d;refine⟨m-1,[],Om,rfl,i+1,max h (gk c+1),congrArg (λn=>rS (.int .i64 n)) (LU hi d),?_,rfl,Om,by rw[<-hp,hd,y,Nat.max_assoc]⟩;exact congrArg (λn=>rS (.int .i64 n)) (ali h (gk c+1))
 have hi:i=ks.length:=by simp[jG] at hc;omega
 subst hi;have hp:h=gk ks:=by rw[<-hp,yu];exact(Nat.max_zero _).symm
 subst hp;conv=>whnf
 exact VZ (congrArg (λn=>rS (.int .i64 n)) (LU (fN _) (by rw[gE];omega))) rfl w
end
end
section
open Go Go.RowKit
attribute [local irreducible] TC ap aC jb gK
abbrev gC(k l:Int)(x:ByteArray)(o:Int)(gs:List (List SV)):List CV:= [cS (.int .i64 k),cS (.int .i64 l),cS (.string x),cS (.int .i64 o), .s (.row 5 gs)]
abbrev nG(k l:Int)(x:ByteArray)(o:Int)(c:CV):List CV:= [cS (.int .i64 k),cS (.int .i64 l),cS (.string x),cS (.int .i64 o),c]
abbrev im(sl:Sl)(j:Nat)(b:Bool):Nat×TypeId×List CV:=(0,91,[cS (.slice sl.q sl.n sl.c),cS (.int .i64 (j:Nat)),cS (.bool b)])
theorem ua{a:List SV}{l:List (List SV)}(h:ib a)(hl : ∀g∈l,ib g) : ∀g∈a::l,ib g:=λg hg=>by
 rcases List.mem_cons.1 hg with rfl | hg
 ·exact h
 exact hl g hg
theorem ub{a b:List (List SV)}(h : ∀g∈a,ib g)(hl : ∀g∈b,ib g) : ∀g∈a++b,ib g:=λg hg=>by
 rcases List.mem_append.1 hg with hg | hg
 ·exact h g hg
 exact hl g hg
structure jn(Z:TP)(X:dz)(ts:List PT)(sl:Sl)(g:Nat):Prop where
 expr:DG Z X ts sl g .expr 81 [.ptr 0 0]
 or_:DG Z X ts sl g .or 115 [.ptr 0 0]
 and_:DG Z X ts sl g .and 149 [.ptr 0 0]
 not_:DG Z X ts sl g .not 172 [.ptr 0 0]
 compare:DG Z X ts sl g .compare 186 [.ptr 0 0]
 arith:DG Z X ts sl g .arith 192 [.ptr 0 0]
 term:DG Z X ts sl g .term 199 [.ptr 0 0]
 rR:DG Z X ts sl g .rR 202 [.ptr 0 0]
 primary:DG Z X ts sl g .primary 121 [.ptr 0 0]
 atom:DG Z X ts sl g .atom 151 [.ptr 0 0]
 exprs:DG Z X ts sl g .exprs 85 [.ptr 0 0]
 one:DG Z X ts sl g .one 117 [.ptr 0 0]
 places:DG Z X ts sl g .places 84 [.ptr 0 0]
 simple:DG Z X ts sl g .simple 90 [.ptr 0 0]
 plain:DG Z X ts sl g .plain 123 [.ptr 0 0]
 value:DG Z X ts sl g .value 153 [.ptr 0 0]
 block:DG Z X ts sl g .block 83 [.ptr 0 0]
 stmt:DG Z X ts sl g .stmt 45 [.ptr 0 0]
 params : ∀(cl:List UInt8) (ln:Int),cl≠ []->DG Z X ts sl g (.params cl ln []) 87 [.ptr 0 0,rS (.int .i64 ln),rS (.string ⟨⟨cl⟩⟩)]
 row : ∀(cl:List UInt8),cl≠ []->Mo Z X ts sl g (.row cl []) 88 [.ptr 0 0,rS (.string ⟨⟨cl⟩⟩)]
 index : ∀(k:Nat) (l:Int) (x:List UInt8) (o:Nat) (ks:List Nd),DG Z X ts sl g (.index (.mk k l x o ks)) 152 [.ptr 0 0,vi (.mk k l x o ks)]
 clauses:Mo Z X ts sl g (.clauses []) 187 [.ptr 0 0]
 list : ∀(ln:Int),DG Z X ts sl g (.list ln) 174 [.ptr 0 0,rS (.int .i64 ln)]
 ze : ∀(ln:Int),DG Z X ts sl g (.ze ln) 175 [.ptr 0 0,rS (.int .i64 ln)]
 names : ∀(k:Nat) (ln:Int),DG Z X ts sl g (.names k ln []) 120 [.ptr 0 0,rS (.int .i64 (k:Nat)),rS (.int .i64 ln)]
 maybe : ∀(k:Nat) (ln:Int) (all:Bool),DG Z X ts sl g (.maybe k ln all) 119 [.ptr 0 0,rS (.int .i64 (k:Nat)),rS (.int .i64 ln),rS (.bool all)]
 ifs : ∀(ln:Int),DG Z X ts sl g (.ifs ln) 80 [.ptr 0 0,rS (.int .i64 ln)]
 tries : ∀(ln:Int),DG Z X ts sl g (.tries ln) 89 [.ptr 0 0,rS (.int .i64 ln)]
set_option maxRecDepth 1000000 in
theorem j6{Pz:Prop}(hz:Pz:=by
 repeat' first
  | ((with_reducible refine ah 79 ?_);first | (refine al' C hG (by first | decide | exact cl_ne) Om (λhl hG=> ?_) (λhG=> ?_)<;>(conv=>whnf)) | (refine jc C Om ?_;conv=>whnf))
  | ((with_reducible refine ah 44 ?_);first | (refine lq C Om ?_;conv=>whnf))
  | ((with_reducible refine ah 82 ?_);first | (refine amf C hG (by first | decide | exact cl_ne) Om (λhe=> ?_) (λhl hG=> ?_)<;>(conv=>whnf)) | (refine amc C de Om hb ?_;intro hl;conv=>whnf) | (refine rY C Om ?_;conv=>whnf))
  | ((with_reducible refine ah 114 ?_);first | (refine ama C hG (by first | decide | exact cl_ne) Om (λhb hl hG=> ?_) (λhb hG=> ?_)<;>(conv=>whnf)) | (refine amb C hG (by first | decide | exact cl_ne) Om (λhG=> ?_) (λhG=> ?_)<;>(conv=>whnf)) | (refine ku C Om ?_;conv=>whnf))
  | ((with_reducible refine ah 86 ?_);first | (refine amg C hG de Om (λhe=> ?_) (λhl hG=> ?_)<;>(conv=>whnf)) | (refine rZ C Om ?_;conv=>whnf))
  | ((with_reducible refine ah 118 ?_);first | (refine amd C hG Om (λhG=> ?_) (λhG=> ?_)<;>(conv=>whnf)) | (refine sa C Om ?_;conv=>whnf))
  | ((with_reducible refine ah 116 ?_);first | (refine ame C hG de Om (λhl hG=> ?_) (λhG=> ?_)<;>(conv=>whnf)) | (refine rX C Om ?_;conv=>whnf))
  | ((with_reducible refine ah 193 ?_);first | (refine amh C hG Om (λe he dN=> ?_) (λhG=> ?_) (λQE j1 Aw cU hG=> ?_)<;>(conv=>whnf)) | (refine r9 C Om ?_;conv=>whnf))
  | ((with_reducible refine ah 154 ?_);first | (refine ami C hG Om (λha hl hG=> ?_) (λhG=> ?_)<;>(conv=>whnf)) | (refine r8 C Om ?_;conv=>whnf))
  | ((with_reducible refine ah 122 ?_);first | (refine amk hG (λhG=> ?_) (λhG=> ?_)<;>(conv=>whnf)) | (refine adE λb=> ?_;cases b<;>(conv=>whnf)))
  | ((with_reducible refine ah 150 ?_);first | (refine amm hG (λhG=> ?_) (λhG=> ?_)<;>(conv=>whnf)) | (refine amn (.mk bI) _ _ _ _ _ rfl _ _ λb=> ?_;cases b<;>(conv=>whnf)))
  | ((with_reducible refine ah 81 ?_);first | (refine jP bA.expr hG Tv rfl (λe he dN kb lb xb ob gb bI=> ?_) Om (λn1 l1 x1 o1 bW j1 aR cU hG=> ?_)<;>(try simp only[NT.min] at aR)<;>(conv=>whnf)) | (refine kw bA.expr hG Tv rfl (λe he dN kb lb xb ob gb bI=> ?_) Om (λn1 l1 x1 o1 bW j1 aR cU hG=> ?_)<;>(try simp only[NT.min] at aR)<;>(conv=>whnf)) | (refine Iv C _ _ _ Om ?_;intro kb lb xb ob gb bI;conv=>whnf))
  | ((with_reducible refine ah 115 ?_);first | (refine jP bA.or_ hG Tv rfl (λe he dN kb lb xb ob gb bI=> ?_) Om (λn1 l1 x1 o1 bW j1 aR cU hG=> ?_)<;>(try simp only[NT.min] at aR)<;>(conv=>whnf)) | (refine kw bA.or_ hG Tv rfl (λe he dN kb lb xb ob gb bI=> ?_) Om (λn1 l1 x1 o1 bW j1 aR cU hG=> ?_)<;>(try simp only[NT.min] at aR)<;>(conv=>whnf)) | (refine Fm C _ _ _ Om ?_;intro kb lb xb ob gb bI;conv=>whnf))
  | ((with_reducible refine ah 149 ?_);first | (refine jP bA.and_ hG Tv rfl (λe he dN kb lb xb ob gb bI=> ?_) Om (λn1 l1 x1 o1 bW j1 aR cU hG=> ?_)<;>(try simp only[NT.min] at aR)<;>(conv=>whnf)) | (refine kw bA.and_ hG Tv rfl (λe he dN kb lb xb ob gb bI=> ?_) Om (λn1 l1 x1 o1 bW j1 aR cU hG=> ?_)<;>(try simp only[NT.min] at aR)<;>(conv=>whnf)) | (refine De C _ _ _ Om ?_;intro kb lb xb ob gb bI;conv=>whnf))
  | ((with_reducible refine ah 172 ?_);first | (refine jP bA.not_ hG Tv rfl (λe he dN kb lb xb ob gb bI=> ?_) Om (λn1 l1 x1 o1 bW j1 aR cU hG=> ?_)<;>(try simp only[NT.min] at aR)<;>(conv=>whnf)) | (refine kw bA.not_ hG Tv rfl (λe he dN kb lb xb ob gb bI=> ?_) Om (λn1 l1 x1 o1 bW j1 aR cU hG=> ?_)<;>(try simp only[NT.min] at aR)<;>(conv=>whnf)) | (refine Bz C _ _ _ Om ?_;intro kb lb xb ob gb bI;conv=>whnf))
  | ((with_reducible refine ah 186 ?_);first | (refine jP bA.compare hG Tv rfl (λe he dN kb lb xb ob gb bI=> ?_) Om (λn1 l1 x1 o1 bW j1 aR cU hG=> ?_)<;>(try simp only[NT.min] at aR)<;>(conv=>whnf)) | (refine kw bA.compare hG Tv rfl (λe he dN kb lb xb ob gb bI=> ?_) Om (λn1 l1 x1 o1 bW j1 aR cU hG=> ?_)<;>(try simp only[NT.min] at aR)<;>(conv=>whnf)) | (refine zl C _ _ _ Om ?_;intro kb lb xb ob gb bI;conv=>whnf))
  | ((with_reducible refine ah 192 ?_);first | (refine jP bA.arith hG Tv rfl (λe he dN kb lb xb ob gb bI=> ?_) Om (λn1 l1 x1 o1 bW j1 aR cU hG=> ?_)<;>(try simp only[NT.min] at aR)<;>(conv=>whnf)) | (refine kw bA.arith hG Tv rfl (λe he dN kb lb xb ob gb bI=> ?_) Om (λn1 l1 x1 o1 bW j1 aR cU hG=> ?_)<;>(try simp only[NT.min] at aR)<;>(conv=>whnf)) | (refine x5 C _ _ _ Om ?_;intro kb lb xb ob gb bI;conv=>whnf))
  | ((with_reducible refine ah 199 ?_);first | (refine jP bA.term hG Tv rfl (λe he dN kb lb xb ob gb bI=> ?_) Om (λn1 l1 x1 o1 bW j1 aR cU hG=> ?_)<;>(try simp only[NT.min] at aR)<;>(conv=>whnf)) | (refine kw bA.term hG Tv rfl (λe he dN kb lb xb ob gb bI=> ?_) Om (λn1 l1 x1 o1 bW j1 aR cU hG=> ?_)<;>(try simp only[NT.min] at aR)<;>(conv=>whnf)) | (refine wR C _ _ _ Om ?_;intro kb lb xb ob gb bI;conv=>whnf))
  | ((with_reducible refine ah 202 ?_);first | (refine jP bA.rR hG Tv rfl (λe he dN kb lb xb ob gb bI=> ?_) Om (λn1 l1 x1 o1 bW j1 aR cU hG=> ?_)<;>(try simp only[NT.min] at aR)<;>(conv=>whnf)) | (refine kw bA.rR hG Tv rfl (λe he dN kb lb xb ob gb bI=> ?_) Om (λn1 l1 x1 o1 bW j1 aR cU hG=> ?_)<;>(try simp only[NT.min] at aR)<;>(conv=>whnf)) | (refine vv C _ _ _ Om ?_;intro kb lb xb ob gb bI;conv=>whnf))
  | ((with_reducible refine ah 121 ?_);first | (refine jP bA.primary hG Tv rfl (λe he dN kb lb xb ob gb bI=> ?_) Om (λn1 l1 x1 o1 bW j1 aR cU hG=> ?_)<;>(try simp only[NT.min] at aR)<;>(conv=>whnf)) | (refine kw bA.primary hG Tv rfl (λe he dN kb lb xb ob gb bI=> ?_) Om (λn1 l1 x1 o1 bW j1 aR cU hG=> ?_)<;>(try simp only[NT.min] at aR)<;>(conv=>whnf)) | (refine tZ C _ _ _ Om ?_;intro kb lb xb ob gb bI;conv=>whnf))
  | ((with_reducible refine ah 151 ?_);first | (refine jP bA.atom hG Tv rfl (λe he dN kb lb xb ob gb bI=> ?_) Om (λn1 l1 x1 o1 bW j1 aR cU hG=> ?_)<;>(try simp only[NT.min] at aR)<;>(conv=>whnf)) | (refine kw bA.atom hG Tv rfl (λe he dN kb lb xb ob gb bI=> ?_) Om (λn1 l1 x1 o1 bW j1 aR cU hG=> ?_)<;>(try simp only[NT.min] at aR)<;>(conv=>whnf)) | (refine sZ C _ _ _ Om ?_;intro kb lb xb ob gb bI;conv=>whnf))
  | ((with_reducible refine ah 85 ?_);first | (refine jP bA.exprs hG Tv rfl (λe he dN kb lb xb ob gb bI=> ?_) Om (λn1 l1 x1 o1 bW j1 aR cU hG=> ?_)<;>(try simp only[NT.min] at aR)<;>(conv=>whnf)) | (refine kw bA.exprs hG Tv rfl (λe he dN kb lb xb ob gb bI=> ?_) Om (λn1 l1 x1 o1 bW j1 aR cU hG=> ?_)<;>(try simp only[NT.min] at aR)<;>(conv=>whnf)) | (refine Mn C _ _ _ Om ?_;intro kb lb xb ob gb bI;conv=>whnf))
  | ((with_reducible refine ah 117 ?_);first | (refine jP bA.one hG Tv rfl (λe he dN kb lb xb ob gb bI=> ?_) Om (λn1 l1 x1 o1 bW j1 aR cU hG=> ?_)<;>(try simp only[NT.min] at aR)<;>(conv=>whnf)) | (refine kw bA.one hG Tv rfl (λe he dN kb lb xb ob gb bI=> ?_) Om (λn1 l1 x1 o1 bW j1 aR cU hG=> ?_)<;>(try simp only[NT.min] at aR)<;>(conv=>whnf)))
  | ((with_reducible refine ah 84 ?_);first | (refine jP bA.places hG Tv rfl (λe he dN kb lb xb ob gb bI=> ?_) Om (λn1 l1 x1 o1 bW j1 aR cU hG=> ?_)<;>(try simp only[NT.min] at aR)<;>(conv=>whnf)) | (refine kw bA.places hG Tv rfl (λe he dN kb lb xb ob gb bI=> ?_) Om (λn1 l1 x1 o1 bW j1 aR cU hG=> ?_)<;>(try simp only[NT.min] at aR)<;>(conv=>whnf)))
  | ((with_reducible refine ah 90 ?_);first | (refine jP bA.simple hG Tv rfl (λe he dN kb lb xb ob gb bI=> ?_) Om (λn1 l1 x1 o1 bW j1 aR cU hG=> ?_)<;>(try simp only[NT.min] at aR)<;>(conv=>whnf)) | (refine kw bA.simple hG Tv rfl (λe he dN kb lb xb ob gb bI=> ?_) Om (λn1 l1 x1 o1 bW j1 aR cU hG=> ?_)<;>(try simp only[NT.min] at aR)<;>(conv=>whnf)) | (refine adB C _ _ _ Om ?_;intro kb lb xb ob gb bI;conv=>whnf))
  | ((with_reducible refine ah 123 ?_);first | (refine jP bA.plain hG Tv rfl (λe he dN kb lb xb ob gb bI=> ?_) Om (λn1 l1 x1 o1 bW j1 aR cU hG=> ?_)<;>(try simp only[NT.min] at aR)<;>(conv=>whnf)) | (refine kw bA.plain hG Tv rfl (λe he dN kb lb xb ob gb bI=> ?_) Om (λn1 l1 x1 o1 bW j1 aR cU hG=> ?_)<;>(try simp only[NT.min] at aR)<;>(conv=>whnf)) | (refine Wv C _ _ _ Om ?_;intro kb lb xb ob gb bI;conv=>whnf))
  | ((with_reducible refine ah 153 ?_);first | (refine jP bA.value hG Tv rfl (λe he dN kb lb xb ob gb bI=> ?_) Om (λn1 l1 x1 o1 bW j1 aR cU hG=> ?_)<;>(try simp only[NT.min] at aR)<;>(conv=>whnf)) | (refine kw bA.value hG Tv rfl (λe he dN kb lb xb ob gb bI=> ?_) Om (λn1 l1 x1 o1 bW j1 aR cU hG=> ?_)<;>(try simp only[NT.min] at aR)<;>(conv=>whnf)))
  | ((with_reducible refine ah 83 ?_);first | (refine jP bA.block hG Tv rfl (λe he dN kb lb xb ob gb bI=> ?_) Om (λn1 l1 x1 o1 bW j1 aR cU hG=> ?_)<;>(try simp only[NT.min] at aR)<;>(conv=>whnf)) | (refine kw bA.block hG Tv rfl (λe he dN kb lb xb ob gb bI=> ?_) Om (λn1 l1 x1 o1 bW j1 aR cU hG=> ?_)<;>(try simp only[NT.min] at aR)<;>(conv=>whnf)) | (refine jP adG.block hG Tv rfl (λe he dN kb lb xb ob gb bI=> ?_) Om (λn1 l1 x1 o1 bW j1 aR cU hG=> ?_)<;>(try simp only[NT.min] at aR)<;>(conv=>whnf)) | (refine kw adG.block hG Tv rfl (λe he dN kb lb xb ob gb bI=> ?_) Om (λn1 l1 x1 o1 bW j1 aR cU hG=> ?_)<;>(try simp only[NT.min] at aR)<;>(conv=>whnf)) | (refine al9 C _ _ _ Om ?_;intro kb lb xb ob gb bI;conv=>whnf))
  | ((with_reducible refine ah 45 ?_);first | (refine jP bA.stmt hG Tv rfl (λe he dN kb lb xb ob gb bI=> ?_) Om (λn1 l1 x1 o1 bW j1 aR cU hG=> ?_)<;>(try simp only[NT.min] at aR)<;>(conv=>whnf)) | (refine kw bA.stmt hG Tv rfl (λe he dN kb lb xb ob gb bI=> ?_) Om (λn1 l1 x1 o1 bW j1 aR cU hG=> ?_)<;>(try simp only[NT.min] at aR)<;>(conv=>whnf)))
  | ((with_reducible refine ah 87 ?_);first | (refine jP (bA.params _ _ de) hG Tv rfl (λe he dN kb lb xb ob gb bI=> ?_) Om (λn1 l1 x1 o1 bW j1 aR cU hG=> ?_)<;>(try simp only[NT.min] at aR)<;>(conv=>whnf)) | (refine kw (bA.params _ _ de) hG Tv rfl (λe he dN kb lb xb ob gb bI=> ?_) Om (λn1 l1 x1 o1 bW j1 aR cU hG=> ?_)<;>(try simp only[NT.min] at aR)<;>(conv=>whnf)) | (refine QB C _ _ _ Om ?_;intro kb lb xb ob gb bI;conv=>whnf))
  | ((with_reducible refine ah 88 ?_);first | (refine adC (bA.row _ de) hG Tv rfl (λe he dN gb bI tU=> ?_) Om (λl1 j1 aR cU mi hG=> ?_)<;>(try simp only[NT.acc,Option.getD_some,List.length_nil] at mi)<;>(conv=>whnf)))
  | ((with_reducible refine ah 152 ?_);first | (refine jP (bA.index _ _ _ _ _) hG Tv rfl (λe he dN kb lb xb ob gb bI=> ?_) Om (λn1 l1 x1 o1 bW j1 aR cU hG=> ?_)<;>(try simp only[NT.min] at aR)<;>(conv=>whnf)) | (refine kw (bA.index _ _ _ _ _) hG Tv rfl (λe he dN kb lb xb ob gb bI=> ?_) Om (λn1 l1 x1 o1 bW j1 aR cU hG=> ?_)<;>(try simp only[NT.min] at aR)<;>(conv=>whnf)))
  | ((with_reducible refine ah 187 ?_);first | (refine adC bA.clauses hG Tv rfl (λe he dN gb bI tU=> ?_) Om (λl1 j1 aR cU mi hG=> ?_)<;>(try simp only[NT.acc,Option.getD_some,List.length_nil] at mi)<;>(conv=>whnf)))
  | ((with_reducible refine ah 174 ?_);first | (refine jP (bA.list _) hG Tv rfl (λe he dN kb lb xb ob gb bI=> ?_) Om (λn1 l1 x1 o1 bW j1 aR cU hG=> ?_)<;>(try simp only[NT.min] at aR)<;>(conv=>whnf)) | (refine kw (bA.list _) hG Tv rfl (λe he dN kb lb xb ob gb bI=> ?_) Om (λn1 l1 x1 o1 bW j1 aR cU hG=> ?_)<;>(try simp only[NT.min] at aR)<;>(conv=>whnf)))
  | ((with_reducible refine ah 175 ?_);first | (refine jP (bA.ze _) hG Tv rfl (λe he dN kb lb xb ob gb bI=> ?_) Om (λn1 l1 x1 o1 bW j1 aR cU hG=> ?_)<;>(try simp only[NT.min] at aR)<;>(conv=>whnf)) | (refine kw (bA.ze _) hG Tv rfl (λe he dN kb lb xb ob gb bI=> ?_) Om (λn1 l1 x1 o1 bW j1 aR cU hG=> ?_)<;>(try simp only[NT.min] at aR)<;>(conv=>whnf)))
  | ((with_reducible refine ah 120 ?_);first | (refine jP (bA.names _ _) hG Tv rfl (λe he dN kb lb xb ob gb bI=> ?_) Om (λn1 l1 x1 o1 bW j1 aR cU hG=> ?_)<;>(try simp only[NT.min] at aR)<;>(conv=>whnf)) | (refine kw (bA.names _ _) hG Tv rfl (λe he dN kb lb xb ob gb bI=> ?_) Om (λn1 l1 x1 o1 bW j1 aR cU hG=> ?_)<;>(try simp only[NT.min] at aR)<;>(conv=>whnf)))
  | ((with_reducible refine ah 119 ?_);first | (refine jP (bA.maybe _ _ _) hG Tv rfl (λe he dN kb lb xb ob gb bI=> ?_) Om (λn1 l1 x1 o1 bW j1 aR cU hG=> ?_)<;>(try simp only[NT.min] at aR)<;>(conv=>whnf)) | (refine kw (bA.maybe _ _ _) hG Tv rfl (λe he dN kb lb xb ob gb bI=> ?_) Om (λn1 l1 x1 o1 bW j1 aR cU hG=> ?_)<;>(try simp only[NT.min] at aR)<;>(conv=>whnf)))
  | ((with_reducible refine ah 80 ?_);first | (refine jP (bA.ifs _) hG Tv rfl (λe he dN kb lb xb ob gb bI=> ?_) Om (λn1 l1 x1 o1 bW j1 aR cU hG=> ?_)<;>(try simp only[NT.min] at aR)<;>(conv=>whnf)) | (refine kw (bA.ifs _) hG Tv rfl (λe he dN kb lb xb ob gb bI=> ?_) Om (λn1 l1 x1 o1 bW j1 aR cU hG=> ?_)<;>(try simp only[NT.min] at aR)<;>(conv=>whnf)))
  | ((with_reducible refine ah 89 ?_);first | (refine jP (bA.tries _) hG Tv rfl (λe he dN kb lb xb ob gb bI=> ?_) Om (λn1 l1 x1 o1 bW j1 aR cU hG=> ?_)<;>(try simp only[NT.min] at aR)<;>(conv=>whnf)) | (refine kw (bA.tries _) hG Tv rfl (λe he dN kb lb xb ob gb bI=> ?_) Om (λn1 l1 x1 o1 bW j1 aR cU hG=> ?_)<;>(try simp only[NT.min] at aR)<;>(conv=>whnf)))
  | (intro (cW:_<=maxLen);conv=>whnf)
  | exact⟨m,[],Om,rfl, .inl ⟨_,_,_,_,_,_,rfl,Om,Om,hG⟩⟩
  | exact⟨m,[],Om,rfl, .inr ⟨_,_,_,_,_,_,rfl,Om,he,(by repeat' first | assumption | exact rV _ | exact sX _ | exact jO | refine ua ?_ ?_ | refine ub ?_ ?_ | refine .mk ?_)⟩⟩
  | exact⟨m,[2],Om,rfl, .inl ⟨_,_,_,_,_,acc++ [.mk n1 l1 x1 o1 bW],_,_,(by rw[C7];rfl),Om,Om,SS,hG⟩⟩
  | exact⟨m,[2],Om,rfl, .inr ⟨_,_,_,_,_,_,_,_,rfl,Om,he,(by repeat' first | assumption | exact rV _ | exact sX _ | exact jO | refine ua ?_ ?_ | refine ub ?_ ?_ | refine .mk ?_)⟩⟩
  | exact⟨m,[2],Om,rfl, .inl ⟨_,_,_,Ib rfl,rfl,Om,Om,SS,hG⟩⟩
  | exact⟨m,[2],Om,rfl, .inr ⟨_,_,_,_,_,rfl,Om,he,(by repeat' first | assumption | exact rV _ | exact sX _ | exact jO | refine ua ?_ ?_ | refine ub ?_ ?_ | refine .mk ?_)⟩⟩
  | exact⟨m,[2],Om,rfl, .inl ⟨_,_,_,rfl,Ib rfl,rfl,Om,Om,SS,hG⟩⟩
  | exact⟨m,[2],Om,rfl, .inr ⟨_,_,rfl,rfl,Om,he,(by repeat' first | assumption | exact rV _ | exact sX _ | exact jO | refine ua ?_ ?_ | refine ub ?_ ?_ | refine .mk ?_),(by first | omega | simp only[List.length_append,List.length_cons,List.length_nil,jG] at *;omega)⟩⟩
  | exact⟨m,[3],Om,rfl, .inl ⟨_,_,_,rfl,Ib rfl,rfl,Om,Om,SS,hG⟩⟩
  | exact⟨m,[3],Om,rfl, .inr ⟨_,_,rfl,rfl,Om,he,(by repeat' first | assumption | exact rV _ | exact sX _ | exact jO | refine ua ?_ ?_ | refine ub ?_ ?_ | refine .mk ?_),(by first | omega | simp only[List.length_append,List.length_cons,List.length_nil,jG] at *;omega)⟩⟩
  | exact⟨m,[3],Om,rfl, .inl ⟨acc++ [.mk 43 (aC ts j).line [] (QE+1) [.mk n1 l1 x1 o1 bW]],_,(by rw[C7];rfl),Om,Om,SS,hG⟩⟩
  | exact⟨m,[3],Om,rfl, .inr ⟨_,_,_,_,rfl,Om,he,(by repeat' first | assumption | exact rV _ | exact sX _ | exact jO | refine ua ?_ ?_ | refine ub ?_ ?_ | refine .mk ?_)⟩⟩
  | (refine eO (λh=> ?_) (λh=> ?_);(have:acc= []:=by cases acc;rfl;simp[cT] at h<;>omega);subst this;(conv=>whnf);exact hQ _ _ hG Om;(have:acc.isEmpty=false:=by cases acc;simp[cT] at h<;>omega;rfl);rw[this] at hG;(conv=>whnf);exact hQ _ _ hG Om)
  | exact⟨m,[2],Om,rfl, .inl ⟨_,_,_,_,_,_,_,_,_,_,acc++ [_,_],_,(by rw[H9];rfl),Om,Om,SS,hG⟩⟩
  | exact⟨m,[2],Om,rfl, .inr ⟨_,_,_,_,_,_,_,_,_,_,_,_,rfl,Om,he,(by repeat' first | assumption | exact rV _ | exact sX _ | exact jO | refine ua ?_ ?_ | refine ub ?_ ?_ | refine .mk ?_)⟩⟩
  | exact⟨m,[2],Om,rfl, .inl ⟨_,_,_,_,_,acc++ [.mk n1 l1 x1 o1 bW],_,_,(by rw[C7];rfl),Om,Om,Sm,SS,hG⟩⟩
  | (refine⟨rfl,acc.length-1,_,ak4 aB cW,Fb (ak5 G'),?_⟩;conv=>whnf)
  | exact⟨m,[2],Om,rfl, .inl ⟨_,_,_,_,Ib rfl,rfl,Om,Om,(by simp only[List.length_append,List.length_cons,List.length_nil] at *;omega),hG⟩⟩
  | exact⟨m,[2],Om,rfl, .inr ⟨_,_,_,rfl,Om,he,(by repeat' first | assumption | exact rV _ | exact sX _ | exact jO | refine ua ?_ ?_ | refine ub ?_ ?_ | refine .mk ?_)⟩⟩
  | (refine⟨rfl,0,_,rfl,rfl,?_⟩;conv=>whnf)
  | exact⟨m,[4],Om,rfl, .inl ⟨acc++ [Nd.mk 21 (aC ts j).line [] 0 [Nd.mk n1 l1 x1 o1 bW]],_,true,rfl,(by rw[C7];rfl),Om,Om,SS,SS, .inr ⟨rfl,hG⟩⟩⟩
  | exact⟨m,[6],Om,rfl, .inl ⟨acc++ [_],_,false,rfl,(by rw[C7];rfl),Om,Om,SS,SS, .inl ⟨rfl,hG⟩⟩⟩
  | exact⟨m,[4],Om,rfl, .inr ⟨_,_,_,_,rfl,rfl,Om,he,(by repeat' first | assumption | exact rV _ | exact sX _ | exact jO | refine ua ?_ ?_ | refine ub ?_ ?_ | refine .mk ?_)⟩⟩
  | exact⟨m,[6],Om,rfl, .inr ⟨_,_,_,_,rfl,rfl,Om,he,(by repeat' first | assumption | exact rV _ | exact sX _ | exact jO | refine ua ?_ ?_ | refine ub ?_ ?_ | refine .mk ?_)⟩⟩
  | (refine ak7 hG (by simp[jG];try omega) (λhG=> ?_) (λhG=> ?_)<;>(conv=>whnf))
  | (refine eO (λh=>by exfalso;simp[jG] at h;first | omega | (subst h;simp at mi)) (λh=> ?_);conv=>whnf)
  | exact⟨m,[2],Om,rfl, .inl ⟨_,_,_,_,_,_,_,_,_,_,acc++ [.mk n1 l1 x1 o1 bW],_,_,(by rw[C7];rfl),Om,Om,SS,LP.2 hG⟩⟩
  | exact hQ _ _ (ak6 hG) Om
  | exact⟨m,[2],Om,rfl, .inr ⟨_,_,_,_,_,_,_,_,_,_,_,_,_,rfl,Om,he,(by repeat' first | assumption | exact rV _ | exact sX _ | exact jO | refine ua ?_ ?_ | refine ub ?_ ?_ | refine .mk ?_)⟩⟩
  | (refine⟨rfl,?_⟩;conv=>whnf)
  | (refine⟨VY (by simp only[List.length_append,List.length_cons,List.length_nil,jG];omega),?_⟩;conv=>whnf)
  | exact hQ _ _ hG Om
  | exact hE _ he Om _ _ _ _ _ (by repeat' first | assumption | exact rV _ | exact sX _ | exact jO | refine ua ?_ ?_ | refine ub ?_ ?_ | refine .mk ?_)
  | exact hE _ hG Om _ _ _ _ _ (by repeat' first | assumption | exact rV _ | exact sX _ | exact jO | refine ua ?_ ?_ | refine ub ?_ ?_ | refine .mk ?_)
  | exact hE _ he Om _ (by repeat' first | assumption | exact rV _ | exact sX _ | exact jO | refine ua ?_ ?_ | refine ub ?_ ?_ | refine .mk ?_) (by first | omega | simp only[List.length_append,List.length_cons,List.length_nil,jG] at *;omega)
  | (refine akZ (Ww C hl) ?_)
  | (refine eO (λh=>by exfalso;simp at h;omega) (λh=> ?_);conv=>whnf)
  | (refine eO (λh=> ?_) (λh=>by exfalso;simp at h;omega);conv=>whnf)
  | (refine VZ ?_ ?_ (hQ _ _ hG Om)<;>first | rfl | exact ak2 rfl | exact ak3 rfl | exact Ww C hl)
  | (have hG:=(Fp _ _).1 hG;rcases f with _ | f;exact hG.elim;have adG:=ih f Om;simp only[gr] at hG)
  | (generalize Fq:((gs.length:Int)==Int.ofNat 1)=bb;cases bb<;>(conv=>whnf))
  | ((with_reducible refine eO ?_ ?_)<;>intro oI<;>(conv=>whnf))
  | (refine sU (λm s=>(∃k l x o ks j,s=⟨0,[im sl j false,oN jk,oN (nA k l x o ks)]⟩/\j<=ts.length/\m<=f/\Gd E P (gr ts m (.Bg (.mk k l x o ks)) j))\/(∃k l x o gs j,s=⟨0,[im sl j true,oN jk,oN (gC k l x o gs)]⟩/\j<=ts.length/\E j/\(∀g∈gs,ib g))) f [] rfl (.inl ⟨_,_,_,_,_,_,rfl,Om,Nat.le_refl _,hG⟩) ?_;rintro m f1 s (⟨k,l,x,o,ks,j,rfl,hj,qM,hG⟩ | ⟨k,l,x,o,gs,j,rfl,hj,he,bI⟩);rcases m with _ | m;exact hG.elim;have bA:=ih m Om;simp only[gr] at hG;(conv=>whnf);rotate_left;conv=>whnf)
  | (refine sU (λm s=>(∃k l x o ks j,s=⟨0,[im sl j false,oN jk,oN (nA k l x o ks)]⟩/\j<=ts.length/\m<=f/\Gd E P (gr ts m (.Bh (.mk k l x o ks)) j))\/(∃k l x o gs j,s=⟨0,[im sl j true,oN jk,oN (gC k l x o gs)]⟩/\j<=ts.length/\E j/\(∀g∈gs,ib g))) f [] rfl (.inl ⟨_,_,_,_,_,_,rfl,Om,Nat.le_refl _,hG⟩) ?_;rintro m f1 s (⟨k,l,x,o,ks,j,rfl,hj,qM,hG⟩ | ⟨k,l,x,o,gs,j,rfl,hj,he,bI⟩);rcases m with _ | m;exact hG.elim;have bA:=ih m Om;simp only[gr] at hG;(conv=>whnf);rotate_left;conv=>whnf)
  | (refine sU (λm s=>(∃k l x o ks j,s=⟨0,[im sl j false,oN jk,oN (nA k l x o ks)]⟩/\j<=ts.length/\m<=f/\Gd E P (gr ts m (.zd (.mk k l x o ks)) j))\/(∃k l x o gs j,s=⟨0,[im sl j true,oN jk,oN (gC k l x o gs)]⟩/\j<=ts.length/\E j/\(∀g∈gs,ib g))) f [] rfl (.inl ⟨_,_,_,_,_,_,rfl,Om,Nat.le_refl _,hG⟩) ?_;rintro m f1 s (⟨k,l,x,o,ks,j,rfl,hj,qM,hG⟩ | ⟨k,l,x,o,gs,j,rfl,hj,he,bI⟩);rcases m with _ | m;exact hG.elim;have bA:=ih m Om;simp only[gr] at hG;(conv=>whnf);rotate_left;conv=>whnf)
  | (refine sU (λm s=>(∃k l x o ks j,s=⟨0,[im sl j false,oN jk,oN (nA k l x o ks)]⟩/\j<=ts.length/\m<=f/\Gd E P (gr ts m (.wK (.mk k l x o ks)) j))\/(∃k l x o gs j,s=⟨0,[im sl j true,oN jk,oN (gC k l x o gs)]⟩/\j<=ts.length/\E j/\(∀g∈gs,ib g))) f [] rfl (.inl ⟨_,_,_,_,_,_,rfl,Om,Nat.le_refl _,hG⟩) ?_;rintro m f1 s (⟨k,l,x,o,ks,j,rfl,hj,qM,hG⟩ | ⟨k,l,x,o,gs,j,rfl,hj,he,bI⟩);rcases m with _ | m;exact hG.elim;have bA:=ih m Om;simp only[gr] at hG;(conv=>whnf);rotate_left;conv=>whnf)
  | (refine sU (λm s=>(∃k l x o ks j,s=⟨0,[im sl j false,oN jk,oN (nA k l x o ks)]⟩/\j<=ts.length/\m<=f/\Gd E P (gr ts m (.xN (.mk k l x o ks)) j))\/(∃k l x o gs j,s=⟨0,[im sl j true,oN jk,oN (gC k l x o gs)]⟩/\j<=ts.length/\E j/\(∀g∈gs,ib g))) f [] rfl (.inl ⟨_,_,_,_,_,_,rfl,Om,Nat.le_refl _,hG⟩) ?_;rintro m f1 s (⟨k,l,x,o,ks,j,rfl,hj,qM,hG⟩ | ⟨k,l,x,o,gs,j,rfl,hj,he,bI⟩);rcases m with _ | m;exact hG.elim;have bA:=ih m Om;simp only[gr] at hG;(conv=>whnf);rotate_left;conv=>whnf)
  | (refine sU (λm s=>(∃k l x o ks acc j ln,s=⟨1,[im sl j false,oN jk,oN (nA k l x o ks),oN (nC 52 ln [] 0 (.own 0 26 5 (cT acc)))]⟩/\j<=ts.length/\m<=f/\2*acc.length<=j+1/\Gd E P (gr ts m (.wJ ln acc) j))\/(∃k l x o gx j gs ln,s=⟨1,[im sl j true,oN jk,oN (gC k l x o gx),oN (nG 52 ln ⟨⟨[]⟩⟩ 0 (.own 0 26 5 gs))]⟩/\j<=ts.length/\E j/\(∀g∈gs,ib g))) f [0] rfl (.inl ⟨_,_,_,_,_,[.mk n1 l1 x1 o1 bW],_,_,rfl,Om,Nat.le_refl _,by simp only[List.length_cons,List.length_nil];omega,hG⟩) ?_;rintro m f1 s (⟨k,l,x,o,ks,acc,j,ln,rfl,hj,qM,fE,hG⟩ | ⟨k,l,x,o,c,j,gs,ln,rfl,hj,he,bI⟩);rcases m with _ | m;exact hG.elim;have bA:=ih m Om;simp only[gr] at hG;(conv=>whnf);rotate_left;conv=>whnf)
  | (refine sU (λm s=>(∃k l x o ks acc j ln,s=⟨1,[im sl j false,oN jk,oN (nA k l x o ks),oN (nC 52 ln [] 0 (.own 0 26 5 (cT acc)))]⟩/\j<=ts.length/\m<=f/\2*acc.length<=j+1/\Gd E P (gr ts m (.placesL ln acc) j))\/(∃k l x o gx j gs ln,s=⟨1,[im sl j true,oN jk,oN (gC k l x o gx),oN (nG 52 ln ⟨⟨[]⟩⟩ 0 (.own 0 26 5 gs))]⟩/\j<=ts.length/\E j/\(∀g∈gs,ib g))) f [0] rfl (.inl ⟨_,_,_,_,_,[.mk n1 l1 x1 o1 bW],_,_,rfl,Om,Nat.le_refl _,by simp only[List.length_cons,List.length_nil];omega,hG⟩) ?_;rintro m f1 s (⟨k,l,x,o,ks,acc,j,ln,rfl,hj,qM,fE,hG⟩ | ⟨k,l,x,o,c,j,gs,ln,rfl,hj,he,bI⟩);rcases m with _ | m;exact hG.elim;have bA:=ih m Om;simp only[gr] at hG;simp only[ak8] at hG;(conv=>whnf);rotate_left;conv=>whnf)
  | (refine sU (λm s=>(∃acc j c,Fc acc c/\s=⟨1,[im sl j false,oN jk,oN (nC k ln [] 0 c)]⟩/\j<=ts.length/\m<=f+1/\2*acc.length<=j/\Gd E P (gr ts m (.names k ln acc) j))\/(∃k j gs ln x0,s=⟨1,[im sl j true,oN jk,oN (nG k ln x0 0 (.own 0 26 5 gs))]⟩/\j<=ts.length/\E j/\(∀g∈gs,ib g))) (f+1) [99] rfl (.inl ⟨[],_,_, .inl ⟨rfl,rfl⟩,rfl,Om,Nat.le_refl _,by simp only[List.length_nil];omega,jQ⟩) ?_;rintro m f1 s (⟨acc,j,c,hA,rfl,hj,qM,fE,hG⟩ | ⟨k0,j,gs,Gw,x0,rfl,hj,he,bI⟩);rcases m with _ | m;exact hG.elim;have bA:=ih m Om;simp only[gr] at hG;rcases hA with ⟨rfl,rfl⟩ | ⟨aB,rfl⟩;(conv=>whnf);rotate_left;(conv=>whnf);rotate_left;conv=>whnf)
  | (refine sU (λm s=>(∃acc j c,Fc acc c/\s=⟨1,[im sl j false,oN jk,oN (nC 23 ln [] 0 c)]⟩/\j<=ts.length/\m<=f+1/\2*acc.length<=j/\Gd E P (gr ts m (.params cl ln acc) j))\/(∃k j gs ln x0,s=⟨1,[im sl j true,oN jk,oN (nG k ln x0 0 (.own 0 26 5 gs))]⟩/\j<=ts.length/\E j/\(∀g∈gs,ib g))) (f+1) [99] rfl (.inl ⟨[],_,_, .inl ⟨rfl,rfl⟩,rfl,Om,Nat.le_refl _,by simp only[List.length_nil];omega,jQ⟩) ?_;rintro m f1 s (⟨acc,j,c,hA,rfl,hj,qM,fE,hG⟩ | ⟨k0,j,gs,Gw,x0,rfl,hj,he,bI⟩);rcases m with _ | m;exact hG.elim;have bA:=ih m Om;simp only[gr] at hG;rcases hA with ⟨rfl,rfl⟩ | ⟨aB,rfl⟩;(conv=>whnf);rotate_left;(conv=>whnf);rotate_left;conv=>whnf)
  | (refine HU 5 (λm a s=>(∃acc j c,a= .r (.c c)/\Fc acc c/\s=⟨1,[im sl j false]⟩/\j<=ts.length/\m<=f+1/\2*acc.length<=j/\Gd E P (gr ts m (.row cl acc) j))\/(∃j gs,a= .r (.c (.own 0 26 5 gs))/\s=⟨1,[im sl j true]⟩/\j<=ts.length/\E j/\(∀g∈gs,ib g)/\2*gs.length<=ts.length+2)) (f+1) [99] rfl (.inl ⟨[],_,_,rfl, .inl ⟨rfl,rfl⟩,rfl,Om,Nat.le_refl _,by simp only[List.length_nil];omega,jQ⟩) ?_;rintro m a f1 s (⟨acc,j,c,rfl,hA,rfl,hj,qM,fE,hG⟩ | ⟨j,gs,rfl,rfl,hj,he,bI,tU⟩);rcases m with _ | m;exact hG.elim;have bA:=ih m Om;simp only[gr] at hG;rcases hA with ⟨rfl,rfl⟩ | ⟨aB,rfl⟩;(conv=>whnf);rotate_left;(conv=>whnf);rotate_left;conv=>whnf)
  | (refine HU 3 (λm a s=>(∃acc j c,a= .r (.c c)/\Fc acc c/\s=⟨1,[im sl j false]⟩/\j<=ts.length/\m<=f+1/\2*acc.length<=j/\Gd E P (gr ts m (.clauses acc) j))\/(∃j gs,a= .r (.c (.own 0 26 5 gs))/\s=⟨1,[im sl j true]⟩/\j<=ts.length/\E j/\(∀g∈gs,ib g)/\2*gs.length<=ts.length+2)) (f+1) [99] rfl (.inl ⟨[],_,_,rfl, .inl ⟨rfl,rfl⟩,rfl,Om,Nat.le_refl _,by simp only[List.length_nil];omega,jQ⟩) ?_;rintro m a f1 s (⟨acc,j,c,rfl,hA,rfl,hj,qM,fE,hG⟩ | ⟨j,gs,rfl,rfl,hj,he,bI,tU⟩);rcases m with _ | m;exact hG.elim;have bA:=ih m Om;simp only[gr] at hG;rcases hA with ⟨rfl,rfl⟩ | ⟨aB,rfl⟩;(conv=>whnf);rotate_left;(conv=>whnf);rotate_left;conv=>whnf)
  | (refine sU (λm s=>(∃acc j,s=⟨1,[im sl j false,oN jk,oN (nA n1 l1 x1 o1 bW),oN (nC 42 l1 [] 0 (.own 0 26 5 (cF (.mk n1 l1 x1 o1 bW)::cT acc)))]⟩/\j<=ts.length/\m<=f/\2*acc.length+1<=j/\Gd E P (gr ts m (.cmpL (.mk n1 l1 x1 o1 bW) acc) j))\/(∃j gs ln x0,s=⟨1,[im sl j true,oN jk,oN (nA n1 l1 x1 o1 bW),oN (nG 42 ln x0 0 (.own 0 26 5 gs))]⟩/\j<=ts.length/\E j/\(∀g∈gs,ib g))) f [0] rfl (.inl ⟨[],_,rfl,Om,Nat.le_refl _,by simp only[List.length_nil];omega,hG⟩) ?_;rintro m f1 s (⟨acc,j,rfl,hj,qM,fE,hG⟩ | ⟨j,gs,Gw,x0,rfl,hj,he,bI⟩);rcases m with _ | m;exact hG.elim;have bA:=ih m Om;simp only[gr] at hG;(conv=>whnf);rotate_left;conv=>whnf)
  | (refine sU (λm s=>(∃ke le xe oe kse kv lv xv ov ksv acc j,s=⟨1,[im sl j false,oN jk,oN (nA ke le xe oe kse),oN (nA kv lv xv ov ksv),oN (nC 54 ln [] 0 (.own 0 26 5 (cT acc)))]⟩/\j<=ts.length/\m<=f/\2*acc.length<=j+1/\Gd E P (gr ts m (.zf ln acc) j))\/(∃ke le xe oe ce kv lv xv ov cv j gs,s=⟨1,[im sl j true,oN jk,oN (gC ke le xe oe ce),oN (gC kv lv xv ov cv),oN (nG 54 ln ⟨⟨[]⟩⟩ 0 (.own 0 26 5 gs))]⟩/\j<=ts.length/\E j/\(∀g∈gs,ib g))) f [0] rfl (.inl ⟨_,_,_,_,_,_,_,_,_,_,[_,_],_,rfl,Om,Nat.le_refl _,by simp only[List.length_cons,List.length_nil];omega,hG⟩) ?_;rintro m f1 s (⟨ke,le,xe,oe,kse,kv,lv,xv,ov,ksv,acc,j,rfl,hj,qM,fE,hG⟩ | ⟨ke,le,xe,oe,ce,kv,lv,xv,ov,cv,j,gs,rfl,hj,he,bI⟩);rcases m with _ | m;exact hG.elim;have bA:=ih m Om;simp only[gr] at hG;(conv=>whnf);rotate_left;conv=>whnf)
  | (refine sU (λm s=>(∃k l x o ks acc j ln,s=⟨1,[im sl j false,oN jk,oN (nA k l x o ks),oN (nC 3 ln [] 0 (.own 0 26 5 (cT acc)))]⟩/\j<=ts.length/\m<=f/\acc≠ []/\2*acc.length<=j+1/\Gd E P (gr ts m (.mg ln acc) j))\/(∃k l x o gx j gs ln,s=⟨1,[im sl j true,oN jk,oN (gC k l x o gx),oN (nG 3 ln ⟨⟨[]⟩⟩ 0 (.own 0 26 5 gs))]⟩/\j<=ts.length/\E j/\(∀g∈gs,ib g))) f [0] rfl (.inl ⟨_,_,_,_,_,[.mk n1 l1 x1 o1 bW],_,_,rfl,Om,Nat.le_refl _,Sm,by simp only[List.length_cons,List.length_nil];omega,hG⟩) ?_;rintro m f1 s (⟨k,l,x,o,ks,acc,j,ln,rfl,hj,qM,aB,fE,hG⟩ | ⟨k,l,x,o,c,j,gs,ln,rfl,hj,he,bI⟩);rcases m with _ | m;exact hG.elim;have bA:=ih m Om;obtain⟨⟨k2,l2,x2,o2,rC⟩,G'⟩:=VL aB;simp only[gr,G'] at hG;(conv=>whnf);rotate_left;conv=>whnf)
  | (refine sU (λm s=>(∃acc j c ln,Fc acc c/\s=⟨1,[im sl j false,oN jk,oN (nC 1 ln [] 0 c)]⟩/\j<=ts.length/\m<=f/\2*acc.length<=j/\Gd E P (gr ts m (.zg acc) j))\/(∃j gs ln,s=⟨1,[im sl j true,oN jk,oN (nG 1 ln ⟨⟨[]⟩⟩ 0 (.own 0 26 5 gs))]⟩/\j<=ts.length/\E j/\(∀g∈gs,ib g))) f [99] rfl (.inl ⟨[],_,_,_, .inl ⟨rfl,rfl⟩,rfl,Om,Nat.le_refl _,by simp only[List.length_nil];omega,hG⟩) ?_;rintro m f1 s (⟨acc,j,c,ln,hA,rfl,hj,qM,fE,hG⟩ | ⟨j,gs,Gw,rfl,hj,he,bI⟩);rcases m with _ | m;exact hG.elim;have bA:=ih m Om;simp only[gr] at hG;rcases hA with ⟨rfl,rfl⟩ | ⟨aB,rfl⟩;rotate_left;rcases acc with _ | ⟨⟨k2,l2,x2,o2,rC⟩,acc⟩;exact absurd rfl aB;(try simp only[List.length_cons,List.length_nil] at fE);(conv=>whnf);rotate_left;(try simp only[List.length_cons,List.length_nil] at fE);(conv=>whnf);rotate_left;conv=>whnf)
  | (obtain⟨P2,Fp⟩ : ∃P2:List Nd->Nat->Prop,∀acc j,P2 acc j↔Gd E P (gr ts f (.sV ln acc) j):=⟨_,λ_ _=>Iff.rfl⟩;have hG:Gd E P2 (gr ts f (.p9 [.mk n1 l1 x1 o1 bW]) j1):=(Qk.1 hG).mono (λ_ h=>h) λl j h=>(Fp l j).2 h;refine HU 6 (λm a s=>(∃acc j b,a=rS (.bool b)/\s=⟨1,[im sl j false,oN jk,oN (nC 15 ln [] 0 (.own 0 26 5 (cT acc)))]⟩/\j<=ts.length/\m<=f/\1<=acc.length/\2*acc.length<=j+1/\((b=false/\Gd E P2 (gr ts m (.p9 acc) j))\/(b=true/\P2 acc j)))\/(∃j gs b ln,a=rS (.bool b)/\s=⟨1,[im sl j true,oN jk,oN (nG 15 ln ⟨⟨[]⟩⟩ 0 (.own 0 26 5 gs))]⟩/\j<=ts.length/\E j/\(∀g∈gs,ib g))) f [0] rfl (.inl ⟨[.mk n1 l1 x1 o1 bW],_,false,rfl,rfl,Om,Nat.le_refl _,Nat.le_refl _,by simp only[List.length_cons,List.length_nil];omega, .inl ⟨rfl,hG⟩⟩) ?_;rintro m a f1 s (⟨acc,j,b,rfl,rfl,hj,qM,mi,fE,⟨rfl,hG⟩ | ⟨rfl,hG⟩⟩ | ⟨j,gs,b,Gw,rfl,rfl,hj,he,bI⟩);rcases m with _ | m;exact hG.elim;have bA:=ih m Om;simp only[gr] at hG;(conv=>whnf);rotate_left;have hG:=(Fp _ _).1 hG;rcases f with _ | f;exact hG.elim;simp only[gr] at hG;have bA:=ih f Om;(conv=>whnf);rotate_left;conv=>whnf)
  | (refine sU (λm s=>(∃km lm xm om ksm kl ll xl ol ksl acc j ln,s=⟨1,[im sl j false,oN (nA k l x o ks),oN jk,oN (nA km lm xm om ksm),oN (nA kl ll xl ol ksl),oN (nC 52 ln [] 0 (.own 0 26 5 (cT acc)))]⟩/\j<=ts.length/\m<=f/\2*acc.length<=j+1/\Gd E P (bG (gr ts m (.wJ ln acc) j) λt j2=>bV (nd 46 l [.mk k l x o ks,t]) j2))\/(∃km lm xm om cm kl ll xl ol cl j gs ln,s=⟨1,[im sl j true,oN (nA k l x o ks),oN jk,oN (gC km lm xm om cm),oN (gC kl ll xl ol cl),oN (nG 52 ln ⟨⟨[]⟩⟩ 0 (.own 0 26 5 gs))]⟩/\j<=ts.length/\E j/\(∀g∈gs,ib g))) f [0] rfl (.inl ⟨_,_,_,_,[],_,_,_,_,_,[.mk n1 l1 x1 o1 bW],_,_,rfl,Om,Nat.le_refl _,by simp only[List.length_cons,List.length_nil];omega,hG⟩) ?_;rintro m f1 s (⟨km,lm,xm,om,ksm,kl,ll,xl,ol,ksl,acc,j,ln,rfl,hj,qM,fE,hG⟩ | ⟨km,lm,xm,om,cm,kl,ll,xl,ol,cl,j,gs,ln,rfl,hj,he,bI⟩);have hG:=LP.1 hG;rcases m with _ | m;exact hG.elim;have bA:=ih m Om;simp only[gr] at hG;(conv=>whnf);rotate_left;conv=>whnf)
  | (refine rQ [] rfl ?_;intro f0;conv=>whnf)):Pz:=hz
end
section
open Go Go.RowKit
attribute [local irreducible] TC ap aC jb gK
section
variable {Z:TP} {X:dz} {ts:List PT} {sl:Sl} {f:Nat}
theorem amo(C:cr Z ts sl)(ih : ∀g,g<=f->jn Z X ts sl g):DG Z X ts sl (f+1) .expr 81 [.ptr 0 0]:=by
 intro i Q R E P hi hG hE hQ;have bA:=ih f (ai f);have d:=C.len;have jQ:=hG;simp only[gr] at hG;refine dm dp Rl Kr (aK ?_)
 conv=>whnf
 exact j6
theorem amp(C:cr Z ts sl)(ih : ∀g,g<=f->jn Z X ts sl g):DG Z X ts sl (f+1) .or 115 [.ptr 0 0]:=by
 intro i Q R E P hi hG hE hQ;have bA:=ih f (ai f);have d:=C.len;have jQ:=hG;simp only[gr] at hG;refine dm dp Rl Kr (aK ?_)
 conv=>whnf
 exact j6
theorem amq(C:cr Z ts sl)(ih : ∀g,g<=f->jn Z X ts sl g):DG Z X ts sl (f+1) .not 172 [.ptr 0 0]:=by
 intro i Q R E P hi hG hE hQ;have bA:=ih f (ai f);have d:=C.len;have jQ:=hG;simp only[gr] at hG;refine dm dp Rl Kr (aK ?_)
 conv=>whnf
 exact j6
theorem amr(C:cr Z ts sl)(ih : ∀g,g<=f->jn Z X ts sl g):DG Z X ts sl (f+1) .one 117 [.ptr 0 0]:=by
 intro i Q R E P hi hG hE hQ;have bA:=ih f (ai f);have d:=C.len;have jQ:=hG;simp only[gr] at hG;refine dm dp Rl Kr (aK ?_)
 conv=>whnf
 exact j6
theorem ams(C:cr Z ts sl)(ih : ∀g,g<=f->jn Z X ts sl g):DG Z X ts sl (f+1) .simple 90 [.ptr 0 0]:=by
 intro i Q R E P hi hG hE hQ;have bA:=ih f (ai f);have d:=C.len;have jQ:=hG;simp only[gr] at hG;refine dm dp Rl Kr (aK ?_)
 conv=>whnf
 exact j6
theorem amt(C:cr Z ts sl)(ih : ∀g,g<=f->jn Z X ts sl g):DG Z X ts sl (f+1) .value 153 [.ptr 0 0]:=by
 intro i Q R E P hi hG hE hQ;have bA:=ih f (ai f);have d:=C.len;have jQ:=hG;simp only[gr] at hG;refine dm dp Rl Kr (aK ?_)
 conv=>whnf
 exact j6
theorem amu(C:cr Z ts sl)(ih : ∀g,g<=f->jn Z X ts sl g) : ∀(k:Nat) (ln:Int) (all:Bool),DG Z X ts sl (f+1) (.maybe k ln all) 119 [.ptr 0 0,rS (.int .i64 (k:Nat)),rS (.int .i64 ln),rS (.bool all)]:=by
 intro k ln all i Q R E P hi hG hE hQ;have bA:=ih f (ai f);have d:=C.len;simp only[gr] at hG;cases all;all_goals simp only[Bool.false_eq_true,iF,iT] at hG
 all_goals
  refine dm dp Rl Kr (aK ?_)
  conv=>whnf
  exact j6
theorem amv(C:cr Z ts sl)(ih : ∀g,g<=f->jn Z X ts sl g) : ∀(ln:Int),DG Z X ts sl (f+1) (.tries ln) 89 [.ptr 0 0,rS (.int .i64 ln)]:=by
 intro ln i Q R E P hi hG hE hQ;have bA:=ih f (ai f);have d:=C.len;have jQ:=hG;simp only[gr] at hG;refine dm dp Rl Kr (aK ?_)
 conv=>whnf
 exact j6
end
end
section
open Go Go.RowKit
attribute [local irreducible] TC ap aC jb gK
section
variable {Z:TP} {X:dz} {ts:List PT} {sl:Sl} {f:Nat}
theorem amw(C:cr Z ts sl)(ih : ∀g,g<=f->jn Z X ts sl g):DG Z X ts sl (f+1) .and 149 [.ptr 0 0]:=by
 intro i Q R E P hi hG hE hQ;have bA:=ih f (ai f);have d:=C.len;have jQ:=hG;simp only[gr] at hG;refine dm dp Rl Kr (aK ?_)
 conv=>whnf
 exact j6
theorem amx(C:cr Z ts sl)(ih : ∀g,g<=f->jn Z X ts sl g):DG Z X ts sl (f+1) .rR 202 [.ptr 0 0]:=by
 intro i Q R E P hi hG hE hQ;have bA:=ih f (ai f);have d:=C.len;have jQ:=hG;simp only[gr] at hG;refine dm dp Rl Kr (aK ?_)
 conv=>whnf
 exact j6
theorem amy(C:cr Z ts sl)(ih : ∀g,g<=f->jn Z X ts sl g):DG Z X ts sl (f+1) .atom 151 [.ptr 0 0]:=by
 intro i Q R E P hi hG hE hQ;have bA:=ih f (ai f);have n:=C.len;simp only[gr] at hG;refine dm dp Rl Kr (aK ?_)
 conv=>whnf
 refine lq C Om ?_;obtain⟨t,ht⟩ : ∃t,aC ts i=t:=⟨_,rfl⟩;have d:(aC ts i).kind≠0->i<ts.length:=zh;rw[ht] at hG d⊢;obtain⟨kd,lt,xt⟩:=t;by_cases hk:4<=kd/\kd<=7
 ·have hl:i<ts.length:=d (by show kd≠0;omega);rw[iP hk] at hG;obtain rfl | rfl | rfl | rfl:kd=4\/kd=5\/kd=6\/kd=7:=by omega
  all_goals
   conv=>whnf
   refine amj hk.1 hk.2 ?_;conv=>whnf
   repeat (refine⟨rfl,?_⟩;conv=>whnf)
   exact VZ rfl (Ww C hl) (hQ _ _ hG Om)
 rw[iN hk] at hG;conv=>whnf
 exact j6
theorem amz(C:cr Z ts sl)(ih : ∀g,g<=f->jn Z X ts sl g):DG Z X ts sl (f+1) .stmt 45 [.ptr 0 0]:=by
 intro i Q R E P hi hG hE hQ;have bA:=ih f (ai f);have d:=C.len;have jQ:=hG;simp only[gr] at hG;refine dm dp Rl Kr (aK ?_)
 conv=>whnf
 exact j6
theorem amA(C:cr Z ts sl)(ih : ∀g,g<=f->jn Z X ts sl g) : ∀(cl:List UInt8) (ln:Int),cl≠ []->DG Z X ts sl (f+1) (.params cl ln []) 87 [.ptr 0 0,rS (.int .i64 ln),rS (.string ⟨⟨cl⟩⟩)]:=by
 intro cl ln cl_ne i Q R E P hi hG hE hQ;have bA:=ih f (ai f);have d:=C.len;have jQ:=hG;simp only[gr] at hG;refine dm dp Rl Kr (aK ?_)
 conv=>whnf
 exact j6
theorem amB(C:cr Z ts sl)(ih : ∀g,g<=f->jn Z X ts sl g) : ∀(k:Nat) (ln:Int),DG Z X ts sl (f+1) (.names k ln []) 120 [.ptr 0 0,rS (.int .i64 (k:Nat)),rS (.int .i64 ln)]:=by
 intro k ln i Q R E P hi hG hE hQ;have bA:=ih f (ai f);have d:=C.len;have jQ:=hG;simp only[gr] at hG;refine dm dp Rl Kr (aK ?_)
 conv=>whnf
 exact j6
end
end
end Can
end Go.Proofs.YticlaccbodpkeaaGreatDoor
