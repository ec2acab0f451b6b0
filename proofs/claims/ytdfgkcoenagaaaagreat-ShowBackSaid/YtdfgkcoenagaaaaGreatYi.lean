/- The round trip: pe prints the pieces, rule by rule. No program in sight. (Printed by tools/genpp.py.). The round trip: gr answers trees as XRtW says. No program in sight. The round trip: a source's tokens are tokens; a source's tree is as XRtW says. No program in sight. The round trip: what Show prints of a source's tree. No program in sight. The round trip: where pieces stand among tokens; what the grammar answers at last. No program in sight. The round trip: expressions and statements by their forms; what is claimed of each rule's pieces. No program in sight. The round trip: what stands where a rule's pieces stand, and what the grammar answers there: lists. No program in sight. The round trip: the grammar reads the pieces of an expression. No program in sight. The round trip: the grammar reads the pieces of calls, displays, operators. No program in sight. The round trip: the grammar reads the pieces of displays and operators. No program in sight. The round trip: the grammar reads the pieces of operators; so of any expression. No program in sight. The round trip: statements by their forms; the grammar reads the pieces of a simple statement. No program in sight. The round trip: the grammar reads the pieces of a simple statement. No program in sight. The round trip: the grammar reads the pieces of statements. No program in sight. The round trip: the grammar reads the pieces of a tree, and answers that tree. No program in sight. The round trip: the grammar reads the pieces of a -/
import Derived.Test.YtdfgkcoenagaaaaGreatYa
import Derived.Test.YtdfgkcoenagaaaaGreatYh
import Derived.Test.YtdfgkcoenagaaaaGreatYe
import Derived.Test.YtdfgkcoenagaaaaGreatYg
import Derived.Test.YtdfgkcoenagaaaaGreatYf
open Bool renaming and_eq_true → eY, false_eq_true → aM, not_eq_true' → xj, or_eq_true → zl
open Go.IntKind renaming wrap → vW
open List renaming append_assoc → aG, append_nil → cp, cons_append → aS, drop_left' → AS, eq_of_mem_replicate → Ty, getLast?_cons_cons → iu, getLast?_singleton → gS, length_append → bW, length_cons → ay, length_nil → aF, mem_append → fo, mem_cons → js, mem_singleton → vV, nil_append → a6, not_mem_nil → zo, singleton_append → xx, take_append_drop → xu, take_left' → Dg, take_succ_cons → Jt
open Nat renaming add_comm → CX, le_refl → ag, not_lt_zero → tj, zero_le → eZ
open Option renaming map_eq_some_iff → jT
open UInt8 renaming ofNat → al
set_option maxHeartbeats 40000000
set_option linter.unusedSimpArgs false
set_option linter.unusedVariables false
namespace Go.Proofs.YtdfgkcoenagaaaaGreat
namespace Can
section
def eI (n:Nd):Prop:=fg n/\(eK n\/n.kind=48\/n.kind=60)
def oF (l:List Nd):Prop:=∀n∈l,eI n
theorem MQ{n:Nd}{l:List Nd}(h:oF (n::l)):eI n/\oF l:=⟨h n s0,λm b=>h m (by simp[b])⟩
def SR.dC:SR->Prop
 | .at n _ | .expr n=>eI n
 | .dJ n=>fg n/\(n.kind=37\/n.kind=38\/n.kind=39\/n.kind=40\/n.kind=41\/n.kind=42\/n.kind=49\/n.kind=50)
 | .dB n=>fg n/\44<=n.kind/\n.kind<=47
 | .shown n=>fg n/\51<=n.kind/\n.kind<=57
 | .two n _ s _=>∃a b,n.kids= [a,b]/\eI a/\eI b
 | .maybe s n=>n.kids= []\/∃a,n.kids= [a]/\eI a
 | .bc _ l | .bF _ l=>oF l
 | .bO _ l=>oF l/\l.length % 2=0
 | .clauses l=>ef l/\sW l
 | .cV l=>ef l/\∀n∈l,n.kind=43
 | .block n=>fg n/\n.kind=1
 | .a9 l=>ef l/\∀n∈l,sK n
 | .ifs s n=>fg n/\n.kind=5/\(s= [105,102,32]\/s= [101,108,105,102,32])
 | .tries n=>fg n/\n.kind=15
 | .cQ l=>ef l/\∀n∈l,n.kind=21\/n.kind=22
 | .stmt n=>fg n/\sK n
 | .head n=>fg n/\(n.kind=6\/n.kind=7\/n.kind=8\/n.kind=9\/n.kind=16)
 | .simple n=>fg n/\sK n/\¬(n.kind=5\/n.kind=15\/n.kind=6\/n.kind=7\/n.kind=8\/n.kind=9\/n.kind=16)
theorem alD{c:Nd}(h:fg c)(hk:c.kind=59) : ∃a,c.kids= [a]/\eI a:=by
 obtain⟨k,l,x,o,ks⟩:=c;have hk:k=59:=hk;subst hk;obtain⟨h1,h2⟩:=h;simp[bU] at h1;obtain⟨_,_,a,rfl,ha⟩:=h1;exact⟨a,rfl,h2.1, .inl ha⟩
theorem alE{c:Nd}(h:fg c)(hk:c.kind=58) : ∃a b,c.kids= [a,b]/\eI a/\eI b:=by
 obtain⟨k,l,x,o,ks⟩:=c;have hk:k=58:=hk;subst hk;obtain⟨h1,h2⟩:=h;simp[bU] at h1;obtain⟨_,_,a,b,rfl,ha,_,hb⟩:=h1;exact⟨a,b,rfl,⟨h2.1, .inl ha⟩,⟨h2.2.1, .inl hb⟩⟩
theorem alF{c:Nd}(h:fg c)(hk:c.kind=43):(∃a,c.kids= [a]/\eI a)/\1<=c.op/\c.op<=10:=by
 obtain⟨k,l,x,o,ks⟩:=c;have hk:k=43:=hk;subst hk;obtain⟨h1,h2⟩:=h;simp[bU] at h1;obtain⟨_,h3,h4,a,rfl,ha⟩:=h1;exact⟨⟨a,rfl,h2.1, .inl ha⟩,h3,h4⟩
theorem alG{a b:Nd}(ga:eI a)(c:eI b):SR.dC (.bO false [a,b]):=by
 refine⟨λn hn=> ?_,s0⟩;rcases List.mem_cons.1 hn with rfl | hn
 ·exact ga
 rw[List.mem_singleton.1 hn];exact c
theorem alH{c:Prop}[Decidable c](x:List UInt8):bf [sy [40], .tk (if c then 5 else 6) x,sy [41]]= [40]++x++ [41]:=by
 by_cases h:c<;>simp[bf,Pc.tx,h]
theorem IP : ∀ks:List Nd,ks.length<=aq ks
 | []=>ag _
 | n::ks=>by
   have:=IP ks;simp only[ay,aq,aL];omega
theorem IQ : ∀ {ks:List Nd},ef ks->∀n∈ks,fg n
 | [],_,n,hn=>by cases hn
 | a::ks,h,n,hn=>by
   rcases List.mem_cons.1 hn with rfl | hn
   ·exact h.1
   exact IQ h.2 n hn
theorem Fc{ks:List Nd}(h:ef ks)(g:nO ks):oF ks:=λn hn=>⟨IQ h n hn, .inl (g n hn)⟩
theorem aa'{l:Int}{x:List UInt8}{o:Nat}{ks:List Nd}(h:fg (.mk 23 l x o ks)):oF ks:=by
 obtain⟨h1,h2⟩:=h;simp[bU] at h1;obtain⟨_,_,h3⟩:=h1;intro n hn;have hw : ∀ {ks:List Nd},ef ks->∀n∈ks,fg n:=by
  intro ks;induction ks with
  | nil=>intro _ n hn;cases hn
  | cons a ks ih=>
    intro h n hn;rcases List.mem_cons.1 hn with rfl | hn
    ·exact h.1
    exact ih h.2 n hn
 exact⟨hw h2 n hn, .inl ⟨by rw[h3 n hn];omega,by rw[h3 n hn];omega,by rw[h3 n hn];decide,by rw[h3 n hn];decide⟩⟩
theorem alI{l:Int}{x:List UInt8}{o:Nat}{ks:List Nd}(h:fg (.mk 24 l x o ks)):oF ks:=by
 obtain⟨h1,h2⟩:=h;simp[bU] at h1;exact Fc h2 h1.2.2
theorem jt{p:Prop}(h:p:=by
 refine Sn (d:=d) (n:=0) ?_;repeat' (first
  | with_reducible refine IN ih ?_ ?_ ?_ ?_
  | with_reducible refine Sk ih ?_ ?_ ?_ ?_
  | with_reducible refine Si ?_ ?_
  | with_reducible refine Fb ?_ ?_
  | with_reducible refine Sj ?_ ?_
  | with_reducible refine aly ?_ ?_
  | with_reducible refine y7 hb hd ?_)
 all_goals first | rfl | assumption | omega | (simp only[rW,List.length_append,List.length_nil,Sg,Nat.add_zero,Nat.zero_add] at hw⊢;omega) | (simp only[SR.me,aq,aL,Nd.kids] at hm⊢;omega) | exact ho | exact g1 | exact g2 | exact g3 | exact g4 | exact g5 | exact ga | exact gb | exact gc | exact ge | exact gl | exact gp | exact gy | exact hsx | (rw[alz];simp;done) | (simp[bf,Pc.tx];done) | (rw[alH];simp;done) | (simp only[SR.me,hk,aq,aL] at hm⊢;omega) | (simp only[SR.me,Cs,aq,aL] at hm⊢;omega)):p:=h
theorem jh{p q:Prop}(h:p)(k:p->q:=by
 intro h;simp only[pp,pe,aE,dy,fx,am,Nat.reduceEqDiff,true_or,or_true,or_false,false_or,or_self,and_true,true_and,and_self,false_and,and_false,↓reduceIte,<-List.append_assoc] at h;exact h):q:=k h
theorem jg{p q:Prop}(k:q)(h:q->p:=by
 intro k;simp only[pp,pe,aE,dy,fx,am,Nat.reduceEqDiff,true_or,or_true,or_false,false_or,or_self,and_true,true_and,and_self,false_and,and_false,↓reduceIte,<-List.append_assoc];exact k):p:=h k
section
variable {f:Nat} (ih:MP SR.dC f) (st:aA) (d:Nat)
include ih in
theorem alJ(n:Nd)(a:Nat)(b:d+(f+1)<=20000000)(ho:SR.dC (.at n a))(hm:SR.me (.at n a)<f+1)(hb:st.bad=false)(hd:st.deep=d)(hw:st.w+(bf (pp (f+1) (.at n a) d)).length<=20000):Pr st (pe (f+1) (.at n a) st) (pp (f+1) (.at n a) d):=by
 simp only[pp,pe] at hw⊢
 by_cases hc:gz n<a
 ·simp only[hc,↓reduceIte] at hw⊢;exact jt
 simp only[hc,↓reduceIte] at hw⊢;exact jt
include ih in
theorem alK(b:Bool)(l:List Nd)(c:d+(f+1)<=20000000)(ho:SR.dC (.bc b l))(hm:SR.me (.bc b l)<f+1)(hb:st.bad=false)(hd:st.deep=d)(hw:st.w+(bf (pp (f+1) (.bc b l) d)).length<=20000):Pr st (pe (f+1) (.bc b l) st) (pp (f+1) (.bc b l) d):=by
 rcases l with _ | ⟨n,l⟩
 ·simp only[pp,pe] at hw⊢;exact Pr.refl st
 obtain⟨g1,g2⟩:=MQ ho;cases b;all_goals
  simp only[pp,pe,aM,↓reduceIte,a6] at hw⊢;exact jt
include ih in
theorem alL(b:Bool)(l:List Nd)(c:d+(f+1)<=20000000)(ho:SR.dC (.bF b l))(hm:SR.me (.bF b l)<f+1)(hb:st.bad=false)(hd:st.deep=d)(hw:st.w+(bf (pp (f+1) (.bF b l) d)).length<=20000):Pr st (pe (f+1) (.bF b l) st) (pp (f+1) (.bF b l) d):=by
 rcases l with _ | ⟨n,l⟩
 ·simp only[pp,pe] at hw⊢;exact Pr.refl st
 obtain⟨g1,g2⟩:=MQ ho;cases b;all_goals
  simp only[pp,pe,aM,↓reduceIte,a6] at hw⊢;exact jt
include ih in
theorem alM(n:Nd)(l:Nat)(s:List UInt8)(r:Nat)(c:d+(f+1)<=20000000)(ho:SR.dC (.two n l s r))(hm:SR.me (.two n l s r)<f+1)(hb:st.bad=false)(hd:st.deep=d)(hw:st.w+(bf (pp (f+1) (.two n l s r) d)).length<=20000):Pr st (pe (f+1) (.two n l s r) st) (pp (f+1) (.two n l s r) d):=by
 obtain⟨a,b,hk,g1,g2⟩:=ho;simp only[pp,pe,hk] at hw⊢;rw[gX hb s0 s0];exact jt
include ih in
theorem alN(s:List UInt8)(n:Nd)(b:d+(f+1)<=20000000)(ho:SR.dC (.maybe s n))(hm:SR.me (.maybe s n)<f+1)(hb:st.bad=false)(hd:st.deep=d)(hw:st.w+(bf (pp (f+1) (.maybe s n) d)).length<=20000):Pr st (pe (f+1) (.maybe s n) st) (pp (f+1) (.maybe s n) d):=by
 rcases ho with hk | ⟨a,hk,g1⟩
 ·simp only[pp,pe,hk] at hw⊢;exact jt
 simp only[pp,pe,hk] at hw⊢;exact jt
include ih in
theorem alO(b:Bool)(l:List Nd)(c:d+(f+1)<=20000000)(ho:SR.dC (.bO b l))(hm:SR.me (.bO b l)<f+1)(hb:st.bad=false)(hd:st.deep=d)(hw:st.w+(bf (pp (f+1) (.bO b l) d)).length<=20000):Pr st (pe (f+1) (.bO b l) st) (pp (f+1) (.bO b l) d):=by
 rcases l with _ | ⟨n,_ | ⟨m,l⟩⟩
 ·simp only[pp,pe] at hw⊢;exact Pr.refl st
 ·exact absurd ho.2 s0
 obtain⟨g1,g2⟩:=MQ ho.1;obtain⟨g3,g4⟩:=MQ g2;have g5:SR.dC (.bO true l):=⟨g4,by have:=ho.2;simp only[ay] at this;omega⟩;cases b;all_goals
  simp only[pp,pe,aM,↓reduceIte,a6] at hw⊢;exact jt
include ih in
theorem alP(l:List Nd)(e:d+(f+1)<=20000000)(ho:SR.dC (.clauses l))(hm:SR.me (.clauses l)<f+1)(hb:st.bad=false)(hd:st.deep=d)(hw:st.w+(bf (pp (f+1) (.clauses l) d)).length<=20000):Pr st (pe (f+1) (.clauses l) st) (pp (f+1) (.clauses l) d):=by
 rcases l with _ | ⟨c,l⟩
 ·simp only[pp,pe] at hw⊢;exact Pr.refl st
 obtain⟨⟨g1,g2⟩,g3⟩:=ho;have g4:SR.dC (.clauses l):=⟨g2,λm hm=>g3 m (by simp[hm])⟩;by_cases hk:c.kind=59
 ·obtain⟨a,Cs,ga⟩:=alD g1 hk;simp only[pp,pe,hk,Cs,↓reduceIte,<-aG] at hw⊢;rw[gX hb s0 s0];exact jt
 obtain⟨a,b,Cs,ga,gb⟩:=alE g1 ((g3 c s0).resolve_right hk);simp only[pp,pe,hk,Cs,↓reduceIte,<-aG] at hw⊢;rw[gX hb s0 s0];exact jt
include ih in
theorem alQ(l:List Nd)(v:d+(f+1)<=20000000)(ho:SR.dC (.cV l))(b:SR.me (.cV l)<f+1)(hb:st.bad=false)(hd:st.deep=d)(hw:st.w+(bf (pp (f+1) (.cV l) d)).length<=20000):Pr st (pe (f+1) (.cV l) st) (pp (f+1) (.cV l) d):=by
 rcases l with _ | ⟨c,l⟩
 ·simp only[pp,pe] at hw⊢;exact Pr.refl st
 obtain⟨⟨o,q⟩,g⟩:=ho;have t:SR.dC (.cV l):=⟨q,λm b=>g m (by simp[b])⟩;obtain⟨⟨a,k,ga⟩,o1,o2⟩:=alF o (g c s0);simp only[pp,pe,k] at hw⊢;have e : [Pc.sp]++vF c.op++ [Pc.sp]++pp f (.at a 5) d++pp f (.cV l) d=([Pc.sp]++vF c.op++ [Pc.sp])++pp f (.at a 5) d++pp f (.cV l) d:=rfl;have hx:([kK,jP wZ c.op,kK]:List (List UInt8)).flatten=bf ([Pc.sp]++vF c.op++ [Pc.sp]):=by
  rw[rW,rW,alA o1 o2];simp[bf,Pc.tx]
 generalize [Pc.sp]++vF c.op++ [Pc.sp]=u at hw hx⊢
 have h1:Jp st (aV [kK,jP wZ c.op,kK] st) u d ((bf (pp f (.at a 5) d)).length+((bf (pp f (.cV l) d)).length+0)):=by
  refine Fb hx (y7 hb hd ?_);simp only[rW,bW] at hw;omega
 rw[gX h1.bad s0 s0];refine Sn (d:=d) (n:=0) (IN ih Om t ?_ (IN ih Om ga ?_ h1));all_goals (simp only[SR.me,k,aq,aL] at b⊢;omega)
include ih in
theorem alR(n:Nd)(D:d+(f+1)<=20000000)(ho:SR.dC (.expr n))(hm:SR.me (.expr n)<f+1)(hb:st.bad=false)(hd:st.deep=d)(hw:st.w+(bf (pp (f+1) (.expr n) d)).length<=20000):Pr st (pe (f+1) (.expr n) st) (pp (f+1) (.expr n) d):=by
 obtain⟨k,ln,x,o,ks⟩:=n;have E:16*aq ks+5<f+1:=hm;simp only[pp,pe,Nd.kind,Nd.text] at hw⊢
 by_cases e:k=30
 ·subst e;simp only[Nat.reduceEqDiff,true_or,or_true,↓reduceIte] at hw⊢;exact jt
 by_cases g:k=31
 ·subst g;simp only[Nat.reduceEqDiff,true_or,or_true,or_false,false_or,↓reduceIte] at hw⊢;exact jt
 by_cases q:k=36
 ·subst q;simp only[Nat.reduceEqDiff,true_or,or_true,or_false,false_or,↓reduceIte] at hw⊢;exact jt
 by_cases t:k=32
 ·subst t;simp only[Nat.reduceEqDiff,true_or,or_true,or_false,false_or,or_self,↓reduceIte] at hw⊢;exact alv hb hw
 by_cases u:k=33
 ·subst u;simp only[Nat.reduceEqDiff,true_or,or_true,or_false,false_or,or_self,↓reduceIte] at hw⊢;exact jt
 by_cases v:k=34
 ·subst v;simp only[Nat.reduceEqDiff,true_or,or_true,or_false,false_or,or_self,↓reduceIte] at hw⊢;exact jt
 by_cases y:k=35
 ·subst y;simp only[Nat.reduceEqDiff,true_or,or_true,or_false,false_or,or_self,↓reduceIte] at hw⊢;exact jt
 by_cases b:k=48
 ·subst b;simp only[Nat.reduceEqDiff,true_or,or_true,or_false,false_or,or_self,↓reduceIte] at hw⊢;exact Pr.refl st
 by_cases c:k=60
 ·subst c;have g1:SR.dC (.maybe [121,105,101,108,100] (.mk 60 ln x o ks)):=by
   obtain⟨⟨g1,g2⟩,_⟩:=ho;simp[bU] at g1;obtain⟨_,_,g1⟩:=g1;rcases g1 with rfl | ⟨a,rfl,ga⟩
   ·exact .inl rfl
   exact .inr ⟨a,rfl,g2.1, .inl ga⟩
  simp only[Nat.reduceEqDiff,true_or,or_true,or_false,false_or,or_self,↓reduceIte] at hw⊢;exact ih _ st d Om g1 (by simp only[SR.me,Nd.kids];omega) hb hd hw
 by_cases z:k=44\/k=45\/k=46\/k=47
 ·have g1:SR.dC (.dB (.mk k ln x o ks)):=⟨ho.1,by show 44<=k;omega,by show k<=47;omega⟩;simp only[e,g,q,t,u,v,y,b,c,z,or_self,↓reduceIte] at hw⊢;exact ih _ st d Om g1 (by simp only[SR.me,Nd.kids];omega) hb hd hw
 by_cases A:k=51\/k=52\/k=53\/k=54\/k=55\/k=56\/k=57
 ·have g1:SR.dC (.shown (.mk k ln x o ks)):=⟨ho.1,by show 51<=k;omega,by show k<=57;omega⟩;simp only[e,g,q,t,u,v,y,b,c,z,A,or_self,↓reduceIte] at hw⊢;exact ih _ st d Om g1 (by simp only[SR.me,Nd.kids];omega) hb hd hw
 have g1:SR.dC (.dJ (.mk k ln x o ks)):=by
  refine⟨ho.1,?_⟩;rcases ho.2 with ⟨e1,B,C,F⟩ | e1 | e1
  ·have e1:30<=k:=e1;have B:k<=57:=B;have C:k≠43:=C;show k=37\/k=38\/k=39\/k=40\/k=41\/k=42\/k=49\/k=50;omega
  ·exact absurd e1 b
  exact absurd e1 c
 simp only[e,g,q,t,u,v,y,b,c,z,A,or_self,↓reduceIte] at hw⊢;exact ih _ st d Om g1 (by simp only[SR.me,Nd.kids];omega) hb hd hw
include ih in
theorem alS(B:f<=16000000)(n:Nd)(C:d+(f+1)<=20000000)(ho:SR.dC (.dJ n))(hm:SR.me (.dJ n)<f+1)(hb:st.bad=false)(hd:st.deep=d)(hw:st.w+(bf (pp (f+1) (.dJ n) d)).length<=20000):Pr st (pe (f+1) (.dJ n) st) (pp (f+1) (.dJ n) d):=by
 have y : ∀ks:List Nd,16*aq ks<f+1->ks.length<=1048576:=λks h=>by have:=IP ks;omega
 obtain⟨k,ln,x,o,ks⟩:=n;have hk:k=37\/k=38\/k=39\/k=40\/k=41\/k=42\/k=49\/k=50:=ho.2;rcases hk with rfl | rfl | rfl | rfl | rfl | rfl | rfl | rfl
 ·
  obtain⟨⟨g1,g2⟩,_⟩:=ho;simp[bU] at g1;obtain⟨rfl,o1,o2,a,b,rfl,ha,g⟩:=g1;have ga:eI a:=⟨g2.1, .inl ha⟩;have gb:eI b:=⟨g2.2.1, .inl g⟩;replace hw:=jh hw;refine jg ?_;have gt : ∀l s r,SR.dC (.two (.mk 37 ln [] o [a,b]) l s r):=λ_ _ _=>⟨a,b,rfl,ga,gb⟩;by_cases v:o=7
  ·subst v;simp only[↓reduceIte] at hw⊢;exact ih _ st d Om (gt _ _ _) Mk hb hd hw
  simp only[v,↓reduceIte] at hw⊢;exact ih _ st d Om (gt _ _ _) Mk hb hd hw
 ·
  obtain⟨⟨g1,g2⟩,_⟩:=ho;simp[bU] at g1;obtain⟨rfl,o1,a,rfl,ha⟩:=g1;have ga:eI a:=⟨g2.1, .inl ha⟩;replace hw:=jh hw;refine jg ?_;rw[gX hb s0 s0];rcases o1 with rfl | rfl
  all_goals
   simp only[Nat.reduceEqDiff,↓reduceIte] at hw⊢;exact jt
 ·
  obtain⟨⟨g1,g2⟩,_⟩:=ho;simp[bU] at g1;obtain⟨rfl,rfl,a,b,rfl,ha,g⟩:=g1;have ga:eI a:=⟨g2.1, .inl ha⟩;have gb:eI b:=⟨g2.2.1, .inl g⟩;replace hw:=jh hw;refine jg ?_;exact ih _ st d Om ⟨a,b,rfl,ga,gb⟩ Mk hb hd hw
 ·
  obtain⟨⟨g1,g2⟩,_⟩:=ho;simp[bU] at g1;obtain⟨rfl,rfl,a,b,rfl,ha,g⟩:=g1;have ga:eI a:=⟨g2.1, .inl ha⟩;have gb:eI b:=⟨g2.2.1, .inl g⟩;replace hw:=jh hw;refine jg ?_;exact ih _ st d Om ⟨a,b,rfl,ga,gb⟩ Mk hb hd hw
 ·
  obtain⟨⟨g1,g2⟩,_⟩:=ho;simp[bU] at g1;obtain⟨rfl,rfl,a,rfl,ha⟩:=g1;have ga:eI a:=⟨g2.1, .inl ha⟩;replace hw:=jh hw;refine jg ?_;rw[gX hb s0 s0];exact jt
 ·
  obtain⟨⟨g1,g2⟩,_⟩:=ho;simp[bU] at g1;obtain⟨rfl,rfl,a,l,rfl,ha,hl,u⟩:=g1;have ga:eI a:=⟨g2.1, .inl ha⟩;have gl:SR.dC (.cV l):=⟨g2.2,u⟩;have D:1<=l.length:=by cases l with | nil=>exact absurd rfl hl | cons=>simp
  have z:(a::l).length<=1048576:=y _ (by have E:16*aq (a::l)+4<f+1:=hm;omega);replace hw:=jh hw;refine jg ?_;rw[gX hb (by simp only[ay];omega) z];exact jt
 ·
  obtain⟨⟨g1,g2⟩,_⟩:=ho;simp[bU] at g1;obtain⟨rfl,rfl,c,a,b,rfl,hc,ha,g⟩:=g1;have gc:eI c:=⟨g2.1, .inl hc⟩;have ga:eI a:=⟨g2.2.1, .inl ha⟩;have gb:eI b:=⟨g2.2.2.1, .inl g⟩;replace hw:=jh hw;refine jg ?_;rw[gX hb s0 s0];exact jt
 
 obtain⟨⟨g1,g2⟩,_⟩:=ho;simp[bU] at g1;obtain⟨rfl,rfl,p,e,rfl,hp,he⟩:=g1;have ge:eI e:=⟨g2.2.1, .inl he⟩;obtain⟨A,F,G,op,t⟩:=p;have hp:A=23:=hp;subst hp;have gp:oF t:=aa' g2.1;replace hw:=jh hw;refine jg ?_;rw[gX hb s0 s0];by_cases hl:0<t.length
 ·simp only[hl,↓reduceIte] at hw⊢;exact jt
 simp only[hl,↓reduceIte,cp] at hw⊢;exact jt
include ih in
theorem alT(v:f<=16000000)(n:Nd)(y:d+(f+1)<=20000000)(ho:SR.dC (.dB n))(hm:SR.me (.dB n)<f+1)(hb:st.bad=false)(hd:st.deep=d)(hw:st.w+(bf (pp (f+1) (.dB n) d)).length<=20000):Pr st (pe (f+1) (.dB n) st) (pp (f+1) (.dB n) d):=by
 have g : ∀ks:List Nd,16*aq ks<f+1->ks.length<=1048576:=λks h=>by have:=IP ks;omega
 obtain⟨k,ln,x,o,ks⟩:=n;have hk:k=44\/k=45\/k=46\/k=47:=by
  have h1:44<=k:=ho.2.1;have h2:k<=47:=ho.2.2;omega
 rcases hk with rfl | rfl | rfl | rfl
 ·
  obtain⟨⟨g1,g2⟩,_⟩:=ho;simp[bU] at g1;obtain⟨rfl,rfl,a,l,rfl,ha,hl⟩:=g1;have ga:eI a:=⟨g2.1, .inl ha⟩;have gl:oF l:=Fc g2.2 hl;replace hw:=jh hw;refine jg ?_;have e:=g (a::l) (by have t:16*aq (a::l)+4<f+1:=hm;omega);rw[gX hb s0 e];exact jt
 ·
  obtain⟨⟨g1,g2⟩,_⟩:=ho;simp[bU] at g1;obtain⟨ht,rfl,a,rfl,ha⟩:=g1;have ga:eI a:=⟨g2.1, .inl ha⟩;replace hw:=jh hw;refine jg ?_;have e:=g [a] (by have t:16*aq [a]+4<f+1:=hm;omega);rw[gX hb s0 e];by_cases h3:a.kind=30\/a.kind=31
  ·simp only[h3,↓reduceIte] at hw⊢;exact jt
  simp only[h3,↓reduceIte] at hw⊢;exact jt
 ·
  obtain⟨⟨g1,g2⟩,_⟩:=ho;simp[bU] at g1;obtain⟨rfl,rfl,a,b,rfl,ha,u⟩:=g1;have ga:eI a:=⟨g2.1, .inl ha⟩;have gb:eI b:=⟨g2.2.1, .inl u⟩;replace hw:=jh hw;refine jg ?_;have e:=g [a,b] (by have t:16*aq [a,b]+4<f+1:=hm;omega);rw[gX hb s0 e];have h1:Jp st (pe f (.at a 9) st) (pp f (.at a 9) d) d ((bf ([sy [91]]++pp f (.at b 0) d++ [sy [93]])).length+0):=by
   refine Sk ih Om ga (by simp only[SR.me,Nd.kids,aq,aL] at hm⊢;omega) (y7 hb hd ?_);simp only[rW,bW] at hw⊢;omega
  rw[gX h1.bad s0 s0];exact jt
 
 obtain⟨⟨g1,g2⟩,_⟩:=ho;simp[bU] at g1;obtain⟨rfl,rfl,a,b,c,rfl,ha,u,hc⟩:=g1;have ga:eI a:=⟨g2.1, .inl ha⟩;have gb:eI b:=⟨g2.2.1,u.elim .inl λh=> .inr (.inl h)⟩;have gc:eI c:=⟨g2.2.2.1,hc.elim .inl λh=> .inr (.inl h)⟩;replace hw:=jh hw;refine jg ?_;have e:=g [a,b,c] (by have t:16*aq [a,b,c]+4<f+1:=hm;omega);rw[gX hb s0 e];have h1:Jp st (pe f (.at a 9) st) (pp f (.at a 9) d) d ((bf ([sy [91]]++pp f (.at b 0) d++ [sy [58]]++pp f (.at c 0) d++ [sy [93]])).length+0):=by
  refine Sk ih Om ga (by simp only[SR.me,Nd.kids,aq,aL] at hm⊢;omega) (y7 hb hd ?_);simp only[rW,bW] at hw⊢;omega
 rw[gX h1.bad s0 s0];exact jt
include ih in
theorem alU(v:f<=16000000)(n:Nd)(y:d+(f+1)<=20000000)(ho:SR.dC (.shown n))(hm:SR.me (.shown n)<f+1)(hb:st.bad=false)(hd:st.deep=d)(hw:st.w+(bf (pp (f+1) (.shown n) d)).length<=20000):Pr st (pe (f+1) (.shown n) st) (pp (f+1) (.shown n) d):=by
 have e : ∀ks:List Nd,16*aq ks<f+1->ks.length<=1048576:=λks h=>by have:=IP ks;omega
 obtain⟨k,ln,x,o,ks⟩:=n;have hk:k=51\/k=52\/k=53\/k=54\/k=55\/k=56\/k=57:=by
  have h1:51<=k:=ho.2.1;have h2:k<=57:=ho.2.2;omega
 rcases hk with rfl | rfl | rfl | rfl | rfl | rfl | rfl
 ·
  obtain⟨⟨g1,g2⟩,_⟩:=ho;simp[bU] at g1;obtain⟨rfl,rfl,hl⟩:=g1;have gl:oF ks:=Fc g2 hl;replace hw:=jh hw;refine jg ?_;exact jt
 ·
  obtain⟨⟨g1,g2⟩,_⟩:=ho;simp[bU] at g1;obtain⟨rfl,rfl,hl⟩:=g1;have gl:oF ks:=Fc g2 hl;replace hw:=jh hw;refine jg ?_;by_cases h1:ks.length=1
  ·simp only[h1,↓reduceIte] at hw⊢;exact jt
  simp only[h1,↓reduceIte] at hw⊢;exact jt
 ·
  obtain⟨⟨g1,g2⟩,_⟩:=ho;simp[bU] at g1;obtain⟨rfl,rfl,av,hl⟩:=g1;have gl:oF ks:=Fc g2 hl;replace hw:=jh hw;refine jg ?_;exact jt
 ·
  obtain⟨⟨g1,g2⟩,_⟩:=ho;simp[bU] at g1;obtain⟨rfl,rfl,he,hl⟩:=g1;have gl:SR.dC (.bO false ks):=⟨Fc g2 hl,he⟩;replace hw:=jh hw;refine jg ?_;exact jt
 ·
  obtain⟨⟨g1,g2⟩,_⟩:=ho;simp[bU] at g1;obtain⟨rfl,rfl,a,l,rfl,ha,hl,hc⟩:=g1;have ga:eI a:=⟨g2.1, .inl ha⟩;have gl:SR.dC (.clauses l):=⟨g2.2,hc⟩;have g:1<=l.length:=by cases l with | nil=>exact absurd hl de | cons=>simp
  have c:=e (a::l) (by have t:16*aq (a::l)+2<f+1:=hm;omega);replace hw:=jh hw;refine jg ?_;have h1:Jp st (aV [[91]] st) [sy [91]] d ((bf (pp f (.at a 0) d++pp f (.clauses l) d++ [sy [93]])).length+0):=by
   refine Fb rfl (y7 hb hd ?_);simp only[rW,bW] at hw⊢;omega
  rw[gX h1.bad (by simp only[ay];omega) c];exact jt
 ·
  obtain⟨⟨g1,g2⟩,_⟩:=ho;simp[bU] at g1;obtain⟨rfl,rfl,a,l,rfl,ha,hl,hc⟩:=g1;have ga:eI a:=⟨g2.1, .inl ha⟩;have gl:SR.dC (.clauses l):=⟨g2.2,hc⟩;have g:1<=l.length:=by cases l with | nil=>exact absurd hl de | cons=>simp
  have c:=e (a::l) (by have t:16*aq (a::l)+2<f+1:=hm;omega);replace hw:=jh hw;refine jg ?_;have h1:Jp st (aV [[123]] st) [sy [123]] d ((bf (pp f (.at a 0) d++pp f (.clauses l) d++ [sy [125]])).length+0):=by
   refine Fb rfl (y7 hb hd ?_);simp only[rW,bW] at hw⊢;omega
  rw[gX h1.bad (by simp only[ay];omega) c];exact jt
 
 obtain⟨⟨g1,g2⟩,_⟩:=ho;simp[bU] at g1;obtain⟨rfl,rfl,a,b,l,rfl,ha,u,hl,hc⟩:=g1;have ga:eI a:=⟨g2.1, .inl ha⟩;have gb:eI b:=⟨g2.2.1, .inl u⟩;have gp:SR.dC (.bO false [a,b]):=alG ga gb;have gl:SR.dC (.clauses l):=⟨g2.2.2,hc⟩;have g:1<=l.length:=by cases l with | nil=>exact absurd hl de | cons=>simp
 have c:=e (a::b::l) (by have t:16*aq (a::b::l)+2<f+1:=hm;omega);replace hw:=jh hw;refine jg ?_;have h1:Jp st (aV [[123]] st) [sy [123]] d ((bf (pp f (.bO false [a,b]) d++pp f (.clauses l) d++ [sy [125]])).length+0):=by
  refine Fb rfl (y7 hb hd ?_);simp only[rW,bW] at hw⊢;omega
 rw[gX h1.bad (by simp only[ay];omega) c];exact jt
include ih in
theorem alV(l:List Nd)(b:d+(f+1)<=20000000)(ho:SR.dC (.a9 l))(hm:SR.me (.a9 l)<f+1)(hb:st.bad=false)(hd:st.deep=d)(hw:st.w+(bf (pp (f+1) (.a9 l) d)).length<=20000):Pr st (pe (f+1) (.a9 l) st) (pp (f+1) (.a9 l) d):=by
 rcases l with _ | ⟨n,l⟩
 ·simp only[pp,pe] at hw⊢;exact Pr.refl st
 have g1:SR.dC (.stmt n):=⟨ho.1.1,ho.2 n s0⟩;have g2:SR.dC (.a9 l):=⟨ho.1.2,λm hm=>ho.2 m (by simp[hm])⟩;simp only[pp,pe,hb,aM,↓reduceIte] at hw⊢;exact jt
include ih in
theorem alW(n:Nd)(B:d+(f+1)<=20000000)(ho:SR.dC (.block n))(hm:SR.me (.block n)<f+1)(hb:st.bad=false)(hd:st.deep=d)(hw:st.w+(bf (pp (f+1) (.block n) d)).length<=20000):Pr st (pe (f+1) (.block n) st) (pp (f+1) (.block n) d):=by
 obtain⟨k,ln,x,o,ks⟩:=n;have hk:k=1:=ho.2;subst hk;obtain⟨⟨e,q⟩,_⟩:=ho;simp[bU] at e;obtain⟨_,_,C,t⟩:=e;have u:SR.dC (.a9 ks):=⟨q,t⟩;simp only[pp,pe,am] at hw⊢
 have h1:Jp st (aV [tP] st) [sy [58], .nl, .kO] d ((bf (pp f (.a9 ks) (d+1))).length+0):=by
  refine Fb rfl (y7 hb hd ?_);simp only[rW,bW] at hw⊢;omega
 generalize aV [tP] st=b at h1⊢;have g:=h1.deep;have v:=h1.bad;have D:=h1.2.2.2;have h2:=ih (.a9 ks) (b.dp (vW .i64 (b.deep+1))) (d+1) Om u Mk v (by show vW .i64 (b.deep+1)=_;rw[g,na Om Om];rfl) (by show b.w+_<=20000;omega);generalize pe f (.a9 ks) (b.dp (vW .i64 (b.deep+1)))=s2 at h2⊢;obtain⟨y,z,c,A⟩:=h2;have h3:Pr b (s2.dp (vW .i64 (s2.deep-1))) (pp f (.a9 ks) (d+1)):=by
  refine⟨y,z,?_,A⟩;show vW .i64 (s2.deep-1)=b.deep;have c:s2.deep=vW .i64 (b.deep+1):=c;rw[c,g,na (a:=(d:Int)+1) Om Om,na Om Om];omega
 exact(h1.1.trans h3).trans ⟨by simp[bf,Pc.tx],by simp[bf,Pc.tx],rfl,rfl⟩
include ih in
theorem alX(n:Nd)(e:d+(f+1)<=20000000)(ho:SR.dC (.stmt n))(c:SR.me (.stmt n)<f+1)(hb:st.bad=false)(hd:st.deep=d)(hw:st.w+(bf (pp (f+1) (.stmt n) d)).length<=20000):Pr st (pe (f+1) (.stmt n) st) (pp (f+1) (.stmt n) d):=by
 obtain⟨k,ln,x,o,ks⟩:=n;simp only[pp,pe,aE] at hw⊢;have q:16*aq ks+10<f+1:=c;by_cases h5:k=5
 ·simp only[h5,↓reduceIte] at hw⊢;subst h5;exact ih (.ifs _ _) st d Om ⟨ho.1,rfl, .inl rfl⟩ (by simp only[SR.me,Nd.kids];omega) hb hd hw
 by_cases b:k=15
 ·simp only[b,Nat.reduceEqDiff,↓reduceIte] at hw⊢;subst b;exact ih (.tries _) st d Om ⟨ho.1,rfl⟩ (by simp only[SR.me,Nd.kids];omega) hb hd hw
 by_cases hh:k=6\/k=7\/k=8\/k=9\/k=16
 ·simp only[h5,b,hh,↓reduceIte] at hw⊢;exact ih (.head _) st d Om ⟨ho.1,hh⟩ (by simp only[SR.me,Nd.kids];omega) hb hd hw
 simp only[h5,b,hh,↓reduceIte] at hw⊢;have g:SR.dC (.simple (.mk k ln x o ks)):=⟨ho.1,ho.2,by show ¬(k=5\/k=15\/k=6\/k=7\/k=8\/k=9\/k=16);omega⟩;refine Sn (d:=d) (n:=0) (Si rfl (IN ih Om g (by simp only[SR.me,Nd.kids];omega) (alx (y7 hb hd ?_))));simp only[rW,bW] at hw⊢;omega
include ih in
theorem alY(n:Nd)(t:d+(f+1)<=20000000)(ho:SR.dC (.simple n))(hm:SR.me (.simple n)<f+1)(hb:st.bad=false)(hd:st.deep=d)(hw:st.w+(bf (pp (f+1) (.simple n) d)).length<=20000):Pr st (pe (f+1) (.simple n) st) (pp (f+1) (.simple n) d):=by
 obtain⟨k,ln,x,o,ks⟩:=n;have hk:k=2\/k=3\/k=4\/k=10\/k=11\/k=12\/k=13\/k=14\/k=17\/k=18\/k=19\/k=20:=by
  have h1:2<=k/\k<=20:=ho.2.1;have h2 : ¬(k=5\/k=15\/k=6\/k=7\/k=8\/k=9\/k=16):=ho.2.2;omega
 rcases hk with rfl | rfl | rfl | rfl | rfl | rfl | rfl | rfl | rfl | rfl | rfl | rfl
 ·
  obtain⟨⟨g1,g2⟩,_⟩:=ho;simp[bU] at g1;obtain⟨rfl,rfl,a,rfl,ha⟩:=g1;have ga:eI a:=⟨g2.1,ha.elim .inl λh=> .inr (.inr h)⟩;have gl:oF [a]:=λn hn=>by rw[List.mem_singleton.1 hn];exact ga
  replace hw:=jh hw;refine jg ?_;exact ih (.bc _ _) st d Om gl Mk hb hd hw
 ·
  obtain⟨⟨g1,g2⟩,_⟩:=ho;simp[bU] at g1;obtain⟨rfl,rfl,l,v,rfl,av,hv,hl⟩:=g1;have gl:oF (l++ [v]):=λn hn=>by
   have c:=IQ g2 n hn;rcases List.mem_append.1 hn with hn | hn
   ·exact⟨c, .inl (hl n hn).1⟩
   rw[List.mem_singleton.1 hn] at c⊢;exact⟨c,hv.elim .inl λh=> .inr (.inr h)⟩
  replace hw:=jh hw;refine jg ?_;exact ih (.bF _ _) st d Om gl Mk hb hd hw
 ·
  obtain⟨⟨g1,g2⟩,_⟩:=ho;simp[bU] at g1;obtain⟨rfl,o1,o2,a,b,rfl,ha,hs,g⟩:=g1;have ga:eI a:=⟨g2.1, .inl ha⟩;have gb:eI b:=⟨g2.2.1, .inl g⟩;replace hw:=jh hw;refine jg ?_;exact ih (.two _ _ _ _) st d Om ⟨a,b,rfl,ga,gb⟩ Mk hb hd hw
 ·
  obtain⟨⟨g1,g2⟩,_⟩:=ho;simp[bU] at g1;obtain⟨rfl,rfl,g3⟩:=g1;have e : ∀s k l x o,SR.dC (.maybe s (.mk k l x o ks)):=λ_ _ _ _ _=>by
   rcases g3 with rfl | ⟨a,rfl,ha⟩
   ·exact .inl rfl
   exact .inr ⟨a,rfl,g2.1, .inl ha⟩
  replace hw:=jh hw;refine jg ?_;exact ih (.maybe _ _) st d Om (e _ _ _ _ _) Mk hb hd hw
 ·
  obtain⟨⟨g1,g2⟩,_⟩:=ho;simp[bU] at g1;obtain⟨rfl,rfl,rfl⟩:=g1
  skip
  replace hw:=jh hw;refine jg ?_;exact jt
 ·
  obtain⟨⟨g1,g2⟩,_⟩:=ho;simp[bU] at g1;obtain⟨rfl,rfl,rfl⟩:=g1
  skip
  replace hw:=jh hw;refine jg ?_;exact jt
 ·
  obtain⟨⟨g1,g2⟩,_⟩:=ho;simp[bU] at g1;obtain⟨rfl,rfl,rfl⟩:=g1
  skip
  replace hw:=jh hw;refine jg ?_;exact jt
 ·
  obtain⟨⟨g1,g2⟩,_⟩:=ho;simp[bU] at g1;obtain⟨rfl,rfl,g3⟩:=g1;have e : ∀s k l x o,SR.dC (.maybe s (.mk k l x o ks)):=λ_ _ _ _ _=>by
   rcases g3 with rfl | ⟨a,rfl,ha⟩
   ·exact .inl rfl
   exact .inr ⟨a,rfl,g2.1, .inl ha⟩
  replace hw:=jh hw;refine jg ?_;exact ih (.maybe _ _) st d Om (e _ _ _ _ _) Mk hb hd hw
 ·
  obtain⟨⟨g1,g2⟩,_⟩:=ho;simp[bU] at g1;obtain⟨rfl,rfl,av,hl⟩:=g1;have gl:oF ks:=λn hn=>⟨IQ g2 n hn, .inl ⟨by rw[hl n hn];omega,by rw[hl n hn];omega,by rw[hl n hn];decide,by rw[hl n hn];decide⟩⟩;replace hw:=jh hw;refine jg ?_;exact jt
 ·
  obtain⟨⟨g1,g2⟩,_⟩:=ho;simp[bU] at g1;obtain⟨rfl,rfl,av,hl⟩:=g1;have gl:oF ks:=λn hn=>⟨IQ g2 n hn, .inl ⟨by rw[hl n hn];omega,by rw[hl n hn];omega,by rw[hl n hn];decide,by rw[hl n hn];decide⟩⟩;replace hw:=jh hw;refine jg ?_;exact jt
 ·
  obtain⟨⟨g1,g2⟩,_⟩:=ho;simp[bU] at g1;obtain⟨rfl,rfl,a,rfl,ha,hs⟩:=g1;have ga:eI a:=⟨g2.1, .inl ha⟩;replace hw:=jh hw;refine jg ?_;rw[gX hb s0 s0];exact jt
 
 obtain⟨⟨g1,g2⟩,_⟩:=ho;simp[bU] at g1;obtain⟨rfl,rfl,a,rfl,ha⟩:=g1;have ga:eI a:=⟨g2.1, .inl ha⟩;replace hw:=jh hw;refine jg ?_;exact ih (.maybe _ _) st d Om (.inr ⟨a,rfl,ga⟩) Mk hb hd hw
include ih in
theorem alZ(n:Nd)(y:d+(f+1)<=20000000)(ho:SR.dC (.head n))(hm:SR.me (.head n)<f+1)(hb:st.bad=false)(hd:st.deep=d)(hw:st.w+(bf (pp (f+1) (.head n) d)).length<=20000):Pr st (pe (f+1) (.head n) st) (pp (f+1) (.head n) d):=by
 obtain⟨k,ln,x,o,ks⟩:=n;have hk:k=6\/k=7\/k=8\/k=9\/k=16:=ho.2;rcases hk with rfl | rfl | rfl | rfl | rfl
 ·
  obtain⟨⟨g1,g2⟩,_⟩:=ho;simp[bU] at g1;obtain⟨rfl,rfl,a,b,rfl,ha,e⟩:=g1;have ga:eI a:=⟨g2.1, .inl ha⟩;have gb:SR.dC (.block b):=⟨g2.2.1,e⟩;replace hw:=jh hw;refine jg ?_;rw[gX hb s0 s0];exact jt
 ·
  obtain⟨⟨g1,g2⟩,_⟩:=ho;simp[bU] at g1;obtain⟨rfl,rfl,a,b,c,rfl,ha,hp,e,hc⟩:=g1;have ga:eI a:=⟨g2.1, .inl ha⟩;have gb:eI b:=⟨g2.2.1, .inl e⟩;have gc:SR.dC (.block c):=⟨g2.2.2.1,hc⟩;replace hw:=jh hw;refine jg ?_;rw[gX hb s0 s0];exact jt
 ·
  obtain⟨⟨g1,g2⟩,_⟩:=ho;simp[bU] at g1;obtain⟨ht,rfl,a,b,rfl,ha,e⟩:=g1;obtain⟨t,u,xa,v,g⟩:=a;have ha:t=23:=ha;subst ha;have ga:oF g:=aa' g2.1;have gb:SR.dC (.block b):=⟨g2.2.1,e⟩;replace hw:=jh hw;refine jg ?_;rw[gX hb s0 s0];exact jt
 ·
  obtain⟨⟨g1,g2⟩,_⟩:=ho;simp[bU] at g1;obtain⟨ht,rfl,a,b,rfl,ha,e⟩:=g1;obtain⟨t,u,xa,v,g⟩:=a;have ha:t=24:=ha;subst ha;have ga:oF g:=alI g2.1;have gb:SR.dC (.block b):=⟨g2.2.1,e⟩;replace hw:=jh hw;refine jg ?_;rw[gX hb s0 s0];by_cases h1:0<g.length
  ·simp only[h1,↓reduceIte,<-aG,cp] at hw⊢;exact jt
  simp only[h1,↓reduceIte,<-aG,cp] at hw⊢;exact jt
 
 obtain⟨⟨g1,g2⟩,_⟩:=ho;simp[bU] at g1;obtain⟨ht,rfl,a,b,rfl,ha,e⟩:=g1;have ga:eI a:=⟨g2.1, .inl ha⟩;have gb:SR.dC (.block b):=⟨g2.2.1,e⟩;replace hw:=jh hw;refine jg ?_;rw[gX hb s0 s0];by_cases h1:x= []
 ·simp only[h1,↓reduceIte,<-aG,cp] at hw⊢;exact jt
 simp only[h1,↓reduceIte,<-aG,cp] at hw⊢;exact jt
include ih in
theorem al0(A:f<=16000000)(n:Nd)(B:d+(f+1)<=20000000)(ho:SR.dC (.tries n))(hm:SR.me (.tries n)<f+1)(hb:st.bad=false)(hd:st.deep=d)(hw:st.w+(bf (pp (f+1) (.tries n) d)).length<=20000):Pr st (pe (f+1) (.tries n) st) (pp (f+1) (.tries n) d):=by
 have e : ∀ks:List Nd,16*aq ks<f+1->ks.length<=1048576:=λks h=>by have:=IP ks;omega
 obtain⟨k,ln,x,o,ks⟩:=n;have hk:k=15:=ho.2;subst hk
 
 obtain⟨⟨g1,g2⟩,_⟩:=ho;simp[bU] at g1;obtain⟨rfl,rfl,b,l,rfl,g,av,h,t,u,c,C,ht⟩:=g1;have gb:SR.dC (.block b):=⟨g2.1,g⟩;have gl:SR.dC (.cQ l):=by
  refine⟨g2.2,λn hn=> ?_⟩;rw[u] at hn;rcases List.mem_append.1 hn with hn | hn
  ·exact .inl (c n hn)
  rcases ht with rfl | ⟨y,rfl,v⟩
  ·cases hn
  rw[List.mem_singleton.1 hn];exact .inr v
 have D:1<=l.length:=by cases l with | nil=>exact absurd rfl av | cons=>simp
 have z:=e (b::l) (by have E:16*aq (b::l)+1<f+1:=hm;omega);replace hw:=jh hw;refine jg ?_;rw[gX hb (by simp only[ay];omega) z];exact jt
include ih in
theorem al1(l:List Nd)(g:d+(f+1)<=20000000)(ho:SR.dC (.cQ l))(hm:SR.me (.cQ l)<f+1)(hb:st.bad=false)(hd:st.deep=d)(hw:st.w+(bf (pp (f+1) (.cQ l) d)).length<=20000):Pr st (pe (f+1) (.cQ l) st) (pp (f+1) (.cQ l) d):=by
 rcases l with _ | ⟨⟨k,ln,x,o,ks⟩,l⟩
 ·simp only[pp,pe] at hw⊢;exact Pr.refl st
 obtain⟨⟨⟨g1,g2⟩,g3⟩,g4⟩:=ho;have gl:SR.dC (.cQ l):=⟨g3,λm hm=>g4 m (by simp[hm])⟩;rcases(show k=21\/k=22 from g4 (.mk k ln x o ks) s0) with rfl | rfl
 ·simp[bU] at g1;obtain⟨g1,rfl⟩:=g1;rcases g1 with ⟨rfl,b,rfl,c⟩ | ⟨ht,e,b,rfl,he,c⟩
  ·have gb:SR.dC (.block b):=⟨g2.1,c⟩;simp only[pp,pe,aE,dy,fx,am,Nat.reduceEqDiff,true_or,or_true,or_false,false_or,or_self,and_true,true_and,and_self,false_and,and_false,↓reduceIte,gS,iu,<-aG,cp] at hw⊢;rw[gX hb s0 s0];exact jt
  have gb:SR.dC (.block b):=⟨g2.2.1,c⟩;have ge:eI e:=⟨g2.1, .inl he⟩;by_cases h1:x= []
  ·simp only[pp,pe,aE,dy,fx,am,Nat.reduceEqDiff,true_or,or_true,or_false,false_or,or_self,and_true,true_and,and_self,false_and,and_false,↓reduceIte,gS,iu,h1,<-aG,cp] at hw⊢;rw[gX hb s0 s0];exact jt
  simp only[pp,pe,aE,dy,fx,am,Nat.reduceEqDiff,true_or,or_true,or_false,false_or,or_self,and_true,true_and,and_self,false_and,and_false,↓reduceIte,gS,iu,h1,<-aG,cp] at hw⊢;rw[gX hb s0 s0];exact jt
 simp[bU] at g1;obtain⟨rfl,rfl,b,rfl,c⟩:=g1;have gb:SR.dC (.block b):=⟨g2.1,c⟩;simp only[pp,pe,aE,dy,fx,am,Nat.reduceEqDiff,true_or,or_true,or_false,false_or,or_self,and_true,true_and,and_self,false_and,and_false,↓reduceIte,gS,iu,<-aG,cp] at hw⊢;rw[gX hb s0 s0];exact jt
include ih in
theorem al2(s:List UInt8)(n:Nd)(u:d+(f+1)<=20000000)(ho:SR.dC (.ifs s n))(hm:SR.me (.ifs s n)<f+1)(hb:st.bad=false)(hd:st.deep=d)(hw:st.w+(bf (pp (f+1) (.ifs s n) d)).length<=20000):Pr st (pe (f+1) (.ifs s n) st) (pp (f+1) (.ifs s n) d):=by
 obtain⟨k,ln,x,o,ks⟩:=n;obtain⟨⟨g1,g2⟩,hk,hs⟩:=ho;have hk:k=5:=hk;subst hk;simp[bU] at g1;obtain⟨rfl,rfl,a,b,l,rfl,ha,e,hl⟩:=g1;have ga:eI a:=⟨g2.1, .inl ha⟩;have gb:SR.dC (.block b):=⟨g2.2.1,e⟩;have hsx:s=bf [wd (if s= [105,102,32] then [105,102] else [101,108,105,102]), .sp]:=by rcases hs with rfl | rfl<;>decide
 generalize c : [wd (if s= [105,102,32] then [105,102] else [101,108,105,102]),Pc.sp]=v at hsx;rcases hl with rfl | ⟨⟨g,le,q,t,es⟩,rfl,he⟩
 ·simp only[pp,pe,aE,dy,fx,am,Nat.reduceEqDiff,true_or,or_true,or_false,false_or,or_self,and_true,true_and,and_self,false_and,and_false,↓reduceIte,c,<-aG,cp] at hw⊢;rw[gX hb s0 s0];exact jt
 have he:g=1:=he;subst he;have ge:SR.dC (.block (.mk 1 le q t es)):=⟨g2.2.2.1,rfl⟩;rcases es with _ | ⟨y,_ | ⟨z,es⟩⟩
 ·simp only[pp,pe,aE,dy,fx,am,Nat.reduceEqDiff,true_or,or_true,or_false,false_or,or_self,and_true,true_and,and_self,false_and,and_false,↓reduceIte,c,<-aG,cp] at hw⊢;rw[gX hb s0 s0];exact jt
 ·by_cases h5:y.kind=5
  ·have gy:SR.dC (.ifs [101,108,105,102,32] y):=⟨g2.2.2.1.2.1,h5, .inr rfl⟩;simp only[pp,pe,aE,dy,fx,am,Nat.reduceEqDiff,true_or,or_true,or_false,false_or,or_self,and_true,true_and,and_self,false_and,and_false,↓reduceIte,c,h5,<-aG,cp] at hw⊢;rw[gX hb s0 s0];exact jt
  simp only[pp,pe,aE,dy,fx,am,Nat.reduceEqDiff,true_or,or_true,or_false,false_or,or_self,and_true,true_and,and_self,false_and,and_false,↓reduceIte,c,h5,<-aG,cp] at hw⊢;rw[gX hb s0 s0];exact jt
 simp only[pp,pe,aE,dy,fx,am,Nat.reduceEqDiff,true_or,or_true,or_false,false_or,or_self,and_true,true_and,and_self,false_and,and_false,↓reduceIte,c,<-aG,cp] at hw⊢;rw[gX hb s0 s0];exact jt
end
theorem aba : ∀f,f<=16000000->MP SR.dC f:=by
 intro f;induction f with
 | zero=>intro _ r st d _ _ h;exact absurd h (tj _)
 | succ f ih=>
   intro g r st d c ho e hb hd hw;have ih:=ih Om;cases r;case «at» n a=>exact alJ ih st d n a c ho e hb hd hw
   case expr n=>exact alR ih st d n c ho e hb hd hw
   case bc b l=>exact alK ih st d b l c ho e hb hd hw
   case two n l s r=>exact alM ih st d n l s r c ho e hb hd hw
   case clauses l=>exact alP ih st d l c ho e hb hd hw
   case bO b l=>exact alO ih st d b l c ho e hb hd hw
   case shown n=>exact alU ih st d Om n c ho e hb hd hw
   case dB n=>exact alT ih st d Om n c ho e hb hd hw
   case dJ n=>exact alS ih st d Om n c ho e hb hd hw
   case cV l=>exact alQ ih st d l c ho e hb hd hw
   case maybe s n=>exact alN ih st d s n c ho e hb hd hw
   case block n=>exact alW ih st d n c ho e hb hd hw
   case a9 l=>exact alV ih st d l c ho e hb hd hw
   case ifs s n=>exact al2 ih st d s n c ho e hb hd hw
   case tries n=>exact al0 ih st d Om n c ho e hb hd hw
   case cQ l=>exact al1 ih st d l c ho e hb hd hw
   case stmt n=>exact alX ih st d n c ho e hb hd hw
   case head n=>exact alZ ih st d n c ho e hb hd hw
   case bF b l=>exact alL ih st d b l c ho e hb hd hw
   case simple n=>exact alY ih st d n c ho e hb hd hw
theorem sY{a b:List Nd}:nO (a++b)↔nO a/\nO b:=by simp only[nO,fo];exact⟨λh=>⟨λn hn=>h n (.inl hn),λn hn=>h n (.inr hn)⟩,λh n hn=>hn.elim (h.1 n) (h.2 n)⟩
theorem sZ{n:Nd}{b:List Nd}:nO (n::b)↔eK n/\nO b:=by simp only[nO,js,forall_eq_or_imp]
theorem s7:nO []:=λn hn=>by cases hn
theorem Fe{a b:List Nd}:sW (a++b)↔sW a/\sW b:=by simp only[sW,fo];exact⟨λh=>⟨λn hn=>h n (.inl hn),λn hn=>h n (.inr hn)⟩,λh n hn=>hn.elim (h.1 n) (h.2 n)⟩
theorem Ff{n:Nd}{b:List Nd}:sW (n::b)↔(n.kind=58\/n.kind=59)/\sW b:=by simp only[sW,js,forall_eq_or_imp]
theorem Fg:sW []:=λn hn=>by cases hn
theorem Fh{a b:List Nd}:tT (a++b)↔tT a/\tT b:=by simp only[tT,fo];exact⟨λh=>⟨λn hn=>h n (.inl hn),λn hn=>h n (.inr hn)⟩,λh n hn=>hn.elim (h.1 n) (h.2 n)⟩
theorem Fi{n:Nd}{b:List Nd}:tT (n::b)↔n.kind=36/\tT b:=by simp only[tT,js,forall_eq_or_imp]
theorem Fj:tT []:=λn hn=>by cases hn
theorem rX : ∀ {a b:List Nd},iQ (a++b)=(iQ a&&iQ b)
 | [],b=>by simp[iQ]
 | n::a,b=>by simp only[aS,iQ,rX,Bool.and_assoc]
theorem s8{k:Nat}{l:Int}{x:List UInt8}{o:Nat}{ks:List Nd}:fg (.mk k l x o ks)↔bU k x o ks/\ef ks:=Iff.rfl
theorem qc{k:Nat}{l:Int}{ks:List Nd}:nd k l ks= .mk k l [] 0 ks:=rfl
theorem rY{k:Nat}{l:Int}{x:List UInt8}{o:Nat}{ks:List Nd}:eK (.mk k l x o ks)↔30<=k/\k<=57/\k≠43/\k≠48:=Iff.rfl
theorem ta{k:Nat}{l:Int}{x:List UInt8}{o:Nat}{ks:List Nd}:(Nd.mk k l x o ks).kind=k:=rfl
def tU(ts:List PT):Prop:=∀(i:Nat) (k:Nat),(ah ts i).kind=k->4<=k->k<=7->iV k (ah ts i).text
theorem tV{n:Nd}:xE [n]↔fg n/\eK n:=⟨λ⟨m,e,h⟩=>by cases e;exact h,λh=>⟨n,rfl,h⟩⟩
theorem Ss{n:Nd}:xP [n]↔fg n/\eK n/\fv n=true:=⟨λ⟨m,e,h⟩=>by cases e;exact h,λh=>⟨n,rfl,h⟩⟩
theorem MV{n:Nd}:xV [n]↔fg n/\vK n:=⟨λ⟨m,e,h⟩=>by cases e;exact h,λh=>⟨n,rfl,h⟩⟩
theorem Ay{n:Nd}:xS [n]↔fg n/\sK n:=⟨λ⟨m,e,h⟩=>by cases e;exact h,λh=>⟨n,rfl,h⟩⟩
theorem y8{k:Nat}{n:Nd}:xK k [n]↔fg n/\n.kind=k:=⟨λ⟨m,e,h⟩=>by cases e;exact h,λh=>⟨n,rfl,h⟩⟩
theorem qd{k:Nat}{l:Int}{x:List UInt8}{o:Nat}{ks:List Nd}:sK (.mk k l x o ks)↔2<=k/\k<=20:=Iff.rfl
theorem MW{P Q:List Nd->Prop}{r:PR}(h:TW P r)(b : ∀l,P l->Q l):TW Q r:=by
 match r,h with
 | none,_=>exact trivial
 | some (.error e),_=>exact trivial
 | some (.ok (l,j)),h=>exact b l h
theorem MX{ts:List PT}(b:tU ts){i:Nat}{P:List Nd->Prop}{k:List UInt8->Nat->PR}(h : ∀x,iV 4 x->TW P (k x (i+1))):TW P (jk ts 4 i k):=MN λhk=>h _ (b i 4 hk Om Om)
theorem al3(ts:List PT)(i:Nat):fk ts i<=7:=by
 unfold fk
 (repeat' split)<;>omega
section
variable {ts:List PT} {f:Nat}
theorem al4(e:tU ts)(ih:xb ts f)(i:Nat)(h:NT.kP ts i .plain):TW (NT.out ts i .plain) (gr ts (f+1) .plain i):=by
 have h1 : ∀a i,a.kP ts i->TW (a.out ts i) (gr ts f a i):=ih;simp only[gr];refine rV (h1 .exprs i trivial) λn j hn=> ?_;have hn:=tV.1 hn;refine oE (λhc=>MW (h1 (.jo n.line [n]) j ⟨⟨hn.1,trivial⟩,⟨[],n,rfl, .inl hn.2,λm b=>by cases b⟩, .inr hc⟩) λl hl=>hl) λhc=>oE (λc=>sX ?_) λc=>oE (λhs=>rV (h1 .exprs _ trivial) λm k b=>sX ?_) λ_=>Cq
 ·clear h1 ih;refine Ay.2 ?_;simp_all [qc,s8,ef,oD,bU,rY,qd,ta,vK,sY,sZ,s7,iQ,rX,fv,and_assoc,vH,fo,vV,or_imp,forall_and,forall_eq]
 clear h1 ih;have b:=tV.1 b;refine Ay.2 ?_;have ha:=al3 ts j;have hb:1<=fk ts j:=by omega
 clear c;simp_all [qc,s8,ef,oD,bU,rY,qd,ta,vK,sY,sZ,s7,iQ,rX,fv,and_assoc,vH,fo,vV,or_imp,forall_and,forall_eq]
theorem al5(c:tU ts)(ih:xb ts f)(acc:List Nd)(i:Nat)(h:NT.kP ts i (.clauses acc)):TW (NT.out ts i (.clauses acc)) (gr ts (f+1) (.clauses acc) i):=by
 have h1 : ∀a i,a.kP ts i->TW (a.out ts i) (gr ts f a i):=ih;rcases acc with _ | ⟨g,acc⟩
 all_goals simp only[gr]
 all_goals repeat' (first
  | exact Cq
  | with_reducible refine oE (λhc=> ?_) (λhc=> ?_)
  | with_reducible refine Co ?_
  | with_reducible refine MX c λx hx=> ?_
  | with_reducible refine MN λhk=> ?_
  | with_reducible refine rV (h1 _ _ ?_) λn j hn=> ?_
  | with_reducible refine MO (h1 _ _ ?_) λl j hl=> ?_
  | with_reducible refine sX ?_
  | with_reducible refine IL ?_
  | with_reducible refine MW (h1 _ _ ?_) λl hl=> ?_)
 all_goals clear h1 ih
 all_goals simp only[NT.out,NT.kP,tV,Ss,MV,Ay,y8] at *
 all_goals first | assumption | trivial | (simp_all [qc,s8,ef,oD,bU,rY,qd,ta,vK,sY,sZ,s7,Fe,Ff,Fg,Fh,Fi,Fj,iQ,rX,fv,and_assoc,MM,fo,vV,or_imp,forall_and,forall_eq,rU,Nd.kind];done) | (simp_all [qc,s8,ef,oD,bU,rY,qd,ta,vK,sY,sZ,s7,Fe,Ff,Fg,Fh,Fi,Fj,iQ,rX,fv,rU,Nd.kind];done) | (obtain⟨n,rfl,e,b⟩:=hl;refine⟨n,rfl,e,?_⟩;first | (show 2<=n.kind/\n.kind<=20;omega) | exact .inl b | exact .inr b) | exact⟨_,[],rfl,⟨hn.1,trivial⟩,hn.2,λn hn=>(by cases hn),λn hn=>(by cases hn)⟩ | skip
theorem al6(c:tU ts)(ih:xb ts f)(k:Nat)(l:Int)(acc:List Nd)(i:Nat)(h:NT.kP ts i (.names k l acc)):TW (NT.out ts i (.names k l acc)) (gr ts (f+1) (.names k l acc) i):=by
 rcases(show k=17\/k=18 from h.1) with rfl | rfl
 all_goals
  have h1 : ∀a i,a.kP ts i->TW (a.out ts i) (gr ts f a i):=ih;simp only[gr];repeat' (first
   | exact Cq
   | with_reducible refine oE (λhc=> ?_) (λhc=> ?_)
   | with_reducible refine Co ?_
   | with_reducible refine MX c λx hx=> ?_
   | with_reducible refine MN λhk=> ?_
   | with_reducible refine rV (h1 _ _ ?_) λn j hn=> ?_
   | with_reducible refine MO (h1 _ _ ?_) λl j hl=> ?_
   | with_reducible refine sX ?_
   | with_reducible refine IL ?_
   | with_reducible refine MW (h1 _ _ ?_) λl hl=> ?_)
  all_goals clear h1 ih
  all_goals simp only[NT.out,NT.kP,tV,Ss,MV,Ay,y8] at *
  all_goals first | assumption | trivial | (simp_all [qc,s8,ef,oD,bU,rY,qd,ta,vK,sY,sZ,s7,Fe,Ff,Fg,Fh,Fi,Fj,iQ,rX,fv,and_assoc,MM,fo,vV,or_imp,forall_and,forall_eq];done) | (simp_all [qc,s8,ef,oD,bU,rY,qd,ta,vK,sY,sZ,s7,Fe,Ff,Fg,Fh,Fi,Fj,iQ,rX,fv];done) | (obtain⟨n,rfl,e,b⟩:=hl;refine⟨n,rfl,e,?_⟩;first | (show 2<=n.kind/\n.kind<=20;omega) | exact .inl b | exact .inr b) | exact⟨_,[],rfl,⟨hn.1,trivial⟩,hn.2,λn hn=>(by cases hn),λn hn=>(by cases hn)⟩ | skip
theorem al7(e:tU ts)(ih:xb ts f)(k:Nat)(l:Int)(b:Bool)(i:Nat)(h:NT.kP ts i (.maybe k l b)):TW (NT.out ts i (.maybe k l b)) (gr ts (f+1) (.maybe k l b) i):=by
 have h1 : ∀a i,a.kP ts i->TW (a.out ts i) (gr ts f a i):=ih;have c:TW xE (gr ts f (if b=true then .exprs else .expr) i):=by
  cases b;·exact h1 .expr i trivial
  exact h1 .exprs i trivial
 simp only[gr];rcases(show k=60\/k=10\/k=14 from h) with rfl | rfl | rfl
 all_goals
  refine oE (λhc=>rV c λn j hn=>sX (y8.2 ?_)) λhc=>sX (y8.2 ?_)
  ·have hn:=tV.1 hn;clear h1 ih c;simp_all [qc,s8,ef,oD,bU,rY,qd,ta,vK,sY,sZ,s7,iQ,rX,fv,and_assoc,vH,fo,vV,or_imp,forall_and,forall_eq]
  clear h1 ih c;simp_all [qc,s8,ef,oD,bU,rY,qd,ta,vK,sY,sZ,s7,iQ,rX,fv,and_assoc,vH,fo,vV,or_imp,forall_and,forall_eq]
theorem al8(o:tU ts)(ih:xb ts f)(n:Nd)(acc:List Nd)(i:Nat)(h:NT.kP ts i (.jO n acc)):TW (NT.out ts i (.jO n acc)) (gr ts (f+1) (.jO n acc) i):=by
 have h1 : ∀a i,a.kP ts i->TW (a.out ts i) (gr ts f a i):=ih;obtain⟨b,c,p,g⟩:=h;simp only[gr];refine alt (sX (tV.2 ?_)) λop j ho=>rV (h1 .arith j trivial) λm k e=>h1 (.jO n _) k ⟨b,c,?_,?_⟩
 ·clear h1 ih;cases acc with
  | nil=>exact⟨b,c⟩
  | cons a acc=>
    show fg (nd 42 n.line (n::a::acc))/\eK _;simp_all [qc,s8,ef,oD,bU,rY,qd,ta,vK,sY,sZ,s7,iQ,rX,fv,and_assoc,vH,fo,vV,or_imp,forall_and,forall_eq]
 ·have e:=tV.1 e;clear h1 ih;simp_all [qc,s8,ef,oD,bU,rY,qd,ta,vK,sY,sZ,s7,iQ,rX,fv,and_assoc,vH,fo,vV,or_imp,forall_and,forall_eq]
 intro y hy;rcases List.mem_append.1 hy with hy | hy
 ·exact g y hy
 rw[List.mem_singleton.1 hy];rfl
theorem al9(g:tU ts)(ih:xb ts f)(l:Int)(acc:List Nd)(i:Nat)(h:NT.kP ts i (.jo l acc)):TW (NT.out ts i (.jo l acc)) (gr ts (f+1) (.jo l acc) i):=by
 have h1 : ∀a i,a.kP ts i->TW (a.out ts i) (gr ts f a i):=ih;obtain⟨b,⟨p,v,rfl,g2,c⟩,g4⟩:=h;simp only[gr,List.getLast?_append,gS,Option.some_or];refine oE (λhc=>oE (λhp=>rV (h1 .value (i+1) trivial) λw k hw=>h1 (.jo l _) k ?_) λ_=>Cq) λhc=>sX (Ay.2 ?_)
 ·have hw:=MV.1 hw;refine⟨oD.2 ⟨b,hw.1,trivial⟩,⟨p++ [v],w,rfl,hw.2,λy hy=> ?_⟩, .inl s0⟩;rcases List.mem_append.1 hy with hy | hy
  ·exact c y hy
  rw[List.mem_singleton.1 hy];refine⟨?_,hp⟩;rcases g2 with g2 | g2
  ·exact g2
  exfalso;obtain⟨k,ln,x,o,ks⟩:=v;have g2:k=60:=g2;subst g2;exact absurd hp (by simp[fv])
 have hp:p≠ []:=λe=>by
  subst e;rcases g4 with g4 | g4
  ·simp at g4
  exact hc g4
 refine⟨⟨?_,b⟩,by simp[qd,qc]⟩;have:bU 3 [] 0 (p++ [v]):=by
  simp only[bU,Nat.reduceEqDiff,false_and,false_or,or_false,true_and,or_self];exact⟨p,v,rfl,hp,g2,c⟩
 exact this
theorem al'(b:tU ts)(ih:xb ts f)(i:Nat)(h:NT.kP ts i .atom):TW (NT.out ts i .atom) (gr ts (f+1) .atom i):=by
 have h1 : ∀a i,a.kP ts i->TW (a.out ts i) (gr ts f a i):=ih;simp only[gr];refine oE (λhc=>sX (tV.2 ?_)) λhc=> ?_
 ·obtain⟨k,hk⟩ : ∃k:Nat,(ah ts i).kind=k:=⟨(ah ts i).kind.toNat,Om⟩;have ht:=b i k hk Om Om;rw[hk];clear h1 ih;obtain rfl | rfl | rfl | rfl:k=4\/k=5\/k=6\/k=7:=by omega
  all_goals
   refine⟨⟨?_,trivial⟩,by simp[rY,yT]⟩;simp_all [bU,yT]
 repeat' (first
  | exact Cq
  | with_reducible refine oE (λhc=> ?_) (λhc=> ?_)
  | with_reducible refine Co ?_
  | with_reducible refine rV (h1 _ _ ?_) λn j hn=> ?_
  | with_reducible refine sX ?_)
 all_goals clear h1 ih
 all_goals simp only[NT.out,NT.kP,tV] at *
 all_goals first | assumption | trivial | (simp_all [qc,s8,ef,oD,bU,rY,qd,ta,vK,sY,sZ,s7,iQ,rX,fv,and_assoc,fo,vV,or_imp,forall_and,forall_eq];done)
theorem ama(v:tU ts)(ih:xb ts f)(acc:List Nd)(i:Nat)(h:NT.kP ts i (.lN acc)):TW (NT.out ts i (.lN acc)) (gr ts (f+1) (.lN acc) i):=by
 have h1 : ∀a i,a.kP ts i->TW (a.out ts i) (gr ts f a i):=ih;obtain⟨b,h,rfl,c,g,q,o⟩:=h;have w : ∀n∈h.dropLast,n.kids.length=2:=λn hn=>o n (List.dropLast_subset _ hn);have t : ∀y,y.kind=21->vH (h++ [y]):=λy p n hn=>by
  rcases List.mem_append.1 hn with hn | hn
  ·exact q n hn
  rw[List.mem_singleton.1 hn];exact p
 have u : ∀y,fg y->y.kind=21->y.kids.length=2->NT.kP ts 0 (.lN ((b::h)++ [y])):=λy p hk hl=>⟨b,h++ [y],rfl,oD.2 ⟨c,p,trivial⟩,g,t y hk,λn hn=>by
  rcases List.mem_append.1 hn with hn | hn
  ·exact o n hn
  rw[List.mem_singleton.1 hn];exact hl⟩
 simp only[gr];refine oE (λhc=>oE (λhb=>rV (h1 .block _ trivial) λn j hn=>IL ?_) λhb=>rV (h1 .expr _ trivial) λe j he=>oE (λha=>MX v λx hx=>Co (rV (h1 .block _ trivial) λn k hn=>h1 _ _ ?_)) λha=>Co (rV (h1 .block _ trivial) λn k hn=>h1 _ _ ?_)) λhc=>IL ⟨b,h,rfl,c,g,q,w⟩
 ·have hn:=y8.1 hn;refine⟨b,h++ [nd 21 (ah ts i).line [n]],rfl,oD.2 ⟨c,⟨?_,hn.1,trivial⟩,trivial⟩,g,t _ rfl,?_⟩;·simp[bU,hn.2]
  rw[List.dropLast_concat];exact o
 ·have hn:=y8.1 hn;have he:=tV.1 he;refine u _ ⟨?_,he.1,hn.1,trivial⟩ rfl rfl;simp[bU,hn.2,he.2,hx,and_assoc]
 have hn:=y8.1 hn;have he:=tV.1 he;refine u _ ⟨?_,he.1,hn.1,trivial⟩ rfl rfl;simp[bU,hn.2,he.2,and_assoc]
theorem amb(q:tU ts)(ih:xb ts f)(l:Int)(acc:List Nd)(i:Nat)(h:NT.kP ts i (.nL l acc)):TW (NT.out ts i (.nL l acc)) (gr ts (f+1) (.nL l acc) i):=by
 have h1 : ∀a i,a.kP ts i->TW (a.out ts i) (gr ts f a i):=ih;obtain⟨b,h,rfl,c,g,k,o⟩:=h;simp only[gr];refine oE (λhc=>Co (rV (h1 .block _ trivial) λn j hn=>sX (Ay.2 ⟨⟨?_,?_⟩,by simp[qd,qc]⟩))) λhc=>oE (λ_=>Cq) λhl=>sX (Ay.2 ⟨⟨?_,c⟩,by simp[qd,qc]⟩)
 ·have e:bU 15 [] 0 ((b::h)++ [nd 22 (ah ts i).line [n]]):=by
   simp only[bU,Nat.reduceEqDiff,false_and,false_or,or_false,true_and,or_self];exact⟨b,h++ [nd 22 (ah ts i).line [n]],rfl,g,s0,h,_,rfl,k,o, .inr ⟨_,rfl,rfl⟩⟩
  exact e
 ·have hn:=y8.1 hn;refine oD.2 ⟨c,⟨?_,hn.1,trivial⟩,trivial⟩;simp[bU,hn.2]
 have e:bU 15 [] 0 (b::h):=by
  simp only[bU,Nat.reduceEqDiff,false_and,false_or,or_false,true_and,or_self];refine⟨b,h,rfl,g,λe=>hl (by rw[e];rfl),h,[],s0,k,o, .inl rfl⟩
 exact e
end
theorem amc{ts:List PT}(c:tU ts) : ∀f,xb ts f:=by
 intro f;induction f with
 | zero=>intro a i h;exact trivial
 | succ f ih=>
   intro a i h;cases a;case plain=>exact al4 c ih i h
   case clauses acc=>exact al5 c ih acc i h
   case names k l acc=>exact al6 c ih k l acc i h
   case maybe k l b=>exact al7 c ih k l b i h
   case jO n acc=>exact al8 c ih n acc i h
   case jo l acc=>exact al9 c ih l acc i h
   case atom=>exact al' c ih i h
   case lN acc=>exact ama c ih acc i h
   case nL l acc=>exact amb c ih l acc i h
   all_goals
    have h1 : ∀a i,a.kP ts i->TW (a.out ts i) (gr ts f a i):=ih;simp only[gr];repeat' (first
     | exact Cq
     | with_reducible refine oE (λhc=> ?_) (λhc=> ?_)
     | with_reducible refine Co ?_
     | with_reducible refine MX c λx hx=> ?_
     | with_reducible refine MN λhk=> ?_
     | with_reducible refine rV (h1 _ _ ?_) λn j hn=> ?_
     | with_reducible refine MO (h1 _ _ ?_) λl j hl=> ?_
     | with_reducible refine sX ?_
     | with_reducible refine IL ?_
     | with_reducible refine MW (h1 _ _ ?_) λl hl=> ?_)
    all_goals clear h1 ih
    all_goals simp only[NT.out,NT.kP,tV,Ss,MV,Ay,y8] at *
    all_goals first | assumption | trivial | (simp_all [qc,s8,ef,oD,bU,rY,qd,ta,vK,sY,sZ,s7,Fe,Ff,Fg,Fh,Fi,Fj,iQ,rX,fv,and_assoc,MM,fo,vV,or_imp,forall_and,forall_eq];done) | (simp_all [qc,s8,ef,oD,bU,rY,qd,ta,vK,sY,sZ,s7,Fe,Ff,Fg,Fh,Fi,Fj,iQ,rX,fv];done) | (obtain⟨n,rfl,g,e⟩:=hl;refine⟨n,rfl,g,?_⟩;first | (show 2<=n.kind/\n.kind<=20;omega) | exact .inl e | exact .inr e) | exact⟨_,[],rfl,⟨hn.1,trivial⟩,hn.2,λn hn=>(by cases hn),λn hn=>(by cases hn)⟩ | skip
theorem abb{line:Nat} : ∀ {f:Nat} {t:List UInt8} {d d':Nat} {x:List c8},jb line f t d=some (x,d')->∀y∈x,iV y.kind y.text
 | 0,_,_,_,_,h=>by cases h
 | f+1,t,d,d',x,h=>by
   simp only[jb] at h;split at h;·cases h;intro y b;cases b
   cases ht:fp (t.drop (cr t)) with
   | none=>rw[ht] at h;cases h
   | some z=>
     obtain⟨k,y,n⟩:=z;rw[ht] at h;simp only at h;rw[jT] at h;obtain⟨⟨w,e⟩,h1,h2⟩:=h;cases h2;have h4:=abb h1;intro v hv;rcases List.mem_cons.1 hv with rfl | hv
     ·exact⟨_,_,ht⟩
     exact h4 v hv
theorem amd{line d d':Nat}{t:List UInt8}{st aT:List Nat}{x:List c8}(h:gD line t d st= .ok (x,d',aT)) : ∀y∈x,4<=y.kind->iV y.kind y.text:=by
 unfold gD at h;split at h;·cases h;intro y hy;cases hy
 split at h;·cases h
 split at h;·cases h
 rename_i ts d1 ht;cases h;intro y hy h4;simp only[fo] at hy;rcases hy with (hy | hy) | hy
 ·split at hy
  ·unfold dZ at hy;split at hy;·simp at hy;rw[hy] at h4;simp at h4
   rw[Ty hy] at h4;simp at h4
  cases hy
 ·exact abb ht y hy
 split at hy;·simp at hy;rw[hy] at h4;simp at h4
 cases hy
theorem abc : ∀ {ts:List (List UInt8)} {line d:Nat} {st aT:List Nat} {x:List c8},gE line ts d st= .ok (x,aT)->∀y∈x,4<=y.kind->iV y.kind y.text
 | [],line,d,st,aT,x,h=>by cases h;intro y hy;cases hy
 | t::ts,line,d,st,aT,x,h=>by
   rw[yH] at h;cases b:gD line t d st with
   | error e=>rw[b] at h;cases h
   | ok q=>
     obtain⟨k,d1,g⟩:=q;rw[b] at h;simp only at h;cases c:gE (line+1) ts d1 g with
     | error e=>rw[c] at h;cases h
     | ok w=>
       rw[c] at h;cases h;intro y hy h4;rcases List.mem_append.1 hy with hy | hy
       ·exact amd b y hy h4
       exact abc c y hy h4
theorem ame{src:List UInt8}{ts:List c8}(h:gT src= .ok ts) : ∀y∈ts,4<=y.kind->iV y.kind y.text:=by
 unfold gT at h;split at h;·cases h
 cases b:gE 1 (eT src) 0 [0] with
 | error e=>rw[b] at h;cases h
 | ok w=>
   obtain⟨x,st⟩:=w;rw[b] at h;cases h;intro y hy h4;rcases List.mem_append.1 hy with hy | hy
   ·exact abc b y hy h4
   unfold tp at hy;rcases List.mem_append.1 hy with hy | hy
   ·rw[Ty hy] at h4;simp at h4
   simp at hy;rw[hy] at h4;simp at h4
theorem amf{src:List UInt8}{ts:List c8}(h:gT src= .ok ts):tU (ts.map lg):=by
 intro i k hk h4 c;cases ht:(ts.map lg)[i]? with
 | some t=>
   have e:ah (ts.map lg) i=t:=by unfold ah;rw[ht]
   rw[e] at hk⊢;obtain⟨y,b,rfl⟩:=List.mem_map.1 (List.mem_of_getElem? ht);have e:(y.kind:Int)=k:=hk;have e:y.kind=k:=by omega
   have:=ame h y b Om;rw[e] at this;exact this
 | none=>
   exfalso;have e:(ah (ts.map lg) i).kind=0:=by
    unfold ah;rw[ht];simp only;split<;>rfl
   omega
theorem amg{src:List UInt8}(h:(dV src).2.2=0) : ∃ln l,(dV src).1=nd 1 ln l/\ef l/\(∀n∈l,sK n)/\gK l+1<=60:=by
 unfold dV at h⊢
 cases b:gT src with
 | error y=>
   rw[b] at h;exfalso;have h:(y.2:Int)=0:=h;have:y.2=20\/y.2=21\/y.2=24:=by
    by_cases hl:src.length<=20000
    ·rcases(Yl hl b).2 with e | e
     ·exact .inl e
     exact .inr (.inl e)
    unfold gT at b;rw[iP Om] at b;cases b;exact .inr (.inr rfl)
   omega
 | ok ts=>
   rw[b] at h;simp only at h⊢;have h1:=amc (amf b) ((ts.map lg).length*64+100) (.top []) 0 ⟨trivial,λn hn=>by cases hn⟩;have h3:=wV (ts:=ts.map lg) ((ts.map lg).length*64+100) (.top []) 0 trivial (eZ _) (by simp only[NT.kE];omega);generalize ts.map lg=c at *;unfold nh at h⊢;generalize gr c (c.length*64+100) (.top []) 0=r at *;match r,h1,h3 with
   | some (.error e),_,_=>exact absurd (show(22:Int)=0 from h) de
   | some (.ok (l,j)),h1,h3=>
     simp only at h⊢;split at h;·exact absurd (show(11:Int)=0 from h) de
     rename_i hh;rw[iN hh];exact⟨_,l,rfl,h1.1,h1.2,Om⟩
theorem amh{F:Nat}{ln:Int}{l:List Nd}(hw:ef l)(hs : ∀n∈l,sK n)(b:16*aq l<F)(c:F<=16000000)(ht:(bf (pp F (.a9 l) 0)).length<=20000) :
 (jQ F (nd 1 ln l)).out=bf (pp F (.a9 l) 0)/\(jQ F (nd 1 ln l)).bad=false:=by
 obtain⟨h1,_,_,h4⟩:=aba F c (.a9 l) tS 0 Om ⟨hw,hs⟩ b rfl rfl (by show 0+_<=20000;omega);exact⟨h1,h4⟩
def bt (ts:List PT):List Pc->Nat->Nat->Prop
 | [],i,j=>i=j
 | .sp::r,i,j=>bt ts r i j
 | .nl::r,i,j=>ah ts i=⟨1,0,[]⟩/\bt ts r (i+1) j
 | .kO::r,i,j=>ah ts i=⟨2,0,[]⟩/\bt ts r (i+1) j
 | .out::r,i,j=>ah ts i=⟨3,0,[]⟩/\bt ts r (i+1) j
 | .tk k x::r,i,j=>ah ts i=⟨k,0,x⟩/\bt ts r (i+1) j
theorem eg{ts:List PT} : ∀ {a b:List Pc} {i j:Nat},bt ts (a++b) i j↔∃k,bt ts a i k/\bt ts b k j
 | [],b,i,j=>by simp[bt]
 | .sp::r,b,i,j=>by simp only[aS,bt,eg]
 | .nl::r,b,i,j=>by simp only[aS,bt,eg,and_assoc,exists_and_left]
 | .kO::r,b,i,j=>by simp only[aS,bt,eg,and_assoc,exists_and_left]
 | .out::r,b,i,j=>by simp only[aS,bt,eg,and_assoc,exists_and_left]
 | .tk k x::r,b,i,j=>by simp only[aS,bt,eg,and_assoc,exists_and_left]
theorem ami{ts:List PT}{d:Nat}{r:List Pc}{i j:Nat}:bt ts (dW d++r) i j↔bt ts r i j:=by
 unfold dW;generalize 4*d=n;induction n with
 | zero=>rfl
 | succ n ih=>rw[List.replicate_succ,aS];exact ih
def Ev (φ:Nat->PR)(r:Except Nat (List Nd×Nat)):Prop:=∃f0,∀f,f0<=f->φ f=some r
section
variable {ts:List PT} {a:NT} {i j:Nat} {r:Except Nat (List Nd×Nat)} {φ ψ:Nat->PR} {n:Nd} {l:List Nd}
theorem ba(h:Ev (λf=>gr ts (f+1) a i) r):Ev (λf=>gr ts f a i) r:=by
 obtain⟨f0,h⟩:=h;refine⟨f0+1,λf b=> ?_⟩;obtain⟨g,rfl⟩:=Nat.exists_eq_add_of_le' (show 1<=f by omega);exact h g Om
theorem Az{k:Nat->List Nd->Nat->PR}(h:Ev φ (.ok (l,j)))(hk:Ev (λf=>k f l j) r):Ev (λf=>pb (φ f) (k f)) r:=by
 obtain⟨f0,h⟩:=h;obtain⟨f1,hk⟩:=hk;refine⟨max f0 f1,λf b=> ?_⟩;show pb (φ f) (k f)=_;rw[h f Om];exact hk f Om
theorem bv{k:Nat->Nd->Nat->PR}(h:Ev φ (.ok ([n],j)))(hk:Ev (λf=>k f n j) r):Ev (λf=>bu (φ f) (k f)) r:=by
 obtain⟨f0,h⟩:=h;obtain⟨f1,hk⟩:=hk;refine⟨max f0 f1,λf b=> ?_⟩;show bu (φ f) (k f)=_;rw[h f Om];exact hk f Om
theorem IU{c:Prop}[Decidable c](hc:c)(h:Ev φ r):Ev (λf=>if c then φ f else ψ f) r:=by
 simp only[iP hc];exact h
theorem vI{c:Prop}[Decidable c](hc : ¬c)(h:Ev ψ r):Ev (λf=>if c then φ f else ψ f) r:=by
 simp only[iN hc];exact h
theorem iW{s:List UInt8}{k:Nat->Nat->PR}(hc:ai ts i s=true)(h:Ev (λf=>k f (i+1)) r):Ev (λf=>eX ts s i (k f)) r:=by
 simp only[eX,iP hc];exact h
theorem xc{kd:Int}{k:Nat->List UInt8->Nat->PR}(hc:(ah ts i).kind=kd)(h:Ev (λf=>k f (ah ts i).text (i+1)) r):Ev (λf=>jk ts kd i (k f)) r:=by
 simp only[jk,iP hc];exact h
theorem cf:Ev (λ_=>bI n i) (.ok ([n],i)):=⟨0,λ_ _=>rfl⟩
theorem Fk:Ev (λ_=>some r) r:=⟨0,λ_ _=>rfl⟩
end
def qM (t:PT)(s:List UInt8):Bool:=decide ((t.kind=8\/t.kind=9)/\t.text=s/\rJ s=decide (t.kind=8))
theorem lS{ts:List PT}{i:Nat}{s:List UInt8}:ai ts i s=qM (ah ts i) s:=rfl
theorem gY{ts:List PT}{i:Nat}{s:List UInt8}{t:PT}(h:ah ts i=t)(e:qM t s=true):ai ts i s=true:=by rw[lS,h,e]
theorem aI{ts:List PT}{i:Nat}{s:List UInt8}{t:PT}(h:ah ts i=t)(e:qM t s=false):ai ts i s=false:=by rw[lS,h,e]
def jr:List (Nat×List UInt8):= [(9,B4),(9,kY),(9,pU),(8,Ip),(6,Ah),(6,B3),(6,EO),(6,Io),(5,ng),(5,oj),(4,Ig),(4,Ih),(4,Ii),(4,Ij),(4,Ik),(4,Il),(4,tJ),(4,lM),(4,Im),(2,qD),(1,qC),(0,kX)]
def Sp (ts:List PT)(j m:Nat):Prop:=∀l s,(l,s)∈jr->m<=l->ai ts j s=false
theorem Sp.up{ts:List PT}{j m b:Nat}(h:Sp ts j m)(g:m<=b):Sp ts j b:=λl s hs hl=>h l s hs (Nat.le_trans g hl)
theorem cW{ts:List PT}{j:Nat}{t:PT}(m:Nat)(h:ah ts j=t)(e:(jr.all λp=>decide (p.1<m) || !qM t p.2)=true):Sp ts j m:=by
 intro l s hs hl;have:=List.all_eq_true.1 e (l,s) hs;simp only[zl,decide_eq_true_eq,xj] at this;exact aI h (this.resolve_left Om)
theorem MY{ts:List PT}{j:Nat}:Sp ts j 10:=λl s hs hl=>by
 simp only[jr,js,Prod.mk.injEq,zo,or_false] at hs;omega
def Cu:List (List UInt8):= [qB,lM,qE,qF,qG,ng,oj,kY,pU,wS]
def MZ (t:PT)(m:Nat):Bool:=(decide (4<=t.kind/\t.kind<=7)||Cu.any (qM t))&&(decide (m<8)||(!qM t ng && !qM t oj))&&(decide (m<4) || !qM t lM)&&(decide (m<1) || !qM t qB)
def Fs (ts:List PT)(i m:Nat):Prop:=MZ (ah ts i) m=true
theorem lw{ts:List PT}{i m:Nat}{t:PT}(h:ah ts i=t)(e:MZ t m=true):Fs ts i m:=by unfold Fs;rw[h,e]
theorem Fs.parts{ts:List PT}{i m:Nat}(h:Fs ts i m):((4<=(ah ts i).kind/\(ah ts i).kind<=7)\/∃s∈Cu,ai ts i s=true)/\(8<=m->ai ts i ng=false/\ai ts i oj=false)/\(4<=m->ai ts i lM=false)/\(1<=m->ai ts i qB=false):=by
 unfold Fs MZ at h;simp only[eY,zl,decide_eq_true_eq,xj,List.any_eq_true] at h;obtain⟨⟨⟨h1,h2⟩,h3⟩,h4⟩:=h;exact⟨h1,λg=>h2.resolve_left Om,λg=>h3.resolve_left Om,λg=>h4.resolve_left Om⟩
theorem Fs.lo{ts:List PT}{i m b:Nat}(h:Fs ts i m)(g:b<=m):Fs ts i b:=by
 unfold Fs MZ at h⊢;simp only[eY,zl,decide_eq_true_eq,xj] at h⊢;obtain⟨⟨⟨h1,h2⟩,h3⟩,h4⟩:=h;exact⟨⟨⟨h1,h2.imp_left Om⟩,h3.imp_left Om⟩,h4.imp_left Om⟩
theorem Fs.no{ts:List PT}{i m:Nat}(h:Fs ts i m){s:List UInt8}(hs:s∉Cu):ai ts i s=false:=by
 cases hi:ai ts i s with
 | false=>rfl
 | true=>
   exfalso;have h1:=of_decide_eq_true hi;rcases h.parts.1 with g | ⟨e,b,c⟩
   ·omega
   have h2:=of_decide_eq_true c;rw[h1.2.1] at h2;exact hs (h2.2.1▸b)
theorem Fs.beg{ts:List PT}{i m:Nat}(h:Fs ts i m):iO ts i=true:=by
 unfold iO;rcases h.parts.1 with g | ⟨e,b,c⟩
 ·rw[decide_eq_true g];simp
 simp only[Cu,js,zo,or_false] at b;rcases b with rfl | rfl | rfl | rfl | rfl | rfl | rfl | rfl | rfl | rfl<;>simp[c]
theorem Fs.kd{ts:List PT}{i m:Nat}(h:Fs ts i m):4<=(ah ts i).kind/\(ah ts i).kind<=9:=by
 rcases h.parts.1 with g | ⟨c,e,b⟩
 ·omega
 have:=(of_decide_eq_true b).1;omega
theorem Fs.pl{ts:List PT}{i m:Nat}(h:Fs ts i m)(g:8<=m):ai ts i ng=false/\ai ts i oj=false:=h.parts.2.1 g
theorem Fs.nt{ts:List PT}{i m:Nat}(h:Fs ts i m)(g:4<=m):ai ts i lM=false:=h.parts.2.2.1 g
theorem Fs.lm{ts:List PT}{i m:Nat}(h:Fs ts i m)(g:1<=m):ai ts i qB=false:=h.parts.2.2.2 g
def nm:Nat->NT
 | 0=> .expr | 1=> .or | 2=> .and | 3=> .not | 4=> .compare | 5=> .arith | 6=> .term | 7=> .ox | 8=> .ox | 9=> .primary
 | _=> .atom
def St (ts:List PT)(m:Nat)(n:Nd)(j:Nat)(r:Except Nat (List Nd×Nat)):Prop:=match m with
 | 1=>Ev (λf=>gr ts f (.tL n) j) r
 | 2=>Ev (λf=>gr ts f (.tM n) j) r
 | 5=>Ev (λf=>gr ts f (.sP n) j) r
 | 6=>Ev (λf=>gr ts f (.qI n) j) r
 | 9=>Ev (λf=>gr ts f (.rN n) j) r
 | _=>Sp ts j m/\r= .ok ([n],j)
def CP (ts:List PT)(i j m:Nat)(n:Nd):Prop:=∀r,Sp ts j (m+1)->St ts m n j r->Ev (λf=>gr ts f (nm m) i) r
abbrev Ga(ts:List PT)(a:NT)(i:Nat)(n:Nd)(j:Nat):Prop:=Ev (λf=>gr ts f a i) (.ok ([n],j))
section
variable {ts:List PT} {i j m:Nat} {n:Nd}
theorem abd(h:Sp ts j 4):eB ts j= .ok (0,j):=by
 have g : ∀s,(4,s)∈jr->ai ts j s=false:=λs hs=>h 4 s hs (ag _);unfold eB;rw[g Ig (by simp[jr]),g Ih (by simp[jr]),g Ii (by simp[jr]),g Ij (by simp[jr]),g Ik (by simp[jr]),g Il (by simp[jr]),g tJ (by simp[jr]),g lM (by simp[jr]),g Im (by simp[jr])];simp
theorem amj(h:Sp ts j m):St ts m n j (.ok ([n],j)):=by
 have g : ∀l s,(l,s)∈jr->m<=l->ai ts j s=false:=h;unfold St;split;·refine ba ?_;simp only[gr,g 1 qC (by simp[jr]) Om,aM,iF];exact cf
 ·refine ba ?_;simp only[gr,g 2 qD (by simp[jr]) Om,aM,iF];exact cf
 ·refine ba ?_;simp only[gr,g 5 ng (by simp[jr]) Om,g 5 oj (by simp[jr]) Om,aM,iF];exact cf
 ·refine ba ?_;simp only[gr,g 6 Ah (by simp[jr]) Om,g 6 B3 (by simp[jr]) Om,g 6 EO (by simp[jr]) Om,g 6 Io (by simp[jr]) Om,aM,iF];exact cf
 ·refine ba ?_;simp only[gr,g 9 B4 (by simp[jr]) Om,g 9 kY (by simp[jr]) Om,g 9 pU (by simp[jr]) Om,aM,iF];exact cf
 exact⟨h,rfl⟩
theorem CP.ga(h:CP ts i j m n)(hs:Sp ts j m):Ga ts (nm m) i n j:=h _ (hs.up (Nat.le_succ m)) (amj hs)
theorem amk{k:Nat}(hk:k<=9)(b:Fs ts i (k+1))(h:CP ts i j (k+1) n):CP ts i j k n:=by
 intro r hs hl;have h1:Ga ts (nm (k+1)) i n j:=h.ga hs;have g : ∀l s,(l,s)∈jr->k+1<=l->ai ts j s=false:=hs;obtain rfl | rfl | rfl | rfl | rfl | rfl | rfl | rfl | rfl | rfl:k=0\/k=1\/k=2\/k=3\/k=4\/k=5\/k=6\/k=7\/k=8\/k=9:=by omega
 ·obtain⟨hl,rfl⟩:=hl;refine ba ?_;simp only[nm,gr,b.lm (ag _),aM,iF];refine bv h1 ?_;simp only[hl 0 kX (by simp[jr]) Om,aM,iF];exact cf
 ·refine ba ?_;simp only[nm,gr];exact bv h1 hl
 ·refine ba ?_;simp only[nm,gr];exact bv h1 hl
 ·obtain⟨hl,rfl⟩:=hl;refine ba ?_;simp only[nm,gr,b.nt (ag _),aM,iF];exact h1
 ·obtain⟨hl,rfl⟩:=hl;refine ba ?_;simp only[nm,gr];refine bv h1 (ba ?_);simp only[gr,abd hl,List.isEmpty_nil,iT];exact cf
 ·refine ba ?_;simp only[nm,gr];exact bv h1 hl
 ·refine ba ?_;simp only[nm,gr];exact bv h1 hl
 ·obtain⟨hl,rfl⟩:=hl;exact h1
 ·obtain⟨hl,rfl⟩:=hl;refine ba ?_;simp only[nm,gr,(b.pl Om).1,(b.pl Om).2,aM,iF];refine bv h1 ?_;simp only[hl 8 Ip (by simp[jr]) Om,aM,iF];exact cf
 refine ba ?_;simp only[nm,gr];exact bv h1 hl
theorem IV{a:Nat}(c:m<=10)(ha:a<=m)(b:Fs ts i m)(h:CP ts i j m n):CP ts i j a n:=by
 induction m with
 | zero=>
  obtain rfl:a=0:=by omega
  exact h
 | succ m ih=>
   by_cases e:a=m+1
   ·subst e;exact h
   exact ih Om Om (b.lo (Nat.le_succ m)) (amk Om b h)
theorem Su(h:Ga ts .atom i n j):CP ts i j 10 n:=by
 rintro r _ ⟨_,rfl⟩;exact h
end
def bC (n:Nd):Prop:=fg n/\eK n
def pj (l:List Nd):Prop:=∀n∈l,bC n
def Cv (n:Nd):Prop:=bC n\/∃l,n= .mk 48 l [] 0 []
def qe (n:Nd):Prop:=(∃l a b,n= .mk 58 l [] 0 [a,b]/\bC a/\fv a=true/\bC b)\/∃l a,n= .mk 59 l [] 0 [a]/\bC a
def Fl (n:Nd):Prop:=∃l o a,n= .mk 43 l [] o [a]/\1<=o/\o<=10/\bC a
def Cx (n:Nd):Prop:=∃l x,n= .mk 36 l x 0 []/\iV 4 x
inductive EV:Nd->Prop where
 | int {l x} (h:iV 5 x):EV (.mk 30 l x 0 [])
 | Cy {l x} (h:iV 6 x):EV (.mk 31 l x 0 [])
 | str {l x} (h:iV 7 x):EV (.mk 32 l x 0 [])
 | M0 {l x} (h:iV 4 x):EV (.mk 36 l x 0 [])
 | qf {k l} (h:k=33\/k=34\/k=35):EV (.mk k l [] 0 [])
 | bin {l o a b} (h1:1<=o) (h2:o<=7) (ha:bC a) (hb:bC b):EV (.mk 37 l [] o [a,b])
 | un {l o a} (h:o=1\/o=2) (ha:bC a):EV (.mk 38 l [] o [a])
 | and {l a b} (ha:bC a) (hb:bC b):EV (.mk 39 l [] 0 [a,b])
 | or {l a b} (ha:bC a) (hb:bC b):EV (.mk 40 l [] 0 [a,b])
 | not {l a} (ha:bC a):EV (.mk 41 l [] 0 [a])
 | cmp {l a ks} (ha:bC a) (hn:ks≠ []) (hk : ∀n∈ks,Fl n):EV (.mk 42 l [] 0 (a::ks))
 | call {l a ks} (ha:bC a) (hk:pj ks):EV (.mk 44 l [] 0 (a::ks))
 | attr {l x a} (h:iV 4 x) (ha:bC a):EV (.mk 45 l x 0 [a])
 | idx {l a b} (ha:bC a) (hb:bC b):EV (.mk 46 l [] 0 [a,b])
 | pC {l a b c} (ha:bC a) (hb:Cv b) (hc:Cv c):EV (.mk 47 l [] 0 [a,b,c])
 | cond {l a b c} (ha:bC a) (hb:bC b) (hc:bC c):EV (.mk 49 l [] 0 [a,b,c])
 | lam {l l' ps e} (hp : ∀n∈ps,Cx n) (he:bC e):EV (.mk 50 l [] 0 [.mk 23 l' [] 0 ps,e])
 | uZ {l ks} (h:pj ks):EV (.mk 51 l [] 0 ks)
 | eE {l ks} (h:pj ks):EV (.mk 52 l [] 0 ks)
 | set {l a ks} (ha:bC a) (h:pj ks):EV (.mk 53 l [] 0 (a::ks))
 | Cz {l ks} (h:pj ks) (he:ks.length % 2=0):EV (.mk 54 l [] 0 ks)
 | CA {l a ks} (ha:bC a) (hn:rU ks=true) (h : ∀n∈ks,qe n):EV (.mk 55 l [] 0 (a::ks))
 | CB {l a ks} (ha:bC a) (hn:rU ks=true) (h : ∀n∈ks,qe n):EV (.mk 56 l [] 0 (a::ks))
 | CC {l a b ks} (ha:bC a) (hb:bC b) (hn:rU ks=true) (h : ∀n∈ks,qe n):EV (.mk 57 l [] 0 (a::b::ks))
theorem rZ : ∀ {ks:List Nd},ef ks->∀n∈ks,fg n
 | [],_,n,hn=>by cases hn
 | a::ks,h,n,hn=>by
   rcases List.mem_cons.1 hn with rfl | hn
   ·exact h.1
   exact rZ h.2 n hn
theorem Fm{ks:List Nd}(h:ef ks)(g:nO ks):pj ks:=λn hn=>⟨rZ h n hn,g n hn⟩
theorem Sv{n:Nd}(h:fg n)(hk:n.kind=36):Cx n:=by
 obtain⟨k,l,x,o,ks⟩:=n;obtain rfl:k=36:=hk;have h1:=h.1;simp[bU] at h1;obtain⟨h1,rfl,rfl⟩:=h1;exact⟨l,x,rfl,h1⟩
theorem Sw{n:Nd}(h:fg n)(hk:n.kind=58\/n.kind=59):qe n:=by
 obtain⟨k,l,x,o,ks⟩:=n;obtain⟨h1,h2⟩:=h;rcases hk with hk | hk<;>obtain rfl:k=_:=hk<;>simp[bU] at h1
 ·obtain⟨rfl,rfl,a,b,rfl,ha,hp,hb⟩:=h1;exact .inl ⟨l,a,b,rfl,⟨h2.1,ha⟩,hp,h2.2.1,hb⟩
 obtain⟨rfl,rfl,a,rfl,ha⟩:=h1;exact .inr ⟨l,a,rfl,h2.1,ha⟩
theorem aml{n:Nd}(h:fg n)(hk:n.kind=43):Fl n:=by
 obtain⟨k,l,x,o,ks⟩:=n;obtain⟨h1,h2⟩:=h;obtain rfl:k=43:=hk;simp[bU] at h1;obtain⟨rfl,h3,h4,a,rfl,ha⟩:=h1;exact⟨l,o,a,rfl,h3,h4,h2.1,ha⟩
theorem abe{n:Nd}(h:fg n)(hk:eK n\/n.kind=48):Cv n:=by
 rcases hk with hk | hk
 ·exact .inl ⟨h,hk⟩
 obtain⟨k,l,x,o,ks⟩:=n;obtain⟨h1,h2⟩:=h;obtain rfl:k=48:=hk;simp[bU] at h1;obtain⟨rfl,rfl,rfl⟩:=h1;exact .inr ⟨l,rfl⟩
theorem qN{n:Nd}(h:bC n):EV n:=by
 obtain⟨k,l,x,o,ks⟩:=n;obtain⟨⟨h1,h2⟩,he⟩:=h;obtain⟨w,y,u,z⟩:=he;replace w:30<=k:=w;replace y:k<=57:=y;replace u:k≠43:=u;replace z:k≠48:=z;rcases h1 with h | h | h | h | h | h | h | h | h | h | h | h | h | h | h | h | h | h | h | h | h | h | h | h | h | h | h | h | h | h | h | h | h | h | h | h | h | h | h | h | h | h
 ·obtain⟨rfl,h,rfl,rfl⟩:=h;exact .int h
 ·obtain⟨rfl,h,rfl,rfl⟩:=h;exact .Cy h
 ·obtain⟨rfl,h,rfl,rfl⟩:=h;exact .str h
 ·obtain⟨rfl,h,rfl,rfl⟩:=h;exact .M0 h
 ·obtain⟨h,rfl,rfl,rfl⟩:=h;exact .qf Om
 ·obtain⟨rfl,rfl,t,v,a,b,rfl,ha,hb⟩:=h;exact .bin t v ⟨h2.1,ha⟩ ⟨h2.2.1,hb⟩
 ·obtain⟨rfl,rfl,g,a,rfl,ha⟩:=h;exact .un g ⟨h2.1,ha⟩
 ·obtain⟨rfl | rfl,rfl,rfl,a,b,rfl,ha,hb⟩:=h;·exact .and ⟨h2.1,ha⟩ ⟨h2.2.1,hb⟩
  exact .or ⟨h2.1,ha⟩ ⟨h2.2.1,hb⟩
 ·obtain⟨rfl,rfl,rfl,a,rfl,ha⟩:=h;exact .not ⟨h2.1,ha⟩
 ·obtain⟨rfl,rfl,rfl,a,ks,rfl,ha,hn,hk⟩:=h;exact .cmp ⟨h2.1,ha⟩ hn λn q=>aml (rZ h2.2 n q) (hk n q)
 ·obtain⟨rfl,_⟩:=h;exact absurd rfl u
 ·obtain⟨rfl,rfl,rfl,a,ks,rfl,ha,hk⟩:=h;exact .call ⟨h2.1,ha⟩ (Fm h2.2 hk)
 ·obtain⟨rfl,g,rfl,a,rfl,ha⟩:=h;exact .attr g ⟨h2.1,ha⟩
 ·obtain⟨rfl,rfl,rfl,a,b,rfl,ha,hb⟩:=h;exact .idx ⟨h2.1,ha⟩ ⟨h2.2.1,hb⟩
 ·obtain⟨rfl,rfl,rfl,a,b,c,rfl,ha,hb,hc⟩:=h;exact .pC ⟨h2.1,ha⟩ (abe h2.2.1 hb) (abe h2.2.2.1 hc)
 ·obtain⟨rfl,rfl,rfl,a,b,c,rfl,ha,hb,hc⟩:=h;exact .cond ⟨h2.1,ha⟩ ⟨h2.2.1,hb⟩ ⟨h2.2.2.1,hc⟩
 ·obtain⟨rfl,rfl,rfl,p,e,rfl,hp,he⟩:=h;obtain⟨k,l',x,o,ks⟩:=p;obtain rfl:k=23:=hp;obtain⟨⟨t,v⟩,A⟩:=h2;simp[bU] at t;obtain⟨rfl,rfl,t⟩:=t;exact .lam (λn hn=>Sv (rZ v n hn) (t n hn)) ⟨A.1,he⟩
 ·omega
 ·obtain⟨rfl | rfl,rfl,rfl,h⟩:=h;·exact .uZ (Fm h2 h)
  exact .eE (Fm h2 h)
 ·obtain⟨rfl,rfl,rfl,hn,h⟩:=h;match ks,hn,h,h2 with
  | a::ks,_,h,h2=>exact .set ⟨h2.1,h a s0⟩ (Fm h2.2 λn hn=>h n (by simp[hn]))
 ·obtain⟨rfl,rfl,rfl,hn,h⟩:=h;exact .Cz (Fm h2 h) hn
 ·obtain⟨rfl | rfl,rfl,rfl,e,ks,rfl,he,hn,hk⟩:=h;·exact .CA ⟨h2.1,he⟩ hn λn q=>Sw (rZ h2.2 n q) (hk n q)
  exact .CB ⟨h2.1,he⟩ hn λn q=>Sw (rZ h2.2 n q) (hk n q)
 ·obtain⟨rfl,rfl,rfl,a,b,ks,rfl,ha,hb,hn,hk⟩:=h;exact .CC ⟨h2.1,ha⟩ ⟨h2.2.1,hb⟩ hn λn q=>Sw (rZ h2.2.2 n q) (hk n q)
 all_goals omega
def AA (n:Nd):Prop:=bC n\/(∃l,n= .mk 60 l [] 0 [])\/∃l a,n= .mk 60 l [] 0 [a]/\bC a
theorem abf{n:Nd}(h:fg n)(hk:vK n):AA n:=by
 rcases hk with hk | hk
 ·exact .inl ⟨h,hk⟩
 obtain⟨k,l,x,o,ks⟩:=n;obtain⟨h1,h2⟩:=h;obtain rfl:k=60:=hk;simp[bU] at h1;obtain⟨rfl,rfl,rfl | ⟨a,rfl,ha⟩⟩:=h1;·exact .inr (.inl ⟨l,rfl⟩)
 exact .inr (.inr ⟨l,a,rfl,h2.1,ha⟩)
theorem kQ(n:Nd):(nl n).line=0:=by cases n;rfl
theorem AB : ∀a b:List Nd,aK (a++b)=aK a++aK b
 | [],b=>rfl
 | n::a,b=>by simp only[aS,aK,AB]
mutual
theorem Fp : ∀n:Nd,fv (nl n)=fv n
 | .mk k l x o ks=>by
   simp only[nl,fv,abg ks];cases ks<;>rfl
theorem abg : ∀ks:List Nd,iQ (aK ks)=iQ ks
 | []=>rfl
 | n::ks=>by simp only[aK,iQ,Fp n,abg ks]
end
def IW (ts:List PT)(n:Nd)(i j:Nat):Prop:=bC n->CP ts i j 0 (nl n)/\∃m,m<=10/\Fs ts i m
def YD (ts:List PT)(s:List UInt8)(n:Nd)(i j:Nat):Prop:=ah ts i=⟨8,0,s⟩/\match n.kids with
 | []=>j=i+1
 | a::_=>IW ts a (i+1) j
def ic (ts:List PT)(n:Nd)(a i j:Nat):Prop:=(bC n->CP ts i j a (nl n)/\∃m,a<=m/\m<=10/\Fs ts i m)/\(n.kind=36->ah ts i=⟨4,0,n.text⟩/\j=i+1)/\(n.kind=48->i=j)/\(n.kind=60->YD ts nJ n i j)
def XA (ts:List PT)(n:Nd)(i j:Nat):Prop:=CP ts i j (gz n) (nl n)/\Fs ts i (gz n)
def AtX (ts:List PT)(n:Nd)(i j:Nat):Prop:=(bC n->XA ts n i j)/\(n.kind=36->ah ts i=⟨4,0,n.text⟩/\j=i+1)/\(n.kind=48->i=j)/\(n.kind=60->YD ts nJ n i j)
theorem ic.e{ts:List PT}{n:Nd}{a i j:Nat}(h:ic ts n a i j)(hn:bC n):CP ts i j a (nl n)/\∃m,a<=m/\m<=10/\Fs ts i m:=h.1 hn
theorem ic.fs{ts:List PT}{n:Nd}{a i j:Nat}(h:ic ts n a i j)(hn:bC n):Fs ts i a:=by
 obtain⟨_,m,h1,h2,h3⟩:=h.1 hn;exact h3.lo h1
theorem ic.ga{ts:List PT}{n:Nd}{a i j:Nat}(h:ic ts n a i j)(hn:bC n)(hs:Sp ts j a):Ga ts (nm a) i (nl n) j:=(h.1 hn).1.ga hs
def r8 (ts:List PT)(s:List UInt8):Bool->List Nd->Nat->Nat->Prop
 | _,[],i,j=>i=j
 | b,n::l,i,j=>∃c k,(if b=true then ah ts i=⟨9,0,s⟩/\c=i+1 else c=i)/\ic ts n 0 c k/\r8 ts s true l k j
def M1 (ts:List PT):Bool->List Nd->Nat->Nat->Prop
 | _,[],i,j=>i=j
 | b,n::m::l,i,j=>∃c k k',(if b=true then ah ts i=⟨9,0,eW⟩/\c=i+1 else c=i)/\ic ts n 0 c k/\ah ts k=⟨9,0,fZ⟩/\ic ts m 0 (k+1) k'/\M1 ts true l k' j
 | _,[_],i,j=>True
def ClA (ts:List PT)(c:Nd)(i j:Nat):Prop:=(∀l a,c= .mk 59 l [] 0 [a]->ah ts i=⟨8,0,kX⟩/\ic ts a 1 (i+1) j)/\(∀l a b,c= .mk 58 l [] 0 [a,b]->∃k,ah ts i=⟨8,0,jN⟩/\ic ts a 9 (i+1) k/\ah ts k=⟨8,0,tJ⟩/\ic ts b 1 (k+1) j)
def y9 (ts:List PT):List Nd->Nat->Nat->Prop
 | [],i,j=>i=j
 | c::l,i,j=>∃k,ClA ts c i k/\y9 ts l k j
def M2 (ts:List PT):List Nd->Nat->Nat->Prop
 | [],i,j=>i=j
 | c::l,i,j=>∃k,(∀l o a,c= .mk 43 l [] o [a]->∃b,bt ts (vF o) i b/\ic ts a 5 b k)/\M2 ts l k j
section
variable {ts:List PT} {i j:Nat} {l:List Nd} {s:List UInt8}
theorem cR(h:ah ts i=⟨9,0,s⟩)(e:rJ s=false):ai ts i s=true:=by rw[lS,h,qM,e];simp
theorem oG(h:ah ts i=⟨8,0,s⟩)(e:rJ s=true):ai ts i s=true:=by rw[lS,h,qM,e];simp
theorem za(h:r8 ts s true l i j):(l= []/\i=j)\/(l≠ []/\ah ts i=⟨9,0,s⟩/\r8 ts s false l (i+1) j):=by
 match l,h with
 | [],h=>exact .inl ⟨rfl,h⟩
 | n::l,⟨b,k,h1,h2,h3⟩=>
   obtain⟨h1,rfl⟩:ah ts i=⟨9,0,s⟩/\b=i+1:=h1;exact .inr ⟨s0,h1,i+1,k,rfl,h2,h3⟩
theorem Sx{ts:List PT}{i:Nat}(h:ah ts i=⟨9,0,eW⟩):Sp ts i 0:=cW 0 h rfl
theorem IX(h:r8 ts eW true l i j)(hs:Sp ts j 0):Sp ts i 0:=by
 rcases za h with ⟨_,rfl⟩ | ⟨_,h,_⟩
 ·exact hs
 exact Sx h
theorem IY{cl:List UInt8}(hc:ai ts j cl=true)(hb:cl∉Cu)(hs:Sp ts j 0)(hn:ai ts j eW=false) : ∀ {l:List Nd} {i:Nat} {acc:List Nd},r8 ts eW false l i j->pj l->Ev (λf=>gr ts f (.row cl acc) i) (.ok (acc++aK l,j))
 | [],i,acc,h,_=>by
   obtain rfl:i=j:=h;refine ba ?_;simp only[gr,hc,iT,aK,cp];exact Fk
 | n::l,i,acc,⟨c,k,h1,h2,h3⟩,g=>by
   obtain rfl:c=i:=h1;have b:=g n s0;refine ba ?_;simp only[gr,(h2.fs b).no hb,aM,iF];refine bv (h2.ga b (IX h3 hs)) ?_;rcases za h3 with ⟨rfl,rfl⟩ | ⟨_,h4,h5⟩
   ·simp only[hn,aM,iF,aK];exact Fk
   simp only[cR h4 rfl,iT];have:=IY hc hb hs hn (acc:=acc++ [nl n]) h5 λm e=>g m (by simp[e]);simpa only[aG,xx,aK] using this
theorem abh(hb:iO ts j=false)(hs:Sp ts j 0)(hn:ai ts j eW=false) : ∀ {l:List Nd} {i:Nat} {acc:List Nd},r8 ts eW true l i j->pj l->Ev (λf=>gr ts f (.pY 0 acc) i) (.ok ([nd 52 0 (acc++aK l)],j))
 | [],i,acc,h,_=>by
   obtain rfl:i=j:=h;refine ba ?_;simp only[gr,hn,aM,iF,aK,cp];exact cf
 | n::l,i,acc,⟨c,k,h1,h2,h3⟩,g=>by
   obtain⟨h1,rfl⟩:ah ts i=⟨9,0,eW⟩/\c=i+1:=h1;have b:=g n s0;refine ba ?_;simp only[gr,cR h1 rfl,iT,(h2.fs b).beg];refine bv (h2.ga b (IX h3 hs)) ?_;have:=abh hb hs hn (acc:=acc++ [nl n]) h3 λm e=>g m (by simp[e]);simpa only[aG,xx,aK] using this
theorem Sy{cl:List UInt8}(hc:ai ts j cl=true)(hn:ai ts j eW=false) : ∀ {l:List Nd} {i:Nat} {acc:List Nd},r8 ts eW false l i j->(∀n∈l,Cx n)->Ev (λf=>gr ts f (.params cl 0 acc) i) (.ok ([nd 23 0 (acc++aK l)],j))
 | [],i,acc,h,_=>by
   obtain rfl:i=j:=h;refine ba ?_;simp only[gr,hc,iT,aK,cp];exact cf
 | n::l,i,acc,⟨b,k,h1,h2,h3⟩,g=>by
   obtain rfl:b=i:=h1;obtain⟨ln,x,rfl,q⟩:=g n s0;obtain⟨h4,rfl⟩:=h2.2.1 rfl;replace h4:ah ts b=⟨4,0,x⟩:=h4;have h5:ai ts b cl=false:=Al (by rw[h4];show ¬(4:Int)=_;split<;>decide);refine ba ?_;simp only[gr,h5,aM,iF];refine xc (by rw[h4]) ?_;simp only[h4];rcases za h3 with ⟨rfl,rfl⟩ | ⟨_,c,e⟩
   ·simp only[hn,aM,iF,aK,nl];exact cf
   simp only[cR c rfl,iT];have:=Sy hc hn (acc:=acc++ [nl (.mk 36 ln x 0 [])]) e λm o=>g m (by simp[o]);simpa only[aG,xx,aK,nl] using this
theorem Sz{kd:Nat}(hn:ai ts j eW=false) : ∀ {l:List Nd} {i:Nat} {acc:List Nd},l≠ []->r8 ts eW false l i j->(∀n∈l,Cx n)->Ev (λf=>gr ts f (.names kd 0 acc) i) (.ok ([nd kd 0 (acc++aK l)],j))
 | n::l,i,acc,_,⟨b,k,h1,h2,h3⟩,g=>by
   obtain rfl:b=i:=h1;obtain⟨ln,x,rfl,t⟩:=g n s0;obtain⟨h4,rfl⟩:=h2.2.1 rfl;replace h4:ah ts b=⟨4,0,x⟩:=h4;refine ba ?_;simp only[gr];refine xc (by rw[h4]) ?_;simp only[h4];rcases za h3 with ⟨rfl,rfl⟩ | ⟨c,e,o⟩
   ·simp only[hn,aM,iF,aK,nl];exact cf
   simp only[cR e rfl,iT];have:=Sz (kd:=kd) hn (acc:=acc++ [nl (.mk 36 ln x 0 [])]) c o λm q=>g m (by simp[q]);simpa only[aG,xx,aK,nl] using this
theorem abi(h:M1 ts true l i j)(he:l.length % 2=0)(hs:Sp ts j 0):Sp ts i 0:=by
 match l,h with
 | [],h=>obtain rfl:i=j:=h;exact hs
 | [_],_=>simp at he
 | n::m::l,⟨b,k,k',h1,h2⟩=>exact Sx (show ah ts i=⟨9,0,eW⟩/\b=i+1 from h1).1
theorem abj(hc:ai ts j rK=true)(hs:Sp ts j 0)(hn:ai ts j eW=false) : ∀ {l:List Nd} {i:Nat} {acc:List Nd},M1 ts true l i j->pj l->l.length % 2=0->Ev (λf=>gr ts f (.rO 0 acc) i) (.ok ([nd 54 0 (acc++aK l)],j))
 | [],i,acc,h,_,_=>by
   obtain rfl:i=j:=h;refine ba ?_;simp only[gr,hn,aM,iF,aK,cp];exact cf
 | [_],i,acc,_,_,he=>by simp at he
 | n::m::l,i,acc,⟨e,k,k',h1,h2,h3,h4,h5⟩,g,he=>by
   obtain⟨h1,rfl⟩:ah ts i=⟨9,0,eW⟩/\e=i+1:=h1;have b:=g n s0;have o:=g m s0;have c:l.length % 2=0:=by simp only[ay] at he;omega
   refine ba ?_;simp only[gr,cR h1 rfl,iT,(h2.fs b).no (s:=rK) de,aM,iF];refine bv (h2.ga b (cW 0 h3 rfl)) (iW (cR h3 rfl) (bv (h4.ga o (abi h5 c hs)) ?_));have:=abj hc hs hn (acc:=acc++ [nl n,nl m]) h5 (λm q=>g m (by simp[q])) c;simpa only[aG,aS,a6,aK] using this
theorem abk{n:Nd}(h:ic ts n 9 i j)(hn:bC n)(hp:fv n=true)(hs:Sp ts j 9)(hc:ai ts j eW=false):Ga ts .sO i (nl n) j:=by
 have e:Ga ts .one i (nl n) j:=by
  refine ba ?_;simp only[gr];refine bv (h.ga hn hs) ?_;simp only[Fp,hp,iT];exact cf
 refine ba ?_;simp only[gr];refine bv e ?_;simp only[hc,aM,iF];exact cf
theorem amm(h:y9 ts l i j)(hl : ∀n∈l,qe n)(hs:Sp ts j 1):Sp ts i 1:=by
 match l,h with
 | [],h=>obtain rfl:i=j:=h;exact hs
 | c::l,⟨k,h1,h2⟩=>
   rcases hl c s0 with ⟨ln,a,b,rfl,ha,hp,hb⟩ | ⟨ln,a,rfl,ha⟩
   ·obtain⟨k',e,g⟩:=h1.2 _ _ _ rfl;exact cW 1 e rfl
   exact cW 1 (h1.1 _ _ rfl).1 rfl
theorem SB(h1:ai ts j jN=false)(h2:ai ts j kX=false)(hs:Sp ts j 1) : ∀ {l:List Nd} {i:Nat} {acc:List Nd},y9 ts l i j->(∀n∈l,qe n)->Ev (λf=>gr ts f (.clauses acc) i) (.ok (acc++aK l,j))
 | [],i,acc,h,_=>by
   obtain rfl:i=j:=h;refine ba ?_;simp only[gr,h1,h2,aM,iF,aK,cp];exact Fk
 | c::l,i,acc,⟨k,h3,h4⟩,g=>by
   have o : ∀n∈l,qe n:=λm u=>g m (by simp[u]);have hk:=amm h4 o hs;rcases g c s0 with ⟨ln,a,b,rfl,ha,hp,hb⟩ | ⟨ln,a,rfl,ha⟩
   ·obtain⟨k',e,q,t,v⟩:=h3.2 _ _ _ rfl;refine ba ?_;simp only[gr,oG e rfl,iT,e];have w:=abk q ha hp (cW 9 t rfl) (aI t (s:=eW) rfl);refine bv w (iW (oG t rfl) (bv (v.ga hb hk) ?_));have:=SB h1 h2 hs (acc:=acc++ [nl (.mk 58 ln [] 0 [a,b])]) h4 o;simpa only[aG,xx,aK,nl] using this
   obtain⟨e,q⟩:=h3.1 _ _ rfl;refine ba ?_;simp only[gr,aI e (s:=jN) rfl,oG e rfl,iT,e,aM,iF];refine bv (q.ga ha hk) ?_;have:=SB h1 h2 hs (acc:=acc++ [nl (.mk 59 ln [] 0 [a])]) h4 o;simpa only[aG,xx,aK,nl] using this
theorem abl{o:Nat}{i b:Nat}(h:bt ts (vF o) i b)(h1:1<=o)(h2:o<=10)(hn:ai ts b lM=false):eB ts i= .ok (o,b)/\Sp ts i 5:=by
 obtain rfl | rfl | rfl | rfl | rfl | rfl | rfl | rfl | rfl | rfl:o=1\/o=2\/o=3\/o=4\/o=5\/o=6\/o=7\/o=8\/o=9\/o=10:=by omega
 ·obtain⟨h,rfl⟩:=h;exact⟨by simp only[eB,lS,h];rfl,cW 5 h rfl⟩
 ·obtain⟨h,rfl⟩:=h;exact⟨by simp only[eB,lS,h];rfl,cW 5 h rfl⟩
 ·obtain⟨h,rfl⟩:=h;exact⟨by simp only[eB,lS,h];rfl,cW 5 h rfl⟩
 ·obtain⟨h,rfl⟩:=h;exact⟨by simp only[eB,lS,h];rfl,cW 5 h rfl⟩
 ·obtain⟨h,rfl⟩:=h;exact⟨by simp only[eB,lS,h];rfl,cW 5 h rfl⟩
 ·obtain⟨h,rfl⟩:=h;exact⟨by simp only[eB,lS,h];rfl,cW 5 h rfl⟩
 ·obtain⟨h,rfl⟩:=h;exact⟨by simp only[eB,lS,h];rfl,cW 5 h rfl⟩
 ·obtain⟨h,h',rfl⟩:=h;exact⟨by simp only[eB,lS,h,h'];rfl,cW 5 h rfl⟩
 ·obtain⟨h,rfl⟩:=h;rw[lS] at hn;exact⟨by simp only[eB,lS,h,hn];rfl,cW 5 h rfl⟩
 obtain⟨h,h',rfl⟩:=h;exact⟨by simp only[eB,lS,h,h'];rfl,cW 5 h rfl⟩
theorem abm(h:M2 ts l i j)(hl : ∀n∈l,Fl n)(hs:Sp ts j 5):Sp ts i 5:=by
 match l,h with
 | [],h=>obtain rfl:i=j:=h;exact hs
 | c::l,⟨k,h1,h2⟩=>
   obtain⟨ln,o,a,rfl,b,e,ha⟩:=hl c s0;obtain⟨t,g,q⟩:=h1 _ _ _ rfl;exact(abl g b e ((q.fs ha).nt Om)).2
theorem abn{n:Nd}(hs:Sp ts j 4) : ∀ {l:List Nd} {i:Nat} {acc:List Nd},M2 ts l i j->(∀n∈l,Fl n)->acc++l≠ []->Ev (λf=>gr ts f (.jO n acc) i) (.ok ([nd 42 n.line (n::(acc++aK l))],j))
 | [],i,acc,h,_,av=>by
   obtain rfl:i=j:=h;refine ba ?_;have e:acc.isEmpty=false:=by
    rw[cp] at av;cases acc with
    | nil=>exact absurd rfl av
    | cons _ _=>rfl
   simp only[gr,abd hs,e,aM,iF,aK,cp];exact cf
 | c::l,i,acc,⟨k,h1,h2⟩,g,_=>by
   obtain⟨ln,o,a,rfl,q,v,ha⟩:=g c s0;obtain⟨y,t,u⟩:=h1 _ _ _ rfl;have w:=(abl t q v ((u.fs ha).nt Om)).1;have x:(ah ts i).line=0:=by
    obtain rfl | rfl | rfl | rfl | rfl | rfl | rfl | rfl | rfl | rfl:o=1\/o=2\/o=3\/o=4\/o=5\/o=6\/o=7\/o=8\/o=9\/o=10:=by omega
    all_goals exact(congrArg PT.line t.1).trans rfl
   obtain⟨p,rfl⟩:=Nat.exists_eq_add_of_le' q;refine ba ?_;simp only[gr,w,x];refine bv (u.ga ha (abm h2 (λm b=>g m (by simp[b])) (hs.up Om))) ?_;have:=abn (n:=n) hs (acc:=acc++ [nl (.mk 43 ln [] (p+1) [a])]) h2 (λm b=>g m (by simp[b])) s0;simpa only[aG,xx,aK,nl] using this
end
def lT (n:Nd):Prop:=fg n/\sK n
def okB (b:Nd):Prop:=∃l ks,b= .mk 1 l [] 0 ks/\ks≠ []/\∀n∈ks,lT n
def nE (ts:List PT)(j:Nat):Prop:=∀s∈ [sN,wR,rM,B6],ai ts j s=false
def IZ (ts:List PT)(i:Nat):Prop:=4<=(ah ts i).kind/\nE ts i
def M3 (ts:List PT)(n:Nd)(i j:Nat):Prop:=lT n->IZ ts i/\(nE ts j->Ga ts .stmt i (nl n) j)
def I0:List (List UInt8):= [kX,tK,jN,wT,wU,B7,B8]
def SmA (ts:List PT)(n:Nd)(i j:Nat):Prop:=lT n->IZ ts i/\(∀s∈I0,ai ts i s=false)/\(ah ts j=⟨1,0,[]⟩->Ga ts .simple i (nl n) j)
def I1 (ts:List PT)(b:Nd)(i j:Nat):Prop:=okB b->ah ts i=⟨9,0,fZ⟩/\Ga ts .block (i+1) (nl b) j
def M4 (ts:List PT):List Nd->Nat->Nat->Prop
 | [],i,j=>i=j
 | n::l,i,j=>∃k,M3 ts n i k/\M4 ts l k j
def vJ (h:Nd):Prop:=(∃l b,h= .mk 21 l [] 0 [b]/\okB b)\/∃l x e b,h= .mk 21 l x 0 [e,b]/\(x= []\/iV 4 x)/\bC e/\okB b
def okF (h:Nd):Prop:=∃l b,h= .mk 22 l [] 0 [b]/\okB b
inductive I2(ts:List PT):Nd->Nat->Nat->Prop where
 | bare {l b i k} (h:ah ts i=⟨8,0,rM⟩) (hb:I1 ts b (i+1) k):I2 ts (.mk 21 l [] 0 [b]) i k
 | one {l e b i k1 k} (h:ah ts i=⟨8,0,rM⟩) (he:ic ts e 0 (i+1) k1) (hb:I1 ts b k1 k):I2 ts (.mk 21 l [] 0 [e,b]) i k
 | asx {l x e b i k1 k} (hx:x≠ []) (h:ah ts i=⟨8,0,rM⟩) (he:ic ts e 0 (i+1) k1) (ha:ah ts k1=⟨8,0,B5⟩) (hn:ah ts (k1+1)=⟨4,0,x⟩) (hb:I1 ts b (k1+1+1) k):I2 ts (.mk 21 l x 0 [e,b]) i k
 | fin {l b i k} (h:ah ts i=⟨8,0,B6⟩) (hb:I1 ts b (i+1) k):I2 ts (.mk 22 l [] 0 [b]) i k
def M5 (ts:List PT):List Nd->Nat->Nat->Prop
 | [],i,j=>i=j
 | n::l,i,j=>∃k,I2 ts n i k/\M5 ts l k j
def Rd (ts:List PT)(r:SR)(i j:Nat):Prop:=match r with
 | .at n a=>a<=10->ic ts n a i j
 | .expr n=>AtX ts n i j
 | .bc b l=>r8 ts eW b l i j
 | .bF b l=>r8 ts uY b l i j
 | .two n l s r=>∀a b ks,n.kids=a::b::ks->l<=10->r<=10->∃k,ic ts a l i k/\ah ts k=⟨if s=qD\/s=qC then 8 else 9,0,s⟩/\ic ts b r (k+1) j
 | .clauses l=>y9 ts l i j
 | .bO b l=>M1 ts b l i j
 | .cV l=>M2 ts l i j
 | .maybe s n=>YD ts s n i j
 | .shown n=>bC n->51<=n.kind->XA ts n i j
 | .dB n=>bC n->44<=n.kind/\n.kind<=47->XA ts n i j
 | .dJ n=>bC n->(37<=n.kind/\n.kind<=42)\/n.kind=49\/n.kind=50->XA ts n i j
 | .block n=>I1 ts n i j
 | .a9 l=>M4 ts l i j
 | .ifs s n=>lT n->n.kind=5->ah ts i=⟨8,0,if s= [105,102,32] then kX else sN⟩/\(nE ts j->Ga ts (.ifs 0) (i+1) (nl n) j)
 | .cQ l=>(∀n∈l,vJ n\/okF n)->M5 ts l i j
 | .tries n=>n.kind=15->M3 ts n i j
 | .stmt n=>M3 ts n i j
 | .head n=>n.kind=6\/n.kind=7\/n.kind=8\/n.kind=9\/n.kind=16->M3 ts n i j
 | .simple n=>¬(n.kind=5\/n.kind=15\/n.kind=6\/n.kind=7\/n.kind=8\/n.kind=9\/n.kind=16)->SmA ts n i j
def mn (ts:List PT)(f:Nat):Prop:=∀(r:SR) (d i j:Nat),r.me<f->bt ts (pp f r d) i j->Rd ts r i j
theorem amn{ts:List PT}{s:List UInt8}{r:List Pc}{i j:Nat}:bt ts (vG s::r) i j↔ah ts i=⟨if s=qD\/s=qC then 8 else 9,0,s⟩/\bt ts r (i+1) j:=by
 unfold vG;show bt ts ((if s=qD\/s=qC then wd s else sy s)::r) i j↔_;split<;>rfl
theorem amo{ts:List PT}{c:Prop}[Decidable c]{r:List Pc}{i j:Nat}:bt ts ((if c then [Pc.sp] else [])++r) i j↔bt ts r i j:=by
 split<;>rfl
theorem Fq{ts:List PT}{i k:Nat}{x:List UInt8}(h:ah ts i=⟨k,0,x⟩)(h1:4<=k)(h2:k<=7):Ga ts .atom i (.mk (yT k) 0 x 0 []) (i+1):=by
 refine ba ?_;simp only[gr,h];exact IU (by constructor<;>omega) cf
theorem SC{ts:List PT}{i k:Nat}{s:List UInt8}(h:ah ts i=⟨8,0,s⟩)(hk:(s=qE/\k=33)\/(s=qF/\k=34)\/(s=qG/\k=35)):Ga ts .atom i (nd k 0 []) (i+1):=by
 refine ba ?_;simp only[gr];refine vI (by rw[h];simp) ?_;simp only[lS,h];rcases hk with ⟨rfl,rfl⟩ | ⟨rfl,rfl⟩ | ⟨rfl,rfl⟩
 ·exact IU rfl cf
 ·exact vI de (IU rfl cf)
 exact vI de (vI de (IU rfl cf))
theorem k9{ts:List PT}{i:Nat}{s:List UInt8}(h:ah ts i=⟨9,0,s⟩) : ¬(4<=(ah ts i).kind/\(ah ts i).kind<=7):=by rw[h];simp
theorem abo{ts:List PT}{i j m:Nat}{n:Nd}(h1:ah ts i=⟨9,0,kY⟩)(b:Fs ts (i+1) m)(h:Ga ts .expr (i+1) n j)(h2:ah ts j=⟨9,0,oq⟩):Ga ts .atom i n (j+1):=by
 refine ba ?_;simp only[gr];refine vI (k9 h1) ?_;simp only[aI (s:=qE) h1 rfl,aI (s:=qF) h1 rfl,aI (s:=qG) h1 rfl,cR h1 rfl,b.no (s:=oq) de,aM,iF,iT];refine bv (j:=j) (n:=n) (ba ?_) (iW (cR h2 rfl) cf);simp only[gr];refine bv h ?_;simp only[aI (s:=eW) h2 rfl,aM,iF];exact cf
theorem oH{ts:List PT}{i j:Nat}{n:Nd}(hl:gz n=10)(h:Ga ts .atom i (nl n) j)(b:Fs ts i 10):XA ts n i j:=by
 unfold XA;rw[hl];exact⟨Su h,b⟩
theorem SD(n:Nd):gz n<=10:=by
 unfold gz;repeat' split
 all_goals omega
theorem M6{n:Nd}{f:Nat}(h:SR.me (.expr n)<f+1):SR.me (.dJ n)<f:=by simp only[SR.me] at h⊢;omega
theorem SE{n:Nd}{f:Nat}(h:SR.me (.expr n)<f+1):SR.me (.dB n)<f:=by simp only[SR.me] at h⊢;omega
theorem SF{n:Nd}{f:Nat}(h:SR.me (.expr n)<f+1):SR.me (.shown n)<f:=by simp only[SR.me] at h⊢;omega
section
variable {ts:List PT} {f:Nat}
theorem amp(ih:mn ts f){n:Nd}{a d i j:Nat}(o:SR.me (.at n a)<f+1)(h:bt ts (pp (f+1) (.at n a) d) i j):Rd ts (.at n a) i j:=by
 intro ha;simp only[pp] at h;by_cases hc:gz n<a
 ·simp only[hc,iT,aG,aS,a6,eg,bt] at h;obtain⟨h1,k,h2,h3,rfl⟩:=h;obtain⟨c,q,t,u⟩:=ih (.expr n) d _ _ (by simp only[SR.me] at o⊢;omega) h2;have hx:n.kind≠36/\n.kind≠48/\n.kind≠60:=by
   refine⟨λe=> ?_,λe=> ?_,λe=> ?_⟩<;>(simp[gz,e] at hc;omega)
  refine⟨λho=> ?_,λe=>absurd e hx.1,λe=>absurd e hx.2.1,λe=>absurd e hx.2.2⟩;obtain⟨g,b⟩:=c ho;have f1:Fs ts i 10:=lw h1 rfl;have h4:=abo h1 b ((IV (SD n) (eZ _) b g).ga (cW 0 h3 rfl)) h3;exact⟨IV (ag _) ha f1 (Su h4),10,ha,ag _,f1⟩
 simp only[hc,iF] at h;obtain⟨c,q,t,u⟩:=ih (.expr n) d _ _ (by simp only[SR.me] at o⊢;omega) h;refine⟨λho=> ?_,q,t,u⟩;obtain⟨g,b⟩:=c ho;exact⟨IV (SD n) Om b g,gz n,Om,SD n,b⟩
theorem amq(ih:mn ts f){n:Nd}{s:List UInt8}{d i j:Nat}(b:SR.me (.maybe s n)<f+1)(h:bt ts (pp (f+1) (.maybe s n) d) i j):Rd ts (.maybe s n) i j:=by
 obtain⟨k,l,x,o,ks⟩:=n;rcases ks with _ | ⟨a,ks⟩
 ·simp only[pp,Nd.kids,bt] at h;exact⟨h.1,h.2.symm⟩
 simp only[pp,Nd.kids,aG,aS,a6,eg,bt] at h;refine⟨h.1,λho=> ?_⟩;obtain⟨c,m,q,e,g⟩:=(ih (.at a 0) d _ _ (by simp only[SR.me,Nd.kids,aq,aL] at b⊢;omega) h.2 Om).1 ho;exact⟨c,m,e,g⟩
theorem amr(ih:mn ts f){n:Nd}{d i j:Nat}(b:SR.me (.expr n)<f+1)(h:bt ts (pp (f+1) (.expr n) d) i j):Rd ts (.expr n) i j:=by
 refine⟨λho=> ?_,λe=> ?_,λe=> ?_,λe=> ?_⟩
 ·cases qN ho with
  | int h1=>obtain⟨h,rfl⟩:=h;exact oH rfl (Fq h Om Om) (lw h rfl)
  | Cy h1=>obtain⟨h,rfl⟩:=h;exact oH rfl (Fq h Om Om) (lw h rfl)
  | str h1=>obtain⟨h,rfl⟩:=h;exact oH rfl (Fq h Om Om) (lw h rfl)
  | M0 h1=>obtain⟨h,rfl⟩:=h;exact oH rfl (Fq h Om Om) (lw h rfl)
  | qf h1=>
    rcases h1 with rfl | rfl | rfl<;>obtain⟨h,rfl⟩:=h
    ·exact oH rfl (SC h (.inl ⟨rfl,rfl⟩)) (lw h rfl)
    ·exact oH rfl (SC h (.inr (.inl ⟨rfl,rfl⟩))) (lw h rfl)
    exact oH rfl (SC h (.inr (.inr ⟨rfl,rfl⟩))) (lw h rfl)
  | call _ _ | attr _ _ | idx _ _ | pC _ _ _=>exact ih (.dB _) d i j (SE b) h ho (by simp only[Nd.kind];omega)
  | uZ _ | eE _ | set _ _ | Cz _ _ | CA _ _ _ | CB _ _ _ | CC _ _ _ _=>exact ih (.shown _) d i j (SF b) h ho (by simp only[Nd.kind];omega)
  | bin _ _ _ _ | un _ _ | and _ _ | or _ _ | not _ | cmp _ _ _ | cond _ _ _ | lam _ _=>exact ih (.dJ _) d i j (M6 b) h ho (by simp[Nd.kind])
 ·simp only[pp,e] at h;obtain⟨h,rfl⟩:=h;exact⟨h,rfl⟩
 ·simp only[pp,e] at h;exact h
 simp only[pp,e] at h;exact ih (.maybe nJ n) d i j (by simp only[SR.me] at b⊢;omega) h
theorem ams(ih:mn ts f){b:Bool}{l:List Nd}{d i j:Nat}(c:SR.me (.bc b l)<f+1)(h:bt ts (pp (f+1) (.bc b l) d) i j):Rd ts (.bc b l) i j:=by
 rcases l with _ | ⟨n,l⟩
 ·exact h
 have e:SR.me (.at n 0)<f:=by simp only[SR.me,aq,aL] at c⊢;omega
 have g:SR.me (.bc true l)<f:=by simp only[SR.me,aq,aL] at c⊢;omega
 cases b<;>simp only[pp,aM,iT,iF,aG,aS,a6,eg,bt] at h;·obtain⟨k,h1,h2⟩:=h;exact⟨i,k,rfl,ih _ d _ _ e h1 Om,ih _ d _ _ g h2⟩
 obtain⟨o,k,h1,h2⟩:=h;exact⟨i+1,k,⟨o,rfl⟩,ih _ d _ _ e h1 Om,ih _ d _ _ g h2⟩
theorem amt(ih:mn ts f){b:Bool}{l:List Nd}{d i j:Nat}(c:SR.me (.bF b l)<f+1)(h:bt ts (pp (f+1) (.bF b l) d) i j):Rd ts (.bF b l) i j:=by
 rcases l with _ | ⟨n,l⟩
 ·exact h
 have e:SR.me (.at n 0)<f:=by simp only[SR.me,aq,aL] at c⊢;omega
 have g:SR.me (.bF true l)<f:=by simp only[SR.me,aq,aL] at c⊢;omega
 cases b<;>simp only[pp,aM,iT,iF,aG,aS,a6,eg,bt] at h;·obtain⟨k,h1,h2⟩:=h;exact⟨i,k,rfl,ih _ d _ _ e h1 Om,ih _ d _ _ g h2⟩
 obtain⟨o,k,h1,h2⟩:=h;exact⟨i+1,k,⟨o,rfl⟩,ih _ d _ _ e h1 Om,ih _ d _ _ g h2⟩
theorem amu(ih:mn ts f){b:Bool}{l:List Nd}{d i j:Nat}(c:SR.me (.bO b l)<f+1)(h:bt ts (pp (f+1) (.bO b l) d) i j):Rd ts (.bO b l) i j:=by
 rcases l with _ | ⟨n,_ | ⟨m,l⟩⟩
 ·exact h
 ·exact trivial
 have e:SR.me (.at n 0)<f:=by simp only[SR.me,aq,aL] at c⊢;omega
 have g:SR.me (.at m 0)<f:=by simp only[SR.me,aq,aL] at c⊢;omega
 have o:SR.me (.bO true l)<f:=by simp only[SR.me,aq,aL] at c⊢;omega
 cases b<;>simp only[pp,aM,iT,iF,aG,aS,a6,eg,bt] at h;·obtain⟨k,h1,h3,k',h4,h2⟩:=h;exact⟨i,k,k',rfl,ih _ d _ _ e h1 Om,h3,ih _ d _ _ g h4 Om,ih _ d _ _ o h2⟩
 obtain⟨q,k,h1,h3,k',h4,h2⟩:=h;exact⟨i+1,k,k',⟨q,rfl⟩,ih _ d _ _ e h1 Om,h3,ih _ d _ _ g h4 Om,ih _ d _ _ o h2⟩
theorem amv(ih:mn ts f){n:Nd}{l r:Nat}{s:List UInt8}{d i j:Nat}(c:SR.me (.two n l s r)<f+1)(h:bt ts (pp (f+1) (.two n l s r) d) i j):Rd ts (.two n l s r) i j:=by
 intro a b ks hk hl e;simp only[pp,hk,aG,aS,a6,eg,bt,amn] at h;obtain⟨k,h1,h2,h3⟩:=h;simp only[SR.me,hk,aq,aL] at c;exact⟨k,ih _ d _ _ Mt h1 hl,h2,ih _ d _ _ Mt h3 e⟩
theorem amw(ih:mn ts f){l:List Nd}{d i j:Nat}(o:SR.me (.clauses l)<f+1)(h:bt ts (pp (f+1) (.clauses l) d) i j):Rd ts (.clauses l) i j:=by
 rcases l with _ | ⟨c,l⟩
 ·exact h
 rw[pp] at h;obtain⟨k,h1,h2⟩:=eg.1 h;have g:=o;simp only[SR.me,aq,aL] at g;refine⟨k,⟨λln a e=> ?_,λln a b e=> ?_⟩,ih (.clauses l) d _ _ Mt h2⟩;·subst e;simp only[Nd.kind,Nd.kids,iT,aG,aS,a6,eg,bt] at h1;exact⟨h1.1,ih (.at a 1) d _ _ (by simp only[SR.me,Nd.kids,aq,aL] at g⊢;omega) h1.2 Om⟩
 subst e;simp only[Nd.kind,Nd.kids,Nat.reduceEqDiff,iF,aG,aS,a6,eg,bt] at h1;obtain⟨h3,k',h4,h5,q⟩:=h1;exact⟨k',h3,ih (.at a 9) d _ _ (by simp only[SR.me,Nd.kids,aq,aL] at g⊢;omega) h4 Om,h5,ih (.at b 1) d _ _ (by simp only[SR.me,Nd.kids,aq,aL] at g⊢;omega) q Om⟩
theorem amx(ih:mn ts f){l:List Nd}{d i j:Nat}(g:SR.me (.cV l)<f+1)(h:bt ts (pp (f+1) (.cV l) d) i j):Rd ts (.cV l) i j:=by
 rcases l with _ | ⟨c,l⟩
 ·exact h
 rw[pp] at h;obtain⟨k,h1,h2⟩:=eg.1 h;have b:=g;simp only[SR.me,aq,aL] at b;refine⟨k,λln o a e=> ?_,ih (.cV l) d _ _ Mt h2⟩;subst e;simp only[Nd.op,Nd.kids,aG,aS,a6,eg,bt] at h1;obtain⟨q,h3,h4⟩:=h1;exact⟨q,h3,ih (.at a 5) d _ _ (by simp only[SR.me,Nd.kids,aq,aL] at b⊢;omega) h4 Om⟩
end
section
variable {ts:List PT} {f:Nat}
theorem Fs.m{i a:Nat}(h : ∃m,a<=m/\m<=10/\Fs ts i m){b:Nat}(hb:b<=a):Fs ts i b:=by
 obtain⟨m,h1,h2,h3⟩:=h;exact h3.lo Om
theorem amy{j:Nat}(h:Sp ts j 8):Sp ts j 7:=λl s hs hl=>by
 refine h l s hs ?_;simp only[jr,js,Prod.mk.injEq,zo,or_false] at hs;omega
theorem amz{n b:Nd}{i j:Nat}(h:ic ts b 0 i j)(hb:bC b)(c:ah ts j=⟨9,0,ot⟩):Ga ts (.index (nl n)) i (nd 46 0 [nl n,nl b]) j:=by
 refine ba ?_;simp only[gr,(h.fs hb).no (s:=fZ) de,aM,iF,kQ];refine bv (h.ga hb (cW 0 c rfl)) ?_;simp only[aI (s:=eW) c rfl,aI (s:=fZ) c rfl,aM,iF];exact cf
theorem amA{n b c:Nd}{i k j:Nat}(h:ic ts b 0 i k)(hb:Cv b)(hk:ah ts k=⟨9,0,fZ⟩)(h':ic ts c 0 (k+1) j)(hc:Cv c)(e:ah ts j=⟨9,0,ot⟩):Ga ts (.index (nl n)) i (nd 47 0 [nl n,nl b,nl c]) j:=by
 refine ba ?_;rcases hb with hb | ⟨o,rfl⟩
 ·simp only[gr,(h.fs hb).no (s:=fZ) de,aM,iF,kQ];refine bv (h.ga hb (cW 0 hk rfl)) ?_;simp only[aI (s:=eW) hk rfl,cR hk rfl,aM,iF,iT];rcases hc with hc | ⟨g,rfl⟩
  ·simp only[(h'.fs hc).no (s:=ot) de,aM,iF];exact bv (h'.ga hc (cW 0 e rfl)) cf
  obtain rfl:k+1=j:=h'.2.2.1 rfl;simp only[cR e rfl,iT];exact cf
 obtain rfl:i=k:=h.2.2.1 rfl;simp only[gr,cR hk rfl,iT,kQ];refine iW (cR hk rfl) ?_;rcases hc with hc | ⟨g,rfl⟩
 ·simp only[(h'.fs hc).no (s:=ot) de,aM,iF];exact bv (h'.ga hc (cW 0 e rfl)) cf
 obtain rfl:i+1=j:=h'.2.2.1 rfl;simp only[cR e rfl,iT];exact cf
theorem amB(ih:mn ts f){n:Nd}{d i j:Nat}(t:SR.me (.dB n)<f+1)(h:bt ts (pp (f+1) (.dB n) d) i j):Rd ts (.dB n) i j:=by
 intro ho hk;cases qN ho with
 | call ha bq=>
   rename_i l a ks;simp only[pp,aE,am,dy,Nat.reduceEqDiff,false_and,iF,iT,aG,aS,a6,eg,bt] at h;simp only[SR.me,am,aq,aL] at t;obtain⟨k,h1,h2,k',h3,h4,rfl⟩:=h;have g:=ih (.at a 9) d _ _ Mt h1 Om;have o:=ih (.bc false ks) d _ _ Mt h3;refine⟨λr hs hl=>(g.e ha).1 r MY (ba ?_),Fs.m (g.e ha).2 (ag 9)⟩;simp only[gr,aI (s:=B4) h2 rfl,cR (s:=kY) h2 rfl,aM,iF,iT];refine Az (IY (acc:= []) (cl:=oq) (cR h4 rfl) de (cW 0 h4 rfl) (aI h4 rfl) o bq) ?_;refine iW (s:=oq) (cR h4 rfl) ?_;rw[kQ];exact hl
 | attr hx ha=>
   rename_i l x a;simp only[SR.me,am,aq,aL] at t;have key : ∀k,(CP ts i k 9 (nl a)/\Fs ts i 9)->ah ts k=⟨9,0,[46]⟩->ah ts (k+1)=⟨4,0,x⟩->k+1+1=j->XA ts (.mk 45 l x 0 [a]) i j:=by
    rintro k ⟨g,v⟩ h2 h3 rfl;refine⟨λr hs hl=>g r MY (ba ?_),v⟩;simp only[gr,cR (s:=B4) h2 rfl,iT];refine xc (by rw[h3]) ?_;rw[kQ,h3];exact hl
   by_cases hc:a.kind=30\/a.kind=31
   ·simp only[pp,aE,am,dy,true_and,hc,Nat.reduceEqDiff,iF,iT,aG,aS,a6,eg,bt] at h;obtain⟨h1,h2,h3,h4,h5,u⟩:=h;refine key _ ?_ h4 h5 u;have f1:Fs ts i 10:=lw h1 rfl;have q:XA ts a (i+1) (i+1+1):=by
     cases qN ha with
     | int h1=>exact oH rfl (Fq (k:=5) h2 Om Om) (lw h2 rfl)
     | Cy h1=>exact oH rfl (Fq (k:=6) h2 Om Om) (lw h2 rfl)
     | qf hx=>simp only[aE] at hc;omega
     | _=>simp[Nd.kind] at hc
    have w:gz a=10:=by unfold gz;rcases hc with hc | hc<;>simp[hc]
    unfold XA at q;rw[w] at q;have y:=abo h1 q.2 ((IV (ag _) (eZ _) q.2 q.1).ga (cW 0 h3 rfl)) h3;exact⟨IV (ag _) Om f1 (Su y),f1.lo Om⟩
   simp only[pp,aE,am,dy,true_and,hc,Nat.reduceEqDiff,iF,iT,aG,aS,a6,eg,bt] at h;obtain⟨k,h1,h2,h3,h4⟩:=h;have g:=ih (.at a 9) d _ _ Mt h1 Om;exact key k ⟨(g.e ha).1,Fs.m (g.e ha).2 (ag 9)⟩ h2 h3 h4
 | idx ha hb=>
   rename_i l a b;simp only[pp,aE,am,dy,Nat.reduceEqDiff,false_and,iF,iT,aG,aS,a6,eg,bt] at h;simp only[SR.me,am,aq,aL] at t;obtain⟨k,h1,h2,k',h3,h4,rfl⟩:=h;have g:=ih (.at a 9) d _ _ Mt h1 Om;have o:=ih (.at b 0) d _ _ Mt h3 Om;refine⟨λr hs hl=>(g.e ha).1 r MY (ba ?_),Fs.m (g.e ha).2 (ag 9)⟩;simp only[gr,aI (s:=B4) h2 rfl,aI (s:=kY) h2 rfl,cR (s:=pU) h2 rfl,aM,iF,iT];refine bv (amz (n:=a) o hb h4) ?_;exact iW (s:=ot) (cR h4 rfl) hl
 | pC ha hb hc=>
   rename_i l a b c;simp only[pp,aE,am,dy,Nat.reduceEqDiff,false_and,iF,iT,aG,aS,a6,eg,bt] at h;simp only[SR.me,am,aq,aL] at t;obtain⟨k,h1,h2,k',h3,h4,A,h5,u,rfl⟩:=h;have g:=ih (.at a 9) d _ _ Mt h1 Om;have o:=ih (.at b 0) d _ _ Mt h3 Om;have z:=ih (.at c 0) d _ _ Mt h5 Om;refine⟨λr hs hl=>(g.e ha).1 r MY (ba ?_),Fs.m (g.e ha).2 (ag 9)⟩;simp only[gr,aI (s:=B4) h2 rfl,aI (s:=kY) h2 rfl,cR (s:=pU) h2 rfl,aM,iF,iT];refine bv (amA (n:=a) o hb h4 z hc u) ?_;exact iW (s:=ot) (cR u rfl) hl
 | qf h=>simp only[aE] at hk;omega
 | _=>simp[Nd.kind] at hk
end
section
variable {ts:List PT} {f:Nat}
theorem abp{j:Nat}{s:List UInt8}(h:ah ts j=⟨9,0,s⟩)(e:s∉Cu):iO ts j=false:=by
 have hn : ∀t∈Cu,ai ts j t=false:=λt ht=>aI h (by
  unfold qM;apply decide_eq_false;rintro⟨_,rfl,_⟩;exact e ht)
 unfold iO;rw[hn qB de,hn lM de,hn qE de,hn qF de,hn qG de,hn ng de,hn oj de,hn kY de,hn pU de,hn wS de,h];simp
theorem amC{a:Nd}{ks:List Nd}{i k j:Nat}(h1:ic ts a 0 i k)(ha:bC a)(h2:r8 ts eW true ks k j)(hk:pj ks)(b:ah ts j=⟨9,0,ot⟩):Ga ts (.list 0) i (nd 51 0 (nl a::aK ks)) j:=by
 refine ba ?_;simp only[gr,(h1.fs ha).no (s:=ot) de,aM,iF];refine bv (h1.ga ha (IX h2 (cW 0 b rfl))) ?_;rcases za h2 with ⟨rfl,rfl⟩ | ⟨_,h4,h5⟩
 ·simp only[aI (s:=jN) b rfl,aI (s:=eW) b rfl,aM,iF];exact cf
 simp only[aI (s:=jN) h4 rfl,cR (s:=eW) h4 rfl,aM,iF,iT];refine Az (IY (cl:=ot) (acc:= []) (cR b rfl) de (cW 0 b rfl) (aI b rfl) h5 hk) ?_;exact cf
theorem amD{a:Nd}{ks:List Nd}{i k j:Nat}(h1:ic ts a 0 i k)(ha:bC a)(h2:r8 ts eW true ks k j)(hk:pj ks)(b:ah ts j=⟨9,0,rK⟩):Ga ts (.qJ 0) i (nd 53 0 (nl a::aK ks)) j:=by
 refine ba ?_;simp only[gr,(h1.fs ha).no (s:=rK) de,aM,iF];refine bv (h1.ga ha (IX h2 (cW 0 b rfl))) ?_;rcases za h2 with ⟨rfl,rfl⟩ | ⟨_,h4,h5⟩
 ·simp only[aI (s:=jN) b rfl,aI (s:=eW) b rfl,aI (s:=fZ) b rfl,aM,iF];exact cf
 simp only[aI (s:=jN) h4 rfl,aI (s:=fZ) h4 rfl,cR (s:=eW) h4 rfl,aM,iF,iT];refine Az (IY (cl:=rK) (acc:= []) (cR b rfl) de (cW 0 b rfl) (aI b rfl) h5 hk) ?_;exact cf
theorem amE{a:Nd}{ks:List Nd}{i k j:Nat}(h1:ic ts a 0 i k)(ha:bC a)(h2:r8 ts eW true ks k j)(hk:pj ks)(av:ks≠ [])(b:ah ts j=⟨9,0,oq⟩):Ga ts .exprs i (nd 52 0 (nl a::aK ks)) j:=by
 refine ba ?_;simp only[gr];refine bv (h1.ga ha (IX h2 (cW 0 b rfl))) ?_;rcases za h2 with ⟨rfl,rfl⟩ | ⟨_,h4,h5⟩
 ·exact absurd rfl av
 simp only[cR (s:=eW) h4 rfl,iT,kQ];exact abh (acc:= [nl a]) (abp b de) (cW 0 b rfl) (aI b rfl) h2 hk
theorem SG{l:List Nd}{i j:Nat}(h:y9 ts l i j)(hl : ∀n∈l,qe n)(av:rU l=true):ah ts i=⟨8,0,jN⟩:=by
 match l,h with
 | c::l,⟨k,h1,h2⟩=>
   rcases hl c s0 with ⟨ln,a,b,rfl,ha,hp,hb⟩ | ⟨ln,a,rfl,ha⟩
   ·obtain⟨k',e,g⟩:=h1.2 _ _ _ rfl;exact e
   cases av
theorem SH{l:List Nd}{i j:Nat}(h:y9 ts l i j)(hl : ∀n∈l,qe n)(av:rU l=true):ai ts i jN=true:=oG (SG h hl av) rfl
theorem SI{l:List Nd}{i j:Nat}(h:y9 ts l i j)(hl : ∀n∈l,qe n)(av:rU l=true):Sp ts i 0:=cW 0 (SG h hl av) rfl
theorem amF{l:List Nd}{i j:Nat}(h:y9 ts l i j)(hl : ∀n∈l,qe n)(av:rU l=true):ai ts i fZ=false:=aI (SG h hl av) rfl
theorem abq{i j:Nat}{n:Nd}(h1:ah ts i=⟨9,0,pU⟩)(h:Ga ts (.list 0) (i+1) n j)(h2:ah ts j=⟨9,0,ot⟩):Ga ts .atom i n (j+1):=by
 refine ba ?_;simp only[gr];refine vI (k9 h1) ?_;simp only[aI (s:=qE) h1 rfl,aI (s:=qF) h1 rfl,aI (s:=qG) h1 rfl,aI (s:=kY) h1 rfl,cR (s:=pU) h1 rfl,aM,iF,iT,h1];exact bv h (iW (cR h2 rfl) cf)
theorem M8{i j:Nat}{n:Nd}(h1:ah ts i=⟨9,0,wS⟩)(h:Ga ts (.qJ 0) (i+1) n j)(h2:ah ts j=⟨9,0,rK⟩):Ga ts .atom i n (j+1):=by
 refine ba ?_;simp only[gr];refine vI (k9 h1) ?_;simp only[aI (s:=qE) h1 rfl,aI (s:=qF) h1 rfl,aI (s:=qG) h1 rfl,aI (s:=kY) h1 rfl,aI (s:=pU) h1 rfl,cR (s:=wS) h1 rfl,aM,iF,iT,h1];exact bv h (iW (cR h2 rfl) cf)
theorem abr{i j:Nat}{n:Nd}(h1:ah ts i=⟨9,0,kY⟩)(b:ai ts (i+1) oq=false)(h:Ga ts .exprs (i+1) n j)(h2:ah ts j=⟨9,0,oq⟩):Ga ts .atom i n (j+1):=by
 refine ba ?_;simp only[gr];refine vI (k9 h1) ?_;simp only[aI (s:=qE) h1 rfl,aI (s:=qF) h1 rfl,aI (s:=qG) h1 rfl,cR (s:=kY) h1 rfl,b,aM,iF,iT];exact bv h (iW (cR h2 rfl) cf)
theorem SK{l:List Nd}{i j:Nat}{s:List UInt8}(h:y9 ts l i j)(hl : ∀n∈l,qe n)(b:ah ts j=⟨9,0,s⟩)(e:rJ s=false)(hs:Sp ts j 1):Ev (λf=>gr ts f (.clauses []) i) (.ok (aK l,j)):=by
 have h1:ai ts j jN=false:=Al (by rw[b];show(9:Int)≠8;decide);have h2:ai ts j kX=false:=Al (by rw[b];show(9:Int)≠8;decide);exact SB (acc:= []) h1 h2 hs h hl
theorem amG(ih:mn ts f){n:Nd}{d i j:Nat}(t:SR.me (.shown n)<f+1)(h:bt ts (pp (f+1) (.shown n) d) i j):Rd ts (.shown n) i j:=by
 intro ho hk;cases qN ho with
 | uZ bq=>
   rename_i l ks;simp only[pp,aE,am,Nat.reduceEqDiff,true_or,or_true,false_or,or_false,or_self,iF,iT,aG,aS,a6,eg,bt] at h;simp only[SR.me,am,aq,aL] at t;obtain⟨h1,k,h2,h3,rfl⟩:=h;have g:=ih (.bc false ks) d _ _ Mt h2;refine oH rfl (abq h1 ?_ h3) (lw h1 rfl);match ks,bq,g with
   | [],_,g=>
     obtain rfl:i+1=k:=g;refine ba ?_;simp only[gr,cR (s:=ot) h3 rfl,iT];exact cf
   | a::ks,bq,⟨o,k',e,c,q⟩=>
     obtain rfl:o=i+1:=e;exact amC c (bq a s0) q (λn hn=>bq n (by simp[hn])) h3
 | eE bq=>
   rename_i l ks;simp only[SR.me,am] at t;rcases ks with _ | ⟨a,_ | ⟨b,ks⟩⟩
   ·simp only[pp,aE,am,Nat.reduceEqDiff,true_or,or_true,false_or,or_false,or_self,iF,iT,aF,aG,aS,a6,eg,bt] at h;obtain⟨h1,k,h2,h3,rfl⟩:=h;obtain rfl:i+1=k:=ih (.bc false []) d _ _ Mt h2;refine oH rfl (ba ?_) (lw h1 rfl);simp only[gr];refine vI (k9 h1) ?_;simp only[aI (s:=qE) h1 rfl,aI (s:=qF) h1 rfl,aI (s:=qG) h1 rfl,cR (s:=kY) h1 rfl,cR (s:=oq) h3 rfl,h1,aM,iF,iT];exact cf
   ·simp only[pp,aE,am,Nat.reduceEqDiff,true_or,or_true,false_or,or_false,or_self,iF,iT,ay,aF,Nat.zero_add,aG,aS,a6,eg,bt] at h;obtain⟨h1,k,h2,h3,h4,rfl⟩:=h;obtain⟨o,k',e,c,q⟩:=ih (.bc false [a]) d _ _ Mt h2;obtain rfl:o=i+1:=e;obtain rfl:k'=k:=q;have ha:=bq a s0;refine oH rfl (abr h1 ((c.fs ha).no de) (ba ?_) h4) (lw h1 rfl);simp only[gr];refine bv (c.ga ha (Sx h3)) ?_;simp only[cR (s:=eW) h3 rfl,iT,kQ];refine ba ?_;simp only[gr,cR (s:=eW) h3 rfl,iT,abp h4 de,aM,iF];exact cf
   have B : ¬(a::b::ks).length=1:=by simp
   simp only[pp,aE,am,Nat.reduceEqDiff,true_or,or_true,false_or,or_false,or_self,iF,iT,B,aG,aS,a6,eg,bt] at h;obtain⟨h1,k,h2,h3,rfl⟩:=h;obtain⟨o,k',e,c,q⟩:=ih (.bc false (a::b::ks)) d _ _ Mt h2;obtain rfl:o=i+1:=e;have ha:=bq a s0;exact oH rfl (abr h1 ((c.fs ha).no de) (amE c ha q (λn hn=>bq n (by simp[hn])) s0 h3) h3) (lw h1 rfl)
 | set ha bq=>
   rename_i l a ks;simp only[pp,aE,am,Nat.reduceEqDiff,true_or,or_true,false_or,or_false,or_self,iF,iT,aG,aS,a6,eg,bt] at h;simp only[SR.me,am,aq,aL] at t;obtain⟨h1,k,h2,h3,rfl⟩:=h;obtain⟨o,k',e,c,q⟩:=ih (.bc false (a::ks)) d _ _ (by simp only[SR.me,aq,aL];omega) h2;obtain rfl:o=i+1:=e;exact oH rfl (M8 h1 (amD c ha q bq h3) h3) (lw h1 rfl)
 | Cz bq he=>
   rename_i l ks;simp only[pp,aE,am,Nat.reduceEqDiff,true_or,or_true,false_or,or_false,or_self,iF,iT,aG,aS,a6,eg,bt] at h;simp only[SR.me,am,aq,aL] at t;obtain⟨h1,k,h2,h3,rfl⟩:=h;have g:=ih (.bO false ks) d _ _ Mt h2;refine oH rfl (M8 h1 (ba ?_) h3) (lw h1 rfl);match ks,bq,he,g with
   | [],_,_,g=>
     obtain rfl:i+1=k:=g;simp only[gr,cR (s:=rK) h3 rfl,iT];exact cf
   | [_],_,he,_=>simp at he
   | a::b::ks,bq,he,⟨o,k',w,e,c,q,C,u⟩=>
     obtain rfl:o=i+1:=e;have ha:=bq a s0;have hb:=bq b s0;have x:ks.length % 2=0:=by simp only[ay] at he;omega
     have D:=abi u x (cW 0 h3 rfl);have y:ai ts w jN=false:=by
      match ks,u with
      | [],u=>obtain rfl:w=k:=u;exact aI h3 rfl
      | [_],_=>simp at x
      | _::_::_,⟨_,_,_,e,_⟩=>exact aI (show ah ts w=⟨9,0,eW⟩/\_ from e).1 rfl
     simp only[gr,(c.fs ha).no (s:=rK) de,aM,iF];refine bv (c.ga ha (cW 0 q rfl)) ?_;simp only[cR (s:=fZ) q rfl,iT];refine bv (C.ga hb D) ?_;simp only[y,aM,iF];exact abj (acc:= [nl a,nl b]) (cR h3 rfl) (cW 0 h3 rfl) (aI h3 rfl) u (λn hn=>bq n (by simp[hn])) x
 | CA ha av bq=>
   rename_i l a ks;simp only[pp,aE,am,Nat.reduceEqDiff,true_or,or_true,false_or,or_false,or_self,iF,iT,aG,aS,a6,eg,bt] at h;simp only[SR.me,am,aq,aL] at t;obtain⟨h1,k',h2,k,h3,h4,rfl⟩:=h;have g:=ih (.at a 0) d _ _ Mt h2 Om;have c:=ih (.clauses ks) d _ _ Mt h3;refine oH rfl (abq h1 (ba ?_) h4) (lw h1 rfl);have v:=SH c bq av;have E:Sp ts k' 0:=SI c bq av;simp only[gr,(g.fs ha).no (s:=ot) de,aM,iF];refine bv (g.ga ha E) ?_;simp only[v,iT];refine Az (SK c bq h4 rfl (cW 1 h4 rfl)) ?_;exact cf
 | CB ha av bq=>
   rename_i l a ks;simp only[pp,aE,am,Nat.reduceEqDiff,true_or,or_true,false_or,or_false,or_self,iF,iT,aG,aS,a6,eg,bt] at h;simp only[SR.me,am,aq,aL] at t;obtain⟨h1,k',h2,k,h3,h4,rfl⟩:=h;have g:=ih (.at a 0) d _ _ Mt h2 Om;have c:=ih (.clauses ks) d _ _ Mt h3;refine oH rfl (M8 h1 (ba ?_) h4) (lw h1 rfl);have v:=SH c bq av;simp only[gr,(g.fs ha).no (s:=rK) de,aM,iF];refine bv (g.ga ha (SI c bq av)) ?_;simp only[v,amF c bq av,aM,iF,iT];refine Az (SK c bq h4 rfl (cW 1 h4 rfl)) ?_;exact cf
 | CC ha hb av bq=>
   rename_i l a b ks;simp only[pp,aE,am,Nat.reduceEqDiff,true_or,or_true,false_or,or_false,or_self,iF,iT,aG,aS,a6,eg,bt] at h;simp only[SR.me,am,aq,aL] at t;obtain⟨h1,k',h2,k,h3,h4,rfl⟩:=h;obtain⟨o,k1,F,e,z,A,G,H⟩:=ih (.bO false [a,b]) d _ _ (by simp only[SR.me,aq,aL];omega) h2;obtain rfl:o=i+1:=e;obtain rfl:F=k':=H;have c:=ih (.clauses ks) d _ _ Mt h3;refine oH rfl (M8 h1 (ba ?_) h4) (lw h1 rfl);have v:=SH c bq av;simp only[gr,(z.fs ha).no (s:=rK) de,aM,iF];refine bv (z.ga ha (cW 0 A rfl)) ?_;simp only[cR (s:=fZ) A rfl,iT];refine bv (G.ga hb (SI c bq av)) ?_;simp only[v,iT];refine Az (SK c bq h4 rfl (cW 1 h4 rfl)) ?_;exact cf
 | qf h=>simp only[aE] at hk;omega
 | _=>simp[Nd.kind] at hk
end
section
variable {ts:List PT} {f:Nat}
theorem zb(ih:mn ts f){n a b:Nd}{ks:List Nd}{l r:Nat}{s:List UInt8}{d i j:Nat}(c:SR.me (.dJ n)<f+1)(hk:n.kids=a::b::ks)(hl:l<=10)(e:r<=10)(h:bt ts (pp f (.two n l s r) d) i j) : ∃k,ic ts a l i k/\ah ts k=⟨if s=qD\/s=qC then 8 else 9,0,s⟩/\ic ts b r (k+1) j:=
 ih (.two n l s r) d i j (by simp only[SR.me] at c⊢;omega) h a b ks hk hl e
theorem qO{n:Nd}{i j m:Nat}(e:gz n=m)(h:CP ts i j m (nl n))(g:Fs ts i m):XA ts n i j:=by subst e;exact⟨h,g⟩
theorem amI{c:Prop}[Decidable c]{i j:Nat}(h:bt ts (if c then [Pc.sp] else []) i j):i=j:=by split at h<;>exact h
theorem amJ(ih:mn ts f){n:Nd}{d i j:Nat}(g:SR.me (.dJ n)<f+1)(h:bt ts (pp (f+1) (.dJ n) d) i j):Rd ts (.dJ n) i j:=by
 intro ho hk;cases qN ho with
 | bin o1 o2 ha hb=>
   rename_i l o a b;simp only[pp,aE,fx,Nat.reduceEqDiff,iF,iT] at h;obtain rfl | rfl | rfl | rfl | rfl | rfl | rfl:o=1\/o=2\/o=3\/o=4\/o=5\/o=6\/o=7:=by omega
   ·obtain⟨k,h1,h2,h3⟩:=zb (l:=5) (r:=6) (s:=ng) ih g rfl de de h;refine qO (m:=5) rfl (λr hs hl=>(h1.e ha).1 r (cW 6 h2 rfl) (ba ?_)) (Fs.m (h1.e ha).2 (ag 5));simp only[gr,gY (s:=ng) h2 rfl,iT,kQ];exact bv (h3.ga hb hs) hl
   ·obtain⟨k,h1,h2,h3⟩:=zb (l:=5) (r:=6) (s:=oj) ih g rfl de de h;refine qO (m:=5) rfl (λr hs hl=>(h1.e ha).1 r (cW 6 h2 rfl) (ba ?_)) (Fs.m (h1.e ha).2 (ag 5));simp only[gr,aI (s:=ng) h2 rfl,gY (s:=oj) h2 rfl,aM,iF,iT,kQ];exact bv (h3.ga hb hs) hl
   ·obtain⟨k,h1,h2,h3⟩:=zb (l:=6) (r:=7) (s:=Ah) ih g rfl de de h;refine qO (m:=6) rfl (λr hs hl=>(h1.e ha).1 r (cW 7 h2 rfl) (ba ?_)) (Fs.m (h1.e ha).2 (ag 6));simp only[gr,gY (s:=Ah) h2 rfl,iT,kQ];exact bv (h3.ga hb hs) hl
   ·obtain⟨k,h1,h2,h3⟩:=zb (l:=6) (r:=7) (s:=B3) ih g rfl de de h;refine qO (m:=6) rfl (λr hs hl=>(h1.e ha).1 r (cW 7 h2 rfl) (ba ?_)) (Fs.m (h1.e ha).2 (ag 6));simp only[gr,aI (s:=Ah) h2 rfl,gY (s:=B3) h2 rfl,aM,iF,iT,kQ];exact bv (h3.ga hb hs) hl
   ·obtain⟨k,h1,h2,h3⟩:=zb (l:=6) (r:=7) (s:=EO) ih g rfl de de h;refine qO (m:=6) rfl (λr hs hl=>(h1.e ha).1 r (cW 7 h2 rfl) (ba ?_)) (Fs.m (h1.e ha).2 (ag 6));simp only[gr,aI (s:=Ah) h2 rfl,aI (s:=B3) h2 rfl,gY (s:=EO) h2 rfl,aM,iF,iT,kQ];exact bv (h3.ga hb hs) hl
   ·obtain⟨k,h1,h2,h3⟩:=zb (l:=6) (r:=7) (s:=Io) ih g rfl de de h;refine qO (m:=6) rfl (λr hs hl=>(h1.e ha).1 r (cW 7 h2 rfl) (ba ?_)) (Fs.m (h1.e ha).2 (ag 6));simp only[gr,aI (s:=Ah) h2 rfl,aI (s:=B3) h2 rfl,aI (s:=EO) h2 rfl,gY (s:=Io) h2 rfl,aM,iF,iT,kQ];exact bv (h3.ga hb hs) hl
   obtain⟨k,h1,h2,h3⟩:=zb (l:=9) (r:=7) (s:=Ip) ih g rfl de de h;have t:=Fs.m (h1.e ha).2 (ag 9);refine qO (m:=8) rfl ?_ (t.lo de);rintro r hs ⟨hl,rfl⟩;refine ba ?_;simp only[nm,gr,(t.pl Om).1,(t.pl Om).2,aM,iF];refine bv (h1.ga ha (cW 9 h2 rfl)) ?_;simp only[gY (s:=Ip) h2 rfl,iT,kQ];exact bv (h3.ga hb (amy hl)) cf
 | un v ha=>
   rename_i l o a;simp only[pp,aE,am,fx,Nat.reduceEqDiff,iF,iT,aS,a6,bt] at h;obtain⟨h1,h2⟩:=h;simp only[SR.me,am,aq,aL] at g;have q:=ih (.at a 7) d _ _ Mt h2 Om;rcases v with rfl | rfl
   ·refine qO (m:=7) rfl ?_ (lw h1 rfl);rintro r hs ⟨hl,rfl⟩;refine ba ?_;simp only[nm,gr,aI (s:=ng) h1 rfl,gY (s:=oj) h1 rfl,aM,iF,iT,h1];exact bv (q.ga ha hl) cf
   refine qO (m:=7) rfl ?_ (lw h1 rfl);rintro r hs ⟨hl,rfl⟩;refine ba ?_;simp only[nm,gr,gY (s:=ng) h1 rfl,iT,h1];exact bv (q.ga ha hl) cf
 | and ha hb=>
   simp only[pp,aE,fx,Nat.reduceEqDiff,iF,iT] at h;obtain⟨k,h1,h2,h3⟩:=zb (l:=2) (r:=3) (s:=qD) ih g rfl de de h;refine qO (m:=2) rfl (λr hs hl=>(h1.e ha).1 r (cW 3 h2 rfl) (ba ?_)) (Fs.m (h1.e ha).2 (ag 2));simp only[gr,gY (s:=qD) h2 rfl,iT,kQ];exact bv (h3.ga hb hs) hl
 | or ha hb=>
   simp only[pp,aE,fx,Nat.reduceEqDiff,iF,iT] at h;obtain⟨k,h1,h2,h3⟩:=zb (l:=1) (r:=2) (s:=qC) ih g rfl de de h;refine qO (m:=1) rfl (λr hs hl=>(h1.e ha).1 r (cW 2 h2 rfl) (ba ?_)) (Fs.m (h1.e ha).2 (ag 1));simp only[gr,gY (s:=qC) h2 rfl,iT,kQ];exact bv (h3.ga hb hs) hl
 | not ha=>
   rename_i l a;simp only[pp,aE,am,fx,Nat.reduceEqDiff,iF,iT,aS,a6,bt] at h;obtain⟨h1,h2⟩:=h;simp only[SR.me,am,aq,aL] at g;have q:=ih (.at a 3) d _ _ Mt h2 Om;refine qO (m:=3) rfl ?_ (lw h1 rfl);rintro r hs ⟨hl,rfl⟩;refine ba ?_;simp only[nm,gr,gY (s:=lM) h1 rfl,iT,h1];exact bv (q.ga ha hl) cf
 | cmp ha hn bq=>
   rename_i l a ks;simp only[pp,aE,am,fx,Nat.reduceEqDiff,iF,iT,eg] at h;obtain⟨k,h1,h2⟩:=h;simp only[SR.me,am,aq,aL] at g;have u:=ih (.at a 5) d _ _ Mt h1 Om;have q:=ih (.cV ks) d _ _ Mt h2;refine qO (m:=4) rfl ?_ (Fs.m (u.e ha).2 (show 4<=5 by omega));rintro r hs ⟨hl,rfl⟩;refine ba ?_;simp only[nm,gr];refine bv (u.ga ha (abm q bq (hl.up Om))) ?_;have:=abn (n:=nl a) (acc:= []) hl q bq hn;rw[kQ] at this;exact this
 | cond ha hb hc=>
   rename_i l a b c;simp only[pp,aE,am,fx,Nat.reduceEqDiff,iF,iT,aG,aS,a6,eg,bt] at h;obtain⟨k,h1,h2,k',h3,h4,h5⟩:=h;simp only[SR.me,am,aq,aL] at g;have u:=ih (.at b 1) d _ _ Mt h1 Om;have w:=ih (.at a 1) d _ _ Mt h3 Om;have x:=ih (.at c 0) d _ _ Mt h5 Om;have t:=Fs.m (u.e hb).2 (ag 1);refine qO (m:=0) rfl ?_ (t.lo de);rintro r hs ⟨hl,rfl⟩;refine ba ?_;simp only[nm,gr,t.lm (ag 1),aM,iF];refine bv (u.ga hb (cW 1 h2 rfl)) ?_;simp only[oG (s:=kX) h2 rfl,iT,kQ];refine bv (w.ga ha (cW 1 h4 rfl)) (iW (oG h4 rfl) (bv (x.ga hc hl) cf))
 | lam hp he=>
   rename_i l l' ps e;simp only[pp,aE,am,fx,Nat.reduceEqDiff,iF,iT,aG,aS,a6,eg,bt,amo] at h;obtain⟨h1,y,z,k,h2,h3,h4⟩:=h;obtain rfl:i+1=y:=amI z;simp only[SR.me,am,aq,aL] at g;have q:=ih (.bc false ps) d _ _ Mt h2;have A:=ih (.at e 0) d _ _ Mt h4 Om;refine qO (m:=0) rfl ?_ (lw h1 rfl);rintro r hs ⟨hl,rfl⟩;refine ba ?_;simp only[nm,gr,oG (s:=qB) h1 rfl,iT,h1];refine bv (Sy (acc:= []) (cR h3 rfl) (aI h3 rfl) q hp) (iW (cR h3 rfl) (bv (A.ga he hl) cf))
 | qf h=>simp only[aE] at hk;omega
 | _=>simp[Nd.kind] at hk
end
inductive oI:Nd->Prop where
 | exp {l v} (hv:AA v):oI (.mk 2 l [] 0 [v])
 | bF {l ks v} (hn:ks≠ []) (hk : ∀n∈ks,bC n/\fv n=true) (hv:AA v):oI (.mk 3 l [] 0 (ks++ [v]))
 | M9 {l o a b} (o1:1<=o) (o2:o<=7) (ha:bC a) (hs:nK a=true) (hb:bC b):oI (.mk 4 l [] o [a,b])
 | tb {k l} (hk:k=10\/k=14):oI (.mk k l [] 0 [])
 | tc {k l a} (hk:k=10\/k=14) (ha:bC a):oI (.mk k l [] 0 [a])
 | Na {l a} (ha:bC a):oI (.mk 20 l [] 0 [a])
 | td {k l} (hk:k=11\/k=12\/k=13):oI (.mk k l [] 0 [])
 | te {k l ks} (hk:k=17\/k=18) (hn:ks≠ []) (bq : ∀n∈ks,Cx n):oI (.mk k l [] 0 ks)
 | del {l a} (ha:bC a) (hs:nK a=true):oI (.mk 19 l [] 0 [a])
 | Nb {l a b} (ha:bC a) (hb:okB b):oI (.mk 5 l [] 0 [a,b])
 | Nc {l a b e} (ha:bC a) (hb:okB b) (he:okB e):oI (.mk 5 l [] 0 [a,b,e])
 | Nf {l a b} (ha:bC a) (hb:okB b):oI (.mk 6 l [] 0 [a,b])
 | fr {l a b c} (ha:bC a) (hp:fv a=true) (hb:bC b) (hc:okB c):oI (.mk 7 l [] 0 [a,b,c])
 | df {l x l' ps b} (hx:iV 4 x) (hp : ∀n∈ps,Cx n) (hb:okB b):oI (.mk 8 l x 0 [.mk 23 l' [] 0 ps,b])
 | cls {l x l' ps b} (hx:iV 4 x) (hp:pj ps) (hb:okB b):oI (.mk 9 l x 0 [.mk 24 l' [] 0 ps,b])
 | tr {l b h t} (hb:okB b) (hh : ∀n∈h,vJ n) (hd : ∀n∈h.dropLast,n.kids.length=2) (ht:t= []\/∃y,t= [y]/\okF y) (hn:h++t≠ []):oI (.mk 15 l [] 0 (b::(h++t)))
 | Ng {l x e b} (hx:x= []\/iV 4 x) (he:bC e) (hb:okB b):oI (.mk 16 l x 0 [e,b])
theorem tW{b:Nd}(h:fg b)(hk:b.kind=1):okB b:=by
 obtain⟨k,l,x,o,ks⟩:=b;obtain⟨h1,h2⟩:=h;obtain rfl:k=1:=hk;simp[bU] at h1;obtain⟨rfl,rfl,c,e⟩:=h1;exact⟨l,ks,rfl,c,λn hn=>⟨rZ h2 n hn,e n hn⟩⟩
theorem amK{h:Nd}(hw:fg h)(hk:h.kind=21):vJ h:=by
 obtain⟨k,l,x,o,ks⟩:=h;obtain⟨h1,h2⟩:=hw;obtain rfl:k=21:=hk;simp[bU] at h1;obtain⟨⟨rfl,b,rfl,hb⟩ | ⟨hx,e,b,rfl,he,hb⟩,rfl⟩:=h1;·exact .inl ⟨l,b,rfl,tW h2.1 hb⟩
 exact .inr ⟨l,x,e,b,rfl,hx,⟨h2.1,he⟩,tW h2.2.1 hb⟩
theorem amL{h:Nd}(hw:fg h)(hk:h.kind=22):okF h:=by
 obtain⟨k,l,x,o,ks⟩:=h;obtain⟨h1,h2⟩:=hw;obtain rfl:k=22:=hk;simp[bU] at h1;obtain⟨rfl,rfl,b,rfl,hb⟩:=h1;exact⟨l,b,rfl,tW h2.1 hb⟩
theorem tX{n:Nd}(h:lT n):oI n:=by
 obtain⟨k,l,x,o,ks⟩:=n;obtain⟨⟨h1,h2⟩,A,B⟩:=h;replace A:2<=k:=A;replace B:k<=20:=B;rcases h1 with h | h | h | h | h | h | h | h | h | h | h | h | h | h | h | h | h | h | h | h | h | h | h | h | h | h | h | h | h | h | h | h | h | h | h | h | h | h | h | h | h | h | h
 all_goals try omega
 ·obtain⟨h,rfl,rfl,rfl⟩:=h;exact .td Om
 ·obtain⟨h,rfl,rfl,rfl | ⟨a,rfl,ha⟩⟩:=h;·exact .tb Om
  exact .tc Om ⟨h2.1,ha⟩
 ·obtain⟨rfl,rfl,rfl,a,rfl,ha⟩:=h;exact .Na ⟨h2.1,ha⟩
 ·obtain⟨rfl,rfl,rfl,v,rfl,hv⟩:=h;exact .exp (abf h2.1 hv)
 ·obtain⟨rfl,rfl,rfl,ks,v,rfl,hn,hv,hk⟩:=h;have g:=rZ h2;exact .bF hn (λn q=>⟨⟨g n (by simp[q]),(hk n q).1⟩,(hk n q).2⟩) (abf (g v s0) hv)
 ·obtain⟨rfl,rfl,o1,o2,a,b,rfl,ha,hs,hb⟩:=h;exact .M9 o1 o2 ⟨h2.1,ha⟩ hs ⟨h2.2.1,hb⟩
 ·obtain⟨rfl,rfl,rfl,a,rfl,ha,hs⟩:=h;exact .del ⟨h2.1,ha⟩ hs
 ·obtain⟨h,rfl,rfl,hn,hk⟩:=h;exact .te h hn λn q=>Sv (rZ h2 n q) (hk n q)
 ·obtain⟨rfl,rfl,rfl,a,b,r,rfl,ha,hb,rfl | ⟨e,rfl,he⟩⟩:=h;·exact .Nb ⟨h2.1,ha⟩ (tW h2.2.1 hb)
  exact .Nc ⟨h2.1,ha⟩ (tW h2.2.1 hb) (tW h2.2.2.1 he)
 ·obtain⟨rfl,rfl,rfl,a,b,rfl,ha,hb⟩:=h;exact .Nf ⟨h2.1,ha⟩ (tW h2.2.1 hb)
 ·obtain⟨rfl,rfl,rfl,a,b,c,rfl,ha,hp,hb,hc⟩:=h;exact .fr ⟨h2.1,ha⟩ hp ⟨h2.2.1,hb⟩ (tW h2.2.2.1 hc)
 ·obtain⟨rfl,hx,rfl,a,b,rfl,ha,hb⟩:=h;obtain⟨k,l',y,o,ps⟩:=a;obtain rfl:k=23:=ha;obtain⟨⟨u,w⟩,z⟩:=h2;simp[bU] at u;obtain⟨rfl,rfl,u⟩:=u;exact .df hx (λn hn=>Sv (rZ w n hn) (u n hn)) (tW z.1 hb)
 ·obtain⟨rfl,hx,rfl,a,b,rfl,ha,hb⟩:=h;obtain⟨k,l',y,o,ps⟩:=a;obtain rfl:k=24:=ha;obtain⟨⟨u,w⟩,z⟩:=h2;simp[bU] at u;obtain⟨rfl,rfl,u⟩:=u;exact .cls hx (Fm w u) (tW z.1 hb)
 ·obtain⟨rfl,rfl,rfl,b,r,rfl,hb,hn,h,t,rfl,hh,hd,ht⟩:=h;have g:=rZ h2.2;refine .tr (tW h2.1 hb) (λn q=>amK (g n (by simp[q])) (hh n q)) hd ?_ hn;rcases ht with rfl | ⟨y,rfl,C⟩
  ·exact .inl rfl
  exact .inr ⟨y,rfl,amL (g y s0) C⟩
 obtain⟨rfl,hx,rfl,e,b,rfl,he,hb⟩:=h;exact .Ng hx ⟨h2.1,he⟩ (tW h2.2.1 hb)
section
variable {ts:List PT} {f:Nat}
theorem xd{j:Nat}(h:ah ts j=⟨1,0,[]⟩)(s:List UInt8):ai ts j s=false:=Al (by rw[h];show ¬(1:Int)=_;split<;>decide)
theorem Ft{j:Nat}(h:ah ts j=⟨1,0,[]⟩):Sp ts j 0:=λl s _ _=>xd h s
theorem amM{j:Nat}(h:ah ts j=⟨1,0,[]⟩):iO ts j=false:=ZF (by rw[h];decide) (by rw[h];decide) (by rw[h];decide)
theorem amN{j:Nat}(h:ah ts j=⟨1,0,[]⟩):fk ts j=0:=by
 unfold fk;simp only[xd h,aM,iF]
theorem CD{n:Nd}{i j:Nat}(h:ic ts n 0 i j)(hn:bC n)(hs:Sp ts j 0)(hc:ai ts j eW=false):Ga ts .exprs i (nl n) j:=by
 refine ba ?_;simp only[gr];refine bv (h.ga hn hs) ?_;simp only[hc,aM,iF];exact cf
theorem IW.ga{n:Nd}{i j:Nat}(h:IW ts n i j)(hn:bC n)(hs:Sp ts j 0):Ga ts .expr i (nl n) j:=(h hn).1.ga hs
theorem AC{s:List UInt8}{n:Nd}{k:Nat}{all:Bool}{i j:Nat}(h:YD ts s n i j)(hk:n.kids= []\/∃a,n.kids= [a]/\bC a)(b:ah ts j=⟨1,0,[]⟩):Ga ts (.maybe k 0 all) (i+1) (nd k 0 (aK n.kids)) j:=by
 obtain⟨h1,h2⟩:=h;refine ba ?_;rcases hk with hk | ⟨a,hk,ha⟩
 ·rw[hk] at h2⊢;obtain rfl:j=i+1:=h2;simp only[gr,amM b,aM,iF];exact cf
 rw[hk] at h2⊢;replace h2:IW ts a (i+1) j:=h2;obtain⟨_,m,_,e⟩:=h2 ha;simp only[gr,e.beg,iT];have c:=h2.ga ha (Ft b);cases all;·simp only[aM,iF];exact bv c cf
 simp only[iT];refine bv (j:=j) (n:=nl a) (ba ?_) cf;simp only[gr];refine bv c ?_;simp only[xd b,aM,iF];exact cf
theorem amO{v:Nd}{i j:Nat}(h:ic ts v 0 i j)(hv:AA v)(b:ah ts j=⟨1,0,[]⟩):Ga ts .value i (nl v) j:=by
 refine ba ?_;rcases hv with hv | ⟨l,rfl⟩ | ⟨l,a,rfl,ha⟩
 ·simp only[gr,(h.fs hv).no (s:=nJ) de,aM,iF];exact CD h hv (Ft b) (xd b _)
 ·have h1:=h.2.2.2 rfl;simp only[gr,oG h1.1 rfl,iT,h1.1];exact AC h1 (.inl rfl) b
 have h1:=h.2.2.2 rfl;simp only[gr,oG h1.1 rfl,iT,h1.1];exact AC h1 (.inr ⟨a,rfl,ha⟩) b
theorem abt{v:Nd}(hv:AA v){j:Nat}(b:ah ts j=⟨1,0,[]⟩) : ∀ {l:List Nd} {i:Nat} {acc:List Nd} {p:Nd},fv p=true->r8 ts uY true (l++ [v]) i j->(∀n∈l,bC n/\fv n=true)->Ev (λf=>gr ts f (.jo 0 (acc++ [p])) i) (.ok ([nd 3 0 (acc++ [p]++aK (l++ [v]))],j))
 | [],i,acc,p,hp,⟨c,k,h1,h2,h3⟩,_=>by
   obtain⟨h1,rfl⟩:ah ts i=⟨9,0,uY⟩/\c=i+1:=h1;obtain rfl:k=j:=h3;have o:(acc++ [p]).getLast? = some p:=by simp
   refine ba ?_;simp only[gr,cR h1 rfl,iT,o,hp];refine bv (amO h2 hv b) (ba ?_);simp only[gr,xd b,aM,iF,a6,aK];exact cf
 | n::l,i,acc,p,hp,⟨c,k,h1,h2,h3⟩,g=>by
   obtain⟨h1,rfl⟩:ah ts i=⟨9,0,uY⟩/\c=i+1:=h1;have o:(acc++ [p]).getLast? = some p:=by simp
   obtain⟨q,t⟩:=g n s0;have h4:ah ts k=⟨9,0,uY⟩:=by
    rcases za h3 with ⟨e,_⟩ | ⟨_,h4,_⟩
    ·exact absurd e s0
    exact h4
   refine ba ?_;simp only[gr,cR h1 rfl,iT,o,hp];refine bv (n:=nl n) (j:=k) (ba ?_) ?_;·simp only[gr,(h2.fs q).no (s:=nJ) de,aM,iF];exact CD h2 q (cW 0 h4 rfl) (aI h4 rfl)
   have:=abt hv b (acc:=acc++ [p]) (p:=nl n) (by rw[Fp];exact t) h3 λm u=>g m (by simp[u]);simpa only[aG,aS,a6,aK] using this
theorem abu{i:Nat}{w s:List UInt8}(h:ah ts i=⟨8,0,w⟩)(e:s≠w):ai ts i s=false:=aI h (by
 unfold qM;apply decide_eq_false;rintro⟨_,rfl,_⟩;exact e rfl)
theorem mq{i:Nat}{w:List UInt8}(h:ah ts i=⟨8,0,w⟩)(e:w ∉ [sN,wR,rM,B6]):IZ ts i:=
 ⟨by rw[h];show(4:Int)<=8;decide,λs hs=>abu h λe'=>e (e'▸hs)⟩
theorem SM{i m:Nat}(h:Fs ts i m):IZ ts i:=⟨h.kd.1,λs hs=>h.no (by
 simp only[js,zo,or_false] at hs;rcases hs with rfl | rfl | rfl | rfl<;>decide)⟩
theorem SO{i m:Nat}(h:Fs ts i m) : ∀s∈I0,ai ts i s=false:=λs hs=>h.no (by
 simp only[I0,js,zo,or_false] at hs;rcases hs with rfl | rfl | rfl | rfl | rfl | rfl | rfl<;>decide)
theorem tf{i:Nat}{w:List UInt8}(h:ah ts i=⟨8,0,w⟩)(e:w∉I0) : ∀s∈I0,ai ts i s=false:=λs hs=>abu h λe'=>e (e'▸hs)
theorem SQ{i m j:Nat}{n:Nd}(h:Fs ts i m)(g:Ga ts .plain i n j):Ga ts .simple i n j:=by
 refine ba ?_;simp only[gr,h.no (s:=pV) de,h.no (s:=qH) de,h.no (s:=rL) de,h.no (s:=ou) de,h.no (s:=pW) de,h.no (s:=yS) de,h.no (s:=Ai) de,h.no (s:=Aj) de,h.no (s:=nJ) de,h.no (s:=Me) de,aM,iF];exact g
theorem abv(n:Nd):nK (nl n)=nK n:=by unfold nK;rw[jR]
theorem ic.ff{n:Nd}{a i j:Nat}(h:ic ts n a i j)(hn:bC n):Fs ts i 0:=(h.fs hn).lo (eZ _)
end
section
variable {ts:List PT} {f:Nat}
theorem CE{a b:Nd}{o i j k:Nat}{s:List UInt8}(h1:ic ts a 0 i k)(ha:bC a)(hs:nK a=true)(h2:ah ts k=⟨9,0,s⟩)(e:qM ⟨9,0,s⟩ eW=false)(g:qM ⟨9,0,s⟩ uY=false)(h:fk ts k=o)(p:Sp ts k 0)(ho:o≠0)(h3:ic ts b 0 (k+1) j)(hb:bC b)(c:ah ts j=⟨1,0,[]⟩):Ga ts .plain i (.mk 4 0 [] o [nl a,nl b]) j:=by
 refine ba ?_;simp only[gr];refine bv (CD h1 ha p (aI h2 e)) ?_;simp only[aI h2 g,h,iN ho,abv,hs,aM,iF,iT,kQ];exact bv (CD h3 hb (Ft c) (xd c _)) cf
theorem amP(ih:mn ts f){n:Nd}{d i j:Nat}(g:SR.me (.simple n)<f+1)(h:bt ts (pp (f+1) (.simple n) d) i j):Rd ts (.simple n) i j:=by
 intro hk ho;cases tX ho with
 | exp hv=>
   rename_i l v;simp only[pp,aE,am,Nat.reduceEqDiff,iF,iT] at h;simp only[SR.me,am] at g;obtain⟨t,k,e,h1,u⟩:=ih (.bc false [v]) d _ _ Mt h;obtain rfl:t=i:=e;obtain rfl:k=j:=u;rcases hv with hv | ⟨w,rfl⟩ | ⟨w,a,rfl,ha⟩
   ·refine⟨SM (h1.ff hv),SO (h1.ff hv),λc=>SQ (h1.ff hv) (ba ?_)⟩;simp only[gr];refine bv (CD h1 hv (Ft c) (xd c _)) ?_;simp only[xd c,amN c,aM,iF,iT,kQ];exact cf
   ·have h2:=h1.2.2.2 rfl;refine⟨mq h2.1 de,tf h2.1 de,λc=>ba ?_⟩;have h3:=h2.1;simp only[gr,aI (s:=pV) h3 rfl,aI (s:=qH) h3 rfl,aI (s:=rL) h3 rfl,aI (s:=ou) h3 rfl,aI (s:=pW) h3 rfl,aI (s:=yS) h3 rfl,aI (s:=Ai) h3 rfl,aI (s:=Aj) h3 rfl,gY (s:=nJ) h3 rfl,aM,iF,iT,h3];exact bv (AC h2 (.inl rfl) c) cf
   have h2:=h1.2.2.2 rfl;refine⟨mq h2.1 de,tf h2.1 de,λc=>ba ?_⟩;have h3:=h2.1;simp only[gr,aI (s:=pV) h3 rfl,aI (s:=qH) h3 rfl,aI (s:=rL) h3 rfl,aI (s:=ou) h3 rfl,aI (s:=pW) h3 rfl,aI (s:=yS) h3 rfl,aI (s:=Ai) h3 rfl,aI (s:=Aj) h3 rfl,gY (s:=nJ) h3 rfl,aM,iF,iT,h3];exact bv (AC h2 (.inr ⟨a,rfl,ha⟩) c) cf
 | bF hn bq hv=>
   rename_i l ks v;simp only[pp,aE,am,Nat.reduceEqDiff,iF,iT] at h;simp only[SR.me,am] at g;have x:=ih (.bF false (ks++ [v])) d _ _ Mt h;match ks,hn,bq,x with
   | a::ks,_,bq,⟨t,k,e,h1,h2⟩=>
     obtain rfl:t=i:=e;obtain⟨ha,hp⟩:=bq a s0;have h4:ah ts k=⟨9,0,uY⟩:=by
      rcases za h2 with ⟨e,_⟩ | ⟨_,h4,_⟩
      ·exact absurd e s0
      exact h4
     refine⟨SM (h1.ff ha),SO (h1.ff ha),λc=>SQ (h1.ff ha) (ba ?_)⟩;simp only[gr];refine bv (CD h1 ha (cW 0 h4 rfl) (aI h4 rfl)) ?_;simp only[cR (s:=uY) h4 rfl,iT,kQ];exact abt hv c (acc:= []) (p:=nl a) (by rw[Fp];exact hp) h2 λm g=>bq m (by simp[g])
 | M9 o1 o2 ha hs hb=>
   rename_i l o a b;simp only[pp,aE,fx,Nat.reduceEqDiff,iF,iT] at h;obtain⟨k,h1,h2,h3⟩:=ih (.two (.mk 4 l [] o [a,b]) 0 (jP mO o++ [61]) 0) d _ _ (by simp only[SR.me] at g⊢;omega) h a b [] rfl de de;refine⟨SM (h1.ff ha),SO (h1.ff ha),λc=>SQ (h1.ff ha) ?_⟩;obtain rfl | rfl | rfl | rfl | rfl | rfl | rfl:o=1\/o=2\/o=3\/o=4\/o=5\/o=6\/o=7:=by omega
   ·exact CE (s:=L8) h1 ha hs h2 rfl rfl (by unfold fk;simp only[lS,h2];rfl) (cW 0 h2 rfl) de h3 hb c
   ·exact CE (s:=L9) h1 ha hs h2 rfl rfl (by unfold fk;simp only[lS,h2];rfl) (cW 0 h2 rfl) de h3 hb c
   ·exact CE (s:=L') h1 ha hs h2 rfl rfl (by unfold fk;simp only[lS,h2];rfl) (cW 0 h2 rfl) de h3 hb c
   ·exact CE (s:=Ma) h1 ha hs h2 rfl rfl (by unfold fk;simp only[lS,h2];rfl) (cW 0 h2 rfl) de h3 hb c
   ·exact CE (s:=Mb) h1 ha hs h2 rfl rfl (by unfold fk;simp only[lS,h2];rfl) (cW 0 h2 rfl) de h3 hb c
   ·exact CE (s:=Mc) h1 ha hs h2 rfl rfl (by unfold fk;simp only[lS,h2];rfl) (cW 0 h2 rfl) de h3 hb c
   exact CE (s:=Md) h1 ha hs h2 rfl rfl (by unfold fk;simp only[lS,h2];rfl) (cW 0 h2 rfl) de h3 hb c
 | tb q=>
   rename_i k l;rcases q with rfl | rfl
   ·simp only[pp,aE,am,Nat.reduceEqDiff,iF,iT] at h;have h2:YD ts ou (.mk 10 l [] 0 []) i j:=ih (.maybe ou (.mk 10 l [] 0 [])) d _ _ (by simp only[SR.me] at g⊢;omega) h;have h3:=h2.1;refine⟨mq h3 de,tf h3 de,λc=>ba ?_⟩;simp only[gr,aI (s:=pV) h3 rfl,aI (s:=qH) h3 rfl,aI (s:=rL) h3 rfl,gY (s:=ou) h3 rfl,aM,iF,iT,h3];exact AC h2 (.inl rfl) c
   simp only[pp,aE,am,Nat.reduceEqDiff,iF,iT] at h;have h2:YD ts pW (.mk 14 l [] 0 []) i j:=ih (.maybe pW (.mk 14 l [] 0 [])) d _ _ (by simp only[SR.me] at g⊢;omega) h;have h3:=h2.1;refine⟨mq h3 de,tf h3 de,λc=>ba ?_⟩;simp only[gr,aI (s:=pV) h3 rfl,aI (s:=qH) h3 rfl,aI (s:=rL) h3 rfl,aI (s:=ou) h3 rfl,gY (s:=pW) h3 rfl,aM,iF,iT,h3];exact AC h2 (.inl rfl) c
 | tc q ha=>
   rename_i k l a;rcases q with rfl | rfl
   ·simp only[pp,aE,am,Nat.reduceEqDiff,iF,iT] at h;have h2:YD ts ou (.mk 10 l [] 0 [a]) i j:=ih (.maybe ou (.mk 10 l [] 0 [a])) d _ _ (by simp only[SR.me] at g⊢;omega) h;have h3:=h2.1;refine⟨mq h3 de,tf h3 de,λc=>ba ?_⟩;simp only[gr,aI (s:=pV) h3 rfl,aI (s:=qH) h3 rfl,aI (s:=rL) h3 rfl,gY (s:=ou) h3 rfl,aM,iF,iT,h3];exact AC h2 (.inr ⟨a,rfl,ha⟩) c
   simp only[pp,aE,am,Nat.reduceEqDiff,iF,iT] at h;have h2:YD ts pW (.mk 14 l [] 0 [a]) i j:=ih (.maybe pW (.mk 14 l [] 0 [a])) d _ _ (by simp only[SR.me] at g⊢;omega) h;have h3:=h2.1;refine⟨mq h3 de,tf h3 de,λc=>ba ?_⟩;simp only[gr,aI (s:=pV) h3 rfl,aI (s:=qH) h3 rfl,aI (s:=rL) h3 rfl,aI (s:=ou) h3 rfl,gY (s:=pW) h3 rfl,aM,iF,iT,h3];exact AC h2 (.inr ⟨a,rfl,ha⟩) c
 | Na ha=>
   rename_i l a;simp only[pp,aE,am,Nat.reduceEqDiff,iF,iT] at h;obtain⟨h3,h4⟩:=ih (.maybe Aj (.mk 20 l [] 0 [a])) d _ _ (by simp only[SR.me] at g⊢;omega) h;replace h4:IW ts a (i+1) j:=h4;refine⟨mq h3 de,tf h3 de,λc=>ba ?_⟩;simp only[gr,aI (s:=pV) h3 rfl,aI (s:=qH) h3 rfl,aI (s:=rL) h3 rfl,aI (s:=ou) h3 rfl,aI (s:=pW) h3 rfl,aI (s:=yS) h3 rfl,aI (s:=Ai) h3 rfl,gY (s:=Aj) h3 rfl,aM,iF,iT,h3];exact bv (h4.ga ha (Ft c)) cf
 | td q=>
   rename_i k l;rcases q with rfl | rfl | rfl
   ·obtain⟨h3,rfl⟩:=h;refine⟨mq h3 de,tf h3 de,λc=>ba ?_⟩;simp only[gr,gY (s:=pV) h3 rfl,iT,h3];exact cf
   ·obtain⟨h3,rfl⟩:=h;refine⟨mq h3 de,tf h3 de,λc=>ba ?_⟩;simp only[gr,aI (s:=pV) h3 rfl,gY (s:=qH) h3 rfl,aM,iF,iT,h3];exact cf
   obtain⟨h3,rfl⟩:=h;refine⟨mq h3 de,tf h3 de,λc=>ba ?_⟩;simp only[gr,aI (s:=pV) h3 rfl,aI (s:=qH) h3 rfl,gY (s:=rL) h3 rfl,aM,iF,iT,h3];exact cf
 | te q hn bq=>
   rename_i k l ks;rcases q with rfl | rfl
   ·simp only[pp,aE,am,Nat.reduceEqDiff,iF,iT,aS,a6,bt] at h;obtain⟨h3,h4⟩:=h;have h5:=ih (.bc false ks) d _ _ (by simp only[SR.me,am] at g⊢;omega) h4;refine⟨mq h3 de,tf h3 de,λc=>ba ?_⟩;simp only[gr,aI (s:=pV) h3 rfl,aI (s:=qH) h3 rfl,aI (s:=rL) h3 rfl,aI (s:=ou) h3 rfl,aI (s:=pW) h3 rfl,gY (s:=yS) h3 rfl,aM,iF,iT,h3];exact Sz (acc:= []) (xd c _) hn h5 bq
   simp only[pp,aE,am,Nat.reduceEqDiff,iF,iT,aS,a6,bt] at h;obtain⟨h3,h4⟩:=h;have h5:=ih (.bc false ks) d _ _ (by simp only[SR.me,am] at g⊢;omega) h4;refine⟨mq h3 de,tf h3 de,λc=>ba ?_⟩;simp only[gr,aI (s:=pV) h3 rfl,aI (s:=qH) h3 rfl,aI (s:=rL) h3 rfl,aI (s:=ou) h3 rfl,aI (s:=pW) h3 rfl,aI (s:=yS) h3 rfl,gY (s:=Ai) h3 rfl,aM,iF,iT,h3];exact Sz (acc:= []) (xd c _) hn h5 bq
 | del ha hs=>
   rename_i l a;simp only[pp,aE,am,Nat.reduceEqDiff,iF,iT,aS,a6,bt] at h;obtain⟨h3,h4⟩:=h;have h5:=ih (.at a 9) d _ _ (by simp only[SR.me,am,aq,aL] at g⊢;omega) h4 Om;refine⟨mq h3 de,tf h3 de,λc=>ba ?_⟩;simp only[gr,aI (s:=pV) h3 rfl,aI (s:=qH) h3 rfl,aI (s:=rL) h3 rfl,aI (s:=ou) h3 rfl,aI (s:=pW) h3 rfl,aI (s:=yS) h3 rfl,aI (s:=Ai) h3 rfl,aI (s:=Aj) h3 rfl,aI (s:=nJ) h3 rfl,gY (s:=Me) h3 rfl,aM,iF,iT,h3];refine bv (h5.ga ha ((Ft c).up Om)) ?_;simp only[abv,hs,iT];exact cf
 | _=>exact absurd (by simp[Nd.kind]) hk
end
section
variable {ts:List PT} {f:Nat}
theorem qg{d i j:Nat}:bt ts (dW d) i j↔i=j:=by
 have:=ami (ts:=ts) (d:=d) (r:= []) (i:=i) (j:=j);rw[cp] at this;exact this
theorem abw{j:Nat}(h:(ah ts j).kind≠8):nE ts j:=λs hs=>Al (by
 simp only[js,zo,or_false] at hs;rcases hs with rfl | rfl | rfl | rfl<;>exact h)
theorem amQ{l:List Nd}:Ak 0 (aK l)=0:=by cases l<;>simp[aK,Ak,kQ]
theorem abx{j:Nat}(c:ah ts j=⟨3,0,[]⟩) : ∀ {l:List Nd} {i:Nat} {acc:List Nd},l≠ []->M4 ts l i j->(∀n∈l,lT n)->Ev (λf=>gr ts f (.a9 (aK acc)) i) (.ok ([nd 1 0 (aK (acc++l))],j+1))
 | n::l,i,acc,_,⟨k,h1,h2⟩,g=>by
   obtain⟨u,o⟩:=h1 (g n s0);have b : ∀n∈l,lT n:=λm t=>g m (by simp[t]);refine ba ?_;simp only[gr];match l,h2,b with
   | [],h2,_=>
     obtain rfl:k=j:=h2;refine bv (o (abw (by rw[c];decide))) ?_;have e:aK acc++ [nl n]=aK (acc++ [n]):=by rw[AB];rfl
     simp only[c,iT,e,amQ];exact cf
   | m::l,⟨k',h3,h4⟩,b=>
     obtain⟨q,_⟩:=h3 (b m s0);refine bv (o q.2) ?_;have e:aK acc++ [nl n]=aK (acc++ [n]):=by rw[AB];rfl
     rw[e];refine vI (by have:=q.1;omega) ?_;have:=abx c (acc:=acc++ [n]) (l:=m::l) s0 ⟨k',h3,h4⟩ b;simpa only[aG,aS,a6] using this
theorem amR(ih:mn ts f){l:List Nd}{d i j:Nat}(b:SR.me (.a9 l)<f+1)(h:bt ts (pp (f+1) (.a9 l) d) i j):Rd ts (.a9 l) i j:=by
 rcases l with _ | ⟨n,l⟩
 ·exact h
 simp only[pp,eg] at h;obtain⟨k,h1,h2⟩:=h;simp only[SR.me,aq,aL] at b;exact⟨k,ih (.stmt n) d _ _ Mt h1,ih (.a9 l) d _ _ Mt h2⟩
theorem amS(ih:mn ts f){n:Nd}{d i j:Nat}(b:SR.me (.block n)<f+1)(h:bt ts (pp (f+1) (.block n) d) i j):Rd ts (.block n) i j:=by
 rintro⟨l,ks,rfl,av,bq⟩;simp only[pp,am,aG,aS,a6,eg,bt] at h;obtain⟨h1,h2,h3,k,h4,h5,rfl⟩:=h;have c:=ih (.a9 ks) (d+1) _ _ (by simp only[SR.me,am] at b⊢;omega) h4;refine⟨h1,ba ?_⟩;simp only[gr];refine IU (by rw[h2]) (xc (by rw[h3]) ?_);exact abx h5 (acc:= []) av c bq
theorem amT(ih:mn ts f){n:Nd}{d i j:Nat}(e:SR.me (.stmt n)<f+1)(h:bt ts (pp (f+1) (.stmt n) d) i j):Rd ts (.stmt n) i j:=by
 intro ho;have key : ¬(n.kind=5\/n.kind=15\/n.kind=6\/n.kind=7\/n.kind=8\/n.kind=9\/n.kind=16)->IZ ts i/\(nE ts j->Ga ts .stmt i (nl n) j):=by
  intro hk;simp only[pp,iN (show ¬n.kind=5 by omega),iN (show ¬n.kind=15 by omega),iN (show ¬(n.kind=6\/n.kind=7\/n.kind=8\/n.kind=9\/n.kind=16) by omega),aG,aS,a6,eg,bt,qg,exists_eq_left'] at h;obtain⟨k,h1,h2,rfl⟩:=h;obtain⟨c,b,o⟩:=ih (.simple n) d _ _ (by simp only[SR.me] at e⊢;omega) h1 hk ho;refine⟨c,λ_=>ba ?_⟩;simp only[gr,b kX de,b tK de,b jN de,b wT de,b wU de,b B7 de,b B8 de,aM,iF];exact bv (o h2) (xc (by rw[h2]) cf)
 by_cases h5:n.kind=5
 ·simp only[pp,h5,iT] at h;obtain⟨c,b⟩:=ih (.ifs [105,102,32] n) d _ _ (by simp only[SR.me] at e⊢;omega) h ho h5;replace c:ah ts i=⟨8,0,kX⟩:=c;refine⟨mq c de,λq=>ba ?_⟩;simp only[gr,oG (s:=kX) c rfl,iT,c];exact b q
 by_cases g:n.kind=15
 ·simp only[pp,g,Nat.reduceEqDiff,iT,iF] at h;exact ih (.tries n) d _ _ (by simp only[SR.me] at e⊢;omega) h g ho
 by_cases hh:n.kind=6\/n.kind=7\/n.kind=8\/n.kind=9\/n.kind=16
 ·simp only[pp,iN h5,iN g,iP hh] at h;exact ih (.head n) d _ _ (by simp only[SR.me] at e⊢;omega) h hh ho
 exact key Om
theorem amU(ih:mn ts f){n:Nd}{s:List UInt8}{d i j:Nat}(o:SR.me (.ifs s n)<f+1)(h:bt ts (pp (f+1) (.ifs s n) d) i j):Rd ts (.ifs s n) i j:=by
 intro ho hk;have A : ∀ {t:List UInt8} {r:List Pc} {i j:Nat},bt ts (Pc.tk 8 (if t= [105,102,32] then [105,102] else [101,108,105,102])::r) i j↔ah ts i=⟨8,0,if t= [105,102,32] then kX else sN⟩/\bt ts r (i+1) j:=λ{t r i j}=>by split<;>rfl
 cases tX ho with
 | Nb ha hb=>
   rename_i l a b;simp only[SR.me,am,aq,aL] at o;simp only[pp,am,wd,aG,aS,a6,cp,eg,A,bt,qg,exists_eq_left'] at h;obtain⟨h1,k,h2,h3⟩:=h;have u:=ih (.at a 0) d _ _ Mt h2 Om;obtain⟨g,v⟩:=ih (.block b) d _ _ Mt h3 hb;refine⟨h1,λq=>ba ?_⟩;simp only[gr];refine bv (u.ga ha (cW 0 g rfl)) (iW (cR g rfl) (bv v ?_));simp only[q sN de,q wR de,aM,iF];exact cf
 | Nc ha hb he=>
   rename_i l a b e;obtain⟨le,es,rfl,av,w⟩:=he;simp only[SR.me,am,aq,aL] at o;have key : ∀c,bt ts (dW d++ [wd [101,108,115,101]]++pp f (.block (.mk 1 le [] 0 es)) d) c j->ai ts c sN=false/\ai ts c wR=true/\ai ts (c+1) fZ=true/\Ga ts .block (c+1+1) (nl (.mk 1 le [] 0 es)) j:=by
    intro c h;simp only[wd,aG,aS,a6,eg,bt,qg,exists_eq_left'] at h;obtain⟨h1,h2⟩:=h;obtain⟨g,v⟩:=ih (.block (.mk 1 le [] 0 es)) d _ _ (by simp only[SR.me,am];omega) h2 ⟨le,es,rfl,av,w⟩;exact⟨aI h1 rfl,gY h1 rfl,cR g rfl,v⟩
   have step : ∀X:List Pc,bt ts (dW d++ [wd (if s= [105,102,32] then [105,102] else [101,108,105,102]), .sp]++pp f (.at a 0) d++pp f (.block b) d++X) i j->ah ts i=⟨8,0,if s= [105,102,32] then kX else sN⟩/\∃c,bt ts X c j/\∀r,Ev (λf=>if ai ts c sN=true then bu (gr ts f (.ifs (ah ts c).line) (c+1)) λx i4=>bI (nd 5 0 [nl a,nl b,nd 1 (ah ts c).line [x]]) i4 else if ai ts c wR=true then eX ts fZ (c+1) λi4=>bu (gr ts f .block i4) λe i5=>bI (nd 5 0 [nl a,nl b,e]) i5 else bI (nd 5 0 [nl a,nl b]) c) r->Ev (λf=>gr ts f (.ifs 0) (i+1)) r:=by
    intro X h;simp only[wd,aG,aS,a6,cp,eg,A,bt,qg,exists_eq_left'] at h;obtain⟨h1,k,h2,c,h3,h4⟩:=h;have u:=ih (.at a 0) d _ _ Mt h2 Om;obtain⟨g,v⟩:=ih (.block b) d _ _ Mt h3 hb;refine⟨h1,c,h4,λr B=>ba ?_⟩;simp only[gr];exact bv (u.ga ha (cW 0 g rfl)) (iW (cR g rfl) (bv v B))
   have fin : ∀c,(ai ts c sN=false/\ai ts c wR=true/\ai ts (c+1) fZ=true/\Ga ts .block (c+1+1) (nl (.mk 1 le [] 0 es)) j)->Ev (λf=>if ai ts c sN=true then bu (gr ts f (.ifs (ah ts c).line) (c+1)) λx i4=>bI (nd 5 0 [nl a,nl b,nd 1 (ah ts c).line [x]]) i4 else if ai ts c wR=true then eX ts fZ (c+1) λi4=>bu (gr ts f .block i4) λe i5=>bI (nd 5 0 [nl a,nl b,e]) i5 else bI (nd 5 0 [nl a,nl b]) c) (.ok ([nl (.mk 5 l [] 0 [a,b, .mk 1 le [] 0 es])],j)):=by
    rintro c ⟨h1,h2,h3,h4⟩;simp only[h1,h2,aM,iF,iT];exact iW h3 (bv h4 cf)
   match es,av,w,o,h,key,fin with
   | [x],_,w,o,h,key,fin=>
     simp only[pp,am] at h;by_cases hx:x.kind=5
     ·simp only[hx,iT] at h;obtain⟨h1,c,h2,h3⟩:=step _ h;refine⟨h1,λq=>h3 _ ?_⟩;obtain⟨z,u⟩:=ih (.ifs [101,108,105,102,32] x) d _ _ (by simp only[SR.me,aq,aL] at o⊢;omega) h2 (w x s0) hx;replace z:ah ts c=⟨8,0,sN⟩:=z;simp only[oG (s:=sN) z rfl,iT,z];exact bv (u q) cf
     simp only[hx,iF] at h;obtain⟨h1,c,h2,h3⟩:=step _ h;exact⟨h1,λq=>h3 _ (fin c (key c h2))⟩
   | x::y::es,_,w,o,h,key,fin=>
     simp only[pp,am] at h;obtain⟨h1,c,h2,h3⟩:=step _ h;exact⟨h1,λq=>h3 _ (fin c (key c h2))⟩
 | tb h | tc h _ | td h | te h _ _=>simp only[aE] at hk;omega
 | _=>simp[Nd.kind] at hk
end
section
variable {ts:List PT} {f:Nat}
theorem amV(ih:mn ts f){l:List Nd}{d i j:Nat}(u:SR.me (.cQ l)<f+1)(h:bt ts (pp (f+1) (.cQ l) d) i j):Rd ts (.cQ l) i j:=by
 rcases l with _ | ⟨c,l⟩
 ·exactλ_=>h
 intro hl;have g : ∀n∈l,vJ n\/okF n:=λn hn=>hl n (by simp[hn]);have o:=u;simp only[SR.me,aq,aL] at o;rcases hl c s0 with (⟨ln,b,rfl,hb⟩ | ⟨ln,x,e,b,rfl,hx,he,hb⟩) | ⟨ln,b,rfl,hb⟩
 ·simp only[am,aq,aL] at o;simp only[pp,aE,am,dy,Nat.reduceEqDiff,iT,iF,gS,aG,aS,a6,cp,eg,bt,qg,exists_eq_left',wd] at h;obtain⟨h1,k,h2,h3⟩:=h;exact⟨k, .bare h1 (ih (.block b) d _ _ Mt h2),ih (.cQ l) d _ _ Mt h3 g⟩
 ·simp only[am,aq,aL] at o;have t : [e,b].getLast? = some b:=rfl;by_cases q:x= []
  ·subst q;simp only[pp,aE,am,dy,Nat.reduceEqDiff,iT,iF,t,aG,aS,a6,cp,eg,bt,qg,exists_eq_left',wd] at h;obtain⟨h1,k1,h2,k,h3,h4⟩:=h;exact⟨k, .one h1 (ih (.at e 0) d _ _ Mt h2 Om) (ih (.block b) d _ _ Mt h3),ih (.cQ l) d _ _ Mt h4 g⟩
  simp only[pp,aE,am,dy,Nat.reduceEqDiff,q,iT,iF,t,aG,aS,a6,cp,eg,bt,qg,exists_eq_left',wd] at h;obtain⟨h1,k1,h2,h3,h4,k,h5,v⟩:=h;exact⟨k, .asx q h1 (ih (.at e 0) d _ _ Mt h2 Om) h3 h4 (ih (.block b) d _ _ Mt h5),ih (.cQ l) d _ _ Mt v g⟩
 simp only[am,aq,aL] at o;simp only[pp,aE,am,dy,Nat.reduceEqDiff,iT,iF,gS,aG,aS,a6,cp,eg,bt,qg,exists_eq_left',wd] at h;obtain⟨h1,k,h2,h3⟩:=h;exact⟨k, .fin h1 (ih (.block b) d _ _ Mt h2),ih (.cQ l) d _ _ Mt h3 g⟩
theorem aby : ∀ {h t:List Nd} {i j:Nat} {acc:List Nd},M5 ts (h++t) i j->(∀n∈h,vJ n)->(∀n∈h.dropLast,n.kids.length=2)->(t= []\/∃y,t= [y]/\okF y)->nE ts j->∃k,M5 ts t k j/\Ev (λf=>gr ts f (.lN acc) i) (.ok (acc++aK h,k))/\(t= []->k=j)
 | [],t,i,j,acc,h,_,_,ht,v=>by
   refine⟨i,h,ba ?_,?_⟩
   ·have h1:ai ts i rM=false:=by
     rcases ht with rfl | ⟨y,rfl,l,b,rfl,hb⟩
     ·obtain rfl:i=j:=h;exact v rM de
     obtain⟨k,h1,_⟩:=h;cases h1 with
     | fin h _=>exact aI h rfl
    simp only[gr,h1,aM,iF,aK,cp];exact Fk
   rintro rfl;exact h
 | c::h,t,i,j,acc,⟨k,h1,h2⟩,hh,hd,ht,v=>by
   have hc:=hh c s0;have w : ∀n∈h,vJ n:=λn hn=>hh n (by simp[hn]);rcases hc with ⟨ln,b,rfl,hb⟩ | ⟨ln,x,e,b,rfl,hx,he,hb⟩
   ·have hn:h= []:=by
     rcases h with _ | ⟨A,h⟩
     ·rfl
     have:=hd (.mk 21 ln [] 0 [b]) s0;simp[Nd.kids] at this
    subst hn;refine⟨k,h2,ba ?_,?_⟩
    ·cases h1 with
     | bare h o=>
       obtain⟨g,q⟩:=o hb;simp only[gr,oG (s:=rM) h rfl,cR (s:=fZ) g rfl,iT,h];exact bv q Fk
    rintro rfl;exact h2
   have B : ∀n∈h.dropLast,n.kids.length=2:=λn hn=>by
    rcases h with _ | ⟨A,h⟩
    ·cases hn
    exact hd n (by simp at hn⊢;exact .inr hn)
   obtain⟨k',C,r2,D⟩:=aby (acc:=acc++ [nl (.mk 21 ln x 0 [e,b])]) h2 w B ht v;refine⟨k',C,?_,D⟩;have z:Ev (λf=>gr ts f (.lN (acc++ [nl (.mk 21 ln x 0 [e,b])])) k) (.ok (acc++aK (.mk 21 ln x 0 [e,b]::h),k')):=by
    simpa only[aG,xx,aK] using r2
   refine ba ?_;cases h1 with
   | one h3 u o=>
     obtain⟨g,q⟩:=o hb;simp only[gr,oG (s:=rM) h3 rfl,(u.fs he).no (s:=fZ) de,aM,iF,iT,h3];refine bv (u.ga he (cW 0 g rfl)) ?_;simp only[aI (s:=B5) g rfl,aM,iF];exact iW (cR g rfl) (bv q z)
   | asx E h3 u ha hn o=>
     obtain⟨g,q⟩:=o hb;simp only[gr,oG (s:=rM) h3 rfl,(u.fs he).no (s:=fZ) de,aM,iF,iT,h3];refine bv (u.ga he (cW 0 ha rfl)) ?_;simp only[oG (s:=B5) ha rfl,iT];refine xc (by rw[hn]) ?_;simp only[hn];exact iW (cR g rfl) (bv q z)
theorem amW(ih:mn ts f){n:Nd}{d i j:Nat}(hm:SR.me (.tries n)<f+1)(h:bt ts (pp (f+1) (.tries n) d) i j):Rd ts (.tries n) i j:=by
 intro hk ho;cases tX ho with
 | tr hb hh hd ht hn=>
   rename_i l b h' t;simp only[SR.me,am,aq,aL] at hm;simp only[pp,am,wd,aG,aS,a6,cp,eg,bt,qg,exists_eq_left'] at h;obtain⟨h1,k,h2,h3⟩:=h;obtain⟨q,u⟩:=ih (.block b) d _ _ Mt h2 hb;have v : ∀n∈h'++t,vJ n\/okF n:=λn hm=>by
    rcases List.mem_append.1 hm with hm | hm
    ·exact .inl (hh n hm)
    rcases ht with rfl | ⟨y,rfl,w⟩
    ·cases hm
    rw[List.mem_singleton.1 hm];exact .inr w
   have x:=ih (.cQ (h'++t)) d _ _ Mt h3 v;refine⟨mq h1 de,λg=>ba ?_⟩;simp only[gr,aI (s:=kX) h1 rfl,aI (s:=tK) h1 rfl,aI (s:=jN) h1 rfl,aI (s:=wT) h1 rfl,aI (s:=wU) h1 rfl,gY (s:=B7) h1 rfl,aM,iF,iT,h1];refine ba ?_;simp only[gr];refine iW (cR q rfl) (bv u ?_);obtain⟨k',z,r2,A⟩:=aby (acc:= [nl b]) x hh hd ht g;refine Az r2 (ba ?_);rcases ht with rfl | ⟨y,rfl,l',b',rfl,B⟩
   ·obtain rfl:=A rfl;have c : ¬([nl b]++aK h').length=1:=by
     rw[cp] at hn;cases h' with
     | nil=>exact absurd rfl hn
     | cons _ _=>simp[aK]
    simp only[gr,g B6 de,aM,iF,c,cp];exact cf
   obtain⟨C,D,E⟩:=z;obtain rfl:C=j:=E;cases D with
   | fin o F=>
     obtain⟨G,H⟩:=F B;simp only[gr,oG (s:=B6) o rfl,iT,o];refine iW (cR G rfl) (bv H ?_);have e:nl (.mk 15 l [] 0 (b::(h'++ [.mk 22 l' [] 0 [b']])))=nd 15 0 (([nl b]++aK h')++ [nd 22 0 [nl b']]):=by
      simp only[nl,aK,AB,aS,a6]
     rw[e];exact cf
 | tb h | tc h _ | td h | te h _ _=>simp only[aE] at hk;omega
 | _=>simp[Nd.kind] at hk
end
section
variable {ts:List PT} {f:Nat}
theorem amX(ih:mn ts f){n:Nd}{d i j:Nat}(w:SR.me (.head n)<f+1)(h:bt ts (pp (f+1) (.head n) d) i j):Rd ts (.head n) i j:=by
 intro hk ho;cases tX ho with
 | Nf ha hb=>
   rename_i l a b;simp only[SR.me,am,aq,aL] at w;simp only[pp,aE,am,dy,Nat.reduceEqDiff,iT,iF,wd,aG,aS,a6,cp,eg,bt,qg,exists_eq_left'] at h;obtain⟨h1,k,h2,h3⟩:=h;have u:=ih (.at a 0) d _ _ Mt h2 Om;obtain⟨o,g⟩:=ih (.block b) d _ _ Mt h3 hb;refine⟨mq h1 de,λv=>ba ?_⟩;simp only[gr,aI (s:=kX) h1 rfl,gY (s:=tK) h1 rfl,aM,iF,iT,h1];exact bv (u.ga ha (cW 0 o rfl)) (iW (cR o rfl) (bv g cf))
 | fr ha hp hb hc=>
   rename_i l a b c;simp only[SR.me,am,aq,aL] at w;simp only[pp,aE,am,dy,Nat.reduceEqDiff,iT,iF,wd,aG,aS,a6,cp,eg,bt,qg,exists_eq_left'] at h;obtain⟨h1,k,h2,h3,k',h4,h5⟩:=h;have u:=ih (.at a 9) d _ _ Mt h2 Om;have g:=ih (.at b 0) d _ _ Mt h4 Om;obtain⟨z,q⟩:=ih (.block c) d _ _ Mt h5 hc;refine⟨mq h1 de,λv=>ba ?_⟩;simp only[gr,aI (s:=kX) h1 rfl,aI (s:=tK) h1 rfl,gY (s:=jN) h1 rfl,aM,iF,iT,h1];exact bv (abk u ha hp (cW 9 h3 rfl) (aI h3 rfl)) (iW (oG h3 rfl) (bv (CD g hb (cW 0 z rfl) (aI z rfl)) (iW (cR z rfl) (bv q cf))))
 | df hx hp hb=>
   rename_i l x l' ps b;simp only[SR.me,am,aq,aL] at w;simp only[pp,aE,am,dy,Nat.reduceEqDiff,iT,iF,wd,aG,aS,a6,cp,eg,bt,qg,exists_eq_left'] at h;obtain⟨h1,h2,h3,k,h4,h5,t⟩:=h;have g:=ih (.bc false ps) d _ _ Mt h4;obtain⟨q,y⟩:=ih (.block b) d _ _ Mt t hb;refine⟨mq h1 de,λv=>ba ?_⟩;simp only[gr,aI (s:=kX) h1 rfl,aI (s:=tK) h1 rfl,aI (s:=jN) h1 rfl,gY (s:=wT) h1 rfl,aM,iF,iT,h1];refine xc (by rw[h2];rfl) ?_;simp only[h2];refine iW (cR h3 rfl) (bv (Sy (acc:= []) (cl:=oq) (cR h5 rfl) (aI h5 rfl) g hp) (iW (cR h5 rfl) (iW (cR q rfl) (bv y cf))))
 | cls hx hp hb=>
   rename_i l x l' ps b;simp only[SR.me,am,aq,aL] at w;by_cases hl:0<ps.length
   ·simp only[pp,aE,am,dy,Nat.reduceEqDiff,hl,iT,iF,wd,aG,aS,a6,cp,eg,bt,qg,exists_eq_left'] at h;obtain⟨h1,h2,h3,k,h4,h5,t⟩:=h;have g:=ih (.bc false ps) d _ _ Mt h4;obtain⟨q,y⟩:=ih (.block b) d _ _ Mt t hb;refine⟨mq h1 de,λv=>ba ?_⟩;simp only[gr,aI (s:=kX) h1 rfl,aI (s:=tK) h1 rfl,aI (s:=jN) h1 rfl,aI (s:=wT) h1 rfl,gY (s:=wU) h1 rfl,aM,iF,iT,h1];refine xc (by rw[h2];rfl) ?_;simp only[h2,cR (s:=kY) h3 rfl,iT];refine Az (IY (acc:= []) (cl:=oq) (cR h5 rfl) de (cW 0 h5 rfl) (aI h5 rfl) g hp) ?_;exact iW (cR h5 rfl) (iW (cR q rfl) (bv y cf))
   obtain rfl:ps= []:=by cases ps with
    | nil=>rfl
    | cons _ _=>simp at hl
   simp only[pp,aE,am,dy,Nat.reduceEqDiff,hl,iT,iF,wd,aG,aS,a6,cp,eg,bt,qg,exists_eq_left'] at h;obtain⟨h1,h2,t⟩:=h;obtain⟨q,y⟩:=ih (.block b) d _ _ Mt t hb;refine⟨mq h1 de,λv=>ba ?_⟩;simp only[gr,aI (s:=kX) h1 rfl,aI (s:=tK) h1 rfl,aI (s:=jN) h1 rfl,aI (s:=wT) h1 rfl,gY (s:=wU) h1 rfl,aM,iF,iT,h1];refine xc (by rw[h2];rfl) ?_;simp only[h2,aI (s:=kY) q rfl,aM,iF];exact iW (cR q rfl) (bv y cf)
 | Ng hx he hb=>
   rename_i l x e b;simp only[SR.me,am,aq,aL] at w;by_cases A:x= []
   ·subst A;simp only[pp,aE,am,dy,Nat.reduceEqDiff,iT,iF,wd,aG,aS,a6,cp,eg,bt,qg,exists_eq_left'] at h;obtain⟨h1,k,h2,h3⟩:=h;have u:=ih (.at e 0) d _ _ Mt h2 Om;obtain⟨o,g⟩:=ih (.block b) d _ _ Mt h3 hb;refine⟨mq h1 de,λv=>ba ?_⟩;simp only[gr,aI (s:=kX) h1 rfl,aI (s:=tK) h1 rfl,aI (s:=jN) h1 rfl,aI (s:=wT) h1 rfl,aI (s:=wU) h1 rfl,aI (s:=B7) h1 rfl,gY (s:=B8) h1 rfl,aM,iF,iT,h1];refine bv (u.ga he (cW 0 o rfl)) ?_;simp only[aI (s:=B5) o rfl,aM,iF];exact iW (cR o rfl) (bv g cf)
   simp only[pp,aE,am,dy,Nat.reduceEqDiff,A,iT,iF,wd,aG,aS,a6,cp,eg,bt,qg,exists_eq_left'] at h;obtain⟨h1,k,h2,h5,t,h3⟩:=h;have u:=ih (.at e 0) d _ _ Mt h2 Om;obtain⟨o,g⟩:=ih (.block b) d _ _ Mt h3 hb;refine⟨mq h1 de,λv=>ba ?_⟩;simp only[gr,aI (s:=kX) h1 rfl,aI (s:=tK) h1 rfl,aI (s:=jN) h1 rfl,aI (s:=wT) h1 rfl,aI (s:=wU) h1 rfl,aI (s:=B7) h1 rfl,gY (s:=B8) h1 rfl,aM,iF,iT,h1];refine bv (u.ga he (cW 0 h5 rfl)) ?_;simp only[oG (s:=B5) h5 rfl,iT];refine xc (by rw[t];rfl) ?_;simp only[t];exact iW (cR o rfl) (bv g cf)
 | tb h | tc h _ | td h | te h _ _=>simp only[aE] at hk;omega
 | _=>simp[Nd.kind] at hk
theorem abz : ∀f,mn ts f
 | 0=>λr d i j c _=>absurd c (tj _)
 | f+1=>λr d i j c h=>by
   have ih:=abz f;cases r;case «at» n a=>exact amp ih c h
   case expr n=>exact amr ih c h
   case bc b l=>exact ams ih c h
   case two n l s r=>exact amv ih c h
   case clauses l=>exact amw ih c h
   case bO b l=>exact amu ih c h
   case shown n=>exact amG ih c h
   case dB n=>exact amB ih c h
   case dJ n=>exact amJ ih c h
   case cV l=>exact amx ih c h
   case maybe s n=>exact amq ih c h
   case block n=>exact amS ih c h
   case a9 l=>exact amR ih c h
   case ifs s n=>exact amU ih c h
   case tries n=>exact amW ih c h
   case cQ l=>exact amV ih c h
   case stmt n=>exact amT ih c h
   case head n=>exact amX ih c h
   case bF b l=>exact amt ih c h
   case simple n=>exact amP ih c h
theorem abA{j:Nat}(c:(ah ts j).kind=0) : ∀ {l:List Nd} {i:Nat} {acc:List Nd},M4 ts l i j->(∀n∈l,lT n)->Ev (λf=>gr ts f (.top acc) i) (.ok (acc++aK l,j))
 | [],i,acc,h,_=>by
   obtain rfl:i=j:=h;refine ba ?_;simp only[gr,c,iT,aK,cp];exact Fk
 | n::l,i,acc,⟨k,h1,h2⟩,g=>by
   obtain⟨e,o⟩:=h1 (g n s0);have b : ∀n∈l,lT n:=λm q=>g m (by simp[q]);have hk:nE ts k:=by
    match l,h2,b with
    | [],h2,_=>
      obtain rfl:k=j:=h2;exact abw (by rw[c];decide)
    | m::l,⟨k',h3,h4⟩,b=>exact(h3 (b m s0)).1.2
   refine ba ?_;simp only[gr];refine vI (by have:=e.1;omega) (bv (o hk) ?_);have:=abA c (acc:=acc++ [nl n]) h2 b;simpa only[aG,xx,aK] using this
theorem amY{F:Nat}{l:List Nd}{d j:Nat}(b:16*aq l<F)(hl : ∀n∈l,lT n)(h:bt ts (pp F (.a9 l) d) 0 j)(c:(ah ts j).kind=0):Ev (λf=>gr ts f (.top []) 0) (.ok (aK l,j)):=
 abA (acc:= []) c (abz F (.a9 l) d 0 j b h) hl
end
def PT.z (t:PT):PT:=⟨t.kind,0,t.text⟩
def prz:PR->PR
 | some (.ok (l,j))=>some (.ok (aK l,j))
 | some (.error e)=>some (.error e)
 | none=>none
def NT.z:NT->NT
 | .params c l acc=> .params c 0 (aK acc)
 | .row c acc=> .row c (aK acc)
 | .pY l acc=> .pY 0 (aK acc)
 | .tL n=> .tL (nl n) | .tM n=> .tM (nl n) | .jO n acc=> .jO (nl n) (aK acc) | .sP n=> .sP (nl n) | .qI n=> .qI (nl n) | .rN n=> .rN (nl n) | .index n=> .index (nl n)
 | .clauses acc=> .clauses (aK acc)
 | .list l=> .list 0 | .qJ l=> .qJ 0 | .rO l acc=> .rO 0 (aK acc)
 | .placesL l acc=> .placesL 0 (aK acc)
 | .names k l acc=> .names k 0 (aK acc)
 | .maybe k l all=> .maybe k 0 all
 | .jo l acc=> .jo 0 (aK acc)
 | .a9 acc=> .a9 (aK acc)
 | .ifs l=> .ifs 0 | .tries l=> .tries 0 | .lN acc=> .lN (aK acc) | .nL l acc=> .nL 0 (aK acc)
 | .top acc=> .top (aK acc)
 | a=>a
def Rz (r r':PR):Prop:=r'=prz r
theorem Nh(ts:List PT)(i:Nat):ah (ts.map PT.z) i=(ah ts i).z:=by
 unfold ah;rw[List.getElem?_map,List.getLast?_map];cases ts[i]? with
 | some t=>rfl
 | none=>cases ts.getLast?<;>rfl
theorem Fu(ts:List PT)(i:Nat)(s:List UInt8):ai (ts.map PT.z) i s=ai ts i s:=by
 unfold ai;rw[Nh];rfl
theorem SU(ts:List PT)(i:Nat):(ah (ts.map PT.z) i).kind=(ah ts i).kind:=by rw[Nh];rfl
theorem abB(ts:List PT)(i:Nat):(ah (ts.map PT.z) i).text=(ah ts i).text:=by rw[Nh];rfl
theorem abC(ts:List PT)(i:Nat):(ah (ts.map PT.z) i).line=0:=by rw[Nh];rfl
theorem amZ(ts:List PT)(i:Nat):eB (ts.map PT.z) i=eB ts i:=by unfold eB;simp only[Fu]
theorem am0(ts:List PT)(i:Nat):fk (ts.map PT.z) i=fk ts i:=by unfold fk;simp only[Fu]
theorem abD(ts:List PT)(i:Nat):iO (ts.map PT.z) i=iO ts i:=by unfold iO;simp only[Fu,SU]
theorem am1(n:Nd):nK (nl n)=nK n:=by unfold nK;rw[jR]
theorem abE : ∀l:List Nd,Ak 0 (aK l)=0
 | []=>rfl
 | n::_=>kQ n
theorem am2(l:List Nd):(aK l).isEmpty=l.isEmpty:=by cases l<;>rfl
theorem abF : ∀l:List Nd,(aK l).getLast? = l.getLast?.map nl
 | []=>rfl
 | [_]=>rfl
 | a::b::l=>by
   have:=abF (b::l);simp only[aK,iu] at this⊢;exact this
theorem abG{r r':PR}{k k':List Nd->Nat->PR}(h:Rz r r')(hk : ∀l j,Rz (k l j) (k' (aK l) j)):Rz (pb r k) (pb r' k'):=by
 unfold Rz at h;subst h;match r with
 | none=>rfl
 | some (.error e)=>rfl
 | some (.ok (l,j))=>exact hk l j
theorem Ni{r r':PR}{k k':Nd->Nat->PR}(h:Rz r r')(hk : ∀t j,Rz (k t j) (k' (nl t) j)):Rz (bu r k) (bu r' k'):=abG h λl j=>by
 match l with
 | []=>exact rfl
 | [t]=>exact hk t j
 | _::_::_=>exact rfl
theorem CF{c:Prop}[Decidable c]{a b a' b':PR}(h1:Rz a a')(h2:Rz b b'):Rz (if c then a else b) (if c then a' else b'):=by
 split;·exact h1
 exact h2
theorem am3{ts:List PT}{s:List UInt8}{i:Nat}{k k':Nat->PR}(hk : ∀j,Rz (k j) (k' j)):Rz (eX ts s i k) (eX (ts.map PT.z) s i k'):=by
 unfold eX;rw[Fu];exact CF (hk _) rfl
theorem am4{ts:List PT}{kd:Int}{i:Nat}{k k':List UInt8->Nat->PR}(hk : ∀s j,Rz (k s j) (k' s j)):Rz (jk ts kd i k) (jk (ts.map PT.z) kd i k'):=by
 unfold jk;rw[SU,abB];exact CF (hk _ _) rfl
theorem Fv{n n':Nd}{i:Nat}(h:n'=nl n):Rz (bI n i) (bI n' i):=by subst h;rfl
theorem am5{l l':List Nd}{i:Nat}(h:l'=aK l):Rz (some (.ok (l,i))) (some (.ok (l',i))):=by subst h;rfl
theorem SW{e:Nat}:Rz (some (.error e)) (some (.error e)):=rfl
theorem abH(ts:List PT) : ∀f a i,Rz (gr ts f a i) (gr (ts.map PT.z) f a.z i)
 | 0,a,i=>rfl
 | f+1,a,i=>by
   have ih : ∀a b i,b=a.z->Rz (gr ts f a i) (gr (ts.map PT.z) f b i):=λa b i e=>by rw[e];exact abH ts f a i
   cases a;case jO n b=>
    simp only[gr,NT.z,amZ,am2,abC,kQ];split;·exact SW
    ·exact Fv (by split<;>simp only[nl,aK])
    refine Ni (ih _ _ _ rfl) λ_ _=>ih _ _ _ ?_;simp only[NT.z,AB,nl,aK]
   case jo a b=>
    simp only[gr,NT.z,abF,Fu];cases b.getLast? with
    | none=>exact CF rfl (Fv (by simp only[nl,aK]))
    | some t=>
      simp only[Option.map_some,Fp];refine CF (CF (Ni (ih _ _ _ rfl) λ_ _=>ih _ _ _ ?_) SW) (Fv ?_);all_goals simp only[NT.z,AB,nl,aK]
   case maybe k l all=>
    cases all<;>simp only[gr,NT.z,abD,aM,iF,iT];all_goals exact CF (Ni (ih _ _ _ rfl) λ_ _=>Fv (by simp only[nl,aK])) (Fv (by simp only[nl,aK]))
   all_goals simp only[gr,NT.z,Fu,SU,abB,abC,am0,abD]
   all_goals repeat' first
    | (with_reducible exact SW)
    | (with_reducible refine CF ?_ ?_)
    | (with_reducible refine am3 λ_=> ?_)
    | (with_reducible refine am4 λ_ _=> ?_)
    | (with_reducible refine Ni (ih _ _ _ ?_) λ_ _=> ?_)
    | (with_reducible refine abG (ih _ _ _ ?_) λ_ _=> ?_)
    | (with_reducible refine Fv ?_)
    | (with_reducible refine am5 ?_)
    | (with_reducible refine ih _ _ _ ?_)
    | (simp only[am1,Fp,jF])
   all_goals first | rfl | (have e : ∀(l:List Nd) (n:Nd),aK l++ [nl n]=aK (l++ [n]):=λl n=>(by rw[AB];rfl)
                            simp only[e,nl,aK,abE];done) | (simp only[NT.z,AB,nl,aK,kQ,abE,aG];done) | skip
theorem abI{l:List UInt8}{k n:Nat}{x:List UInt8}(h:fp l=some (k,x,n)):4<=k:=by
 unfold fp at h;split at h;·cases h;split<;>decide
 split at h
 ·split at h;·cases h
  cases h;unfold dw;split<;>decide
 split at h
 ·cases hs:lX (hd l) (l.drop 1) with
  | none=>rw[hs] at h;cases h
  | some y=>rw[hs] at h;cases h;decide
 cases hs:lB l with
 | none=>rw[hs] at h;cases h
 | some y=>rw[hs] at h;cases h;decide
theorem abJ{line:Nat} : ∀ {f:Nat} {t:List UInt8} {d d':Nat} {x:List c8},jb line f t d=some (x,d')->(∀y∈x,4<=y.kind)/\(¬t.length<=cr t->x≠ [])
 | 0,_,_,_,_,h=>by cases h
 | f+1,t,d,d',x,h=>by
   simp only[jb] at h;split at h;·rename_i hb;cases h;exact⟨λy hy=>(by cases hy),λg=>absurd hb g⟩
   cases ht:fp (t.drop (cr t)) with
   | none=>rw[ht] at h;cases h
   | some z=>
     obtain⟨k,y,n⟩:=z;rw[ht] at h;simp only at h;rw[jT] at h;obtain⟨⟨xs,e⟩,h1,h2⟩:=h;cases h2;have ih:=(abJ h1).1;refine⟨λy hy=> ?_,λ_ g=>by cases g⟩;rcases List.mem_cons.1 hy with rfl | hy
     ·exact abI ht
     exact ih y hy
def AD (k:Nat)(x:List UInt8):List UInt8:=if k=7 then al 34::(x++ [al 34,al 32]) else x++ [al 32]
def am6(k:Nat)(x:List UInt8):Prop:=(∀r,fp (AD k x++r)=some (k,x,(AD k x).length-1))/\(∃c u,AD k x=c::u/\c.toNat≠32/\c.toNat≠35)/\∀c∈AD k x,c.toNat≠10
theorem xf{p:Nat->Bool}{y:List UInt8}(hy:p (hd y)=false) : ∀ {x:List UInt8},(∀c∈x,p c.toNat=true)->nW p (x++y)=x.length
 | [],_=>xC (.inr hy)
 | c::x,h=>by
   rw[aS,nW,iP (h c s0),xf hy λa ha=>h a (by simp[ha])];rfl
theorem SX{p:Nat->Bool}(b:p 0=false) : ∀ {l:List UInt8},(∀c∈l.take (nW p l),p c.toNat=true)/\p (hd (l.drop (nW p l)))=false
 | []=>⟨λc hc=>(by cases hc),b⟩
 | c::r=>by
   obtain⟨h1,h2⟩:=SX b (l:=r);by_cases hp:p c.toNat=true
   ·rw[nW,iP hp];refine⟨λa ha=> ?_,h2⟩;rcases List.mem_cons.1 ha with rfl | ha
    ·exact hp
    exact h1 a ha
   rw[nW,iN hp];refine⟨λa ha=>(by cases ha),?_⟩;show p c.toNat=false;simpa using hp
theorem zd{x y:List UInt8}(h:x≠ []):hd (x++y)=hd x:=by
 cases x with
 | nil=>exact absurd rfl h
 | cons c r=>rfl
theorem I3{l:List UInt8}{n:Nat}(h:0<n):hd (l.take n)=hd l:=by
 cases l with
 | nil=>simp
 | cons c r=>cases n with
   | zero=>cases h
   | succ n=>rfl
def AE (x:List UInt8):Prop:=∀c∈x,bA c.toNat=true
def Nj (F:List UInt8):Prop:=F= []\/∃c G,F=c::G/\c.toNat=46/\G≠ []/\AE G
def Nk (E:List UInt8):Prop:=E= []\/∃c G,(E=c::G\/∃s,(s.toNat=43\/s.toNat=45)/\E=c::s::G)/\c.toNat=101/\G≠ []/\AE G
theorem I4{l:List UInt8}:AE (l.take (cq l))/\bA (hd (l.drop (cq l)))=false:=SX de
theorem AF{l:List UInt8}(h:bA (hd l)=true):l.take (cq l)≠ []/\0<cq l:=by
 cases l with
 | nil=>cases h
 | cons c r=>
   have:cq (c::r)=cq r+1:=by
    show nW bA (c::r)=_;rw[nW,iP (show bA c.toNat=true from h)];rfl
   rw[this];exact⟨s0,Om⟩
theorem abK(l:List UInt8):Nj (l.take (iH l))/\(l.take (iH l)).length=iH l:=by
 unfold iH;by_cases h:hd l=46/\bA (hd (l.drop 1))=true
 ·rw[iP h];cases l with
  | nil=>cases h.1
  | cons c r=>
    have b:bA (hd r)=true:=h.2;obtain⟨e,g⟩:=AF b;have k:=uM (l:=r);rw[show 1+cq ((c::r).drop 1)=cq r+1 from CX _ _,Jt];refine⟨.inr ⟨c,_,rfl,h.1,e,I4.1⟩,?_⟩;simp;omega
 rw[iN h];exact⟨.inl rfl,rfl⟩
theorem abL(l:List UInt8):Nk (l.take (eR l))/\(l.take (eR l)).length=eR l:=by
 unfold eR;by_cases h:hd l=101
 ·rw[iP h];cases l with
  | nil=>cases h
  | cons c r=>
    by_cases h1:bA (hd ((c::r).drop 1))=true
    ·rw[iP h1];have b:bA (hd r)=true:=h1;obtain⟨e,k⟩:=AF b;have o:=uM (l:=r);rw[show 1+cq ((c::r).drop 1)=cq r+1 from CX _ _,Jt];refine⟨.inr ⟨c,_, .inl rfl,h,e,I4.1⟩,?_⟩;simp;omega
    rw[iN h1];by_cases h2:(hd ((c::r).drop 1)=43\/hd ((c::r).drop 1)=45)/\bA (hd ((c::r).drop 2))=true
    ·rw[iP h2];cases r with
     | nil=>rcases h2.1 with g | g<;>cases g
     | cons s r=>
       have b:bA (hd r)=true:=h2.2;obtain⟨e,k⟩:=AF b;have o:=uM (l:=r);rw[show 2+cq ((c::s::r).drop 2)=cq r+1+1 from by rw[CX];rfl,Jt,Jt];refine⟨.inr ⟨c,_, .inr ⟨s,h2.1,rfl⟩,h,e,I4.1⟩,?_⟩;simp;omega
    rw[iN h2];exact⟨.inl rfl,rfl⟩
 rw[iN h];exact⟨.inl rfl,rfl⟩
theorem am7{D F E r:List UInt8}(z:AE D)(v:Nj F)(w:Nk E):cq (D++F++E++al 32::r)=D.length/\iH ((D++F++E++al 32::r).drop D.length)=F.length/\eR ((D++F++E++al 32::r).drop (D.length+F.length))=E.length:=by
 have u:hd (al 32::r)=32:=rfl;have x:hd (E++al 32::r)=32\/hd (E++al 32::r)=101:=by
  rcases w with rfl | ⟨c,G,k | ⟨s,_,k⟩,b,_⟩
  ·exact .inl rfl
  ·rw[k];exact .inr b
  rw[k];exact .inr b
 have y:bA (hd (E++al 32::r))=false:=by rcases x with g | g<;>rw[g]<;>decide
 have f0:bA (hd (F++(E++al 32::r)))=false:=by
  rcases v with rfl | ⟨c,G,rfl,b,_⟩
  ·exact y
  show bA c.toNat=false;rw[b];decide
 have d1:(D++F++E++al 32::r).drop D.length=F++(E++al 32::r):=by
  rw[aG,aG,AS rfl]
 have d2:(D++F++E++al 32::r).drop (D.length+F.length)=E++al 32::r:=by
  rw[aG,AS s0]
 refine⟨?_,?_,?_⟩;·rw[aG,aG];exact xf f0 z
 ·rw[d1];rcases v with rfl | ⟨c,G,rfl,b,o,e⟩
  ·unfold iH;rw[iN (λg=>by have:=g.1;rcases x with h | h<;>rw[a6,h] at this<;>cases this)];rfl
  have q:hd (G++(E++al 32::r))=hd G:=zd o;have t:bA (hd G)=true:=by cases G with
   | nil=>exact absurd rfl o
   | cons a G=>exact e a s0
  unfold iH;rw[iP ⟨b,by show bA (hd (G++_))=true;rw[q];exact t⟩];show 1+nW bA (G++_)=_;rw[xf y e];simp;omega
 rw[d2];have sd:bA (hd (al 32::r))=false:=by rw[u];decide
 rcases w with rfl | ⟨c,G,k,b,o,e⟩
 ·unfold eR;rw[iN (by show ¬(32=101);decide)];rfl
 have q:hd (G++al 32::r)=hd G:=zd o;have t:bA (hd G)=true:=by cases G with
  | nil=>exact absurd rfl o
  | cons a G=>exact e a s0
 rcases k with rfl | ⟨s,hs,rfl⟩
 ·unfold eR;rw[iP (show hd (c::G++al 32::r)=101 from b),iP (by show bA (hd (G++_))=true;rw[q];exact t)];show 1+nW bA (G++_)=_;rw[xf sd e];simp;omega
 unfold eR;rw[iP (show hd (c::s::G++al 32::r)=101 from b),iN (by show ¬bA s.toNat=true;rcases hs with g | g<;>rw[g]<;>decide),iP ⟨hs,by show bA (hd (G++_))=true;rw[q];exact t⟩];show 2+nW bA (G++_)=_;rw[xf sd e];simp;omega
theorem am8{D F E:List UInt8}(o:AE D)(p:Nj F)(q:Nk E) : ∀c∈D++F++E,c.toNat≠10:=by
 have b : ∀n,bA n=true->n≠10:=λn h g=>by subst g;cases h
 intro c hc;rcases List.mem_append.1 hc with hc | hc
 ·rcases List.mem_append.1 hc with hc | hc
  ·exact b _ (o c hc)
  rcases p with rfl | ⟨a,G,rfl,e,_,k⟩
  ·cases hc
  rcases List.mem_cons.1 hc with rfl | hc
  ·rw[e];decide
  exact b _ (k c hc)
 rcases q with rfl | ⟨a,G,t,e,_,k⟩
 ·cases hc
 rcases t with rfl | ⟨s,hs,rfl⟩
 ·rcases List.mem_cons.1 hc with rfl | hc
  ·rw[e];decide
  exact b _ (k c hc)
 rcases List.mem_cons.1 hc with rfl | hc
 ·rw[e];decide
 rcases List.mem_cons.1 hc with rfl | hc
 ·rcases hs with g | g<;>rw[g]<;>decide
 exact b _ (k c hc)
theorem am9{l:List UInt8}(k:bA (hd l)=true)(hb:bZ l=false):am6 (dw l) (l.take (a8 l)):=by
 obtain⟨D,o⟩ : ∃D,l.take (cq l)=D:=⟨_,rfl⟩;obtain⟨e,q⟩ : ∃e,l.drop (cq l)=e:=⟨_,rfl⟩;obtain⟨F,K⟩ : ∃F,e.take (iH e)=F:=⟨_,rfl⟩;obtain⟨b,M⟩ : ∃b,e.drop (iH e)=b:=⟨_,rfl⟩;obtain⟨E,N⟩ : ∃E,b.take (eR b)=E:=⟨_,rfl⟩;have O:D.length=cq l:=by rw[<-o];have:=uM (l:=l);simp;omega
 obtain⟨v,t⟩:=abK e;obtain⟨w,x⟩:=abL b;have z:AE D:=by rw[<-o];exact I4.1
 have P:D≠ []:=by rw[<-o];exact(AF k).1
 rw[K] at v t;rw[N] at w x;have hA:hC l=D.length+F.length:=by unfold hC;rw[q,O,t]
 have Q:l.drop (hC l)=b:=by rw[<-M,<-q,List.drop_drop,hA,O,t,<-q]
 have R:a8 l=D.length+F.length+E.length:=by unfold a8;rw[Q,hA,x]
 have hx:l.take (a8 l)=D++F++E:=by
  have V:l=D++e:=by rw[<-o,<-q,xu]
  have W:e=F++b:=by rw[<-K,<-M,xu]
  have X:b=E++b.drop (eR b):=by rw[<-N,xu]
  rw[R];have Y:l=D++F++E++b.drop (eR b):=by rw[aG,<-X,aG,<-W,<-V]
  rw[Y,Dg (by simp only[bW])]
 have S:dw l=if F.length=0/\E.length=0 then 5 else 6:=by unfold dw;rw[q,Q,t,x]
 have Z:dw l≠7:=by rw[S];split<;>decide
 rw[hx];have A:AD (dw l) (D++F++E)=D++F++E++ [al 32]:=by unfold AD;rw[iN Z]
 have oX : ∀y,hd (D++F++E++y)=hd l:=λy=>by
  rw[aG,aG,zd P,<-o,I3 (AF k).2]
 have SZ:fJ (hd l)=false:=by
  unfold bA at k;unfold fJ;simp at k⊢;omega
 refine⟨λr=> ?_,?_,?_⟩
 ·rw[A,aG (D++F++E),xx];obtain⟨B,C,G⟩:=am7 (r:=r) z v w;obtain⟨L,H⟩ : ∃L,D++F++E++al 32::r=L:=⟨_,rfl⟩;have I:=oX (al 32::r);rw[H] at B C G I⊢
  have T:hC L=D.length+F.length:=by unfold hC;rw[B,C]
  have J:a8 L=D.length+F.length+E.length:=by unfold a8;rw[T,G]
  have wF:L.drop (cq L)=L.drop D.length:=by rw[B]
  have wE:L.drop (hC L)=L.drop (D.length+F.length):=by rw[T]
  have U:dw L=dw l:=by rw[S];unfold dw;rw[wF,wE,C,G]
  have wd:L.drop (a8 L)=al 32::r:=by
   rw[J,<-H,AS Sq]
  have wb:bZ L=false:=by
   unfold bZ at hb⊢;rw[wd,J,U,I];rw[R] at hb;simp only[Bool.or_eq_false_iff] at hb⊢;exact⟨⟨⟨by show fJ 32=false;decide,decide_eq_false (by show ¬(32=46);decide)⟩,hb.1.2⟩,hb.2⟩
  unfold fp;rw[I,iN (by rw[SZ];decide),iP k,iN (by rw[wb];decide),U,J];have:L.take (D.length+F.length+E.length)=D++F++E:=by rw[<-H,Dg Sq]
  rw[this];simp only[bW,List.length_singleton,Option.some.injEq,Prod.mk.injEq,true_and];omega
 ·rw[A];cases D with
  | nil=>exact absurd rfl P
  | cons c u=>
    have hc:bA c.toNat=true:=z c s0;refine⟨c,u++F++E++ [al 32],rfl,?_,?_⟩;·intro g;rw[g] at hc;cases hc
    intro g;rw[g] at hc;cases hc
 rw[A];intro c hc;rcases List.mem_append.1 hc with hc | hc
 ·exact am8 z v w c hc
 simp at hc;subst hc;decide
theorem abM{n:Nat}(h:ej n=true):n≠10/\n≠32/\n≠35:=by
 unfold ej fJ bA at h;simp at h;omega
theorem am' : ∀x∈S3++S2++S1.map (λc=> [c]),fJ (hd x)=false/\bA (hd x)=false/\¬(hd x=39\/hd x=34)/\(∃c u,x=c::u)/\hd x≠32/\hd x≠35/\∀c∈x,c.toNat≠10:=by
 have : ∀x∈S3++S2++S1.map (λc=> [c]),fJ (hd x)=false/\bA (hd x)=false/\¬(hd x=39\/hd x=34)/\x≠ []/\hd x≠32/\hd x≠35/\∀c∈x,c.toNat≠10:=by decide
 intro x hx;obtain⟨h1,h2,h3,h4,h5⟩:=this x hx;refine⟨h1,h2,h3,?_,h5⟩;cases x with
 | nil=>exact absurd rfl h4
 | cons c u=>exact⟨c,u,rfl⟩
end
end Can
end Go.Proofs.YtdfgkcoenagaaaaGreat
