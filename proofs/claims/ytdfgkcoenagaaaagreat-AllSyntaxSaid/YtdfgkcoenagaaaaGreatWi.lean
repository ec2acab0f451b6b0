/- The round trip: pe prints the pieces, rule by rule. No program in sight. (Printed by tools/genpp.py.). The round trip: gr answers trees as XRtW says. No program in sight. The round trip: a source's tokens are tokens; a source's tree is as XRtW says. No program in sight. The round trip: what Show prints of a source's tree. No program in sight. The round trip: where pieces stand among tokens; what the grammar answers at last. No program in sight. The round trip: expressions and statements by their forms; what is claimed of each rule's pieces. No program in sight. The round trip: what stands where a rule's pieces stand, and what the grammar answers there: lists. No program in sight. The round trip: the grammar reads the pieces of an expression. No program in sight. The round trip: the grammar reads the pieces of calls, displays, operators. No program in sight. The round trip: the grammar reads the pieces of displays and operators. No program in sight. The round trip: the grammar reads the pieces of operators; so of any expression. No program in sight. The round trip: statements by their forms; the grammar reads the pieces of a simple statement. No program in sight. The round trip: the grammar reads the pieces of a simple statement. No program in sight. The round trip: the grammar reads the pieces of statements. No program in sight. The round trip: the grammar reads the pieces of a tree, and answers that tree. No program in sight. The round trip: the grammar reads the pieces of a -/
import Derived.Test.YtdfgkcoenagaaaaGreatWa
import Derived.Test.YtdfgkcoenagaaaaGreatWh
import Derived.Test.YtdfgkcoenagaaaaGreatWe
import Derived.Test.YtdfgkcoenagaaaaGreatWg
import Derived.Test.YtdfgkcoenagaaaaGreatWf
open Bool renaming and_eq_true → eZ, false_eq_true → aM, not_eq_true' → xo, or_eq_true → zp
open Go.IntKind renaming wrap → v7
open List renaming append_assoc → aG, append_nil → cn, cons_append → aS, drop_left' → AY, eq_of_mem_replicate → T8, getLast?_cons_cons → iu, getLast?_singleton → gT, length_append → bW, length_cons → ay, length_nil → aF, mem_append → fp, mem_cons → jw, mem_singleton → vZ, nil_append → a6, not_mem_nil → zt, singleton_append → xA, take_append_drop → xy, take_left' → Dl, take_succ_cons → Jy
open Nat renaming add_comm → C4, le_refl → ag, not_lt_zero → su, zero_le → fa
open Option renaming map_eq_some_iff → jX
open UInt8 renaming ofNat → al
set_option maxHeartbeats 40000000
set_option linter.unusedSimpArgs false
set_option linter.unusedVariables false
namespace Go.Proofs.YtdfgkcoenagaaaaGreat
namespace Can
section
def eI (n:Nd):Prop:=fh n/\(eK n\/n.kind=48\/n.kind=60)
def oM (l:List Nd):Prop:=∀n∈l,eI n
theorem MZ{n:Nd}{l:List Nd}(h:oM (n::l)):eI n/\oM l:=⟨h n s0,λm b=>h m (by simp[b])⟩
def SR.dD:SR->Prop
 | .at n _ | .expr n=>eI n
 | .dK n=>fh n/\(n.kind=37\/n.kind=38\/n.kind=39\/n.kind=40\/n.kind=41\/n.kind=42\/n.kind=49\/n.kind=50)
 | .dC n=>fh n/\44<=n.kind/\n.kind<=47
 | .shown n=>fh n/\51<=n.kind/\n.kind<=57
 | .two n _ s _=>∃a b,n.kids= [a,b]/\eI a/\eI b
 | .maybe s n=>n.kids= []\/∃a,n.kids= [a]/\eI a
 | .bc _ l | .bF _ l=>oM l
 | .bO _ l=>oM l/\l.length % 2=0
 | .clauses l=>ef l/\tb l
 | .cW l=>ef l/\∀n∈l,n.kind=43
 | .block n=>fh n/\n.kind=1
 | .a9 l=>ef l/\∀n∈l,sK n
 | .ifs s n=>fh n/\n.kind=5/\(s= [105,102,32]\/s= [101,108,105,102,32])
 | .tries n=>fh n/\n.kind=15
 | .cR l=>ef l/\∀n∈l,n.kind=21\/n.kind=22
 | .stmt n=>fh n/\sK n
 | .head n=>fh n/\(n.kind=6\/n.kind=7\/n.kind=8\/n.kind=9\/n.kind=16)
 | .simple n=>fh n/\sK n/\¬(n.kind=5\/n.kind=15\/n.kind=6\/n.kind=7\/n.kind=8\/n.kind=9\/n.kind=16)
theorem alW{c:Nd}(h:fh c)(hk:c.kind=59) : ∃a,c.kids= [a]/\eI a:=by
 obtain⟨k,l,x,o,ks⟩:=c;have hk:k=59:=hk;subst hk;obtain⟨h1,h2⟩:=h;simp[bT] at h1;obtain⟨_,_,a,rfl,ha⟩:=h1;exact⟨a,rfl,h2.1, .inl ha⟩
theorem alX{c:Nd}(h:fh c)(hk:c.kind=58) : ∃a b,c.kids= [a,b]/\eI a/\eI b:=by
 obtain⟨k,l,x,o,ks⟩:=c;have hk:k=58:=hk;subst hk;obtain⟨h1,h2⟩:=h;simp[bT] at h1;obtain⟨_,_,a,b,rfl,ha,_,hb⟩:=h1;exact⟨a,b,rfl,⟨h2.1, .inl ha⟩,⟨h2.2.1, .inl hb⟩⟩
theorem alY{c:Nd}(h:fh c)(hk:c.kind=43):(∃a,c.kids= [a]/\eI a)/\1<=c.op/\c.op<=10:=by
 obtain⟨k,l,x,o,ks⟩:=c;have hk:k=43:=hk;subst hk;obtain⟨h1,h2⟩:=h;simp[bT] at h1;obtain⟨_,h3,h4,a,rfl,ha⟩:=h1;exact⟨⟨a,rfl,h2.1, .inl ha⟩,h3,h4⟩
theorem alZ{a b:Nd}(ga:eI a)(c:eI b):SR.dD (.bO false [a,b]):=by
 refine⟨λn hn=> ?_,s0⟩;rcases List.mem_cons.1 hn with rfl | hn
 ·exact ga
 rw[List.mem_singleton.1 hn];exact c
theorem al0{c:Prop}[Decidable c](x:List UInt8):bf [sy [40], .tk (if c then 5 else 6) x,sy [41]]= [40]++x++ [41]:=by
 by_cases h:c<;>simp[bf,Pc.tx,h]
theorem IQ : ∀ks:List Nd,ks.length<=aq ks
 | []=>ag _
 | n::ks=>by
   have:=IQ ks;simp only[ay,aq,aL];omega
theorem IR : ∀ {ks:List Nd},ef ks->∀n∈ks,fh n
 | [],_,n,hn=>by cases hn
 | a::ks,h,n,hn=>by
   rcases List.mem_cons.1 hn with rfl | hn
   ·exact h.1
   exact IR h.2 n hn
theorem Fj{ks:List Nd}(h:ef ks)(g:nT ks):oM ks:=λn hn=>⟨IR h n hn, .inl (g n hn)⟩
theorem abz{l:Int}{x:List UInt8}{o:Nat}{ks:List Nd}(h:fh (.mk 23 l x o ks)):oM ks:=by
 obtain⟨h1,h2⟩:=h;simp[bT] at h1;obtain⟨_,_,h3⟩:=h1;intro n hn;have hw : ∀ {ks:List Nd},ef ks->∀n∈ks,fh n:=by
  intro ks;induction ks with
  | nil=>intro _ n hn;cases hn
  | cons a ks ih=>
    intro h n hn;rcases List.mem_cons.1 hn with rfl | hn
    ·exact h.1
    exact ih h.2 n hn
 exact⟨hw h2 n hn, .inl ⟨by rw[h3 n hn];omega,by rw[h3 n hn];omega,by rw[h3 n hn];decide,by rw[h3 n hn];decide⟩⟩
theorem al1{l:Int}{x:List UInt8}{o:Nat}{ks:List Nd}(h:fh (.mk 24 l x o ks)):oM ks:=by
 obtain⟨h1,h2⟩:=h;simp[bT] at h1;exact Fj h2 h1.2.2
theorem jt{p:Prop}(h:p:=by
 refine SF (d:=d) (n:=0) ?_;repeat' (first
  | with_reducible refine IP ih ?_ ?_ ?_ ?_
  | with_reducible refine SE ih ?_ ?_ ?_ ?_
  | with_reducible refine SC ?_ ?_
  | with_reducible refine Fi ?_ ?_
  | with_reducible refine SD ?_ ?_
  | with_reducible refine alR ?_ ?_
  | with_reducible refine zb hb hd ?_)
 all_goals first | rfl | assumption | omega | (simp only[r9,List.length_append,List.length_nil,Sz,Nat.add_zero,Nat.zero_add] at hw⊢;omega) | (simp only[SR.me,aq,aL,Nd.kids] at hm⊢;omega) | exact ho | exact g1 | exact g2 | exact g3 | exact g4 | exact g5 | exact ga | exact gb | exact gc | exact ge | exact gl | exact gp | exact gy | exact hsx | (rw[alS];simp;done) | (simp[bf,Pc.tx];done) | (rw[al0];simp;done) | (simp only[SR.me,hk,aq,aL] at hm⊢;omega) | (simp only[SR.me,Cx,aq,aL] at hm⊢;omega)):p:=h
theorem jh{p q:Prop}(h:p)(k:p->q:=by
 intro h;simp only[pp,pe,aE,dz,fy,am,Nat.reduceEqDiff,true_or,or_true,or_false,false_or,or_self,and_true,true_and,and_self,false_and,and_false,↓reduceIte,<-List.append_assoc] at h;exact h):q:=k h
theorem jg{p q:Prop}(k:q)(h:q->p:=by
 intro k;simp only[pp,pe,aE,dz,fy,am,Nat.reduceEqDiff,true_or,or_true,or_false,false_or,or_self,and_true,true_and,and_self,false_and,and_false,↓reduceIte,<-List.append_assoc];exact k):p:=h k
section
variable {f:Nat} (ih:MY SR.dD f) (st:aB) (d:Nat)
include ih in
theorem al2(n:Nd)(a:Nat)(b:d+(f+1)<=20000000)(ho:SR.dD (.at n a))(hm:SR.me (.at n a)<f+1)(hb:st.bad=false)(hd:st.deep=d)(hw:st.w+(bf (pp (f+1) (.at n a) d)).length<=20000):Pr st (pe (f+1) (.at n a) st) (pp (f+1) (.at n a) d):=by
 simp only[pp,pe] at hw⊢
 by_cases hc:gC n<a
 ·simp only[hc,↓reduceIte] at hw⊢;exact jt
 simp only[hc,↓reduceIte] at hw⊢;exact jt
include ih in
theorem al3(b:Bool)(l:List Nd)(c:d+(f+1)<=20000000)(ho:SR.dD (.bc b l))(hm:SR.me (.bc b l)<f+1)(hb:st.bad=false)(hd:st.deep=d)(hw:st.w+(bf (pp (f+1) (.bc b l) d)).length<=20000):Pr st (pe (f+1) (.bc b l) st) (pp (f+1) (.bc b l) d):=by
 rcases l with _ | ⟨n,l⟩
 ·simp only[pp,pe] at hw⊢;exact Pr.refl st
 obtain⟨g1,g2⟩:=MZ ho;cases b;all_goals
  simp only[pp,pe,aM,↓reduceIte,a6] at hw⊢;exact jt
include ih in
theorem al4(b:Bool)(l:List Nd)(c:d+(f+1)<=20000000)(ho:SR.dD (.bF b l))(hm:SR.me (.bF b l)<f+1)(hb:st.bad=false)(hd:st.deep=d)(hw:st.w+(bf (pp (f+1) (.bF b l) d)).length<=20000):Pr st (pe (f+1) (.bF b l) st) (pp (f+1) (.bF b l) d):=by
 rcases l with _ | ⟨n,l⟩
 ·simp only[pp,pe] at hw⊢;exact Pr.refl st
 obtain⟨g1,g2⟩:=MZ ho;cases b;all_goals
  simp only[pp,pe,aM,↓reduceIte,a6] at hw⊢;exact jt
include ih in
theorem al5(n:Nd)(l:Nat)(s:List UInt8)(r:Nat)(c:d+(f+1)<=20000000)(ho:SR.dD (.two n l s r))(hm:SR.me (.two n l s r)<f+1)(hb:st.bad=false)(hd:st.deep=d)(hw:st.w+(bf (pp (f+1) (.two n l s r) d)).length<=20000):Pr st (pe (f+1) (.two n l s r) st) (pp (f+1) (.two n l s r) d):=by
 obtain⟨a,b,hk,g1,g2⟩:=ho;simp only[pp,pe,hk] at hw⊢;rw[gX hb s0 s0];exact jt
include ih in
theorem al6(s:List UInt8)(n:Nd)(b:d+(f+1)<=20000000)(ho:SR.dD (.maybe s n))(hm:SR.me (.maybe s n)<f+1)(hb:st.bad=false)(hd:st.deep=d)(hw:st.w+(bf (pp (f+1) (.maybe s n) d)).length<=20000):Pr st (pe (f+1) (.maybe s n) st) (pp (f+1) (.maybe s n) d):=by
 rcases ho with hk | ⟨a,hk,g1⟩
 ·simp only[pp,pe,hk] at hw⊢;exact jt
 simp only[pp,pe,hk] at hw⊢;exact jt
include ih in
theorem al7(b:Bool)(l:List Nd)(c:d+(f+1)<=20000000)(ho:SR.dD (.bO b l))(hm:SR.me (.bO b l)<f+1)(hb:st.bad=false)(hd:st.deep=d)(hw:st.w+(bf (pp (f+1) (.bO b l) d)).length<=20000):Pr st (pe (f+1) (.bO b l) st) (pp (f+1) (.bO b l) d):=by
 rcases l with _ | ⟨n,_ | ⟨m,l⟩⟩
 ·simp only[pp,pe] at hw⊢;exact Pr.refl st
 ·exact absurd ho.2 s0
 obtain⟨g1,g2⟩:=MZ ho.1;obtain⟨g3,g4⟩:=MZ g2;have g5:SR.dD (.bO true l):=⟨g4,by have:=ho.2;simp only[ay] at this;omega⟩;cases b;all_goals
  simp only[pp,pe,aM,↓reduceIte,a6] at hw⊢;exact jt
include ih in
theorem al8(l:List Nd)(e:d+(f+1)<=20000000)(ho:SR.dD (.clauses l))(hm:SR.me (.clauses l)<f+1)(hb:st.bad=false)(hd:st.deep=d)(hw:st.w+(bf (pp (f+1) (.clauses l) d)).length<=20000):Pr st (pe (f+1) (.clauses l) st) (pp (f+1) (.clauses l) d):=by
 rcases l with _ | ⟨c,l⟩
 ·simp only[pp,pe] at hw⊢;exact Pr.refl st
 obtain⟨⟨g1,g2⟩,g3⟩:=ho;have g4:SR.dD (.clauses l):=⟨g2,λm hm=>g3 m (by simp[hm])⟩;by_cases hk:c.kind=59
 ·obtain⟨a,Cx,ga⟩:=alW g1 hk;simp only[pp,pe,hk,Cx,↓reduceIte,<-aG] at hw⊢;rw[gX hb s0 s0];exact jt
 obtain⟨a,b,Cx,ga,gb⟩:=alX g1 ((g3 c s0).resolve_right hk);simp only[pp,pe,hk,Cx,↓reduceIte,<-aG] at hw⊢;rw[gX hb s0 s0];exact jt
include ih in
theorem al9(l:List Nd)(v:d+(f+1)<=20000000)(ho:SR.dD (.cW l))(b:SR.me (.cW l)<f+1)(hb:st.bad=false)(hd:st.deep=d)(hw:st.w+(bf (pp (f+1) (.cW l) d)).length<=20000):Pr st (pe (f+1) (.cW l) st) (pp (f+1) (.cW l) d):=by
 rcases l with _ | ⟨c,l⟩
 ·simp only[pp,pe] at hw⊢;exact Pr.refl st
 obtain⟨⟨o,q⟩,g⟩:=ho;have t:SR.dD (.cW l):=⟨q,λm b=>g m (by simp[b])⟩;obtain⟨⟨a,k,ga⟩,o1,o2⟩:=alY o (g c s0);simp only[pp,pe,k] at hw⊢;have e : [Pc.sp]++vJ c.op++ [Pc.sp]++pp f (.at a 5) d++pp f (.cW l) d=([Pc.sp]++vJ c.op++ [Pc.sp])++pp f (.at a 5) d++pp f (.cW l) d:=rfl;have hx:([kR,jT w8 c.op,kR]:List (List UInt8)).flatten=bf ([Pc.sp]++vJ c.op++ [Pc.sp]):=by
  rw[r9,r9,alT o1 o2];simp[bf,Pc.tx]
 generalize [Pc.sp]++vJ c.op++ [Pc.sp]=u at hw hx⊢
 have h1:Jp st (aV [kR,jT w8 c.op,kR] st) u d ((bf (pp f (.at a 5) d)).length+((bf (pp f (.cW l) d)).length+0)):=by
  refine Fi hx (zb hb hd ?_);simp only[r9,bW] at hw;omega
 rw[gX h1.bad s0 s0];refine SF (d:=d) (n:=0) (IP ih Om t ?_ (IP ih Om ga ?_ h1));all_goals (simp only[SR.me,k,aq,aL] at b⊢;omega)
include ih in
theorem al'(n:Nd)(D:d+(f+1)<=20000000)(ho:SR.dD (.expr n))(hm:SR.me (.expr n)<f+1)(hb:st.bad=false)(hd:st.deep=d)(hw:st.w+(bf (pp (f+1) (.expr n) d)).length<=20000):Pr st (pe (f+1) (.expr n) st) (pp (f+1) (.expr n) d):=by
 obtain⟨k,ln,x,o,ks⟩:=n;have E:16*aq ks+5<f+1:=hm;simp only[pp,pe,Nd.kind,Nd.text] at hw⊢
 by_cases e:k=30
 ·subst e;simp only[Nat.reduceEqDiff,true_or,or_true,↓reduceIte] at hw⊢;exact jt
 by_cases g:k=31
 ·subst g;simp only[Nat.reduceEqDiff,true_or,or_true,or_false,false_or,↓reduceIte] at hw⊢;exact jt
 by_cases q:k=36
 ·subst q;simp only[Nat.reduceEqDiff,true_or,or_true,or_false,false_or,↓reduceIte] at hw⊢;exact jt
 by_cases t:k=32
 ·subst t;simp only[Nat.reduceEqDiff,true_or,or_true,or_false,false_or,or_self,↓reduceIte] at hw⊢;exact alO hb hw
 by_cases u:k=33
 ·subst u;simp only[Nat.reduceEqDiff,true_or,or_true,or_false,false_or,or_self,↓reduceIte] at hw⊢;exact jt
 by_cases v:k=34
 ·subst v;simp only[Nat.reduceEqDiff,true_or,or_true,or_false,false_or,or_self,↓reduceIte] at hw⊢;exact jt
 by_cases y:k=35
 ·subst y;simp only[Nat.reduceEqDiff,true_or,or_true,or_false,false_or,or_self,↓reduceIte] at hw⊢;exact jt
 by_cases b:k=48
 ·subst b;simp only[Nat.reduceEqDiff,true_or,or_true,or_false,false_or,or_self,↓reduceIte] at hw⊢;exact Pr.refl st
 by_cases c:k=60
 ·subst c;have g1:SR.dD (.maybe [121,105,101,108,100] (.mk 60 ln x o ks)):=by
   obtain⟨⟨g1,g2⟩,_⟩:=ho;simp[bT] at g1;obtain⟨_,_,g1⟩:=g1;rcases g1 with rfl | ⟨a,rfl,ga⟩
   ·exact .inl rfl
   exact .inr ⟨a,rfl,g2.1, .inl ga⟩
  simp only[Nat.reduceEqDiff,true_or,or_true,or_false,false_or,or_self,↓reduceIte] at hw⊢;exact ih _ st d Om g1 (by simp only[SR.me,Nd.kids];omega) hb hd hw
 by_cases z:k=44\/k=45\/k=46\/k=47
 ·have g1:SR.dD (.dC (.mk k ln x o ks)):=⟨ho.1,by show 44<=k;omega,by show k<=47;omega⟩;simp only[e,g,q,t,u,v,y,b,c,z,or_self,↓reduceIte] at hw⊢;exact ih _ st d Om g1 (by simp only[SR.me,Nd.kids];omega) hb hd hw
 by_cases A:k=51\/k=52\/k=53\/k=54\/k=55\/k=56\/k=57
 ·have g1:SR.dD (.shown (.mk k ln x o ks)):=⟨ho.1,by show 51<=k;omega,by show k<=57;omega⟩;simp only[e,g,q,t,u,v,y,b,c,z,A,or_self,↓reduceIte] at hw⊢;exact ih _ st d Om g1 (by simp only[SR.me,Nd.kids];omega) hb hd hw
 have g1:SR.dD (.dK (.mk k ln x o ks)):=by
  refine⟨ho.1,?_⟩;rcases ho.2 with ⟨e1,B,C,F⟩ | e1 | e1
  ·have e1:30<=k:=e1;have B:k<=57:=B;have C:k≠43:=C;show k=37\/k=38\/k=39\/k=40\/k=41\/k=42\/k=49\/k=50;omega
  ·exact absurd e1 b
  exact absurd e1 c
 simp only[e,g,q,t,u,v,y,b,c,z,A,or_self,↓reduceIte] at hw⊢;exact ih _ st d Om g1 (by simp only[SR.me,Nd.kids];omega) hb hd hw
include ih in
theorem ama(B:f<=16000000)(n:Nd)(C:d+(f+1)<=20000000)(ho:SR.dD (.dK n))(hm:SR.me (.dK n)<f+1)(hb:st.bad=false)(hd:st.deep=d)(hw:st.w+(bf (pp (f+1) (.dK n) d)).length<=20000):Pr st (pe (f+1) (.dK n) st) (pp (f+1) (.dK n) d):=by
 have y : ∀ks:List Nd,16*aq ks<f+1->ks.length<=1048576:=λks h=>by have:=IQ ks;omega
 obtain⟨k,ln,x,o,ks⟩:=n;have hk:k=37\/k=38\/k=39\/k=40\/k=41\/k=42\/k=49\/k=50:=ho.2;rcases hk with rfl | rfl | rfl | rfl | rfl | rfl | rfl | rfl
 ·
  obtain⟨⟨g1,g2⟩,_⟩:=ho;simp[bT] at g1;obtain⟨rfl,o1,o2,a,b,rfl,ha,g⟩:=g1;have ga:eI a:=⟨g2.1, .inl ha⟩;have gb:eI b:=⟨g2.2.1, .inl g⟩;replace hw:=jh hw;refine jg ?_;have gt : ∀l s r,SR.dD (.two (.mk 37 ln [] o [a,b]) l s r):=λ_ _ _=>⟨a,b,rfl,ga,gb⟩;by_cases v:o=7
  ·subst v;simp only[↓reduceIte] at hw⊢;exact ih _ st d Om (gt _ _ _) Mk hb hd hw
  simp only[v,↓reduceIte] at hw⊢;exact ih _ st d Om (gt _ _ _) Mk hb hd hw
 ·
  obtain⟨⟨g1,g2⟩,_⟩:=ho;simp[bT] at g1;obtain⟨rfl,o1,a,rfl,ha⟩:=g1;have ga:eI a:=⟨g2.1, .inl ha⟩;replace hw:=jh hw;refine jg ?_;rw[gX hb s0 s0];rcases o1 with rfl | rfl
  all_goals
   simp only[Nat.reduceEqDiff,↓reduceIte] at hw⊢;exact jt
 ·
  obtain⟨⟨g1,g2⟩,_⟩:=ho;simp[bT] at g1;obtain⟨rfl,rfl,a,b,rfl,ha,g⟩:=g1;have ga:eI a:=⟨g2.1, .inl ha⟩;have gb:eI b:=⟨g2.2.1, .inl g⟩;replace hw:=jh hw;refine jg ?_;exact ih _ st d Om ⟨a,b,rfl,ga,gb⟩ Mk hb hd hw
 ·
  obtain⟨⟨g1,g2⟩,_⟩:=ho;simp[bT] at g1;obtain⟨rfl,rfl,a,b,rfl,ha,g⟩:=g1;have ga:eI a:=⟨g2.1, .inl ha⟩;have gb:eI b:=⟨g2.2.1, .inl g⟩;replace hw:=jh hw;refine jg ?_;exact ih _ st d Om ⟨a,b,rfl,ga,gb⟩ Mk hb hd hw
 ·
  obtain⟨⟨g1,g2⟩,_⟩:=ho;simp[bT] at g1;obtain⟨rfl,rfl,a,rfl,ha⟩:=g1;have ga:eI a:=⟨g2.1, .inl ha⟩;replace hw:=jh hw;refine jg ?_;rw[gX hb s0 s0];exact jt
 ·
  obtain⟨⟨g1,g2⟩,_⟩:=ho;simp[bT] at g1;obtain⟨rfl,rfl,a,l,rfl,ha,hl,u⟩:=g1;have ga:eI a:=⟨g2.1, .inl ha⟩;have gl:SR.dD (.cW l):=⟨g2.2,u⟩;have D:1<=l.length:=by cases l with | nil=>exact absurd rfl hl | cons=>simp
  have z:(a::l).length<=1048576:=y _ (by have E:16*aq (a::l)+4<f+1:=hm;omega);replace hw:=jh hw;refine jg ?_;rw[gX hb (by simp only[ay];omega) z];exact jt
 ·
  obtain⟨⟨g1,g2⟩,_⟩:=ho;simp[bT] at g1;obtain⟨rfl,rfl,c,a,b,rfl,hc,ha,g⟩:=g1;have gc:eI c:=⟨g2.1, .inl hc⟩;have ga:eI a:=⟨g2.2.1, .inl ha⟩;have gb:eI b:=⟨g2.2.2.1, .inl g⟩;replace hw:=jh hw;refine jg ?_;rw[gX hb s0 s0];exact jt
 
 obtain⟨⟨g1,g2⟩,_⟩:=ho;simp[bT] at g1;obtain⟨rfl,rfl,p,e,rfl,hp,he⟩:=g1;have ge:eI e:=⟨g2.2.1, .inl he⟩;obtain⟨A,F,G,op,t⟩:=p;have hp:A=23:=hp;subst hp;have gp:oM t:=abz g2.1;replace hw:=jh hw;refine jg ?_;rw[gX hb s0 s0];by_cases hl:0<t.length
 ·simp only[hl,↓reduceIte] at hw⊢;exact jt
 simp only[hl,↓reduceIte,cn] at hw⊢;exact jt
include ih in
theorem amb(v:f<=16000000)(n:Nd)(y:d+(f+1)<=20000000)(ho:SR.dD (.dC n))(hm:SR.me (.dC n)<f+1)(hb:st.bad=false)(hd:st.deep=d)(hw:st.w+(bf (pp (f+1) (.dC n) d)).length<=20000):Pr st (pe (f+1) (.dC n) st) (pp (f+1) (.dC n) d):=by
 have g : ∀ks:List Nd,16*aq ks<f+1->ks.length<=1048576:=λks h=>by have:=IQ ks;omega
 obtain⟨k,ln,x,o,ks⟩:=n;have hk:k=44\/k=45\/k=46\/k=47:=by
  have h1:44<=k:=ho.2.1;have h2:k<=47:=ho.2.2;omega
 rcases hk with rfl | rfl | rfl | rfl
 ·
  obtain⟨⟨g1,g2⟩,_⟩:=ho;simp[bT] at g1;obtain⟨rfl,rfl,a,l,rfl,ha,hl⟩:=g1;have ga:eI a:=⟨g2.1, .inl ha⟩;have gl:oM l:=Fj g2.2 hl;replace hw:=jh hw;refine jg ?_;have e:=g (a::l) (by have t:16*aq (a::l)+4<f+1:=hm;omega);rw[gX hb s0 e];exact jt
 ·
  obtain⟨⟨g1,g2⟩,_⟩:=ho;simp[bT] at g1;obtain⟨ht,rfl,a,rfl,ha⟩:=g1;have ga:eI a:=⟨g2.1, .inl ha⟩;replace hw:=jh hw;refine jg ?_;have e:=g [a] (by have t:16*aq [a]+4<f+1:=hm;omega);rw[gX hb s0 e];by_cases h3:a.kind=30\/a.kind=31
  ·simp only[h3,↓reduceIte] at hw⊢;exact jt
  simp only[h3,↓reduceIte] at hw⊢;exact jt
 ·
  obtain⟨⟨g1,g2⟩,_⟩:=ho;simp[bT] at g1;obtain⟨rfl,rfl,a,b,rfl,ha,u⟩:=g1;have ga:eI a:=⟨g2.1, .inl ha⟩;have gb:eI b:=⟨g2.2.1, .inl u⟩;replace hw:=jh hw;refine jg ?_;have e:=g [a,b] (by have t:16*aq [a,b]+4<f+1:=hm;omega);rw[gX hb s0 e];have h1:Jp st (pe f (.at a 9) st) (pp f (.at a 9) d) d ((bf ([sy [91]]++pp f (.at b 0) d++ [sy [93]])).length+0):=by
   refine SE ih Om ga (by simp only[SR.me,Nd.kids,aq,aL] at hm⊢;omega) (zb hb hd ?_);simp only[r9,bW] at hw⊢;omega
  rw[gX h1.bad s0 s0];exact jt
 
 obtain⟨⟨g1,g2⟩,_⟩:=ho;simp[bT] at g1;obtain⟨rfl,rfl,a,b,c,rfl,ha,u,hc⟩:=g1;have ga:eI a:=⟨g2.1, .inl ha⟩;have gb:eI b:=⟨g2.2.1,u.elim .inl λh=> .inr (.inl h)⟩;have gc:eI c:=⟨g2.2.2.1,hc.elim .inl λh=> .inr (.inl h)⟩;replace hw:=jh hw;refine jg ?_;have e:=g [a,b,c] (by have t:16*aq [a,b,c]+4<f+1:=hm;omega);rw[gX hb s0 e];have h1:Jp st (pe f (.at a 9) st) (pp f (.at a 9) d) d ((bf ([sy [91]]++pp f (.at b 0) d++ [sy [58]]++pp f (.at c 0) d++ [sy [93]])).length+0):=by
  refine SE ih Om ga (by simp only[SR.me,Nd.kids,aq,aL] at hm⊢;omega) (zb hb hd ?_);simp only[r9,bW] at hw⊢;omega
 rw[gX h1.bad s0 s0];exact jt
include ih in
theorem amc(v:f<=16000000)(n:Nd)(y:d+(f+1)<=20000000)(ho:SR.dD (.shown n))(hm:SR.me (.shown n)<f+1)(hb:st.bad=false)(hd:st.deep=d)(hw:st.w+(bf (pp (f+1) (.shown n) d)).length<=20000):Pr st (pe (f+1) (.shown n) st) (pp (f+1) (.shown n) d):=by
 have e : ∀ks:List Nd,16*aq ks<f+1->ks.length<=1048576:=λks h=>by have:=IQ ks;omega
 obtain⟨k,ln,x,o,ks⟩:=n;have hk:k=51\/k=52\/k=53\/k=54\/k=55\/k=56\/k=57:=by
  have h1:51<=k:=ho.2.1;have h2:k<=57:=ho.2.2;omega
 rcases hk with rfl | rfl | rfl | rfl | rfl | rfl | rfl
 ·
  obtain⟨⟨g1,g2⟩,_⟩:=ho;simp[bT] at g1;obtain⟨rfl,rfl,hl⟩:=g1;have gl:oM ks:=Fj g2 hl;replace hw:=jh hw;refine jg ?_;exact jt
 ·
  obtain⟨⟨g1,g2⟩,_⟩:=ho;simp[bT] at g1;obtain⟨rfl,rfl,hl⟩:=g1;have gl:oM ks:=Fj g2 hl;replace hw:=jh hw;refine jg ?_;by_cases h1:ks.length=1
  ·simp only[h1,↓reduceIte] at hw⊢;exact jt
  simp only[h1,↓reduceIte] at hw⊢;exact jt
 ·
  obtain⟨⟨g1,g2⟩,_⟩:=ho;simp[bT] at g1;obtain⟨rfl,rfl,av,hl⟩:=g1;have gl:oM ks:=Fj g2 hl;replace hw:=jh hw;refine jg ?_;exact jt
 ·
  obtain⟨⟨g1,g2⟩,_⟩:=ho;simp[bT] at g1;obtain⟨rfl,rfl,he,hl⟩:=g1;have gl:SR.dD (.bO false ks):=⟨Fj g2 hl,he⟩;replace hw:=jh hw;refine jg ?_;exact jt
 ·
  obtain⟨⟨g1,g2⟩,_⟩:=ho;simp[bT] at g1;obtain⟨rfl,rfl,a,l,rfl,ha,hl,hc⟩:=g1;have ga:eI a:=⟨g2.1, .inl ha⟩;have gl:SR.dD (.clauses l):=⟨g2.2,hc⟩;have g:1<=l.length:=by cases l with | nil=>exact absurd hl de | cons=>simp
  have c:=e (a::l) (by have t:16*aq (a::l)+2<f+1:=hm;omega);replace hw:=jh hw;refine jg ?_;have h1:Jp st (aV [[91]] st) [sy [91]] d ((bf (pp f (.at a 0) d++pp f (.clauses l) d++ [sy [93]])).length+0):=by
   refine Fi rfl (zb hb hd ?_);simp only[r9,bW] at hw⊢;omega
  rw[gX h1.bad (by simp only[ay];omega) c];exact jt
 ·
  obtain⟨⟨g1,g2⟩,_⟩:=ho;simp[bT] at g1;obtain⟨rfl,rfl,a,l,rfl,ha,hl,hc⟩:=g1;have ga:eI a:=⟨g2.1, .inl ha⟩;have gl:SR.dD (.clauses l):=⟨g2.2,hc⟩;have g:1<=l.length:=by cases l with | nil=>exact absurd hl de | cons=>simp
  have c:=e (a::l) (by have t:16*aq (a::l)+2<f+1:=hm;omega);replace hw:=jh hw;refine jg ?_;have h1:Jp st (aV [[123]] st) [sy [123]] d ((bf (pp f (.at a 0) d++pp f (.clauses l) d++ [sy [125]])).length+0):=by
   refine Fi rfl (zb hb hd ?_);simp only[r9,bW] at hw⊢;omega
  rw[gX h1.bad (by simp only[ay];omega) c];exact jt
 
 obtain⟨⟨g1,g2⟩,_⟩:=ho;simp[bT] at g1;obtain⟨rfl,rfl,a,b,l,rfl,ha,u,hl,hc⟩:=g1;have ga:eI a:=⟨g2.1, .inl ha⟩;have gb:eI b:=⟨g2.2.1, .inl u⟩;have gp:SR.dD (.bO false [a,b]):=alZ ga gb;have gl:SR.dD (.clauses l):=⟨g2.2.2,hc⟩;have g:1<=l.length:=by cases l with | nil=>exact absurd hl de | cons=>simp
 have c:=e (a::b::l) (by have t:16*aq (a::b::l)+2<f+1:=hm;omega);replace hw:=jh hw;refine jg ?_;have h1:Jp st (aV [[123]] st) [sy [123]] d ((bf (pp f (.bO false [a,b]) d++pp f (.clauses l) d++ [sy [125]])).length+0):=by
  refine Fi rfl (zb hb hd ?_);simp only[r9,bW] at hw⊢;omega
 rw[gX h1.bad (by simp only[ay];omega) c];exact jt
include ih in
theorem amd(l:List Nd)(b:d+(f+1)<=20000000)(ho:SR.dD (.a9 l))(hm:SR.me (.a9 l)<f+1)(hb:st.bad=false)(hd:st.deep=d)(hw:st.w+(bf (pp (f+1) (.a9 l) d)).length<=20000):Pr st (pe (f+1) (.a9 l) st) (pp (f+1) (.a9 l) d):=by
 rcases l with _ | ⟨n,l⟩
 ·simp only[pp,pe] at hw⊢;exact Pr.refl st
 have g1:SR.dD (.stmt n):=⟨ho.1.1,ho.2 n s0⟩;have g2:SR.dD (.a9 l):=⟨ho.1.2,λm hm=>ho.2 m (by simp[hm])⟩;simp only[pp,pe,hb,aM,↓reduceIte] at hw⊢;exact jt
include ih in
theorem ame(n:Nd)(B:d+(f+1)<=20000000)(ho:SR.dD (.block n))(hm:SR.me (.block n)<f+1)(hb:st.bad=false)(hd:st.deep=d)(hw:st.w+(bf (pp (f+1) (.block n) d)).length<=20000):Pr st (pe (f+1) (.block n) st) (pp (f+1) (.block n) d):=by
 obtain⟨k,ln,x,o,ks⟩:=n;have hk:k=1:=ho.2;subst hk;obtain⟨⟨e,q⟩,_⟩:=ho;simp[bT] at e;obtain⟨_,_,C,t⟩:=e;have u:SR.dD (.a9 ks):=⟨q,t⟩;simp only[pp,pe,am] at hw⊢
 have h1:Jp st (aV [tV] st) [sy [58], .nl, .kV] d ((bf (pp f (.a9 ks) (d+1))).length+0):=by
  refine Fi rfl (zb hb hd ?_);simp only[r9,bW] at hw⊢;omega
 generalize aV [tV] st=b at h1⊢;have g:=h1.deep;have v:=h1.bad;have D:=h1.2.2.2;have h2:=ih (.a9 ks) (b.dp (v7 .i64 (b.deep+1))) (d+1) Om u Mk v (by show v7 .i64 (b.deep+1)=_;rw[g,nh Om Om];rfl) (by show b.w+_<=20000;omega);generalize pe f (.a9 ks) (b.dp (v7 .i64 (b.deep+1)))=s2 at h2⊢;obtain⟨y,z,c,A⟩:=h2;have h3:Pr b (s2.dp (v7 .i64 (s2.deep-1))) (pp f (.a9 ks) (d+1)):=by
  refine⟨y,z,?_,A⟩;show v7 .i64 (s2.deep-1)=b.deep;have c:s2.deep=v7 .i64 (b.deep+1):=c;rw[c,g,nh (a:=(d:Int)+1) Om Om,nh Om Om];omega
 exact(h1.1.trans h3).trans ⟨by simp[bf,Pc.tx],by simp[bf,Pc.tx],rfl,rfl⟩
include ih in
theorem amf(n:Nd)(e:d+(f+1)<=20000000)(ho:SR.dD (.stmt n))(c:SR.me (.stmt n)<f+1)(hb:st.bad=false)(hd:st.deep=d)(hw:st.w+(bf (pp (f+1) (.stmt n) d)).length<=20000):Pr st (pe (f+1) (.stmt n) st) (pp (f+1) (.stmt n) d):=by
 obtain⟨k,ln,x,o,ks⟩:=n;simp only[pp,pe,aE] at hw⊢;have q:16*aq ks+10<f+1:=c;by_cases h5:k=5
 ·simp only[h5,↓reduceIte] at hw⊢;subst h5;exact ih (.ifs _ _) st d Om ⟨ho.1,rfl, .inl rfl⟩ (by simp only[SR.me,Nd.kids];omega) hb hd hw
 by_cases b:k=15
 ·simp only[b,Nat.reduceEqDiff,↓reduceIte] at hw⊢;subst b;exact ih (.tries _) st d Om ⟨ho.1,rfl⟩ (by simp only[SR.me,Nd.kids];omega) hb hd hw
 by_cases hh:k=6\/k=7\/k=8\/k=9\/k=16
 ·simp only[h5,b,hh,↓reduceIte] at hw⊢;exact ih (.head _) st d Om ⟨ho.1,hh⟩ (by simp only[SR.me,Nd.kids];omega) hb hd hw
 simp only[h5,b,hh,↓reduceIte] at hw⊢;have g:SR.dD (.simple (.mk k ln x o ks)):=⟨ho.1,ho.2,by show ¬(k=5\/k=15\/k=6\/k=7\/k=8\/k=9\/k=16);omega⟩;refine SF (d:=d) (n:=0) (SC rfl (IP ih Om g (by simp only[SR.me,Nd.kids];omega) (alQ (zb hb hd ?_))));simp only[r9,bW] at hw⊢;omega
include ih in
theorem amg(n:Nd)(t:d+(f+1)<=20000000)(ho:SR.dD (.simple n))(hm:SR.me (.simple n)<f+1)(hb:st.bad=false)(hd:st.deep=d)(hw:st.w+(bf (pp (f+1) (.simple n) d)).length<=20000):Pr st (pe (f+1) (.simple n) st) (pp (f+1) (.simple n) d):=by
 obtain⟨k,ln,x,o,ks⟩:=n;have hk:k=2\/k=3\/k=4\/k=10\/k=11\/k=12\/k=13\/k=14\/k=17\/k=18\/k=19\/k=20:=by
  have h1:2<=k/\k<=20:=ho.2.1;have h2 : ¬(k=5\/k=15\/k=6\/k=7\/k=8\/k=9\/k=16):=ho.2.2;omega
 rcases hk with rfl | rfl | rfl | rfl | rfl | rfl | rfl | rfl | rfl | rfl | rfl | rfl
 ·
  obtain⟨⟨g1,g2⟩,_⟩:=ho;simp[bT] at g1;obtain⟨rfl,rfl,a,rfl,ha⟩:=g1;have ga:eI a:=⟨g2.1,ha.elim .inl λh=> .inr (.inr h)⟩;have gl:oM [a]:=λn hn=>by rw[List.mem_singleton.1 hn];exact ga
  replace hw:=jh hw;refine jg ?_;exact ih (.bc _ _) st d Om gl Mk hb hd hw
 ·
  obtain⟨⟨g1,g2⟩,_⟩:=ho;simp[bT] at g1;obtain⟨rfl,rfl,l,v,rfl,av,hv,hl⟩:=g1;have gl:oM (l++ [v]):=λn hn=>by
   have c:=IR g2 n hn;rcases List.mem_append.1 hn with hn | hn
   ·exact⟨c, .inl (hl n hn).1⟩
   rw[List.mem_singleton.1 hn] at c⊢;exact⟨c,hv.elim .inl λh=> .inr (.inr h)⟩
  replace hw:=jh hw;refine jg ?_;exact ih (.bF _ _) st d Om gl Mk hb hd hw
 ·
  obtain⟨⟨g1,g2⟩,_⟩:=ho;simp[bT] at g1;obtain⟨rfl,o1,o2,a,b,rfl,ha,hs,g⟩:=g1;have ga:eI a:=⟨g2.1, .inl ha⟩;have gb:eI b:=⟨g2.2.1, .inl g⟩;replace hw:=jh hw;refine jg ?_;exact ih (.two _ _ _ _) st d Om ⟨a,b,rfl,ga,gb⟩ Mk hb hd hw
 ·
  obtain⟨⟨g1,g2⟩,_⟩:=ho;simp[bT] at g1;obtain⟨rfl,rfl,g3⟩:=g1;have e : ∀s k l x o,SR.dD (.maybe s (.mk k l x o ks)):=λ_ _ _ _ _=>by
   rcases g3 with rfl | ⟨a,rfl,ha⟩
   ·exact .inl rfl
   exact .inr ⟨a,rfl,g2.1, .inl ha⟩
  replace hw:=jh hw;refine jg ?_;exact ih (.maybe _ _) st d Om (e _ _ _ _ _) Mk hb hd hw
 ·
  obtain⟨⟨g1,g2⟩,_⟩:=ho;simp[bT] at g1;obtain⟨rfl,rfl,rfl⟩:=g1
  skip
  replace hw:=jh hw;refine jg ?_;exact jt
 ·
  obtain⟨⟨g1,g2⟩,_⟩:=ho;simp[bT] at g1;obtain⟨rfl,rfl,rfl⟩:=g1
  skip
  replace hw:=jh hw;refine jg ?_;exact jt
 ·
  obtain⟨⟨g1,g2⟩,_⟩:=ho;simp[bT] at g1;obtain⟨rfl,rfl,rfl⟩:=g1
  skip
  replace hw:=jh hw;refine jg ?_;exact jt
 ·
  obtain⟨⟨g1,g2⟩,_⟩:=ho;simp[bT] at g1;obtain⟨rfl,rfl,g3⟩:=g1;have e : ∀s k l x o,SR.dD (.maybe s (.mk k l x o ks)):=λ_ _ _ _ _=>by
   rcases g3 with rfl | ⟨a,rfl,ha⟩
   ·exact .inl rfl
   exact .inr ⟨a,rfl,g2.1, .inl ha⟩
  replace hw:=jh hw;refine jg ?_;exact ih (.maybe _ _) st d Om (e _ _ _ _ _) Mk hb hd hw
 ·
  obtain⟨⟨g1,g2⟩,_⟩:=ho;simp[bT] at g1;obtain⟨rfl,rfl,av,hl⟩:=g1;have gl:oM ks:=λn hn=>⟨IR g2 n hn, .inl ⟨by rw[hl n hn];omega,by rw[hl n hn];omega,by rw[hl n hn];decide,by rw[hl n hn];decide⟩⟩;replace hw:=jh hw;refine jg ?_;exact jt
 ·
  obtain⟨⟨g1,g2⟩,_⟩:=ho;simp[bT] at g1;obtain⟨rfl,rfl,av,hl⟩:=g1;have gl:oM ks:=λn hn=>⟨IR g2 n hn, .inl ⟨by rw[hl n hn];omega,by rw[hl n hn];omega,by rw[hl n hn];decide,by rw[hl n hn];decide⟩⟩;replace hw:=jh hw;refine jg ?_;exact jt
 ·
  obtain⟨⟨g1,g2⟩,_⟩:=ho;simp[bT] at g1;obtain⟨rfl,rfl,a,rfl,ha,hs⟩:=g1;have ga:eI a:=⟨g2.1, .inl ha⟩;replace hw:=jh hw;refine jg ?_;rw[gX hb s0 s0];exact jt
 
 obtain⟨⟨g1,g2⟩,_⟩:=ho;simp[bT] at g1;obtain⟨rfl,rfl,a,rfl,ha⟩:=g1;have ga:eI a:=⟨g2.1, .inl ha⟩;replace hw:=jh hw;refine jg ?_;exact ih (.maybe _ _) st d Om (.inr ⟨a,rfl,ga⟩) Mk hb hd hw
include ih in
theorem amh(n:Nd)(y:d+(f+1)<=20000000)(ho:SR.dD (.head n))(hm:SR.me (.head n)<f+1)(hb:st.bad=false)(hd:st.deep=d)(hw:st.w+(bf (pp (f+1) (.head n) d)).length<=20000):Pr st (pe (f+1) (.head n) st) (pp (f+1) (.head n) d):=by
 obtain⟨k,ln,x,o,ks⟩:=n;have hk:k=6\/k=7\/k=8\/k=9\/k=16:=ho.2;rcases hk with rfl | rfl | rfl | rfl | rfl
 ·
  obtain⟨⟨g1,g2⟩,_⟩:=ho;simp[bT] at g1;obtain⟨rfl,rfl,a,b,rfl,ha,e⟩:=g1;have ga:eI a:=⟨g2.1, .inl ha⟩;have gb:SR.dD (.block b):=⟨g2.2.1,e⟩;replace hw:=jh hw;refine jg ?_;rw[gX hb s0 s0];exact jt
 ·
  obtain⟨⟨g1,g2⟩,_⟩:=ho;simp[bT] at g1;obtain⟨rfl,rfl,a,b,c,rfl,ha,hp,e,hc⟩:=g1;have ga:eI a:=⟨g2.1, .inl ha⟩;have gb:eI b:=⟨g2.2.1, .inl e⟩;have gc:SR.dD (.block c):=⟨g2.2.2.1,hc⟩;replace hw:=jh hw;refine jg ?_;rw[gX hb s0 s0];exact jt
 ·
  obtain⟨⟨g1,g2⟩,_⟩:=ho;simp[bT] at g1;obtain⟨ht,rfl,a,b,rfl,ha,e⟩:=g1;obtain⟨t,u,xa,v,g⟩:=a;have ha:t=23:=ha;subst ha;have ga:oM g:=abz g2.1;have gb:SR.dD (.block b):=⟨g2.2.1,e⟩;replace hw:=jh hw;refine jg ?_;rw[gX hb s0 s0];exact jt
 ·
  obtain⟨⟨g1,g2⟩,_⟩:=ho;simp[bT] at g1;obtain⟨ht,rfl,a,b,rfl,ha,e⟩:=g1;obtain⟨t,u,xa,v,g⟩:=a;have ha:t=24:=ha;subst ha;have ga:oM g:=al1 g2.1;have gb:SR.dD (.block b):=⟨g2.2.1,e⟩;replace hw:=jh hw;refine jg ?_;rw[gX hb s0 s0];by_cases h1:0<g.length
  ·simp only[h1,↓reduceIte,<-aG,cn] at hw⊢;exact jt
  simp only[h1,↓reduceIte,<-aG,cn] at hw⊢;exact jt
 
 obtain⟨⟨g1,g2⟩,_⟩:=ho;simp[bT] at g1;obtain⟨ht,rfl,a,b,rfl,ha,e⟩:=g1;have ga:eI a:=⟨g2.1, .inl ha⟩;have gb:SR.dD (.block b):=⟨g2.2.1,e⟩;replace hw:=jh hw;refine jg ?_;rw[gX hb s0 s0];by_cases h1:x= []
 ·simp only[h1,↓reduceIte,<-aG,cn] at hw⊢;exact jt
 simp only[h1,↓reduceIte,<-aG,cn] at hw⊢;exact jt
include ih in
theorem ami(A:f<=16000000)(n:Nd)(B:d+(f+1)<=20000000)(ho:SR.dD (.tries n))(hm:SR.me (.tries n)<f+1)(hb:st.bad=false)(hd:st.deep=d)(hw:st.w+(bf (pp (f+1) (.tries n) d)).length<=20000):Pr st (pe (f+1) (.tries n) st) (pp (f+1) (.tries n) d):=by
 have e : ∀ks:List Nd,16*aq ks<f+1->ks.length<=1048576:=λks h=>by have:=IQ ks;omega
 obtain⟨k,ln,x,o,ks⟩:=n;have hk:k=15:=ho.2;subst hk
 
 obtain⟨⟨g1,g2⟩,_⟩:=ho;simp[bT] at g1;obtain⟨rfl,rfl,b,l,rfl,g,av,h,t,u,c,C,ht⟩:=g1;have gb:SR.dD (.block b):=⟨g2.1,g⟩;have gl:SR.dD (.cR l):=by
  refine⟨g2.2,λn hn=> ?_⟩;rw[u] at hn;rcases List.mem_append.1 hn with hn | hn
  ·exact .inl (c n hn)
  rcases ht with rfl | ⟨y,rfl,v⟩
  ·cases hn
  rw[List.mem_singleton.1 hn];exact .inr v
 have D:1<=l.length:=by cases l with | nil=>exact absurd rfl av | cons=>simp
 have z:=e (b::l) (by have E:16*aq (b::l)+1<f+1:=hm;omega);replace hw:=jh hw;refine jg ?_;rw[gX hb (by simp only[ay];omega) z];exact jt
include ih in
theorem amj(l:List Nd)(g:d+(f+1)<=20000000)(ho:SR.dD (.cR l))(hm:SR.me (.cR l)<f+1)(hb:st.bad=false)(hd:st.deep=d)(hw:st.w+(bf (pp (f+1) (.cR l) d)).length<=20000):Pr st (pe (f+1) (.cR l) st) (pp (f+1) (.cR l) d):=by
 rcases l with _ | ⟨⟨k,ln,x,o,ks⟩,l⟩
 ·simp only[pp,pe] at hw⊢;exact Pr.refl st
 obtain⟨⟨⟨g1,g2⟩,g3⟩,g4⟩:=ho;have gl:SR.dD (.cR l):=⟨g3,λm hm=>g4 m (by simp[hm])⟩;rcases(show k=21\/k=22 from g4 (.mk k ln x o ks) s0) with rfl | rfl
 ·simp[bT] at g1;obtain⟨g1,rfl⟩:=g1;rcases g1 with ⟨rfl,b,rfl,c⟩ | ⟨ht,e,b,rfl,he,c⟩
  ·have gb:SR.dD (.block b):=⟨g2.1,c⟩;simp only[pp,pe,aE,dz,fy,am,Nat.reduceEqDiff,true_or,or_true,or_false,false_or,or_self,and_true,true_and,and_self,false_and,and_false,↓reduceIte,gT,iu,<-aG,cn] at hw⊢;rw[gX hb s0 s0];exact jt
  have gb:SR.dD (.block b):=⟨g2.2.1,c⟩;have ge:eI e:=⟨g2.1, .inl he⟩;by_cases h1:x= []
  ·simp only[pp,pe,aE,dz,fy,am,Nat.reduceEqDiff,true_or,or_true,or_false,false_or,or_self,and_true,true_and,and_self,false_and,and_false,↓reduceIte,gT,iu,h1,<-aG,cn] at hw⊢;rw[gX hb s0 s0];exact jt
  simp only[pp,pe,aE,dz,fy,am,Nat.reduceEqDiff,true_or,or_true,or_false,false_or,or_self,and_true,true_and,and_self,false_and,and_false,↓reduceIte,gT,iu,h1,<-aG,cn] at hw⊢;rw[gX hb s0 s0];exact jt
 simp[bT] at g1;obtain⟨rfl,rfl,b,rfl,c⟩:=g1;have gb:SR.dD (.block b):=⟨g2.1,c⟩;simp only[pp,pe,aE,dz,fy,am,Nat.reduceEqDiff,true_or,or_true,or_false,false_or,or_self,and_true,true_and,and_self,false_and,and_false,↓reduceIte,gT,iu,<-aG,cn] at hw⊢;rw[gX hb s0 s0];exact jt
include ih in
theorem amk(s:List UInt8)(n:Nd)(u:d+(f+1)<=20000000)(ho:SR.dD (.ifs s n))(hm:SR.me (.ifs s n)<f+1)(hb:st.bad=false)(hd:st.deep=d)(hw:st.w+(bf (pp (f+1) (.ifs s n) d)).length<=20000):Pr st (pe (f+1) (.ifs s n) st) (pp (f+1) (.ifs s n) d):=by
 obtain⟨k,ln,x,o,ks⟩:=n;obtain⟨⟨g1,g2⟩,hk,hs⟩:=ho;have hk:k=5:=hk;subst hk;simp[bT] at g1;obtain⟨rfl,rfl,a,b,l,rfl,ha,e,hl⟩:=g1;have ga:eI a:=⟨g2.1, .inl ha⟩;have gb:SR.dD (.block b):=⟨g2.2.1,e⟩;have hsx:s=bf [wd (if s= [105,102,32] then [105,102] else [101,108,105,102]), .sp]:=by rcases hs with rfl | rfl<;>decide
 generalize c : [wd (if s= [105,102,32] then [105,102] else [101,108,105,102]),Pc.sp]=v at hsx;rcases hl with rfl | ⟨⟨g,le,q,t,es⟩,rfl,he⟩
 ·simp only[pp,pe,aE,dz,fy,am,Nat.reduceEqDiff,true_or,or_true,or_false,false_or,or_self,and_true,true_and,and_self,false_and,and_false,↓reduceIte,c,<-aG,cn] at hw⊢;rw[gX hb s0 s0];exact jt
 have he:g=1:=he;subst he;have ge:SR.dD (.block (.mk 1 le q t es)):=⟨g2.2.2.1,rfl⟩;rcases es with _ | ⟨y,_ | ⟨z,es⟩⟩
 ·simp only[pp,pe,aE,dz,fy,am,Nat.reduceEqDiff,true_or,or_true,or_false,false_or,or_self,and_true,true_and,and_self,false_and,and_false,↓reduceIte,c,<-aG,cn] at hw⊢;rw[gX hb s0 s0];exact jt
 ·by_cases h5:y.kind=5
  ·have gy:SR.dD (.ifs [101,108,105,102,32] y):=⟨g2.2.2.1.2.1,h5, .inr rfl⟩;simp only[pp,pe,aE,dz,fy,am,Nat.reduceEqDiff,true_or,or_true,or_false,false_or,or_self,and_true,true_and,and_self,false_and,and_false,↓reduceIte,c,h5,<-aG,cn] at hw⊢;rw[gX hb s0 s0];exact jt
  simp only[pp,pe,aE,dz,fy,am,Nat.reduceEqDiff,true_or,or_true,or_false,false_or,or_self,and_true,true_and,and_self,false_and,and_false,↓reduceIte,c,h5,<-aG,cn] at hw⊢;rw[gX hb s0 s0];exact jt
 simp only[pp,pe,aE,dz,fy,am,Nat.reduceEqDiff,true_or,or_true,or_false,false_or,or_self,and_true,true_and,and_self,false_and,and_false,↓reduceIte,c,<-aG,cn] at hw⊢;rw[gX hb s0 s0];exact jt
end
theorem abA : ∀f,f<=16000000->MY SR.dD f:=by
 intro f;induction f with
 | zero=>intro _ r st d _ _ h;exact absurd h (su _)
 | succ f ih=>
   intro g r st d c ho e hb hd hw;have ih:=ih Om;cases r;case «at» n a=>exact al2 ih st d n a c ho e hb hd hw
   case expr n=>exact al' ih st d n c ho e hb hd hw
   case bc b l=>exact al3 ih st d b l c ho e hb hd hw
   case two n l s r=>exact al5 ih st d n l s r c ho e hb hd hw
   case clauses l=>exact al8 ih st d l c ho e hb hd hw
   case bO b l=>exact al7 ih st d b l c ho e hb hd hw
   case shown n=>exact amc ih st d Om n c ho e hb hd hw
   case dC n=>exact amb ih st d Om n c ho e hb hd hw
   case dK n=>exact ama ih st d Om n c ho e hb hd hw
   case cW l=>exact al9 ih st d l c ho e hb hd hw
   case maybe s n=>exact al6 ih st d s n c ho e hb hd hw
   case block n=>exact ame ih st d n c ho e hb hd hw
   case a9 l=>exact amd ih st d l c ho e hb hd hw
   case ifs s n=>exact amk ih st d s n c ho e hb hd hw
   case tries n=>exact ami ih st d Om n c ho e hb hd hw
   case cR l=>exact amj ih st d l c ho e hb hd hw
   case stmt n=>exact amf ih st d n c ho e hb hd hw
   case head n=>exact amh ih st d n c ho e hb hd hw
   case bF b l=>exact al4 ih st d b l c ho e hb hd hw
   case simple n=>exact amg ih st d n c ho e hb hd hw
theorem td{a b:List Nd}:nT (a++b)↔nT a/\nT b:=by simp only[nT,fp];exact⟨λh=>⟨λn hn=>h n (.inl hn),λn hn=>h n (.inr hn)⟩,λh n hn=>hn.elim (h.1 n) (h.2 n)⟩
theorem te{n:Nd}{b:List Nd}:nT (n::b)↔eK n/\nT b:=by simp only[nT,jw,forall_eq_or_imp]
theorem tf:nT []:=λn hn=>by cases hn
theorem Fk{a b:List Nd}:tb (a++b)↔tb a/\tb b:=by simp only[tb,fp];exact⟨λh=>⟨λn hn=>h n (.inl hn),λn hn=>h n (.inr hn)⟩,λh n hn=>hn.elim (h.1 n) (h.2 n)⟩
theorem Fl{n:Nd}{b:List Nd}:tb (n::b)↔(n.kind=58\/n.kind=59)/\tb b:=by simp only[tb,jw,forall_eq_or_imp]
theorem Fm:tb []:=λn hn=>by cases hn
theorem Fp{a b:List Nd}:tZ (a++b)↔tZ a/\tZ b:=by simp only[tZ,fp];exact⟨λh=>⟨λn hn=>h n (.inl hn),λn hn=>h n (.inr hn)⟩,λh n hn=>hn.elim (h.1 n) (h.2 n)⟩
theorem Fq{n:Nd}{b:List Nd}:tZ (n::b)↔n.kind=36/\tZ b:=by simp only[tZ,jw,forall_eq_or_imp]
theorem Ft:tZ []:=λn hn=>by cases hn
theorem se : ∀ {a b:List Nd},iU (a++b)=(iU a&&iU b)
 | [],b=>by simp[iU]
 | n::a,b=>by simp only[aS,iU,se,Bool.and_assoc]
theorem tg{k:Nat}{l:Int}{x:List UInt8}{o:Nat}{ks:List Nd}:fh (.mk k l x o ks)↔bT k x o ks/\ef ks:=Iff.rfl
theorem qi{k:Nat}{l:Int}{ks:List Nd}:nd k l ks= .mk k l [] 0 ks:=rfl
theorem sf{k:Nat}{l:Int}{x:List UInt8}{o:Nat}{ks:List Nd}:eK (.mk k l x o ks)↔30<=k/\k<=57/\k≠43/\k≠48:=Iff.rfl
theorem th{k:Nat}{l:Int}{x:List UInt8}{o:Nat}{ks:List Nd}:(Nd.mk k l x o ks).kind=k:=rfl
def ua(ts:List PT):Prop:=∀(i:Nat) (k:Nat),(ah ts i).kind=k->4<=k->k<=7->iX k (ah ts i).text
theorem ub{n:Nd}:xE [n]↔fh n/\eK n:=⟨λ⟨m,e,h⟩=>by cases e;exact h,λh=>⟨n,rfl,h⟩⟩
theorem SH{n:Nd}:xP [n]↔fh n/\eK n/\fw n=true:=⟨λ⟨m,e,h⟩=>by cases e;exact h,λh=>⟨n,rfl,h⟩⟩
theorem M4{n:Nd}:xV [n]↔fh n/\vK n:=⟨λ⟨m,e,h⟩=>by cases e;exact h,λh=>⟨n,rfl,h⟩⟩
theorem AD{n:Nd}:xS [n]↔fh n/\sK n:=⟨λ⟨m,e,h⟩=>by cases e;exact h,λh=>⟨n,rfl,h⟩⟩
theorem zd{k:Nat}{n:Nd}:xK k [n]↔fh n/\n.kind=k:=⟨λ⟨m,e,h⟩=>by cases e;exact h,λh=>⟨n,rfl,h⟩⟩
theorem qj{k:Nat}{l:Int}{x:List UInt8}{o:Nat}{ks:List Nd}:sK (.mk k l x o ks)↔2<=k/\k<=20:=Iff.rfl
theorem M5{P Q:List Nd->Prop}{r:PR}(h:TW P r)(b : ∀l,P l->Q l):TW Q r:=by
 match r,h with
 | none,_=>exact trivial
 | some (.error e),_=>exact trivial
 | some (.ok (l,j)),h=>exact b l h
theorem M6{ts:List PT}(b:ua ts){i:Nat}{P:List Nd->Prop}{k:List UInt8->Nat->PR}(h : ∀x,iX 4 x->TW P (k x (i+1))):TW P (jo ts 4 i k):=MW λhk=>h _ (b i 4 hk Om Om)
theorem aml(ts:List PT)(i:Nat):fm ts i<=7:=by
 unfold fm
 (repeat' split)<;>omega
section
variable {ts:List PT} {f:Nat}
theorem amm(e:ua ts)(ih:xf ts f)(i:Nat)(h:NT.kW ts i .plain):TW (NT.out ts i .plain) (gr ts (f+1) .plain i):=by
 have h1 : ∀a i,a.kW ts i->TW (a.out ts i) (gr ts f a i):=ih;simp only[gr];refine r8 (h1 .exprs i trivial) λn j hn=> ?_;have hn:=ub.1 hn;refine oL (λhc=>M5 (h1 (.jp n.line [n]) j ⟨⟨hn.1,trivial⟩,⟨[],n,rfl, .inl hn.2,λm b=>by cases b⟩, .inr hc⟩) λl hl=>hl) λhc=>oL (λc=>tc ?_) λc=>oL (λhs=>r8 (h1 .exprs _ trivial) λm k b=>tc ?_) λ_=>Cu
 ·clear h1 ih;refine AD.2 ?_;simp_all [qi,tg,ef,oK,bT,sf,qj,th,vK,td,te,tf,iU,se,fw,and_assoc,vM,fp,vZ,or_imp,forall_and,forall_eq]
 clear h1 ih;have b:=ub.1 b;refine AD.2 ?_;have ha:=aml ts j;have hb:1<=fm ts j:=by omega
 clear c;simp_all [qi,tg,ef,oK,bT,sf,qj,th,vK,td,te,tf,iU,se,fw,and_assoc,vM,fp,vZ,or_imp,forall_and,forall_eq]
theorem amn(c:ua ts)(ih:xf ts f)(acc:List Nd)(i:Nat)(h:NT.kW ts i (.clauses acc)):TW (NT.out ts i (.clauses acc)) (gr ts (f+1) (.clauses acc) i):=by
 have h1 : ∀a i,a.kW ts i->TW (a.out ts i) (gr ts f a i):=ih;rcases acc with _ | ⟨g,acc⟩
 all_goals simp only[gr]
 all_goals repeat' (first
  | exact Cu
  | with_reducible refine oL (λhc=> ?_) (λhc=> ?_)
  | with_reducible refine Ct ?_
  | with_reducible refine M6 c λx hx=> ?_
  | with_reducible refine MW λhk=> ?_
  | with_reducible refine r8 (h1 _ _ ?_) λn j hn=> ?_
  | with_reducible refine MX (h1 _ _ ?_) λl j hl=> ?_
  | with_reducible refine tc ?_
  | with_reducible refine IM ?_
  | with_reducible refine M5 (h1 _ _ ?_) λl hl=> ?_)
 all_goals clear h1 ih
 all_goals simp only[NT.out,NT.kW,ub,SH,M4,AD,zd] at *
 all_goals first | assumption | trivial | (simp_all [qi,tg,ef,oK,bT,sf,qj,th,vK,td,te,tf,Fk,Fl,Fm,Fp,Fq,Ft,iU,se,fw,and_assoc,MV,fp,vZ,or_imp,forall_and,forall_eq,rZ,Nd.kind];done) | (simp_all [qi,tg,ef,oK,bT,sf,qj,th,vK,td,te,tf,Fk,Fl,Fm,Fp,Fq,Ft,iU,se,fw,rZ,Nd.kind];done) | (obtain⟨n,rfl,e,b⟩:=hl;refine⟨n,rfl,e,?_⟩;first | (show 2<=n.kind/\n.kind<=20;omega) | exact .inl b | exact .inr b) | exact⟨_,[],rfl,⟨hn.1,trivial⟩,hn.2,λn hn=>(by cases hn),λn hn=>(by cases hn)⟩ | skip
theorem amo(c:ua ts)(ih:xf ts f)(k:Nat)(l:Int)(acc:List Nd)(i:Nat)(h:NT.kW ts i (.names k l acc)):TW (NT.out ts i (.names k l acc)) (gr ts (f+1) (.names k l acc) i):=by
 rcases(show k=17\/k=18 from h.1) with rfl | rfl
 all_goals
  have h1 : ∀a i,a.kW ts i->TW (a.out ts i) (gr ts f a i):=ih;simp only[gr];repeat' (first
   | exact Cu
   | with_reducible refine oL (λhc=> ?_) (λhc=> ?_)
   | with_reducible refine Ct ?_
   | with_reducible refine M6 c λx hx=> ?_
   | with_reducible refine MW λhk=> ?_
   | with_reducible refine r8 (h1 _ _ ?_) λn j hn=> ?_
   | with_reducible refine MX (h1 _ _ ?_) λl j hl=> ?_
   | with_reducible refine tc ?_
   | with_reducible refine IM ?_
   | with_reducible refine M5 (h1 _ _ ?_) λl hl=> ?_)
  all_goals clear h1 ih
  all_goals simp only[NT.out,NT.kW,ub,SH,M4,AD,zd] at *
  all_goals first | assumption | trivial | (simp_all [qi,tg,ef,oK,bT,sf,qj,th,vK,td,te,tf,Fk,Fl,Fm,Fp,Fq,Ft,iU,se,fw,and_assoc,MV,fp,vZ,or_imp,forall_and,forall_eq];done) | (simp_all [qi,tg,ef,oK,bT,sf,qj,th,vK,td,te,tf,Fk,Fl,Fm,Fp,Fq,Ft,iU,se,fw];done) | (obtain⟨n,rfl,e,b⟩:=hl;refine⟨n,rfl,e,?_⟩;first | (show 2<=n.kind/\n.kind<=20;omega) | exact .inl b | exact .inr b) | exact⟨_,[],rfl,⟨hn.1,trivial⟩,hn.2,λn hn=>(by cases hn),λn hn=>(by cases hn)⟩ | skip
theorem amp(e:ua ts)(ih:xf ts f)(k:Nat)(l:Int)(b:Bool)(i:Nat)(h:NT.kW ts i (.maybe k l b)):TW (NT.out ts i (.maybe k l b)) (gr ts (f+1) (.maybe k l b) i):=by
 have h1 : ∀a i,a.kW ts i->TW (a.out ts i) (gr ts f a i):=ih;have c:TW xE (gr ts f (if b=true then .exprs else .expr) i):=by
  cases b;·exact h1 .expr i trivial
  exact h1 .exprs i trivial
 simp only[gr];rcases(show k=60\/k=10\/k=14 from h) with rfl | rfl | rfl
 all_goals
  refine oL (λhc=>r8 c λn j hn=>tc (zd.2 ?_)) λhc=>tc (zd.2 ?_)
  ·have hn:=ub.1 hn;clear h1 ih c;simp_all [qi,tg,ef,oK,bT,sf,qj,th,vK,td,te,tf,iU,se,fw,and_assoc,vM,fp,vZ,or_imp,forall_and,forall_eq]
  clear h1 ih c;simp_all [qi,tg,ef,oK,bT,sf,qj,th,vK,td,te,tf,iU,se,fw,and_assoc,vM,fp,vZ,or_imp,forall_and,forall_eq]
theorem amq(o:ua ts)(ih:xf ts f)(n:Nd)(acc:List Nd)(i:Nat)(h:NT.kW ts i (.jR n acc)):TW (NT.out ts i (.jR n acc)) (gr ts (f+1) (.jR n acc) i):=by
 have h1 : ∀a i,a.kW ts i->TW (a.out ts i) (gr ts f a i):=ih;obtain⟨b,c,p,g⟩:=h;simp only[gr];refine alM (tc (ub.2 ?_)) λop j ho=>r8 (h1 .arith j trivial) λm k e=>h1 (.jR n _) k ⟨b,c,?_,?_⟩
 ·clear h1 ih;cases acc with
  | nil=>exact⟨b,c⟩
  | cons a acc=>
    show fh (nd 42 n.line (n::a::acc))/\eK _;simp_all [qi,tg,ef,oK,bT,sf,qj,th,vK,td,te,tf,iU,se,fw,and_assoc,vM,fp,vZ,or_imp,forall_and,forall_eq]
 ·have e:=ub.1 e;clear h1 ih;simp_all [qi,tg,ef,oK,bT,sf,qj,th,vK,td,te,tf,iU,se,fw,and_assoc,vM,fp,vZ,or_imp,forall_and,forall_eq]
 intro y hy;rcases List.mem_append.1 hy with hy | hy
 ·exact g y hy
 rw[List.mem_singleton.1 hy];rfl
theorem amr(g:ua ts)(ih:xf ts f)(l:Int)(acc:List Nd)(i:Nat)(h:NT.kW ts i (.jp l acc)):TW (NT.out ts i (.jp l acc)) (gr ts (f+1) (.jp l acc) i):=by
 have h1 : ∀a i,a.kW ts i->TW (a.out ts i) (gr ts f a i):=ih;obtain⟨b,⟨p,v,rfl,g2,c⟩,g4⟩:=h;simp only[gr,List.getLast?_append,gT,Option.some_or];refine oL (λhc=>oL (λhp=>r8 (h1 .value (i+1) trivial) λw k hw=>h1 (.jp l _) k ?_) λ_=>Cu) λhc=>tc (AD.2 ?_)
 ·have hw:=M4.1 hw;refine⟨oK.2 ⟨b,hw.1,trivial⟩,⟨p++ [v],w,rfl,hw.2,λy hy=> ?_⟩, .inl s0⟩;rcases List.mem_append.1 hy with hy | hy
  ·exact c y hy
  rw[List.mem_singleton.1 hy];refine⟨?_,hp⟩;rcases g2 with g2 | g2
  ·exact g2
  exfalso;obtain⟨k,ln,x,o,ks⟩:=v;have g2:k=60:=g2;subst g2;exact absurd hp (by simp[fw])
 have hp:p≠ []:=λe=>by
  subst e;rcases g4 with g4 | g4
  ·simp at g4
  exact hc g4
 refine⟨⟨?_,b⟩,by simp[qj,qi]⟩;have:bT 3 [] 0 (p++ [v]):=by
  simp only[bT,Nat.reduceEqDiff,false_and,false_or,or_false,true_and,or_self];exact⟨p,v,rfl,hp,g2,c⟩
 exact this
theorem ams(b:ua ts)(ih:xf ts f)(i:Nat)(h:NT.kW ts i .atom):TW (NT.out ts i .atom) (gr ts (f+1) .atom i):=by
 have h1 : ∀a i,a.kW ts i->TW (a.out ts i) (gr ts f a i):=ih;simp only[gr];refine oL (λhc=>tc (ub.2 ?_)) λhc=> ?_
 ·obtain⟨k,hk⟩ : ∃k:Nat,(ah ts i).kind=k:=⟨(ah ts i).kind.toNat,Om⟩;have ht:=b i k hk Om Om;rw[hk];clear h1 ih;obtain rfl | rfl | rfl | rfl:k=4\/k=5\/k=6\/k=7:=by omega
  all_goals
   refine⟨⟨?_,trivial⟩,by simp[sf,yW]⟩;simp_all [bT,yW]
 repeat' (first
  | exact Cu
  | with_reducible refine oL (λhc=> ?_) (λhc=> ?_)
  | with_reducible refine Ct ?_
  | with_reducible refine r8 (h1 _ _ ?_) λn j hn=> ?_
  | with_reducible refine tc ?_)
 all_goals clear h1 ih
 all_goals simp only[NT.out,NT.kW,ub] at *
 all_goals first | assumption | trivial | (simp_all [qi,tg,ef,oK,bT,sf,qj,th,vK,td,te,tf,iU,se,fw,and_assoc,fp,vZ,or_imp,forall_and,forall_eq];done)
theorem amt(v:ua ts)(ih:xf ts f)(acc:List Nd)(i:Nat)(h:NT.kW ts i (.lT acc)):TW (NT.out ts i (.lT acc)) (gr ts (f+1) (.lT acc) i):=by
 have h1 : ∀a i,a.kW ts i->TW (a.out ts i) (gr ts f a i):=ih;obtain⟨b,h,rfl,c,g,q,o⟩:=h;have w : ∀n∈h.dropLast,n.kids.length=2:=λn hn=>o n (List.dropLast_subset _ hn);have t : ∀y,y.kind=21->vM (h++ [y]):=λy p n hn=>by
  rcases List.mem_append.1 hn with hn | hn
  ·exact q n hn
  rw[List.mem_singleton.1 hn];exact p
 have u : ∀y,fh y->y.kind=21->y.kids.length=2->NT.kW ts 0 (.lT ((b::h)++ [y])):=λy p hk hl=>⟨b,h++ [y],rfl,oK.2 ⟨c,p,trivial⟩,g,t y hk,λn hn=>by
  rcases List.mem_append.1 hn with hn | hn
  ·exact o n hn
  rw[List.mem_singleton.1 hn];exact hl⟩
 simp only[gr];refine oL (λhc=>oL (λhb=>r8 (h1 .block _ trivial) λn j hn=>IM ?_) λhb=>r8 (h1 .expr _ trivial) λe j he=>oL (λha=>M6 v λx hx=>Ct (r8 (h1 .block _ trivial) λn k hn=>h1 _ _ ?_)) λha=>Ct (r8 (h1 .block _ trivial) λn k hn=>h1 _ _ ?_)) λhc=>IM ⟨b,h,rfl,c,g,q,w⟩
 ·have hn:=zd.1 hn;refine⟨b,h++ [nd 21 (ah ts i).line [n]],rfl,oK.2 ⟨c,⟨?_,hn.1,trivial⟩,trivial⟩,g,t _ rfl,?_⟩;·simp[bT,hn.2]
  rw[List.dropLast_concat];exact o
 ·have hn:=zd.1 hn;have he:=ub.1 he;refine u _ ⟨?_,he.1,hn.1,trivial⟩ rfl rfl;simp[bT,hn.2,he.2,hx,and_assoc]
 have hn:=zd.1 hn;have he:=ub.1 he;refine u _ ⟨?_,he.1,hn.1,trivial⟩ rfl rfl;simp[bT,hn.2,he.2,and_assoc]
theorem amu(q:ua ts)(ih:xf ts f)(l:Int)(acc:List Nd)(i:Nat)(h:NT.kW ts i (.nR l acc)):TW (NT.out ts i (.nR l acc)) (gr ts (f+1) (.nR l acc) i):=by
 have h1 : ∀a i,a.kW ts i->TW (a.out ts i) (gr ts f a i):=ih;obtain⟨b,h,rfl,c,g,k,o⟩:=h;simp only[gr];refine oL (λhc=>Ct (r8 (h1 .block _ trivial) λn j hn=>tc (AD.2 ⟨⟨?_,?_⟩,by simp[qj,qi]⟩))) λhc=>oL (λ_=>Cu) λhl=>tc (AD.2 ⟨⟨?_,c⟩,by simp[qj,qi]⟩)
 ·have e:bT 15 [] 0 ((b::h)++ [nd 22 (ah ts i).line [n]]):=by
   simp only[bT,Nat.reduceEqDiff,false_and,false_or,or_false,true_and,or_self];exact⟨b,h++ [nd 22 (ah ts i).line [n]],rfl,g,s0,h,_,rfl,k,o, .inr ⟨_,rfl,rfl⟩⟩
  exact e
 ·have hn:=zd.1 hn;refine oK.2 ⟨c,⟨?_,hn.1,trivial⟩,trivial⟩;simp[bT,hn.2]
 have e:bT 15 [] 0 (b::h):=by
  simp only[bT,Nat.reduceEqDiff,false_and,false_or,or_false,true_and,or_self];refine⟨b,h,rfl,g,λe=>hl (by rw[e];rfl),h,[],s0,k,o, .inl rfl⟩
 exact e
end
theorem amv{ts:List PT}(c:ua ts) : ∀f,xf ts f:=by
 intro f;induction f with
 | zero=>intro a i h;exact trivial
 | succ f ih=>
   intro a i h;cases a;case plain=>exact amm c ih i h
   case clauses acc=>exact amn c ih acc i h
   case names k l acc=>exact amo c ih k l acc i h
   case maybe k l b=>exact amp c ih k l b i h
   case jR n acc=>exact amq c ih n acc i h
   case jp l acc=>exact amr c ih l acc i h
   case atom=>exact ams c ih i h
   case lT acc=>exact amt c ih acc i h
   case nR l acc=>exact amu c ih l acc i h
   all_goals
    have h1 : ∀a i,a.kW ts i->TW (a.out ts i) (gr ts f a i):=ih;simp only[gr];repeat' (first
     | exact Cu
     | with_reducible refine oL (λhc=> ?_) (λhc=> ?_)
     | with_reducible refine Ct ?_
     | with_reducible refine M6 c λx hx=> ?_
     | with_reducible refine MW λhk=> ?_
     | with_reducible refine r8 (h1 _ _ ?_) λn j hn=> ?_
     | with_reducible refine MX (h1 _ _ ?_) λl j hl=> ?_
     | with_reducible refine tc ?_
     | with_reducible refine IM ?_
     | with_reducible refine M5 (h1 _ _ ?_) λl hl=> ?_)
    all_goals clear h1 ih
    all_goals simp only[NT.out,NT.kW,ub,SH,M4,AD,zd] at *
    all_goals first | assumption | trivial | (simp_all [qi,tg,ef,oK,bT,sf,qj,th,vK,td,te,tf,Fk,Fl,Fm,Fp,Fq,Ft,iU,se,fw,and_assoc,MV,fp,vZ,or_imp,forall_and,forall_eq];done) | (simp_all [qi,tg,ef,oK,bT,sf,qj,th,vK,td,te,tf,Fk,Fl,Fm,Fp,Fq,Ft,iU,se,fw];done) | (obtain⟨n,rfl,g,e⟩:=hl;refine⟨n,rfl,g,?_⟩;first | (show 2<=n.kind/\n.kind<=20;omega) | exact .inl e | exact .inr e) | exact⟨_,[],rfl,⟨hn.1,trivial⟩,hn.2,λn hn=>(by cases hn),λn hn=>(by cases hn)⟩ | skip
theorem abB{line:Nat} : ∀ {f:Nat} {t:List UInt8} {d d':Nat} {x:List da},je line f t d=some (x,d')->∀y∈x,iX y.kind y.text
 | 0,_,_,_,_,h=>by cases h
 | f+1,t,d,d',x,h=>by
   simp only[je] at h;split at h;·cases h;intro y b;cases b
   cases ht:fq (t.drop (cq t)) with
   | none=>rw[ht] at h;cases h
   | some z=>
     obtain⟨k,y,n⟩:=z;rw[ht] at h;simp only at h;rw[jX] at h;obtain⟨⟨w,e⟩,h1,h2⟩:=h;cases h2;have h4:=abB h1;intro v hv;rcases List.mem_cons.1 hv with rfl | hv
     ·exact⟨_,_,ht⟩
     exact h4 v hv
theorem amw{line d d':Nat}{t:List UInt8}{st aT:List Nat}{x:List da}(h:gF line t d st= .ok (x,d',aT)) : ∀y∈x,4<=y.kind->iX y.kind y.text:=by
 unfold gF at h;split at h;·cases h;intro y hy;cases hy
 split at h;·cases h
 split at h;·cases h
 rename_i ts d1 ht;cases h;intro y hy h4;simp only[fp] at hy;rcases hy with (hy | hy) | hy
 ·split at hy
  ·unfold dZ at hy;split at hy;·simp at hy;rw[hy] at h4;simp at h4
   rw[T8 hy] at h4;simp at h4
  cases hy
 ·exact abB ht y hy
 split at hy;·simp at hy;rw[hy] at h4;simp at h4
 cases hy
theorem abC : ∀ {ts:List (List UInt8)} {line d:Nat} {st aT:List Nat} {x:List da},gG line ts d st= .ok (x,aT)->∀y∈x,4<=y.kind->iX y.kind y.text
 | [],line,d,st,aT,x,h=>by cases h;intro y hy;cases hy
 | t::ts,line,d,st,aT,x,h=>by
   rw[yK] at h;cases b:gF line t d st with
   | error e=>rw[b] at h;cases h
   | ok q=>
     obtain⟨k,d1,g⟩:=q;rw[b] at h;simp only at h;cases c:gG (line+1) ts d1 g with
     | error e=>rw[c] at h;cases h
     | ok w=>
       rw[c] at h;cases h;intro y hy h4;rcases List.mem_append.1 hy with hy | hy
       ·exact amw b y hy h4
       exact abC c y hy h4
theorem amx{src:List UInt8}{ts:List da}(h:gv src= .ok ts) : ∀y∈ts,4<=y.kind->iX y.kind y.text:=by
 unfold gv at h;split at h;·cases h
 cases b:gG 1 (eT src) 0 [0] with
 | error e=>rw[b] at h;cases h
 | ok w=>
   obtain⟨x,st⟩:=w;rw[b] at h;cases h;intro y hy h4;rcases List.mem_append.1 hy with hy | hy
   ·exact abC b y hy h4
   unfold tB at hy;rcases List.mem_append.1 hy with hy | hy
   ·rw[T8 hy] at h4;simp at h4
   simp at hy;rw[hy] at h4;simp at h4
theorem amy{src:List UInt8}{ts:List da}(h:gv src= .ok ts):ua (ts.map iD):=by
 intro i k hk h4 c;cases ht:(ts.map iD)[i]? with
 | some t=>
   have e:ah (ts.map iD) i=t:=by unfold ah;rw[ht]
   rw[e] at hk⊢;obtain⟨y,b,rfl⟩:=List.mem_map.1 (List.mem_of_getElem? ht);have e:(y.kind:Int)=k:=hk;have e:y.kind=k:=by omega
   have:=amx h y b Om;rw[e] at this;exact this
 | none=>
   exfalso;have e:(ah (ts.map iD) i).kind=0:=by
    unfold ah;rw[ht];simp only;split<;>rfl
   omega
theorem abD{src:List UInt8}(h:(cQ src).2.2=0) : ∃ln l,(cQ src).1=nd 1 ln l/\ef l/\(∀n∈l,sK n)/\eY l+1<=60:=by
 unfold cQ at h⊢
 cases b:gv src with
 | error y=>
   rw[b] at h;exfalso;have h:(y.2:Int)=0:=h;have:y.2=20\/y.2=21\/y.2=24:=by
    by_cases hl:src.length<=20000
    ·rcases(Lw hl b).2 with e | e
     ·exact .inl e
     exact .inr (.inl e)
    unfold gv at b;rw[iP Om] at b;cases b;exact .inr (.inr rfl)
   omega
 | ok ts=>
   rw[b] at h;simp only at h⊢;have h1:=amv (amy b) ((ts.map iD).length*64+100) (.top []) 0 ⟨trivial,λn hn=>by cases hn⟩;have h3:=wZ (ts:=ts.map iD) ((ts.map iD).length*64+100) (.top []) 0 trivial (fa _) (by simp only[NT.kM];omega);generalize ts.map iD=c at *;unfold jS at h⊢;generalize gr c (c.length*64+100) (.top []) 0=r at *;match r,h1,h3 with
   | some (.error e),_,_=>exact absurd (show(22:Int)=0 from h) de
   | some (.ok (l,j)),h1,h3=>
     simp only at h⊢;split at h;·exact absurd (show(11:Int)=0 from h) de
     rename_i hh;rw[iN hh];exact⟨_,l,rfl,h1.1,h1.2,Om⟩
theorem amz{F:Nat}{ln:Int}{l:List Nd}(hw:ef l)(hs : ∀n∈l,sK n)(b:16*aq l<F)(c:F<=16000000)(ht:(bf (pp F (.a9 l) 0)).length<=20000) :
 (jU F (nd 1 ln l)).out=bf (pp F (.a9 l) 0)/\(jU F (nd 1 ln l)).bad=false:=by
 obtain⟨h1,_,_,h4⟩:=abA F c (.a9 l) tY 0 Om ⟨hw,hs⟩ b rfl rfl (by show 0+_<=20000;omega);exact⟨h1,h4⟩
def bt (ts:List PT):List Pc->Nat->Nat->Prop
 | [],i,j=>i=j
 | .sp::r,i,j=>bt ts r i j
 | .nl::r,i,j=>ah ts i=⟨1,0,[]⟩/\bt ts r (i+1) j
 | .kV::r,i,j=>ah ts i=⟨2,0,[]⟩/\bt ts r (i+1) j
 | .out::r,i,j=>ah ts i=⟨3,0,[]⟩/\bt ts r (i+1) j
 | .tk k x::r,i,j=>ah ts i=⟨k,0,x⟩/\bt ts r (i+1) j
theorem eg{ts:List PT} : ∀ {a b:List Pc} {i j:Nat},bt ts (a++b) i j↔∃k,bt ts a i k/\bt ts b k j
 | [],b,i,j=>by simp[bt]
 | .sp::r,b,i,j=>by simp only[aS,bt,eg]
 | .nl::r,b,i,j=>by simp only[aS,bt,eg,and_assoc,exists_and_left]
 | .kV::r,b,i,j=>by simp only[aS,bt,eg,and_assoc,exists_and_left]
 | .out::r,b,i,j=>by simp only[aS,bt,eg,and_assoc,exists_and_left]
 | .tk k x::r,b,i,j=>by simp only[aS,bt,eg,and_assoc,exists_and_left]
theorem amA{ts:List PT}{d:Nat}{r:List Pc}{i j:Nat}:bt ts (dW d++r) i j↔bt ts r i j:=by
 unfold dW;generalize 4*d=n;induction n with
 | zero=>rfl
 | succ n ih=>rw[List.replicate_succ,aS];exact ih
def Ev (φ:Nat->PR)(r:Except Nat (List Nd×Nat)):Prop:=∃f0,∀f,f0<=f->φ f=some r
section
variable {ts:List PT} {a:NT} {i j:Nat} {r:Except Nat (List Nd×Nat)} {φ ψ:Nat->PR} {n:Nd} {l:List Nd}
theorem ba(h:Ev (λf=>gr ts (f+1) a i) r):Ev (λf=>gr ts f a i) r:=by
 obtain⟨f0,h⟩:=h;refine⟨f0+1,λf b=> ?_⟩;obtain⟨g,rfl⟩:=Nat.exists_eq_add_of_le' (show 1<=f by omega);exact h g Om
theorem AE{k:Nat->List Nd->Nat->PR}(h:Ev φ (.ok (l,j)))(hk:Ev (λf=>k f l j) r):Ev (λf=>pb (φ f) (k f)) r:=by
 obtain⟨f0,h⟩:=h;obtain⟨f1,hk⟩:=hk;refine⟨max f0 f1,λf b=> ?_⟩;show pb (φ f) (k f)=_;rw[h f Om];exact hk f Om
theorem bv{k:Nat->Nd->Nat->PR}(h:Ev φ (.ok ([n],j)))(hk:Ev (λf=>k f n j) r):Ev (λf=>bu (φ f) (k f)) r:=by
 obtain⟨f0,h⟩:=h;obtain⟨f1,hk⟩:=hk;refine⟨max f0 f1,λf b=> ?_⟩;show bu (φ f) (k f)=_;rw[h f Om];exact hk f Om
theorem IV{c:Prop}[Decidable c](hc:c)(h:Ev φ r):Ev (λf=>if c then φ f else ψ f) r:=by
 simp only[iP hc];exact h
theorem vN{c:Prop}[Decidable c](hc : ¬c)(h:Ev ψ r):Ev (λf=>if c then φ f else ψ f) r:=by
 simp only[iN hc];exact h
theorem iY{s:List UInt8}{k:Nat->Nat->PR}(hc:ai ts i s=true)(h:Ev (λf=>k f (i+1)) r):Ev (λf=>eX ts s i (k f)) r:=by
 simp only[eX,iP hc];exact h
theorem xg{kd:Int}{k:Nat->List UInt8->Nat->PR}(hc:(ah ts i).kind=kd)(h:Ev (λf=>k f (ah ts i).text (i+1)) r):Ev (λf=>jo ts kd i (k f)) r:=by
 simp only[jo,iP hc];exact h
theorem cf:Ev (λ_=>bI n i) (.ok ([n],i)):=⟨0,λ_ _=>rfl⟩
theorem Fu:Ev (λ_=>some r) r:=⟨0,λ_ _=>rfl⟩
end
def qT (t:PT)(s:List UInt8):Bool:=decide ((t.kind=8\/t.kind=9)/\t.text=s/\rQ s=decide (t.kind=8))
theorem lX{ts:List PT}{i:Nat}{s:List UInt8}:ai ts i s=qT (ah ts i) s:=rfl
theorem gY{ts:List PT}{i:Nat}{s:List UInt8}{t:PT}(h:ah ts i=t)(e:qT t s=true):ai ts i s=true:=by rw[lX,h,e]
theorem aJ{ts:List PT}{i:Nat}{s:List UInt8}{t:PT}(h:ah ts i=t)(e:qT t s=false):ai ts i s=false:=by rw[lX,h,e]
def jv:List (Nat×List UInt8):= [(9,B9),(9,lq),(9,p7),(8,Iv),(6,Ak),(6,B8),(6,ET),(6,Iu),(5,nk),(5,oz),(4,Im),(4,Io),(4,Ip),(4,Iq),(4,Ir),(4,Is),(4,tP),(4,lS),(4,It),(2,qK),(1,qJ),(0,lj)]
def Sp (ts:List PT)(j m:Nat):Prop:=∀l s,(l,s)∈jv->m<=l->ai ts j s=false
theorem Sp.up{ts:List PT}{j m b:Nat}(h:Sp ts j m)(g:m<=b):Sp ts j b:=λl s hs hl=>h l s hs (Nat.le_trans g hl)
theorem cX{ts:List PT}{j:Nat}{t:PT}(m:Nat)(h:ah ts j=t)(e:(jv.all λp=>decide (p.1<m) || !qT t p.2)=true):Sp ts j m:=by
 intro l s hs hl;have:=List.all_eq_true.1 e (l,s) hs;simp only[zp,decide_eq_true_eq,xo] at this;exact aJ h (this.resolve_left Om)
theorem M7{ts:List PT}{j:Nat}:Sp ts j 10:=λl s hs hl=>by
 simp only[jv,jw,Prod.mk.injEq,zt,or_false] at hs;omega
def Cz:List (List UInt8):= [qI,lS,qL,qM,qN,nk,oz,lq,p7,wW]
def M8 (t:PT)(m:Nat):Bool:=(decide (4<=t.kind/\t.kind<=7)||Cz.any (qT t))&&(decide (m<8)||(!qT t nk && !qT t oz))&&(decide (m<4) || !qT t lS)&&(decide (m<1) || !qT t qI)
def Fs (ts:List PT)(i m:Nat):Prop:=M8 (ah ts i) m=true
theorem lC{ts:List PT}{i m:Nat}{t:PT}(h:ah ts i=t)(e:M8 t m=true):Fs ts i m:=by unfold Fs;rw[h,e]
theorem Fs.parts{ts:List PT}{i m:Nat}(h:Fs ts i m):((4<=(ah ts i).kind/\(ah ts i).kind<=7)\/∃s∈Cz,ai ts i s=true)/\(8<=m->ai ts i nk=false/\ai ts i oz=false)/\(4<=m->ai ts i lS=false)/\(1<=m->ai ts i qI=false):=by
 unfold Fs M8 at h;simp only[eZ,zp,decide_eq_true_eq,xo,List.any_eq_true] at h;obtain⟨⟨⟨h1,h2⟩,h3⟩,h4⟩:=h;exact⟨h1,λg=>h2.resolve_left Om,λg=>h3.resolve_left Om,λg=>h4.resolve_left Om⟩
theorem Fs.lo{ts:List PT}{i m b:Nat}(h:Fs ts i m)(g:b<=m):Fs ts i b:=by
 unfold Fs M8 at h⊢;simp only[eZ,zp,decide_eq_true_eq,xo] at h⊢;obtain⟨⟨⟨h1,h2⟩,h3⟩,h4⟩:=h;exact⟨⟨⟨h1,h2.imp_left Om⟩,h3.imp_left Om⟩,h4.imp_left Om⟩
theorem Fs.no{ts:List PT}{i m:Nat}(h:Fs ts i m){s:List UInt8}(hs:s∉Cz):ai ts i s=false:=by
 cases hi:ai ts i s with
 | false=>rfl
 | true=>
   exfalso;have h1:=of_decide_eq_true hi;rcases h.parts.1 with g | ⟨e,b,c⟩
   ·omega
   have h2:=of_decide_eq_true c;rw[h1.2.1] at h2;exact hs (h2.2.1▸b)
theorem Fs.beg{ts:List PT}{i m:Nat}(h:Fs ts i m):iR ts i=true:=by
 unfold iR;rcases h.parts.1 with g | ⟨e,b,c⟩
 ·rw[decide_eq_true g];simp
 simp only[Cz,jw,zt,or_false] at b;rcases b with rfl | rfl | rfl | rfl | rfl | rfl | rfl | rfl | rfl | rfl<;>simp[c]
theorem Fs.kd{ts:List PT}{i m:Nat}(h:Fs ts i m):4<=(ah ts i).kind/\(ah ts i).kind<=9:=by
 rcases h.parts.1 with g | ⟨c,e,b⟩
 ·omega
 have:=(of_decide_eq_true b).1;omega
theorem Fs.pl{ts:List PT}{i m:Nat}(h:Fs ts i m)(g:8<=m):ai ts i nk=false/\ai ts i oz=false:=h.parts.2.1 g
theorem Fs.nt{ts:List PT}{i m:Nat}(h:Fs ts i m)(g:4<=m):ai ts i lS=false:=h.parts.2.2.1 g
theorem Fs.lm{ts:List PT}{i m:Nat}(h:Fs ts i m)(g:1<=m):ai ts i qI=false:=h.parts.2.2.2 g
def nv:Nat->NT
 | 0=> .expr | 1=> .or | 2=> .and | 3=> .not | 4=> .compare | 5=> .arith | 6=> .term | 7=> .oD | 8=> .oD | 9=> .primary
 | _=> .atom
def SI (ts:List PT)(m:Nat)(n:Nd)(j:Nat)(r:Except Nat (List Nd×Nat)):Prop:=match m with
 | 1=>Ev (λf=>gr ts f (.tR n) j) r
 | 2=>Ev (λf=>gr ts f (.tS n) j) r
 | 5=>Ev (λf=>gr ts f (.sW n) j) r
 | 6=>Ev (λf=>gr ts f (.qP n) j) r
 | 9=>Ev (λf=>gr ts f (.rV n) j) r
 | _=>Sp ts j m/\r= .ok ([n],j)
def CP (ts:List PT)(i j m:Nat)(n:Nd):Prop:=∀r,Sp ts j (m+1)->SI ts m n j r->Ev (λf=>gr ts f (nv m) i) r
abbrev Ga(ts:List PT)(a:NT)(i:Nat)(n:Nd)(j:Nat):Prop:=Ev (λf=>gr ts f a i) (.ok ([n],j))
section
variable {ts:List PT} {i j m:Nat} {n:Nd}
theorem abE(h:Sp ts j 4):eB ts j= .ok (0,j):=by
 have g : ∀s,(4,s)∈jv->ai ts j s=false:=λs hs=>h 4 s hs (ag _);unfold eB;rw[g Im (by simp[jv]),g Io (by simp[jv]),g Ip (by simp[jv]),g Iq (by simp[jv]),g Ir (by simp[jv]),g Is (by simp[jv]),g tP (by simp[jv]),g lS (by simp[jv]),g It (by simp[jv])];simp
theorem amB(h:Sp ts j m):SI ts m n j (.ok ([n],j)):=by
 have g : ∀l s,(l,s)∈jv->m<=l->ai ts j s=false:=h;unfold SI;split;·refine ba ?_;simp only[gr,g 1 qJ (by simp[jv]) Om,aM,iF];exact cf
 ·refine ba ?_;simp only[gr,g 2 qK (by simp[jv]) Om,aM,iF];exact cf
 ·refine ba ?_;simp only[gr,g 5 nk (by simp[jv]) Om,g 5 oz (by simp[jv]) Om,aM,iF];exact cf
 ·refine ba ?_;simp only[gr,g 6 Ak (by simp[jv]) Om,g 6 B8 (by simp[jv]) Om,g 6 ET (by simp[jv]) Om,g 6 Iu (by simp[jv]) Om,aM,iF];exact cf
 ·refine ba ?_;simp only[gr,g 9 B9 (by simp[jv]) Om,g 9 lq (by simp[jv]) Om,g 9 p7 (by simp[jv]) Om,aM,iF];exact cf
 exact⟨h,rfl⟩
theorem CP.ga(h:CP ts i j m n)(hs:Sp ts j m):Ga ts (nv m) i n j:=h _ (hs.up (Nat.le_succ m)) (amB hs)
theorem amC{k:Nat}(hk:k<=9)(b:Fs ts i (k+1))(h:CP ts i j (k+1) n):CP ts i j k n:=by
 intro r hs hl;have h1:Ga ts (nv (k+1)) i n j:=h.ga hs;have g : ∀l s,(l,s)∈jv->k+1<=l->ai ts j s=false:=hs;obtain rfl | rfl | rfl | rfl | rfl | rfl | rfl | rfl | rfl | rfl:k=0\/k=1\/k=2\/k=3\/k=4\/k=5\/k=6\/k=7\/k=8\/k=9:=by omega
 ·obtain⟨hl,rfl⟩:=hl;refine ba ?_;simp only[nv,gr,b.lm (ag _),aM,iF];refine bv h1 ?_;simp only[hl 0 lj (by simp[jv]) Om,aM,iF];exact cf
 ·refine ba ?_;simp only[nv,gr];exact bv h1 hl
 ·refine ba ?_;simp only[nv,gr];exact bv h1 hl
 ·obtain⟨hl,rfl⟩:=hl;refine ba ?_;simp only[nv,gr,b.nt (ag _),aM,iF];exact h1
 ·obtain⟨hl,rfl⟩:=hl;refine ba ?_;simp only[nv,gr];refine bv h1 (ba ?_);simp only[gr,abE hl,List.isEmpty_nil,iT];exact cf
 ·refine ba ?_;simp only[nv,gr];exact bv h1 hl
 ·refine ba ?_;simp only[nv,gr];exact bv h1 hl
 ·obtain⟨hl,rfl⟩:=hl;exact h1
 ·obtain⟨hl,rfl⟩:=hl;refine ba ?_;simp only[nv,gr,(b.pl Om).1,(b.pl Om).2,aM,iF];refine bv h1 ?_;simp only[hl 8 Iv (by simp[jv]) Om,aM,iF];exact cf
 refine ba ?_;simp only[nv,gr];exact bv h1 hl
theorem IW{a:Nat}(c:m<=10)(ha:a<=m)(b:Fs ts i m)(h:CP ts i j m n):CP ts i j a n:=by
 induction m with
 | zero=>
  obtain rfl:a=0:=by omega
  exact h
 | succ m ih=>
   by_cases e:a=m+1
   ·subst e;exact h
   exact ih Om Om (b.lo (Nat.le_succ m)) (amC Om b h)
theorem SK(h:Ga ts .atom i n j):CP ts i j 10 n:=by
 rintro r _ ⟨_,rfl⟩;exact h
end
def bC (n:Nd):Prop:=fh n/\eK n
def pw (l:List Nd):Prop:=∀n∈l,bC n
def CA (n:Nd):Prop:=bC n\/∃l,n= .mk 48 l [] 0 []
def qk (n:Nd):Prop:=(∃l a b,n= .mk 58 l [] 0 [a,b]/\bC a/\fw a=true/\bC b)\/∃l a,n= .mk 59 l [] 0 [a]/\bC a
def Fv (n:Nd):Prop:=∃l o a,n= .mk 43 l [] o [a]/\1<=o/\o<=10/\bC a
def CB (n:Nd):Prop:=∃l x,n= .mk 36 l x 0 []/\iX 4 x
inductive EV:Nd->Prop where
 | int {l x} (h:iX 5 x):EV (.mk 30 l x 0 [])
 | CC {l x} (h:iX 6 x):EV (.mk 31 l x 0 [])
 | str {l x} (h:iX 7 x):EV (.mk 32 l x 0 [])
 | M9 {l x} (h:iX 4 x):EV (.mk 36 l x 0 [])
 | ql {k l} (h:k=33\/k=34\/k=35):EV (.mk k l [] 0 [])
 | bin {l o a b} (h1:1<=o) (h2:o<=7) (ha:bC a) (hb:bC b):EV (.mk 37 l [] o [a,b])
 | un {l o a} (h:o=1\/o=2) (ha:bC a):EV (.mk 38 l [] o [a])
 | and {l a b} (ha:bC a) (hb:bC b):EV (.mk 39 l [] 0 [a,b])
 | or {l a b} (ha:bC a) (hb:bC b):EV (.mk 40 l [] 0 [a,b])
 | not {l a} (ha:bC a):EV (.mk 41 l [] 0 [a])
 | cmp {l a ks} (ha:bC a) (hn:ks≠ []) (hk : ∀n∈ks,Fv n):EV (.mk 42 l [] 0 (a::ks))
 | call {l a ks} (ha:bC a) (hk:pw ks):EV (.mk 44 l [] 0 (a::ks))
 | attr {l x a} (h:iX 4 x) (ha:bC a):EV (.mk 45 l x 0 [a])
 | idx {l a b} (ha:bC a) (hb:bC b):EV (.mk 46 l [] 0 [a,b])
 | pI {l a b c} (ha:bC a) (hb:CA b) (hc:CA c):EV (.mk 47 l [] 0 [a,b,c])
 | cond {l a b c} (ha:bC a) (hb:bC b) (hc:bC c):EV (.mk 49 l [] 0 [a,b,c])
 | lam {l l' ps e} (hp : ∀n∈ps,CB n) (he:bC e):EV (.mk 50 l [] 0 [.mk 23 l' [] 0 ps,e])
 | vc {l ks} (h:pw ks):EV (.mk 51 l [] 0 ks)
 | eF {l ks} (h:pw ks):EV (.mk 52 l [] 0 ks)
 | set {l a ks} (ha:bC a) (h:pw ks):EV (.mk 53 l [] 0 (a::ks))
 | CD {l ks} (h:pw ks) (he:ks.length % 2=0):EV (.mk 54 l [] 0 ks)
 | CE {l a ks} (ha:bC a) (hn:rZ ks=true) (h : ∀n∈ks,qk n):EV (.mk 55 l [] 0 (a::ks))
 | CF {l a ks} (ha:bC a) (hn:rZ ks=true) (h : ∀n∈ks,qk n):EV (.mk 56 l [] 0 (a::ks))
 | CG {l a b ks} (ha:bC a) (hb:bC b) (hn:rZ ks=true) (h : ∀n∈ks,qk n):EV (.mk 57 l [] 0 (a::b::ks))
theorem sg : ∀ {ks:List Nd},ef ks->∀n∈ks,fh n
 | [],_,n,hn=>by cases hn
 | a::ks,h,n,hn=>by
   rcases List.mem_cons.1 hn with rfl | hn
   ·exact h.1
   exact sg h.2 n hn
theorem Fw{ks:List Nd}(h:ef ks)(g:nT ks):pw ks:=λn hn=>⟨sg h n hn,g n hn⟩
theorem SM{n:Nd}(h:fh n)(hk:n.kind=36):CB n:=by
 obtain⟨k,l,x,o,ks⟩:=n;obtain rfl:k=36:=hk;have h1:=h.1;simp[bT] at h1;obtain⟨h1,rfl,rfl⟩:=h1;exact⟨l,x,rfl,h1⟩
theorem SO{n:Nd}(h:fh n)(hk:n.kind=58\/n.kind=59):qk n:=by
 obtain⟨k,l,x,o,ks⟩:=n;obtain⟨h1,h2⟩:=h;rcases hk with hk | hk<;>obtain rfl:k=_:=hk<;>simp[bT] at h1
 ·obtain⟨rfl,rfl,a,b,rfl,ha,hp,hb⟩:=h1;exact .inl ⟨l,a,b,rfl,⟨h2.1,ha⟩,hp,h2.2.1,hb⟩
 obtain⟨rfl,rfl,a,rfl,ha⟩:=h1;exact .inr ⟨l,a,rfl,h2.1,ha⟩
theorem amD{n:Nd}(h:fh n)(hk:n.kind=43):Fv n:=by
 obtain⟨k,l,x,o,ks⟩:=n;obtain⟨h1,h2⟩:=h;obtain rfl:k=43:=hk;simp[bT] at h1;obtain⟨rfl,h3,h4,a,rfl,ha⟩:=h1;exact⟨l,o,a,rfl,h3,h4,h2.1,ha⟩
theorem abF{n:Nd}(h:fh n)(hk:eK n\/n.kind=48):CA n:=by
 rcases hk with hk | hk
 ·exact .inl ⟨h,hk⟩
 obtain⟨k,l,x,o,ks⟩:=n;obtain⟨h1,h2⟩:=h;obtain rfl:k=48:=hk;simp[bT] at h1;obtain⟨rfl,rfl,rfl⟩:=h1;exact .inr ⟨l,rfl⟩
theorem qU{n:Nd}(h:bC n):EV n:=by
 obtain⟨k,l,x,o,ks⟩:=n;obtain⟨⟨h1,h2⟩,he⟩:=h;obtain⟨w,y,u,z⟩:=he;replace w:30<=k:=w;replace y:k<=57:=y;replace u:k≠43:=u;replace z:k≠48:=z;rcases h1 with h | h | h | h | h | h | h | h | h | h | h | h | h | h | h | h | h | h | h | h | h | h | h | h | h | h | h | h | h | h | h | h | h | h | h | h | h | h | h | h | h | h
 ·obtain⟨rfl,h,rfl,rfl⟩:=h;exact .int h
 ·obtain⟨rfl,h,rfl,rfl⟩:=h;exact .CC h
 ·obtain⟨rfl,h,rfl,rfl⟩:=h;exact .str h
 ·obtain⟨rfl,h,rfl,rfl⟩:=h;exact .M9 h
 ·obtain⟨h,rfl,rfl,rfl⟩:=h;exact .ql Om
 ·obtain⟨rfl,rfl,t,v,a,b,rfl,ha,hb⟩:=h;exact .bin t v ⟨h2.1,ha⟩ ⟨h2.2.1,hb⟩
 ·obtain⟨rfl,rfl,g,a,rfl,ha⟩:=h;exact .un g ⟨h2.1,ha⟩
 ·obtain⟨rfl | rfl,rfl,rfl,a,b,rfl,ha,hb⟩:=h;·exact .and ⟨h2.1,ha⟩ ⟨h2.2.1,hb⟩
  exact .or ⟨h2.1,ha⟩ ⟨h2.2.1,hb⟩
 ·obtain⟨rfl,rfl,rfl,a,rfl,ha⟩:=h;exact .not ⟨h2.1,ha⟩
 ·obtain⟨rfl,rfl,rfl,a,ks,rfl,ha,hn,hk⟩:=h;exact .cmp ⟨h2.1,ha⟩ hn λn q=>amD (sg h2.2 n q) (hk n q)
 ·obtain⟨rfl,_⟩:=h;exact absurd rfl u
 ·obtain⟨rfl,rfl,rfl,a,ks,rfl,ha,hk⟩:=h;exact .call ⟨h2.1,ha⟩ (Fw h2.2 hk)
 ·obtain⟨rfl,g,rfl,a,rfl,ha⟩:=h;exact .attr g ⟨h2.1,ha⟩
 ·obtain⟨rfl,rfl,rfl,a,b,rfl,ha,hb⟩:=h;exact .idx ⟨h2.1,ha⟩ ⟨h2.2.1,hb⟩
 ·obtain⟨rfl,rfl,rfl,a,b,c,rfl,ha,hb,hc⟩:=h;exact .pI ⟨h2.1,ha⟩ (abF h2.2.1 hb) (abF h2.2.2.1 hc)
 ·obtain⟨rfl,rfl,rfl,a,b,c,rfl,ha,hb,hc⟩:=h;exact .cond ⟨h2.1,ha⟩ ⟨h2.2.1,hb⟩ ⟨h2.2.2.1,hc⟩
 ·obtain⟨rfl,rfl,rfl,p,e,rfl,hp,he⟩:=h;obtain⟨k,l',x,o,ks⟩:=p;obtain rfl:k=23:=hp;obtain⟨⟨t,v⟩,A⟩:=h2;simp[bT] at t;obtain⟨rfl,rfl,t⟩:=t;exact .lam (λn hn=>SM (sg v n hn) (t n hn)) ⟨A.1,he⟩
 ·omega
 ·obtain⟨rfl | rfl,rfl,rfl,h⟩:=h;·exact .vc (Fw h2 h)
  exact .eF (Fw h2 h)
 ·obtain⟨rfl,rfl,rfl,hn,h⟩:=h;match ks,hn,h,h2 with
  | a::ks,_,h,h2=>exact .set ⟨h2.1,h a s0⟩ (Fw h2.2 λn hn=>h n (by simp[hn]))
 ·obtain⟨rfl,rfl,rfl,hn,h⟩:=h;exact .CD (Fw h2 h) hn
 ·obtain⟨rfl | rfl,rfl,rfl,e,ks,rfl,he,hn,hk⟩:=h;·exact .CE ⟨h2.1,he⟩ hn λn q=>SO (sg h2.2 n q) (hk n q)
  exact .CF ⟨h2.1,he⟩ hn λn q=>SO (sg h2.2 n q) (hk n q)
 ·obtain⟨rfl,rfl,rfl,a,b,ks,rfl,ha,hb,hn,hk⟩:=h;exact .CG ⟨h2.1,ha⟩ ⟨h2.2.1,hb⟩ hn λn q=>SO (sg h2.2.2 n q) (hk n q)
 all_goals omega
def AF (n:Nd):Prop:=bC n\/(∃l,n= .mk 60 l [] 0 [])\/∃l a,n= .mk 60 l [] 0 [a]/\bC a
theorem abG{n:Nd}(h:fh n)(hk:vK n):AF n:=by
 rcases hk with hk | hk
 ·exact .inl ⟨h,hk⟩
 obtain⟨k,l,x,o,ks⟩:=n;obtain⟨h1,h2⟩:=h;obtain rfl:k=60:=hk;simp[bT] at h1;obtain⟨rfl,rfl,rfl | ⟨a,rfl,ha⟩⟩:=h1;·exact .inr (.inl ⟨l,rfl⟩)
 exact .inr (.inr ⟨l,a,rfl,h2.1,ha⟩)
theorem kX(n:Nd):(nl n).line=0:=by cases n;rfl
theorem AG : ∀a b:List Nd,aK (a++b)=aK a++aK b
 | [],b=>rfl
 | n::a,b=>by simp only[aS,aK,AG]
mutual
theorem Fx : ∀n:Nd,fw (nl n)=fw n
 | .mk k l x o ks=>by
   simp only[nl,fw,abH ks];cases ks<;>rfl
theorem abH : ∀ks:List Nd,iU (aK ks)=iU ks
 | []=>rfl
 | n::ks=>by simp only[aK,iU,Fx n,abH ks]
end
def IX (ts:List PT)(n:Nd)(i j:Nat):Prop:=bC n->CP ts i j 0 (nl n)/\∃m,m<=10/\Fs ts i m
def YD (ts:List PT)(s:List UInt8)(n:Nd)(i j:Nat):Prop:=ah ts i=⟨8,0,s⟩/\match n.kids with
 | []=>j=i+1
 | a::_=>IX ts a (i+1) j
def ic (ts:List PT)(n:Nd)(a i j:Nat):Prop:=(bC n->CP ts i j a (nl n)/\∃m,a<=m/\m<=10/\Fs ts i m)/\(n.kind=36->ah ts i=⟨4,0,n.text⟩/\j=i+1)/\(n.kind=48->i=j)/\(n.kind=60->YD ts nP n i j)
def XA (ts:List PT)(n:Nd)(i j:Nat):Prop:=CP ts i j (gC n) (nl n)/\Fs ts i (gC n)
def AtX (ts:List PT)(n:Nd)(i j:Nat):Prop:=(bC n->XA ts n i j)/\(n.kind=36->ah ts i=⟨4,0,n.text⟩/\j=i+1)/\(n.kind=48->i=j)/\(n.kind=60->YD ts nP n i j)
theorem ic.e{ts:List PT}{n:Nd}{a i j:Nat}(h:ic ts n a i j)(hn:bC n):CP ts i j a (nl n)/\∃m,a<=m/\m<=10/\Fs ts i m:=h.1 hn
theorem ic.fs{ts:List PT}{n:Nd}{a i j:Nat}(h:ic ts n a i j)(hn:bC n):Fs ts i a:=by
 obtain⟨_,m,h1,h2,h3⟩:=h.1 hn;exact h3.lo h1
theorem ic.ga{ts:List PT}{n:Nd}{a i j:Nat}(h:ic ts n a i j)(hn:bC n)(hs:Sp ts j a):Ga ts (nv a) i (nl n) j:=(h.1 hn).1.ga hs
def sh (ts:List PT)(s:List UInt8):Bool->List Nd->Nat->Nat->Prop
 | _,[],i,j=>i=j
 | b,n::l,i,j=>∃c k,(if b=true then ah ts i=⟨9,0,s⟩/\c=i+1 else c=i)/\ic ts n 0 c k/\sh ts s true l k j
def Na (ts:List PT):Bool->List Nd->Nat->Nat->Prop
 | _,[],i,j=>i=j
 | b,n::m::l,i,j=>∃c k k',(if b=true then ah ts i=⟨9,0,eW⟩/\c=i+1 else c=i)/\ic ts n 0 c k/\ah ts k=⟨9,0,gh⟩/\ic ts m 0 (k+1) k'/\Na ts true l k' j
 | _,[_],i,j=>True
def ClA (ts:List PT)(c:Nd)(i j:Nat):Prop:=(∀l a,c= .mk 59 l [] 0 [a]->ah ts i=⟨8,0,lj⟩/\ic ts a 1 (i+1) j)/\(∀l a b,c= .mk 58 l [] 0 [a,b]->∃k,ah ts i=⟨8,0,jQ⟩/\ic ts a 9 (i+1) k/\ah ts k=⟨8,0,tP⟩/\ic ts b 1 (k+1) j)
def ze (ts:List PT):List Nd->Nat->Nat->Prop
 | [],i,j=>i=j
 | c::l,i,j=>∃k,ClA ts c i k/\ze ts l k j
def Nb (ts:List PT):List Nd->Nat->Nat->Prop
 | [],i,j=>i=j
 | c::l,i,j=>∃k,(∀l o a,c= .mk 43 l [] o [a]->∃b,bt ts (vJ o) i b/\ic ts a 5 b k)/\Nb ts l k j
section
variable {ts:List PT} {i j:Nat} {l:List Nd} {s:List UInt8}
theorem cT(h:ah ts i=⟨9,0,s⟩)(e:rQ s=false):ai ts i s=true:=by rw[lX,h,qT,e];simp
theorem oO(h:ah ts i=⟨8,0,s⟩)(e:rQ s=true):ai ts i s=true:=by rw[lX,h,qT,e];simp
theorem zf(h:sh ts s true l i j):(l= []/\i=j)\/(l≠ []/\ah ts i=⟨9,0,s⟩/\sh ts s false l (i+1) j):=by
 match l,h with
 | [],h=>exact .inl ⟨rfl,h⟩
 | n::l,⟨b,k,h1,h2,h3⟩=>
   obtain⟨h1,rfl⟩:ah ts i=⟨9,0,s⟩/\b=i+1:=h1;exact .inr ⟨s0,h1,i+1,k,rfl,h2,h3⟩
theorem SQ{ts:List PT}{i:Nat}(h:ah ts i=⟨9,0,eW⟩):Sp ts i 0:=cX 0 h rfl
theorem IY(h:sh ts eW true l i j)(hs:Sp ts j 0):Sp ts i 0:=by
 rcases zf h with ⟨_,rfl⟩ | ⟨_,h,_⟩
 ·exact hs
 exact SQ h
theorem IZ{cl:List UInt8}(hc:ai ts j cl=true)(hb:cl∉Cz)(hs:Sp ts j 0)(hn:ai ts j eW=false) : ∀ {l:List Nd} {i:Nat} {acc:List Nd},sh ts eW false l i j->pw l->Ev (λf=>gr ts f (.row cl acc) i) (.ok (acc++aK l,j))
 | [],i,acc,h,_=>by
   obtain rfl:i=j:=h;refine ba ?_;simp only[gr,hc,iT,aK,cn];exact Fu
 | n::l,i,acc,⟨c,k,h1,h2,h3⟩,g=>by
   obtain rfl:c=i:=h1;have b:=g n s0;refine ba ?_;simp only[gr,(h2.fs b).no hb,aM,iF];refine bv (h2.ga b (IY h3 hs)) ?_;rcases zf h3 with ⟨rfl,rfl⟩ | ⟨_,h4,h5⟩
   ·simp only[hn,aM,iF,aK];exact Fu
   simp only[cT h4 rfl,iT];have:=IZ hc hb hs hn (acc:=acc++ [nl n]) h5 λm e=>g m (by simp[e]);simpa only[aG,xA,aK] using this
theorem abI(hb:iR ts j=false)(hs:Sp ts j 0)(hn:ai ts j eW=false) : ∀ {l:List Nd} {i:Nat} {acc:List Nd},sh ts eW true l i j->pw l->Ev (λf=>gr ts f (.qc 0 acc) i) (.ok ([nd 52 0 (acc++aK l)],j))
 | [],i,acc,h,_=>by
   obtain rfl:i=j:=h;refine ba ?_;simp only[gr,hn,aM,iF,aK,cn];exact cf
 | n::l,i,acc,⟨c,k,h1,h2,h3⟩,g=>by
   obtain⟨h1,rfl⟩:ah ts i=⟨9,0,eW⟩/\c=i+1:=h1;have b:=g n s0;refine ba ?_;simp only[gr,cT h1 rfl,iT,(h2.fs b).beg];refine bv (h2.ga b (IY h3 hs)) ?_;have:=abI hb hs hn (acc:=acc++ [nl n]) h3 λm e=>g m (by simp[e]);simpa only[aG,xA,aK] using this
theorem SU{cl:List UInt8}(hc:ai ts j cl=true)(hn:ai ts j eW=false) : ∀ {l:List Nd} {i:Nat} {acc:List Nd},sh ts eW false l i j->(∀n∈l,CB n)->Ev (λf=>gr ts f (.params cl 0 acc) i) (.ok ([nd 23 0 (acc++aK l)],j))
 | [],i,acc,h,_=>by
   obtain rfl:i=j:=h;refine ba ?_;simp only[gr,hc,iT,aK,cn];exact cf
 | n::l,i,acc,⟨b,k,h1,h2,h3⟩,g=>by
   obtain rfl:b=i:=h1;obtain⟨ln,x,rfl,q⟩:=g n s0;obtain⟨h4,rfl⟩:=h2.2.1 rfl;replace h4:ah ts b=⟨4,0,x⟩:=h4;have h5:ai ts b cl=false:=Ao (by rw[h4];show ¬(4:Int)=_;split<;>decide);refine ba ?_;simp only[gr,h5,aM,iF];refine xg (by rw[h4]) ?_;simp only[h4];rcases zf h3 with ⟨rfl,rfl⟩ | ⟨_,c,e⟩
   ·simp only[hn,aM,iF,aK,nl];exact cf
   simp only[cT c rfl,iT];have:=SU hc hn (acc:=acc++ [nl (.mk 36 ln x 0 [])]) e λm o=>g m (by simp[o]);simpa only[aG,xA,aK,nl] using this
theorem SW{kd:Nat}(hn:ai ts j eW=false) : ∀ {l:List Nd} {i:Nat} {acc:List Nd},l≠ []->sh ts eW false l i j->(∀n∈l,CB n)->Ev (λf=>gr ts f (.names kd 0 acc) i) (.ok ([nd kd 0 (acc++aK l)],j))
 | n::l,i,acc,_,⟨b,k,h1,h2,h3⟩,g=>by
   obtain rfl:b=i:=h1;obtain⟨ln,x,rfl,t⟩:=g n s0;obtain⟨h4,rfl⟩:=h2.2.1 rfl;replace h4:ah ts b=⟨4,0,x⟩:=h4;refine ba ?_;simp only[gr];refine xg (by rw[h4]) ?_;simp only[h4];rcases zf h3 with ⟨rfl,rfl⟩ | ⟨c,e,o⟩
   ·simp only[hn,aM,iF,aK,nl];exact cf
   simp only[cT e rfl,iT];have:=SW (kd:=kd) hn (acc:=acc++ [nl (.mk 36 ln x 0 [])]) c o λm q=>g m (by simp[q]);simpa only[aG,xA,aK,nl] using this
theorem abJ(h:Na ts true l i j)(he:l.length % 2=0)(hs:Sp ts j 0):Sp ts i 0:=by
 match l,h with
 | [],h=>obtain rfl:i=j:=h;exact hs
 | [_],_=>simp at he
 | n::m::l,⟨b,k,k',h1,h2⟩=>exact SQ (show ah ts i=⟨9,0,eW⟩/\b=i+1 from h1).1
theorem abK(hc:ai ts j rR=true)(hs:Sp ts j 0)(hn:ai ts j eW=false) : ∀ {l:List Nd} {i:Nat} {acc:List Nd},Na ts true l i j->pw l->l.length % 2=0->Ev (λf=>gr ts f (.rW 0 acc) i) (.ok ([nd 54 0 (acc++aK l)],j))
 | [],i,acc,h,_,_=>by
   obtain rfl:i=j:=h;refine ba ?_;simp only[gr,hn,aM,iF,aK,cn];exact cf
 | [_],i,acc,_,_,he=>by simp at he
 | n::m::l,i,acc,⟨e,k,k',h1,h2,h3,h4,h5⟩,g,he=>by
   obtain⟨h1,rfl⟩:ah ts i=⟨9,0,eW⟩/\e=i+1:=h1;have b:=g n s0;have o:=g m s0;have c:l.length % 2=0:=by simp only[ay] at he;omega
   refine ba ?_;simp only[gr,cT h1 rfl,iT,(h2.fs b).no (s:=rR) de,aM,iF];refine bv (h2.ga b (cX 0 h3 rfl)) (iY (cT h3 rfl) (bv (h4.ga o (abJ h5 c hs)) ?_));have:=abK hc hs hn (acc:=acc++ [nl n,nl m]) h5 (λm q=>g m (by simp[q])) c;simpa only[aG,aS,a6,aK] using this
theorem abL{n:Nd}(h:ic ts n 9 i j)(hn:bC n)(hp:fw n=true)(hs:Sp ts j 9)(hc:ai ts j eW=false):Ga ts .sV i (nl n) j:=by
 have e:Ga ts .one i (nl n) j:=by
  refine ba ?_;simp only[gr];refine bv (h.ga hn hs) ?_;simp only[Fx,hp,iT];exact cf
 refine ba ?_;simp only[gr];refine bv e ?_;simp only[hc,aM,iF];exact cf
theorem amE(h:ze ts l i j)(hl : ∀n∈l,qk n)(hs:Sp ts j 1):Sp ts i 1:=by
 match l,h with
 | [],h=>obtain rfl:i=j:=h;exact hs
 | c::l,⟨k,h1,h2⟩=>
   rcases hl c s0 with ⟨ln,a,b,rfl,ha,hp,hb⟩ | ⟨ln,a,rfl,ha⟩
   ·obtain⟨k',e,g⟩:=h1.2 _ _ _ rfl;exact cX 1 e rfl
   exact cX 1 (h1.1 _ _ rfl).1 rfl
theorem SX(h1:ai ts j jQ=false)(h2:ai ts j lj=false)(hs:Sp ts j 1) : ∀ {l:List Nd} {i:Nat} {acc:List Nd},ze ts l i j->(∀n∈l,qk n)->Ev (λf=>gr ts f (.clauses acc) i) (.ok (acc++aK l,j))
 | [],i,acc,h,_=>by
   obtain rfl:i=j:=h;refine ba ?_;simp only[gr,h1,h2,aM,iF,aK,cn];exact Fu
 | c::l,i,acc,⟨k,h3,h4⟩,g=>by
   have o : ∀n∈l,qk n:=λm u=>g m (by simp[u]);have hk:=amE h4 o hs;rcases g c s0 with ⟨ln,a,b,rfl,ha,hp,hb⟩ | ⟨ln,a,rfl,ha⟩
   ·obtain⟨k',e,q,t,v⟩:=h3.2 _ _ _ rfl;refine ba ?_;simp only[gr,oO e rfl,iT,e];have w:=abL q ha hp (cX 9 t rfl) (aJ t (s:=eW) rfl);refine bv w (iY (oO t rfl) (bv (v.ga hb hk) ?_));have:=SX h1 h2 hs (acc:=acc++ [nl (.mk 58 ln [] 0 [a,b])]) h4 o;simpa only[aG,xA,aK,nl] using this
   obtain⟨e,q⟩:=h3.1 _ _ rfl;refine ba ?_;simp only[gr,aJ e (s:=jQ) rfl,oO e rfl,iT,e,aM,iF];refine bv (q.ga ha hk) ?_;have:=SX h1 h2 hs (acc:=acc++ [nl (.mk 59 ln [] 0 [a])]) h4 o;simpa only[aG,xA,aK,nl] using this
theorem abM{o:Nat}{i b:Nat}(h:bt ts (vJ o) i b)(h1:1<=o)(h2:o<=10)(hn:ai ts b lS=false):eB ts i= .ok (o,b)/\Sp ts i 5:=by
 obtain rfl | rfl | rfl | rfl | rfl | rfl | rfl | rfl | rfl | rfl:o=1\/o=2\/o=3\/o=4\/o=5\/o=6\/o=7\/o=8\/o=9\/o=10:=by omega
 ·obtain⟨h,rfl⟩:=h;exact⟨by simp only[eB,lX,h];rfl,cX 5 h rfl⟩
 ·obtain⟨h,rfl⟩:=h;exact⟨by simp only[eB,lX,h];rfl,cX 5 h rfl⟩
 ·obtain⟨h,rfl⟩:=h;exact⟨by simp only[eB,lX,h];rfl,cX 5 h rfl⟩
 ·obtain⟨h,rfl⟩:=h;exact⟨by simp only[eB,lX,h];rfl,cX 5 h rfl⟩
 ·obtain⟨h,rfl⟩:=h;exact⟨by simp only[eB,lX,h];rfl,cX 5 h rfl⟩
 ·obtain⟨h,rfl⟩:=h;exact⟨by simp only[eB,lX,h];rfl,cX 5 h rfl⟩
 ·obtain⟨h,rfl⟩:=h;exact⟨by simp only[eB,lX,h];rfl,cX 5 h rfl⟩
 ·obtain⟨h,h',rfl⟩:=h;exact⟨by simp only[eB,lX,h,h'];rfl,cX 5 h rfl⟩
 ·obtain⟨h,rfl⟩:=h;rw[lX] at hn;exact⟨by simp only[eB,lX,h,hn];rfl,cX 5 h rfl⟩
 obtain⟨h,h',rfl⟩:=h;exact⟨by simp only[eB,lX,h,h'];rfl,cX 5 h rfl⟩
theorem abN(h:Nb ts l i j)(hl : ∀n∈l,Fv n)(hs:Sp ts j 5):Sp ts i 5:=by
 match l,h with
 | [],h=>obtain rfl:i=j:=h;exact hs
 | c::l,⟨k,h1,h2⟩=>
   obtain⟨ln,o,a,rfl,b,e,ha⟩:=hl c s0;obtain⟨t,g,q⟩:=h1 _ _ _ rfl;exact(abM g b e ((q.fs ha).nt Om)).2
theorem abO{n:Nd}(hs:Sp ts j 4) : ∀ {l:List Nd} {i:Nat} {acc:List Nd},Nb ts l i j->(∀n∈l,Fv n)->acc++l≠ []->Ev (λf=>gr ts f (.jR n acc) i) (.ok ([nd 42 n.line (n::(acc++aK l))],j))
 | [],i,acc,h,_,av=>by
   obtain rfl:i=j:=h;refine ba ?_;have e:acc.isEmpty=false:=by
    rw[cn] at av;cases acc with
    | nil=>exact absurd rfl av
    | cons _ _=>rfl
   simp only[gr,abE hs,e,aM,iF,aK,cn];exact cf
 | c::l,i,acc,⟨k,h1,h2⟩,g,_=>by
   obtain⟨ln,o,a,rfl,q,v,ha⟩:=g c s0;obtain⟨y,t,u⟩:=h1 _ _ _ rfl;have w:=(abM t q v ((u.fs ha).nt Om)).1;have x:(ah ts i).line=0:=by
    obtain rfl | rfl | rfl | rfl | rfl | rfl | rfl | rfl | rfl | rfl:o=1\/o=2\/o=3\/o=4\/o=5\/o=6\/o=7\/o=8\/o=9\/o=10:=by omega
    all_goals exact(congrArg PT.line t.1).trans rfl
   obtain⟨p,rfl⟩:=Nat.exists_eq_add_of_le' q;refine ba ?_;simp only[gr,w,x];refine bv (u.ga ha (abN h2 (λm b=>g m (by simp[b])) (hs.up Om))) ?_;have:=abO (n:=n) hs (acc:=acc++ [nl (.mk 43 ln [] (p+1) [a])]) h2 (λm b=>g m (by simp[b])) s0;simpa only[aG,xA,aK,nl] using this
end
def lY (n:Nd):Prop:=fh n/\sK n
def okB (b:Nd):Prop:=∃l ks,b= .mk 1 l [] 0 ks/\ks≠ []/\∀n∈ks,lY n
def nE (ts:List PT)(j:Nat):Prop:=∀s∈ [sU,wV,rU,Ca],ai ts j s=false
def I0 (ts:List PT)(i:Nat):Prop:=4<=(ah ts i).kind/\nE ts i
def Nc (ts:List PT)(n:Nd)(i j:Nat):Prop:=lY n->I0 ts i/\(nE ts j->Ga ts .stmt i (nl n) j)
def I1:List (List UInt8):= [lj,tQ,jQ,wX,wY,Cb,Cc]
def SmA (ts:List PT)(n:Nd)(i j:Nat):Prop:=lY n->I0 ts i/\(∀s∈I1,ai ts i s=false)/\(ah ts j=⟨1,0,[]⟩->Ga ts .simple i (nl n) j)
def I2 (ts:List PT)(b:Nd)(i j:Nat):Prop:=okB b->ah ts i=⟨9,0,gh⟩/\Ga ts .block (i+1) (nl b) j
def Nf (ts:List PT):List Nd->Nat->Nat->Prop
 | [],i,j=>i=j
 | n::l,i,j=>∃k,Nc ts n i k/\Nf ts l k j
def vO (h:Nd):Prop:=(∃l b,h= .mk 21 l [] 0 [b]/\okB b)\/∃l x e b,h= .mk 21 l x 0 [e,b]/\(x= []\/iX 4 x)/\bC e/\okB b
def okF (h:Nd):Prop:=∃l b,h= .mk 22 l [] 0 [b]/\okB b
inductive I3(ts:List PT):Nd->Nat->Nat->Prop where
 | bare {l b i k} (h:ah ts i=⟨8,0,rU⟩) (hb:I2 ts b (i+1) k):I3 ts (.mk 21 l [] 0 [b]) i k
 | one {l e b i k1 k} (h:ah ts i=⟨8,0,rU⟩) (he:ic ts e 0 (i+1) k1) (hb:I2 ts b k1 k):I3 ts (.mk 21 l [] 0 [e,b]) i k
 | asx {l x e b i k1 k} (hx:x≠ []) (h:ah ts i=⟨8,0,rU⟩) (he:ic ts e 0 (i+1) k1) (ha:ah ts k1=⟨8,0,B'⟩) (hn:ah ts (k1+1)=⟨4,0,x⟩) (hb:I2 ts b (k1+1+1) k):I3 ts (.mk 21 l x 0 [e,b]) i k
 | fin {l b i k} (h:ah ts i=⟨8,0,Ca⟩) (hb:I2 ts b (i+1) k):I3 ts (.mk 22 l [] 0 [b]) i k
def Ng (ts:List PT):List Nd->Nat->Nat->Prop
 | [],i,j=>i=j
 | n::l,i,j=>∃k,I3 ts n i k/\Ng ts l k j
def Rd (ts:List PT)(r:SR)(i j:Nat):Prop:=match r with
 | .at n a=>a<=10->ic ts n a i j
 | .expr n=>AtX ts n i j
 | .bc b l=>sh ts eW b l i j
 | .bF b l=>sh ts va b l i j
 | .two n l s r=>∀a b ks,n.kids=a::b::ks->l<=10->r<=10->∃k,ic ts a l i k/\ah ts k=⟨if s=qK\/s=qJ then 8 else 9,0,s⟩/\ic ts b r (k+1) j
 | .clauses l=>ze ts l i j
 | .bO b l=>Na ts b l i j
 | .cW l=>Nb ts l i j
 | .maybe s n=>YD ts s n i j
 | .shown n=>bC n->51<=n.kind->XA ts n i j
 | .dC n=>bC n->44<=n.kind/\n.kind<=47->XA ts n i j
 | .dK n=>bC n->(37<=n.kind/\n.kind<=42)\/n.kind=49\/n.kind=50->XA ts n i j
 | .block n=>I2 ts n i j
 | .a9 l=>Nf ts l i j
 | .ifs s n=>lY n->n.kind=5->ah ts i=⟨8,0,if s= [105,102,32] then lj else sU⟩/\(nE ts j->Ga ts (.ifs 0) (i+1) (nl n) j)
 | .cR l=>(∀n∈l,vO n\/okF n)->Ng ts l i j
 | .tries n=>n.kind=15->Nc ts n i j
 | .stmt n=>Nc ts n i j
 | .head n=>n.kind=6\/n.kind=7\/n.kind=8\/n.kind=9\/n.kind=16->Nc ts n i j
 | .simple n=>¬(n.kind=5\/n.kind=15\/n.kind=6\/n.kind=7\/n.kind=8\/n.kind=9\/n.kind=16)->SmA ts n i j
def mr (ts:List PT)(f:Nat):Prop:=∀(r:SR) (d i j:Nat),r.me<f->bt ts (pp f r d) i j->Rd ts r i j
theorem amF{ts:List PT}{s:List UInt8}{r:List Pc}{i j:Nat}:bt ts (vL s::r) i j↔ah ts i=⟨if s=qK\/s=qJ then 8 else 9,0,s⟩/\bt ts r (i+1) j:=by
 unfold vL;show bt ts ((if s=qK\/s=qJ then wd s else sy s)::r) i j↔_;split<;>rfl
theorem amG{ts:List PT}{c:Prop}[Decidable c]{r:List Pc}{i j:Nat}:bt ts ((if c then [Pc.sp] else [])++r) i j↔bt ts r i j:=by
 split<;>rfl
theorem Fy{ts:List PT}{i k:Nat}{x:List UInt8}(h:ah ts i=⟨k,0,x⟩)(h1:4<=k)(h2:k<=7):Ga ts .atom i (.mk (yW k) 0 x 0 []) (i+1):=by
 refine ba ?_;simp only[gr,h];exact IV (by constructor<;>omega) cf
theorem SZ{ts:List PT}{i k:Nat}{s:List UInt8}(h:ah ts i=⟨8,0,s⟩)(hk:(s=qL/\k=33)\/(s=qM/\k=34)\/(s=qN/\k=35)):Ga ts .atom i (nd k 0 []) (i+1):=by
 refine ba ?_;simp only[gr];refine vN (by rw[h];simp) ?_;simp only[lX,h];rcases hk with ⟨rfl,rfl⟩ | ⟨rfl,rfl⟩ | ⟨rfl,rfl⟩
 ·exact IV rfl cf
 ·exact vN de (IV rfl cf)
 exact vN de (vN de (IV rfl cf))
theorem k9{ts:List PT}{i:Nat}{s:List UInt8}(h:ah ts i=⟨9,0,s⟩) : ¬(4<=(ah ts i).kind/\(ah ts i).kind<=7):=by rw[h];simp
theorem abP{ts:List PT}{i j m:Nat}{n:Nd}(h1:ah ts i=⟨9,0,lq⟩)(b:Fs ts (i+1) m)(h:Ga ts .expr (i+1) n j)(h2:ah ts j=⟨9,0,oA⟩):Ga ts .atom i n (j+1):=by
 refine ba ?_;simp only[gr];refine vN (k9 h1) ?_;simp only[aJ (s:=qL) h1 rfl,aJ (s:=qM) h1 rfl,aJ (s:=qN) h1 rfl,cT h1 rfl,b.no (s:=oA) de,aM,iF,iT];refine bv (j:=j) (n:=n) (ba ?_) (iY (cT h2 rfl) cf);simp only[gr];refine bv h ?_;simp only[aJ (s:=eW) h2 rfl,aM,iF];exact cf
theorem oQ{ts:List PT}{i j:Nat}{n:Nd}(hl:gC n=10)(h:Ga ts .atom i (nl n) j)(b:Fs ts i 10):XA ts n i j:=by
 unfold XA;rw[hl];exact⟨SK h,b⟩
theorem S4(n:Nd):gC n<=10:=by
 unfold gC;repeat' split
 all_goals omega
theorem Nh{n:Nd}{f:Nat}(h:SR.me (.expr n)<f+1):SR.me (.dK n)<f:=by simp only[SR.me] at h⊢;omega
theorem S5{n:Nd}{f:Nat}(h:SR.me (.expr n)<f+1):SR.me (.dC n)<f:=by simp only[SR.me] at h⊢;omega
theorem S6{n:Nd}{f:Nat}(h:SR.me (.expr n)<f+1):SR.me (.shown n)<f:=by simp only[SR.me] at h⊢;omega
section
variable {ts:List PT} {f:Nat}
theorem amH(ih:mr ts f){n:Nd}{a d i j:Nat}(o:SR.me (.at n a)<f+1)(h:bt ts (pp (f+1) (.at n a) d) i j):Rd ts (.at n a) i j:=by
 intro ha;simp only[pp] at h;by_cases hc:gC n<a
 ·simp only[hc,iT,aG,aS,a6,eg,bt] at h;obtain⟨h1,k,h2,h3,rfl⟩:=h;obtain⟨c,q,t,u⟩:=ih (.expr n) d _ _ (by simp only[SR.me] at o⊢;omega) h2;have hx:n.kind≠36/\n.kind≠48/\n.kind≠60:=by
   refine⟨λe=> ?_,λe=> ?_,λe=> ?_⟩<;>(simp[gC,e] at hc;omega)
  refine⟨λho=> ?_,λe=>absurd e hx.1,λe=>absurd e hx.2.1,λe=>absurd e hx.2.2⟩;obtain⟨g,b⟩:=c ho;have f1:Fs ts i 10:=lC h1 rfl;have h4:=abP h1 b ((IW (S4 n) (fa _) b g).ga (cX 0 h3 rfl)) h3;exact⟨IW (ag _) ha f1 (SK h4),10,ha,ag _,f1⟩
 simp only[hc,iF] at h;obtain⟨c,q,t,u⟩:=ih (.expr n) d _ _ (by simp only[SR.me] at o⊢;omega) h;refine⟨λho=> ?_,q,t,u⟩;obtain⟨g,b⟩:=c ho;exact⟨IW (S4 n) Om b g,gC n,Om,S4 n,b⟩
theorem amI(ih:mr ts f){n:Nd}{s:List UInt8}{d i j:Nat}(b:SR.me (.maybe s n)<f+1)(h:bt ts (pp (f+1) (.maybe s n) d) i j):Rd ts (.maybe s n) i j:=by
 obtain⟨k,l,x,o,ks⟩:=n;rcases ks with _ | ⟨a,ks⟩
 ·simp only[pp,Nd.kids,bt] at h;exact⟨h.1,h.2.symm⟩
 simp only[pp,Nd.kids,aG,aS,a6,eg,bt] at h;refine⟨h.1,λho=> ?_⟩;obtain⟨c,m,q,e,g⟩:=(ih (.at a 0) d _ _ (by simp only[SR.me,Nd.kids,aq,aL] at b⊢;omega) h.2 Om).1 ho;exact⟨c,m,e,g⟩
theorem amJ(ih:mr ts f){n:Nd}{d i j:Nat}(b:SR.me (.expr n)<f+1)(h:bt ts (pp (f+1) (.expr n) d) i j):Rd ts (.expr n) i j:=by
 refine⟨λho=> ?_,λe=> ?_,λe=> ?_,λe=> ?_⟩
 ·cases qU ho with
  | int h1=>obtain⟨h,rfl⟩:=h;exact oQ rfl (Fy h Om Om) (lC h rfl)
  | CC h1=>obtain⟨h,rfl⟩:=h;exact oQ rfl (Fy h Om Om) (lC h rfl)
  | str h1=>obtain⟨h,rfl⟩:=h;exact oQ rfl (Fy h Om Om) (lC h rfl)
  | M9 h1=>obtain⟨h,rfl⟩:=h;exact oQ rfl (Fy h Om Om) (lC h rfl)
  | ql h1=>
    rcases h1 with rfl | rfl | rfl<;>obtain⟨h,rfl⟩:=h
    ·exact oQ rfl (SZ h (.inl ⟨rfl,rfl⟩)) (lC h rfl)
    ·exact oQ rfl (SZ h (.inr (.inl ⟨rfl,rfl⟩))) (lC h rfl)
    exact oQ rfl (SZ h (.inr (.inr ⟨rfl,rfl⟩))) (lC h rfl)
  | call _ _ | attr _ _ | idx _ _ | pI _ _ _=>exact ih (.dC _) d i j (S5 b) h ho (by simp only[Nd.kind];omega)
  | vc _ | eF _ | set _ _ | CD _ _ | CE _ _ _ | CF _ _ _ | CG _ _ _ _=>exact ih (.shown _) d i j (S6 b) h ho (by simp only[Nd.kind];omega)
  | bin _ _ _ _ | un _ _ | and _ _ | or _ _ | not _ | cmp _ _ _ | cond _ _ _ | lam _ _=>exact ih (.dK _) d i j (Nh b) h ho (by simp[Nd.kind])
 ·simp only[pp,e] at h;obtain⟨h,rfl⟩:=h;exact⟨h,rfl⟩
 ·simp only[pp,e] at h;exact h
 simp only[pp,e] at h;exact ih (.maybe nP n) d i j (by simp only[SR.me] at b⊢;omega) h
theorem amK(ih:mr ts f){b:Bool}{l:List Nd}{d i j:Nat}(c:SR.me (.bc b l)<f+1)(h:bt ts (pp (f+1) (.bc b l) d) i j):Rd ts (.bc b l) i j:=by
 rcases l with _ | ⟨n,l⟩
 ·exact h
 have e:SR.me (.at n 0)<f:=by simp only[SR.me,aq,aL] at c⊢;omega
 have g:SR.me (.bc true l)<f:=by simp only[SR.me,aq,aL] at c⊢;omega
 cases b<;>simp only[pp,aM,iT,iF,aG,aS,a6,eg,bt] at h;·obtain⟨k,h1,h2⟩:=h;exact⟨i,k,rfl,ih _ d _ _ e h1 Om,ih _ d _ _ g h2⟩
 obtain⟨o,k,h1,h2⟩:=h;exact⟨i+1,k,⟨o,rfl⟩,ih _ d _ _ e h1 Om,ih _ d _ _ g h2⟩
theorem amL(ih:mr ts f){b:Bool}{l:List Nd}{d i j:Nat}(c:SR.me (.bF b l)<f+1)(h:bt ts (pp (f+1) (.bF b l) d) i j):Rd ts (.bF b l) i j:=by
 rcases l with _ | ⟨n,l⟩
 ·exact h
 have e:SR.me (.at n 0)<f:=by simp only[SR.me,aq,aL] at c⊢;omega
 have g:SR.me (.bF true l)<f:=by simp only[SR.me,aq,aL] at c⊢;omega
 cases b<;>simp only[pp,aM,iT,iF,aG,aS,a6,eg,bt] at h;·obtain⟨k,h1,h2⟩:=h;exact⟨i,k,rfl,ih _ d _ _ e h1 Om,ih _ d _ _ g h2⟩
 obtain⟨o,k,h1,h2⟩:=h;exact⟨i+1,k,⟨o,rfl⟩,ih _ d _ _ e h1 Om,ih _ d _ _ g h2⟩
theorem amM(ih:mr ts f){b:Bool}{l:List Nd}{d i j:Nat}(c:SR.me (.bO b l)<f+1)(h:bt ts (pp (f+1) (.bO b l) d) i j):Rd ts (.bO b l) i j:=by
 rcases l with _ | ⟨n,_ | ⟨m,l⟩⟩
 ·exact h
 ·exact trivial
 have e:SR.me (.at n 0)<f:=by simp only[SR.me,aq,aL] at c⊢;omega
 have g:SR.me (.at m 0)<f:=by simp only[SR.me,aq,aL] at c⊢;omega
 have o:SR.me (.bO true l)<f:=by simp only[SR.me,aq,aL] at c⊢;omega
 cases b<;>simp only[pp,aM,iT,iF,aG,aS,a6,eg,bt] at h;·obtain⟨k,h1,h3,k',h4,h2⟩:=h;exact⟨i,k,k',rfl,ih _ d _ _ e h1 Om,h3,ih _ d _ _ g h4 Om,ih _ d _ _ o h2⟩
 obtain⟨q,k,h1,h3,k',h4,h2⟩:=h;exact⟨i+1,k,k',⟨q,rfl⟩,ih _ d _ _ e h1 Om,h3,ih _ d _ _ g h4 Om,ih _ d _ _ o h2⟩
theorem amN(ih:mr ts f){n:Nd}{l r:Nat}{s:List UInt8}{d i j:Nat}(c:SR.me (.two n l s r)<f+1)(h:bt ts (pp (f+1) (.two n l s r) d) i j):Rd ts (.two n l s r) i j:=by
 intro a b ks hk hl e;simp only[pp,hk,aG,aS,a6,eg,bt,amF] at h;obtain⟨k,h1,h2,h3⟩:=h;simp only[SR.me,hk,aq,aL] at c;exact⟨k,ih _ d _ _ Mt h1 hl,h2,ih _ d _ _ Mt h3 e⟩
theorem amO(ih:mr ts f){l:List Nd}{d i j:Nat}(o:SR.me (.clauses l)<f+1)(h:bt ts (pp (f+1) (.clauses l) d) i j):Rd ts (.clauses l) i j:=by
 rcases l with _ | ⟨c,l⟩
 ·exact h
 rw[pp] at h;obtain⟨k,h1,h2⟩:=eg.1 h;have g:=o;simp only[SR.me,aq,aL] at g;refine⟨k,⟨λln a e=> ?_,λln a b e=> ?_⟩,ih (.clauses l) d _ _ Mt h2⟩;·subst e;simp only[Nd.kind,Nd.kids,iT,aG,aS,a6,eg,bt] at h1;exact⟨h1.1,ih (.at a 1) d _ _ (by simp only[SR.me,Nd.kids,aq,aL] at g⊢;omega) h1.2 Om⟩
 subst e;simp only[Nd.kind,Nd.kids,Nat.reduceEqDiff,iF,aG,aS,a6,eg,bt] at h1;obtain⟨h3,k',h4,h5,q⟩:=h1;exact⟨k',h3,ih (.at a 9) d _ _ (by simp only[SR.me,Nd.kids,aq,aL] at g⊢;omega) h4 Om,h5,ih (.at b 1) d _ _ (by simp only[SR.me,Nd.kids,aq,aL] at g⊢;omega) q Om⟩
theorem amP(ih:mr ts f){l:List Nd}{d i j:Nat}(g:SR.me (.cW l)<f+1)(h:bt ts (pp (f+1) (.cW l) d) i j):Rd ts (.cW l) i j:=by
 rcases l with _ | ⟨c,l⟩
 ·exact h
 rw[pp] at h;obtain⟨k,h1,h2⟩:=eg.1 h;have b:=g;simp only[SR.me,aq,aL] at b;refine⟨k,λln o a e=> ?_,ih (.cW l) d _ _ Mt h2⟩;subst e;simp only[Nd.op,Nd.kids,aG,aS,a6,eg,bt] at h1;obtain⟨q,h3,h4⟩:=h1;exact⟨q,h3,ih (.at a 5) d _ _ (by simp only[SR.me,Nd.kids,aq,aL] at b⊢;omega) h4 Om⟩
end
section
variable {ts:List PT} {f:Nat}
theorem Fs.m{i a:Nat}(h : ∃m,a<=m/\m<=10/\Fs ts i m){b:Nat}(hb:b<=a):Fs ts i b:=by
 obtain⟨m,h1,h2,h3⟩:=h;exact h3.lo Om
theorem amQ{j:Nat}(h:Sp ts j 8):Sp ts j 7:=λl s hs hl=>by
 refine h l s hs ?_;simp only[jv,jw,Prod.mk.injEq,zt,or_false] at hs;omega
theorem amR{n b:Nd}{i j:Nat}(h:ic ts b 0 i j)(hb:bC b)(c:ah ts j=⟨9,0,oB⟩):Ga ts (.index (nl n)) i (nd 46 0 [nl n,nl b]) j:=by
 refine ba ?_;simp only[gr,(h.fs hb).no (s:=gh) de,aM,iF,kX];refine bv (h.ga hb (cX 0 c rfl)) ?_;simp only[aJ (s:=eW) c rfl,aJ (s:=gh) c rfl,aM,iF];exact cf
theorem amS{n b c:Nd}{i k j:Nat}(h:ic ts b 0 i k)(hb:CA b)(hk:ah ts k=⟨9,0,gh⟩)(h':ic ts c 0 (k+1) j)(hc:CA c)(e:ah ts j=⟨9,0,oB⟩):Ga ts (.index (nl n)) i (nd 47 0 [nl n,nl b,nl c]) j:=by
 refine ba ?_;rcases hb with hb | ⟨o,rfl⟩
 ·simp only[gr,(h.fs hb).no (s:=gh) de,aM,iF,kX];refine bv (h.ga hb (cX 0 hk rfl)) ?_;simp only[aJ (s:=eW) hk rfl,cT hk rfl,aM,iF,iT];rcases hc with hc | ⟨g,rfl⟩
  ·simp only[(h'.fs hc).no (s:=oB) de,aM,iF];exact bv (h'.ga hc (cX 0 e rfl)) cf
  obtain rfl:k+1=j:=h'.2.2.1 rfl;simp only[cT e rfl,iT];exact cf
 obtain rfl:i=k:=h.2.2.1 rfl;simp only[gr,cT hk rfl,iT,kX];refine iY (cT hk rfl) ?_;rcases hc with hc | ⟨g,rfl⟩
 ·simp only[(h'.fs hc).no (s:=oB) de,aM,iF];exact bv (h'.ga hc (cX 0 e rfl)) cf
 obtain rfl:i+1=j:=h'.2.2.1 rfl;simp only[cT e rfl,iT];exact cf
theorem amT(ih:mr ts f){n:Nd}{d i j:Nat}(t:SR.me (.dC n)<f+1)(h:bt ts (pp (f+1) (.dC n) d) i j):Rd ts (.dC n) i j:=by
 intro ho hk;cases qU ho with
 | call ha br=>
   rename_i l a ks;simp only[pp,aE,am,dz,Nat.reduceEqDiff,false_and,iF,iT,aG,aS,a6,eg,bt] at h;simp only[SR.me,am,aq,aL] at t;obtain⟨k,h1,h2,k',h3,h4,rfl⟩:=h;have g:=ih (.at a 9) d _ _ Mt h1 Om;have o:=ih (.bc false ks) d _ _ Mt h3;refine⟨λr hs hl=>(g.e ha).1 r M7 (ba ?_),Fs.m (g.e ha).2 (ag 9)⟩;simp only[gr,aJ (s:=B9) h2 rfl,cT (s:=lq) h2 rfl,aM,iF,iT];refine AE (IZ (acc:= []) (cl:=oA) (cT h4 rfl) de (cX 0 h4 rfl) (aJ h4 rfl) o br) ?_;refine iY (s:=oA) (cT h4 rfl) ?_;rw[kX];exact hl
 | attr hx ha=>
   rename_i l x a;simp only[SR.me,am,aq,aL] at t;have key : ∀k,(CP ts i k 9 (nl a)/\Fs ts i 9)->ah ts k=⟨9,0,[46]⟩->ah ts (k+1)=⟨4,0,x⟩->k+1+1=j->XA ts (.mk 45 l x 0 [a]) i j:=by
    rintro k ⟨g,v⟩ h2 h3 rfl;refine⟨λr hs hl=>g r M7 (ba ?_),v⟩;simp only[gr,cT (s:=B9) h2 rfl,iT];refine xg (by rw[h3]) ?_;rw[kX,h3];exact hl
   by_cases hc:a.kind=30\/a.kind=31
   ·simp only[pp,aE,am,dz,true_and,hc,Nat.reduceEqDiff,iF,iT,aG,aS,a6,eg,bt] at h;obtain⟨h1,h2,h3,h4,h5,u⟩:=h;refine key _ ?_ h4 h5 u;have f1:Fs ts i 10:=lC h1 rfl;have q:XA ts a (i+1) (i+1+1):=by
     cases qU ha with
     | int h1=>exact oQ rfl (Fy (k:=5) h2 Om Om) (lC h2 rfl)
     | CC h1=>exact oQ rfl (Fy (k:=6) h2 Om Om) (lC h2 rfl)
     | ql hx=>simp only[aE] at hc;omega
     | _=>simp[Nd.kind] at hc
    have w:gC a=10:=by unfold gC;rcases hc with hc | hc<;>simp[hc]
    unfold XA at q;rw[w] at q;have y:=abP h1 q.2 ((IW (ag _) (fa _) q.2 q.1).ga (cX 0 h3 rfl)) h3;exact⟨IW (ag _) Om f1 (SK y),f1.lo Om⟩
   simp only[pp,aE,am,dz,true_and,hc,Nat.reduceEqDiff,iF,iT,aG,aS,a6,eg,bt] at h;obtain⟨k,h1,h2,h3,h4⟩:=h;have g:=ih (.at a 9) d _ _ Mt h1 Om;exact key k ⟨(g.e ha).1,Fs.m (g.e ha).2 (ag 9)⟩ h2 h3 h4
 | idx ha hb=>
   rename_i l a b;simp only[pp,aE,am,dz,Nat.reduceEqDiff,false_and,iF,iT,aG,aS,a6,eg,bt] at h;simp only[SR.me,am,aq,aL] at t;obtain⟨k,h1,h2,k',h3,h4,rfl⟩:=h;have g:=ih (.at a 9) d _ _ Mt h1 Om;have o:=ih (.at b 0) d _ _ Mt h3 Om;refine⟨λr hs hl=>(g.e ha).1 r M7 (ba ?_),Fs.m (g.e ha).2 (ag 9)⟩;simp only[gr,aJ (s:=B9) h2 rfl,aJ (s:=lq) h2 rfl,cT (s:=p7) h2 rfl,aM,iF,iT];refine bv (amR (n:=a) o hb h4) ?_;exact iY (s:=oB) (cT h4 rfl) hl
 | pI ha hb hc=>
   rename_i l a b c;simp only[pp,aE,am,dz,Nat.reduceEqDiff,false_and,iF,iT,aG,aS,a6,eg,bt] at h;simp only[SR.me,am,aq,aL] at t;obtain⟨k,h1,h2,k',h3,h4,A,h5,u,rfl⟩:=h;have g:=ih (.at a 9) d _ _ Mt h1 Om;have o:=ih (.at b 0) d _ _ Mt h3 Om;have z:=ih (.at c 0) d _ _ Mt h5 Om;refine⟨λr hs hl=>(g.e ha).1 r M7 (ba ?_),Fs.m (g.e ha).2 (ag 9)⟩;simp only[gr,aJ (s:=B9) h2 rfl,aJ (s:=lq) h2 rfl,cT (s:=p7) h2 rfl,aM,iF,iT];refine bv (amS (n:=a) o hb h4 z hc u) ?_;exact iY (s:=oB) (cT u rfl) hl
 | ql h=>simp only[aE] at hk;omega
 | _=>simp[Nd.kind] at hk
end
section
variable {ts:List PT} {f:Nat}
theorem abQ{j:Nat}{s:List UInt8}(h:ah ts j=⟨9,0,s⟩)(e:s∉Cz):iR ts j=false:=by
 have hn : ∀t∈Cz,ai ts j t=false:=λt ht=>aJ h (by
  unfold qT;apply decide_eq_false;rintro⟨_,rfl,_⟩;exact e ht)
 unfold iR;rw[hn qI de,hn lS de,hn qL de,hn qM de,hn qN de,hn nk de,hn oz de,hn lq de,hn p7 de,hn wW de,h];simp
theorem amU{a:Nd}{ks:List Nd}{i k j:Nat}(h1:ic ts a 0 i k)(ha:bC a)(h2:sh ts eW true ks k j)(hk:pw ks)(b:ah ts j=⟨9,0,oB⟩):Ga ts (.list 0) i (nd 51 0 (nl a::aK ks)) j:=by
 refine ba ?_;simp only[gr,(h1.fs ha).no (s:=oB) de,aM,iF];refine bv (h1.ga ha (IY h2 (cX 0 b rfl))) ?_;rcases zf h2 with ⟨rfl,rfl⟩ | ⟨_,h4,h5⟩
 ·simp only[aJ (s:=jQ) b rfl,aJ (s:=eW) b rfl,aM,iF];exact cf
 simp only[aJ (s:=jQ) h4 rfl,cT (s:=eW) h4 rfl,aM,iF,iT];refine AE (IZ (cl:=oB) (acc:= []) (cT b rfl) de (cX 0 b rfl) (aJ b rfl) h5 hk) ?_;exact cf
theorem amV{a:Nd}{ks:List Nd}{i k j:Nat}(h1:ic ts a 0 i k)(ha:bC a)(h2:sh ts eW true ks k j)(hk:pw ks)(b:ah ts j=⟨9,0,rR⟩):Ga ts (.qQ 0) i (nd 53 0 (nl a::aK ks)) j:=by
 refine ba ?_;simp only[gr,(h1.fs ha).no (s:=rR) de,aM,iF];refine bv (h1.ga ha (IY h2 (cX 0 b rfl))) ?_;rcases zf h2 with ⟨rfl,rfl⟩ | ⟨_,h4,h5⟩
 ·simp only[aJ (s:=jQ) b rfl,aJ (s:=eW) b rfl,aJ (s:=gh) b rfl,aM,iF];exact cf
 simp only[aJ (s:=jQ) h4 rfl,aJ (s:=gh) h4 rfl,cT (s:=eW) h4 rfl,aM,iF,iT];refine AE (IZ (cl:=rR) (acc:= []) (cT b rfl) de (cX 0 b rfl) (aJ b rfl) h5 hk) ?_;exact cf
theorem amW{a:Nd}{ks:List Nd}{i k j:Nat}(h1:ic ts a 0 i k)(ha:bC a)(h2:sh ts eW true ks k j)(hk:pw ks)(av:ks≠ [])(b:ah ts j=⟨9,0,oA⟩):Ga ts .exprs i (nd 52 0 (nl a::aK ks)) j:=by
 refine ba ?_;simp only[gr];refine bv (h1.ga ha (IY h2 (cX 0 b rfl))) ?_;rcases zf h2 with ⟨rfl,rfl⟩ | ⟨_,h4,h5⟩
 ·exact absurd rfl av
 simp only[cT (s:=eW) h4 rfl,iT,kX];exact abI (acc:= [nl a]) (abQ b de) (cX 0 b rfl) (aJ b rfl) h2 hk
theorem S7{l:List Nd}{i j:Nat}(h:ze ts l i j)(hl : ∀n∈l,qk n)(av:rZ l=true):ah ts i=⟨8,0,jQ⟩:=by
 match l,h with
 | c::l,⟨k,h1,h2⟩=>
   rcases hl c s0 with ⟨ln,a,b,rfl,ha,hp,hb⟩ | ⟨ln,a,rfl,ha⟩
   ·obtain⟨k',e,g⟩:=h1.2 _ _ _ rfl;exact e
   cases av
theorem S8{l:List Nd}{i j:Nat}(h:ze ts l i j)(hl : ∀n∈l,qk n)(av:rZ l=true):ai ts i jQ=true:=oO (S7 h hl av) rfl
theorem S9{l:List Nd}{i j:Nat}(h:ze ts l i j)(hl : ∀n∈l,qk n)(av:rZ l=true):Sp ts i 0:=cX 0 (S7 h hl av) rfl
theorem amX{l:List Nd}{i j:Nat}(h:ze ts l i j)(hl : ∀n∈l,qk n)(av:rZ l=true):ai ts i gh=false:=aJ (S7 h hl av) rfl
theorem abR{i j:Nat}{n:Nd}(h1:ah ts i=⟨9,0,p7⟩)(h:Ga ts (.list 0) (i+1) n j)(h2:ah ts j=⟨9,0,oB⟩):Ga ts .atom i n (j+1):=by
 refine ba ?_;simp only[gr];refine vN (k9 h1) ?_;simp only[aJ (s:=qL) h1 rfl,aJ (s:=qM) h1 rfl,aJ (s:=qN) h1 rfl,aJ (s:=lq) h1 rfl,cT (s:=p7) h1 rfl,aM,iF,iT,h1];exact bv h (iY (cT h2 rfl) cf)
theorem Nj{i j:Nat}{n:Nd}(h1:ah ts i=⟨9,0,wW⟩)(h:Ga ts (.qQ 0) (i+1) n j)(h2:ah ts j=⟨9,0,rR⟩):Ga ts .atom i n (j+1):=by
 refine ba ?_;simp only[gr];refine vN (k9 h1) ?_;simp only[aJ (s:=qL) h1 rfl,aJ (s:=qM) h1 rfl,aJ (s:=qN) h1 rfl,aJ (s:=lq) h1 rfl,aJ (s:=p7) h1 rfl,cT (s:=wW) h1 rfl,aM,iF,iT,h1];exact bv h (iY (cT h2 rfl) cf)
theorem abS{i j:Nat}{n:Nd}(h1:ah ts i=⟨9,0,lq⟩)(b:ai ts (i+1) oA=false)(h:Ga ts .exprs (i+1) n j)(h2:ah ts j=⟨9,0,oA⟩):Ga ts .atom i n (j+1):=by
 refine ba ?_;simp only[gr];refine vN (k9 h1) ?_;simp only[aJ (s:=qL) h1 rfl,aJ (s:=qM) h1 rfl,aJ (s:=qN) h1 rfl,cT (s:=lq) h1 rfl,b,aM,iF,iT];exact bv h (iY (cT h2 rfl) cf)
theorem S'{l:List Nd}{i j:Nat}{s:List UInt8}(h:ze ts l i j)(hl : ∀n∈l,qk n)(b:ah ts j=⟨9,0,s⟩)(e:rQ s=false)(hs:Sp ts j 1):Ev (λf=>gr ts f (.clauses []) i) (.ok (aK l,j)):=by
 have h1:ai ts j jQ=false:=Ao (by rw[b];show(9:Int)≠8;decide);have h2:ai ts j lj=false:=Ao (by rw[b];show(9:Int)≠8;decide);exact SX (acc:= []) h1 h2 hs h hl
theorem amY(ih:mr ts f){n:Nd}{d i j:Nat}(t:SR.me (.shown n)<f+1)(h:bt ts (pp (f+1) (.shown n) d) i j):Rd ts (.shown n) i j:=by
 intro ho hk;cases qU ho with
 | vc br=>
   rename_i l ks;simp only[pp,aE,am,Nat.reduceEqDiff,true_or,or_true,false_or,or_false,or_self,iF,iT,aG,aS,a6,eg,bt] at h;simp only[SR.me,am,aq,aL] at t;obtain⟨h1,k,h2,h3,rfl⟩:=h;have g:=ih (.bc false ks) d _ _ Mt h2;refine oQ rfl (abR h1 ?_ h3) (lC h1 rfl);match ks,br,g with
   | [],_,g=>
     obtain rfl:i+1=k:=g;refine ba ?_;simp only[gr,cT (s:=oB) h3 rfl,iT];exact cf
   | a::ks,br,⟨o,k',e,c,q⟩=>
     obtain rfl:o=i+1:=e;exact amU c (br a s0) q (λn hn=>br n (by simp[hn])) h3
 | eF br=>
   rename_i l ks;simp only[SR.me,am] at t;rcases ks with _ | ⟨a,_ | ⟨b,ks⟩⟩
   ·simp only[pp,aE,am,Nat.reduceEqDiff,true_or,or_true,false_or,or_false,or_self,iF,iT,aF,aG,aS,a6,eg,bt] at h;obtain⟨h1,k,h2,h3,rfl⟩:=h;obtain rfl:i+1=k:=ih (.bc false []) d _ _ Mt h2;refine oQ rfl (ba ?_) (lC h1 rfl);simp only[gr];refine vN (k9 h1) ?_;simp only[aJ (s:=qL) h1 rfl,aJ (s:=qM) h1 rfl,aJ (s:=qN) h1 rfl,cT (s:=lq) h1 rfl,cT (s:=oA) h3 rfl,h1,aM,iF,iT];exact cf
   ·simp only[pp,aE,am,Nat.reduceEqDiff,true_or,or_true,false_or,or_false,or_self,iF,iT,ay,aF,Nat.zero_add,aG,aS,a6,eg,bt] at h;obtain⟨h1,k,h2,h3,h4,rfl⟩:=h;obtain⟨o,k',e,c,q⟩:=ih (.bc false [a]) d _ _ Mt h2;obtain rfl:o=i+1:=e;obtain rfl:k'=k:=q;have ha:=br a s0;refine oQ rfl (abS h1 ((c.fs ha).no de) (ba ?_) h4) (lC h1 rfl);simp only[gr];refine bv (c.ga ha (SQ h3)) ?_;simp only[cT (s:=eW) h3 rfl,iT,kX];refine ba ?_;simp only[gr,cT (s:=eW) h3 rfl,iT,abQ h4 de,aM,iF];exact cf
   have B : ¬(a::b::ks).length=1:=by simp
   simp only[pp,aE,am,Nat.reduceEqDiff,true_or,or_true,false_or,or_false,or_self,iF,iT,B,aG,aS,a6,eg,bt] at h;obtain⟨h1,k,h2,h3,rfl⟩:=h;obtain⟨o,k',e,c,q⟩:=ih (.bc false (a::b::ks)) d _ _ Mt h2;obtain rfl:o=i+1:=e;have ha:=br a s0;exact oQ rfl (abS h1 ((c.fs ha).no de) (amW c ha q (λn hn=>br n (by simp[hn])) s0 h3) h3) (lC h1 rfl)
 | set ha br=>
   rename_i l a ks;simp only[pp,aE,am,Nat.reduceEqDiff,true_or,or_true,false_or,or_false,or_self,iF,iT,aG,aS,a6,eg,bt] at h;simp only[SR.me,am,aq,aL] at t;obtain⟨h1,k,h2,h3,rfl⟩:=h;obtain⟨o,k',e,c,q⟩:=ih (.bc false (a::ks)) d _ _ (by simp only[SR.me,aq,aL];omega) h2;obtain rfl:o=i+1:=e;exact oQ rfl (Nj h1 (amV c ha q br h3) h3) (lC h1 rfl)
 | CD br he=>
   rename_i l ks;simp only[pp,aE,am,Nat.reduceEqDiff,true_or,or_true,false_or,or_false,or_self,iF,iT,aG,aS,a6,eg,bt] at h;simp only[SR.me,am,aq,aL] at t;obtain⟨h1,k,h2,h3,rfl⟩:=h;have g:=ih (.bO false ks) d _ _ Mt h2;refine oQ rfl (Nj h1 (ba ?_) h3) (lC h1 rfl);match ks,br,he,g with
   | [],_,_,g=>
     obtain rfl:i+1=k:=g;simp only[gr,cT (s:=rR) h3 rfl,iT];exact cf
   | [_],_,he,_=>simp at he
   | a::b::ks,br,he,⟨o,k',w,e,c,q,C,u⟩=>
     obtain rfl:o=i+1:=e;have ha:=br a s0;have hb:=br b s0;have x:ks.length % 2=0:=by simp only[ay] at he;omega
     have D:=abJ u x (cX 0 h3 rfl);have y:ai ts w jQ=false:=by
      match ks,u with
      | [],u=>obtain rfl:w=k:=u;exact aJ h3 rfl
      | [_],_=>simp at x
      | _::_::_,⟨_,_,_,e,_⟩=>exact aJ (show ah ts w=⟨9,0,eW⟩/\_ from e).1 rfl
     simp only[gr,(c.fs ha).no (s:=rR) de,aM,iF];refine bv (c.ga ha (cX 0 q rfl)) ?_;simp only[cT (s:=gh) q rfl,iT];refine bv (C.ga hb D) ?_;simp only[y,aM,iF];exact abK (acc:= [nl a,nl b]) (cT h3 rfl) (cX 0 h3 rfl) (aJ h3 rfl) u (λn hn=>br n (by simp[hn])) x
 | CE ha av br=>
   rename_i l a ks;simp only[pp,aE,am,Nat.reduceEqDiff,true_or,or_true,false_or,or_false,or_self,iF,iT,aG,aS,a6,eg,bt] at h;simp only[SR.me,am,aq,aL] at t;obtain⟨h1,k',h2,k,h3,h4,rfl⟩:=h;have g:=ih (.at a 0) d _ _ Mt h2 Om;have c:=ih (.clauses ks) d _ _ Mt h3;refine oQ rfl (abR h1 (ba ?_) h4) (lC h1 rfl);have v:=S8 c br av;have E:Sp ts k' 0:=S9 c br av;simp only[gr,(g.fs ha).no (s:=oB) de,aM,iF];refine bv (g.ga ha E) ?_;simp only[v,iT];refine AE (S' c br h4 rfl (cX 1 h4 rfl)) ?_;exact cf
 | CF ha av br=>
   rename_i l a ks;simp only[pp,aE,am,Nat.reduceEqDiff,true_or,or_true,false_or,or_false,or_self,iF,iT,aG,aS,a6,eg,bt] at h;simp only[SR.me,am,aq,aL] at t;obtain⟨h1,k',h2,k,h3,h4,rfl⟩:=h;have g:=ih (.at a 0) d _ _ Mt h2 Om;have c:=ih (.clauses ks) d _ _ Mt h3;refine oQ rfl (Nj h1 (ba ?_) h4) (lC h1 rfl);have v:=S8 c br av;simp only[gr,(g.fs ha).no (s:=rR) de,aM,iF];refine bv (g.ga ha (S9 c br av)) ?_;simp only[v,amX c br av,aM,iF,iT];refine AE (S' c br h4 rfl (cX 1 h4 rfl)) ?_;exact cf
 | CG ha hb av br=>
   rename_i l a b ks;simp only[pp,aE,am,Nat.reduceEqDiff,true_or,or_true,false_or,or_false,or_self,iF,iT,aG,aS,a6,eg,bt] at h;simp only[SR.me,am,aq,aL] at t;obtain⟨h1,k',h2,k,h3,h4,rfl⟩:=h;obtain⟨o,k1,F,e,z,A,G,H⟩:=ih (.bO false [a,b]) d _ _ (by simp only[SR.me,aq,aL];omega) h2;obtain rfl:o=i+1:=e;obtain rfl:F=k':=H;have c:=ih (.clauses ks) d _ _ Mt h3;refine oQ rfl (Nj h1 (ba ?_) h4) (lC h1 rfl);have v:=S8 c br av;simp only[gr,(z.fs ha).no (s:=rR) de,aM,iF];refine bv (z.ga ha (cX 0 A rfl)) ?_;simp only[cT (s:=gh) A rfl,iT];refine bv (G.ga hb (S9 c br av)) ?_;simp only[v,iT];refine AE (S' c br h4 rfl (cX 1 h4 rfl)) ?_;exact cf
 | ql h=>simp only[aE] at hk;omega
 | _=>simp[Nd.kind] at hk
end
section
variable {ts:List PT} {f:Nat}
theorem zg(ih:mr ts f){n a b:Nd}{ks:List Nd}{l r:Nat}{s:List UInt8}{d i j:Nat}(c:SR.me (.dK n)<f+1)(hk:n.kids=a::b::ks)(hl:l<=10)(e:r<=10)(h:bt ts (pp f (.two n l s r) d) i j) : ∃k,ic ts a l i k/\ah ts k=⟨if s=qK\/s=qJ then 8 else 9,0,s⟩/\ic ts b r (k+1) j:=
 ih (.two n l s r) d i j (by simp only[SR.me] at c⊢;omega) h a b ks hk hl e
theorem qV{n:Nd}{i j m:Nat}(e:gC n=m)(h:CP ts i j m (nl n))(g:Fs ts i m):XA ts n i j:=by subst e;exact⟨h,g⟩
theorem am0{c:Prop}[Decidable c]{i j:Nat}(h:bt ts (if c then [Pc.sp] else []) i j):i=j:=by split at h<;>exact h
theorem am1(ih:mr ts f){n:Nd}{d i j:Nat}(g:SR.me (.dK n)<f+1)(h:bt ts (pp (f+1) (.dK n) d) i j):Rd ts (.dK n) i j:=by
 intro ho hk;cases qU ho with
 | bin o1 o2 ha hb=>
   rename_i l o a b;simp only[pp,aE,fy,Nat.reduceEqDiff,iF,iT] at h;obtain rfl | rfl | rfl | rfl | rfl | rfl | rfl:o=1\/o=2\/o=3\/o=4\/o=5\/o=6\/o=7:=by omega
   ·obtain⟨k,h1,h2,h3⟩:=zg (l:=5) (r:=6) (s:=nk) ih g rfl de de h;refine qV (m:=5) rfl (λr hs hl=>(h1.e ha).1 r (cX 6 h2 rfl) (ba ?_)) (Fs.m (h1.e ha).2 (ag 5));simp only[gr,gY (s:=nk) h2 rfl,iT,kX];exact bv (h3.ga hb hs) hl
   ·obtain⟨k,h1,h2,h3⟩:=zg (l:=5) (r:=6) (s:=oz) ih g rfl de de h;refine qV (m:=5) rfl (λr hs hl=>(h1.e ha).1 r (cX 6 h2 rfl) (ba ?_)) (Fs.m (h1.e ha).2 (ag 5));simp only[gr,aJ (s:=nk) h2 rfl,gY (s:=oz) h2 rfl,aM,iF,iT,kX];exact bv (h3.ga hb hs) hl
   ·obtain⟨k,h1,h2,h3⟩:=zg (l:=6) (r:=7) (s:=Ak) ih g rfl de de h;refine qV (m:=6) rfl (λr hs hl=>(h1.e ha).1 r (cX 7 h2 rfl) (ba ?_)) (Fs.m (h1.e ha).2 (ag 6));simp only[gr,gY (s:=Ak) h2 rfl,iT,kX];exact bv (h3.ga hb hs) hl
   ·obtain⟨k,h1,h2,h3⟩:=zg (l:=6) (r:=7) (s:=B8) ih g rfl de de h;refine qV (m:=6) rfl (λr hs hl=>(h1.e ha).1 r (cX 7 h2 rfl) (ba ?_)) (Fs.m (h1.e ha).2 (ag 6));simp only[gr,aJ (s:=Ak) h2 rfl,gY (s:=B8) h2 rfl,aM,iF,iT,kX];exact bv (h3.ga hb hs) hl
   ·obtain⟨k,h1,h2,h3⟩:=zg (l:=6) (r:=7) (s:=ET) ih g rfl de de h;refine qV (m:=6) rfl (λr hs hl=>(h1.e ha).1 r (cX 7 h2 rfl) (ba ?_)) (Fs.m (h1.e ha).2 (ag 6));simp only[gr,aJ (s:=Ak) h2 rfl,aJ (s:=B8) h2 rfl,gY (s:=ET) h2 rfl,aM,iF,iT,kX];exact bv (h3.ga hb hs) hl
   ·obtain⟨k,h1,h2,h3⟩:=zg (l:=6) (r:=7) (s:=Iu) ih g rfl de de h;refine qV (m:=6) rfl (λr hs hl=>(h1.e ha).1 r (cX 7 h2 rfl) (ba ?_)) (Fs.m (h1.e ha).2 (ag 6));simp only[gr,aJ (s:=Ak) h2 rfl,aJ (s:=B8) h2 rfl,aJ (s:=ET) h2 rfl,gY (s:=Iu) h2 rfl,aM,iF,iT,kX];exact bv (h3.ga hb hs) hl
   obtain⟨k,h1,h2,h3⟩:=zg (l:=9) (r:=7) (s:=Iv) ih g rfl de de h;have t:=Fs.m (h1.e ha).2 (ag 9);refine qV (m:=8) rfl ?_ (t.lo de);rintro r hs ⟨hl,rfl⟩;refine ba ?_;simp only[nv,gr,(t.pl Om).1,(t.pl Om).2,aM,iF];refine bv (h1.ga ha (cX 9 h2 rfl)) ?_;simp only[gY (s:=Iv) h2 rfl,iT,kX];exact bv (h3.ga hb (amQ hl)) cf
 | un v ha=>
   rename_i l o a;simp only[pp,aE,am,fy,Nat.reduceEqDiff,iF,iT,aS,a6,bt] at h;obtain⟨h1,h2⟩:=h;simp only[SR.me,am,aq,aL] at g;have q:=ih (.at a 7) d _ _ Mt h2 Om;rcases v with rfl | rfl
   ·refine qV (m:=7) rfl ?_ (lC h1 rfl);rintro r hs ⟨hl,rfl⟩;refine ba ?_;simp only[nv,gr,aJ (s:=nk) h1 rfl,gY (s:=oz) h1 rfl,aM,iF,iT,h1];exact bv (q.ga ha hl) cf
   refine qV (m:=7) rfl ?_ (lC h1 rfl);rintro r hs ⟨hl,rfl⟩;refine ba ?_;simp only[nv,gr,gY (s:=nk) h1 rfl,iT,h1];exact bv (q.ga ha hl) cf
 | and ha hb=>
   simp only[pp,aE,fy,Nat.reduceEqDiff,iF,iT] at h;obtain⟨k,h1,h2,h3⟩:=zg (l:=2) (r:=3) (s:=qK) ih g rfl de de h;refine qV (m:=2) rfl (λr hs hl=>(h1.e ha).1 r (cX 3 h2 rfl) (ba ?_)) (Fs.m (h1.e ha).2 (ag 2));simp only[gr,gY (s:=qK) h2 rfl,iT,kX];exact bv (h3.ga hb hs) hl
 | or ha hb=>
   simp only[pp,aE,fy,Nat.reduceEqDiff,iF,iT] at h;obtain⟨k,h1,h2,h3⟩:=zg (l:=1) (r:=2) (s:=qJ) ih g rfl de de h;refine qV (m:=1) rfl (λr hs hl=>(h1.e ha).1 r (cX 2 h2 rfl) (ba ?_)) (Fs.m (h1.e ha).2 (ag 1));simp only[gr,gY (s:=qJ) h2 rfl,iT,kX];exact bv (h3.ga hb hs) hl
 | not ha=>
   rename_i l a;simp only[pp,aE,am,fy,Nat.reduceEqDiff,iF,iT,aS,a6,bt] at h;obtain⟨h1,h2⟩:=h;simp only[SR.me,am,aq,aL] at g;have q:=ih (.at a 3) d _ _ Mt h2 Om;refine qV (m:=3) rfl ?_ (lC h1 rfl);rintro r hs ⟨hl,rfl⟩;refine ba ?_;simp only[nv,gr,gY (s:=lS) h1 rfl,iT,h1];exact bv (q.ga ha hl) cf
 | cmp ha hn br=>
   rename_i l a ks;simp only[pp,aE,am,fy,Nat.reduceEqDiff,iF,iT,eg] at h;obtain⟨k,h1,h2⟩:=h;simp only[SR.me,am,aq,aL] at g;have u:=ih (.at a 5) d _ _ Mt h1 Om;have q:=ih (.cW ks) d _ _ Mt h2;refine qV (m:=4) rfl ?_ (Fs.m (u.e ha).2 (show 4<=5 by omega));rintro r hs ⟨hl,rfl⟩;refine ba ?_;simp only[nv,gr];refine bv (u.ga ha (abN q br (hl.up Om))) ?_;have:=abO (n:=nl a) (acc:= []) hl q br hn;rw[kX] at this;exact this
 | cond ha hb hc=>
   rename_i l a b c;simp only[pp,aE,am,fy,Nat.reduceEqDiff,iF,iT,aG,aS,a6,eg,bt] at h;obtain⟨k,h1,h2,k',h3,h4,h5⟩:=h;simp only[SR.me,am,aq,aL] at g;have u:=ih (.at b 1) d _ _ Mt h1 Om;have w:=ih (.at a 1) d _ _ Mt h3 Om;have x:=ih (.at c 0) d _ _ Mt h5 Om;have t:=Fs.m (u.e hb).2 (ag 1);refine qV (m:=0) rfl ?_ (t.lo de);rintro r hs ⟨hl,rfl⟩;refine ba ?_;simp only[nv,gr,t.lm (ag 1),aM,iF];refine bv (u.ga hb (cX 1 h2 rfl)) ?_;simp only[oO (s:=lj) h2 rfl,iT,kX];refine bv (w.ga ha (cX 1 h4 rfl)) (iY (oO h4 rfl) (bv (x.ga hc hl) cf))
 | lam hp he=>
   rename_i l l' ps e;simp only[pp,aE,am,fy,Nat.reduceEqDiff,iF,iT,aG,aS,a6,eg,bt,amG] at h;obtain⟨h1,y,z,k,h2,h3,h4⟩:=h;obtain rfl:i+1=y:=am0 z;simp only[SR.me,am,aq,aL] at g;have q:=ih (.bc false ps) d _ _ Mt h2;have A:=ih (.at e 0) d _ _ Mt h4 Om;refine qV (m:=0) rfl ?_ (lC h1 rfl);rintro r hs ⟨hl,rfl⟩;refine ba ?_;simp only[nv,gr,oO (s:=qI) h1 rfl,iT,h1];refine bv (SU (acc:= []) (cT h3 rfl) (aJ h3 rfl) q hp) (iY (cT h3 rfl) (bv (A.ga he hl) cf))
 | ql h=>simp only[aE] at hk;omega
 | _=>simp[Nd.kind] at hk
end
inductive oS:Nd->Prop where
 | exp {l v} (hv:AF v):oS (.mk 2 l [] 0 [v])
 | bF {l ks v} (hn:ks≠ []) (hk : ∀n∈ks,bC n/\fw n=true) (hv:AF v):oS (.mk 3 l [] 0 (ks++ [v]))
 | Nk {l o a b} (o1:1<=o) (o2:o<=7) (ha:bC a) (hs:nQ a=true) (hb:bC b):oS (.mk 4 l [] o [a,b])
 | ti {k l} (hk:k=10\/k=14):oS (.mk k l [] 0 [])
 | tj {k l a} (hk:k=10\/k=14) (ha:bC a):oS (.mk k l [] 0 [a])
 | Nm {l a} (ha:bC a):oS (.mk 20 l [] 0 [a])
 | tm {k l} (hk:k=11\/k=12\/k=13):oS (.mk k l [] 0 [])
 | tn {k l ks} (hk:k=17\/k=18) (hn:ks≠ []) (br : ∀n∈ks,CB n):oS (.mk k l [] 0 ks)
 | del {l a} (ha:bC a) (hs:nQ a=true):oS (.mk 19 l [] 0 [a])
 | Nn {l a b} (ha:bC a) (hb:okB b):oS (.mk 5 l [] 0 [a,b])
 | Np {l a b e} (ha:bC a) (hb:okB b) (he:okB e):oS (.mk 5 l [] 0 [a,b,e])
 | Nq {l a b} (ha:bC a) (hb:okB b):oS (.mk 6 l [] 0 [a,b])
 | fr {l a b c} (ha:bC a) (hp:fw a=true) (hb:bC b) (hc:okB c):oS (.mk 7 l [] 0 [a,b,c])
 | df {l x l' ps b} (hx:iX 4 x) (hp : ∀n∈ps,CB n) (hb:okB b):oS (.mk 8 l x 0 [.mk 23 l' [] 0 ps,b])
 | cls {l x l' ps b} (hx:iX 4 x) (hp:pw ps) (hb:okB b):oS (.mk 9 l x 0 [.mk 24 l' [] 0 ps,b])
 | tr {l b h t} (hb:okB b) (hh : ∀n∈h,vO n) (hd : ∀n∈h.dropLast,n.kids.length=2) (ht:t= []\/∃y,t= [y]/\okF y) (hn:h++t≠ []):oS (.mk 15 l [] 0 (b::(h++t)))
 | Nr {l x e b} (hx:x= []\/iX 4 x) (he:bC e) (hb:okB b):oS (.mk 16 l x 0 [e,b])
theorem uc{b:Nd}(h:fh b)(hk:b.kind=1):okB b:=by
 obtain⟨k,l,x,o,ks⟩:=b;obtain⟨h1,h2⟩:=h;obtain rfl:k=1:=hk;simp[bT] at h1;obtain⟨rfl,rfl,c,e⟩:=h1;exact⟨l,ks,rfl,c,λn hn=>⟨sg h2 n hn,e n hn⟩⟩
theorem am2{h:Nd}(hw:fh h)(hk:h.kind=21):vO h:=by
 obtain⟨k,l,x,o,ks⟩:=h;obtain⟨h1,h2⟩:=hw;obtain rfl:k=21:=hk;simp[bT] at h1;obtain⟨⟨rfl,b,rfl,hb⟩ | ⟨hx,e,b,rfl,he,hb⟩,rfl⟩:=h1;·exact .inl ⟨l,b,rfl,uc h2.1 hb⟩
 exact .inr ⟨l,x,e,b,rfl,hx,⟨h2.1,he⟩,uc h2.2.1 hb⟩
theorem am3{h:Nd}(hw:fh h)(hk:h.kind=22):okF h:=by
 obtain⟨k,l,x,o,ks⟩:=h;obtain⟨h1,h2⟩:=hw;obtain rfl:k=22:=hk;simp[bT] at h1;obtain⟨rfl,rfl,b,rfl,hb⟩:=h1;exact⟨l,b,rfl,uc h2.1 hb⟩
theorem ud{n:Nd}(h:lY n):oS n:=by
 obtain⟨k,l,x,o,ks⟩:=n;obtain⟨⟨h1,h2⟩,A,B⟩:=h;replace A:2<=k:=A;replace B:k<=20:=B;rcases h1 with h | h | h | h | h | h | h | h | h | h | h | h | h | h | h | h | h | h | h | h | h | h | h | h | h | h | h | h | h | h | h | h | h | h | h | h | h | h | h | h | h | h | h
 all_goals try omega
 ·obtain⟨h,rfl,rfl,rfl⟩:=h;exact .tm Om
 ·obtain⟨h,rfl,rfl,rfl | ⟨a,rfl,ha⟩⟩:=h;·exact .ti Om
  exact .tj Om ⟨h2.1,ha⟩
 ·obtain⟨rfl,rfl,rfl,a,rfl,ha⟩:=h;exact .Nm ⟨h2.1,ha⟩
 ·obtain⟨rfl,rfl,rfl,v,rfl,hv⟩:=h;exact .exp (abG h2.1 hv)
 ·obtain⟨rfl,rfl,rfl,ks,v,rfl,hn,hv,hk⟩:=h;have g:=sg h2;exact .bF hn (λn q=>⟨⟨g n (by simp[q]),(hk n q).1⟩,(hk n q).2⟩) (abG (g v s0) hv)
 ·obtain⟨rfl,rfl,o1,o2,a,b,rfl,ha,hs,hb⟩:=h;exact .Nk o1 o2 ⟨h2.1,ha⟩ hs ⟨h2.2.1,hb⟩
 ·obtain⟨rfl,rfl,rfl,a,rfl,ha,hs⟩:=h;exact .del ⟨h2.1,ha⟩ hs
 ·obtain⟨h,rfl,rfl,hn,hk⟩:=h;exact .tn h hn λn q=>SM (sg h2 n q) (hk n q)
 ·obtain⟨rfl,rfl,rfl,a,b,r,rfl,ha,hb,rfl | ⟨e,rfl,he⟩⟩:=h;·exact .Nn ⟨h2.1,ha⟩ (uc h2.2.1 hb)
  exact .Np ⟨h2.1,ha⟩ (uc h2.2.1 hb) (uc h2.2.2.1 he)
 ·obtain⟨rfl,rfl,rfl,a,b,rfl,ha,hb⟩:=h;exact .Nq ⟨h2.1,ha⟩ (uc h2.2.1 hb)
 ·obtain⟨rfl,rfl,rfl,a,b,c,rfl,ha,hp,hb,hc⟩:=h;exact .fr ⟨h2.1,ha⟩ hp ⟨h2.2.1,hb⟩ (uc h2.2.2.1 hc)
 ·obtain⟨rfl,hx,rfl,a,b,rfl,ha,hb⟩:=h;obtain⟨k,l',y,o,ps⟩:=a;obtain rfl:k=23:=ha;obtain⟨⟨u,w⟩,z⟩:=h2;simp[bT] at u;obtain⟨rfl,rfl,u⟩:=u;exact .df hx (λn hn=>SM (sg w n hn) (u n hn)) (uc z.1 hb)
 ·obtain⟨rfl,hx,rfl,a,b,rfl,ha,hb⟩:=h;obtain⟨k,l',y,o,ps⟩:=a;obtain rfl:k=24:=ha;obtain⟨⟨u,w⟩,z⟩:=h2;simp[bT] at u;obtain⟨rfl,rfl,u⟩:=u;exact .cls hx (Fw w u) (uc z.1 hb)
 ·obtain⟨rfl,rfl,rfl,b,r,rfl,hb,hn,h,t,rfl,hh,hd,ht⟩:=h;have g:=sg h2.2;refine .tr (uc h2.1 hb) (λn q=>am2 (g n (by simp[q])) (hh n q)) hd ?_ hn;rcases ht with rfl | ⟨y,rfl,C⟩
  ·exact .inl rfl
  exact .inr ⟨y,rfl,am3 (g y s0) C⟩
 obtain⟨rfl,hx,rfl,e,b,rfl,he,hb⟩:=h;exact .Nr hx ⟨h2.1,he⟩ (uc h2.2.1 hb)
section
variable {ts:List PT} {f:Nat}
theorem xh{j:Nat}(h:ah ts j=⟨1,0,[]⟩)(s:List UInt8):ai ts j s=false:=Ao (by rw[h];show ¬(1:Int)=_;split<;>decide)
theorem Fz{j:Nat}(h:ah ts j=⟨1,0,[]⟩):Sp ts j 0:=λl s _ _=>xh h s
theorem am4{j:Nat}(h:ah ts j=⟨1,0,[]⟩):iR ts j=false:=Z8 (by rw[h];decide) (by rw[h];decide) (by rw[h];decide)
theorem am5{j:Nat}(h:ah ts j=⟨1,0,[]⟩):fm ts j=0:=by
 unfold fm;simp only[xh h,aM,iF]
theorem CI{n:Nd}{i j:Nat}(h:ic ts n 0 i j)(hn:bC n)(hs:Sp ts j 0)(hc:ai ts j eW=false):Ga ts .exprs i (nl n) j:=by
 refine ba ?_;simp only[gr];refine bv (h.ga hn hs) ?_;simp only[hc,aM,iF];exact cf
theorem IX.ga{n:Nd}{i j:Nat}(h:IX ts n i j)(hn:bC n)(hs:Sp ts j 0):Ga ts .expr i (nl n) j:=(h hn).1.ga hs
theorem AH{s:List UInt8}{n:Nd}{k:Nat}{all:Bool}{i j:Nat}(h:YD ts s n i j)(hk:n.kids= []\/∃a,n.kids= [a]/\bC a)(b:ah ts j=⟨1,0,[]⟩):Ga ts (.maybe k 0 all) (i+1) (nd k 0 (aK n.kids)) j:=by
 obtain⟨h1,h2⟩:=h;refine ba ?_;rcases hk with hk | ⟨a,hk,ha⟩
 ·rw[hk] at h2⊢;obtain rfl:j=i+1:=h2;simp only[gr,am4 b,aM,iF];exact cf
 rw[hk] at h2⊢;replace h2:IX ts a (i+1) j:=h2;obtain⟨_,m,_,e⟩:=h2 ha;simp only[gr,e.beg,iT];have c:=h2.ga ha (Fz b);cases all;·simp only[aM,iF];exact bv c cf
 simp only[iT];refine bv (j:=j) (n:=nl a) (ba ?_) cf;simp only[gr];refine bv c ?_;simp only[xh b,aM,iF];exact cf
theorem am6{v:Nd}{i j:Nat}(h:ic ts v 0 i j)(hv:AF v)(b:ah ts j=⟨1,0,[]⟩):Ga ts .value i (nl v) j:=by
 refine ba ?_;rcases hv with hv | ⟨l,rfl⟩ | ⟨l,a,rfl,ha⟩
 ·simp only[gr,(h.fs hv).no (s:=nP) de,aM,iF];exact CI h hv (Fz b) (xh b _)
 ·have h1:=h.2.2.2 rfl;simp only[gr,oO h1.1 rfl,iT,h1.1];exact AH h1 (.inl rfl) b
 have h1:=h.2.2.2 rfl;simp only[gr,oO h1.1 rfl,iT,h1.1];exact AH h1 (.inr ⟨a,rfl,ha⟩) b
theorem abT{v:Nd}(hv:AF v){j:Nat}(b:ah ts j=⟨1,0,[]⟩) : ∀ {l:List Nd} {i:Nat} {acc:List Nd} {p:Nd},fw p=true->sh ts va true (l++ [v]) i j->(∀n∈l,bC n/\fw n=true)->Ev (λf=>gr ts f (.jp 0 (acc++ [p])) i) (.ok ([nd 3 0 (acc++ [p]++aK (l++ [v]))],j))
 | [],i,acc,p,hp,⟨c,k,h1,h2,h3⟩,_=>by
   obtain⟨h1,rfl⟩:ah ts i=⟨9,0,va⟩/\c=i+1:=h1;obtain rfl:k=j:=h3;have o:(acc++ [p]).getLast? = some p:=by simp
   refine ba ?_;simp only[gr,cT h1 rfl,iT,o,hp];refine bv (am6 h2 hv b) (ba ?_);simp only[gr,xh b,aM,iF,a6,aK];exact cf
 | n::l,i,acc,p,hp,⟨c,k,h1,h2,h3⟩,g=>by
   obtain⟨h1,rfl⟩:ah ts i=⟨9,0,va⟩/\c=i+1:=h1;have o:(acc++ [p]).getLast? = some p:=by simp
   obtain⟨q,t⟩:=g n s0;have h4:ah ts k=⟨9,0,va⟩:=by
    rcases zf h3 with ⟨e,_⟩ | ⟨_,h4,_⟩
    ·exact absurd e s0
    exact h4
   refine ba ?_;simp only[gr,cT h1 rfl,iT,o,hp];refine bv (n:=nl n) (j:=k) (ba ?_) ?_;·simp only[gr,(h2.fs q).no (s:=nP) de,aM,iF];exact CI h2 q (cX 0 h4 rfl) (aJ h4 rfl)
   have:=abT hv b (acc:=acc++ [p]) (p:=nl n) (by rw[Fx];exact t) h3 λm u=>g m (by simp[u]);simpa only[aG,aS,a6,aK] using this
theorem abU{i:Nat}{w s:List UInt8}(h:ah ts i=⟨8,0,w⟩)(e:s≠w):ai ts i s=false:=aJ h (by
 unfold qT;apply decide_eq_false;rintro⟨_,rfl,_⟩;exact e rfl)
theorem mu{i:Nat}{w:List UInt8}(h:ah ts i=⟨8,0,w⟩)(e:w ∉ [sU,wV,rU,Ca]):I0 ts i:=
 ⟨by rw[h];show(4:Int)<=8;decide,λs hs=>abU h λe'=>e (e'▸hs)⟩
theorem Ta{i m:Nat}(h:Fs ts i m):I0 ts i:=⟨h.kd.1,λs hs=>h.no (by
 simp only[jw,zt,or_false] at hs;rcases hs with rfl | rfl | rfl | rfl<;>decide)⟩
theorem Tb{i m:Nat}(h:Fs ts i m) : ∀s∈I1,ai ts i s=false:=λs hs=>h.no (by
 simp only[I1,jw,zt,or_false] at hs;rcases hs with rfl | rfl | rfl | rfl | rfl | rfl | rfl<;>decide)
theorem tp{i:Nat}{w:List UInt8}(h:ah ts i=⟨8,0,w⟩)(e:w∉I1) : ∀s∈I1,ai ts i s=false:=λs hs=>abU h λe'=>e (e'▸hs)
theorem Tc{i m j:Nat}{n:Nd}(h:Fs ts i m)(g:Ga ts .plain i n j):Ga ts .simple i n j:=by
 refine ba ?_;simp only[gr,h.no (s:=p8) de,h.no (s:=qO) de,h.no (s:=rT) de,h.no (s:=oC) de,h.no (s:=p9) de,h.no (s:=yV) de,h.no (s:=Al) de,h.no (s:=Am) de,h.no (s:=nP) de,h.no (s:=Ml) de,aM,iF];exact g
theorem abV(n:Nd):nQ (nl n)=nQ n:=by unfold nQ;rw[jV]
theorem ic.ff{n:Nd}{a i j:Nat}(h:ic ts n a i j)(hn:bC n):Fs ts i 0:=(h.fs hn).lo (fa _)
end
section
variable {ts:List PT} {f:Nat}
theorem CJ{a b:Nd}{o i j k:Nat}{s:List UInt8}(h1:ic ts a 0 i k)(ha:bC a)(hs:nQ a=true)(h2:ah ts k=⟨9,0,s⟩)(e:qT ⟨9,0,s⟩ eW=false)(g:qT ⟨9,0,s⟩ va=false)(h:fm ts k=o)(p:Sp ts k 0)(ho:o≠0)(h3:ic ts b 0 (k+1) j)(hb:bC b)(c:ah ts j=⟨1,0,[]⟩):Ga ts .plain i (.mk 4 0 [] o [nl a,nl b]) j:=by
 refine ba ?_;simp only[gr];refine bv (CI h1 ha p (aJ h2 e)) ?_;simp only[aJ h2 g,h,iN ho,abV,hs,aM,iF,iT,kX];exact bv (CI h3 hb (Fz c) (xh c _)) cf
theorem am7(ih:mr ts f){n:Nd}{d i j:Nat}(g:SR.me (.simple n)<f+1)(h:bt ts (pp (f+1) (.simple n) d) i j):Rd ts (.simple n) i j:=by
 intro hk ho;cases ud ho with
 | exp hv=>
   rename_i l v;simp only[pp,aE,am,Nat.reduceEqDiff,iF,iT] at h;simp only[SR.me,am] at g;obtain⟨t,k,e,h1,u⟩:=ih (.bc false [v]) d _ _ Mt h;obtain rfl:t=i:=e;obtain rfl:k=j:=u;rcases hv with hv | ⟨w,rfl⟩ | ⟨w,a,rfl,ha⟩
   ·refine⟨Ta (h1.ff hv),Tb (h1.ff hv),λc=>Tc (h1.ff hv) (ba ?_)⟩;simp only[gr];refine bv (CI h1 hv (Fz c) (xh c _)) ?_;simp only[xh c,am5 c,aM,iF,iT,kX];exact cf
   ·have h2:=h1.2.2.2 rfl;refine⟨mu h2.1 de,tp h2.1 de,λc=>ba ?_⟩;have h3:=h2.1;simp only[gr,aJ (s:=p8) h3 rfl,aJ (s:=qO) h3 rfl,aJ (s:=rT) h3 rfl,aJ (s:=oC) h3 rfl,aJ (s:=p9) h3 rfl,aJ (s:=yV) h3 rfl,aJ (s:=Al) h3 rfl,aJ (s:=Am) h3 rfl,gY (s:=nP) h3 rfl,aM,iF,iT,h3];exact bv (AH h2 (.inl rfl) c) cf
   have h2:=h1.2.2.2 rfl;refine⟨mu h2.1 de,tp h2.1 de,λc=>ba ?_⟩;have h3:=h2.1;simp only[gr,aJ (s:=p8) h3 rfl,aJ (s:=qO) h3 rfl,aJ (s:=rT) h3 rfl,aJ (s:=oC) h3 rfl,aJ (s:=p9) h3 rfl,aJ (s:=yV) h3 rfl,aJ (s:=Al) h3 rfl,aJ (s:=Am) h3 rfl,gY (s:=nP) h3 rfl,aM,iF,iT,h3];exact bv (AH h2 (.inr ⟨a,rfl,ha⟩) c) cf
 | bF hn br hv=>
   rename_i l ks v;simp only[pp,aE,am,Nat.reduceEqDiff,iF,iT] at h;simp only[SR.me,am] at g;have x:=ih (.bF false (ks++ [v])) d _ _ Mt h;match ks,hn,br,x with
   | a::ks,_,br,⟨t,k,e,h1,h2⟩=>
     obtain rfl:t=i:=e;obtain⟨ha,hp⟩:=br a s0;have h4:ah ts k=⟨9,0,va⟩:=by
      rcases zf h2 with ⟨e,_⟩ | ⟨_,h4,_⟩
      ·exact absurd e s0
      exact h4
     refine⟨Ta (h1.ff ha),Tb (h1.ff ha),λc=>Tc (h1.ff ha) (ba ?_)⟩;simp only[gr];refine bv (CI h1 ha (cX 0 h4 rfl) (aJ h4 rfl)) ?_;simp only[cT (s:=va) h4 rfl,iT,kX];exact abT hv c (acc:= []) (p:=nl a) (by rw[Fx];exact hp) h2 λm g=>br m (by simp[g])
 | Nk o1 o2 ha hs hb=>
   rename_i l o a b;simp only[pp,aE,fy,Nat.reduceEqDiff,iF,iT] at h;obtain⟨k,h1,h2,h3⟩:=ih (.two (.mk 4 l [] o [a,b]) 0 (jT mR o++ [61]) 0) d _ _ (by simp only[SR.me] at g⊢;omega) h a b [] rfl de de;refine⟨Ta (h1.ff ha),Tb (h1.ff ha),λc=>Tc (h1.ff ha) ?_⟩;obtain rfl | rfl | rfl | rfl | rfl | rfl | rfl:o=1\/o=2\/o=3\/o=4\/o=5\/o=6\/o=7:=by omega
   ·exact CJ (s:=Md) h1 ha hs h2 rfl rfl (by unfold fm;simp only[lX,h2];rfl) (cX 0 h2 rfl) de h3 hb c
   ·exact CJ (s:=Me) h1 ha hs h2 rfl rfl (by unfold fm;simp only[lX,h2];rfl) (cX 0 h2 rfl) de h3 hb c
   ·exact CJ (s:=Mf) h1 ha hs h2 rfl rfl (by unfold fm;simp only[lX,h2];rfl) (cX 0 h2 rfl) de h3 hb c
   ·exact CJ (s:=Mg) h1 ha hs h2 rfl rfl (by unfold fm;simp only[lX,h2];rfl) (cX 0 h2 rfl) de h3 hb c
   ·exact CJ (s:=Mh) h1 ha hs h2 rfl rfl (by unfold fm;simp only[lX,h2];rfl) (cX 0 h2 rfl) de h3 hb c
   ·exact CJ (s:=Mi) h1 ha hs h2 rfl rfl (by unfold fm;simp only[lX,h2];rfl) (cX 0 h2 rfl) de h3 hb c
   exact CJ (s:=Mj) h1 ha hs h2 rfl rfl (by unfold fm;simp only[lX,h2];rfl) (cX 0 h2 rfl) de h3 hb c
 | ti q=>
   rename_i k l;rcases q with rfl | rfl
   ·simp only[pp,aE,am,Nat.reduceEqDiff,iF,iT] at h;have h2:YD ts oC (.mk 10 l [] 0 []) i j:=ih (.maybe oC (.mk 10 l [] 0 [])) d _ _ (by simp only[SR.me] at g⊢;omega) h;have h3:=h2.1;refine⟨mu h3 de,tp h3 de,λc=>ba ?_⟩;simp only[gr,aJ (s:=p8) h3 rfl,aJ (s:=qO) h3 rfl,aJ (s:=rT) h3 rfl,gY (s:=oC) h3 rfl,aM,iF,iT,h3];exact AH h2 (.inl rfl) c
   simp only[pp,aE,am,Nat.reduceEqDiff,iF,iT] at h;have h2:YD ts p9 (.mk 14 l [] 0 []) i j:=ih (.maybe p9 (.mk 14 l [] 0 [])) d _ _ (by simp only[SR.me] at g⊢;omega) h;have h3:=h2.1;refine⟨mu h3 de,tp h3 de,λc=>ba ?_⟩;simp only[gr,aJ (s:=p8) h3 rfl,aJ (s:=qO) h3 rfl,aJ (s:=rT) h3 rfl,aJ (s:=oC) h3 rfl,gY (s:=p9) h3 rfl,aM,iF,iT,h3];exact AH h2 (.inl rfl) c
 | tj q ha=>
   rename_i k l a;rcases q with rfl | rfl
   ·simp only[pp,aE,am,Nat.reduceEqDiff,iF,iT] at h;have h2:YD ts oC (.mk 10 l [] 0 [a]) i j:=ih (.maybe oC (.mk 10 l [] 0 [a])) d _ _ (by simp only[SR.me] at g⊢;omega) h;have h3:=h2.1;refine⟨mu h3 de,tp h3 de,λc=>ba ?_⟩;simp only[gr,aJ (s:=p8) h3 rfl,aJ (s:=qO) h3 rfl,aJ (s:=rT) h3 rfl,gY (s:=oC) h3 rfl,aM,iF,iT,h3];exact AH h2 (.inr ⟨a,rfl,ha⟩) c
   simp only[pp,aE,am,Nat.reduceEqDiff,iF,iT] at h;have h2:YD ts p9 (.mk 14 l [] 0 [a]) i j:=ih (.maybe p9 (.mk 14 l [] 0 [a])) d _ _ (by simp only[SR.me] at g⊢;omega) h;have h3:=h2.1;refine⟨mu h3 de,tp h3 de,λc=>ba ?_⟩;simp only[gr,aJ (s:=p8) h3 rfl,aJ (s:=qO) h3 rfl,aJ (s:=rT) h3 rfl,aJ (s:=oC) h3 rfl,gY (s:=p9) h3 rfl,aM,iF,iT,h3];exact AH h2 (.inr ⟨a,rfl,ha⟩) c
 | Nm ha=>
   rename_i l a;simp only[pp,aE,am,Nat.reduceEqDiff,iF,iT] at h;obtain⟨h3,h4⟩:=ih (.maybe Am (.mk 20 l [] 0 [a])) d _ _ (by simp only[SR.me] at g⊢;omega) h;replace h4:IX ts a (i+1) j:=h4;refine⟨mu h3 de,tp h3 de,λc=>ba ?_⟩;simp only[gr,aJ (s:=p8) h3 rfl,aJ (s:=qO) h3 rfl,aJ (s:=rT) h3 rfl,aJ (s:=oC) h3 rfl,aJ (s:=p9) h3 rfl,aJ (s:=yV) h3 rfl,aJ (s:=Al) h3 rfl,gY (s:=Am) h3 rfl,aM,iF,iT,h3];exact bv (h4.ga ha (Fz c)) cf
 | tm q=>
   rename_i k l;rcases q with rfl | rfl | rfl
   ·obtain⟨h3,rfl⟩:=h;refine⟨mu h3 de,tp h3 de,λc=>ba ?_⟩;simp only[gr,gY (s:=p8) h3 rfl,iT,h3];exact cf
   ·obtain⟨h3,rfl⟩:=h;refine⟨mu h3 de,tp h3 de,λc=>ba ?_⟩;simp only[gr,aJ (s:=p8) h3 rfl,gY (s:=qO) h3 rfl,aM,iF,iT,h3];exact cf
   obtain⟨h3,rfl⟩:=h;refine⟨mu h3 de,tp h3 de,λc=>ba ?_⟩;simp only[gr,aJ (s:=p8) h3 rfl,aJ (s:=qO) h3 rfl,gY (s:=rT) h3 rfl,aM,iF,iT,h3];exact cf
 | tn q hn br=>
   rename_i k l ks;rcases q with rfl | rfl
   ·simp only[pp,aE,am,Nat.reduceEqDiff,iF,iT,aS,a6,bt] at h;obtain⟨h3,h4⟩:=h;have h5:=ih (.bc false ks) d _ _ (by simp only[SR.me,am] at g⊢;omega) h4;refine⟨mu h3 de,tp h3 de,λc=>ba ?_⟩;simp only[gr,aJ (s:=p8) h3 rfl,aJ (s:=qO) h3 rfl,aJ (s:=rT) h3 rfl,aJ (s:=oC) h3 rfl,aJ (s:=p9) h3 rfl,gY (s:=yV) h3 rfl,aM,iF,iT,h3];exact SW (acc:= []) (xh c _) hn h5 br
   simp only[pp,aE,am,Nat.reduceEqDiff,iF,iT,aS,a6,bt] at h;obtain⟨h3,h4⟩:=h;have h5:=ih (.bc false ks) d _ _ (by simp only[SR.me,am] at g⊢;omega) h4;refine⟨mu h3 de,tp h3 de,λc=>ba ?_⟩;simp only[gr,aJ (s:=p8) h3 rfl,aJ (s:=qO) h3 rfl,aJ (s:=rT) h3 rfl,aJ (s:=oC) h3 rfl,aJ (s:=p9) h3 rfl,aJ (s:=yV) h3 rfl,gY (s:=Al) h3 rfl,aM,iF,iT,h3];exact SW (acc:= []) (xh c _) hn h5 br
 | del ha hs=>
   rename_i l a;simp only[pp,aE,am,Nat.reduceEqDiff,iF,iT,aS,a6,bt] at h;obtain⟨h3,h4⟩:=h;have h5:=ih (.at a 9) d _ _ (by simp only[SR.me,am,aq,aL] at g⊢;omega) h4 Om;refine⟨mu h3 de,tp h3 de,λc=>ba ?_⟩;simp only[gr,aJ (s:=p8) h3 rfl,aJ (s:=qO) h3 rfl,aJ (s:=rT) h3 rfl,aJ (s:=oC) h3 rfl,aJ (s:=p9) h3 rfl,aJ (s:=yV) h3 rfl,aJ (s:=Al) h3 rfl,aJ (s:=Am) h3 rfl,aJ (s:=nP) h3 rfl,gY (s:=Ml) h3 rfl,aM,iF,iT,h3];refine bv (h5.ga ha ((Fz c).up Om)) ?_;simp only[abV,hs,iT];exact cf
 | _=>exact absurd (by simp[Nd.kind]) hk
end
section
variable {ts:List PT} {f:Nat}
theorem qm{d i j:Nat}:bt ts (dW d) i j↔i=j:=by
 have:=amA (ts:=ts) (d:=d) (r:= []) (i:=i) (j:=j);rw[cn] at this;exact this
theorem abW{j:Nat}(h:(ah ts j).kind≠8):nE ts j:=λs hs=>Ao (by
 simp only[jw,zt,or_false] at hs;rcases hs with rfl | rfl | rfl | rfl<;>exact h)
theorem am8{l:List Nd}:An 0 (aK l)=0:=by cases l<;>simp[aK,An,kX]
theorem abX{j:Nat}(c:ah ts j=⟨3,0,[]⟩) : ∀ {l:List Nd} {i:Nat} {acc:List Nd},l≠ []->Nf ts l i j->(∀n∈l,lY n)->Ev (λf=>gr ts f (.a9 (aK acc)) i) (.ok ([nd 1 0 (aK (acc++l))],j+1))
 | n::l,i,acc,_,⟨k,h1,h2⟩,g=>by
   obtain⟨u,o⟩:=h1 (g n s0);have b : ∀n∈l,lY n:=λm t=>g m (by simp[t]);refine ba ?_;simp only[gr];match l,h2,b with
   | [],h2,_=>
     obtain rfl:k=j:=h2;refine bv (o (abW (by rw[c];decide))) ?_;have e:aK acc++ [nl n]=aK (acc++ [n]):=by rw[AG];rfl
     simp only[c,iT,e,am8];exact cf
   | m::l,⟨k',h3,h4⟩,b=>
     obtain⟨q,_⟩:=h3 (b m s0);refine bv (o q.2) ?_;have e:aK acc++ [nl n]=aK (acc++ [n]):=by rw[AG];rfl
     rw[e];refine vN (by have:=q.1;omega) ?_;have:=abX c (acc:=acc++ [n]) (l:=m::l) s0 ⟨k',h3,h4⟩ b;simpa only[aG,aS,a6] using this
theorem am9(ih:mr ts f){l:List Nd}{d i j:Nat}(b:SR.me (.a9 l)<f+1)(h:bt ts (pp (f+1) (.a9 l) d) i j):Rd ts (.a9 l) i j:=by
 rcases l with _ | ⟨n,l⟩
 ·exact h
 simp only[pp,eg] at h;obtain⟨k,h1,h2⟩:=h;simp only[SR.me,aq,aL] at b;exact⟨k,ih (.stmt n) d _ _ Mt h1,ih (.a9 l) d _ _ Mt h2⟩
theorem am'(ih:mr ts f){n:Nd}{d i j:Nat}(b:SR.me (.block n)<f+1)(h:bt ts (pp (f+1) (.block n) d) i j):Rd ts (.block n) i j:=by
 rintro⟨l,ks,rfl,av,br⟩;simp only[pp,am,aG,aS,a6,eg,bt] at h;obtain⟨h1,h2,h3,k,h4,h5,rfl⟩:=h;have c:=ih (.a9 ks) (d+1) _ _ (by simp only[SR.me,am] at b⊢;omega) h4;refine⟨h1,ba ?_⟩;simp only[gr];refine IV (by rw[h2]) (xg (by rw[h3]) ?_);exact abX h5 (acc:= []) av c br
theorem ana(ih:mr ts f){n:Nd}{d i j:Nat}(e:SR.me (.stmt n)<f+1)(h:bt ts (pp (f+1) (.stmt n) d) i j):Rd ts (.stmt n) i j:=by
 intro ho;have key : ¬(n.kind=5\/n.kind=15\/n.kind=6\/n.kind=7\/n.kind=8\/n.kind=9\/n.kind=16)->I0 ts i/\(nE ts j->Ga ts .stmt i (nl n) j):=by
  intro hk;simp only[pp,iN (show ¬n.kind=5 by omega),iN (show ¬n.kind=15 by omega),iN (show ¬(n.kind=6\/n.kind=7\/n.kind=8\/n.kind=9\/n.kind=16) by omega),aG,aS,a6,eg,bt,qm,exists_eq_left'] at h;obtain⟨k,h1,h2,rfl⟩:=h;obtain⟨c,b,o⟩:=ih (.simple n) d _ _ (by simp only[SR.me] at e⊢;omega) h1 hk ho;refine⟨c,λ_=>ba ?_⟩;simp only[gr,b lj de,b tQ de,b jQ de,b wX de,b wY de,b Cb de,b Cc de,aM,iF];exact bv (o h2) (xg (by rw[h2]) cf)
 by_cases h5:n.kind=5
 ·simp only[pp,h5,iT] at h;obtain⟨c,b⟩:=ih (.ifs [105,102,32] n) d _ _ (by simp only[SR.me] at e⊢;omega) h ho h5;replace c:ah ts i=⟨8,0,lj⟩:=c;refine⟨mu c de,λq=>ba ?_⟩;simp only[gr,oO (s:=lj) c rfl,iT,c];exact b q
 by_cases g:n.kind=15
 ·simp only[pp,g,Nat.reduceEqDiff,iT,iF] at h;exact ih (.tries n) d _ _ (by simp only[SR.me] at e⊢;omega) h g ho
 by_cases hh:n.kind=6\/n.kind=7\/n.kind=8\/n.kind=9\/n.kind=16
 ·simp only[pp,iN h5,iN g,iP hh] at h;exact ih (.head n) d _ _ (by simp only[SR.me] at e⊢;omega) h hh ho
 exact key Om
theorem anb(ih:mr ts f){n:Nd}{s:List UInt8}{d i j:Nat}(o:SR.me (.ifs s n)<f+1)(h:bt ts (pp (f+1) (.ifs s n) d) i j):Rd ts (.ifs s n) i j:=by
 intro ho hk;have A : ∀ {t:List UInt8} {r:List Pc} {i j:Nat},bt ts (Pc.tk 8 (if t= [105,102,32] then [105,102] else [101,108,105,102])::r) i j↔ah ts i=⟨8,0,if t= [105,102,32] then lj else sU⟩/\bt ts r (i+1) j:=λ{t r i j}=>by split<;>rfl
 cases ud ho with
 | Nn ha hb=>
   rename_i l a b;simp only[SR.me,am,aq,aL] at o;simp only[pp,am,wd,aG,aS,a6,cn,eg,A,bt,qm,exists_eq_left'] at h;obtain⟨h1,k,h2,h3⟩:=h;have u:=ih (.at a 0) d _ _ Mt h2 Om;obtain⟨g,v⟩:=ih (.block b) d _ _ Mt h3 hb;refine⟨h1,λq=>ba ?_⟩;simp only[gr];refine bv (u.ga ha (cX 0 g rfl)) (iY (cT g rfl) (bv v ?_));simp only[q sU de,q wV de,aM,iF];exact cf
 | Np ha hb he=>
   rename_i l a b e;obtain⟨le,es,rfl,av,w⟩:=he;simp only[SR.me,am,aq,aL] at o;have key : ∀c,bt ts (dW d++ [wd [101,108,115,101]]++pp f (.block (.mk 1 le [] 0 es)) d) c j->ai ts c sU=false/\ai ts c wV=true/\ai ts (c+1) gh=true/\Ga ts .block (c+1+1) (nl (.mk 1 le [] 0 es)) j:=by
    intro c h;simp only[wd,aG,aS,a6,eg,bt,qm,exists_eq_left'] at h;obtain⟨h1,h2⟩:=h;obtain⟨g,v⟩:=ih (.block (.mk 1 le [] 0 es)) d _ _ (by simp only[SR.me,am];omega) h2 ⟨le,es,rfl,av,w⟩;exact⟨aJ h1 rfl,gY h1 rfl,cT g rfl,v⟩
   have step : ∀X:List Pc,bt ts (dW d++ [wd (if s= [105,102,32] then [105,102] else [101,108,105,102]), .sp]++pp f (.at a 0) d++pp f (.block b) d++X) i j->ah ts i=⟨8,0,if s= [105,102,32] then lj else sU⟩/\∃c,bt ts X c j/\∀r,Ev (λf=>if ai ts c sU=true then bu (gr ts f (.ifs (ah ts c).line) (c+1)) λx i4=>bI (nd 5 0 [nl a,nl b,nd 1 (ah ts c).line [x]]) i4 else if ai ts c wV=true then eX ts gh (c+1) λi4=>bu (gr ts f .block i4) λe i5=>bI (nd 5 0 [nl a,nl b,e]) i5 else bI (nd 5 0 [nl a,nl b]) c) r->Ev (λf=>gr ts f (.ifs 0) (i+1)) r:=by
    intro X h;simp only[wd,aG,aS,a6,cn,eg,A,bt,qm,exists_eq_left'] at h;obtain⟨h1,k,h2,c,h3,h4⟩:=h;have u:=ih (.at a 0) d _ _ Mt h2 Om;obtain⟨g,v⟩:=ih (.block b) d _ _ Mt h3 hb;refine⟨h1,c,h4,λr B=>ba ?_⟩;simp only[gr];exact bv (u.ga ha (cX 0 g rfl)) (iY (cT g rfl) (bv v B))
   have fin : ∀c,(ai ts c sU=false/\ai ts c wV=true/\ai ts (c+1) gh=true/\Ga ts .block (c+1+1) (nl (.mk 1 le [] 0 es)) j)->Ev (λf=>if ai ts c sU=true then bu (gr ts f (.ifs (ah ts c).line) (c+1)) λx i4=>bI (nd 5 0 [nl a,nl b,nd 1 (ah ts c).line [x]]) i4 else if ai ts c wV=true then eX ts gh (c+1) λi4=>bu (gr ts f .block i4) λe i5=>bI (nd 5 0 [nl a,nl b,e]) i5 else bI (nd 5 0 [nl a,nl b]) c) (.ok ([nl (.mk 5 l [] 0 [a,b, .mk 1 le [] 0 es])],j)):=by
    rintro c ⟨h1,h2,h3,h4⟩;simp only[h1,h2,aM,iF,iT];exact iY h3 (bv h4 cf)
   match es,av,w,o,h,key,fin with
   | [x],_,w,o,h,key,fin=>
     simp only[pp,am] at h;by_cases hx:x.kind=5
     ·simp only[hx,iT] at h;obtain⟨h1,c,h2,h3⟩:=step _ h;refine⟨h1,λq=>h3 _ ?_⟩;obtain⟨z,u⟩:=ih (.ifs [101,108,105,102,32] x) d _ _ (by simp only[SR.me,aq,aL] at o⊢;omega) h2 (w x s0) hx;replace z:ah ts c=⟨8,0,sU⟩:=z;simp only[oO (s:=sU) z rfl,iT,z];exact bv (u q) cf
     simp only[hx,iF] at h;obtain⟨h1,c,h2,h3⟩:=step _ h;exact⟨h1,λq=>h3 _ (fin c (key c h2))⟩
   | x::y::es,_,w,o,h,key,fin=>
     simp only[pp,am] at h;obtain⟨h1,c,h2,h3⟩:=step _ h;exact⟨h1,λq=>h3 _ (fin c (key c h2))⟩
 | ti h | tj h _ | tm h | tn h _ _=>simp only[aE] at hk;omega
 | _=>simp[Nd.kind] at hk
end
section
variable {ts:List PT} {f:Nat}
theorem ane(ih:mr ts f){l:List Nd}{d i j:Nat}(u:SR.me (.cR l)<f+1)(h:bt ts (pp (f+1) (.cR l) d) i j):Rd ts (.cR l) i j:=by
 rcases l with _ | ⟨c,l⟩
 ·exactλ_=>h
 intro hl;have g : ∀n∈l,vO n\/okF n:=λn hn=>hl n (by simp[hn]);have o:=u;simp only[SR.me,aq,aL] at o;rcases hl c s0 with (⟨ln,b,rfl,hb⟩ | ⟨ln,x,e,b,rfl,hx,he,hb⟩) | ⟨ln,b,rfl,hb⟩
 ·simp only[am,aq,aL] at o;simp only[pp,aE,am,dz,Nat.reduceEqDiff,iT,iF,gT,aG,aS,a6,cn,eg,bt,qm,exists_eq_left',wd] at h;obtain⟨h1,k,h2,h3⟩:=h;exact⟨k, .bare h1 (ih (.block b) d _ _ Mt h2),ih (.cR l) d _ _ Mt h3 g⟩
 ·simp only[am,aq,aL] at o;have t : [e,b].getLast? = some b:=rfl;by_cases q:x= []
  ·subst q;simp only[pp,aE,am,dz,Nat.reduceEqDiff,iT,iF,t,aG,aS,a6,cn,eg,bt,qm,exists_eq_left',wd] at h;obtain⟨h1,k1,h2,k,h3,h4⟩:=h;exact⟨k, .one h1 (ih (.at e 0) d _ _ Mt h2 Om) (ih (.block b) d _ _ Mt h3),ih (.cR l) d _ _ Mt h4 g⟩
  simp only[pp,aE,am,dz,Nat.reduceEqDiff,q,iT,iF,t,aG,aS,a6,cn,eg,bt,qm,exists_eq_left',wd] at h;obtain⟨h1,k1,h2,h3,h4,k,h5,v⟩:=h;exact⟨k, .asx q h1 (ih (.at e 0) d _ _ Mt h2 Om) h3 h4 (ih (.block b) d _ _ Mt h5),ih (.cR l) d _ _ Mt v g⟩
 simp only[am,aq,aL] at o;simp only[pp,aE,am,dz,Nat.reduceEqDiff,iT,iF,gT,aG,aS,a6,cn,eg,bt,qm,exists_eq_left',wd] at h;obtain⟨h1,k,h2,h3⟩:=h;exact⟨k, .fin h1 (ih (.block b) d _ _ Mt h2),ih (.cR l) d _ _ Mt h3 g⟩
theorem abY : ∀ {h t:List Nd} {i j:Nat} {acc:List Nd},Ng ts (h++t) i j->(∀n∈h,vO n)->(∀n∈h.dropLast,n.kids.length=2)->(t= []\/∃y,t= [y]/\okF y)->nE ts j->∃k,Ng ts t k j/\Ev (λf=>gr ts f (.lT acc) i) (.ok (acc++aK h,k))/\(t= []->k=j)
 | [],t,i,j,acc,h,_,_,ht,v=>by
   refine⟨i,h,ba ?_,?_⟩
   ·have h1:ai ts i rU=false:=by
     rcases ht with rfl | ⟨y,rfl,l,b,rfl,hb⟩
     ·obtain rfl:i=j:=h;exact v rU de
     obtain⟨k,h1,_⟩:=h;cases h1 with
     | fin h _=>exact aJ h rfl
    simp only[gr,h1,aM,iF,aK,cn];exact Fu
   rintro rfl;exact h
 | c::h,t,i,j,acc,⟨k,h1,h2⟩,hh,hd,ht,v=>by
   have hc:=hh c s0;have w : ∀n∈h,vO n:=λn hn=>hh n (by simp[hn]);rcases hc with ⟨ln,b,rfl,hb⟩ | ⟨ln,x,e,b,rfl,hx,he,hb⟩
   ·have hn:h= []:=by
     rcases h with _ | ⟨A,h⟩
     ·rfl
     have:=hd (.mk 21 ln [] 0 [b]) s0;simp[Nd.kids] at this
    subst hn;refine⟨k,h2,ba ?_,?_⟩
    ·cases h1 with
     | bare h o=>
       obtain⟨g,q⟩:=o hb;simp only[gr,oO (s:=rU) h rfl,cT (s:=gh) g rfl,iT,h];exact bv q Fu
    rintro rfl;exact h2
   have B : ∀n∈h.dropLast,n.kids.length=2:=λn hn=>by
    rcases h with _ | ⟨A,h⟩
    ·cases hn
    exact hd n (by simp at hn⊢;exact .inr hn)
   obtain⟨k',C,r2,D⟩:=abY (acc:=acc++ [nl (.mk 21 ln x 0 [e,b])]) h2 w B ht v;refine⟨k',C,?_,D⟩;have z:Ev (λf=>gr ts f (.lT (acc++ [nl (.mk 21 ln x 0 [e,b])])) k) (.ok (acc++aK (.mk 21 ln x 0 [e,b]::h),k')):=by
    simpa only[aG,xA,aK] using r2
   refine ba ?_;cases h1 with
   | one h3 u o=>
     obtain⟨g,q⟩:=o hb;simp only[gr,oO (s:=rU) h3 rfl,(u.fs he).no (s:=gh) de,aM,iF,iT,h3];refine bv (u.ga he (cX 0 g rfl)) ?_;simp only[aJ (s:=B') g rfl,aM,iF];exact iY (cT g rfl) (bv q z)
   | asx E h3 u ha hn o=>
     obtain⟨g,q⟩:=o hb;simp only[gr,oO (s:=rU) h3 rfl,(u.fs he).no (s:=gh) de,aM,iF,iT,h3];refine bv (u.ga he (cX 0 ha rfl)) ?_;simp only[oO (s:=B') ha rfl,iT];refine xg (by rw[hn]) ?_;simp only[hn];exact iY (cT g rfl) (bv q z)
theorem anf(ih:mr ts f){n:Nd}{d i j:Nat}(hm:SR.me (.tries n)<f+1)(h:bt ts (pp (f+1) (.tries n) d) i j):Rd ts (.tries n) i j:=by
 intro hk ho;cases ud ho with
 | tr hb hh hd ht hn=>
   rename_i l b h' t;simp only[SR.me,am,aq,aL] at hm;simp only[pp,am,wd,aG,aS,a6,cn,eg,bt,qm,exists_eq_left'] at h;obtain⟨h1,k,h2,h3⟩:=h;obtain⟨q,u⟩:=ih (.block b) d _ _ Mt h2 hb;have v : ∀n∈h'++t,vO n\/okF n:=λn hm=>by
    rcases List.mem_append.1 hm with hm | hm
    ·exact .inl (hh n hm)
    rcases ht with rfl | ⟨y,rfl,w⟩
    ·cases hm
    rw[List.mem_singleton.1 hm];exact .inr w
   have x:=ih (.cR (h'++t)) d _ _ Mt h3 v;refine⟨mu h1 de,λg=>ba ?_⟩;simp only[gr,aJ (s:=lj) h1 rfl,aJ (s:=tQ) h1 rfl,aJ (s:=jQ) h1 rfl,aJ (s:=wX) h1 rfl,aJ (s:=wY) h1 rfl,gY (s:=Cb) h1 rfl,aM,iF,iT,h1];refine ba ?_;simp only[gr];refine iY (cT q rfl) (bv u ?_);obtain⟨k',z,r2,A⟩:=abY (acc:= [nl b]) x hh hd ht g;refine AE r2 (ba ?_);rcases ht with rfl | ⟨y,rfl,l',b',rfl,B⟩
   ·obtain rfl:=A rfl;have c : ¬([nl b]++aK h').length=1:=by
     rw[cn] at hn;cases h' with
     | nil=>exact absurd rfl hn
     | cons _ _=>simp[aK]
    simp only[gr,g Ca de,aM,iF,c,cn];exact cf
   obtain⟨C,D,E⟩:=z;obtain rfl:C=j:=E;cases D with
   | fin o F=>
     obtain⟨G,H⟩:=F B;simp only[gr,oO (s:=Ca) o rfl,iT,o];refine iY (cT G rfl) (bv H ?_);have e:nl (.mk 15 l [] 0 (b::(h'++ [.mk 22 l' [] 0 [b']])))=nd 15 0 (([nl b]++aK h')++ [nd 22 0 [nl b']]):=by
      simp only[nl,aK,AG,aS,a6]
     rw[e];exact cf
 | ti h | tj h _ | tm h | tn h _ _=>simp only[aE] at hk;omega
 | _=>simp[Nd.kind] at hk
end
section
variable {ts:List PT} {f:Nat}
theorem ang(ih:mr ts f){n:Nd}{d i j:Nat}(w:SR.me (.head n)<f+1)(h:bt ts (pp (f+1) (.head n) d) i j):Rd ts (.head n) i j:=by
 intro hk ho;cases ud ho with
 | Nq ha hb=>
   rename_i l a b;simp only[SR.me,am,aq,aL] at w;simp only[pp,aE,am,dz,Nat.reduceEqDiff,iT,iF,wd,aG,aS,a6,cn,eg,bt,qm,exists_eq_left'] at h;obtain⟨h1,k,h2,h3⟩:=h;have u:=ih (.at a 0) d _ _ Mt h2 Om;obtain⟨o,g⟩:=ih (.block b) d _ _ Mt h3 hb;refine⟨mu h1 de,λv=>ba ?_⟩;simp only[gr,aJ (s:=lj) h1 rfl,gY (s:=tQ) h1 rfl,aM,iF,iT,h1];exact bv (u.ga ha (cX 0 o rfl)) (iY (cT o rfl) (bv g cf))
 | fr ha hp hb hc=>
   rename_i l a b c;simp only[SR.me,am,aq,aL] at w;simp only[pp,aE,am,dz,Nat.reduceEqDiff,iT,iF,wd,aG,aS,a6,cn,eg,bt,qm,exists_eq_left'] at h;obtain⟨h1,k,h2,h3,k',h4,h5⟩:=h;have u:=ih (.at a 9) d _ _ Mt h2 Om;have g:=ih (.at b 0) d _ _ Mt h4 Om;obtain⟨z,q⟩:=ih (.block c) d _ _ Mt h5 hc;refine⟨mu h1 de,λv=>ba ?_⟩;simp only[gr,aJ (s:=lj) h1 rfl,aJ (s:=tQ) h1 rfl,gY (s:=jQ) h1 rfl,aM,iF,iT,h1];exact bv (abL u ha hp (cX 9 h3 rfl) (aJ h3 rfl)) (iY (oO h3 rfl) (bv (CI g hb (cX 0 z rfl) (aJ z rfl)) (iY (cT z rfl) (bv q cf))))
 | df hx hp hb=>
   rename_i l x l' ps b;simp only[SR.me,am,aq,aL] at w;simp only[pp,aE,am,dz,Nat.reduceEqDiff,iT,iF,wd,aG,aS,a6,cn,eg,bt,qm,exists_eq_left'] at h;obtain⟨h1,h2,h3,k,h4,h5,t⟩:=h;have g:=ih (.bc false ps) d _ _ Mt h4;obtain⟨q,y⟩:=ih (.block b) d _ _ Mt t hb;refine⟨mu h1 de,λv=>ba ?_⟩;simp only[gr,aJ (s:=lj) h1 rfl,aJ (s:=tQ) h1 rfl,aJ (s:=jQ) h1 rfl,gY (s:=wX) h1 rfl,aM,iF,iT,h1];refine xg (by rw[h2];rfl) ?_;simp only[h2];refine iY (cT h3 rfl) (bv (SU (acc:= []) (cl:=oA) (cT h5 rfl) (aJ h5 rfl) g hp) (iY (cT h5 rfl) (iY (cT q rfl) (bv y cf))))
 | cls hx hp hb=>
   rename_i l x l' ps b;simp only[SR.me,am,aq,aL] at w;by_cases hl:0<ps.length
   ·simp only[pp,aE,am,dz,Nat.reduceEqDiff,hl,iT,iF,wd,aG,aS,a6,cn,eg,bt,qm,exists_eq_left'] at h;obtain⟨h1,h2,h3,k,h4,h5,t⟩:=h;have g:=ih (.bc false ps) d _ _ Mt h4;obtain⟨q,y⟩:=ih (.block b) d _ _ Mt t hb;refine⟨mu h1 de,λv=>ba ?_⟩;simp only[gr,aJ (s:=lj) h1 rfl,aJ (s:=tQ) h1 rfl,aJ (s:=jQ) h1 rfl,aJ (s:=wX) h1 rfl,gY (s:=wY) h1 rfl,aM,iF,iT,h1];refine xg (by rw[h2];rfl) ?_;simp only[h2,cT (s:=lq) h3 rfl,iT];refine AE (IZ (acc:= []) (cl:=oA) (cT h5 rfl) de (cX 0 h5 rfl) (aJ h5 rfl) g hp) ?_;exact iY (cT h5 rfl) (iY (cT q rfl) (bv y cf))
   obtain rfl:ps= []:=by cases ps with
    | nil=>rfl
    | cons _ _=>simp at hl
   simp only[pp,aE,am,dz,Nat.reduceEqDiff,hl,iT,iF,wd,aG,aS,a6,cn,eg,bt,qm,exists_eq_left'] at h;obtain⟨h1,h2,t⟩:=h;obtain⟨q,y⟩:=ih (.block b) d _ _ Mt t hb;refine⟨mu h1 de,λv=>ba ?_⟩;simp only[gr,aJ (s:=lj) h1 rfl,aJ (s:=tQ) h1 rfl,aJ (s:=jQ) h1 rfl,aJ (s:=wX) h1 rfl,gY (s:=wY) h1 rfl,aM,iF,iT,h1];refine xg (by rw[h2];rfl) ?_;simp only[h2,aJ (s:=lq) q rfl,aM,iF];exact iY (cT q rfl) (bv y cf)
 | Nr hx he hb=>
   rename_i l x e b;simp only[SR.me,am,aq,aL] at w;by_cases A:x= []
   ·subst A;simp only[pp,aE,am,dz,Nat.reduceEqDiff,iT,iF,wd,aG,aS,a6,cn,eg,bt,qm,exists_eq_left'] at h;obtain⟨h1,k,h2,h3⟩:=h;have u:=ih (.at e 0) d _ _ Mt h2 Om;obtain⟨o,g⟩:=ih (.block b) d _ _ Mt h3 hb;refine⟨mu h1 de,λv=>ba ?_⟩;simp only[gr,aJ (s:=lj) h1 rfl,aJ (s:=tQ) h1 rfl,aJ (s:=jQ) h1 rfl,aJ (s:=wX) h1 rfl,aJ (s:=wY) h1 rfl,aJ (s:=Cb) h1 rfl,gY (s:=Cc) h1 rfl,aM,iF,iT,h1];refine bv (u.ga he (cX 0 o rfl)) ?_;simp only[aJ (s:=B') o rfl,aM,iF];exact iY (cT o rfl) (bv g cf)
   simp only[pp,aE,am,dz,Nat.reduceEqDiff,A,iT,iF,wd,aG,aS,a6,cn,eg,bt,qm,exists_eq_left'] at h;obtain⟨h1,k,h2,h5,t,h3⟩:=h;have u:=ih (.at e 0) d _ _ Mt h2 Om;obtain⟨o,g⟩:=ih (.block b) d _ _ Mt h3 hb;refine⟨mu h1 de,λv=>ba ?_⟩;simp only[gr,aJ (s:=lj) h1 rfl,aJ (s:=tQ) h1 rfl,aJ (s:=jQ) h1 rfl,aJ (s:=wX) h1 rfl,aJ (s:=wY) h1 rfl,aJ (s:=Cb) h1 rfl,gY (s:=Cc) h1 rfl,aM,iF,iT,h1];refine bv (u.ga he (cX 0 h5 rfl)) ?_;simp only[oO (s:=B') h5 rfl,iT];refine xg (by rw[t];rfl) ?_;simp only[t];exact iY (cT o rfl) (bv g cf)
 | ti h | tj h _ | tm h | tn h _ _=>simp only[aE] at hk;omega
 | _=>simp[Nd.kind] at hk
theorem abZ : ∀f,mr ts f
 | 0=>λr d i j c _=>absurd c (su _)
 | f+1=>λr d i j c h=>by
   have ih:=abZ f;cases r;case «at» n a=>exact amH ih c h
   case expr n=>exact amJ ih c h
   case bc b l=>exact amK ih c h
   case two n l s r=>exact amN ih c h
   case clauses l=>exact amO ih c h
   case bO b l=>exact amM ih c h
   case shown n=>exact amY ih c h
   case dC n=>exact amT ih c h
   case dK n=>exact am1 ih c h
   case cW l=>exact amP ih c h
   case maybe s n=>exact amI ih c h
   case block n=>exact am' ih c h
   case a9 l=>exact am9 ih c h
   case ifs s n=>exact anb ih c h
   case tries n=>exact anf ih c h
   case cR l=>exact ane ih c h
   case stmt n=>exact ana ih c h
   case head n=>exact ang ih c h
   case bF b l=>exact amL ih c h
   case simple n=>exact am7 ih c h
theorem ab0{j:Nat}(c:(ah ts j).kind=0) : ∀ {l:List Nd} {i:Nat} {acc:List Nd},Nf ts l i j->(∀n∈l,lY n)->Ev (λf=>gr ts f (.top acc) i) (.ok (acc++aK l,j))
 | [],i,acc,h,_=>by
   obtain rfl:i=j:=h;refine ba ?_;simp only[gr,c,iT,aK,cn];exact Fu
 | n::l,i,acc,⟨k,h1,h2⟩,g=>by
   obtain⟨e,o⟩:=h1 (g n s0);have b : ∀n∈l,lY n:=λm q=>g m (by simp[q]);have hk:nE ts k:=by
    match l,h2,b with
    | [],h2,_=>
      obtain rfl:k=j:=h2;exact abW (by rw[c];decide)
    | m::l,⟨k',h3,h4⟩,b=>exact(h3 (b m s0)).1.2
   refine ba ?_;simp only[gr];refine vN (by have:=e.1;omega) (bv (o hk) ?_);have:=ab0 c (acc:=acc++ [nl n]) h2 b;simpa only[aG,xA,aK] using this
theorem anh{F:Nat}{l:List Nd}{d j:Nat}(b:16*aq l<F)(hl : ∀n∈l,lY n)(h:bt ts (pp F (.a9 l) d) 0 j)(c:(ah ts j).kind=0):Ev (λf=>gr ts f (.top []) 0) (.ok (aK l,j)):=
 ab0 (acc:= []) c (abZ F (.a9 l) d 0 j b h) hl
end
def PT.z (t:PT):PT:=⟨t.kind,0,t.text⟩
def prz:PR->PR
 | some (.ok (l,j))=>some (.ok (aK l,j))
 | some (.error e)=>some (.error e)
 | none=>none
def NT.z:NT->NT
 | .params c l acc=> .params c 0 (aK acc)
 | .row c acc=> .row c (aK acc)
 | .qc l acc=> .qc 0 (aK acc)
 | .tR n=> .tR (nl n) | .tS n=> .tS (nl n) | .jR n acc=> .jR (nl n) (aK acc) | .sW n=> .sW (nl n) | .qP n=> .qP (nl n) | .rV n=> .rV (nl n) | .index n=> .index (nl n)
 | .clauses acc=> .clauses (aK acc)
 | .list l=> .list 0 | .qQ l=> .qQ 0 | .rW l acc=> .rW 0 (aK acc)
 | .placesL l acc=> .placesL 0 (aK acc)
 | .names k l acc=> .names k 0 (aK acc)
 | .maybe k l all=> .maybe k 0 all
 | .jp l acc=> .jp 0 (aK acc)
 | .a9 acc=> .a9 (aK acc)
 | .ifs l=> .ifs 0 | .tries l=> .tries 0 | .lT acc=> .lT (aK acc) | .nR l acc=> .nR 0 (aK acc)
 | .top acc=> .top (aK acc)
 | a=>a
def Rz (r r':PR):Prop:=r'=prz r
theorem Ns(ts:List PT)(i:Nat):ah (ts.map PT.z) i=(ah ts i).z:=by
 unfold ah;rw[List.getElem?_map,List.getLast?_map];cases ts[i]? with
 | some t=>rfl
 | none=>cases ts.getLast?<;>rfl
theorem FA(ts:List PT)(i:Nat)(s:List UInt8):ai (ts.map PT.z) i s=ai ts i s:=by
 unfold ai;rw[Ns];rfl
theorem Td(ts:List PT)(i:Nat):(ah (ts.map PT.z) i).kind=(ah ts i).kind:=by rw[Ns];rfl
theorem ab1(ts:List PT)(i:Nat):(ah (ts.map PT.z) i).text=(ah ts i).text:=by rw[Ns];rfl
theorem ab2(ts:List PT)(i:Nat):(ah (ts.map PT.z) i).line=0:=by rw[Ns];rfl
theorem ani(ts:List PT)(i:Nat):eB (ts.map PT.z) i=eB ts i:=by unfold eB;simp only[FA]
theorem anj(ts:List PT)(i:Nat):fm (ts.map PT.z) i=fm ts i:=by unfold fm;simp only[FA]
theorem ab3(ts:List PT)(i:Nat):iR (ts.map PT.z) i=iR ts i:=by unfold iR;simp only[FA,Td]
theorem ank(n:Nd):nQ (nl n)=nQ n:=by unfold nQ;rw[jV]
theorem ab4 : ∀l:List Nd,An 0 (aK l)=0
 | []=>rfl
 | n::_=>kX n
theorem anl(l:List Nd):(aK l).isEmpty=l.isEmpty:=by cases l<;>rfl
theorem ab5 : ∀l:List Nd,(aK l).getLast? = l.getLast?.map nl
 | []=>rfl
 | [_]=>rfl
 | a::b::l=>by
   have:=ab5 (b::l);simp only[aK,iu] at this⊢;exact this
theorem ab6{r r':PR}{k k':List Nd->Nat->PR}(h:Rz r r')(hk : ∀l j,Rz (k l j) (k' (aK l) j)):Rz (pb r k) (pb r' k'):=by
 unfold Rz at h;subst h;match r with
 | none=>rfl
 | some (.error e)=>rfl
 | some (.ok (l,j))=>exact hk l j
theorem Nt{r r':PR}{k k':Nd->Nat->PR}(h:Rz r r')(hk : ∀t j,Rz (k t j) (k' (nl t) j)):Rz (bu r k) (bu r' k'):=ab6 h λl j=>by
 match l with
 | []=>exact rfl
 | [t]=>exact hk t j
 | _::_::_=>exact rfl
theorem CK{c:Prop}[Decidable c]{a b a' b':PR}(h1:Rz a a')(h2:Rz b b'):Rz (if c then a else b) (if c then a' else b'):=by
 split;·exact h1
 exact h2
theorem anm{ts:List PT}{s:List UInt8}{i:Nat}{k k':Nat->PR}(hk : ∀j,Rz (k j) (k' j)):Rz (eX ts s i k) (eX (ts.map PT.z) s i k'):=by
 unfold eX;rw[FA];exact CK (hk _) rfl
theorem ann{ts:List PT}{kd:Int}{i:Nat}{k k':List UInt8->Nat->PR}(hk : ∀s j,Rz (k s j) (k' s j)):Rz (jo ts kd i k) (jo (ts.map PT.z) kd i k'):=by
 unfold jo;rw[Td,ab1];exact CK (hk _ _) rfl
theorem FB{n n':Nd}{i:Nat}(h:n'=nl n):Rz (bI n i) (bI n' i):=by subst h;rfl
theorem ano{l l':List Nd}{i:Nat}(h:l'=aK l):Rz (some (.ok (l,i))) (some (.ok (l',i))):=by subst h;rfl
theorem Te{e:Nat}:Rz (some (.error e)) (some (.error e)):=rfl
theorem ab7(ts:List PT) : ∀f a i,Rz (gr ts f a i) (gr (ts.map PT.z) f a.z i)
 | 0,a,i=>rfl
 | f+1,a,i=>by
   have ih : ∀a b i,b=a.z->Rz (gr ts f a i) (gr (ts.map PT.z) f b i):=λa b i e=>by rw[e];exact ab7 ts f a i
   cases a;case jR n b=>
    simp only[gr,NT.z,ani,anl,ab2,kX];split;·exact Te
    ·exact FB (by split<;>simp only[nl,aK])
    refine Nt (ih _ _ _ rfl) λ_ _=>ih _ _ _ ?_;simp only[NT.z,AG,nl,aK]
   case jp a b=>
    simp only[gr,NT.z,ab5,FA];cases b.getLast? with
    | none=>exact CK rfl (FB (by simp only[nl,aK]))
    | some t=>
      simp only[Option.map_some,Fx];refine CK (CK (Nt (ih _ _ _ rfl) λ_ _=>ih _ _ _ ?_) Te) (FB ?_);all_goals simp only[NT.z,AG,nl,aK]
   case maybe k l all=>
    cases all<;>simp only[gr,NT.z,ab3,aM,iF,iT];all_goals exact CK (Nt (ih _ _ _ rfl) λ_ _=>FB (by simp only[nl,aK])) (FB (by simp only[nl,aK]))
   all_goals simp only[gr,NT.z,FA,Td,ab1,ab2,anj,ab3]
   all_goals repeat' first
    | (with_reducible exact Te)
    | (with_reducible refine CK ?_ ?_)
    | (with_reducible refine anm λ_=> ?_)
    | (with_reducible refine ann λ_ _=> ?_)
    | (with_reducible refine Nt (ih _ _ _ ?_) λ_ _=> ?_)
    | (with_reducible refine ab6 (ih _ _ _ ?_) λ_ _=> ?_)
    | (with_reducible refine FB ?_)
    | (with_reducible refine ano ?_)
    | (with_reducible refine ih _ _ _ ?_)
    | (simp only[ank,Fx,jG])
   all_goals first | rfl | (have e : ∀(l:List Nd) (n:Nd),aK l++ [nl n]=aK (l++ [n]):=λl n=>(by rw[AG];rfl)
                            simp only[e,nl,aK,ab4];done) | (simp only[NT.z,AG,nl,aK,kX,ab4,aG];done) | skip
theorem ab8{l:List UInt8}{k n:Nat}{x:List UInt8}(h:fq l=some (k,x,n)):4<=k:=by
 unfold fq at h;split at h;·cases h;split<;>decide
 split at h
 ·split at h;·cases h
  cases h;unfold dy;split<;>decide
 split at h
 ·cases hs:l8 (hd l) (l.drop 1) with
  | none=>rw[hs] at h;cases h
  | some y=>rw[hs] at h;cases h;decide
 cases hs:lH l with
 | none=>rw[hs] at h;cases h
 | some y=>rw[hs] at h;cases h;decide
theorem ab9{line:Nat} : ∀ {f:Nat} {t:List UInt8} {d d':Nat} {x:List da},je line f t d=some (x,d')->(∀y∈x,4<=y.kind)/\(¬t.length<=cq t->x≠ [])
 | 0,_,_,_,_,h=>by cases h
 | f+1,t,d,d',x,h=>by
   simp only[je] at h;split at h;·rename_i hb;cases h;exact⟨λy hy=>(by cases hy),λg=>absurd hb g⟩
   cases ht:fq (t.drop (cq t)) with
   | none=>rw[ht] at h;cases h
   | some z=>
     obtain⟨k,y,n⟩:=z;rw[ht] at h;simp only at h;rw[jX] at h;obtain⟨⟨xs,e⟩,h1,h2⟩:=h;cases h2;have ih:=(ab9 h1).1;refine⟨λy hy=> ?_,λ_ g=>by cases g⟩;rcases List.mem_cons.1 hy with rfl | hy
     ·exact ab8 ht
     exact ih y hy
def AI (k:Nat)(x:List UInt8):List UInt8:=if k=7 then al 34::(x++ [al 34,al 32]) else x++ [al 32]
def anp(k:Nat)(x:List UInt8):Prop:=(∀r,fq (AI k x++r)=some (k,x,(AI k x).length-1))/\(∃c u,AI k x=c::u/\c.toNat≠32/\c.toNat≠35)/\∀c∈AI k x,c.toNat≠10
theorem xi{p:Nat->Bool}{y:List UInt8}(hy:p (hd y)=false) : ∀ {x:List UInt8},(∀c∈x,p c.toNat=true)->nW p (x++y)=x.length
 | [],_=>xG (.inr hy)
 | c::x,h=>by
   rw[aS,nW,iP (h c s0),xi hy λa ha=>h a (by simp[ha])];rfl
theorem Tf{p:Nat->Bool}(b:p 0=false) : ∀ {l:List UInt8},(∀c∈l.take (nW p l),p c.toNat=true)/\p (hd (l.drop (nW p l)))=false
 | []=>⟨λc hc=>(by cases hc),b⟩
 | c::r=>by
   obtain⟨h1,h2⟩:=Tf b (l:=r);by_cases hp:p c.toNat=true
   ·rw[nW,iP hp];refine⟨λa ha=> ?_,h2⟩;rcases List.mem_cons.1 ha with rfl | ha
    ·exact hp
    exact h1 a ha
   rw[nW,iN hp];refine⟨λa ha=>(by cases ha),?_⟩;show p c.toNat=false;simpa using hp
theorem zh{x y:List UInt8}(h:x≠ []):hd (x++y)=hd x:=by
 cases x with
 | nil=>exact absurd rfl h
 | cons c r=>rfl
theorem I4{l:List UInt8}{n:Nat}(h:0<n):hd (l.take n)=hd l:=by
 cases l with
 | nil=>simp
 | cons c r=>cases n with
   | zero=>cases h
   | succ n=>rfl
def AJ (x:List UInt8):Prop:=∀c∈x,bA c.toNat=true
def Nu (F:List UInt8):Prop:=F= []\/∃c G,F=c::G/\c.toNat=46/\G≠ []/\AJ G
def Nv (E:List UInt8):Prop:=E= []\/∃c G,(E=c::G\/∃s,(s.toNat=43\/s.toNat=45)/\E=c::s::G)/\c.toNat=101/\G≠ []/\AJ G
theorem I5{l:List UInt8}:AJ (l.take (cp l))/\bA (hd (l.drop (cp l)))=false:=Tf de
theorem AL{l:List UInt8}(h:bA (hd l)=true):l.take (cp l)≠ []/\0<cp l:=by
 cases l with
 | nil=>cases h
 | cons c r=>
   have:cp (c::r)=cp r+1:=by
    show nW bA (c::r)=_;rw[nW,iP (show bA c.toNat=true from h)];rfl
   rw[this];exact⟨s0,Om⟩
theorem ab'(l:List UInt8):Nu (l.take (iJ l))/\(l.take (iJ l)).length=iJ l:=by
 unfold iJ;by_cases h:hd l=46/\bA (hd (l.drop 1))=true
 ·rw[iP h];cases l with
  | nil=>cases h.1
  | cons c r=>
    have b:bA (hd r)=true:=h.2;obtain⟨e,g⟩:=AL b;have k:=uR (l:=r);rw[show 1+cp ((c::r).drop 1)=cp r+1 from C4 _ _,Jy];refine⟨.inr ⟨c,_,rfl,h.1,e,I5.1⟩,?_⟩;simp;omega
 rw[iN h];exact⟨.inl rfl,rfl⟩
theorem aca(l:List UInt8):Nv (l.take (eR l))/\(l.take (eR l)).length=eR l:=by
 unfold eR;by_cases h:hd l=101
 ·rw[iP h];cases l with
  | nil=>cases h
  | cons c r=>
    by_cases h1:bA (hd ((c::r).drop 1))=true
    ·rw[iP h1];have b:bA (hd r)=true:=h1;obtain⟨e,k⟩:=AL b;have o:=uR (l:=r);rw[show 1+cp ((c::r).drop 1)=cp r+1 from C4 _ _,Jy];refine⟨.inr ⟨c,_, .inl rfl,h,e,I5.1⟩,?_⟩;simp;omega
    rw[iN h1];by_cases h2:(hd ((c::r).drop 1)=43\/hd ((c::r).drop 1)=45)/\bA (hd ((c::r).drop 2))=true
    ·rw[iP h2];cases r with
     | nil=>rcases h2.1 with g | g<;>cases g
     | cons s r=>
       have b:bA (hd r)=true:=h2.2;obtain⟨e,k⟩:=AL b;have o:=uR (l:=r);rw[show 2+cp ((c::s::r).drop 2)=cp r+1+1 from by rw[C4];rfl,Jy,Jy];refine⟨.inr ⟨c,_, .inr ⟨s,h2.1,rfl⟩,h,e,I5.1⟩,?_⟩;simp;omega
    rw[iN h2];exact⟨.inl rfl,rfl⟩
 rw[iN h];exact⟨.inl rfl,rfl⟩
theorem anq{D F E r:List UInt8}(z:AJ D)(v:Nu F)(w:Nv E):cp (D++F++E++al 32::r)=D.length/\iJ ((D++F++E++al 32::r).drop D.length)=F.length/\eR ((D++F++E++al 32::r).drop (D.length+F.length))=E.length:=by
 have u:hd (al 32::r)=32:=rfl;have x:hd (E++al 32::r)=32\/hd (E++al 32::r)=101:=by
  rcases w with rfl | ⟨c,G,k | ⟨s,_,k⟩,b,_⟩
  ·exact .inl rfl
  ·rw[k];exact .inr b
  rw[k];exact .inr b
 have y:bA (hd (E++al 32::r))=false:=by rcases x with g | g<;>rw[g]<;>decide
 have f0:bA (hd (F++(E++al 32::r)))=false:=by
  rcases v with rfl | ⟨c,G,rfl,b,_⟩
  ·exact y
  show bA c.toNat=false;rw[b];decide
 have d1:(D++F++E++al 32::r).drop D.length=F++(E++al 32::r):=by
  rw[aG,aG,AY rfl]
 have d2:(D++F++E++al 32::r).drop (D.length+F.length)=E++al 32::r:=by
  rw[aG,AY s0]
 refine⟨?_,?_,?_⟩;·rw[aG,aG];exact xi f0 z
 ·rw[d1];rcases v with rfl | ⟨c,G,rfl,b,o,e⟩
  ·unfold iJ;rw[iN (λg=>by have:=g.1;rcases x with h | h<;>rw[a6,h] at this<;>cases this)];rfl
  have q:hd (G++(E++al 32::r))=hd G:=zh o;have t:bA (hd G)=true:=by cases G with
   | nil=>exact absurd rfl o
   | cons a G=>exact e a s0
  unfold iJ;rw[iP ⟨b,by show bA (hd (G++_))=true;rw[q];exact t⟩];show 1+nW bA (G++_)=_;rw[xi y e];simp;omega
 rw[d2];have sd:bA (hd (al 32::r))=false:=by rw[u];decide
 rcases w with rfl | ⟨c,G,k,b,o,e⟩
 ·unfold eR;rw[iN (by show ¬(32=101);decide)];rfl
 have q:hd (G++al 32::r)=hd G:=zh o;have t:bA (hd G)=true:=by cases G with
  | nil=>exact absurd rfl o
  | cons a G=>exact e a s0
 rcases k with rfl | ⟨s,hs,rfl⟩
 ·unfold eR;rw[iP (show hd (c::G++al 32::r)=101 from b),iP (by show bA (hd (G++_))=true;rw[q];exact t)];show 1+nW bA (G++_)=_;rw[xi sd e];simp;omega
 unfold eR;rw[iP (show hd (c::s::G++al 32::r)=101 from b),iN (by show ¬bA s.toNat=true;rcases hs with g | g<;>rw[g]<;>decide),iP ⟨hs,by show bA (hd (G++_))=true;rw[q];exact t⟩];show 2+nW bA (G++_)=_;rw[xi sd e];simp;omega
theorem anr{D F E:List UInt8}(o:AJ D)(p:Nu F)(q:Nv E) : ∀c∈D++F++E,c.toNat≠10:=by
 have b : ∀n,bA n=true->n≠10:=λn h g=>by subst g;cases h
 intro c hc;rcases List.mem_append.1 hc with hc | hc
 ·rcases List.mem_append.1 hc with hc | hc
  ·exact b _ (o c hc)
  rcases p with rfl | ⟨a,G,rfl,e,_,k⟩
  ·cases hc
  rcases List.mem_cons.1 hc with rfl | hc
  ·rw[e];decide
  exact b _ (k c hc)
 rcases q with rfl | ⟨a,G,t,e,_,k⟩
 ·cases hc
 rcases t with rfl | ⟨s,hs,rfl⟩
 ·rcases List.mem_cons.1 hc with rfl | hc
  ·rw[e];decide
  exact b _ (k c hc)
 rcases List.mem_cons.1 hc with rfl | hc
 ·rw[e];decide
 rcases List.mem_cons.1 hc with rfl | hc
 ·rcases hs with g | g<;>rw[g]<;>decide
 exact b _ (k c hc)
theorem ant{l:List UInt8}(k:bA (hd l)=true)(hb:bZ l=false):anp (dy l) (l.take (a8 l)):=by
 obtain⟨D,o⟩ : ∃D,l.take (cp l)=D:=⟨_,rfl⟩;obtain⟨e,q⟩ : ∃e,l.drop (cp l)=e:=⟨_,rfl⟩;obtain⟨F,K⟩ : ∃F,e.take (iJ e)=F:=⟨_,rfl⟩;obtain⟨b,M⟩ : ∃b,e.drop (iJ e)=b:=⟨_,rfl⟩;obtain⟨E,N⟩ : ∃E,b.take (eR b)=E:=⟨_,rfl⟩;have O:D.length=cp l:=by rw[<-o];have:=uR (l:=l);simp;omega
 obtain⟨v,t⟩:=ab' e;obtain⟨w,x⟩:=aca b;have z:AJ D:=by rw[<-o];exact I5.1
 have P:D≠ []:=by rw[<-o];exact(AL k).1
 rw[K] at v t;rw[N] at w x;have hA:hC l=D.length+F.length:=by unfold hC;rw[q,O,t]
 have Q:l.drop (hC l)=b:=by rw[<-M,<-q,List.drop_drop,hA,O,t,<-q]
 have R:a8 l=D.length+F.length+E.length:=by unfold a8;rw[Q,hA,x]
 have hx:l.take (a8 l)=D++F++E:=by
  have V:l=D++e:=by rw[<-o,<-q,xy]
  have W:e=F++b:=by rw[<-K,<-M,xy]
  have X:b=E++b.drop (eR b):=by rw[<-N,xy]
  rw[R];have Y:l=D++F++E++b.drop (eR b):=by rw[aG,<-X,aG,<-W,<-V]
  rw[Y,Dl (by simp only[bW])]
 have S:dy l=if F.length=0/\E.length=0 then 5 else 6:=by unfold dy;rw[q,Q,t,x]
 have Z:dy l≠7:=by rw[S];split<;>decide
 rw[hx];have A:AI (dy l) (D++F++E)=D++F++E++ [al 32]:=by unfold AI;rw[iN Z]
 have pg : ∀y,hd (D++F++E++y)=hd l:=λy=>by
  rw[aG,aG,zh P,<-o,I4 (AL k).2]
 have Tg:fK (hd l)=false:=by
  unfold bA at k;unfold fK;simp at k⊢;omega
 refine⟨λr=> ?_,?_,?_⟩
 ·rw[A,aG (D++F++E),xA];obtain⟨B,C,G⟩:=anq (r:=r) z v w;obtain⟨L,H⟩ : ∃L,D++F++E++al 32::r=L:=⟨_,rfl⟩;have I:=pg (al 32::r);rw[H] at B C G I⊢
  have T:hC L=D.length+F.length:=by unfold hC;rw[B,C]
  have J:a8 L=D.length+F.length+E.length:=by unfold a8;rw[T,G]
  have wF:L.drop (cp L)=L.drop D.length:=by rw[B]
  have wE:L.drop (hC L)=L.drop (D.length+F.length):=by rw[T]
  have U:dy L=dy l:=by rw[S];unfold dy;rw[wF,wE,C,G]
  have wd:L.drop (a8 L)=al 32::r:=by
   rw[J,<-H,AY Sq]
  have wb:bZ L=false:=by
   unfold bZ at hb⊢;rw[wd,J,U,I];rw[R] at hb;simp only[Bool.or_eq_false_iff] at hb⊢;exact⟨⟨⟨by show fK 32=false;decide,decide_eq_false (by show ¬(32=46);decide)⟩,hb.1.2⟩,hb.2⟩
  unfold fq;rw[I,iN (by rw[Tg];decide),iP k,iN (by rw[wb];decide),U,J];have:L.take (D.length+F.length+E.length)=D++F++E:=by rw[<-H,Dl Sq]
  rw[this];simp only[bW,List.length_singleton,Option.some.injEq,Prod.mk.injEq,true_and];omega
 ·rw[A];cases D with
  | nil=>exact absurd rfl P
  | cons c u=>
    have hc:bA c.toNat=true:=z c s0;refine⟨c,u++F++E++ [al 32],rfl,?_,?_⟩;·intro g;rw[g] at hc;cases hc
    intro g;rw[g] at hc;cases hc
 rw[A];intro c hc;rcases List.mem_append.1 hc with hc | hc
 ·exact anr z v w c hc
 simp at hc;subst hc;decide
theorem acb{n:Nat}(h:en n=true):n≠10/\n≠32/\n≠35:=by
 unfold en fK bA at h;simp at h;omega
theorem anu : ∀x∈S3++S2++S1.map (λc=> [c]),fK (hd x)=false/\bA (hd x)=false/\¬(hd x=39\/hd x=34)/\(∃c u,x=c::u)/\hd x≠32/\hd x≠35/\∀c∈x,c.toNat≠10:=by
 have : ∀x∈S3++S2++S1.map (λc=> [c]),fK (hd x)=false/\bA (hd x)=false/\¬(hd x=39\/hd x=34)/\x≠ []/\hd x≠32/\hd x≠35/\∀c∈x,c.toNat≠10:=by decide
 intro x hx;obtain⟨h1,h2,h3,h4,h5⟩:=this x hx;refine⟨h1,h2,h3,?_,h5⟩;cases x with
 | nil=>exact absurd rfl h4
 | cons c u=>exact⟨c,u,rfl⟩
end
end Can
end Go.Proofs.YtdfgkcoenagaaaaGreat
