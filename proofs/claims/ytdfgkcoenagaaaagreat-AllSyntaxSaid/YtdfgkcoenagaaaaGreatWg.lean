/- Parse: how high the trees are. No program in sight. (Printed by tools/genpsh.py.). Parse, the program: leaf, single, place. Parse, the program: its rules, as runs over trees, along the grammar. (Printed by tools/genpw3.py.). Parse, the program: all its rules, along the grammar. (Printed by tools/genpw3.py.). Parse, the program: parse.Parse, ahead of its deferred call. Parse, the program: parse.Parse answers parseT. Parse, its laws: the sources of the example, where Lex is told. Canonical runs: a table with functions of which it is told what they do. Over any program. Parse, its laws: the table in which it is told what Parse does; Same of trees. Parse, its laws: Source; the example holds. Parse, its laws: rows and nodes read back. Parse, its laws: tokens that grow; Same of two trees. Show: the builder's calls, as they stand in the printer's object. Show: the printer as a function of a tree. No program in sight. Show: what is asked to be printed grows. No program in sight. Show: the printer's small steps (put, pad), in memory. Show: the printer as a run over trees sees it; put's contract. Show: the printer's small functions, as runs over trees. Show: pad, as a run over trees. Show: quoted, in memory and as a run over trees. Show: the printer's small functions, as runs over trees. Show: what the printer's functions are promised to do. Show: at, two, maybe. Show: row. Show: clauses. (Printed by tools/gensh.py.). Show: pairs. (Printed by tools/gensh.py.). Show: expr. (Printed by t -/
import Derived.Test.YtdfgkcoenagaaaaGreatWa
import Derived.Test.YtdfgkcoenagaaaaGreatWf
import Derived.Test.YtdfgkcoenagaaaaGreatWe
import Derived.Test.YtdfgkcoenagaaaaGreatWd
open Bool renaming false_eq_true → aM, true_and → zq
open Go renaming FuncId → bk, Program → aZ, TypeId → aH, Value → ae
open Go.IntKind renaming wrap → v7
open List renaming cons_append → aS, drop_eq_getElem_cons → uh, drop_eq_nil_of_le → AX, drop_length → re, ext_getElem → NN, flatMap_cons → zr, getD_eq_getElem?_getD → uj, getElem?_eq_getElem → dx, getElem?_eq_none → qZ, getElem?_map → kF, length_append → bW, length_cons → ay, length_map → kZ, length_nil → aF, map_cons → dq, mem_of_getElem? → sq
open Nat renaming le_add_right → NV, le_of_ble_eq_true → ja, le_refl → ag, le_trans → cM, lt_irrefl → Dh, lt_of_lt_of_le → ek, lt_succ_self → nX, ne_of_lt → FS, not_lt_zero → su, zero_add → iZ, zero_le → fa
open Option renaming getD_some → qp
open True renaming intro → CY
set_option maxRecDepth 4000
set_option maxHeartbeats 8000000
set_option linter.unusedSimpArgs false
set_option linter.unusedVariables false
namespace Go.Proofs.YtdfgkcoenagaaaaGreat
namespace Can
section
mutual
def pu:Nd->Nat
 | .mk _ _ _ _ ks=>eY ks+1
def eY:List Nd->Nat
 | []=>0
 | n::ks=>max (pu n) (eY ks)
end
theorem aar{ks:List Nd}{i:Nat}{t:Nd}(h:ks[i]? = some t):eY (ks.drop i)=max (pu t) (eY (ks.drop (i+1))):=by
 obtain⟨hi,rfl⟩:=List.getElem?_eq_some_iff.1 h;rw[uh hi];rfl
theorem My : ∀ {ks:List Nd} {t:Nd},t∈ks->pu t<=eY ks
 | n::ks,t,h=>by
   rcases List.mem_cons.1 h with rfl | h
   ·exact Nat.le_max_left _ _
   exact cM (My h) (Nat.le_max_right _ _)
mutual
def qe:Nd->Nat
 | .mk _ _ _ _ ks=>aq ks+1
def aq:List Nd->Nat
 | []=>0
 | n::ks=>qe n+aq ks
end
mutual
theorem aiG : ∀n:Nd,pu n<=qe n
 | .mk _ _ _ _ ks=>Nat.succ_le_succ (RN ks)
theorem RN : ∀ks:List Nd,eY ks<=aq ks
 | []=>ag _
 | n::ks=>Nat.max_le.2 ⟨cM (aiG n) (NV _ _),cM (RN ks) (Nat.le_add_left _ _)⟩
end
theorem EZ : ∀ {a b:List Nd},aq (a++b)=aq a+aq b
 | [],b=>(iZ _).symm
 | n::a,b=>by simp only[aS,aq,EZ,Nat.add_assoc]
def NT.sz:NT->Nat
 | .params _ _ c=>aq c
 | .row _ b=>aq b
 | .qc _ b=>aq b
 | .tR a=>qe a
 | .tS a=>qe a
 | .jR a b=>qe a+aq b
 | .sW a=>qe a
 | .qP a=>qe a
 | .rV a=>qe a
 | .index a=>qe a
 | .clauses a=>aq a
 | .rW _ b=>aq b
 | .placesL _ b=>aq b
 | .names _ _ c=>aq c
 | .jp _ b=>aq b
 | .a9 a=>aq a
 | .lT a=>aq a
 | .nR _ b=>aq b
 | .top a=>aq a
 | _=>0
def NT.lo:NT->Nat
 | .atom=>50
 | .primary=>50
 | .oD=>50
 | .term=>50
 | .arith=>50
 | .compare=>49
 | .expr=>49
 | .exprs=>48
 | .one=>50
 | .sV=>49
 | .value=>47
 | .plain=>40
 | .simple=>40
 | .block=>30
 | .stmt=>30
 | .ifs _=>20
 | .not=>49
 | .and=>49
 | .or=>49
 | _=>0
def NT.ad:NT->Nat
 | .qc _ _=>1
 | .jR _ _=>1
 | .rW _ _=>1
 | .placesL _ _=>1
 | .params _ _ _=>1
 | .maybe _ _ _=>1
 | .jp _ _=>1
 | .list _=>1
 | .qQ _=>1
 | .nR _ _=>1
 | _=>0
def ls (P:List Nd->Nat->Prop)(r:PR):Prop:=Gd (λ_=>True) P r
theorem RO{E E':Nat->Prop}{P a:List Nd->Nat->Prop}{r:PR}(h:Gd E P r)(h':Gd E' a r):Gd (λe=>E e/\E' e) (λl j=>P l j/\a l j) r:=by
 match r,h,h' with
 | some (.error e),h,h'=>exact⟨h,h'⟩
 | some (.ok (l,j)),h,h'=>exact⟨h,h'⟩
theorem aiH{ts:List PT}{s:List UInt8}{i:Nat}{a b:PR}{P:List Nd->Nat->Prop}(h1:i<ts.length->ls P a)(h2:ls P b):ls P (if ai ts i s=true then a else b):=aaa h1 h2
theorem aiI{c:Prop}[Decidable c]{a b:PR}{P:List Nd->Nat->Prop}(h1:c->ls P a)(h2 : ¬c->ls P b):ls P (if c then a else b):=aab h1 h2
theorem aiJ{ts:List PT}{s:List UInt8}{i:Nat}{k:Nat->PR}{P:List Nd->Nat->Prop}(h2:i<ts.length->ls P (k (i+1))):ls P (eX ts s i k):=Z9 trivial h2
theorem aiK{ts:List PT}{kd:Int}(a:kd≠0){i:Nat}{k:List UInt8->Nat->PR}{P:List Nd->Nat->Prop}(h2:i<ts.length->ls P (k (ah ts i).text (i+1))):ls P (jo ts kd i k):=Z' a trivial h2
theorem aiL{t:Nd}{j:Nat}{P:List Nd->Nat->Prop}(h:P [t] j):ls P (bI t j):=h
theorem aiM{l:List Nd}{j:Nat}{P:List Nd->Nat->Prop}(h:P l j):ls P (some (.ok (l,j))):=h
theorem aas{e:Nat}{P:List Nd->Nat->Prop}:ls P (some (.error e)):=trivial
def y6 (ts:List PT)(f:Nat):Prop:=∀(a:NT) (i:Nat),a.hY->i<=ts.length->ts.length*64+a.kM<f+i*64->ls (λl j=>aq l+64*i+a.lo<=a.sz+64*j+a.ad) (gr ts f a i)
theorem y6.one{ts:List PT}{f:Nat}(h:y6 ts f){a:NT}{i:Nat}{P:List Nd->Nat->Prop}{k:Nd->Nat->PR}(hg:a.hY)(hi:i<=ts.length)(b:ts.length*64+a.kM<f+i*64)(ha:a.acc=none)(c : ∀t j,i+a.min<=j->j<=ts.length->qe t+64*i+a.lo<=a.sz+64*j+a.ad->ls P (k t j)):ls P (bu (gr ts f a i) k):=by
 unfold ls;rw[Iw];refine(RO (wZ f a i hg hi b) (h a i hg hi b)).mono (λ_ _=>trivial) λl j h=> ?_;obtain⟨⟨h1,h2,h3⟩,h4⟩:=h;rw[ha] at h3;obtain⟨t,rfl⟩:=Ru h3;exact⟨t,rfl,c t j h1 h2 h4⟩
theorem y6.vc{ts:List PT}{f:Nat}(h:y6 ts f){a:NT}{i:Nat}{P:List Nd->Nat->Prop}{k:List Nd->Nat->PR}(hg:a.hY)(hi:i<=ts.length)(b:ts.length*64+a.kM<f+i*64)(c : ∀l j,i+a.min<=j->j<=ts.length->aq l+64*i+a.lo<=a.sz+64*j+a.ad->ls P (k l j)):ls P (pb (gr ts f a i) k):=by
 unfold ls;rw[Mm];refine(RO (wZ f a i hg hi b) (h a i hg hi b)).mono (λ_ _=>trivial) λl j h=> ?_;obtain⟨⟨h1,h2,h3⟩,h4⟩:=h;exact c l j h1 h2 h4
theorem y6.cU{ts:List PT}{f:Nat}(h:y6 ts f){a:NT}{i:Nat}{P:List Nd->Nat->Prop}(hg:a.hY)(hi:i<=ts.length)(b:ts.length*64+a.kM<f+i*64)(c : ∀l j,i+a.min<=j->j<=ts.length->aq l+64*i+a.lo<=a.sz+64*j+a.ad->P l j):ls P (gr ts f a i):=
 (RO (wZ f a i hg hi b) (h a i hg hi b)).mono (λ_ _=>trivial) λl j ⟨⟨h1,h2,h3⟩,h4⟩=>c l j h1 h2 h4
theorem aat{ts:List PT}{i:Nat}(hi:i<=ts.length){P:List Nd->Nat->Prop}{A:PR}{B:Nat->Nat->PR}(hA:ls P A)(a : ∀op j,i<j->j<=ts.length->ls P (B op j)):ls P (match eB ts i with | .error e=>some (.error e) | .ok (0,_)=>A | .ok (op+1,j)=>B op j):=by
 have ho:=Rw hi;match eB ts i,ho with
 | .error e,ho=>exact aas
 | .ok (0,_),_=>exact hA
 | .ok (op+1,j),ho=>
   rcases ho with ⟨h,_⟩ | ⟨_,h1,h2⟩
   ·cases h
   exact a op j h1 h2
theorem aiN{ts:List PT}{f:Nat}(ih:y6 ts f):y6 ts (f+1):=by
 intro a i hg hi e;cases a;case' maybe k l c=>cases c
 case' jp l acc=>obtain⟨t,ht⟩:=Rv hg
 case' jR n acc=>cases hb:acc.isEmpty
 all_goals first | simp only[gr,ht] | simp only[gr,hb,aM,iF,iT] | simp only[gr,aM,iF,iT]
 case' jR.false=>refine aat hi ?_ λop j h1 h2=> ?_
 case' jR.true=>refine aat hi ?_ λop j h1 h2=> ?_
 all_goals (repeat' first | (have m:=yX (by rw[h];decide);clear h) | (have m:=yX (i:=i) (ts:=ts) Om;clear h) | (have m:=aac h;clear h) | (with_reducible refine aiH (λh=> ?_) ?_) | ((with_reducible refine aiJ ?_);intro h) | ((with_reducible refine aiK ?_ ?_);decide;intro h) | (with_reducible exact aas) | ((with_reducible refine aiL ?_);simp only[NT.min,NT.sz,NT.lo,NT.ad,qe,aq,EZ];omega) | ((with_reducible refine aiM ?_);simp only[NT.min,NT.sz,NT.lo,NT.ad,qe,aq,EZ];omega) | ((with_reducible refine ih.one ?_ ?_ ?_ ?_ ?_);(first | exact CY | simp[NT.hY]);omega;simp only[NT.kM] at e⊢;omega;rfl;intro t j b o d;simp only[NT.min,NT.sz,NT.lo,NT.ad,qe,aq,EZ] at b d) | ((with_reducible refine ih.vc ?_ ?_ ?_ ?_);(first | exact CY | simp[NT.hY]);omega;simp only[NT.kM] at e⊢;omega;intro l j b o d;simp only[NT.min,NT.sz,NT.lo,NT.ad,qe,aq,EZ] at b d) | ((with_reducible refine ih.cU ?_ ?_ ?_ ?_);(first | exact CY | simp[NT.hY]);omega;simp only[NT.kM] at e⊢;omega;intro l j b o d;simp only[NT.min,NT.sz,NT.lo,NT.ad,qe,aq,EZ] at b d⊢;omega) | (with_reducible refine aiI (λh=> ?_) (λh=> ?_)))
theorem Mz{ts:List PT} : ∀f,y6 ts f
 | 0=>λa i _ hi h=>by omega
 | f+1=>aiN (Mz f)
end
section
open Go Go.RowKit
attribute [local irreducible] TC ai ah iR
theorem Cj{i n:Nat}(h:i<n)(hn:n<=maxLen):(IntKind.wrap .i64 ((i:Int)+1))=((i+1:Nat):Int):=by
 rw[nM] at hn;rw[nh Om Om];omega
section
variable {Z:TP} {X:ce} {R:ae->Prop} {Q:AV->List SV->Prop}
theorem aiO{k:Int}(h4:4<=k)(b:k<=7)(a:Q (rS (.int .i64 (yW k:Nat))) []):TC Z (bj Tryz.prog LG GG) X 97 [rS (.int .i64 k)] none Q R:=by
 refine gq fP Rl Kr (bq ?_)
 obtain rfl | rfl | rfl | rfl:k=4\/k=5\/k=6\/k=7:=by omega
 all_goals
  conv=>whnf
  exact a
theorem aau{k:Nat}{l:Int}{x:List UInt8}{o:Nat}{ks:List Nd}(a:Q (rS (.bool (nQ (.mk k l x o ks)))) []):TC Z (bj Tryz.prog LG GG) X 70 [eC (.mk k l x o ks)] none Q R:=by
 have e:nQ (.mk k l x o ks)=decide (k=36\/k=45\/k=46):=rfl;rw[e] at a;refine gq fP Rl Kr (bq ?_)
 by_cases h1:k=36
 ·subst h1;conv=>whnf
  exact a
 by_cases h2:k=45
 ·subst h2;conv=>whnf
  exact a
 by_cases h3:k=46
 ·subst h3;conv=>whnf
  exact a
 rw[decide_eq_false Om] at a;conv=>whnf
 refine b9 (λh=>by exfalso;simp at h;omega) λh=> ?_;conv=>whnf
 refine b9 (λh=>by exfalso;simp at h;omega) λh=> ?_;conv=>whnf
 refine b9 (λh=>by exfalso;simp at h;omega) λh=> ?_;conv=>whnf
 exact a
theorem aiP{k:Nat}{l:Int}{x:List UInt8}{o:Nat}{ks:List Nd}{E:Nat->Prop}{P:List Nd->Nat->Prop}{A B:PR}(a:Gd E P (if nQ (.mk k l x o ks)=true then A else B))(h1:Gd E P A->Q (rS (.bool true)) [])(h2:Gd E P B->Q (rS (.bool false)) []):TC Z (bj Tryz.prog LG GG) X 70 [eC (.mk k l x o ks)] none Q R:=by
 refine aau ?_;cases h:nQ (.mk k l x o ks) with
 | true=>rw[iP h] at a;exact h1 a
 | false=>rw[iN (by rw[h];decide)] at a;exact h2 a
theorem aiQ{ks:List Nd}{i:Nat}{t:Nd}(h:ks[i]? = some t):iU (ks.drop i)=(fw t&&iU (ks.drop (i+1))):=by
 obtain⟨hi,rfl⟩:=List.getElem?_eq_some_iff.1 h;rw[uh hi];rfl
noncomputable def tU:Nd->Nat:=λt=>SizeOf.sizeOf t
theorem E5{k:Nat}{l:Int}{x:List UInt8}{o:Nat}{ks:List Nd}{t:Nd}(h:t∈ks):tU t<tU (.mk k l x o ks):=by
 have h1:=List.sizeOf_lt_of_mem h;unfold tU;rw[Nd.mk.sizeOf_spec];omega
theorem aiR : ∀(N:Nat) (k:Nat) (l:Int) (x:List UInt8) (o:Nat) (ks:List Nd),tU (.mk k l x o ks)<N->∀(Q:AV->List SV->Prop) (R:ae->Prop),Q (rS (.bool (fw (.mk k l x o ks)))) []->TC Z (bj Tryz.prog LG GG) X 82 [eC (.mk k l x o ks)] none Q R:=by
 intro N;induction N with
 | zero=>intro k l x o ks h;exact absurd h (su _)
 | succ N ih=>
 intro k l x o ks y Q R b;refine gq fP Rl Kr (bq ?_)
 by_cases hk:k=52\/k=51
 ·have e:fw (.mk k l x o ks)=(iU ks && !ks.isEmpty):=iP hk;rw[e] at b;rcases hk with rfl | rfl
  all_goals
   conv=>whnf
   refine qH 3 (λm a s=>∃i:Nat,a=rS (.int .i64 (i:Nat))/\s=⟨0,[oN (nA _ l x o ks)]⟩/\m+i=ks.length/\iU ks=iU (ks.drop i)) ks.length [] rfl ⟨0,rfl,rfl,rfl,rfl⟩ ?_;rintro m a f s ⟨i,rfl,rfl,z,hp⟩;conv=>whnf
   intro c;conv=>whnf
   refine b9 (λh=> ?_) λh=> ?_
   ·have hi:i<ks.length:=by simp[c8] at h;omega
    obtain⟨t,ht⟩ : ∃t,ks[i]? = some t:=⟨_,dx hi⟩;have hd:=aiQ ht;have A:=E5 (sq ht) (k:=52) (l:=l) (x:=x) (o:=o);have B:=E5 (sq ht) (k:=51) (l:=l) (x:=x) (o:=o);obtain⟨k1,d,j,o1,u⟩:=t;conv=>whnf
    refine⟨rfl,i,_,rfl,jr ht,?_⟩;conv=>whnf
    refine ih k1 d j o1 u Om _ _ ?_;conv=>whnf
    cases v:fw (.mk k1 d j o1 u) with
    | true=>
      rw[v,zq] at hd;conv=>whnf
      rw[c8] at c;exact⟨m-1,[],Om,rfl,i+1,congrArg (λn=>rS (.int .i64 n)) (Cj hi c),rfl,Om,hp.trans hd⟩
    | false=>
      rw[hp,hd,v] at b;conv=>whnf
      exact b
   have hi:i=ks.length:=by simp[c8] at h;omega
   subst hi;have hp:iU ks=true:=by rw[hp,re];rfl
   rw[hp,zq] at b;conv=>whnf
   intro c;conv=>whnf
   refine b9 (λh=> ?_) λh=> ?_
   ·have:ks.isEmpty=false:=by cases ks;simp[c7] at h;rfl
    rw[this] at b;conv=>whnf
    exact b
   have:ks.isEmpty=true:=by cases ks;rfl;simp[c7] at h
   rw[this] at b;conv=>whnf
   exact b
 have e:fw (.mk k l x o ks)=decide (k=36\/k=45\/k=46):=iN hk;have e':nQ (.mk k l x o ks)=decide (k=36\/k=45\/k=46):=rfl;rw[e,<-e'] at b;conv=>whnf
 refine b9 (λh=> ?_) λh=>by exfalso;simp at h;omega
 conv=>whnf
 refine b9 (λh=> ?_) λh=>by exfalso;simp at h;omega
 conv=>whnf
 refine aau ?_;conv=>whnf
 cases hs:nQ (.mk k l x o ks) with
 | true=>
   rw[hs] at b;conv=>whnf
   exact b
 | false=>
   rw[hs] at b;conv=>whnf
   exact b
theorem aiS{k:Nat}{l:Int}{x:List UInt8}{o:Nat}{ks:List Nd}{E:Nat->Prop}{P:List Nd->Nat->Prop}{A B:PR}(a:Gd E P (if fw (.mk k l x o ks)=true then A else B))(h1:Gd E P A->Q (rS (.bool true)) [])(h2:Gd E P B->Q (rS (.bool false)) []):TC Z (bj Tryz.prog LG GG) X 82 [eC (.mk k l x o ks)] none Q R:=by
 refine aiR _ k l x o ks (nX _) Q R ?_;cases h:fw (.mk k l x o ks) with
 | true=>rw[iP h] at a;exact h1 a
 | false=>rw[iN (by rw[h];decide)] at a;exact h2 a
theorem aav(a b:Nat):(if true=true then (if ((b:Nat):Int)>(a:Nat) then ((b:Nat):Int) else (a:Nat)) else if ((b:Nat):Int)<(a:Nat) then ((b:Nat):Int) else (a:Nat))=((max a b:Nat):Int):=by
 rw[iP rfl];split<;>omega
theorem aiT : ∀(N:Nat) (k:Nat) (l:Int) (x:List UInt8) (o:Nat) (ks:List Nd),tU (.mk k l x o ks)<N->eY ks+1<=9223372036854775807->∀(Q:AV->List SV->Prop) (R:ae->Prop),Q (rS (.int .i64 (eY ks+1:Nat))) []->TC Z (bj Tryz.prog LG GG) X 12 [eC (.mk k l x o ks)] none Q R:=by
 intro N;induction N with
 | zero=>intro k l x o ks h;exact absurd h (su _)
 | succ N ih=>
 intro k l x o ks A B Q R v;refine gq fP Rl Kr (bq ?_)
 conv=>whnf
 refine Z7 4 3 (λm a b s=>∃i h:Nat,a=rS (.int .i64 (i:Nat))/\b=rS (.int .i64 (h:Nat))/\s=⟨0,[oN (nA k l x o ks)]⟩/\m+i=ks.length/\max h (eY (ks.drop i))=eY ks) ks.length [] rfl ⟨0,0,rfl,rfl,rfl,rfl,Nat.zero_max _⟩ ?_;rintro m a b f s ⟨i,h,rfl,rfl,rfl,C,hp⟩;conv=>whnf
 intro d;conv=>whnf
 refine b9 (λhc=> ?_) λhc=> ?_
 ·have hi:i<ks.length:=by simp[c8] at hc;omega
  obtain⟨t,ht⟩ : ∃t,ks[i]? = some t:=⟨_,dx hi⟩;have hd:=aar ht;have D:=E5 (sq ht) (k:=k) (l:=l) (x:=x) (o:=o);have y:=My (sq ht);obtain⟨k1,j,u,o1,c⟩:=t;have z:pu (.mk k1 j u o1 c)=eY c+1:=rfl;conv=>whnf
  refine⟨rfl,i,_,rfl,jr ht,?_⟩;conv=>whnf
  refine ih k1 j u o1 c Om Om _ _ ?_;conv=>whnf
  rw[c8] at d;refine⟨m-1,[],Om,rfl,i+1,max h (eY c+1),congrArg (λn=>rS (.int .i64 n)) (Cj hi d),?_,rfl,Om,by rw[<-hp,hd,z,Nat.max_assoc]⟩;exact congrArg (λn=>rS (.int .i64 n)) (aav h (eY c+1))
 have hi:i=ks.length:=by simp[c8] at hc;omega
 subst hi;have hp:h=eY ks:=by rw[<-hp,re];exact(Nat.max_zero _).symm
 subst hp;conv=>whnf
 exact Mx (congrArg (λn=>rS (.int .i64 n)) (Cj (nX _) (by rw[nM];omega))) rfl v
end
end
section
open Go Go.RowKit
attribute [local irreducible] TC ai ah iR fw
structure ib(Z:TP)(X:ce)(W:Int->ae)(ts:List PT)(sl:Sl)(g:Nat):Prop where
 expr:PC Z X W ts sl g .expr 35 [.ptr 0 0] dQ
 or_:PC Z X W ts sl g .or 62 [.ptr 0 0] dQ
 and_:PC Z X W ts sl g .and 81 [.ptr 0 0] dQ
 not_:PC Z X W ts sl g .not 96 [.ptr 0 0] dQ
 compare:PC Z X W ts sl g .compare 105 [.ptr 0 0] dQ
 arith:PC Z X W ts sl g .arith 110 [.ptr 0 0] dQ
 term:PC Z X W ts sl g .term 113 [.ptr 0 0] dQ
 oD:PC Z X W ts sl g .oD 114 [.ptr 0 0] dQ
 primary:PC Z X W ts sl g .primary 69 [.ptr 0 0] dQ
 atom:PC Z X W ts sl g .atom 83 [.ptr 0 0] dQ
 exprs:PC Z X W ts sl g .exprs 39 [.ptr 0 0] dQ
 one:PC Z X W ts sl g .one 65 [.ptr 0 0] dQ
 sV:PC Z X W ts sl g .sV 38 [.ptr 0 0] dQ
 simple:PC Z X W ts sl g .simple 44 [.ptr 0 0] dQ
 plain:PC Z X W ts sl g .plain 71 [.ptr 0 0] dQ
 value:PC Z X W ts sl g .value 85 [.ptr 0 0] dQ
 block:PC Z X W ts sl g .block 37 [.ptr 0 0] dQ
 stmt:PC Z X W ts sl g .stmt 23 [.ptr 0 0] dQ
 params : ∀(cl:List UInt8) (ln:Int),cl≠ []->PC Z X W ts sl g (.params cl ln []) 41 [.ptr 0 0,rS (.int .i64 ln),rS (.string ⟨⟨cl⟩⟩)] dQ
 row : ∀(cl:List UInt8),cl≠ []->PC Z X W ts sl g (.row cl []) 42 [.ptr 0 0,rS (.string ⟨⟨cl⟩⟩)] EY
 index : ∀(k:Nat) (l:Int) (x:List UInt8) (o:Nat) (ks:List Nd),PC Z X W ts sl g (.index (.mk k l x o ks)) 84 [.ptr 0 0,eC (.mk k l x o ks)] dQ
 clauses:PC Z X W ts sl g (.clauses []) 106 [.ptr 0 0] EY
 list : ∀(ln:Int),PC Z X W ts sl g (.list ln) 98 [.ptr 0 0,rS (.int .i64 ln)] dQ
 qQ : ∀(ln:Int),PC Z X W ts sl g (.qQ ln) 99 [.ptr 0 0,rS (.int .i64 ln)] dQ
 names : ∀(k:Nat) (ln:Int),PC Z X W ts sl g (.names k ln []) 68 [.ptr 0 0,rS (.int .i64 (k:Nat)),rS (.int .i64 ln)] dQ
 maybe : ∀(k:Nat) (ln:Int) (all:Bool),PC Z X W ts sl g (.maybe k ln all) 67 [.ptr 0 0,rS (.int .i64 (k:Nat)),rS (.int .i64 ln),rS (.bool all)] dQ
 ifs : ∀(ln:Int),PC Z X W ts sl g (.ifs ln) 34 [.ptr 0 0,rS (.int .i64 ln)] dQ
 tries : ∀(ln:Int),PC Z X W ts sl g (.tries ln) 43 [.ptr 0 0,rS (.int .i64 ln)] dQ
theorem fQ{Z:TP}{X:ce}{args:List AV}{self:Self}{Q:AV->List SV->Prop}{R:ae->Prop}(g:bk)(h:TC Z (bj Tryz.prog LG GG) X g args self Q R):TC Z (bj Tryz.prog LG GG) X g args self Q R:=h
set_option maxRecDepth 1000000 in
theorem jE{Pz:Prop}(hz:Pz:=by
 repeat' first
  | ((with_reducible refine fQ 33 ?_);first | (refine aiu C hG (by first | decide | exact cl_ne) Om (λhl hG=> ?_) (λhG=> ?_)<;>(conv=>whnf)))
  | ((with_reducible refine fQ 22 ?_);first | (refine EW C Om ?_;conv=>whnf))
  | ((with_reducible refine fQ 36 ?_);first | (refine aiA C hG (by first | decide | exact cl_ne) Om He ?_;intro hl hG;conv=>whnf) | (refine aix C de Om hb ?_;intro hl;conv=>whnf))
  | ((with_reducible refine fQ 61 ?_);first | (refine aiv C hG (by first | decide | exact cl_ne) Om (λhb hl hG=> ?_) (λhb hG=> ?_)<;>(conv=>whnf)) | (refine aiw C hG (by first | decide | exact cl_ne) Om (λhG=> ?_) (λhG=> ?_)<;>(conv=>whnf)))
  | ((with_reducible refine fQ 40 ?_);first | (refine aiB C hG de Om He ?_;intro hl hG;conv=>whnf))
  | ((with_reducible refine fQ 66 ?_);first | (refine aiy C hG Om (λhG=> ?_) (λhG=> ?_)<;>(conv=>whnf)))
  | ((with_reducible refine fQ 64 ?_);first | (refine aiz C hG de Om (λhl hG=> ?_) (λhG=> ?_)<;>(conv=>whnf)))
  | ((with_reducible refine fQ 35 ?_);first | (refine jD bx.expr hG Tv rfl He Om ?_;intro n1 l1 x1 o1 aA j1 aU dJ hG;simp only[NT.min] at aU;conv=>whnf) | (refine ku bx.expr hG Tv rfl He Om ?_;intro n1 l1 x1 o1 aA j1 aU dJ hG;simp only[NT.min] at aU;conv=>whnf))
  | ((with_reducible refine fQ 62 ?_);first | (refine jD bx.or_ hG Tv rfl He Om ?_;intro n1 l1 x1 o1 aA j1 aU dJ hG;simp only[NT.min] at aU;conv=>whnf) | (refine ku bx.or_ hG Tv rfl He Om ?_;intro n1 l1 x1 o1 aA j1 aU dJ hG;simp only[NT.min] at aU;conv=>whnf))
  | ((with_reducible refine fQ 81 ?_);first | (refine jD bx.and_ hG Tv rfl He Om ?_;intro n1 l1 x1 o1 aA j1 aU dJ hG;simp only[NT.min] at aU;conv=>whnf) | (refine ku bx.and_ hG Tv rfl He Om ?_;intro n1 l1 x1 o1 aA j1 aU dJ hG;simp only[NT.min] at aU;conv=>whnf))
  | ((with_reducible refine fQ 96 ?_);first | (refine jD bx.not_ hG Tv rfl He Om ?_;intro n1 l1 x1 o1 aA j1 aU dJ hG;simp only[NT.min] at aU;conv=>whnf) | (refine ku bx.not_ hG Tv rfl He Om ?_;intro n1 l1 x1 o1 aA j1 aU dJ hG;simp only[NT.min] at aU;conv=>whnf))
  | ((with_reducible refine fQ 105 ?_);first | (refine jD bx.compare hG Tv rfl He Om ?_;intro n1 l1 x1 o1 aA j1 aU dJ hG;simp only[NT.min] at aU;conv=>whnf) | (refine ku bx.compare hG Tv rfl He Om ?_;intro n1 l1 x1 o1 aA j1 aU dJ hG;simp only[NT.min] at aU;conv=>whnf))
  | ((with_reducible refine fQ 110 ?_);first | (refine jD bx.arith hG Tv rfl He Om ?_;intro n1 l1 x1 o1 aA j1 aU dJ hG;simp only[NT.min] at aU;conv=>whnf) | (refine ku bx.arith hG Tv rfl He Om ?_;intro n1 l1 x1 o1 aA j1 aU dJ hG;simp only[NT.min] at aU;conv=>whnf))
  | ((with_reducible refine fQ 113 ?_);first | (refine jD bx.term hG Tv rfl He Om ?_;intro n1 l1 x1 o1 aA j1 aU dJ hG;simp only[NT.min] at aU;conv=>whnf) | (refine ku bx.term hG Tv rfl He Om ?_;intro n1 l1 x1 o1 aA j1 aU dJ hG;simp only[NT.min] at aU;conv=>whnf))
  | ((with_reducible refine fQ 114 ?_);first | (refine jD bx.oD hG Tv rfl He Om ?_;intro n1 l1 x1 o1 aA j1 aU dJ hG;simp only[NT.min] at aU;conv=>whnf) | (refine ku bx.oD hG Tv rfl He Om ?_;intro n1 l1 x1 o1 aA j1 aU dJ hG;simp only[NT.min] at aU;conv=>whnf))
  | ((with_reducible refine fQ 69 ?_);first | (refine jD bx.primary hG Tv rfl He Om ?_;intro n1 l1 x1 o1 aA j1 aU dJ hG;simp only[NT.min] at aU;conv=>whnf) | (refine ku bx.primary hG Tv rfl He Om ?_;intro n1 l1 x1 o1 aA j1 aU dJ hG;simp only[NT.min] at aU;conv=>whnf))
  | ((with_reducible refine fQ 83 ?_);first | (refine jD bx.atom hG Tv rfl He Om ?_;intro n1 l1 x1 o1 aA j1 aU dJ hG;simp only[NT.min] at aU;conv=>whnf) | (refine ku bx.atom hG Tv rfl He Om ?_;intro n1 l1 x1 o1 aA j1 aU dJ hG;simp only[NT.min] at aU;conv=>whnf))
  | ((with_reducible refine fQ 39 ?_);first | (refine jD bx.exprs hG Tv rfl He Om ?_;intro n1 l1 x1 o1 aA j1 aU dJ hG;simp only[NT.min] at aU;conv=>whnf) | (refine ku bx.exprs hG Tv rfl He Om ?_;intro n1 l1 x1 o1 aA j1 aU dJ hG;simp only[NT.min] at aU;conv=>whnf))
  | ((with_reducible refine fQ 65 ?_);first | (refine jD bx.one hG Tv rfl He Om ?_;intro n1 l1 x1 o1 aA j1 aU dJ hG;simp only[NT.min] at aU;conv=>whnf) | (refine ku bx.one hG Tv rfl He Om ?_;intro n1 l1 x1 o1 aA j1 aU dJ hG;simp only[NT.min] at aU;conv=>whnf))
  | ((with_reducible refine fQ 38 ?_);first | (refine jD bx.sV hG Tv rfl He Om ?_;intro n1 l1 x1 o1 aA j1 aU dJ hG;simp only[NT.min] at aU;conv=>whnf) | (refine ku bx.sV hG Tv rfl He Om ?_;intro n1 l1 x1 o1 aA j1 aU dJ hG;simp only[NT.min] at aU;conv=>whnf))
  | ((with_reducible refine fQ 44 ?_);first | (refine jD bx.simple hG Tv rfl He Om ?_;intro n1 l1 x1 o1 aA j1 aU dJ hG;simp only[NT.min] at aU;conv=>whnf) | (refine ku bx.simple hG Tv rfl He Om ?_;intro n1 l1 x1 o1 aA j1 aU dJ hG;simp only[NT.min] at aU;conv=>whnf))
  | ((with_reducible refine fQ 71 ?_);first | (refine jD bx.plain hG Tv rfl He Om ?_;intro n1 l1 x1 o1 aA j1 aU dJ hG;simp only[NT.min] at aU;conv=>whnf) | (refine ku bx.plain hG Tv rfl He Om ?_;intro n1 l1 x1 o1 aA j1 aU dJ hG;simp only[NT.min] at aU;conv=>whnf))
  | ((with_reducible refine fQ 85 ?_);first | (refine jD bx.value hG Tv rfl He Om ?_;intro n1 l1 x1 o1 aA j1 aU dJ hG;simp only[NT.min] at aU;conv=>whnf) | (refine ku bx.value hG Tv rfl He Om ?_;intro n1 l1 x1 o1 aA j1 aU dJ hG;simp only[NT.min] at aU;conv=>whnf))
  | ((with_reducible refine fQ 37 ?_);first | (refine jD bx.block hG Tv rfl He Om ?_;intro n1 l1 x1 o1 aA j1 aU dJ hG;simp only[NT.min] at aU;conv=>whnf) | (refine ku bx.block hG Tv rfl He Om ?_;intro n1 l1 x1 o1 aA j1 aU dJ hG;simp only[NT.min] at aU;conv=>whnf) | (refine jD aiU.block hG Tv rfl He Om ?_;intro n1 l1 x1 o1 aA j1 aU dJ hG;simp only[NT.min] at aU;conv=>whnf))
  | ((with_reducible refine fQ 23 ?_);first | (refine jD bx.stmt hG Tv rfl He Om ?_;intro n1 l1 x1 o1 aA j1 aU dJ hG;simp only[NT.min] at aU;conv=>whnf) | (refine ku bx.stmt hG Tv rfl He Om ?_;intro n1 l1 x1 o1 aA j1 aU dJ hG;simp only[NT.min] at aU;conv=>whnf))
  | ((with_reducible refine fQ 41 ?_);first | (refine jD (bx.params _ _ de) hG Tv rfl He Om ?_;intro n1 l1 x1 o1 aA j1 aU dJ hG;simp only[NT.min] at aU;conv=>whnf) | (refine ku (bx.params _ _ de) hG Tv rfl He Om ?_;intro n1 l1 x1 o1 aA j1 aU dJ hG;simp only[NT.min] at aU;conv=>whnf))
  | ((with_reducible refine fQ 42 ?_);first | (refine aap (bx.row _ de) hG Tv rfl He Om ?_;intro l1 j1 aU dJ kP hG;simp only[NT.acc,Option.getD_some,List.length_nil] at kP;conv=>whnf))
  | ((with_reducible refine fQ 84 ?_);first | (refine jD (bx.index _ _ _ _ _) hG Tv rfl He Om ?_;intro n1 l1 x1 o1 aA j1 aU dJ hG;simp only[NT.min] at aU;conv=>whnf) | (refine ku (bx.index _ _ _ _ _) hG Tv rfl He Om ?_;intro n1 l1 x1 o1 aA j1 aU dJ hG;simp only[NT.min] at aU;conv=>whnf))
  | ((with_reducible refine fQ 106 ?_);first | (refine aap bx.clauses hG Tv rfl He Om ?_;intro l1 j1 aU dJ kP hG;simp only[NT.acc,Option.getD_some,List.length_nil] at kP;conv=>whnf))
  | ((with_reducible refine fQ 98 ?_);first | (refine jD (bx.list _) hG Tv rfl He Om ?_;intro n1 l1 x1 o1 aA j1 aU dJ hG;simp only[NT.min] at aU;conv=>whnf) | (refine ku (bx.list _) hG Tv rfl He Om ?_;intro n1 l1 x1 o1 aA j1 aU dJ hG;simp only[NT.min] at aU;conv=>whnf))
  | ((with_reducible refine fQ 99 ?_);first | (refine jD (bx.qQ _) hG Tv rfl He Om ?_;intro n1 l1 x1 o1 aA j1 aU dJ hG;simp only[NT.min] at aU;conv=>whnf) | (refine ku (bx.qQ _) hG Tv rfl He Om ?_;intro n1 l1 x1 o1 aA j1 aU dJ hG;simp only[NT.min] at aU;conv=>whnf))
  | ((with_reducible refine fQ 68 ?_);first | (refine jD (bx.names _ _) hG Tv rfl He Om ?_;intro n1 l1 x1 o1 aA j1 aU dJ hG;simp only[NT.min] at aU;conv=>whnf) | (refine ku (bx.names _ _) hG Tv rfl He Om ?_;intro n1 l1 x1 o1 aA j1 aU dJ hG;simp only[NT.min] at aU;conv=>whnf))
  | ((with_reducible refine fQ 67 ?_);first | (refine jD (bx.maybe _ _ _) hG Tv rfl He Om ?_;intro n1 l1 x1 o1 aA j1 aU dJ hG;simp only[NT.min] at aU;conv=>whnf) | (refine ku (bx.maybe _ _ _) hG Tv rfl He Om ?_;intro n1 l1 x1 o1 aA j1 aU dJ hG;simp only[NT.min] at aU;conv=>whnf))
  | ((with_reducible refine fQ 34 ?_);first | (refine jD (bx.ifs _) hG Tv rfl He Om ?_;intro n1 l1 x1 o1 aA j1 aU dJ hG;simp only[NT.min] at aU;conv=>whnf) | (refine ku (bx.ifs _) hG Tv rfl He Om ?_;intro n1 l1 x1 o1 aA j1 aU dJ hG;simp only[NT.min] at aU;conv=>whnf))
  | ((with_reducible refine fQ 43 ?_);first | (refine jD (bx.tries _) hG Tv rfl He Om ?_;intro n1 l1 x1 o1 aA j1 aU dJ hG;simp only[NT.min] at aU;conv=>whnf) | (refine ku (bx.tries _) hG Tv rfl He Om ?_;intro n1 l1 x1 o1 aA j1 aU dJ hG;simp only[NT.min] at aU;conv=>whnf))
  | ((with_reducible refine fQ 70 ?_);first | (refine aiP hG (λhG=> ?_) (λhG=> ?_)<;>(conv=>whnf)))
  | ((with_reducible refine fQ 82 ?_);first | (refine aiS hG (λhG=> ?_) (λhG=> ?_)<;>(conv=>whnf)))
  | ((with_reducible refine fQ 111 ?_);first | (refine aiD C hG Om He (λhG=> ?_) (λEu j1 U5 dJ hG=> ?_)<;>(conv=>whnf)))
  | ((with_reducible refine fQ 86 ?_);first | (refine aiE C hG Om (λha hl hG=> ?_) (λhG=> ?_)<;>(conv=>whnf)))
  | ((with_reducible refine fQ 63 ?_);first | (refine aiC C Om hG He))
  | (intro (kG:_<=maxLen);conv=>whnf)
  | exact⟨m,[],Om,rfl,_,_,_,_,_,_,rfl,Om,Om,hG⟩
  | exact⟨m,[2],Om,rfl,_,_,_,_,_,acc++ [.mk n1 l1 x1 o1 aA],_,_,(by rw[Aq];rfl),Om,Om,SS,hG⟩
  | exact⟨m,[2],Om,rfl,_,_,_,IC rfl,rfl,Om,Om,SS,hG⟩
  | exact⟨m,[2],Om,rfl,_,_,_,rfl,IC rfl,rfl,Om,Om,SS,hG⟩
  | exact⟨m,[3],Om,rfl,_,_,_,rfl,IC rfl,rfl,Om,Om,SS,hG⟩
  | exact⟨m,[3],Om,rfl,acc++ [.mk 43 (ah ts j).line [] (Eu+1) [.mk n1 l1 x1 o1 aA]],_,(by rw[Aq];rfl),Om,Om,SS,hG⟩
  | (refine b9 (λh=> ?_) (λh=> ?_);(have:acc= []:=by cases acc;rfl;simp[c7] at h<;>omega);subst this;(conv=>whnf);exact hQ _ _ hG Om;(have:acc.isEmpty=false:=by cases acc;simp[c7] at h<;>omega;rfl);rw[this] at hG;(conv=>whnf);exact hQ _ _ hG Om)
  | exact⟨m,[2],Om,rfl,_,_,_,_,_,_,_,_,_,_,acc++ [_,_],_,(by rw[Mq];rfl),Om,Om,SS,hG⟩
  | exact⟨m,[2],Om,rfl,_,_,_,_,_,acc++ [.mk n1 l1 x1 o1 aA],_,_,(by rw[Aq];rfl),Om,Om,s0,SS,hG⟩
  | (refine⟨rfl,acc.length-1,_,aip av kG,jr (aiq Br),?_⟩;conv=>whnf)
  | exact⟨m,[2],Om,rfl,_,_,_,_,IC rfl,rfl,Om,Om,(by simp only[List.length_append,List.length_cons,List.length_nil] at *;omega),hG⟩
  | (refine⟨rfl,0,_,rfl,rfl,?_⟩;conv=>whnf)
  | exact⟨m,[4],Om,rfl,acc++ [Nd.mk 21 (ah ts j).line [] 0 [Nd.mk n1 l1 x1 o1 aA]],_,true,rfl,(by rw[Aq];rfl),Om,Om,SS,SS, .inr ⟨rfl,hG⟩⟩
  | exact⟨m,[6],Om,rfl,acc++ [_],_,false,rfl,(by rw[Aq];rfl),Om,Om,SS,SS, .inl ⟨rfl,hG⟩⟩
  | (refine ais hG (by simp[c8];try omega) (λhG=> ?_) (λhG=> ?_)<;>(conv=>whnf))
  | (refine b9 (λh=>by exfalso;simp[c8] at h;first | omega | (subst h;simp at kP)) (λh=> ?_);conv=>whnf)
  | exact⟨m,[2],Om,rfl,_,_,_,_,_,_,_,_,_,_,acc++ [.mk n1 l1 x1 o1 aA],_,_,(by rw[Aq];rfl),Om,Om,SS,Iw.2 hG⟩
  | exact hQ _ _ (air hG) Om
  | (refine⟨rfl,?_⟩;conv=>whnf)
  | (refine⟨bdA (by simp only[List.length_append,List.length_cons,List.length_nil,c8];omega),?_⟩;conv=>whnf)
  | exact hQ _ _ hG Om
  | (refine ah7 (RM C hl) ?_)
  | (refine b9 (λh=>by exfalso;simp at h;omega) (λh=> ?_);conv=>whnf)
  | (refine b9 (λh=> ?_) (λh=>by exfalso;simp at h;omega);conv=>whnf)
  | (refine Mx ?_ ?_ (hQ _ _ hG Om)<;>first | rfl | exact ain rfl | exact aio rfl | exact RM C hl)
  | (have hG:=(RP _ _).1 hG;rcases f with _ | f;exact hG.elim;have aiU:=ih f Om;simp only[gr] at hG)
  | (refine qG (λm s=>∃k l x o ks j,s=⟨0,[oR sl j,oN qR,oN (nA k l x o ks)]⟩/\j<=ts.length/\m<=f/\Gd E P (gr ts m (.tR (.mk k l x o ks)) j)) f [] rfl ⟨_,_,_,_,_,_,rfl,Om,Nat.le_refl _,hG⟩ ?_;rintro m f1 s ⟨k,l,x,o,ks,j,rfl,hj,nO,hG⟩;rcases m with _ | m;exact hG.elim;have bx:=ih m Om;simp only[gr] at hG;conv=>whnf)
  | (refine qG (λm s=>∃k l x o ks j,s=⟨0,[oR sl j,oN qR,oN (nA k l x o ks)]⟩/\j<=ts.length/\m<=f/\Gd E P (gr ts m (.tS (.mk k l x o ks)) j)) f [] rfl ⟨_,_,_,_,_,_,rfl,Om,Nat.le_refl _,hG⟩ ?_;rintro m f1 s ⟨k,l,x,o,ks,j,rfl,hj,nO,hG⟩;rcases m with _ | m;exact hG.elim;have bx:=ih m Om;simp only[gr] at hG;conv=>whnf)
  | (refine qG (λm s=>∃k l x o ks j,s=⟨0,[oR sl j,oN qR,oN (nA k l x o ks)]⟩/\j<=ts.length/\m<=f/\Gd E P (gr ts m (.sW (.mk k l x o ks)) j)) f [] rfl ⟨_,_,_,_,_,_,rfl,Om,Nat.le_refl _,hG⟩ ?_;rintro m f1 s ⟨k,l,x,o,ks,j,rfl,hj,nO,hG⟩;rcases m with _ | m;exact hG.elim;have bx:=ih m Om;simp only[gr] at hG;conv=>whnf)
  | (refine qG (λm s=>∃k l x o ks j,s=⟨0,[oR sl j,oN qR,oN (nA k l x o ks)]⟩/\j<=ts.length/\m<=f/\Gd E P (gr ts m (.qP (.mk k l x o ks)) j)) f [] rfl ⟨_,_,_,_,_,_,rfl,Om,Nat.le_refl _,hG⟩ ?_;rintro m f1 s ⟨k,l,x,o,ks,j,rfl,hj,nO,hG⟩;rcases m with _ | m;exact hG.elim;have bx:=ih m Om;simp only[gr] at hG;conv=>whnf)
  | (refine qG (λm s=>∃k l x o ks j,s=⟨0,[oR sl j,oN qR,oN (nA k l x o ks)]⟩/\j<=ts.length/\m<=f/\Gd E P (gr ts m (.rV (.mk k l x o ks)) j)) f [] rfl ⟨_,_,_,_,_,_,rfl,Om,Nat.le_refl _,hG⟩ ?_;rintro m f1 s ⟨k,l,x,o,ks,j,rfl,hj,nO,hG⟩;rcases m with _ | m;exact hG.elim;have bx:=ih m Om;simp only[gr] at hG;conv=>whnf)
  | (refine qG (λm s=>∃k l x o ks acc j ln,s=⟨1,[oR sl j,oN qR,oN (nA k l x o ks),oN (nC 52 ln [] 0 (.own 0 26 5 (c7 acc)))]⟩/\j<=ts.length/\m<=f/\2*acc.length<=j+1/\Gd E P (gr ts m (.qc ln acc) j)) f [0] rfl ⟨_,_,_,_,_,[.mk n1 l1 x1 o1 aA],_,_,rfl,Om,Nat.le_refl _,by simp only[List.length_cons,List.length_nil];omega,hG⟩ ?_;rintro m f1 s ⟨k,l,x,o,ks,acc,j,ln,rfl,hj,nO,cj,hG⟩;rcases m with _ | m;exact hG.elim;have bx:=ih m Om;simp only[gr] at hG;conv=>whnf)
  | (refine qG (λm s=>∃k l x o ks acc j ln,s=⟨1,[oR sl j,oN qR,oN (nA k l x o ks),oN (nC 52 ln [] 0 (.own 0 26 5 (c7 acc)))]⟩/\j<=ts.length/\m<=f/\2*acc.length<=j+1/\Gd E P (gr ts m (.placesL ln acc) j)) f [0] rfl ⟨_,_,_,_,_,[.mk n1 l1 x1 o1 aA],_,_,rfl,Om,Nat.le_refl _,by simp only[List.length_cons,List.length_nil];omega,hG⟩ ?_;rintro m f1 s ⟨k,l,x,o,ks,acc,j,ln,rfl,hj,nO,cj,hG⟩;rcases m with _ | m;exact hG.elim;have bx:=ih m Om;simp only[gr] at hG;simp only[ait] at hG;conv=>whnf)
  | (refine qG (λm s=>∃acc j c,Ch acc c/\s=⟨1,[oR sl j,oN qR,oN (nC k ln [] 0 c)]⟩/\j<=ts.length/\m<=f+1/\2*acc.length<=j/\Gd E P (gr ts m (.names k ln acc) j)) (f+1) [99] rfl ⟨[],_,_, .inl ⟨rfl,rfl⟩,rfl,Om,Nat.le_refl _,by simp only[List.length_nil];omega,js⟩ ?_;rintro m f1 s ⟨acc,j,c,hA,rfl,hj,nO,cj,hG⟩;rcases m with _ | m;exact hG.elim;have bx:=ih m Om;simp only[gr] at hG;rcases hA with ⟨rfl,rfl⟩ | ⟨av,rfl⟩;all_goals (conv=>whnf))
  | (refine qG (λm s=>∃acc j c,Ch acc c/\s=⟨1,[oR sl j,oN qR,oN (nC 23 ln [] 0 c)]⟩/\j<=ts.length/\m<=f+1/\2*acc.length<=j/\Gd E P (gr ts m (.params cl ln acc) j)) (f+1) [99] rfl ⟨[],_,_, .inl ⟨rfl,rfl⟩,rfl,Om,Nat.le_refl _,by simp only[List.length_nil];omega,js⟩ ?_;rintro m f1 s ⟨acc,j,c,hA,rfl,hj,nO,cj,hG⟩;rcases m with _ | m;exact hG.elim;have bx:=ih m Om;simp only[gr] at hG;rcases hA with ⟨rfl,rfl⟩ | ⟨av,rfl⟩;all_goals (conv=>whnf))
  | (refine qH 5 (λm a s=>∃acc j c,a= .r (.c c)/\Ch acc c/\s=⟨1,[oR sl j]⟩/\j<=ts.length/\m<=f+1/\2*acc.length<=j/\Gd E P (gr ts m (.row cl acc) j)) (f+1) [99] rfl ⟨[],_,_,rfl, .inl ⟨rfl,rfl⟩,rfl,Om,Nat.le_refl _,by simp only[List.length_nil];omega,js⟩ ?_;rintro m a f1 s ⟨acc,j,c,rfl,hA,rfl,hj,nO,cj,hG⟩;rcases m with _ | m;exact hG.elim;have bx:=ih m Om;simp only[gr] at hG;rcases hA with ⟨rfl,rfl⟩ | ⟨av,rfl⟩;all_goals (conv=>whnf))
  | (refine qH 3 (λm a s=>∃acc j c,a= .r (.c c)/\Ch acc c/\s=⟨1,[oR sl j]⟩/\j<=ts.length/\m<=f+1/\2*acc.length<=j/\Gd E P (gr ts m (.clauses acc) j)) (f+1) [99] rfl ⟨[],_,_,rfl, .inl ⟨rfl,rfl⟩,rfl,Om,Nat.le_refl _,by simp only[List.length_nil];omega,js⟩ ?_;rintro m a f1 s ⟨acc,j,c,rfl,hA,rfl,hj,nO,cj,hG⟩;rcases m with _ | m;exact hG.elim;have bx:=ih m Om;simp only[gr] at hG;rcases hA with ⟨rfl,rfl⟩ | ⟨av,rfl⟩;all_goals (conv=>whnf))
  | (refine qG (λm s=>∃acc j,s=⟨1,[oR sl j,oN qR,oN (nA n1 l1 x1 o1 aA),oN (nC 42 l1 [] 0 (.own 0 26 5 (lr (.mk n1 l1 x1 o1 aA)::c7 acc)))]⟩/\j<=ts.length/\m<=f/\2*acc.length+1<=j/\Gd E P (gr ts m (.jR (.mk n1 l1 x1 o1 aA) acc) j)) f [0] rfl ⟨[],_,rfl,Om,Nat.le_refl _,by simp only[List.length_nil];omega,hG⟩ ?_;rintro m f1 s ⟨acc,j,rfl,hj,nO,cj,hG⟩;rcases m with _ | m;exact hG.elim;have bx:=ih m Om;simp only[gr] at hG;conv=>whnf)
  | (refine qG (λm s=>∃ke le xe oe kse kv lv xv ov ksv acc j,s=⟨1,[oR sl j,oN qR,oN (nA ke le xe oe kse),oN (nA kv lv xv ov ksv),oN (nC 54 ln [] 0 (.own 0 26 5 (c7 acc)))]⟩/\j<=ts.length/\m<=f/\2*acc.length<=j+1/\Gd E P (gr ts m (.rW ln acc) j)) f [0] rfl ⟨_,_,_,_,_,_,_,_,_,_,[_,_],_,rfl,Om,Nat.le_refl _,by simp only[List.length_cons,List.length_nil];omega,hG⟩ ?_;rintro m f1 s ⟨ke,le,xe,oe,kse,kv,lv,xv,ov,ksv,acc,j,rfl,hj,nO,cj,hG⟩;rcases m with _ | m;exact hG.elim;have bx:=ih m Om;simp only[gr] at hG;conv=>whnf)
  | (refine qG (λm s=>∃k l x o ks acc j ln,s=⟨1,[oR sl j,oN qR,oN (nA k l x o ks),oN (nC 3 ln [] 0 (.own 0 26 5 (c7 acc)))]⟩/\j<=ts.length/\m<=f/\acc≠ []/\2*acc.length<=j+1/\Gd E P (gr ts m (.jp ln acc) j)) f [0] rfl ⟨_,_,_,_,_,[.mk n1 l1 x1 o1 aA],_,_,rfl,Om,Nat.le_refl _,s0,by simp only[List.length_cons,List.length_nil];omega,hG⟩ ?_;rintro m f1 s ⟨k,l,x,o,ks,acc,j,ln,rfl,hj,nO,av,cj,hG⟩;rcases m with _ | m;exact hG.elim;have bx:=ih m Om;obtain⟨⟨k2,l2,x2,o2,dF⟩,Br⟩:=Rv av;simp only[gr,Br] at hG;conv=>whnf)
  | (refine qG (λm s=>∃acc j c ln,Ch acc c/\s=⟨1,[oR sl j,oN qR,oN (nC 1 ln [] 0 c)]⟩/\j<=ts.length/\m<=f/\2*acc.length<=j/\Gd E P (gr ts m (.a9 acc) j)) f [99] rfl ⟨[],_,_,_, .inl ⟨rfl,rfl⟩,rfl,Om,Nat.le_refl _,by simp only[List.length_nil];omega,hG⟩ ?_;rintro m f1 s ⟨acc,j,c,ln,hA,rfl,hj,nO,cj,hG⟩;rcases m with _ | m;exact hG.elim;have bx:=ih m Om;simp only[gr] at hG;rcases hA with ⟨rfl,rfl⟩ | ⟨av,rfl⟩;rotate_left;rcases acc with _ | ⟨⟨k2,l2,x2,o2,dF⟩,acc⟩;exact absurd rfl av;all_goals (try simp only[List.length_cons,List.length_nil] at cj);all_goals (conv=>whnf))
  | (obtain⟨P2,RP⟩ : ∃P2:List Nd->Nat->Prop,∀acc j,P2 acc j↔Gd E P (gr ts f (.nR ln acc) j):=⟨_,λ_ _=>Iff.rfl⟩;have hG:Gd E P2 (gr ts f (.lT [.mk n1 l1 x1 o1 aA]) j1):=(Mm.1 hG).mono (λ_ h=>h) λl j h=>(RP l j).2 h;refine qH 6 (λm a s=>∃acc j b,a=rS (.bool b)/\s=⟨1,[oR sl j,oN qR,oN (nC 15 ln [] 0 (.own 0 26 5 (c7 acc)))]⟩/\j<=ts.length/\m<=f/\1<=acc.length/\2*acc.length<=j+1/\((b=false/\Gd E P2 (gr ts m (.lT acc) j))\/(b=true/\P2 acc j))) f [0] rfl ⟨[.mk n1 l1 x1 o1 aA],_,false,rfl,rfl,Om,Nat.le_refl _,Nat.le_refl _,by simp only[List.length_cons,List.length_nil];omega, .inl ⟨rfl,hG⟩⟩ ?_;rintro m a f1 s ⟨acc,j,b,rfl,rfl,hj,nO,kP,cj,⟨rfl,hG⟩ | ⟨rfl,hG⟩⟩;rcases m with _ | m;exact hG.elim;have bx:=ih m Om;simp only[gr] at hG;(conv=>whnf);rotate_left;have hG:=(RP _ _).1 hG;rcases f with _ | f;exact hG.elim;simp only[gr] at hG;have bx:=ih f Om;conv=>whnf)
  | (refine qG (λm s=>∃km lm xm om ksm kl ll xl ol ksl acc j ln,s=⟨1,[oR sl j,oN (nA k l x o ks),oN qR,oN (nA km lm xm om ksm),oN (nA kl ll xl ol ksl),oN (nC 52 ln [] 0 (.own 0 26 5 (c7 acc)))]⟩/\j<=ts.length/\m<=f/\2*acc.length<=j+1/\Gd E P (bu (gr ts m (.qc ln acc) j) λt j2=>bI (nd 46 l [.mk k l x o ks,t]) j2)) f [0] rfl ⟨_,_,_,_,[],_,_,_,_,_,[.mk n1 l1 x1 o1 aA],_,_,rfl,Om,Nat.le_refl _,by simp only[List.length_cons,List.length_nil];omega,hG⟩ ?_;rintro m f1 s ⟨km,lm,xm,om,ksm,kl,ll,xl,ol,ksl,acc,j,ln,rfl,hj,nO,cj,hG⟩;have hG:=Iw.1 hG;rcases m with _ | m;exact hG.elim;have bx:=ih m Om;simp only[gr] at hG;conv=>whnf)):Pz:=hz
section
variable {Z:TP} {X:ce} {W:Int->ae} {ts:List PT} {sl:Sl} {f:Nat}
theorem aiV(C:dH Z X W ts sl)(ih : ∀g,g<=f->ib Z X W ts sl g):PC Z X W ts sl (f+1) .expr 35 [.ptr 0 0] dQ:=by
 intro i Q R E P hi hG hE hQ;have bx:=ih f (ag f);have d:=C.len;have js:=hG;simp only[gr] at hG;refine gq fP Rl Kr (bq ?_)
 conv=>whnf
 exact jE
theorem aiW(C:dH Z X W ts sl)(ih : ∀g,g<=f->ib Z X W ts sl g):PC Z X W ts sl (f+1) .or 62 [.ptr 0 0] dQ:=by
 intro i Q R E P hi hG hE hQ;have bx:=ih f (ag f);have d:=C.len;have js:=hG;simp only[gr] at hG;refine gq fP Rl Kr (bq ?_)
 conv=>whnf
 exact jE
theorem aiX(C:dH Z X W ts sl)(ih : ∀g,g<=f->ib Z X W ts sl g):PC Z X W ts sl (f+1) .and 81 [.ptr 0 0] dQ:=by
 intro i Q R E P hi hG hE hQ;have bx:=ih f (ag f);have d:=C.len;have js:=hG;simp only[gr] at hG;refine gq fP Rl Kr (bq ?_)
 conv=>whnf
 exact jE
theorem aiY(C:dH Z X W ts sl)(ih : ∀g,g<=f->ib Z X W ts sl g):PC Z X W ts sl (f+1) .not 96 [.ptr 0 0] dQ:=by
 intro i Q R E P hi hG hE hQ;have bx:=ih f (ag f);have d:=C.len;have js:=hG;simp only[gr] at hG;refine gq fP Rl Kr (bq ?_)
 conv=>whnf
 exact jE
theorem aiZ(C:dH Z X W ts sl)(ih : ∀g,g<=f->ib Z X W ts sl g):PC Z X W ts sl (f+1) .compare 105 [.ptr 0 0] dQ:=by
 intro i Q R E P hi hG hE hQ;have bx:=ih f (ag f);have d:=C.len;have js:=hG;simp only[gr] at hG;refine gq fP Rl Kr (bq ?_)
 conv=>whnf
 exact jE
theorem ai0(C:dH Z X W ts sl)(ih : ∀g,g<=f->ib Z X W ts sl g):PC Z X W ts sl (f+1) .arith 110 [.ptr 0 0] dQ:=by
 intro i Q R E P hi hG hE hQ;have bx:=ih f (ag f);have d:=C.len;have js:=hG;simp only[gr] at hG;refine gq fP Rl Kr (bq ?_)
 conv=>whnf
 exact jE
theorem ai1(C:dH Z X W ts sl)(ih : ∀g,g<=f->ib Z X W ts sl g):PC Z X W ts sl (f+1) .term 113 [.ptr 0 0] dQ:=by
 intro i Q R E P hi hG hE hQ;have bx:=ih f (ag f);have d:=C.len;have js:=hG;simp only[gr] at hG;refine gq fP Rl Kr (bq ?_)
 conv=>whnf
 exact jE
theorem ai2(C:dH Z X W ts sl)(ih : ∀g,g<=f->ib Z X W ts sl g):PC Z X W ts sl (f+1) .oD 114 [.ptr 0 0] dQ:=by
 intro i Q R E P hi hG hE hQ;have bx:=ih f (ag f);have d:=C.len;have js:=hG;simp only[gr] at hG;refine gq fP Rl Kr (bq ?_)
 conv=>whnf
 exact jE
theorem ai3(C:dH Z X W ts sl)(ih : ∀g,g<=f->ib Z X W ts sl g):PC Z X W ts sl (f+1) .primary 69 [.ptr 0 0] dQ:=by
 intro i Q R E P hi hG hE hQ;have bx:=ih f (ag f);have d:=C.len;have js:=hG;simp only[gr] at hG;refine gq fP Rl Kr (bq ?_)
 conv=>whnf
 exact jE
theorem ai4(C:dH Z X W ts sl)(ih : ∀g,g<=f->ib Z X W ts sl g):PC Z X W ts sl (f+1) .atom 83 [.ptr 0 0] dQ:=by
 intro i Q R E P hi hG hE hQ;have bx:=ih f (ag f);have n:=C.len;simp only[gr] at hG;refine gq fP Rl Kr (bq ?_)
 conv=>whnf
 refine EW C Om ?_;obtain⟨t,ht⟩ : ∃t,ah ts i=t:=⟨_,rfl⟩;have d:(ah ts i).kind≠0->i<ts.length:=yX;rw[ht] at hG d⊢;obtain⟨kd,lt,xt⟩:=t;by_cases hk:4<=kd/\kd<=7
 ·have hl:i<ts.length:=d (by show kd≠0;omega);rw[iP hk] at hG;obtain rfl | rfl | rfl | rfl:kd=4\/kd=5\/kd=6\/kd=7:=by omega
  all_goals
   conv=>whnf
   refine aiO hk.1 hk.2 ?_;conv=>whnf
   repeat (refine⟨rfl,?_⟩;conv=>whnf)
   exact Mx rfl (RM C hl) (hQ _ _ hG Om)
 rw[iN hk] at hG;conv=>whnf
 exact jE
theorem ai5(C:dH Z X W ts sl)(ih : ∀g,g<=f->ib Z X W ts sl g):PC Z X W ts sl (f+1) .exprs 39 [.ptr 0 0] dQ:=by
 intro i Q R E P hi hG hE hQ;have bx:=ih f (ag f);have d:=C.len;have js:=hG;simp only[gr] at hG;refine gq fP Rl Kr (bq ?_)
 conv=>whnf
 exact jE
theorem ai6(C:dH Z X W ts sl)(ih : ∀g,g<=f->ib Z X W ts sl g):PC Z X W ts sl (f+1) .one 65 [.ptr 0 0] dQ:=by
 intro i Q R E P hi hG hE hQ;have bx:=ih f (ag f);have d:=C.len;have js:=hG;simp only[gr] at hG;refine gq fP Rl Kr (bq ?_)
 conv=>whnf
 exact jE
theorem ai7(C:dH Z X W ts sl)(ih : ∀g,g<=f->ib Z X W ts sl g):PC Z X W ts sl (f+1) .sV 38 [.ptr 0 0] dQ:=by
 intro i Q R E P hi hG hE hQ;have bx:=ih f (ag f);have d:=C.len;have js:=hG;simp only[gr] at hG;refine gq fP Rl Kr (bq ?_)
 conv=>whnf
 exact jE
theorem ai8(C:dH Z X W ts sl)(ih : ∀g,g<=f->ib Z X W ts sl g):PC Z X W ts sl (f+1) .simple 44 [.ptr 0 0] dQ:=by
 intro i Q R E P hi hG hE hQ;have bx:=ih f (ag f);have d:=C.len;have js:=hG;simp only[gr] at hG;refine gq fP Rl Kr (bq ?_)
 conv=>whnf
 exact jE
theorem ai9(C:dH Z X W ts sl)(ih : ∀g,g<=f->ib Z X W ts sl g):PC Z X W ts sl (f+1) .plain 71 [.ptr 0 0] dQ:=by
 intro i Q R E P hi hG hE hQ;have bx:=ih f (ag f);have d:=C.len;have js:=hG;simp only[gr] at hG;refine gq fP Rl Kr (bq ?_)
 conv=>whnf
 exact jE
theorem ai'(C:dH Z X W ts sl)(ih : ∀g,g<=f->ib Z X W ts sl g):PC Z X W ts sl (f+1) .value 85 [.ptr 0 0] dQ:=by
 intro i Q R E P hi hG hE hQ;have bx:=ih f (ag f);have d:=C.len;have js:=hG;simp only[gr] at hG;refine gq fP Rl Kr (bq ?_)
 conv=>whnf
 exact jE
theorem aja(C:dH Z X W ts sl)(ih : ∀g,g<=f->ib Z X W ts sl g):PC Z X W ts sl (f+1) .block 37 [.ptr 0 0] dQ:=by
 intro i Q R E P hi hG hE hQ;have bx:=ih f (ag f);have d:=C.len;have js:=hG;simp only[gr] at hG;refine gq fP Rl Kr (bq ?_)
 conv=>whnf
 exact jE
theorem ajb(C:dH Z X W ts sl)(ih : ∀g,g<=f->ib Z X W ts sl g):PC Z X W ts sl (f+1) .stmt 23 [.ptr 0 0] dQ:=by
 intro i Q R E P hi hG hE hQ;have bx:=ih f (ag f);have d:=C.len;have js:=hG;simp only[gr] at hG;refine gq fP Rl Kr (bq ?_)
 conv=>whnf
 exact jE
theorem ajc(C:dH Z X W ts sl)(ih : ∀g,g<=f->ib Z X W ts sl g) : ∀(cl:List UInt8) (ln:Int),cl≠ []->PC Z X W ts sl (f+1) (.params cl ln []) 41 [.ptr 0 0,rS (.int .i64 ln),rS (.string ⟨⟨cl⟩⟩)] dQ:=by
 intro cl ln cl_ne i Q R E P hi hG hE hQ;have bx:=ih f (ag f);have d:=C.len;have js:=hG;simp only[gr] at hG;refine gq fP Rl Kr (bq ?_)
 conv=>whnf
 exact jE
theorem ajd(C:dH Z X W ts sl)(ih : ∀g,g<=f->ib Z X W ts sl g) : ∀(cl:List UInt8),cl≠ []->PC Z X W ts sl (f+1) (.row cl []) 42 [.ptr 0 0,rS (.string ⟨⟨cl⟩⟩)] EY:=by
 intro cl cl_ne i Q R E P hi hG hE hQ;have bx:=ih f (ag f);have d:=C.len;have js:=hG;simp only[gr] at hG;refine gq fP Rl Kr (bq ?_)
 conv=>whnf
 exact jE
theorem aje(C:dH Z X W ts sl)(ih : ∀g,g<=f->ib Z X W ts sl g) : ∀(k:Nat) (l:Int) (x:List UInt8) (o:Nat) (ks:List Nd),PC Z X W ts sl (f+1) (.index (.mk k l x o ks)) 84 [.ptr 0 0,eC (.mk k l x o ks)] dQ:=by
 intro k l x o ks i Q R E P hi hG hE hQ;have bx:=ih f (ag f);have d:=C.len;have js:=hG;simp only[gr] at hG;refine gq fP Rl Kr (bq ?_)
 conv=>whnf
 exact jE
theorem ajf(C:dH Z X W ts sl)(ih : ∀g,g<=f->ib Z X W ts sl g):PC Z X W ts sl (f+1) (.clauses []) 106 [.ptr 0 0] EY:=by
 intro i Q R E P hi hG hE hQ;have bx:=ih f (ag f);have d:=C.len;have js:=hG;simp only[gr] at hG;refine gq fP Rl Kr (bq ?_)
 conv=>whnf
 exact jE
theorem ajg(C:dH Z X W ts sl)(ih : ∀g,g<=f->ib Z X W ts sl g) : ∀(ln:Int),PC Z X W ts sl (f+1) (.list ln) 98 [.ptr 0 0,rS (.int .i64 ln)] dQ:=by
 intro ln i Q R E P hi hG hE hQ;have bx:=ih f (ag f);have d:=C.len;have js:=hG;simp only[gr] at hG;refine gq fP Rl Kr (bq ?_)
 conv=>whnf
 exact jE
theorem ajh(C:dH Z X W ts sl)(ih : ∀g,g<=f->ib Z X W ts sl g) : ∀(ln:Int),PC Z X W ts sl (f+1) (.qQ ln) 99 [.ptr 0 0,rS (.int .i64 ln)] dQ:=by
 intro ln i Q R E P hi hG hE hQ;have bx:=ih f (ag f);have d:=C.len;have js:=hG;simp only[gr] at hG;refine gq fP Rl Kr (bq ?_)
 conv=>whnf
 exact jE
theorem aji(C:dH Z X W ts sl)(ih : ∀g,g<=f->ib Z X W ts sl g) : ∀(k:Nat) (ln:Int),PC Z X W ts sl (f+1) (.names k ln []) 68 [.ptr 0 0,rS (.int .i64 (k:Nat)),rS (.int .i64 ln)] dQ:=by
 intro k ln i Q R E P hi hG hE hQ;have bx:=ih f (ag f);have d:=C.len;have js:=hG;simp only[gr] at hG;refine gq fP Rl Kr (bq ?_)
 conv=>whnf
 exact jE
theorem ajj(C:dH Z X W ts sl)(ih : ∀g,g<=f->ib Z X W ts sl g) : ∀(k:Nat) (ln:Int) (all:Bool),PC Z X W ts sl (f+1) (.maybe k ln all) 67 [.ptr 0 0,rS (.int .i64 (k:Nat)),rS (.int .i64 ln),rS (.bool all)] dQ:=by
 intro k ln all i Q R E P hi hG hE hQ;have bx:=ih f (ag f);have d:=C.len;simp only[gr] at hG;cases all;all_goals simp only[aM,iF,iT] at hG
 all_goals
  refine gq fP Rl Kr (bq ?_)
  conv=>whnf
  exact jE
theorem ajk(C:dH Z X W ts sl)(ih : ∀g,g<=f->ib Z X W ts sl g) : ∀(ln:Int),PC Z X W ts sl (f+1) (.ifs ln) 34 [.ptr 0 0,rS (.int .i64 ln)] dQ:=by
 intro ln i Q R E P hi hG hE hQ;have bx:=ih f (ag f);have d:=C.len;have js:=hG;simp only[gr] at hG;refine gq fP Rl Kr (bq ?_)
 conv=>whnf
 exact jE
theorem ajl(C:dH Z X W ts sl)(ih : ∀g,g<=f->ib Z X W ts sl g) : ∀(ln:Int),PC Z X W ts sl (f+1) (.tries ln) 43 [.ptr 0 0,rS (.int .i64 ln)] dQ:=by
 intro ln i Q R E P hi hG hE hQ;have bx:=ih f (ag f);have d:=C.len;have js:=hG;simp only[gr] at hG;refine gq fP Rl Kr (bq ?_)
 conv=>whnf
 exact jE
end
end
section
open Go Go.RowKit
attribute [local irreducible] TC ai ah iR fw
section
variable {Z:TP} {X:ce} {W:Int->ae} {ts:List PT} {sl:Sl} {f:Nat}
theorem ajm:ib Z X W ts sl 0:=by
 constructor;all_goals (intros;intro i Q R E P hi a b c;exact a.elim)
theorem ajn(C:dH Z X W ts sl)(ih : ∀g,g<=f->ib Z X W ts sl g):ib Z X W ts sl (f+1):=⟨aiV C ih,aiW C ih,aiX C ih,aiY C ih,aiZ C ih,ai0 C ih,ai1 C ih,ai2 C ih,ai3 C ih,ai4 C ih,ai5 C ih,ai6 C ih,ai7 C ih,ai8 C ih,ai9 C ih,ai' C ih,aja C ih,ajb C ih,ajc C ih,ajd C ih,aje C ih,ajf C ih,ajg C ih,ajh C ih,aji C ih,ajj C ih,ajk C ih,ajl C ih⟩
theorem ajo(C:dH Z X W ts sl) : ∀f,ib Z X W ts sl f:=by
 intro f;induction f using Nat.strongRecOn with
 | _ f ih=>
   cases f with
   | zero=>exact ajm
   | succ f=>exact ajn C λg hg=>ih g Om
end
end
section
open Go Go.RowKit
def nm:Nd:= .mk 0 0 [] 0 []
def jS(ts:List PT):Nd×Int×Int:=match gr ts (ts.length*64+100) (.top []) 0 with
 | some (.ok (l,_))=>if 60<eY l+1 then (nm,0,11) else (nd 1 (An (ah ts 0).line l) l,0,0)
 | some (.error e)=>(nm,(ah ts e).line,22)
 | none=>(nm,0,0)
noncomputable def kw:List Item×List Item×bU×bU×bU:=match (rF Tryz.prog 11).body with
 | .seq (.gI a) (.seq (.gI b) (.seq .bad (.seq c (.seq d e))))=>(a,b,c,d,e)
 | _=>([],[], .skip, .skip, .skip)
theorem ajp:(rF Tryz.prog 11).body= .seq (.gI kw.1) (.seq (.gI kw.2.1) (.seq .bad (.seq kw.2.2.1 (.seq kw.2.2.2.1 kw.2.2.2.2)))):=by kernel_rfl
theorem aaw:(rF Tryz.prog 11).res= [.j9 5 2, .ld 3, .ld 4]:=by kernel_rfl
def oF (H:CH)(sl:Sl):CH:=(((H.new (.cells [.int .i64 0, .int .i64 0, .string ⟨⟨[]⟩⟩, .int .i64 0, .slice none 0 0] 26 .ex)).new (.cells [.int .i64 0] 3 .ex)).new (.cells [.int .i64 0] 27 .ex)).new (y0 sl 0)
abbrev pP(l:Nat):ae:= .pointer (some ⟨l,0,none⟩)
theorem ajq{H:CH}{fr:Fr}{sl:Sl}(d:fr 0= .slice sl.q sl.n sl.c):dB (bj Tryz.prog LG GG) (.gI kw.1) fr H λx aj H1=>x= .normal/\dB (bj Tryz.prog LG GG) (.gI kw.2.1) aj H1 λx aX e=>x= .normal/\aX 2=pP H.nx/\aX 3=pP (H.nx+1)/\aX 4=pP (H.nx+2)/\aX 5=pP (H.nx+3)/\e=oF H sl:=by
 have a:kw.1=_:=rfl;conv at a=>rhs;reduce
 have b:kw.2.1=_:=rfl;conv at b=>rhs;reduce
 rw[a,b];refine rn @d ?_;rfl
def ID (H:CH)(sl:Sl):TP:= .plain (λb=>∃o,sl.q=some ⟨b,o,none⟩) H.ob
theorem ajr{H:CH}{sl:Sl}{ts:List PT}(h:fU 3 qd H sl.q sl.c ts){b:Nat}(hb:(ID H sl).N b):b<H.nx:=by
 obtain⟨o,ho⟩:=hb;rcases h with ⟨_,_,h | h | h⟩ | ⟨l,o',os,e,k,q,hl,_⟩
 ·rw[h] at ho;cases ho
 ·rw[h] at ho;cases ho
 ·rw[h] at ho;cases ho
 rw[q] at ho;cases ho;exact hl
theorem ajs{H:CH}{sl:Sl}{ts:List PT}(h:fU 3 qd H sl.q sl.c ts)(hn:sl.n=ts.length):Mr (ID H sl) sl ts:=by
 refine⟨hn,λl o q=>⟨o,q⟩,λK a=> ?_⟩;rcases h with ⟨h1,h2,h3⟩ | ⟨l,o,os,e,k,q,h1,h2,h3,h4,h5,b⟩
 ·exact .inl ⟨h1,h2,h3⟩
 obtain⟨d,i⟩:=a l ⟨o,q⟩;exact .inr ⟨l,o,os,e,k,q,d,h2,h3,i.trans h4,h5,b⟩
def prF (H:CH):aR:=λt=> [.bad, .bad,rS (pP H.nx),rS (pP (H.nx+1)),rS (pP (H.nx+2)), .ptr 0 0].getD t .bad
theorem Ar{H:CH}{sl:Sl}:(oF H sl).nx=H.nx+4:=rfl
theorem RQ{H:CH}{sl:Sl}{b:Nat}(hb:b<H.nx):(oF H sl).ob b=H.ob b:=by
 unfold oF;rw[kN (by simp only[gN];omega),kN (by simp only[gN];omega),kN (by simp only[gN];omega),kN Om]
theorem ajt{H:CH}{sl:Sl}:(oF H sl).ob (H.nx+3)=y0 sl 0:=fZ.trans (iP rfl)
theorem aju{H:CH}{sl:Sl}{ts:List PT}(h:fU 3 qd H sl.q sl.c ts){aP:Fr}(a:aP 2=pP H.nx)(d:aP 3=pP (H.nx+1))(i:aP 4=pP (H.nx+2))(j:aP 5=pP (H.nx+3)) :
 TR (ID H sl) (oF H sl) (some (H.nx+3)) (λ_=>False) (oF H sl) (cZ (ir sl 0)) (prF H) aP (E0 (some (H.nx+3)) λb=>b<H.nx+4/\b≠H.nx+3):=by
 have t0:TR (ID H sl) (oF H sl) (some (H.nx+3)) (λ_=>False) (oF H sl) (cZ (ir sl 0)) (λt=>([]:List AV).getD t .bad) (λt=>([]:List ae).getD t undef) (E0 (some (H.nx+3)) λb=>b<H.nx+4/\b≠H.nx+3):=by
  refine TR.start (e:=none) (W:=λ_=>False) (λb hb=>⟨hb.1,λe=>hb.2 (by cases e;rfl)⟩) (λ_ h=>h.elim) (λb hb=> ?_) .nil (aam (by rw[Ar];omega) ajt) (.inl ⟨rfl,λ_ h=>h⟩);have:=ajr h hb;exact⟨by rw[Ar];omega,λe=>by cases e;omega,id,RQ this⟩
 refine { t0 with fH:=λt=> ?_ };match t with
 | 0=>exact .bad
 | 1=>exact .bad
 | 2=>rw[a];exact Cf rfl
 | 3=>rw[d];exact Cf rfl
 | 4=>rw[i];exact Cf rfl
 | 5=>rw[j];exact .ptr rfl
 | n+6=>exact .bad
theorem E6{K:CH}{p b:Nat}{o:dr}(h:b≠p):(K.set p o).ob b=K.ob b:=by
 simp only[CH.set];rw[iN h]
theorem IE{T:cF}{X:ce}{f:bk}{args:List AV}{Q:AV->List SV->Prop}(h:TC (.plain (λ_=>False) λ_=> .dead) T X f args none Q λ_=>False){K:CH}{vs:List ae}(hv:R2 (bX K (E0 none λ_=>False)) args vs):bw T f vs K λv K'=>aI K K'/\∃a s',bX K' (E0 none λ_=>False) a v/\Q a s':=by
 rcases h K none (λ_=>False) (λ_=>False) vs (λ_ h=>h.elim) (λ_ h=>h) (λ_ h=>h.elim) hv rfl (λ_ h=>h) with h | ⟨n,v,H',_,h⟩
 ·exact h.mono λv K' ⟨h1,h2,li,W',a,s',_,h3,hc,_,_,h4⟩=>⟨⟨h1,λb hb=>h2 b hb s0 id⟩,a,s',h3.yP hc (λ_=>rfl) λb hb=>⟨⟨hb.1,id,hb.2.2⟩,rfl⟩,h4⟩
 exact h.2.2.elim
attribute [local irreducible] TC ai ah iR fw
theorem ajv{Z:TP}{X:ce}{W:Int->ae}{ts:List PT}{sl:Sl}{H:CH}{R:ae->Prop}(C:dH Z X W ts sl):kQ Z (bj Tryz.prog LG GG) X DT R kw.2.2.1 (prF H) (cZ (ir sl 0)) λx fr st=>x= .normal/\(∃nt v,st=⟨nt,[(v,59,(oR sl 0).2.2),(v,26,nC 1 (ah ts 0).line [] 0 (.s (.row 5 [])))]⟩)/\fr 2=rS (pP H.nx)/\fr 3=rS (pP (H.nx+1))/\fr 4=rS (pP (H.nx+2))/\fr 5= .ptr 0 0/\fr 6= .ptr 1 0:=by
 have e:kw.2.2.1=_:=rfl;conv at e=>rhs;reduce
 rw[e];clear e;conv=>whnf
 refine EW C (fa _) ?_;conv=>whnf
 exact⟨rfl,⟨_,_,rfl⟩,rfl,rfl,rfl,rfl,rfl⟩
def prG (H:CH):aR:=λt=> [.bad, .bad,rS (pP H.nx),rS (pP (H.nx+1)),rS (pP (H.nx+2)), .ptr 0 0, .ptr 1 0].getD t .bad
def ajw (acc:List Nd)(c:CV):Prop:=(acc= []/\c= .s (.row 5 []))\/∃t,c= .own t 26 5 (c7 acc)
theorem ajx{Z:TP}{X:ce}{W:Int->ae}{ts:List PT}{sl:Sl}{H:CH}{R:ae->Prop}(C:dH Z X W ts sl){f nt v:Nat}(ih : ∀m,m<f->ib Z X W ts sl m){E:Nat->Prop}{P:List Nd->Nat->Prop}(a:Gd E P (gr ts f (.top []) 0))(hE : ∀e,E e->R (W (ah ts e).line)) :
 kQ Z (bj Tryz.prog LG GG) X DT R kw.2.2.2.1 (prG H) ⟨nt,[(v,59,(oR sl 0).2.2),(v,26,nC 1 (ah ts 0).line [] 0 (.s (.row 5 [])))]⟩ λx fr st=>x= .normal/\(∃l j nt u v c,P l j/\ajw l c/\st=⟨nt,[(u,59,(oR sl j).2.2),(v,26,nC 1 (An (ah ts 0).line l) [] 0 c)]⟩)/\fr 2=rS (pP H.nx)/\fr 3=rS (pP (H.nx+1))/\fr 4=rS (pP (H.nx+2))/\fr 6= .ptr 1 0:=by
 have e:kw.2.2.2.1=_:=rfl;conv at e=>rhs;reduce
 rw[e];clear e;have i:=C.len;conv=>whnf
 refine qG (λm s=>∃acc j c,Ch acc c/\s=⟨1,[oR sl j,oN (nC 1 (An (ah ts 0).line acc) [] 0 c)]⟩/\j<=ts.length/\m<=f/\2*acc.length<=j/\Gd E P (gr ts m (.top acc) j)) f [99] rfl ⟨[],_,_, .inl ⟨rfl,rfl⟩,rfl,Om,ag _,by simp only[aF];omega,a⟩ ?_;rintro m f1 s ⟨acc,j,c,hA,rfl,q,t,k,a⟩;rcases m with _ | m
 ·exact a.elim
 have d:=ih m Om;simp only[gr] at a;rcases hA with ⟨rfl,rfl⟩ | ⟨av,rfl⟩
 rotate_left
 rcases acc with _ | ⟨⟨y,z,A,o2,B⟩,acc⟩
 ·exact absurd rfl av
 all_goals
  try simp only[ay,aF] at k
  conv=>whnf
  refine EW C Om ?_;conv=>whnf
  generalize hk:((ah ts j).kind != Int.ofNat 0)=n;cases n
  ·have b:(ah ts j).kind=0:=by simpa using hk
   rw[iP b] at a;conv=>whnf
   first
    | exact⟨rfl,⟨_,_,_,_,_,_,a, .inr ⟨_,rfl⟩,rfl⟩,rfl,rfl,rfl,rfl⟩
    | exact⟨rfl,⟨_,_,_,_,_,_,a, .inl ⟨rfl,rfl⟩,rfl⟩,rfl,rfl,rfl,rfl⟩
  have b : ¬(ah ts j).kind=0:=by simpa using hk
  rw[iN b] at a;have D:=yX b;conv=>whnf
  repeat' first
   | (refine jD d.stmt a Tv rfl He Om ?_;intro n1 F G o1 I K o L a;simp only[NT.min] at o;conv=>whnf)
   | (intro (M:_<=maxLen);conv=>whnf)
   | exact⟨m,[2],Om,rfl,_,_,_,IC rfl,rfl,Om,Om,(by simp only[bW,ay,aF] at *;omega),a⟩
   | (refine⟨rfl,0,_,rfl,rfl,?_⟩;conv=>whnf)
   | (refine⟨rfl,?_⟩;conv=>whnf)
   | (refine⟨bdA (by simp only[bW,ay,aF,c8];omega),?_⟩;conv=>whnf)
theorem aax{K:CH}{A:Nat->Prop}{sz:Nat}{gs:List (List SV)}{w:ae}(h:fM K A (.row sz gs) w) : ∃a n c,w= .slice a n c:=by
 cases h with
 | ot=>exact⟨_,_,_,rfl⟩
 | row=>exact⟨_,_,_,rfl⟩
theorem Ck{K:CH}{A:Nat->Prop}(hA : ∀b,A b->b<K.nx){k:Nat}{l:Int}{x:List UInt8}{o:Nat}{ks:List Nd}{w:ae}(hw:fM K A (.row 5 (c7 ks)) w):R2 (bX K (E0 none λ_=>False)) [eC (.mk k l x o ks)] [.agg #[.int .i64 (k:Nat), .int .i64 l, .string ⟨⟨x⟩⟩, .int .i64 (o:Nat),w]]:=by
 refine .cons ?_ .nil;have a:fM K (dw K (E0 none λ_=>False)) (.row 5 (c7 ks)) w:=hw.mv λb hb=>⟨⟨hA b hb,λh=>h,(λ_ q=>(by cases q)),λo q=>(by
  have q:(if o=0 then none else none)=some b:=q;split at q<;>cases q)⟩,rfl⟩
 exact .r (.agg (vs:= [.int .i64 (k:Nat), .int .i64 l, .string ⟨⟨x⟩⟩, .int .i64 (o:Nat),w]) (.cons (.s (.sc rfl)) (.cons (.s (.sc rfl)) (.cons (.s (.sc rfl)) (.cons (.s (.sc rfl)) (.cons (.s a) .nil))))))
theorem ajy{K:CH}{A:Nat->Prop}(hA : ∀b,A b->b<K.nx){k:Nat}{l:Int}{x:List UInt8}{o:Nat}{ks:List Nd}{w:ae}(hw:fM K A (.row 5 (c7 ks)) w)(hh:eY ks+1<=9223372036854775807):bw (bj Tryz.prog LG GG) 12 [.agg #[.int .i64 (k:Nat), .int .i64 l, .string ⟨⟨x⟩⟩, .int .i64 (o:Nat),w]] K λv K'=>aI K K'/\v= .int .i64 (eY ks+1:Nat):=
 (IE (X:=pX) (aiT (tU (.mk k l x o ks)+1) k l x o ks (nX _) hh (λa _=>a=rS (.int .i64 (eY ks+1:Nat))) _ rfl) (Ck hA hw)).mono λv K' ⟨h1,a,c,h2,h3⟩=>⟨h1,by subst h3;exact ox h2 rfl⟩
def MA (H:CH)(t:Nd)(ln a:Int)(vs:List ae)(K':CH):Prop:=aI H K'/\∃os,vs= [.agg os.toArray, .int .i64 ln, .int .i64 a]/\fk K' (λb=>H.nx<=b/\b<K'.nx) (lr t) os
def TyV (vs:List ae)(K':CH):Prop:=∀a d e i b n c r,vs= .agg #[a,d,e,i, .slice (some ⟨b,0,none⟩) n c]::r->∃cs kd,K'.ob b= .cells cs 26 kd
theorem ajz{H K:CH}{fr:Fr}{b:Nat}{l:List Nd}{ln:Int}{w:ae}(h2:fr 2=pP H.nx)(h3:fr 3=pP (H.nx+1))(h4:fr 4=pP (H.nx+2))(m:fr 6=pP b)(o2:K.ob H.nx= .cells [.int .i64 0, .int .i64 0, .string ⟨⟨[]⟩⟩, .int .i64 0, .slice none 0 0] 26 .ex)(z:K.ob (H.nx+1)= .cells [.int .i64 0] 3 .ex)(A:K.ob (H.nx+2)= .cells [.int .i64 0] 27 .ex)
 (s:K.ob b= .cells [.int .i64 1, .int .i64 ln, .string ⟨⟨[]⟩⟩, .int .i64 0,w] 26 .ex) (hn:H.nx+4<=K.nx) (hb:b<K.nx) (B:H.nx+4<=b) (hw:fM K (λb=>H.nx+4<=b/\b<K.nx) (.row 5 (c7 l)) w) (hh:eY l+1<=9223372036854775807) (d : ∀b,b<H.nx->K.ob b=H.ob b) (C : ∀b n c,w= .slice (some ⟨b,0,none⟩) n c->b<K.nx/\H.nx+4<=b/\∃cs kd,K.ob b= .cells cs 26 kd) :
 dB (bj Tryz.prog LG GG) kw.2.2.2.2 fr K λx fr' K'=>x= .ret/\∃vs,ct fr' K' [.j9 5 2, .ld 3, .ld 4]=some vs/\MA H (if 60<eY l+1 then nm else .mk 1 ln [] 0 l) 0 (if 60<eY l+1 then 11 else 0) vs K'/\TyV vs K':=by
 obtain⟨T,U,V,rfl⟩ : ∃a n c,w= .slice a n c:=by
  exact aax hw
 have e:kw.2.2.2.2=_:=rfl;conv at e=>rhs;reduce
 rw[e];clear e;refine rn (an @m @s) ?_;refine(ajy (k:=1) (x:= []) (o:=0) (λ_ h=>h.2) hw hh).mono λv D ⟨hx,e⟩=> ?_;subst e;have t:=(hx.ob _ (show H.nx<K.nx by omega)).trans o2;have u:=(hx.ob _ (show H.nx+1<K.nx by omega)).trans z;have y:=(hx.ob _ (show H.nx+2<K.nx by omega)).trans A;have E:=(hx.ob _ hb).trans s;have G:=hx.nx;have i:aI H D:=⟨Om,λb hb=>(hx.ob b Om).trans (d b hb)⟩;by_cases Y:60<eY l+1
 ·have j:decide ((60:Int)<((eY l+1:Nat):Int))=true:=decide_eq_true Om;refine rn (xC @h2 @h3 @h4 @t @u @y @j) ?_;refine⟨_,rfl,⟨((i.set (ag _) _).set Om _).set Om _,_,rfl, .cons (.sc rfl) (.cons (.sc rfl) (.cons (.sc rfl) (.cons (.sc rfl) (.cons .ot .nil))))⟩,?_⟩;intro I L M N b n c r e;simp at e
 have j:decide ((60:Int)<((eY l+1:Nat):Int))=false:=decide_eq_false Om;refine rn (A3 @h2 @h3 @h4 @m @t @u @y @E @j) ?_;refine⟨_,rfl,⟨((i.set (ag _) _).set Om _).set Om _,_,rfl, .cons (.sc rfl) (.cons (.sc rfl) (.cons (.sc rfl) (.cons (.sc rfl) (.cons (hw.mv λb hb=>⟨⟨Om,ek hb.2 G⟩,?_⟩) .nil))))⟩,?_⟩;·rw[E6 Om,E6 Om,E6 Om];exact hx.ob b hb.2
 intro I L M N b n c r e;simp only[List.cons.injEq,Value.agg.injEq,Array.mk.injEq] at e;obtain⟨⟨_,_,_,_,e,_⟩,_⟩:=e;obtain⟨O,q2,cs,kd,S⟩:=C b n c e;exact⟨cs,kd,by rw[E6 Om,E6 Om,E6 Om,hx.ob b O];exact S⟩
end
section
open Go Go.RowKit
theorem ajA{H K:CH}{l:Int}(o2:K.ob H.nx= .cells [.int .i64 0, .int .i64 0, .string ⟨⟨[]⟩⟩, .int .i64 0, .slice none 0 0] 26 .ex)(a:K.ob (H.nx+1)= .cells [.int .i64 0] 3 .ex)(b:K.ob (H.nx+2)= .cells [.int .i64 0] 27 .ex)(hn:H.nx+4<=K.nx) :
 Iz [pP H.nx,pP (H.nx+1),pP (H.nx+2)] (mP l) K ((((Ap K l).set H.nx (.cells [.int .i64 0, .int .i64 0, .string ⟨⟨[]⟩⟩, .int .i64 0, .slice none 0 0] 26 .ex)).set (H.nx+1) (.cells [.int .i64 l] 3 .ex)).set (H.nx+2) (.cells [.int .i64 22] 27 .ex)):=by
 refine⟨rfl,l,rfl,?_⟩;unfold Ap;conv in Cg=>reduce
 have c:H.nx≠K.nx:=by omega
 have d:H.nx+1≠K.nx:=by omega
 have e:H.nx+2≠K.nx:=by omega
 exact rz (FT @o2 @a @b @c @d @e)
theorem ajB{P:aZ}{f:Nat}(h:(mJ P (λN ops=>jN P N ops) f).isSome=true):J9 P f (rF P f):=by
 refine Vs (λN ops d h=>Kt h) (rd:=λN ops=>jN P N ops) ?_;unfold rF;cases a:mJ P (λN ops=>jN P N ops) f with
 | none=>rw[a] at h;cases h
 | some r=>rfl
theorem aay{H:CH}{sl:Sl}:(oF H sl).ob H.nx= .cells [.int .i64 0, .int .i64 0, .string ⟨⟨[]⟩⟩, .int .i64 0, .slice none 0 0] 26 .ex:=by
 unfold oF;rw[kN (by simp only[gN];omega),kN (by simp only[gN];omega),kN (by simp only[gN];omega)];exact fZ.trans (iP rfl)
theorem aaz{H:CH}{sl:Sl}:(oF H sl).ob (H.nx+1)= .cells [.int .i64 0] 3 .ex:=by
 unfold oF;rw[kN (by simp only[gN];omega),kN (by simp only[gN];omega)];exact fZ.trans (iP rfl)
theorem aaA{H:CH}{sl:Sl}:(oF H sl).ob (H.nx+2)= .cells [.int .i64 0] 27 .ex:=by
 unfold oF;rw[kN (by simp only[gN];omega)];exact fZ.trans (iP rfl)
def MB (H:CH)(ts:List PT)(v:ae)(H':CH):Prop:=∃vs,v=eV vs/\MA H (jS ts).1 (jS ts).2.1 (jS ts).2.2 vs H'/\TyV vs H'
def PrQ (H:CH)(ts:List PT)(v:ae)(H':CH):Prop:=∃vs,v=eV vs/\MA H (jS ts).1 (jS ts).2.1 (jS ts).2.2 vs H'
theorem ajC{ts:List PT}:Gd (λe=>gr ts (ts.length*64+100) (.top []) 0=some (.error e)) (λl j=>gr ts (ts.length*64+100) (.top []) 0=some (.ok (l,j))/\eY l+1<=64*ts.length+2) (gr ts (ts.length*64+100) (.top []) 0):=by
 have h1:=wZ (ts:=ts) (ts.length*64+100) (.top []) 0 trivial (fa _) (by simp only[NT.kM];omega);have h2:=Mz (ts:=ts) (ts.length*64+100) (.top []) 0 trivial (fa _) (by simp only[NT.kM];omega);match h:gr ts (ts.length*64+100) (.top []) 0,h1,h2 with
 | some (.error e),_,_=>exact rfl
 | some (.ok (l,j)),h1,h2=>
   refine⟨rfl,?_⟩;have h3:aq l+64*0+0<=0+64*j+0:=h2;have h4:=h1.2.1;have h5:=RN l;omega
theorem MC{K:CH}{E:TE}{v w:ae}(h:eO K E (cS v) w):w=v:=by
 cases h with
 | s h=>cases h;rfl
theorem ajD{K:CH}{E:TE}{A:Nat->Prop}{t sz:Nat}{e:aH}{gs:List (List SV)}{w:ae}(h:eO K E (.own t e sz gs) w)(h1 : ∀b,dw K E b->A b)(h2 : ∀b,E.σ t=some b->A b):fM K A (.row sz gs) w:=by
 cases h with
 | sO=>exact .ot
 | own av hb ho hk hg hs ht=>exact .row av (h2 _ hb) ho hk hg (hs.mv λb hb=>⟨h1 b hb,rfl⟩) ht
theorem ajE{H:CH}{sl:Sl}{ts:List PT}(h:fU 3 qd H sl.q sl.c ts)(hn:sl.n=ts.length)(D:ts.length<=4398046510976) : ∃v H',MB H ts v H'/\∀B,Ey Tryz.prog B 11 [.slice sl.q sl.n sl.c] H v H':=by
 refine aha (T:=(bj Tryz.prog LG GG)) (X:=pX) (G:=Iz) (g:=20) (d:=10) (x1:=2) (x2:=3) (x3:=4) (λB=>Hm) (λB f args H v H'=>aia) (ajB Kr) ajp Rl Kr (Nat.lt_of_lt_of_eq (by decide:10<37) (by kernel_rfl:37=(rF Tryz.prog 11).ntmps)) aic (λB=>aii) ?_;refine(ajq (sl:=sl) rfl).mono λx aj H1 ⟨hx,hw⟩=>⟨hx,hw.mono λx o H2 ⟨hx,O,S,U,c5,e⟩=>⟨hx,?_⟩⟩;subst e;have C:=aib (ajs h hn) D;have hc : ∀t,t≠10->bE o (some 10) undef t=o t:=λt ht=>iN ht;have t0:=aju (aP:=bE o (some 10) undef) h ((hc 2 de).trans O) ((hc 3 de).trans S) ((hc 4 de).trans U) ((hc 5 de).trans c5);let Rp:ae->Prop:=λv=>∃e,gr ts (ts.length*64+100) (.top []) 0=some (.error e)/\v=mP (ah ts e).line
 have Ea : ∀v i,PX (oF H sl) (some (H.nx+3)) (λ_=>False) Rp v i->∃V,Iz [o 2,o 3,o 4] v i V/\∃vs,ct (BP (.seq kw.2.2.1 (.seq kw.2.2.2.1 kw.2.2.2.2)) (bE o (some 10) undef)) V (rF Tryz.prog 11).res=some vs/\MB H ts (eV vs) V:=by
  rintro v i ⟨g1,y,e,hg,rfl⟩;rw[Ar] at g1 y;have o2:=(y H.nx Om (λe=>by injection e;omega) id).trans aay;have o3:=(y (H.nx+1) Om (λe=>by injection e;omega) id).trans aaz;have o4:=(y (H.nx+2) Om (λe=>by injection e;omega) id).trans aaA;rw[O,S,U];refine⟨_,ajA o2 o3 o4 g1,?_⟩;have Y:aI H i:=⟨Om,λb hb=>(y b Om (λe=>by injection e;omega) id).trans (RQ hb)⟩;have hm : ∀t,t≠10->(pQ (.seq kw.2.2.1 (.seq kw.2.2.2.1 kw.2.2.2.2))).elem t=false->BP (.seq kw.2.2.1 (.seq kw.2.2.2.1 kw.2.2.2.2)) (bE o (some 10) undef) t=o t:=λt ht hw=>by
   unfold BP;rw[hw];exact hc t ht
  have m2:=(hm 2 de Kr).trans O;have m3:=(hm 3 de Kr).trans S;have m4:=(hm 4 de Kr).trans U;rw[aaw];unfold Ap;have fW:H.nx≠i.nx:=by omega
  have HH:H.nx+1≠i.nx:=by omega
  have IF:H.nx+2≠i.nx:=by omega
  refine rn (A3 @m2 @m3 @m4 @o2 @o3 @o4 @fW @HH @IF) ?_;refine⟨_,rfl,[_,_,_],rfl,?_⟩;have ht:jS ts=(nm,(ah ts e).line,22):=by unfold jS;rw[hg]
  rw[ht];refine⟨⟨((((Y.new _).set Om _).set (ag _) _).set Om _).set Om _,_,rfl, .cons (.sc rfl) (.cons (.sc rfl) (.cons (.sc rfl) (.cons (.sc rfl) (.cons .ot .nil))))⟩,?_⟩;intro a0 a1 a2 a3 b n c r e;simp at e
 refine QE ((Rg fP t0 (ajv (R:=Rp) C)).mono ?_ Ea);rintro x E i ⟨uB,st3,E3,t1,s1,rfl,⟨nt,u,rfl⟩,y,g3,g4,g5,g6⟩;have t1':TR (ID H sl) (oF H sl) (some (H.nx+3)) (λ_=>False) i ⟨nt,[(u,59,(oR sl 0).2.2),(u,26,nC 1 (ah ts 0).line [] 0 (.s (.row 5 [])))]⟩ (prG H) E E3:=by
  refine { t1 with fH:=λt=> ?_ };match t with
  | 0=>exact .bad
  | 1=>exact .bad
  | 2=>have:=t1.fH 2;rw[y] at this;exact this
  | 3=>have:=t1.fH 3;rw[g3] at this;exact this
  | 4=>have:=t1.fH 4;rw[g4] at this;exact this
  | 5=>have:=t1.fH 5;rw[g5] at this;exact this
  | 6=>have:=t1.fH 6;rw[g6] at this;exact this
  | n+7=>exact .bad
 show mi (bj Tryz.prog LG GG) pX (.seq kw.2.2.2.1 kw.2.2.2.2) E i _ _;refine QE ((Rg fP t1' (ajx C (λm _=>ajo C m) ajC λe he=>⟨e,he,rfl⟩)).mono ?_ Ea);rintro x I z ⟨OH,st4,K,t2,s2,rfl,⟨l,j,nt2,u1,u2,c,⟨u0,hht⟩,wC,rfl⟩,y,g3,g4,g6⟩;have hp : ∀t l,OH t=rS (pP l)->I t=pP l:=λt l e=>by
  have:=t2.fH t;rw[e] at this;exact ox this rfl
 have EE : ∀b,b<H.nx+4/\b≠H.nx+3->K.hid b:=λb hb=>s2.hid b (s1.hid b hb);have ux:K.ρ 0=some (H.nx+3):=s2.ee _ _ (s1.ee _ _ rfl);obtain⟨b,os,kP,cj,a⟩:=t2.aw 1 _ _ _ rfl;have h6:I 6=pP b:=by
  have:=t2.fH 6;rw[g6] at this;obtain⟨b',L,q2⟩:=this.tN;rw[kP] at L;cases L;exact q2
 obtain⟨hbn,hbk,_⟩:=t2.ee 1 b kP;have ajF:b≠H.nx+3:=λe=>by
  have:=t2.pY 0 1 b (by rw[ux,e]) kP;cases this
 have hb4:H.nx+4<=b:=by
  rcases hbk with q | q
  ·rw[Ar] at q;exact q
  injection q with q;exact absurd q.symm ajF
 have dE:=t2.nx;rw[Ar] at dE;have pG : ∀b,dw z K b->H.nx+4<=b/\b<z.nx:=λb ⟨f1,f2,f3,f4⟩=>by
  have:b≠H.nx+3:=λe=>f4 0 (by rw[ux,e]);have f2 : ¬(b<H.nx+4/\b≠H.nx+3):=λq=>f2 (EE b q);exact⟨Om,f1⟩
 have M : ∀b,b<H.nx+3->z.ob b=(oF H sl).ob b:=λb hb=>t2.cY b (by rw[Ar];omega) (λe=>by injection e;omega) id;have hw : ∀w,eO z K c w->fM z (λb=>H.nx+4<=b/\b<z.nx) (.row 5 (c7 l)) w:=λw hc=>by
  rcases wC with ⟨rfl,rfl⟩ | ⟨t,rfl⟩
  ·cases hc with
   | s h=>exact h.mv λb hb=>⟨pG b hb,rfl⟩
  exact ajD hc pG λb hb=>⟨by have:=(t2.sig t b hb).1;rw[Ar] at this;exact this,(t2.sig t b hb).2.1⟩
 have BY : ∀w,eO z K c w->∀b n c',w= .slice (some ⟨b,0,none⟩) n c'->b<z.nx/\H.nx+4<=b/\∃cs kd,z.ob b= .cells cs 26 kd:=λw hc b n c' ew=>by
  subst ew;rcases wC with ⟨rfl,rfl⟩ | ⟨t,rfl⟩
  ·cases hc with
   | s h=>cases h with | row av _ _ _ _ _=>exact absurd rfl av.1
  generalize c7 l=gs at hc;cases hc with
  | own av hb ho hk hg hs=>exact⟨(t2.sig t b hb).2.1,by have:=(t2.sig t b hb).1;rw[Ar] at this;exact this,_,_,ho⟩
 cases a with | cons a1 a=>
 cases a with | cons a2 a=>
 cases a with | cons a3 a=>
 cases a with | cons a4 a=>
 cases a with | cons a5 a=>
 cases a;have e1:=MC a1;have e2:=MC a2;have e3:=MC a3;have e4:=MC a4;subst e1 e2 e3 e4;refine .inl ((ajz (H:=H) (hp 2 _ y) (hp 3 _ g3) (hp 4 _ g4) h6 ((M _ Om).trans aay) ((M _ Om).trans aaz) ((M _ Om).trans aaA) cj dE hbn hb4 (hw _ a5) Om (λb hb=>(M b Om).trans (RQ hb)) (BY _ a5)).mono λx fr' K' ⟨L,vs,q2,N,q4⟩=>⟨.inr L,vs,?_,vs,rfl,?_,q4⟩);·rw[aaw];exact q2
 have ht:jS ts=if 60<eY l+1 then (nm,0,11) else (nd 1 (An (ah ts 0).line l) l,0,0):=by unfold jS;rw[u0]
 rw[ht];by_cases A:60<eY l+1
 ·rw[iP A,iP A] at N;rw[iP A];exact N
 rw[iN A,iN A] at N;rw[iN A];exact N
def qf (l:List UInt8):List ae:=l.map λb=> .int .u8 b.toNat
def iD (t:da):PT:=⟨t.kind,t.line,t.text⟩
theorem ajG(t:da):iV (iD t)=zV t:=rfl
theorem aaD : ∀ts:List da,(ts.map iD).flatMap iV=ts.flatMap zV
 | []=>rfl
 | t::ts=>by rw[dq,zr,zr,aaD ts,ajG]
theorem RR{A K:CH}{v:ae}{ts:List da}(h:nN A 65 3 zV K v ts):nN A 65 3 iV K v (ts.map iD):=by
 rcases h with ⟨rfl,rfl⟩ | ⟨b,kd,rfl,h1,h2,h3,h4⟩
 ·exact .inl ⟨rfl,rfl⟩
 exact .inr ⟨b,kd,by rw[kZ],h1,h2,by rw[aaD];exact h3,h4⟩
def cQ(src:List UInt8):Nd×Int×Int:=match gv src with
 | .ok ts=>jS (ts.map iD)
 | .error y=>(nm,y.1,y.2)
theorem RT{H:CH}{p:Nat}{src:List UInt8}{e:aH}{k:Kd}(hp:p<H.nx)(h:H.ob p= .cells (qf src) e k)(hl:src.length<=maxLen):fU 1 (mM .u8) H (some ⟨p,0,none⟩) src.length (mh src):=by
 refine .inr ⟨p,0,_,e,k,rfl,hp,by rw[HJ];exact ag _,hl,h,by rw[HJ];simp[qf],λi hi=> ?_⟩;rw[HJ] at hi;have a:(qf src).drop (0+i*1)= .int .u8 (src[i].toNat:Nat)::(qf src).drop (i+1):=by
  rw[iZ,Nat.mul_one,uh (by simpa[qf] using hi)];simp[qf]
 refine⟨?_,?_⟩;·rw[a];simp[mh]
 have:=src[i].toNat_lt;simp only[mh,List.getElem_map];show decide _=true;have b:IntKind.u8.max=255:=by decide
 simp[Lit.wf,b];omega
end
section
open Go Go.RowKit
variable {P:aZ}
abbrev Spec:=bk->List ae->CH->ae->CH->Prop
open Classical in
noncomputable def tell(P:aZ)(S:Spec)(f:bk)(args:List ae)(H:CH):Option (ae×CH):=
 if h : ∃r:ae×CH,S f args H r.1 r.2/\∀B,Ey P B f args H r.1 r.2 then some h.choose else none
noncomputable def w6(P:aZ)(L:List bk)(G:bk->List ae->Option ae)(a:List bk)(S:Spec):cF:=
 ⟨mJ P (λN ops=>jN P N ops),Kb P (λN ops=>jN P N ops),λf=>a.elem f||L.elem f,⟨λf args H=>if a.elem f then tell P S f args H else (G f args).map λv=>(v,H),λ_ _ _=>none⟩⟩
theorem ajH{B:Nat}{L:List bk}{G:bk->List ae->Option ae}{b:List bk}{S:Spec}(a : ∀f args v,G f args=some v->KV P f args v):uD P B (w6 P L G b S):=by
 refine⟨(KW (B:=B) (L:=L) a).fn,(KW (B:=B) (L:=L) a).loop,⟨λf args H v H' h=> ?_,λl args H v H' h=>(by cases h)⟩⟩;have h':(if b.elem f then tell P S f args H else (G f args).map λv=>(v,H))=some (v,H'):=h;split at h'
 ·unfold tell at h';split at h';·rename_i hx;have hc:=hx.choose_spec.2 B;rw[Option.some.inj h'] at hc;exact .inl ⟨hc.1,hc.2⟩
  cases h'
 exact(KW (B:=B) (L:=L) a).ext.1 f args H v H' h'
theorem aaE{L:List bk}{G:bk->List ae->Option ae}{a:List bk}{S:Spec}{f:bk}(b:a.elem f=true){args:List ae}{H:CH}{Q:ae->CH->Prop}(h : ∃v H',S f args H v H'/\∀B,Ey P B f args H v H')(c : ∀v H',S f args H v H'->Q v H'):bw (w6 P L G a S) f args H Q:=by
 obtain⟨v,H',h1,h2⟩:=h;have hx : ∃r:ae×CH,S f args H r.1 r.2/\∀B,Ey P B f args H r.1 r.2:=⟨(v,H'),h1,h2⟩;refine⟨1,hx.choose.1,hx.choose.2,?_,c _ _ hx.choose_spec.1⟩;simp only[pM,dg];have he:(w6 P L G a S).ext f=true:=by show(a.elem f||L.elem f)=true;rw[b];rfl
 rw[iP he];show(if a.elem f then tell P S f args H else (G f args).map λv=>(v,H))=_;rw[iP b];unfold tell;rw[dif_pos hx]
theorem ajI{L:List bk}{G:bk->List ae->Option ae}{a:List bk}{S:Spec}{f:bk}{args:List ae}{v:ae}(hs:a.elem f=false)(c:L.elem f=true)(hv:G f args=some v){H:CH}{Q:ae->CH->Prop}:bw (w6 P L G a S) f args H Q↔Q v H:=by
 have b : ∀n,pM (w6 P L G a S) (n+1) f args H=some (v,H):=λn=>by
  simp only[pM,dg];have he:(w6 P L G a S).ext f=true:=by show(a.elem f||L.elem f)=true;rw[c,hs];rfl
  rw[iP he];show(if a.elem f then tell P S f args H else (G f args).map λv=>(v,H))=_;rw[iN (by rw[hs];decide),hv];rfl
 constructor
 ·rintro⟨n,u,H',h1,h2⟩;cases n with
  | zero=>simp[pM,dg] at h1
  | succ n=>rw[b n] at h1;cases h1;exact h2
 exactλh=>⟨1,v,H,b 0,h⟩
theorem aaF{L:List bk}{G:bk->List ae->Option ae}{a:List bk}{S:Spec}{f:Nat}(h:(mJ P (λN ops=>jN P N ops) f).isSome=true):(w6 P L G a S).fn f=some (rF P f):=by
 unfold rF;show mJ P (λN ops=>jN P N ops) f=some ((mJ P (λN ops=>jN P N ops) f).getD ⟨0,[], .skip⟩);cases b:mJ P (λN ops=>jN P N ops) f with
 | none=>rw[b] at h;cases h
 | some r=>rfl
theorem y7{L:List bk}{G:bk->List ae->Option ae}{a:List bk}{S:Spec}{f:Nat}(he:(a.elem f||L.elem f)=false)(h:(mJ P (λN ops=>jN P N ops) f).isSome=true){args:List ae}{H:CH}{Q:ae->CH->Prop}(k:dB (w6 P L G a S) (rF P f).body (λt=>args.getD t undef) H (BD (rF P f).res Q)):bw (w6 P L G a S) f args H Q:=
 Pq he (aaF h) k
theorem ajJ{T:cF}(a : ∀B,uD P B T){f:bk}{args:List ae}{H:CH}{Q:ae->CH->Prop}(hc:rr P f=true)(h:bw T f args H Q) : ∃v H',Q v H'/\∀B,Ey P B f args H v H':=by
 obtain⟨n,v,H',h1,h2⟩:=h;exact⟨v,H',h2,λB=>⟨hc,fun β w c b ha=>callsIn_wide.2 (Vk (a B) h1 b ha hc)⟩⟩
end
section
open Go Go.RowKit
mutual
def kx(ln:Bool):Nd->Nd->Bool
 | .mk k l x o ks, .mk k' l' x' o' db=>decide (k=k')&&decide (x=x')&&decide (o=o')&&decide (ks.length=db.length)&&(!ln||decide (l=l'))&&sY ln ks db
def sY(ln:Bool):List Nd->List Nd->Bool
 | n::ks,n'::db=>kx ln n n'&&sY ln ks db
 | _,_=>true
end
def ajK (args:List ae)(H:CH)(v:ae)(H':CH):Prop:=∀q c src,args= [.slice q src.length c]->fU 1 (mM .u8) H q c (mh src)->aI H H'/\QA H H' v (gv src)
def SP:Spec:=λf args H v H'=>(f=11->∀(sl:Sl) (ts:List PT),args= [.slice sl.q sl.n sl.c]->fU 3 qd H sl.q sl.c ts->sl.n=ts.length->ts.length<=4398046510976->MB H ts v H')/\(f=10->ajK args H v H')
noncomputable abbrev TL:cF:=w6 Tryz.prog LG GG [11,10] SP
theorem adf{B:Nat}:uD Tryz.prog B TL:=ajH XJ
theorem ajL{a b:PT}(h:iV a=iV b):a=b:=by
 cases a;cases b;simp only[iV,List.cons.injEq,Value.int.injEq,Value.string.injEq,true_and,and_true] at h;obtain⟨rfl,rfl,h⟩:=h;injection h with h
 injection h with h
 subst h;rfl
theorem ajM{H:CH}{q:Option Addr}{c:Nat}{ts us:List PT}(h:fU 3 qd H q c ts)(g:fU 3 qd H q c us)(hl:ts.length=us.length):ts=us:=by
 refine NN hl λi h1 h2=> ?_;obtain⟨l,o,os,e,kd,b,o1,_,_,d,_⟩:=Mp h h1;obtain⟨l',o',j,e',k,a,o2,_,_,r2,_⟩:=Mp g h2;rw[b] at a;cases a;rw[o1] at o2;cases o2;exact ajL (d.symm.trans r2)
theorem ajN{H:CH}{sl:Sl}{ts:List PT}(h:fU 3 qd H sl.q sl.c ts)(hn:sl.n=ts.length)(a:ts.length<=4398046510976):bw TL 11 [.slice sl.q sl.n sl.c] H λv H'=>MB H ts v H':=by
 obtain⟨v,H',h1,h2⟩:=ajE h hn a;refine aaE rfl ⟨v,H',⟨λ_ b d he h' i _=> ?_,λe=>by cases e⟩,h2⟩ λv H' j=>j.1 rfl sl ts rfl h hn a;cases sl;cases b;cases he;rw[ajM h' h (i.symm.trans hn)];exact h1
theorem RW{H:CH}{sl:Sl}{ts:List PT}(h:fU 3 qd H sl.q sl.c ts)(hn:sl.n=ts.length)(a:ts.length<=4398046510976):bw TL 11 [.slice sl.q sl.n sl.c] H λv H'=>PrQ H ts v H':=
 (ajN h hn a).mono λv H' ⟨vs,h1,h2,_⟩=>⟨vs,h1,h2⟩
theorem ajO{H:CH}{q:Option Addr}{c:Nat}{a b:List UInt8}(h:fU 1 (mM .u8) H q c (mh a))(g:fU 1 (mM .u8) H q c (mh b))(hl:a.length=b.length):a=b:=by
 have h1:=XH h;have h2:=XH g;rw[HJ] at h1 h2;rw[hl,h2] at h1;injection h1 with h1
 injection h1 with h1 _
 rw[KU,KU] at h1;refine NN hl λi i1 i2=> ?_;have:=congrArg (λl=>l[i]?) h1;simp only[mh,kF,dx i1,dx i2,Option.map_some,Option.some.injEq,Value.int.injEq,true_and] at this;exact UInt8.toNat.inj Om
theorem RX{H:CH}{q:Option Addr}{c:Nat}{src:List UInt8}(h:fU 1 (mM .u8) H q c (mh src)):bw TL 10 [.slice q src.length c] H λv K=>aI H K/\QA H K v (gv src):=by
 obtain⟨v,K,h1,h2⟩:=ajJ (T:=(bj Tryz.prog LG GG)) (λB=>Hm) Kr (agN H h);refine aaE rfl ⟨v,K,⟨λe=>(by cases e),λ_ d c' a he h'=> ?_⟩,h2⟩ λv K b=>b.2 rfl q c src rfl h;simp only[List.cons.injEq,Value.slice.injEq,and_true] at he;obtain⟨rfl,hl,rfl⟩:=he;rw[ajO h' h hl.symm];exact h1
theorem ky{D:TD}{Z:TP}{X:ce}(a:wS TL D){R:ae->Prop}{f:Nat}(he:TL.ext f=false)(h:(mJ Tryz.prog (λN ops=>jN Tryz.prog N ops) f).isSome=true){args:List AV}{self:Self}{Q:AV->List SV->Prop}(k:kQ Z TL X D R (rF Tryz.prog f).body (λt=>args.getD t .bad) (cZ self) (Ii (rF Tryz.prog f).res self Q)):TC Z TL X f args self Q R:=
 ZV a he (aaF h) k
def D0:TD:=⟨[]⟩
theorem kz:wS TL D0:=⟨λf a=>by cases a⟩
theorem aaG{ln:Bool}{ks db:List Nd}{i:Nat}{t t':Nd}(h:ks[i]? = some t)(h':db[i]? = some t'):sY ln (ks.drop i) (db.drop i)=(kx ln t t'&&sY ln (ks.drop (i+1)) (db.drop (i+1))):=by
 obtain⟨hi,rfl⟩:=List.getElem?_eq_some_iff.1 h;obtain⟨a,rfl⟩:=List.getElem?_eq_some_iff.1 h';rw[uh hi,uh a];rfl
section
variable {Z:TP} {X:ce}
attribute [local irreducible] TC
theorem ajP(ln:Bool) : ∀(N:Nat) (k:Nat) (l:Int) (x:List UInt8) (o:Nat) (ks:List Nd) (k':Nat) (l':Int) (x':List UInt8) (o':Nat) (db:List Nd),tU (.mk k l x o ks)<N->∀(Q:AV->List SV->Prop) (R:ae->Prop),Q (rS (.bool (kx ln (.mk k l x o ks) (.mk k' l' x' o' db)))) []->TC Z TL X 9 [eC (.mk k l x o ks),eC (.mk k' l' x' o' db),rS (.bool ln)] none Q R:=by
 intro N;induction N with
 | zero=>intro k l x o ks k' l' x' o' db h;exact absurd h (su _)
 | succ N ih=>
 intro k l x o ks k' l' x' o' db hN Q R c;refine ky kz Rl Kr (bq ?_)
 conv=>whnf
 have M:kx ln (.mk k l x o ks) (.mk k' l' x' o' db)=(decide (k=k')&&decide (x=x')&&decide (o=o')&&decide (ks.length=db.length)&&(!ln||decide (l=l'))&&sY ln ks db):=rfl;rw[M] at c;generalize h1:((k:Int) != (k':Int))=O;cases O;case true=>
  have:k≠k':=by have h : ¬(k:Int)=(k':Int):=(by simpa using h1);omega
  rw[decide_eq_false this] at c;conv=>whnf
  exact c
 have j:k=k':=by have h:(k:Int)=(k':Int):=(by simpa using h1);omega
 conv=>whnf
 generalize h2:(!((pS x).toList==(pS x').toList))=S;have T : ∀a b:List UInt8,((pS a).toList==(pS b).toList)=decide (a=b):=λa b=>by
  have h : ∀l:List UInt8,(pS l).toList=l:=λl=>by simp[ByteArray.toList_eq]
  rw[h,h];by_cases e:a=b
  ·simp[e]
  rw[decide_eq_false e];simpa using e
 rw[T] at h2;cases S;case true=>
  have:x≠x':=by simpa using h2
  rw[decide_eq_true j,decide_eq_false this] at c;conv=>whnf
  exact c
 have v:x=x':=by simpa using h2
 conv=>whnf
 generalize h3:((o:Int) != (o':Int))=U;cases U;case true=>
  have:o≠o':=by have h : ¬(o:Int)=(o':Int):=(by simpa using h3);omega
  rw[decide_eq_true j,decide_eq_true v,decide_eq_false this] at c;conv=>whnf
  exact c
 have A:o=o':=by have h:(o:Int)=(o':Int):=(by simpa using h3);omega
 conv=>whnf
 intro V;conv=>whnf
 intro ju;conv=>whnf
 generalize h4:(((c7 ks).length:Int) != ((c7 db).length:Int))=Y;rw[c8,c8] at h4;cases Y;case true=>
  have:ks.length≠db.length:=by have h : ¬(ks.length:Int)=(db.length:Int):=(by simpa using h4);omega
  rw[decide_eq_true j,decide_eq_true v,decide_eq_true A,decide_eq_false this] at c;conv=>whnf
  exact c
 have e4:ks.length=db.length:=by have h:(ks.length:Int)=(db.length:Int):=(by simpa using h4);omega
 rw[decide_eq_true j,decide_eq_true v,decide_eq_true A,decide_eq_true e4] at c;have hb:l≠l'/\ln=true\/(!ln||decide (l=l'))=true:=by
  cases ln;·exact .inr rfl
  by_cases h:l=l'
  ·exact .inr (by simp[h])
  exact .inl ⟨h,rfl⟩
 rcases hb with ⟨hb,rfl⟩ | hb
 ·rw[decide_eq_false hb] at c;conv=>whnf
  generalize h5:(l != l')=y;cases y;case false=>exact absurd (by simpa using h5) hb
  conv=>whnf
  exact c
 rw[hb] at c;simp only[zq] at c;obtain⟨d,z⟩ : ∃d:List Nd->List Nd->Bool,d=sY ln:=⟨_,rfl⟩;obtain⟨u,B⟩ : ∃u:Nd->Nd->Bool,u=kx ln:=⟨_,rfl⟩;have Bt : ∀ys,d [] ys=true:=λys=>by rw[z];rfl
 have gd : ∀(i:Nat) (t t':Nd),ks[i]? = some t->db[i]? = some t'->d (ks.drop i) (db.drop i)=(u t t'&&d (ks.drop (i+1)) (db.drop (i+1))):=λi t t' h h'=>by rw[z,B];exact aaG h h'
 rw[<-z] at c;cases ln;rotate_left
 conv=>whnf
 generalize h5:(l != l')=y;cases y;rotate_left
 exact absurd (by simpa using hb) (by simpa using h5);all_goals
  conv=>whnf
  refine qH 7 (λm a s=>∃i:Nat,a=rS (.int .i64 (i:Nat))/\s=⟨0,[oN (nA k l x o ks),oN (nA k' l' x' o' db)]⟩/\m+i=ks.length/\d ks db=d (ks.drop i) (db.drop i)) ks.length [] rfl ⟨0,rfl,rfl,rfl,rfl⟩ ?_;rintro m a f s ⟨i,rfl,rfl,hm,hp⟩;conv=>whnf
  intro C;conv=>whnf
  refine b9 (λhc=> ?_) λhc=> ?_
  ·have hi:i<ks.length:=by simp[c8] at hc;omega
   obtain⟨t,ht⟩ : ∃t,ks[i]? = some t:=⟨_,dx hi⟩;obtain⟨t',D⟩ : ∃t,db[i]? = some t:=⟨_,dx Om⟩;rw[gd i t t' ht D] at hp;have bn:=E5 (sq ht) (k:=k) (l:=l) (x:=x) (o:=o);obtain⟨k1,E,F,o1,G⟩:=t;obtain⟨H,I,K,o2,L⟩:=t';conv=>whnf
   refine⟨rfl,i,_,rfl,jr ht,?_⟩;conv=>whnf
   refine⟨rfl,i,_,rfl,jr D,?_⟩;conv=>whnf
   refine ih k1 E F o1 G H I K o2 L Om _ _ ?_;conv=>whnf
   rw[<-B];generalize yt:u (Nd.mk k1 E F o1 G) (Nd.mk H I K o2 L)=bs at hp⊢;cases bs
   ·rw[Bool.false_and] at hp;rw[hp] at c;conv=>whnf
    exact c
   rw[zq] at hp;rw[c8] at C;conv=>whnf
   exact⟨m-1,[],Om,rfl,i+1,congrArg (λn=>rS (.int .i64 n)) (Cj hi C),rfl,Om,hp⟩
  have hi:i=ks.length:=by simp[c8] at hc;omega
  subst hi;have hp:d ks db=true:=by rw[hp,re];exact Bt _
  rw[hp] at c;conv=>whnf
  exact c
end
theorem ajQ{K:CH}{b:Nat}{ts:List PT}{e:aH}{k:Kd}(hb:b<K.nx)(ho:K.ob b= .cells ((ts.map iV).flatten) e k)(hl:ts.length<=maxLen):fU 3 qd K (some ⟨b,0,none⟩) ts.length ts:=by
 have a:((ts.map iV).flatten).length=ts.length*3:=by
  rw[BR (sz:=3) (λg hg=>by obtain⟨t,_,rfl⟩:=List.mem_map.1 hg;rfl),kZ]
 refine .inr ⟨b,0,_,e,k,rfl,hb,ag _,hl,ho,Om,λi h=> ?_⟩;have hg:(ts.map iV)[i]? = some (iV ts[i]):=by simp[h]
 have:=(LC (sz:=3) (gs:=ts.map iV) (λg hg=>by obtain⟨t,_,rfl⟩:=List.mem_map.1 hg;rfl) hg).1;show((((ts.map iV).flatten).drop (0+i*3)).take 3)=iV ts[i];rw[iZ];exact this
theorem E7{K:CH}{A:Nat->Prop}{t:Nd}{os:List ae}(h:fk K A (lr t) os) : ∃k l x o a b c,os= [.int .i64 k, .int .i64 l, .string x, .int .i64 o, .slice a b c]:=by
 cases t;cases h with | cons d h=>
 cases h with | cons e h=>
 cases h with | cons i h=>
 cases h with | cons j h=>
 cases h with | cons m h=>
 cases h;cases d;cases e;cases i;cases j;obtain⟨a,b,c,rfl⟩:=aax m;exact⟨_,_,_,_,_,_,_,rfl⟩
def RZ (H:CH)(src:List UInt8)(v:ae)(K:CH):Prop:=∃vs,v=eV vs/\MA H (cQ src).1 (cQ src).2.1 (cQ src).2.2 vs K
theorem R0{src:List UInt8}{ts:List da}(h:gv src= .ok ts):(ts.map iD).length<=100000:=by
 rw[kZ];exact YI h
theorem R4{A K:CH}{v:ae}{ts:List PT}(h:nN A 65 3 iV K v ts)(a:ts.length<=9223372036854775807) : ∃q c,v= .slice q ts.length c/\fU 3 qd K q c ts:=by
 rcases h with ⟨rfl,rfl⟩ | ⟨b,kd,rfl,h1,h2,h3,h4⟩
 ·exact⟨none,0,rfl, .inl ⟨rfl,rfl, .inl rfl⟩⟩
 refine⟨_,_,rfl,?_⟩;have e:ts.flatMap iV=(ts.map iV).flatten:=by rw[List.flatMap_def]
 rw[e] at h3;exact ajQ h2 h3 (by rw[nM];exact a)
theorem ME{H:CH}{q:Option Addr}{c:Nat}{src:List UInt8}(h:fU 1 (mM .u8) H q c (mh src)) :
 bw TL 7 [.slice q src.length c] H λv K=>RZ H src v K:=by
 refine y7 Rl Kr (bq ?_)
 refine dh ?_;refine(RX (fU.hY (mM.hY _) ((aI.refl H).new _) h)).mono ?_;rintro v K ⟨hx,hv⟩;cases a:gv src with
 | error y=>
   rw[a] at hv;have hv:v= .tuple #[.slice none 0 0, .int .i64 y.1, .int .i64 y.2]:=hv;subst hv;have n : ¬((y.2:Int)=0):=by
    have:y.2=20\/y.2=21\/y.2=24:=by
     by_cases hl:src.length<=20000
     ·rcases(Lw hl a).2 with e | e
      ·exact .inl e
      exact .inr (.inl e)
     unfold gv at a;rw[iP Om] at a;cases a;exact .inr (.inr rfl)
    omega
   have d:K.ob H.nx= .cells [.int .i64 0, .int .i64 0, .string ⟨⟨[]⟩⟩, .int .i64 0, .slice none 0 0] 26 .ex:=by
    rw[hx.ob H.nx (nX _)];exact fZ.trans (iP rfl)
   have hn:H.nx<K.nx:=hx.nx;refine rn (an @d @n) ?_;have es:cQ src=(nm,(y.1:Int),(y.2:Int)):=by unfold cQ;rw[a]
   rw[RZ,es];exact⟨[_,_,_],rfl,(((aI.refl H).new _).trans hx).set (ag _) _,[_,_,_,_,_],rfl, .cons (.sc rfl) (.cons (.sc rfl) (.cons (.sc rfl) (.cons (.sc rfl) (.cons .ot .nil))))⟩
 | ok ts=>
   rw[a] at hv;obtain⟨vt,rfl,hg⟩:=hv;refine dh ?_;have j:=R0 a;obtain⟨s,c',rfl,hs⟩:=R4 (RR hg) Om;refine(RW (sl:=⟨s,_,c'⟩) hs rfl Om).mono ?_;rintro v t ⟨vs,rfl,i,os,rfl,m⟩;obtain⟨k,l,x,o,u,z,A,rfl⟩:=E7 m;have hn:H.nx+1<=K.nx:=hx.nx;have B:=i.nx;have d:t.ob H.nx= .cells [.int .i64 0, .int .i64 0, .string ⟨⟨[]⟩⟩, .int .i64 0, .slice none 0 0] 26 .ex:=by
    rw[i.ob H.nx Om,hx.ob H.nx (nX _)];exact fZ.trans (iP rfl)
   refine rn @d ?_;have es:cQ src=jS (ts.map iD):=by unfold cQ;rw[a]
   rw[RZ,es];refine⟨[_,_,_],rfl,((((aI.refl H).new _).trans hx).trans i).set (ag _) _,[_,_,_,_,_],rfl,m.mv λb hb=> ?_⟩;obtain⟨h1,h2⟩:=hb;exact⟨⟨Om,h2⟩,Pp Om⟩
theorem w7{K:CH}{A:Nat->Prop}{k:Nat}{l:Int}{x:List UInt8}{o:Nat}{ks:List Nd}{rest:List SV}{os:List ae}(h:fk K A (lr (.mk k l x o ks)++rest) os) : ∃w os',os= .int .i64 (k:Nat):: .int .i64 l:: .string ⟨⟨x⟩⟩:: .int .i64 (o:Nat)::w::os'/\fM K A (.row 5 (c7 ks)) w/\fk K A rest os':=by
 cases h with | cons a h=>
 cases h with | cons b h=>
 cases h with | cons c h=>
 cases h with | cons d h=>
 cases h with | cons e h=>
 cases a;cases b;cases c;cases d;exact⟨_,_,rfl,e,h⟩
theorem ajR{K K':CH}{q:Option Addr}{c:Nat}{ts:List PT}(h:fU 3 qd K q c ts)(hx:aI K K'):fU 3 qd K' q c ts:=by
 rcases h with h | ⟨l,o,os,e,k,a,h1,h2,h3,h4,h5,b⟩
 ·exact .inl h
 exact .inr ⟨l,o,os,e,k,a,ek h1 hx.nx,h2,h3,(hx.ob l h1).trans h4,h5,b⟩
theorem aaH(ln:Bool){K:CH}{A B:Nat->Prop}(hA : ∀b,A b->b<K.nx)(d : ∀b,B b->b<K.nx){a b:Nd}{os os':List ae}(h:fk K A (lr a) os)(h':fk K B (lr b) os'):bw TL 9 [.agg os.toArray, .agg os'.toArray, .bool ln] K λv K'=>aI K K'/\v= .bool (kx ln a b):=by
 obtain⟨k,l,x,o,ks⟩:=a;obtain⟨k',l',x',o',db⟩:=b;obtain⟨w,_,rfl,hw,hn⟩:=w7 (rest:= []) (by simpa using h);cases hn;obtain⟨w',_,rfl,e,hn⟩:=w7 (rest:= []) (by simpa using h');cases hn;have c:=Ck hA (k:=k) (l:=l) (x:=x) (o:=o) hw;have r2:=Ck d (k:=k') (l:=l') (x:=x') (o:=o') e;refine(IE (X:=pX) (ajP ln (tU (.mk k l x o ks)+1) k l x o ks k' l' x' o' db (nX _) (λa _=>a=rS (.bool (kx ln (.mk k l x o ks) (.mk k' l' x' o' db)))) _ rfl) ?_).mono λv K' ⟨h1,a,i,h2,h3⟩=>⟨h1,by subst h3;exact ox h2 rfl⟩;cases c with | cons c _=>
 cases r2 with | cons r2 _=>
 exact .cons c (.cons r2 (.cons (Cf rfl) .nil))
theorem aaI{ks:List Nd} : ∀g∈c7 ks,g.length=5:=by
 induction ks with
 | nil=>intro g hg;cases hg
 | cons n ks ih=>
   intro g hg;rcases List.mem_cons.1 hg with rfl | hg
   ·exact aah
   exact ih g hg
theorem ajS{K:CH}{A:Nat->Prop}{ks:List Nd}{os:List ae}(h:fk K A (c7 ks).flatten os):os.length=ks.length*5/\∀i t,ks[i]? = some t->i*5+5<=os.length/\fk K A (lr t) ((os.drop (i*5)).take 5):=by
 have hl:os.length=ks.length*5:=by rw[h.r2.len,BR aaI,c8]
 refine⟨hl,λi t ht=> ?_⟩;have h1:=LC (aaI (ks:=ks)) (jr ht);rw[aah] at h1;have:=(h.r2.drop (i*5)).take 5;rw[h1.1] at this;exact⟨by obtain⟨hi,_⟩:=List.getElem?_eq_some_iff.1 ht;omega,this.HN⟩
theorem R5{K:CH}{A:Nat->Prop}{ks:List Nd}{w:ae}(h:fM K A (.row 5 (c7 ks)) w) : ∃q,w= .slice q ks.length ks.length/\ks.length<=maxLen/\(ks= []->q=none)/\∀i t,ks[i]? = some t->∃b cs e kd,q=some ⟨b,0,none⟩/\A b/\K.ob b= .cells cs e kd/\kd.eM=false/\cs.length=ks.length*5/\i*5+5<=cs.length/\fk K A (lr t) ((cs.drop (i*5)).take 5):=by
 have hl:(c7 ks).length=ks.length:=c8;generalize hg:c7 ks=gs at h hl;cases h with
 | ot=>
   have:ks= []:=List.length_eq_zero_iff.1 (by simpa using hl.symm);subst this;exact⟨none,rfl,fa _,λ_=>rfl,λi t h=>by simp at h⟩
 | row av hb ho hk a hs=>
   rw[hl];refine⟨_,rfl,by rw[<-hl];exact av.2,λe=> ?_,λi t ht=> ?_⟩;·subst e;exact absurd (by rw[<-hg];rfl) av.1
   rw[<-hg] at hs;obtain⟨h1,h2⟩:=ajS hs;exact⟨_,_,_,_,rfl,hb,ho,hk,h1,(h2 i t ht).1,(h2 i t ht).2⟩
mutual
theorem aaJ{ln:Bool} : ∀t:Nd,kx ln t t=true
 | .mk k l x o ks=>by
   simp only[kx,aaK ks,decide_true,Bool.or_true,Bool.and_true]
theorem aaK{ln:Bool} : ∀ks:List Nd,sY ln ks ks=true
 | []=>rfl
 | n::ks=>by
   show(kx ln n n&&sY ln ks ks)=true;rw[aaJ n,aaK ks];rfl
end
theorem ajT{a:Option Addr}{H:CH}{Q:ae->CH->Prop}:bw TL 91 [.pointer a] H Q↔Q (.pointer a) H:=ajI Rl Rl Rl
theorem ajU:Gq (P:=Tryz.prog) 44 46 5 0=true:=by
 unfold Gq;decide +kernel
def E8 (p:Nat)(a:ae):Prop:=a= .pointer none\/a= .pointer (some ⟨p,0,none⟩)
theorem ajV{K:CH}{p:Nat}{b d r x:ae}(a:K.ob p= .cells [.pointer none,b,d,r,x] 46 .ex) :
 bw TL 74 [.pointer (some ⟨p,0,none⟩)] K λv K'=>K'=K.set p (.cells [.pointer (some ⟨p,0,none⟩),b,d,r,x] 46 .ex):=by
 refine y7 Rl Kr (bq ?_);exact rz (mY @a @ajT @ajU)
theorem ajW{K:CH}{p:Nat}{b d r x:ae}(a:K.ob p= .cells [.pointer (some ⟨p,0,none⟩),b,d,r,x] 46 .ex) :
 bw TL 74 [.pointer (some ⟨p,0,none⟩)] K λv K'=>K'=K:=by
 refine y7 Rl Kr (bq ?_);exact rz @a
theorem ajX{K:CH}{p:Nat}{a b d r x:ae}(ha:E8 p a)(c:K.ob p= .cells [a,b,d,r,x] 46 .ex) :
 bw TL 74 [.pointer (some ⟨p,0,none⟩)] K λv K'=>∃a',E8 p a'/\K'.ob p= .cells [a',b,d,r,x] 46 .ex/\(∀l,l≠p->K'.ob l=K.ob l)/\K'.nx=K.nx:=by
 rcases ha with rfl | rfl
 ·refine(ajV c).mono λv K' e=> ?_;subst e;exact⟨_, .inr rfl,by simp[CH.set],λl hl=>by simp[CH.set,hl],rfl⟩
 refine(ajW c).mono λv K' e=> ?_;subst e;exact⟨_, .inr rfl,c,λl hl=>rfl,rfl⟩
def As(K:CH)(p:Nat)(b:ae)(out:List UInt8):Prop:=(out= []/\b= .slice none 0 0)\/∃q,b= .slice (some ⟨q,0,none⟩) out.length out.length/\K.ob q= .cells (out.map λc=> .int .u8 c.toNat) 5 .gr/\q≠p/\q<K.nx/\0<out.length
structure Cm(K:CH)(p:Nat)(a b d r x:ae)(out:List UInt8):Prop where
 own:E8 p a
 ob:K.ob p= .cells [a,b,d,r,x] 46 .ex
 buf:As K p b out
 pl:p<K.nx
def sZ(b:ae)(l:Nat):Prop:=∀o s n c,b≠ .slice (some ⟨l,o,s⟩) n c
structure lu(p:Nat)(K:CH)(b:ae)(K':CH)(b':ae):Prop where
 nx:K.nx<=K'.nx
 ob : ∀l,l<K.nx->l≠p->sZ b l->K'.ob l=K.ob l
 row : ∀l,l<K.nx->sZ b l->sZ b' l
theorem lu.refl{p:Nat}{K:CH}{b:ae}:lu p K b K b:=⟨ag _,λ_ _ _ _=>rfl,λ_ _ h=>h⟩
theorem lu.trans{p:Nat}{a b c:CH}{d e i:ae}(h:lu p a d b e)(g:lu p b e c i):lu p a d c i:=
 ⟨cM h.nx g.nx,λl h1 h2 h3=>(g.ob l (ek h1 h.nx) h2 (h.row l h1 h3)).trans (h.ob l h1 h2 h3),λl h1 h3=>g.row l (ek h1 h.nx) (h.row l h1 h3)⟩
theorem ajY{K:CH}{p:Nat}{b:ae}{out s:List UInt8}(hb:As K p b out)(hp:p<K.nx)(hl:out.length+s.length<=1000000) :
 ∃b' K',qC 5 1 1 b (s.map λc=> .int .u8 c.toNat) s.length K=some (b',K')/\As K' p b' (out++s)/\K'.ob p=K.ob p/\p<K'.nx/\lu p K b K' b':=by
 have hc:(s.map λc=>Value.int .u8 c.toNat).all ci=true:=by simp[ci]
 have i:maxLen=9223372036854775807:=rfl;cases s with
 | nil=>
   rcases hb with ⟨rfl,rfl⟩ | ⟨q,rfl,d,h1,h2,h3⟩
   ·exact⟨_,K,by rw[Ej];rfl, .inl ⟨rfl,rfl⟩,rfl,hp, .refl⟩
   refine⟨.slice (some ⟨q,0,none⟩) out.length out.length,K,?_, .inr ⟨q,s0,by simpa using d,h1,h2,by simpa using h3⟩,rfl,hp, .refl⟩;rw[Hj,d,Hi];rfl
 | cons a s=>
   rcases hb with ⟨rfl,rfl⟩ | ⟨q,rfl,d,h1,h2,h3⟩
   ·refine⟨_,_,by rw[Ej,iN s0,iP ⟨hc,by simp at hl⊢;omega,by rw[i];simp at hl⊢;omega⟩], .inr ⟨K.nx,s0,by simp[CH.new],Om,by simp[CH.new],s0⟩,by simp[CH.new,FS hp],by simp[CH.new];omega,by simp[CH.new],λl h1 h2 h3=>by simp[CH.new,FS h1],λl h1 h2 o s n c e=>by cases e;exact absurd h1 (Dh _)⟩
   have j:qC 5 1 1 (.slice (some ⟨q,0,none⟩) out.length out.length) ((a::s).map λc=> .int .u8 c.toNat) (a::s).length K=some (.slice (some ⟨K.nx,0,none⟩) (out.length+(a::s).length) (out.length+(a::s).length),(K.set q .dead).new (.cells ((out.map λc=>Value.int .u8 c.toNat).take (out.length*1)++(a::s).map λc=> .int .u8 c.toNat) 5 .gr)):=by
    rw[Hj,d,Hi,iN s0,iP ⟨rfl,rfl,rfl,s0,hc,Om,by rw[i];omega⟩];rfl
   refine⟨_,_,j, .inr ⟨K.nx,s0,?_,Om,by simp[CH.new,CH.set],Sq⟩,?_,by simp[CH.new,CH.set];omega,by simp[CH.new,CH.set],λl h4 h5 k=> ?_,λl h4 h5 o s n c e=>by cases e;exact absurd h4 (Dh _)⟩;·simp[CH.new,CH.set,List.take_of_length_le]
   ·simp[CH.new,CH.set,FS hp,Ne.symm h1]
   have:l≠q:=λe=>k _ _ _ _ (by rw[e]);simp[CH.new,CH.set,FS h4,this]
theorem As.sl{K:CH}{p:Nat}{b:ae}{out:List UInt8}(h:As K p b out) : ∃pa n c,b= .slice pa n c:=by
 rcases h with ⟨_,rfl⟩ | ⟨q,rfl,_⟩<;>exact⟨_,_,_,rfl⟩
theorem ajZ{K:CH}{p:Nat}{a b d r x:ae}{out:List UInt8}{s:List UInt8}(h:Cm K p a b d r x out)(hl:out.length+s.length<=1000000) :
 bw TL 52 [.pointer (some ⟨p,0,none⟩), .string ⟨⟨s⟩⟩] K λv K'=>∃a' b',Cm K' p a' b' d r x (out++s)/\lu p K b K' b':=by
 refine y7 Rl Kr (bq ?_);refine dh ?_;refine(ajX h.own h.ob).mono λv i ⟨a',y,o,ho,j⟩=> ?_;have z:As i p b out:=by
  rcases h.buf with h1 | ⟨q,h1,h2,h3,h4,h5⟩
  ·exact .inl h1
  exact .inr ⟨q,h1,by rw[ho q h3];exact h2,h3,by rw[j];exact h4,h5⟩
 have A:p<i.nx:=by rw[j];exact h.pl
 obtain⟨b',G,B,t,u,C,hw⟩:=ajY (s:=s) z A hl;rw[o] at u;obtain⟨pa,n,c,rfl⟩:=t.sl;have D:(⟨⟨s⟩⟩:ByteArray).size=s.length:=rfl;refine rn (jI @o @D @B @u) ?_;have E:lu p K b i b:=⟨by rw[j];exact ag _,λl _ h2 _=>ho l h2,λ_ _ h=>h⟩;have m:=E.trans hw;refine⟨a', .slice pa n c,⟨y,by simp[CH.set],?_,C⟩,m.nx,λl h1 h2 h3=>by simpa[CH.set,h2] using m.ob l h1 h2 h3,m.row⟩;rcases t with h1 | ⟨q,h1,h2,h3,h4,h5⟩
 ·exact .inl h1
 exact .inr ⟨q,h1,by simpa[CH.set,h3] using h2,h3,h4,h5⟩
theorem aj0{e:aH}{H:CH}:Gi e H (.pointer none) (.int .i64 ((0:Nat):Int))=some (.string ⟨⟨[]⟩⟩,H):=rfl
theorem aaL : ∀l:List UInt8,Bf (l.map λc=> .int .u8 c.toNat)=some l
 | []=>rfl
 | c::l=>by
   have h1:(c.toNat:Int)<256:=by have:=UInt8.toNat_lt c;omega
   have h2:UInt8.ofNat c.toNat=c:=by simp
   simp[Bf,aaL l,h1,h2]
end
section
structure aB where
 out:List UInt8
 deep:Int
 w:Nat
 bad:Bool
 h:out.length<=w
def aB.sb(st:aB):aB:=⟨st.out,st.deep,st.w,true,st.h⟩
def aB.dp(st:aB)(d:Int):aB:=⟨st.out,d,st.w,st.bad,st.h⟩
def aB.R6(st:aB):aB:=⟨st.out,st.deep,st.w+9223372036854775808,st.bad,Nat.le_add_right_of_le st.h⟩
def aV:List (List UInt8)->aB->aB
 | [],st=>st
 | s::r,st=>if 20000<st.w+s.length then ⟨st.out,st.deep,st.w+s.length,true,Nat.le_add_right_of_le st.h⟩
   else aV r ⟨st.out++s,st.deep,st.w+s.length,st.bad,by rw[bW];exact Nat.add_le_add_right st.h _⟩
def cJ (ks:List Nd)(a least:Nat)(st:aB):aB:=if st.bad=true then st else if ks.length<least then st.sb else if a<ks.length then st.sb else st
def gC (n:Nd):Nat:=if n.kind=49\/n.kind=50 then 0 else if n.kind=40 then 1 else if n.kind=39 then 2 else if n.kind=41 then 3 else if n.kind=42 then 4 else if n.kind=38 then 7
 else if n.kind=37 then (if n.op=7 then 8 else if n.op=1\/n.op=2 then 5 else 6) else if n.kind=44\/n.kind=45\/n.kind=46\/n.kind=47 then 9 else 10
def mR:List (List UInt8):= [[43],[45],[42],[47],[47,47],[37],[42,42]]
def w8:List (List UInt8):= [[61,61],[33,61],[60],[60,61],[62],[62,61],[105,110],[110,111,116,32,105,110],[105,115],[105,115,32,110,111,116]]
def jT (l:List (List UInt8))(o:Nat):List UInt8:=match o with
 | 0=> [63]
 | o+1=>l.getD o [63]
abbrev kR:List UInt8:= [32]
abbrev w9:List UInt8:= [44,32]
abbrev oG:List UInt8:= [40]
abbrev oH:List UInt8:= [41]
abbrev At:List UInt8:= [10]
abbrev tV:List UInt8:= [58,10]
abbrev tW:List UInt8:= [58,32]
abbrev np:List UInt8:= [34]
abbrev xb:List UInt8:= [32,105,102,32]
abbrev Au:List UInt8:= [32,102,111,114,32]
abbrev vf:List UInt8:= [32,105,110,32]
abbrev Av:List UInt8:= [32,101,108,115,101,32]
abbrev tX:List UInt8:= [32,97,115,32]
abbrev Aw:List UInt8:= [32,61,32]
def lU:List UInt8:= [48,49,50,51,52,53,54,55,56,57,97,98,99,100,101,102]
def iE (c:UInt8):List (List UInt8):=if c=10 then [[92,110]] else if c=9 then [[92,116]] else if c=34\/c=92 then [[92],[c]]
 else if c.toNat<32 then [[92,120],[lU.getD (c.toNat / 16) 0],[lU.getD (c.toNat % 16) 0]] else [[c]]
def lV:List UInt8->aB->aB
 | [],st=>st
 | c::r,st=>if st.bad=true then st else lV r (aV (iE c) st)
def jF (s:List UInt8)(st:aB):aB:=aV [np] (lV s (aV [np] st))
def qS:Nat->aB->aB
 | 0,st=>st
 | n+1,st=>qS n (aV [[32,32,32,32]] st)
def fx (s:List UInt8)(st:aB):aB:=aV [s] (qS st.deep.toNat st)
inductive SR where
 | at (n:Nd) (a:Nat) | expr (n:Nd) | bc (b:Bool) (l:List Nd) | two (n:Nd) (l:Nat) (s:List UInt8) (r:Nat)
 | clauses (l:List Nd) | bO (b:Bool) (l:List Nd) | shown (n:Nd) | dC (n:Nd) | dK (n:Nd) | cW (l:List Nd)
 | maybe (s:List UInt8) (n:Nd) | block (n:Nd) | a9 (l:List Nd) | ifs (s:List UInt8) (n:Nd) | tries (n:Nd) | cR (l:List Nd)
 | stmt (n:Nd) | head (n:Nd) | bF (b:Bool) (l:List Nd) | simple (n:Nd)
def eH (st:aB)(k:aB->aB):aB:=if st.bad=true then st else k st
def pe:Nat->SR->aB->aB
 | 0,_,st=>st.R6
 | f+1, .at n a,st=>if gC n<a then aV [oH] (pe f (.expr n) (aV [oG] st)) else pe f (.expr n) st
 | f+1, .bc b [],st=>st
 | f+1, .bc b (n::l),st=>pe f (.bc true l) (pe f (.at n 0) (if b=true then aV [w9] st else st))
 | f+1, .two n l s r,st=>eH (cJ n.kids 2 2 st) λst=>match n.kids with
   | a::b::_=>pe f (.at b r) (aV [kR,s,kR] (pe f (.at a l) st))
   | _=>st
 | f+1, .clauses [],st=>st
 | f+1, .clauses (c::l),st=>pe f (.clauses l) (if c.kind=59 then eH (cJ c.kids 1 1 st) λst=>match c.kids with
    | a::_=>pe f (.at a 1) (aV [xb] st)
    | _=>st
   else eH (cJ c.kids 2 2 st) λst=>match c.kids with
    | a::b::_=>pe f (.at b 1) (aV [vf] (pe f (.at a 9) (aV [Au] st)))
    | _=>st)
 | f+1, .bO b [],st=>st
 | f+1, .bO b [_],st=>st.sb
 | f+1, .bO b (n::m::l),st=>pe f (.bO true l) (pe f (.at m 0) (aV [tW] (pe f (.at n 0) (if b=true then aV [w9] st else st))))
 | f+1, .shown n,st=>aV [if n.kind=51\/n.kind=55 then [93] else if n.kind=52 then (if n.kids.length=1 then [44,41] else [41]) else [125]]
    (if n.kind=51\/n.kind=52\/n.kind=53 then pe f (.bc false n.kids) (aV [if n.kind=51 then [91] else if n.kind=52 then [40] else [123]] st)
    else if n.kind=54 then pe f (.bO false n.kids) (aV [[123]] st)
    else if n.kind=57 then eH (cJ n.kids 1048576 3 (aV [[123]] st)) λst=>match n.kids with
     | a::b::l=>pe f (.clauses l) (pe f (.bO false [a,b]) st)
     | _=>st
    else eH (cJ n.kids 1048576 2 (aV [if n.kind=55 then [91] else [123]] st)) λst=>match n.kids with
     | a::l=>pe f (.clauses l) (pe f (.at a 0) st)
     | _=>st)
 | f+1, .dC n,st=>eH (cJ n.kids 1048576 1 st) λst=>match n.kids with
   | []=>st
   | a::l=>let st:=if n.kind=45/\(a.kind=30\/a.kind=31) then aV [oG,a.text,oH] st else pe f (.at a 9) st
     if n.kind=44 then aV [oH] (pe f (.bc false l) (aV [oG] st))
     else if n.kind=45 then aV [[46],n.text] st
     else if n.kind=46 then eH (cJ n.kids 2 2 st) λst=>match l with
      | b::_=>aV [[93]] (pe f (.at b 0) (aV [[91]] st))
      | _=>st
     else if n.kind=47 then eH (cJ n.kids 3 3 st) λst=>match l with
      | b::c::_=>aV [[93]] (pe f (.at c 0) (aV [[58]] (pe f (.at b 0) (aV [[91]] st))))
      | _=>st
     else st
 | f+1, .expr n,st=>if n.kind=30\/n.kind=31\/n.kind=36 then aV [n.text] st
    else if n.kind=32 then jF n.text st
    else if n.kind=33 then aV [[78,111,110,101]] st
    else if n.kind=34 then aV [[84,114,117,101]] st
    else if n.kind=35 then aV [[70,97,108,115,101]] st
    else if n.kind=48 then st
    else if n.kind=60 then pe f (.maybe [121,105,101,108,100] n) st
    else if n.kind=44\/n.kind=45\/n.kind=46\/n.kind=47 then pe f (.dC n) st
    else if n.kind=51\/n.kind=52\/n.kind=53\/n.kind=54\/n.kind=55\/n.kind=56\/n.kind=57 then pe f (.shown n) st
    else pe f (.dK n) st
 | f+1, .cW [],st=>st
 | f+1, .cW (k::l),st=>pe f (.cW l) (eH (cJ k.kids 1 1 (aV [kR,jT w8 k.op,kR] st)) λst=>match k.kids with
   | a::_=>pe f (.at a 5) st
   | _=>st)
 | f+1, .dK n,st=>if n.kind=37 then (if n.op=7 then pe f (.two n 9 [42,42] 7) st else pe f (.two n (gC n) (jT mR n.op) (gC n+1)) st)
    else if n.kind=38 then eH (cJ n.kids 1 1 st) λst=>match n.kids with
     | a::_=>pe f (.at a 7) (aV [if n.op=1 then [45] else [43]] st)
     | _=>st
    else if n.kind=41 then eH (cJ n.kids 1 1 st) λst=>match n.kids with
     | a::_=>pe f (.at a 3) (aV [[110,111,116,32]] st)
     | _=>st
    else if n.kind=39 then pe f (.two n 2 [97,110,100] 3) st
    else if n.kind=40 then pe f (.two n 1 [111,114] 2) st
    else if n.kind=42 then eH (cJ n.kids 1048576 2 st) λst=>match n.kids with
     | a::l=>pe f (.cW l) (pe f (.at a 5) st)
     | _=>st
    else if n.kind=49 then eH (cJ n.kids 3 3 st) λst=>match n.kids with
     | c::a::b::_=>pe f (.at b 0) (aV [Av] (pe f (.at c 1) (aV [xb] (pe f (.at a 1) st))))
     | _=>st
    else if n.kind=50 then eH (cJ n.kids 2 2 st) λst=>match n.kids with
     | p::e::_=>pe f (.at e 0) (aV [tW] (pe f (.bc false p.kids) (if 0<p.kids.length then aV [kR] (aV [[108,97,109,98,100,97]] st) else aV [[108,97,109,98,100,97]] st)))
     | _=>st
    else st.sb
 | f+1, .maybe s n,st=>match n.kids with
   | []=>aV [s] st
   | a::_=>pe f (.at a 0) (aV [kR] (aV [s] st))
 | f+1, .block n,st=>let st:=aV [tV] st
   let st:=pe f (.a9 n.kids) (st.dp (v7 .i64 (st.deep+1)))
   st.dp (v7 .i64 (st.deep-1))
 | f+1, .a9 [],st=>st
 | f+1, .a9 (k::l),st=>if st.bad=true then st else pe f (.a9 l) (pe f (.stmt k) st)
 | f+1, .ifs s n,st=>eH (cJ n.kids 3 2 st) λst=>match n.kids with
   | c::b::l=>let st:=pe f (.block b) (pe f (.at c 0) (fx s st))
     match l with
     | []=>st
     | e::_=>match e.kids with
       | [x]=>if x.kind=5 then pe f (.ifs [101,108,105,102,32] x) st else pe f (.block e) (fx [101,108,115,101] st)
       | _=>pe f (.block e) (fx [101,108,115,101] st)
   | _=>st
 | f+1, .cR [],st=>st
 | f+1, .cR (h::l),st=>eH (cJ h.kids 2 1 st) λst=>
    let st:=if h.kind=22 then fx [102,105,110,97,108,108,121] st else
     let st:=fx [101,120,99,101,112,116] st
     let st:=match h.kids with
      | [a,_]=>pe f (.at a 0) (aV [kR] st)
      | _=>st
     if h.text= [] then st else aV [tX,h.text] st
    match h.kids.getLast? with
    | some b=>pe f (.cR l) (pe f (.block b) st)
    | none=>st
 | f+1, .tries n,st=>eH (cJ n.kids 1048576 2 st) λst=>match n.kids with
   | b::l=>pe f (.cR l) (pe f (.block b) (fx [116,114,121] st))
   | _=>st
 | f+1, .stmt n,st=>if n.kind=5 then pe f (.ifs [105,102,32] n) st else if n.kind=15 then pe f (.tries n) st
    else if n.kind=6\/n.kind=7\/n.kind=8\/n.kind=9\/n.kind=16 then pe f (.head n) st
    else aV [At] (pe f (.simple n) (fx [] st))
 | f+1, .head n,st=>eH (cJ n.kids 3 2 st) λst=>match n.kids with
   | a::b::l=>let st:=if n.kind=6 then pe f (.at a 0) (fx [119,104,105,108,101,32] st)
      else if n.kind=7 then pe f (.at b 0) (aV [vf] (pe f (.at a 9) (fx [102,111,114,32] st)))
      else if n.kind=8 then aV [oH] (pe f (.bc false a.kids) (aV [n.text,oG] (fx [100,101,102,32] st)))
      else if n.kind=9 then
       let st:=aV [n.text] (fx [99,108,97,115,115,32] st)
       if 0<a.kids.length then aV [oH] (pe f (.bc false a.kids) (aV [oG] st)) else st
      else if n.kind=16 then
       let st:=pe f (.at a 0) (fx [119,105,116,104,32] st)
       if n.text= [] then st else aV [tX,n.text] st
      else st
     match l with
     | []=>pe f (.block b) st
     | c::_=>pe f (.block c) st
   | _=>st
 | f+1, .bF b [],st=>st
 | f+1, .bF b (n::l),st=>pe f (.bF true l) (pe f (.at n 0) (if b=true then aV [Aw] st else st))
 | f+1, .simple n,st=>if n.kind=2 then pe f (.bc false n.kids) st
    else if n.kind=3 then pe f (.bF false n.kids) st
    else if n.kind=4 then pe f (.two n 0 (jT mR n.op++ [61]) 0) st
    else if n.kind=10 then pe f (.maybe [114,101,116,117,114,110] n) st
    else if n.kind=14 then pe f (.maybe [114,97,105,115,101] n) st
    else if n.kind=11 then aV [[112,97,115,115]] st
    else if n.kind=12 then aV [[98,114,101,97,107]] st
    else if n.kind=13 then aV [[99,111,110,116,105,110,117,101]] st
    else if n.kind=17 then pe f (.bc false n.kids) (aV [[103,108,111,98,97,108,32]] st)
    else if n.kind=18 then pe f (.bc false n.kids) (aV [[110,111,110,108,111,99,97,108,32]] st)
    else if n.kind=20 then pe f (.maybe [97,115,115,101,114,116] n) st
    else if n.kind=19 then eH (cJ n.kids 1 1 st) λst=>match n.kids with
     | a::_=>pe f (.at a 9) (aV [[100,101,108,32]] st)
     | _=>st
    else st.sb
def nq:Nat->Nd->Bool
 | 0,_=>true
 | f+1,n=>n.kids.any (nq f)
theorem pz{p q:Prop}(h:p)(k:p->q:=by
 intro h
 (try simp only[pe,Nd.kind,Nd.text,Nd.op,Nd.kids,Nat.reduceEqDiff,reduceCtorEq,or_self,or_true,true_or,or_false,false_or,and_true,true_and,and_false,false_and,↓reduceIte] at h)
 exact h):q:=k h
end
section
theorem y8 : ∀(a:List (List UInt8)) (st:aB),st.w<=(aV a st).w
 | [],st=>ag _
 | s::r,st=>by
   simp only[aV];split;·exact NV _ _
   refine cM ?_ (y8 r _);exact NV _ _
theorem aaM(s:List UInt8)(r:List (List UInt8))(st:aB):st.w+s.length<=(aV (s::r) st).w:=by
 simp only[aV];split;·exact ag _
 refine cM ?_ (y8 r _);exact ag _
theorem Ax : ∀(a:List (List UInt8)) (st:aB),(aV a st).deep=st.deep
 | [],st=>by simp[aV]
 | s::r,st=>by
   simp only[aV];split;·rfl
   rw[Ax r]
theorem E9(s:List UInt8)(st:aB):(aV [s] st).w=st.w+s.length:=by
 simp only[aV];split<;>rfl
theorem aaN{st:aB}{k:aB->aB}(h : ∀s:aB,s.w<=(k s).w):st.w<=(eH st k).w:=by
 unfold eH;split;·exact ag _
 exact h st
theorem aj2{ks:List Nd}{a b:Nat}{st:aB}:(cJ ks a b st).w=st.w:=by
 unfold cJ;split;·rfl
 split;·rfl
 split<;>rfl
theorem aaO(ks:List Nd)(a b:Nat)(st:aB):st.w<=(cJ ks a b st).w:=by rw[aj2];exact ag _
theorem aaP{c:Prop}[Decidable c]{st A B:aB}(h:c->st.w<=A.w)(g : ¬c->st.w<=B.w):st.w<=(if c then A else B).w:=by
 split;·exact h ‹_›
 exact g ‹_›
theorem MF : ∀(s:List UInt8) (st:aB),st.w<=(lV s st).w
 | [],st=>ag _
 | c::r,st=>by
   simp only[lV];split;·exact ag _
   exact cM (y8 _ _) (MF r _)
theorem aaQ(s:List UInt8)(st:aB):st.w<=(jF s st).w:=cM (y8 _ _) (cM (MF _ _) (y8 _ _))
theorem MG : ∀(n:Nat) (st:aB),(qS n st).w=st.w+n*4
 | 0,st=>rfl
 | n+1,st=>by
   simp only[qS];rw[MG n,E9];show st.w+4+n*4=_;omega
theorem aaR(s:List UInt8)(st:aB):(fx s st).w=st.w+st.deep.toNat*4+s.length:=by
 unfold fx;rw[E9,MG]
theorem aaS(s:List UInt8)(st:aB):st.w<=(fx s st).w:=by rw[aaR];omega
theorem aaT(st:aB):st.w<=st.sb.w:=ag _
theorem aaU(st:aB)(d:Int):st.w<=(st.dp d).w:=ag _
attribute [local irreducible] aB.sb aB.dp fx jF aV qS lV cJ eH
section
variable {f:Nat} (ih : ∀(r:SR) (st:aB),st.w<=(pe f r st).w) (st:aB)
theorem nr{p:Prop}(h:p:=by
 (repeat' (with_reducible first | exact Nat.le_refl _ | refine Nat.le_trans ?_ (ih _ _) | refine Nat.le_trans ?_ (y8 _ _) | refine Nat.le_trans ?_ (aaS _ _) | refine Nat.le_trans ?_ (aaQ _ _) | refine Nat.le_trans ?_ (aaT _) | refine Nat.le_trans ?_ (aaU _ _) | refine Nat.le_trans ?_ (aaO _ _ _ _) | refine Nat.le_trans ?_ (aaN ?_) | refine aaP (λ_=> ?_) (λ_=> ?_) | intro _ | split))):p:=h
include ih in
theorem aj3(n:Nd)(a:Nat):st.w<=(pe (f+1) (.at n a) st).w:=by
 simp only[pe];exact nr
include ih in
theorem aj4(n:Nd):st.w<=(pe (f+1) (.expr n) st).w:=by
 simp only[pe];exact nr
include ih in
theorem aj5(n:Nd)(l:Nat)(s:List UInt8)(r:Nat):st.w<=(pe (f+1) (.two n l s r) st).w:=by
 simp only[pe];exact nr
include ih in
theorem aj6(n:Nd):st.w<=(pe (f+1) (.shown n) st).w:=by
 simp only[pe];exact nr
include ih in
theorem aj7(n:Nd):st.w<=(pe (f+1) (.dC n) st).w:=by
 simp only[pe];exact nr
include ih in
theorem aj8(n:Nd):st.w<=(pe (f+1) (.dK n) st).w:=by
 simp only[pe];exact nr
include ih in
theorem aj9(s:List UInt8)(n:Nd):st.w<=(pe (f+1) (.maybe s n) st).w:=by
 simp only[pe];exact nr
include ih in
theorem aj'(n:Nd):st.w<=(pe (f+1) (.block n) st).w:=by
 simp only[pe];exact nr
include ih in
theorem aka(s:List UInt8)(n:Nd):st.w<=(pe (f+1) (.ifs s n) st).w:=by
 simp only[pe];exact nr
include ih in
theorem akb(n:Nd):st.w<=(pe (f+1) (.tries n) st).w:=by
 simp only[pe];exact nr
include ih in
theorem akc(n:Nd):st.w<=(pe (f+1) (.stmt n) st).w:=by
 simp only[pe];exact nr
include ih in
theorem akd(n:Nd):st.w<=(pe (f+1) (.head n) st).w:=by
 simp only[pe];exact nr
include ih in
theorem ake(n:Nd):st.w<=(pe (f+1) (.simple n) st).w:=by
 simp only[pe];exact nr
include ih in
theorem akf(b:Bool)(l:List Nd):st.w<=(pe (f+1) (.bc b l) st).w:=by
 cases l<;>(simp only[pe];exact nr)
include ih in
theorem akg(l:List Nd):st.w<=(pe (f+1) (.clauses l) st).w:=by
 cases l<;>(simp only[pe];exact nr)
include ih in
theorem akh(l:List Nd):st.w<=(pe (f+1) (.cW l) st).w:=by
 cases l<;>(simp only[pe];exact nr)
include ih in
theorem aki(l:List Nd):st.w<=(pe (f+1) (.a9 l) st).w:=by
 cases l<;>(simp only[pe];exact nr)
include ih in
theorem akj(l:List Nd):st.w<=(pe (f+1) (.cR l) st).w:=by
 cases l<;>(simp only[pe];exact nr)
include ih in
theorem akk(b:Bool)(l:List Nd):st.w<=(pe (f+1) (.bF b l) st).w:=by
 cases l<;>(simp only[pe];exact nr)
include ih in
theorem akl(b:Bool)(l:List Nd):st.w<=(pe (f+1) (.bO b l) st).w:=by
 rcases l with _ | ⟨n,_ | ⟨m,l⟩⟩<;>(simp only[pe];exact nr)
end
theorem aaV : ∀(f:Nat) (r:SR) (st:aB),st.w<=(pe f r st).w:=by
 intro f;induction f with
 | zero=>intro r st;exact NV _ _
 | succ f ih=>
   intro r st;cases r;case «at» n a=>exact aj3 ih st n a
   case expr n=>exact aj4 ih st n
   case two n l s r=>exact aj5 ih st n l s r
   case shown n=>exact aj6 ih st n
   case dC n=>exact aj7 ih st n
   case dK n=>exact aj8 ih st n
   case maybe s n=>exact aj9 ih st s n
   case block n=>exact aj' ih st n
   case ifs s n=>exact aka ih st s n
   case tries n=>exact akb ih st n
   case stmt n=>exact akc ih st n
   case head n=>exact akd ih st n
   case simple n=>exact ake ih st n
   case bc b l=>exact akf ih st b l
   case clauses l=>exact akg ih st l
   case cW l=>exact akh ih st l
   case a9 l=>exact aki ih st l
   case cR l=>exact akj ih st l
   case bF b l=>exact akk ih st b l
   case bO b l=>exact akl ih st b l
theorem mo{a b c:Nat}(hm:b<=c)(h:a<=b:=by(repeat' (with_reducible first | exact Nat.le_refl _ | refine Nat.le_trans ?_ ((aaV _) _ _) | refine Nat.le_trans ?_ (y8 _ _) | refine Nat.le_trans ?_ (aaS _ _) | refine Nat.le_trans ?_ (aaQ _ _) | refine Nat.le_trans ?_ (aaT _) | refine Nat.le_trans ?_ (aaU _ _) | refine Nat.le_trans ?_ (aaO _ _ _ _) | refine Nat.le_trans ?_ (aaN ?_) | refine aaP (λ_=> ?_) (λ_=> ?_) | intro _ | split))):a<=c:=Nat.le_trans h hm
end
section
open Go Go.RowKit
theorem Ay{a:Nat}:((a:Int)+1)=((a+1:Nat):Int):=rfl
def kS (K:CH)(p:Nat)(b:ae)(st:aB):Prop:=∃a,Cm K p a b (.int .i64 st.deep) (.int .i64 (20000-(st.w:Int))) (.bool st.bad) st.out
theorem Cm.dS{K:CH}{p:Nat}{a b d r x d' r' x':ae}{out:List UInt8}(h:Cm K p a b d r x out):Cm (K.set p (.cells [a,b,d',r',x'] 46 .ex)) p a b d' r' x' out:=by
 refine⟨h.own,by simp[CH.set],?_,h.pl⟩;rcases h.buf with h1 | ⟨q,h1,h2,h3,h4,h5⟩
 ·exact .inl h1
 exact .inr ⟨q,h1,by simpa[CH.set,h3] using h2,h3,h4,h5⟩
theorem lu.dS{p:Nat}{K a:CH}{b c:ae}(h:lu p K b a c)(o:dr):lu p K b (a.set p o) c:=
 ⟨h.nx,λl h1 h2 h3=>by simpa[CH.set,h2] using h.ob l h1 h2 h3,h.row⟩
theorem aaW{K:CH}{p q:Nat}{b:ae}{st:aB}{a:List (List UInt8)}(h:kS K p b st){e:aH}{kd:Kd}(L:K.ob q= .cells (a.map λs=> .string ⟨⟨s⟩⟩) e kd)(y:q≠p)(M:sZ b q)(z:q<K.nx)
 (hw:(aV a st).w<=2305843009213693952) (hn:a.length<=1000000) :
 bw TL 29 [.pointer (some ⟨p,0,none⟩), .slice (some ⟨q,0,none⟩) a.length a.length] K λv K'=>v= .tuple #[]/\∃b',kS K' p b' (aV a st)/\lu p K b K' b':=by
 refine y7 Rl Kr (bq ?_);refine dh ?_;refine sM (λn fr m=>∃i j c,n=a.length-i/\i<=a.length/\fr 8= .int .i64 i/\kS m p j c/\lu p K b m j/\aV (a.drop i) c=aV a st) (n:=a.length) ⟨0,b,st,rfl,fa _,by(((first | assumption | simp only[cm,kj,Nat.reduceEqDiff,↓reduceIte]))<;>rfl),h, .refl,s0⟩ ?_;rintro n fr m ⟨i,j,c,rfl,hi,o,⟨t,h1⟩,l,d⟩ u;have B:=h1.ob;have C:m.ob q= .cells (a.map λs=> .string ⟨⟨s⟩⟩) e kd:=by rw[l.ob q z y M];exact L
 by_cases x:i<a.length
 ·obtain⟨s,hs⟩ : ∃s,a[i]? = some s:=⟨_,dx x⟩;have D:(a.map λs=>Value.string ⟨⟨s⟩⟩)[i]? = some (.string ⟨⟨s⟩⟩):=by rw[kF,hs];rfl
  have E:(⟨⟨s⟩⟩:ByteArray).size=s.length:=rfl;have hd:a.drop i=s::a.drop (i+1):=by
   rw[uh x];rw[dx x] at hs;cases hs;rfl
  rw[hd] at d;have V:c.w+s.length<=2305843009213693952:=by
   rw[<-d] at hw;exact cM (aaM _ _ _) hw
  have G:IntKind.i64.wrap (20000-(c.w:Int)-(s.length:Int))=20000-((c.w+s.length:Nat):Int):=by
   rw[nh Om Om];omega
  by_cases H:20000<c.w+s.length
  ·have N:(20000-((c.w+s.length:Nat):Int))<0:=by omega
   simp only[aV,iP H] at d;refine rn (xC @u @o @C @D @B @E @G) ?_
   ·rw[<-d];first | exact⟨j,⟨t,h1.dS⟩,l.dS _⟩ | exact⟨rfl,j,⟨t,h1.dS⟩,l.dS _⟩
   all_goals omega
  have N : ¬(20000-((c.w+s.length:Nat):Int))<0:=by omega
  have I:=c.h;simp only[aV,iN H] at d;refine rn (xC @u @o @C @D @B @E @G) ?_;have O:=h1.dS (d':= .int .i64 c.deep) (r':= .int .i64 (20000-((c.w+s.length:Nat):Int))) (x':= .bool c.bad);refine(ajZ O Om).mono λv K2 ⟨S,T,h2,U⟩=> ?_;have A:=(l.dS _).trans U;refine rn (mY @u @o @Ay) ?_;refine⟨_,?_,i+1,T,_,rfl,x,rfl,⟨S,h2⟩,A,d⟩;omega
 have he:i=a.length:=by omega
 subst he;refine rn (an @u @o) ?_;rw[re] at d;simp only[aV] at d;rw[<-d];first | exact⟨j,⟨t,h1⟩,l⟩ | exact⟨rfl,j,⟨t,h1⟩,l⟩
def Jb:List (List UInt8)->List ae->CH->Nat->(Nat->Prop)->Prop:=λxs vs K p W=>∃o a b,xs= [[],o]/\vs= [a,b]/\E8 p a/\((o= []/\b= .slice none 0 0/\∀l,¬W l)\/
 ∃q,b= .slice (some ⟨q,0,none⟩) o.length o.length/\K.ob q= .cells (o.map λc=> .int .u8 c.toNat) 5 .gr/\q≠p/\q<K.nx/\0<o.length/\∀l,W l↔l=q)
theorem akm{xs:List (List UInt8)}{vs:List ae}{K K':CH}{p:Nat}{W:Nat->Prop}(h:Jb xs vs K p W)(h1 : ∀b,W b->K'.ob b=K.ob b)(h2:K.nx<=K'.nx):Jb xs vs K' p W:=by
 obtain⟨o,a,b,e,i,j,c⟩:=h;refine⟨o,a,b,e,i,j,?_⟩;rcases c with c | ⟨q,k,l,m,n,s,d⟩
 ·exact .inl c
 exact .inr ⟨q,k,by rw[h1 q ((d q).2 rfl)];exact l,m,ek n h2,s,d⟩
theorem Jb.buf{o:List UInt8}{a b:ae}{K:CH}{p:Nat}{W:Nat->Prop}(h:Jb [[],o] [a,b] K p W):E8 p a/\As K p b o/\∀l,¬W l->sZ b l:=by
 obtain⟨o',y,b',i,j,d,k⟩:=h;cases i;cases j;rcases k with ⟨rfl,rfl,g⟩ | ⟨q,rfl,m,t,u,v,x⟩
 ·exact⟨d, .inl ⟨rfl,rfl⟩,λl _ o s n c e=>by cases e⟩
 exact⟨d, .inr ⟨q,rfl,m,t,u,v⟩,λl hl o s n c e=>by cases e;exact hl ((x _).2 rfl)⟩
def rY (b:ae)(l:Nat):Prop:=∃n c,b= .slice (some ⟨l,0,none⟩) n c
theorem akn{o:List UInt8}{a b:ae}{K:CH}{p:Nat}(h1:E8 p a)(h2:As K p b o):Jb [[],o] [a,b] K p (rY b):=by
 refine⟨o,a,b,rfl,rfl,h1,?_⟩;rcases h2 with ⟨rfl,rfl⟩ | ⟨q,rfl,d,i,j,k⟩
 ·exact .inl ⟨rfl,rfl,λl ⟨n,c,e⟩=>by cases e⟩
 exact .inr ⟨q,rfl,d,i,j,k,λl=>⟨λ⟨n,c,e⟩=>by cases e;rfl,λe=>by subst e;exact⟨_,_,rfl⟩⟩⟩
def lW (st:aB):List SV:= [.lk [], .lk st.out, .sc (.int .i64 st.deep), .sc (.int .i64 (20000-(st.w:Int))), .sc (.bool st.bad)]
abbrev s7(st:aB):Self:=some (46,lW st)
theorem aaX{Z:TP}(hJ:Z.J=Jb){K:CH}{E:TE}{sp:Option Nat}{W:Nat->Prop}{st:aB}(h:wR K E sp (s7 st))(d:SJ Z K sp W (s7 st)) : ∃p b,sp=some p/\p<K.nx/\kS K p b st/\∀l,¬W l->sZ b l:=by
 obtain⟨p,os,h1,h2,h3,h4⟩:=h;subst h1;rcases d with ⟨k1,_⟩ | ⟨_,s,e,k1,a,t,c⟩
 ·cases k1
 cases k1;rw[h3] at a;cases a;simp only[lW] at h4;cases h4 with
 | cons u h4=>cases h4 with
   | cons v h4=>cases h4 with
     | cons i h4=>cases h4 with
       | cons j h4=>cases h4 with
         | cons k h4=>
           cases h4;cases i;cases j;cases k;rw[hJ] at c;obtain⟨m,n,q⟩:=Jb.buf (o:=st.out) c;exact⟨p,_,rfl,h2,⟨_,m,h3,n,h2⟩,q⟩
theorem aaY{Z:TP}(hJ:Z.J=Jb){K:CH}{E:TE}{p:Nat}{b:ae}{st:aB}(h:kS K p b st):wR K E (some p) (s7 st)/\SJ Z K (some p) (rY b) (s7 st):=by
 obtain⟨a,h⟩:=h;have hc:ci a=true:=by rcases h.own with rfl | rfl<;>rfl
 have hb:ci b=true:=by obtain⟨pa,n,c,rfl⟩:=h.buf.sl;rfl
 refine⟨⟨p,_,rfl,h.pl,h.ob, .cons (.lk hc) (.cons (.lk hb) (.cons (.sc rfl) (.cons (.sc rfl) (.cons (.sc rfl) .nil))))⟩, .inr ⟨by simp[lW,eG],p,_,rfl,h.ob,rfl,?_⟩⟩;rw[hJ];exact akn h.own h.buf
theorem aaZ{Z:TP}(hJ:Z.J=Jb){X:ce}{f:bk}{args:List AV}{st aT:aB}{a:AV}{V:ae}{Q:AV->List SV->Prop}{R:ae->Prop}(s : ∀K E,bX K E a V)(hc:a.clean)
 (h : ∀(K:CH) (p:Nat) (b:ae) (E:TE) (vs:List ae),kS K p b st->R2 (bX K E) args vs->(∀q,dw K E q->q<K.nx/\q≠p/\sZ b q)->bw TL f (.pointer (some ⟨p,0,none⟩)::vs) K λv K'=>v=V/\∃b',kS K' p b' aT/\lu p K b K' b')
 (t:Q a (lW aT)):TC Z TL X f (.ptr 0 0::args) (s7 st) Q R:=by
 intro K sp hid W vs h1 u h2 h3 h4 h5;obtain⟨p,b,rfl,hp,x,j⟩:=aaX hJ h4 h5;cases h3 with
 | cons y z=>
   rename_i H vs;obtain⟨l,m,A⟩:=y.tN;have m:some p=some l:=m;cases m;subst A;left;have B : ∀q,dw K (E0 (some p) hid) q->q<K.nx/\q≠p/\sZ b q:=λq ⟨k1,C,_,o⟩=>⟨k1,λe=>o 0 (by subst e;rfl),j q λhw=>C (u q hw)⟩;refine(h K p b _ vs x z B).mono λv K' ⟨D,b',d,i⟩=> ?_;subst D;have hd : ∀l,rY b' l->l<K'.nx/\(W l\/K.nx<=l):=λl ⟨n,c,e⟩=>by
    obtain⟨I,d⟩:=d;refine⟨?_,?_⟩
    ·rcases d.buf with ⟨_,k⟩ | ⟨q,k,_,_,o,_⟩
     ·rw[k] at e;cases e
     rw[k] at e;cases e;exact o
    by_cases hw:W l
    ·exact .inl hw
    refine .inr (Nat.le_of_not_lt λhl=> ?_);exact i.row l hl (j l hw) _ _ _ _ e
   obtain⟨F,G⟩:=aaY (E:=E0 (some p) λl=>hid l\/rY b' l) hJ d;exact⟨i.nx,λl hl hs hw=>i.ob l hl (λe=>hs (by rw[e])) (j l hw),λl=>hid l\/rY b' l,rY b',a,lW aT,⟨λl hl=> .inl hl,λl hl=>hl.elim (λhl=>ek (h1 l hl).1 i.nx) λhl=>(hd l hl).1,λl hl=>⟨.inr hl,(hd l hl).2⟩⟩,s _ _,hc,F,G,t⟩
def Cn (a:List (List UInt8)):List (List SV):=a.map λs=> [.sc (.string ⟨⟨s⟩⟩)]
theorem aa0{K:CH}{A:Nat->Prop} : ∀ {a:List (List UInt8)} {os:List ae},fk K A (Cn a).flatten os->os=a.map λs=> .string ⟨⟨s⟩⟩
 | [],os,h=>by cases h;rfl
 | s::a,os,h=>by
   simp only[Cn,dq,List.flatten_cons,aS,List.nil_append] at h;cases h with
   | cons h t=>
     cases h;rw[aa0 t];rfl
theorem ako{Z:TP}(hJ:Z.J=Jb){X:ce}{st:aB}{a:List (List UInt8)}{Q:AV->List SV->Prop}{R:ae->Prop}(i:a≠ [])(hw:(aV a st).w<=2305843009213693952)(hn:a.length<=1000000)
 (j:Q (.eF []) (lW (aV a st))):TC Z TL X 29 [.ptr 0 0, .r (.c (.s (.row 1 (Cn a))))] (s7 st) Q R:=by
 refine aaZ hJ (V:= .tuple #[]) (λK E=> .eF (vs:= []) .nil) trivial (λK p b E vs k l m=> ?_) j;cases l with
 | cons d n=>
   cases n;cases d with
   | r d=>cases d with
     | c d=>cases d with
       | s d=>
         generalize hg:Cn a=gs at d;cases d with
         | ot=>cases a with
           | nil=>exact absurd rfl i
           | cons=>cases hg
         | row av hb ho hk o hs ht=>
           subst hg;have e:(Cn a).length=a.length:=by simp[Cn]
           rw[aa0 hs] at ho;obtain⟨k1,q,t⟩:=m _ hb;rw[e];exact aaW k ho q t k1 hw hn
theorem bQ{Z:TP}(hJ:Z.J=Jb){X:ce}{st:aB}{Q:AV->List SV->Prop}{R:ae->Prop}(a:List (List UInt8))(d:a≠ [])(hn:a.length<=1000000){aD:aB}(e:aD.w<=2305843009213693952)(i:(aV a st).w<=aD.w)
 (j : ∀b,aV a st=b->Q (.eF []) (lW b)):TC Z TL X 29 [.ptr 0 0, .r (.c (.s (.row 1 (Cn a))))] (s7 st) Q R:=ako hJ d (cM i e) hn (j _ rfl)
end
section
open Go Go.RowKit
attribute [local irreducible] TC aV
theorem akp{Z:TP}{X:ce}{st:aB}{n:Nd}{a b:Nat}{Q:AV->List SV->Prop}{R:ae->Prop}(d:Q (rS (.bool !(cJ n.kids a b st).bad)) (lW (cJ n.kids a b st))):TC Z TL X 45 [.ptr 0 0,eC n,iS a,iS b] (s7 st) Q R:=by
 obtain⟨k,l,x,o,ks⟩:=n;obtain⟨out,deep,w,bad,hh⟩:=st;have c:(c7 ks).length=ks.length:=c8;refine ky kz Rl Kr (bq ?_)
 conv=>whnf
 cases bad with
 | true=>
   conv=>whnf
   exact d
 | false=>
   conv=>whnf
   intro i;conv=>whnf
   refine b9 (λh1=> ?_) (λh1=> ?_)
   ·conv=>whnf
    have h2:ks.length<b:=by rw[c] at h1;simpa using h1
    have e:cJ (Nd.mk k l x o ks).kids a b ⟨out,deep,w,false,hh⟩=⟨out,deep,w,true,hh⟩:=by
     show cJ ks a b _=_;simp only[cJ,iN (show ¬(false=true) by decide),iP h2];rfl
    rw[e] at d;exact d
   have h2 : ¬ks.length<b:=by rw[c] at h1;simpa using h1
   conv=>whnf
   intro j;conv=>whnf
   refine b9 (λh3=> ?_) (λh3=> ?_)
   ·conv=>whnf
    have h4:a<ks.length:=by rw[c] at h3;simpa using h3
    have e:cJ (Nd.mk k l x o ks).kids a b ⟨out,deep,w,false,hh⟩=⟨out,deep,w,true,hh⟩:=by
     show cJ ks a b _=_;simp only[cJ,iN (show ¬(false=true) by decide),iN h2,iP h4];rfl
    rw[e] at d;exact d
   conv=>whnf
   have h4 : ¬a<ks.length:=by rw[c] at h3;simpa using h3
   have e:cJ (Nd.mk k l x o ks).kids a b ⟨out,deep,w,false,hh⟩=⟨out,deep,w,false,hh⟩:=by
    show cJ ks a b _=_;simp only[cJ,iN (show ¬(false=true) by decide),iN h2,iN h4]
   rw[e] at d;exact d
end
section
open Go Go.RowKit
attribute [local irreducible] TC aV
abbrev oP(st:aB):Nat×aH×List CV:=(0,46,(lW st).map .s)
abbrev nu:Nat:=2305843009213693952
theorem akq{Z:TP}(hJ:Z.J=Jb){X:ce}{st:aB}(s:List UInt8){Q:AV->List SV->Prop}{R:ae->Prop}(b:(fx s st).w<=nu)(l:Q (.eF []) (lW (fx s st))):TC Z TL X 27 [.ptr 0 0,rS (.string ⟨⟨s⟩⟩)] (s7 st) Q R:=by
 refine ky kz Rl Kr (bq ?_)
 simp only[fx] at b l;have n:=MG st.deep.toNat st;generalize y:qS st.deep.toNat st=C at b l n;have c:=b;rw[E9] at c;obtain⟨out,deep,w,bad,hh⟩:=st;simp only at y n;cases bad;all_goals
  conv=>whnf
  refine qH 8 (λm a z=>∃(i:Nat) (o:aB),a=iS i/\m=deep.toNat-i/\z=⟨0,[oP o]⟩/\qS (deep.toNat-i) o=C/\o.deep=deep) deep.toNat [] rfl ⟨0,⟨out,deep,w,_,hh⟩,rfl,rfl,rfl,y,rfl⟩ ?_;rintro m a f1 z ⟨i,⟨D,E,H,t,I⟩,rfl,rfl,rfl,h1,h2⟩;have h3:=congrArg aB.w h1;rw[MG,n] at h3;simp only at h3;cases t;all_goals
   conv=>whnf
   refine b9 (λh4=> ?_) (λh4=> ?_)
   ·conv=>whnf
    refine⟨rfl,?_⟩;conv=>whnf
    have h5:(i:Int)<deep:=by simpa using h4
    obtain⟨j,u⟩ : ∃j,deep.toNat-i=j+1:=⟨deep.toNat-i-1,Om⟩;refine bQ hJ [[32,32,32,32]] s0 s0 b ?_ λv hp=> ?_;·rw[E9,E9];simp only[ay,aF];omega
    have A:=congrArg aB.deep hp;rw[Ax] at A;have F:deep.toNat-(i+1)=j:=by omega
    rw[u] at h1;simp only[qS] at h1;rw[hp] at h1;obtain⟨o2,d2,B,x,d⟩:=v;cases x;all_goals
     conv=>whnf
     have G:rS (.int .i64 (IntKind.i64.wrap ((i:Int)+1)))=iS ((i+1:Nat):Int):=by
      rw[nh Om (by simp only[nu] at c;omega)];rfl
     refine⟨_,[],?_,rfl,i+1,⟨o2,d2,B,_,d⟩,G,rfl,rfl,?_,?_⟩;·omega
     ·rw[F];exact h1
     rw[<-A];exact h2
   conv=>whnf
   have h5 : ¬(i:Int)<deep:=by simpa using h4
   have u:deep.toNat-i=0:=by omega
   rw[u] at h1;simp only[qS] at h1;refine⟨rfl,?_⟩;conv=>whnf
   refine bQ hJ [s] s0 s0 b (by rw[h1];exact ag _) λv hp=> ?_;rw[h1] at hp;rw[hp] at l;obtain⟨o2,d2,B,x,d⟩:=v;cases x;all_goals
    conv=>whnf
    exact l
end
section
open Go Go.RowKit
theorem y9{K:CH}{p:Nat}{b:ae}{st:aB}(d:List (List UInt8))(h:kS K p b st){e:aH}{kd:Kd}(hw:(aV d st).w<=nu)(hn:d.length<=1000000) :
 bw TL 29 [.pointer (some ⟨p,0,none⟩), .slice (some ⟨K.nx,0,none⟩) d.length d.length] (K.new (.cells (d.map λs=> .string ⟨⟨s⟩⟩) e kd)) λv K'=>v= .tuple #[]/\∃b',kS K' p b' (aV d st)/\lu p K b K' b':=by
 obtain⟨a,h⟩:=h;have hp:p<K.nx:=h.pl;have j:sZ b K.nx:=by
  rcases h.buf with ⟨_,rfl⟩ | ⟨q,rfl,_,_,h4,_⟩
  ·intro o s n c e;cases e
  intro o s n c e;cases e;exact Dh _ h4
 have h2:kS (K.new (.cells (d.map λs=> .string ⟨⟨s⟩⟩) e kd)) p b st:=by
  refine⟨a,h.own,?_,?_,?_⟩;·rw[fZ,iN (FS hp)];exact h.ob
  ·rcases h.buf with g | ⟨q,k,m,t,u,x⟩
   ·exact .inl g
   exact .inr ⟨q,k,by rw[fZ,iN (FS u)];exact m,t,by rw[gN];omega,x⟩
  rw[gN];omega
 refine(aaW h2 (e:=e) (kd:=kd) (by rw[fZ,iP rfl]) (Nat.ne_of_gt hp) j (by rw[gN];omega) hw hn).mono λv K' ⟨y,b',z,i⟩=>⟨y,b',z,?_⟩;refine⟨cM (by rw[gN];omega) i.nx,λl h1 h3 h4=> ?_,λl h1 h3=>i.row l (by rw[gN];omega) h3⟩;rw[i.ob l (by rw[gN];omega) h3 h4,fZ,iN (FS h1)]
theorem aa1(c:UInt8)(st:aB):st.w+1<=(aV (iE c) st).w:=by
 have h : ∃a s r,iE c=(a::s)::r:=by
  unfold iE
  (repeat' split)<;>exact⟨_,_,_,rfl⟩
 obtain⟨a,s,r,h⟩:=h;rw[h];refine cM ?_ (aaM _ _ _);simp only[ay];omega
theorem aa2 : ∀j:Nat,j<16-> [lU.getD j 0]=(lU.drop j).take 1:=by decide
theorem akt{K:CH}{p:Nat}{b:ae}{st:aB}{s:List UInt8}(h:kS K p b st)(H:(jF s st).w<=nu) :
 bw TL 87 [.pointer (some ⟨p,0,none⟩), .string ⟨⟨s⟩⟩] K λv K'=>v= .tuple #[]/\∃b',kS K' p b' (jF s st)/\lu p K b K' b':=by
 simp only[jF,np] at H⊢;refine y7 Rl Kr (bq ?_);refine dh ?_;refine(y9 [[34]] h (cM (cM (MF _ _) (y8 _ _)) H) s0).mono λv K1 ⟨e1,b1,h1,f1⟩=> ?_;generalize R9:aV [[34]] st=cZ at *;generalize hP:lV s cZ=P0 at *;refine dh ?_;refine sM (λn fr I=>∃i L d,n=s.length-i/\i<=s.length/\fr 4= .int .i64 i/\kS I p L d/\lu p K b I L/\lV (s.drop i) d=P0/\i+cZ.w<=d.w) (n:=s.length) ⟨0,b1,cZ,rfl,fa _,by(((first | assumption | simp only[cm,kj,Nat.reduceEqDiff,↓reduceIte]))<;>rfl),h1,f1,hP,Om⟩ ?_;rintro n fr I ⟨i,L,d,rfl,hi,h4,⟨u,h2⟩,y,a,DH⟩ l;have S:=h2.ob;have z:(⟨⟨s⟩⟩:ByteArray).size=s.length:=rfl;by_cases x:i<s.length
 ·cases O:d.bad with
  | true=>
    have A:I.ob p= .cells [u,L, .int .i64 d.deep, .int .i64 (20000-(d.w:Int)), .bool true] 46 .ex:=by rw[S,O]
    have T:lV (s.drop i) d=d:=by
     cases s.drop i with
     | nil=>rfl
     | cons c r=>simp only[lV,O];rfl
    rw[T] at a;subst a;refine rn (jI @l @h4 @A @z) ?_;refine(y9 [[34]] ⟨u,h2⟩ (by rw[<-T,T];exact H) s0).mono λv B ⟨C,j,h3,f3⟩=> ?_;refine dh ?_;exact⟨j,h3,y.trans f3⟩
  | false=>
    have A:I.ob p= .cells [u,L, .int .i64 d.deep, .int .i64 (20000-(d.w:Int)), .bool false] 46 .ex:=by rw[S,O]
    obtain⟨c,hs⟩ : ∃c,s[i]? = some c:=⟨_,dx x⟩;have E:(⟨⟨s⟩⟩:ByteArray)[i]? = some c:=ia.trans hs;have hd:s.drop i=c::s.drop (i+1):=by
     rw[uh x];rw[dx x] at hs;cases hs;rfl
    rw[hd] at a;simp only[lV,O,aM,↓reduceIte] at a;have m:(aV (iE c) d).w<=nu:=cM (cM (MF _ _) (cM (Nat.le_of_eq (congrArg aB.w a)) (y8 _ _))) H;have hiw:i+1<=2305843009213693952:=by
     have:=aa1 c d;simp only[nu] at m;omega
    have o:i+1+cZ.w<=(aV (iE c) d).w:=by
     have:=aa1 c d;omega
    have U:IntKind.i64.wrap ((i:Int)+1)=((i+1:Nat):Int):=by
     rw[nh Om Om];rfl
    have hex:(⟨⟨s⟩⟩:ByteArray).extract i (i+1)=⟨⟨[c]⟩⟩:=by
     rw[gA,hd];have:i+1-i=1:=by omega
     rw[this];rfl
    have kK:(0:Int)<=(i:Int)/\(i:Int)<=((i+1:Nat):Int)/\((i+1:Nat):Int)<=(s.length:Int):=by omega
    by_cases D:c.toNat=10
    ·have t:iE c= [[92,110]]:=iP (UInt8.toNat.inj D);rw[t] at m a o;refine rn (FT @l @h4 @A @z @E @D) ?_;refine(y9 [[92,110]] ⟨u,h2⟩ m s0).mono λv B ⟨C,j,h3,f3⟩=> ?_;refine rn (mY @l @h4 @Ay) ?_;refine⟨_,?_,i+1,j,_,rfl,x,rfl,h3,y.trans f3,a,o⟩;omega
    by_cases G:c.toNat=9
    ·have t:iE c= [[92,116]]:=(iN λh=>D (congrArg _ h)).trans (iP (UInt8.toNat.inj G));rw[t] at m a o;refine rn (FT @l @h4 @A @z @E @G) ?_;refine(y9 [[92,116]] ⟨u,h2⟩ m s0).mono λv B ⟨C,j,h3,f3⟩=> ?_;refine rn (mY @l @h4 @Ay) ?_;refine⟨_,?_,i+1,j,_,rfl,x,rfl,h3,y.trans f3,a,o⟩;omega
    by_cases V:c.toNat=34
    ·have t:iE c= [[92],[c]]:=(iN λh=>D (congrArg _ h)).trans ((iN λh=>G (congrArg _ h)).trans (iP (.inl (UInt8.toNat.inj V))));rw[t] at m a o;refine rn (A3 @l @h4 @A @z @E @V @U @hex @kK) ?_;refine(y9 [[92],[c]] ⟨u,h2⟩ m s0).mono λv B ⟨C,j,h3,f3⟩=> ?_;refine rn (mY @l @h4 @Ay) ?_;refine⟨_,?_,i+1,j,_,rfl,x,rfl,h3,y.trans f3,a,o⟩;omega
    by_cases Y:c.toNat=92
    ·have t:iE c= [[92],[c]]:=(iN λh=>D (congrArg _ h)).trans ((iN λh=>G (congrArg _ h)).trans (iP (.inr (UInt8.toNat.inj Y))));rw[t] at m a o;refine rn (A3 @l @h4 @A @z @E @Y @U @hex @kK) ?_;refine(y9 [[92],[c]] ⟨u,h2⟩ m s0).mono λv B ⟨C,j,h3,f3⟩=> ?_;refine rn (mY @l @h4 @Ay) ?_;refine⟨_,?_,i+1,j,_,rfl,x,rfl,h3,y.trans f3,a,o⟩;omega
    have Mu : ¬((c.toNat:Int)=10):=by omega
    have g9 : ¬((c.toNat:Int)=9):=by omega
    have M : ¬((c.toNat:Int)=34):=by omega
    have N : ¬((c.toNat:Int)=92):=by omega
    have k1 : ¬(c=34\/c=92):=λh=>h.elim (λh=>V (congrArg _ h)) λh=>Y (congrArg _ h);by_cases Co:c.toNat<32
    ·have Sb:((c.toNat:Int)<32):=by omega
     have t:iE c= [[92,120],(lU.drop (c.toNat / 16)).take 1,(lU.drop (c.toNat % 16)).take 1]:=by
      rw[<-aa2 _ Om,<-aa2 _ Om];exact(iN λh=>D (congrArg _ h)).trans ((iN λh=>G (congrArg _ h)).trans ((iN k1).trans (iP Co)))
     rw[t] at m a o;have q1:((c.toNat:Int) / 16)=((c.toNat / 16:Nat):Int):=by omega
     have q2:((c.toNat:Int) % 16)=((c.toNat % 16:Nat):Int):=by omega
     have q3:c.toNat / 16<2:=by omega
     have q4:c.toNat % 16<16:=by omega
     generalize c.toNat / 16=q at *;generalize c.toNat % 16=r at *;repeat' (first | (simp (disch:=first | omega | (decide +kernel)) only[↓RD,RU,↓cm,↓cV,↓du,dk,rI,Eh,pop,bg,fV,kH,isVal,Value.cells,ρ0,ρ1,ρ3,ρ4,↓reduceIte,Nat.reduceEqDiff,Nat.reduceAdd,reduceCtorEq,ρ5,ρ6,ρ7,ρ8,eJ,ρ17,ρ18,ρ19,ρ20,ρ21,ρ25,ρ26,j8,Nat.reduceLeDiff,ρ29,l,h4,A,z,E,Mu,g9,M,N,Sb,q1,q2,Ay,cG,gA,Nat.add_sub_cancel_left]) | ((with_reducible first|apply bL|apply bM|apply bN)<;>intro _))
     refine(y9 [[92,120],(lU.drop q).take 1,(lU.drop r).take 1] ⟨u,h2⟩ m s0).mono λv B ⟨C,j,h3,f3⟩=> ?_;refine rn (mY @l @h4 @Ay) ?_;refine⟨_,?_,i+1,j,_,rfl,x,rfl,h3,y.trans f3,a,o⟩;omega
    have Sb : ¬((c.toNat:Int)<32):=by omega
    have t:iE c= [[c]]:=(iN λh=>D (congrArg _ h)).trans ((iN λh=>G (congrArg _ h)).trans ((iN k1).trans (iN Co)));rw[t] at m a o;repeat' (first | (simp (disch:=first | omega | (decide +kernel)) only[↓RD,RU,↓cm,↓cV,↓du,dk,rI,Eh,pop,bg,fV,kH,isVal,Value.cells,ρ0,ρ1,ρ3,ρ4,↓reduceIte,Nat.reduceEqDiff,reduceCtorEq,ρ5,ρ6,ρ7,ρ8,eJ,ρ17,ρ21,ρ25,ρ26,j8,Nat.reduceLeDiff,BG,ρ29,l,h4,A,z,E,Mu,g9,M,N,Sb,U,hex]) | ((with_reducible first|apply bL|apply bM|apply bN)<;>intro _))
    refine(y9 [[c]] ⟨u,h2⟩ m s0).mono λv B ⟨C,j,h3,f3⟩=> ?_;refine rn (mY @l @h4 @Ay) ?_;refine⟨_,?_,i+1,j,_,rfl,x,rfl,h3,y.trans f3,a,o⟩;omega
 have he:i=s.length:=by omega
 subst he;rw[re] at a;simp only[lV] at a;subst a;refine rn (jI @l @h4 @S @z) ?_;refine(y9 [[34]] ⟨u,h2⟩ H s0).mono λv B ⟨C,j,h3,f3⟩=> ?_;refine dh ?_;exact⟨j,h3,y.trans f3⟩
theorem aku{Z:TP}(hJ:Z.J=Jb){X:ce}{st:aB}{Q:AV->List SV->Prop}{R:ae->Prop}(s:List UInt8){aD:aB}(e:aD.w<=nu)(i:(jF s st).w<=aD.w)(j : ∀d,jF s st=d->Q (.eF []) (lW d)):TC Z TL X 87 [.ptr 0 0,rS (.string ⟨⟨s⟩⟩)] (s7 st) Q R:=by
 refine aaZ hJ (V:= .tuple #[]) (λK E=> .eF (vs:= []) .nil) trivial (λK p b E vs k l n=> ?_) (j _ rfl);cases l with
 | cons a m=>
   cases m;cases a with
   | r a=>cases a with
     | c a=>cases a with
       | s a=>
         cases a;exact akt k (cM i e)
theorem iW{Z:TP}(hJ:Z.J=Jb){X:ce}{st:aB}{Q:AV->List SV->Prop}{R:ae->Prop}(s:List UInt8){aD:aB}(b:aD.w<=nu)(c:(fx s st).w<=aD.w)(d : ∀a,fx s st=a->Q (.eF []) (lW a)):TC Z TL X 27 [.ptr 0 0,rS (.string ⟨⟨s⟩⟩)] (s7 st) Q R:=akq hJ s (cM c b) (d _ rfl)
end
section
open Go Go.RowKit
attribute [local irreducible] TC aV
theorem MH(st:aB):lW st.sb= [.lk [], .lk st.out, .sc (.int .i64 st.deep), .sc (.int .i64 (20000-(st.w:Int))), .sc (.bool true)]:=rfl
theorem Sc(st:aB)(d:Int):lW (st.dp d)= [.lk [], .lk st.out, .sc (.int .i64 d), .sc (.int .i64 (20000-(st.w:Int))), .sc (.bool st.bad)]:=rfl
theorem aa3(n:Nat):((n:Int).tmod (Int.ofNat 2)==Int.ofNat 1)=decide (n % 2=1):=by
 show(((n % 2:Nat):Int)==((1:Nat):Int))=_;by_cases h:n % 2=1
 ·rw[h];rfl
 rw[decide_eq_false h];rw[beq_eq_false_iff_ne];omega
theorem aa4{ks:List Nd}{a b:Nat}{st:aB}{K:aB->aB}(hb:st.bad=true):eH (cJ ks a b st) K=st:=by
 have:cJ ks a b st=st:=by unfold cJ;rw[iP hb]
 rw[this];unfold eH;rw[iP hb]
theorem di{Z:TP}{X:ce}{st:aB}{k:Nat}{l:Int}{x:List UInt8}{o:Nat}{ks:List Nd}{a b:Nat}{Q:AV->List SV->Prop}{R:ae->Prop}
 (h1:st.bad=false->b<=ks.length->ks.length<=a->(∀K,eH (cJ ks a b st) K=K st)->Q (rS (.bool true)) (lW st))
 (h2 : ∀c:aB,c.bad=true->(∀K,eH (cJ ks a b st) K=c)->Q (rS (.bool false)) (lW c)):TC Z TL X 45 [.ptr 0 0,eC (.mk k l x o ks),iS a,iS b] (s7 st) Q R:=by
 refine akp (n:= .mk k l x o ks) ?_;show Q (rS (.bool !(cJ ks a b st).bad)) (lW (cJ ks a b st));cases hb:(cJ ks a b st).bad with
 | true=>
   exact h2 _ hb λK=>by unfold eH;rw[iP hb]
 | false=>
   have he:cJ ks a b st=st/\st.bad=false/\b<=ks.length/\ks.length<=a:=by
    unfold cJ at hb⊢;split at hb;·rename_i h;rw[h] at hb;cases hb
    rename_i h;split at hb;·cases hb
    split at hb;·cases hb
    rename_i d e;rw[iN h,iN d,iN e];exact⟨rfl,hb,Om,Om⟩
   rw[he.1];exact h1 he.2.1 he.2.2.1 he.2.2.2 λK=>by rw[he.1];unfold eH;rw[iN (by rw[he.2.1];decide)]
section
variable {Z:TP} {X:ce} {R:ae->Prop} {Q:AV->List SV->Prop}
theorem MI{k:Nat}{l:Int}{x:List UInt8}{o:Nat}{ks:List Nd}(a:Q (iS (gC (.mk k l x o ks))) []):TC Z TL X 72 [eC (.mk k l x o ks)] none Q R:=by
 refine ky kz Rl Kr (bq ?_)
 by_cases hk:k=37
 ·subst hk;by_cases b:o=7
  ·subst b;conv=>whnf
   exact a
  by_cases h1:o=1
  ·subst h1;conv=>whnf
   exact a
  by_cases h2:o=2
  ·subst h2;conv=>whnf
   exact a
  have e:gC (.mk 37 l x o ks)=6:=by
   show(if o=7 then 8 else if o=1\/o=2 then 5 else 6)=6;rw[iN b,iN Om]
  rw[e] at a;conv=>whnf
  repeat' (refine b9 (λh=>by exfalso;simp at h;omega) λh=> ?_;conv=>whnf)
  exact a
 by_cases c:k=49\/k=50\/k=40\/k=39\/k=41\/k=42\/k=38\/k=44\/k=45\/k=46\/k=47
 ·rcases c with rfl | rfl | rfl | rfl | rfl | rfl | rfl | rfl | rfl | rfl | rfl
  all_goals
   conv=>whnf
   exact a
 have e:gC (.mk k l x o ks)=10:=by
  have n1 : ¬(k=49\/k=50):=by omega
  have n2 : ¬k=40:=by omega
  have d : ¬k=39:=by omega
  have i : ¬k=41:=by omega
  have j : ¬k=42:=by omega
  have m : ¬k=38:=by omega
  have n : ¬(k=44\/k=45\/k=46\/k=47):=by omega
  simp only[gC,Nd.kind,n1,n2,d,i,j,m,hk,n,↓reduceIte]
 rw[e] at a;conv=>whnf
 repeat' (refine b9 (λh=>by exfalso;simp at h;omega) λh=> ?_;conv=>whnf)
 exact a
theorem Sd{o:Nat}(a:Q (rS (.string ⟨⟨jT mR o⟩⟩)) []):TC Z TL X 50 [iS o] none Q R:=by
 refine ky kz Rl Kr (bq ?_)
 by_cases b:o=1\/o=2\/o=3\/o=4\/o=5\/o=6\/o=7
 ·rcases b with rfl | rfl | rfl | rfl | rfl | rfl | rfl
  ·conv=>whnf
   refine⟨rfl,?_⟩;conv=>whnf
   refine⟨rfl,0,_,rfl,rfl,?_⟩;conv=>whnf
   exact a
  ·conv=>whnf
   refine⟨rfl,?_⟩;conv=>whnf
   refine⟨rfl,1,_,rfl,rfl,?_⟩;conv=>whnf
   exact a
  ·conv=>whnf
   refine⟨rfl,?_⟩;conv=>whnf
   refine⟨rfl,2,_,rfl,rfl,?_⟩;conv=>whnf
   exact a
  ·conv=>whnf
   refine⟨rfl,?_⟩;conv=>whnf
   refine⟨rfl,3,_,rfl,rfl,?_⟩;conv=>whnf
   exact a
  ·conv=>whnf
   refine⟨rfl,?_⟩;conv=>whnf
   refine⟨rfl,4,_,rfl,rfl,?_⟩;conv=>whnf
   exact a
  ·conv=>whnf
   refine⟨rfl,?_⟩;conv=>whnf
   refine⟨rfl,5,_,rfl,rfl,?_⟩;conv=>whnf
   exact a
  conv=>whnf
  refine⟨rfl,?_⟩;conv=>whnf
  refine⟨rfl,6,_,rfl,rfl,?_⟩;conv=>whnf
  exact a
 have e:jT mR o= [63]:=by
  cases o with
  | zero=>rfl
  | succ o=>
    show(mR).getD o [63]=_;rw[uj,qZ (by show 7<=o;omega)];rfl
 rw[e] at a;conv=>whnf
 refine b9 (λh=> ?_) λh=> ?_
 ·conv=>whnf
  exact a
 conv=>whnf
 have c : ¬((o:Int)<1):=by simpa using h
 rw[show decide ((o:Int)>Int.ofNat 7)=true from decide_eq_true (by show(7:Int)<o;omega)];conv=>whnf
 exact a
theorem akv{o:Nat}(a:Q (rS (.string ⟨⟨jT w8 o⟩⟩)) []):TC Z TL X 102 [iS o] none Q R:=by
 refine ky kz Rl Kr (bq ?_)
 by_cases b:o=1\/o=2\/o=3\/o=4\/o=5\/o=6\/o=7\/o=8\/o=9\/o=10
 ·rcases b with rfl | rfl | rfl | rfl | rfl | rfl | rfl | rfl | rfl | rfl
  ·conv=>whnf
   refine⟨rfl,?_⟩;conv=>whnf
   refine⟨rfl,0,_,rfl,rfl,?_⟩;conv=>whnf
   exact a
  ·conv=>whnf
   refine⟨rfl,?_⟩;conv=>whnf
   refine⟨rfl,1,_,rfl,rfl,?_⟩;conv=>whnf
   exact a
  ·conv=>whnf
   refine⟨rfl,?_⟩;conv=>whnf
   refine⟨rfl,2,_,rfl,rfl,?_⟩;conv=>whnf
   exact a
  ·conv=>whnf
   refine⟨rfl,?_⟩;conv=>whnf
   refine⟨rfl,3,_,rfl,rfl,?_⟩;conv=>whnf
   exact a
  ·conv=>whnf
   refine⟨rfl,?_⟩;conv=>whnf
   refine⟨rfl,4,_,rfl,rfl,?_⟩;conv=>whnf
   exact a
  ·conv=>whnf
   refine⟨rfl,?_⟩;conv=>whnf
   refine⟨rfl,5,_,rfl,rfl,?_⟩;conv=>whnf
   exact a
  ·conv=>whnf
   refine⟨rfl,?_⟩;conv=>whnf
   refine⟨rfl,6,_,rfl,rfl,?_⟩;conv=>whnf
   exact a
  ·conv=>whnf
   refine⟨rfl,?_⟩;conv=>whnf
   refine⟨rfl,7,_,rfl,rfl,?_⟩;conv=>whnf
   exact a
  ·conv=>whnf
   refine⟨rfl,?_⟩;conv=>whnf
   refine⟨rfl,8,_,rfl,rfl,?_⟩;conv=>whnf
   exact a
  conv=>whnf
  refine⟨rfl,?_⟩;conv=>whnf
  refine⟨rfl,9,_,rfl,rfl,?_⟩;conv=>whnf
  exact a
 have e:jT w8 o= [63]:=by
  cases o with
  | zero=>rfl
  | succ o=>
    show(w8).getD o [63]=_;rw[uj,qZ (by show 10<=o;omega)];rfl
 rw[e] at a;conv=>whnf
 refine b9 (λh=> ?_) λh=> ?_
 ·conv=>whnf
  exact a
 conv=>whnf
 have c : ¬((o:Int)<1):=by simpa using h
 rw[show decide ((o:Int)>Int.ofNat 10)=true from decide_eq_true (by show(10:Int)<o;omega)];conv=>whnf
 exact a
end
end
section
open Go Go.RowKit
attribute [local irreducible] TC aV pe fx jF cJ eH
def gM (Z:TP)(X:ce)(f:Nat)(r:SR)(F:bk)(args:List AV):Prop:=∀(st a:aB) (Q:AV->List SV->Prop) (R:ae->Prop),a.w<=nu->(pe f r st).w<=a.w->(∀b,pe f r st=b->Q (.eF []) (lW b))->TC Z TL X F (.ptr 0 0::args) (s7 st) Q R
abbrev MJ(l:List Nd):AV:= .r (.c (.s (.row 5 (c7 l))))
abbrev Fa(l:List Nd):AV:= .r (.c (.s (.sub 5 (c7 l))))
abbrev Fb(n:Nd):Nat×aH×List CV:=(0,26,(lr n).map .s)
structure qg(Z:TP)(X:ce)(f:Nat):Prop where
 dX : ∀n a,gM Z X f (.at n a) 46 [eC n,iS a]
 expr : ∀n,gM Z X f (.expr n) 73 [eC n]
 row : ∀l,gM Z X f (.bc false l) 48 [MJ l]
 pW : ∀l,gM Z X f (.bc false l) 48 [Fa l]
 two : ∀n l s r,gM Z X f (.two n l s r) 49 [eC n,iS l,rS (.string ⟨⟨s⟩⟩),iS r]
 clauses : ∀l,gM Z X f (.clauses l) 101 [Fa l]
 bO : ∀l,gM Z X f (.bO false l) 100 [MJ l]
 aa5 : ∀l,gM Z X f (.bO false l) 100 [Fa l]
 shown : ∀n,51<=n.kind->n.kind<=57->gM Z X f (.shown n) 89 [eC n]
 dC : ∀n,44<=n.kind->n.kind<=47->gM Z X f (.dC n) 88 [eC n]
 dK : ∀n,gM Z X f (.dK n) 90 [eC n]
 maybe : ∀s n,gM Z X f (.maybe s n) 51 [rS (.string ⟨⟨s⟩⟩),eC n]
 block : ∀n,gM Z X f (.block n) 47 [eC n]
 ifs : ∀s n,gM Z X f (.ifs s n) 24 [rS (.string ⟨⟨s⟩⟩),eC n]
 tries : ∀n,gM Z X f (.tries n) 25 [eC n]
 stmt : ∀n,gM Z X f (.stmt n) 14 [eC n]
 head : ∀n,(n.kind=6\/n.kind=7\/n.kind=8\/n.kind=9\/n.kind=16)->gM Z X f (.head n) 26 [eC n]
 simple : ∀n,gM Z X f (.simple n) 28 [eC n]
theorem oI{Z:TP}{X:ce}{r:SR}{F:bk}{args:List AV}:gM Z X 0 r F args:=by
 unfold gM;intro st c Q R b a d;exfalso;unfold pe at a;simp only[aB.R6,nu] at a b;omega
theorem vj{l:List Nd}{i:Nat}{n:Nd}(h:l[i]? = some n):l.drop i=n::l.drop (i+1):=by
 obtain⟨hi,rfl⟩:=List.getElem?_eq_some_iff.1 h;exact uh hi
theorem qh{r:SR}{st b aD:aB}(h:pe 0 r st=b)(c:aD.w<=nu)(a:b.w<=aD.w):False:=by
 rw[<-h] at a;unfold pe at a;simp only[aB.R6,nu] at a c;omega
theorem Cq{i n:Nat}(h:i<n)(hn:n<=maxLen):rS (.int .i64 (IntKind.i64.wrap ((i:Int)+1)))=iS ((i+1:Nat):Int):=by
 have:n<=9223372036854775807:=hn;rw[nh Om Om];rfl
theorem akw{a b:List UInt8}(hl:a.length+b.length<=1000):cr (binOp .add 0 (.string (str a)) (.string (str b)))=some (.string (str (a++b))):=by
 simp only[binOp,Op.stringOp,cr,Pure.pure];have h : ¬(((str a).size+(str b).size:Nat):Int)>IntKind.i64.max:=by
  show ¬(((a.length+b.length:Nat):Int)>9223372036854775807);omega
 rw[iN h];have e:str a++str b=str (a++b):=by
  apply ByteArray.ext;rw[ByteArray.data_append];apply Array.ext';rw[Array.toList_append]
 rw[e]
theorem akx{fr:aR}{x y:Operand}{a b:List UInt8}(hl:a.length+b.length<=1000)(hx:(dV fr x).raw=some (.string ⟨⟨a⟩⟩))(hy:(dV fr y).raw=some (.string ⟨⟨b⟩⟩)):pm fr (.bin .add x y)=some (rS (.string ⟨⟨a++b⟩⟩)):=by
 have h1:rev fr x= .string ⟨⟨a⟩⟩:=by unfold rev;rw[hx];rfl
 have h2:rev fr y= .string ⟨⟨b⟩⟩:=by unfold rev;rw[hy];rfl
 show(if ([x,y].all λy=>(dV fr y).raw.isSome)=true then (pop (rev fr) (.bin .add x y)).map Ez else none)=_;rw[iP (by simp[hx,hy])];simp only[pop,h1,h2];have:=akw hl;simp only[str] at this;rw[this];rfl
theorem aa6(o:Nat):(jT mR o).length<=2:=by
 rcases o with _ | _ | _ | _ | _ | _ | _ | _ | o
 all_goals first | decide | skip
 show(mR.getD (o+7) [63]).length<=2;rw[uj,qZ (by show 7<=o+7;omega)];decide
theorem neS{x:List UInt8}:(!((⟨⟨x⟩⟩:ByteArray).toList==(⟨⟨[]⟩⟩:ByteArray).toList))= !decide (x= []):=by
 have:=XM (a:=x) (b:= []);simp only[str] at this;rw[this]
theorem MK{x:List UInt8}(h:x= []):(!((⟨⟨x⟩⟩:ByteArray).toList==(⟨⟨[]⟩⟩:ByteArray).toList))=false:=by rw[neS,decide_eq_true h];rfl
theorem ML{x:List UInt8}(h : ¬x= []):(!((⟨⟨x⟩⟩:ByteArray).toList==(⟨⟨[]⟩⟩:ByteArray).toList))=true:=by rw[neS,decide_eq_false h];rfl
end
section
open Go Go.RowKit
attribute [local irreducible] TC aV pe fx jF cJ eH aB.sb aB.dp
variable {Z:TP} {X:ce} {f:Nat} (hJ:Z.J=Jb) (h : ∀g,g<=f->qg Z X g)
include hJ h
theorem aky(n:Nd)(a:Nat):gM Z X (f+1) (.at n a) 46 [eC n,iS a]:=by
 intro st j Q R i hm d;refine ky kz Rl Kr (bq ?_)
 simp only[pe] at hm d;obtain⟨k,l,x,o,ks⟩:=n;conv=>whnf
 refine MI ?_;conv=>whnf
 refine b9 (λhc=> ?_) λhc=> ?_
 ·have hc:gC (.mk k l x o ks)<a:=by simpa using hc
  simp only[hc,↓reduceIte] at hm d;conv=>whnf
  refine⟨rfl,?_⟩;(conv=>whnf);(refine bQ (st:=st) hJ [oG] s0 s0 i (mo hm) λst hp=> ?_;rw[hp] at hm d;clear hp;conv=>whnf)
  (refine((h f (ag f)).expr (.mk k l x o ks)) st j _ _ i (mo hm) λst hp=> ?_;rw[hp] at hm d;clear hp;conv=>whnf)
  refine⟨rfl,?_⟩;(conv=>whnf);(refine bQ (st:=st) hJ [oH] s0 s0 i (mo hm) λst hp=> ?_;rw[hp] at hm d;clear hp;conv=>whnf)
  exact d _ rfl
 have hc : ¬gC (.mk k l x o ks)<a:=by simpa using hc
 simp only[hc,↓reduceIte] at hm d;conv=>whnf
 (refine((h f (ag f)).expr (.mk k l x o ks)) st j _ _ i (mo hm) λst hp=> ?_;rw[hp] at hm d;clear hp;conv=>whnf)
 exact d _ rfl
theorem akz(n:Nd)(l:Nat)(s:List UInt8)(r:Nat):gM Z X (f+1) (.two n l s r) 49 [eC n,iS l,rS (.string ⟨⟨s⟩⟩),iS r]:=by
 intro st j Q R i hm d;refine ky kz Rl Kr (bq ?_)
 simp only[pe] at hm d;rcases n with ⟨k,ln,x,o,_ | ⟨⟨k1,m,t,o1,u⟩,_ | ⟨⟨v,y,z,o2,A⟩,ks⟩⟩⟩
 all_goals
  simp only[Nd.kids] at hm d;conv=>whnf
  refine di (st:=st) (λhn hl hg hk=> ?_) λst hb hk=> ?_;all_goals rw[hk] at hm d
 case nil.refine_1=>simp at hl
 case cons.nil.refine_1=>simp at hl
 case cons.cons.refine_1=>
  conv=>whnf
  (refine⟨rfl,0,_,rfl,rfl,?_⟩;conv=>whnf)
  (refine((h f (ag f)).dX (.mk k1 m t o1 u) l) st j _ _ i (mo hm) λst hp=> ?_;rw[hp] at hm d;clear hp;conv=>whnf)
  refine⟨rfl,?_⟩;(conv=>whnf);(refine bQ (st:=st) hJ [kR,s,kR] s0 s0 i (mo hm) λst hp=> ?_;rw[hp] at hm d;clear hp;conv=>whnf)
  (refine⟨rfl,1,_,rfl,rfl,?_⟩;conv=>whnf)
  (refine((h f (ag f)).dX (.mk v y z o2 A) r) st j _ _ i (mo hm) λst hp=> ?_;rw[hp] at hm d;clear hp;conv=>whnf)
  exact d _ rfl
 all_goals
  conv=>whnf
  exact d _ rfl
theorem akA(s:List UInt8)(n:Nd):gM Z X (f+1) (.maybe s n) 51 [rS (.string ⟨⟨s⟩⟩),eC n]:=by
 intro st j Q R i hm d;refine ky kz Rl Kr (bq ?_)
 simp only[pe] at hm d;rcases n with ⟨k,ln,x,o,_ | ⟨⟨k1,l,m,o1,t⟩,ks⟩⟩
 all_goals
  simp only[Nd.kids] at hm d;conv=>whnf
  refine⟨rfl,?_⟩;(conv=>whnf);(refine bQ (st:=st) hJ [s] s0 s0 i (mo hm) λst hp=> ?_;rw[hp] at hm d;clear hp;conv=>whnf)
  intro hx;conv=>whnf
 ·exact d _ rfl
 refine b9 (λ_=> ?_) λhc=>absurd (of_decide_eq_false hc) (by rw[c8,ay];show ¬ ¬(0:Int)<_;omega);conv=>whnf
 refine⟨rfl,?_⟩;(conv=>whnf);(refine bQ (st:=st) hJ [kR] s0 s0 i (mo hm) λst hp=> ?_;rw[hp] at hm d;clear hp;conv=>whnf)
 (refine⟨rfl,0,_,rfl,rfl,?_⟩;conv=>whnf)
 (refine((h f (ag f)).dX (.mk k1 l m o1 t) 0) st j _ _ i (mo hm) λst hp=> ?_;rw[hp] at hm d;clear hp;conv=>whnf)
 exact d _ rfl
end
section
open Go Go.RowKit
attribute [local irreducible] TC aV pe fx jF cJ eH aB.sb aB.dp
variable {Z:TP} {X:ce} {f:Nat} (hJ:Z.J=Jb) (h : ∀g,g<=f->qg Z X g)
include hJ h
theorem aa7(l:List Nd)(A:AV)(hA:A=MJ l\/A=Fa l):gM Z X (f+1) (.bc false l) 48 [A]:=by
 intro st o Q R j hm d;refine ky kz Rl Kr (bq ?_)
 generalize s:pe (f+1) (.bc false l) st=D at hm;have E:=d _ s;rcases hA with rfl | rfl
 all_goals
  conv=>whnf
  intro hx;conv=>whnf
  refine qH 8 (λm a u=>∃(i:Nat) (v:aB),a=iS i/\m=l.length-i/\i<=l.length/\u=⟨0,[oP v]⟩/\pe (f+1-i) (.bc (decide (0<i)) (l.drop i)) v=D) l.length [] rfl ⟨0,st,rfl,rfl,fa _,rfl,s⟩ ?_;rintro m a f1 u ⟨i,st,rfl,rfl,hi,rfl,h1⟩;conv=>whnf
  refine b9 (λhc=> ?_) λhc=> ?_
  ·have hi:i<l.length:=by have:=of_decide_eq_true hc;rw[c8] at this;omega
   obtain⟨⟨k1,x,y,o1,z⟩,ht⟩ : ∃t,l[i]? = some t:=⟨_,dx hi⟩;have B:=Cq hi (by rw[<-c8];exact hx);rw[vj ht] at h1;obtain⟨g,hg⟩ : ∃g,f+1-i=g+1:=by
    cases hg:f+1-i with
    | zero=>rw[hg] at h1;exact(qh h1 j hm).elim
    | succ g=>exact⟨g,rfl⟩
   have C:f+1-(i+1)=g:=by omega
   rw[hg] at h1;simp only[pe] at h1;have d:=h1;rw[<-h1] at hm;conv=>whnf
   refine⟨rfl,i,_,rfl,jr ht,?_⟩;conv=>whnf
   refine b9 (λhc=> ?_) λhc=> ?_
   ·have n:0<i:=by have:(i:Int)>0:=of_decide_eq_true hc;omega
    rw[iP (decide_eq_true n)] at hm d;conv=>whnf
    refine⟨rfl,?_⟩;(conv=>whnf);(refine bQ (st:=st) hJ [w9] s0 s0 j (mo hm) λst hp=> ?_;rw[hp] at hm d;clear hp;conv=>whnf)
    (refine((h g Om).dX (.mk k1 x y o1 z) 0) st o _ _ j (mo hm) λst hp=> ?_;rw[hp] at hm d;clear hp;conv=>whnf)
    refine⟨_,[],?_,rfl,i+1,st,B,rfl,hi,rfl,?_⟩;·omega
    rw[C];exact d
   have n : ¬ 0<i:=by have : ¬(i:Int)>0:=of_decide_eq_false hc;omega
   rw[iN (by simpa using n)] at hm d;conv=>whnf
   (refine((h g Om).dX (.mk k1 x y o1 z) 0) st o _ _ j (mo hm) λst hp=> ?_;rw[hp] at hm d;clear hp;conv=>whnf)
   refine⟨_,[],?_,rfl,i+1,st,B,rfl,hi,rfl,?_⟩;·omega
   rw[C];exact d
  have hi:i=l.length:=by have:=of_decide_eq_false hc;rw[c8] at this;omega
  subst hi;rw[re] at h1;cases hg:f+1-l.length with
  | zero=>rw[hg] at h1;exact(qh h1 j hm).elim
  | succ g=>
    rw[hg] at h1;simp only[pe] at h1;subst h1;conv=>whnf
    exact E
end
section
open Go Go.RowKit
attribute [local irreducible] TC aV pe fx jF cJ eH aB.sb aB.dp
variable {Z:TP} {X:ce} {f:Nat} (hJ:Z.J=Jb) (h : ∀g,g<=f->qg Z X g)
include hJ h
theorem akB(l:List Nd):gM Z X (f+1) (.clauses l) 101 [Fa l]:=by
 intro st n Q R j hm d;refine ky kz Rl Kr (bq ?_)
 conv=>whnf
 intro hx;conv=>whnf
 generalize I:pe (f+1) (.clauses l) st=C at hm d;have S:=d;have o:C.w<=n.w:=mo hm;refine qH 8 (λm a D=>∃(i:Nat) (E:aB),a=iS i/\m=l.length-i/\i<=l.length/\D=⟨0,[oP E]⟩/\pe ((f+1)-i) (.clauses (l.drop i)) E=C) l.length [] rfl ⟨0,st,rfl,rfl,fa _,rfl,I⟩ ?_;rintro m a f1 D ⟨i,st,rfl,rfl,hi,rfl,h1⟩;conv=>whnf
 refine b9 (λhc=> ?_) λhc=> ?_
 ·have hi:i<l.length:=by
   have this:(i:Int)<((c7 l).length:Nat):=of_decide_eq_true hc;rw[c8] at this;omega
  obtain⟨⟨k1,T,U,o1,s⟩,ht⟩ : ∃t,l[i]? = some t:=⟨_,dx hi⟩;have u:=Cq hi (by rw[<-c8];exact hx);rw[vj ht] at h1;obtain⟨g,hg⟩ : ∃g,(f+1)-i=g+1:=by
   cases hg:(f+1)-i with
   | zero=>rw[hg] at h1;exact(qh h1 j o).elim
   | succ g=>exact⟨g,rfl⟩
  have v:(f+1)-(i+1)=g:=by omega
  rw[hg] at h1;have d:=h1;rw[<-h1] at o;have hm:=o;by_cases F:k1=59
  ·subst F;rcases s with _ | ⟨⟨x,y,z,o2,A⟩,s⟩
   all_goals
    replace hm:=pz hm;replace d:=pz d
    conv=>whnf
    refine⟨rfl,i,_,rfl,jr ht,?_⟩;conv=>whnf
    refine di (st:=st) (λhn hl G hk=> ?_) λB hb hk=> ?_;all_goals (rw[hk] at hm d;conv=>whnf)
   case nil.refine_1=>simp at hl
   case cons.refine_1=>
    refine⟨rfl,?_⟩;(conv=>whnf);(refine bQ (st:=st) hJ [xb] s0 s0 j (mo hm) λst hp=> ?_;rw[hp] at hm d;clear hp;conv=>whnf)
    (refine⟨rfl,0,_,rfl,rfl,?_⟩;conv=>whnf)
    (refine((h g Om).dX (.mk x y z o2 A) 1) st n _ _ j (mo hm) λst hp=> ?_;rw[hp] at hm d;clear hp;conv=>whnf)
    refine⟨_,[],?_,rfl,i+1,st,u,rfl,hi,rfl,?_⟩;·omega
    rw[v];exact d
   all_goals
    refine di (st:=B) (λhn hl G H=> ?_) λst V H=> ?_;·rw[hn] at hb;cases hb
    have e:B=st:=by rw[<-H id,aa4 hb]
    subst e;conv=>whnf
    refine⟨_,[],?_,rfl,i+1,B,u,rfl,hi,rfl,?_⟩;·omega
    rw[v];exact d
  skip
  rcases s with _ | ⟨⟨x,y,z,o2,A⟩,_ | ⟨⟨K,L,M,N,O⟩,s⟩⟩
  all_goals
   simp only[pe,Nd.kind,Nd.text,Nd.op,Nd.kids,Nat.reduceEqDiff,reduceCtorEq,or_self,or_true,true_or,or_false,false_or,and_true,true_and,and_false,false_and,↓reduceIte,F] at hm d;conv=>whnf
   refine⟨rfl,i,_,rfl,jr ht,?_⟩;conv=>whnf
   refine b9 (λhc=>by exfalso;simp at hc;omega) λhc=> ?_;conv=>whnf
   refine di (st:=st) (λhn hl G hk=> ?_) λst hb hk=> ?_;all_goals (rw[hk] at hm d;conv=>whnf)
  case nil.refine_1=>simp at hl
  case cons.nil.refine_1=>simp at hl
  case cons.cons.refine_1=>
   refine⟨rfl,?_⟩;(conv=>whnf);(refine bQ (st:=st) hJ [Au] s0 s0 j (mo hm) λst hp=> ?_;rw[hp] at hm d;clear hp;conv=>whnf)
   (refine⟨rfl,0,_,rfl,rfl,?_⟩;conv=>whnf)
   (refine((h g Om).dX (.mk x y z o2 A) 9) st n _ _ j (mo hm) λst hp=> ?_;rw[hp] at hm d;clear hp;conv=>whnf)
   refine⟨rfl,?_⟩;(conv=>whnf);(refine bQ (st:=st) hJ [vf] s0 s0 j (mo hm) λst hp=> ?_;rw[hp] at hm d;clear hp;conv=>whnf)
   (refine⟨rfl,1,_,rfl,rfl,?_⟩;conv=>whnf)
   (refine((h g Om).dX (.mk K L M N O) 1) st n _ _ j (mo hm) λst hp=> ?_;rw[hp] at hm d;clear hp;conv=>whnf)
   refine⟨_,[],?_,rfl,i+1,st,u,rfl,hi,rfl,?_⟩;·omega
   rw[v];exact d
  all_goals
   refine⟨_,[],?_,rfl,i+1,st,u,rfl,hi,rfl,?_⟩;·omega
   rw[v];exact d
 have hi:i=l.length:=by
  have this : ¬(i:Int)<((c7 l).length:Nat):=of_decide_eq_false hc;rw[c8] at this;omega
 subst hi;rw[re] at h1;cases hg:(f+1)-l.length with
 | zero=>rw[hg] at h1;exact(qh h1 j o).elim
 | succ g=>
   rw[hg] at h1;simp only[pe] at h1;subst h1;conv=>whnf
   exact d _ rfl
end
section
open Go Go.RowKit
attribute [local irreducible] TC aV pe fx jF cJ eH aB.sb aB.dp
variable {Z:TP} {X:ce} {f:Nat} (hJ:Z.J=Jb) (h : ∀g,g<=f->qg Z X g)
include hJ h
theorem aa8(l:List Nd)(A:AV)(hA:A=MJ l\/A=Fa l):gM Z X (f+1) (.bO false l) 100 [A]:=by
 intro st s Q R i hm d;refine ky kz Rl Kr (bq ?_)
 generalize L:pe (f+1) (.bO false l) st=n at hm d;have o:=d _ rfl;rcases hA with rfl | rfl
 all_goals
  conv=>whnf
  refine qH 4 (λm a y=>∃(j:Nat) (z:aB),a=iS ((2*j:Nat):Int)/\m=l.length-j/\2*j<=l.length/\y=⟨0,[oP z]⟩/\pe (f+1-j) (.bO (decide (0<j)) (l.drop (2*j))) z=n) l.length [] rfl ⟨0,st,rfl,rfl,fa _,rfl,L⟩ ?_;rintro m a f1 y ⟨j,st,rfl,rfl,hi,rfl,h1⟩;conv=>whnf
  intro hx;conv=>whnf
  have N:l.length<=9223372036854775807:=by have:=hx;rw[c8] at this;exact this
  have O:(l.drop (2*j)).length=l.length-2*j:=List.length_drop;have hw:IntKind.i64.wrap (((2*j:Nat):Int)+Int.ofNat 1)=((2*j+1:Nat):Int):=by
   show IntKind.i64.wrap (((2*j:Nat):Int)+1)=_;rw[nh Om Om];rfl
  refine b9 (λhc=> ?_) λhc=> ?_
  ·have hi:2*j+1<l.length:=by
    have:=of_decide_eq_true hc;rw[c8,hw] at this;omega
   obtain⟨⟨k1,B,C,o1,D⟩,ht⟩ : ∃t,l[2*j]? = some t:=⟨_,dx Om⟩;obtain⟨⟨E,F,G,o2,H⟩,u⟩ : ∃t,l[2*j+1]? = some t:=⟨_,dx Om⟩;rw[vj ht,vj u] at h1;obtain⟨g,hg⟩ : ∃g,f+1-j=g+1:=by
    cases hg:f+1-j with
    | zero=>rw[hg] at h1;exact(qh h1 i hm).elim
    | succ g=>exact⟨g,rfl⟩
   have M:f+1-(j+1)=g:=by omega
   rw[hg] at h1;simp only[pe] at h1;have d:=h1;rw[<-h1] at hm;have I : ∀st:aB,pe g (.bO true (l.drop (2*j+1+1))) st=n->pe (f+1-(j+1)) (.bO (decide (0<j+1)) (l.drop (2*(j+1)))) st=n:=λst e=>by rw[M];exact e
   have K:l.length-(j+1)<l.length-j:=by omega
   conv=>whnf
   refine b9 (λhc=> ?_) λhc=> ?_
   ·have v:0<j:=by have:((2*j:Nat):Int)>0:=of_decide_eq_true hc;omega
    rw[iP (decide_eq_true v)] at hm d;conv=>whnf
    refine⟨rfl,?_⟩;(conv=>whnf);(refine bQ (st:=st) hJ [w9] s0 s0 i (mo hm) λst hp=> ?_;rw[hp] at hm d;clear hp;conv=>whnf)
    refine⟨rfl,2*j,_,rfl,jr ht,?_⟩;conv=>whnf
    (refine((h g Om).dX (.mk k1 B C o1 D) 0) st s _ _ i (mo hm) λst hp=> ?_;rw[hp] at hm d;clear hp;conv=>whnf)
    refine⟨rfl,?_⟩;(conv=>whnf);(refine bQ (st:=st) hJ [tW] s0 s0 i (mo hm) λst hp=> ?_;rw[hp] at hm d;clear hp;conv=>whnf)
    refine⟨rfl,2*j+1,_,hw,jr u,?_⟩;conv=>whnf
    (refine((h g Om).dX (.mk E F G o2 H) 0) st s _ _ i (mo hm) λst hp=> ?_;rw[hp] at hm d;clear hp;conv=>whnf)
    refine⟨_,[],K,rfl,j+1,st,?_,rfl,Om,rfl,I _ d⟩;show rS (.int .i64 (IntKind.i64.wrap (((2*j:Nat):Int)+2)))=_;rw[nh Om Om];rfl
   have v : ¬ 0<j:=by have : ¬((2*j:Nat):Int)>0:=of_decide_eq_false hc;omega
   rw[iN (by simpa using v)] at hm d;conv=>whnf
   refine⟨rfl,2*j,_,rfl,jr ht,?_⟩;conv=>whnf
   (refine((h g Om).dX (.mk k1 B C o1 D) 0) st s _ _ i (mo hm) λst hp=> ?_;rw[hp] at hm d;clear hp;conv=>whnf)
   refine⟨rfl,?_⟩;(conv=>whnf);(refine bQ (st:=st) hJ [tW] s0 s0 i (mo hm) λst hp=> ?_;rw[hp] at hm d;clear hp;conv=>whnf)
   refine⟨rfl,2*j+1,_,hw,jr u,?_⟩;conv=>whnf
   (refine((h g Om).dX (.mk E F G o2 H) 0) st s _ _ i (mo hm) λst hp=> ?_;rw[hp] at hm d;clear hp;conv=>whnf)
   refine⟨_,[],K,rfl,j+1,st,?_,rfl,Om,rfl,I _ d⟩;show rS (.int .i64 (IntKind.i64.wrap (((2*j:Nat):Int)+2)))=_;rw[nh Om Om];rfl
  have S:l.length<=2*j+1:=by
   have:=of_decide_eq_false hc;rw[c8,hw] at this;omega
  obtain⟨g,hg⟩ : ∃g,f+1-j=g+1:=by
   cases hg:f+1-j with
   | zero=>rw[hg] at h1;exact(qh h1 i hm).elim
   | succ g=>exact⟨g,rfl⟩
  rw[hg] at h1;have x : ∀b:Bool,(decide (2*j+1=l.length)=b)->n=if b=true then st.sb else st:=λb hb=>by
   subst hb;rw[<-h1];by_cases e:2*j+1=l.length
   ·rw[iP (decide_eq_true e),vj (dx Om),AX Om];simp only[pe]
   rw[iN (by simpa using e),AX Om];simp only[pe]
  conv=>whnf
  refine b9 (λhb=> ?_) λhb=> ?_
  ·conv=>whnf
   have hs:lW n= [.lk [], .lk st.out, .sc (.int .i64 st.deep), .sc (.int .i64 (20000-(st.w:Int))), .sc (.bool true)]:=by
    rw[x _ rfl];split;·exact MH st
    simp only[lW,hb]
   rw[hs] at o;exact o
  conv=>whnf
  intro hx;conv=>whnf
  refine b9 (λhc=> ?_) λhc=> ?_
  ·conv=>whnf
   rw[aa3,c8] at hc;have hc:=of_decide_eq_true hc;rw[x true (decide_eq_true Om),iP rfl,MH] at o;exact o
  conv=>whnf
  rw[aa3,c8] at hc;have hc:=of_decide_eq_false hc;have hs:lW n= [.lk [], .lk st.out, .sc (.int .i64 st.deep), .sc (.int .i64 (20000-(st.w:Int))), .sc (.bool false)]:=by
   rw[x false (decide_eq_false Om),iN de];simp only[lW,hb]
  rw[hs] at o;exact o
end
section
open Go Go.RowKit
attribute [local irreducible] TC aV pe fx jF cJ eH aB.sb aB.dp
variable {Z:TP} {X:ce} {f:Nat} (hJ:Z.J=Jb) (h : ∀g,g<=f->qg Z X g)
include hJ h
theorem akC(n:Nd):gM Z X (f+1) (.expr n) 73 [eC n]:=by
 intro st j Q R i hm d;refine ky kz Rl Kr (bq ?_)
 obtain⟨k,ln,x,o,ks⟩:=n;by_cases hk:k=30\/k=31\/k=36
 ·rcases hk with rfl | rfl | rfl
  all_goals
   replace hm:=pz hm;replace d:=pz d
   conv=>whnf
   refine⟨rfl,?_⟩;(conv=>whnf);(refine bQ (st:=st) hJ [x] s0 s0 i (mo hm) λst hp=> ?_;rw[hp] at hm d;clear hp;conv=>whnf)
   exact d _ rfl
 by_cases hk:k=32
 ·rcases hk with rfl
  all_goals
   replace hm:=pz hm;replace d:=pz d
   conv=>whnf
   (refine aku (st:=st) hJ x i (mo hm) λst hp=> ?_;rw[hp] at hm d;clear hp;conv=>whnf)
   exact d _ rfl
 by_cases hk:k=33
 ·rcases hk with rfl
  all_goals
   replace hm:=pz hm;replace d:=pz d
   conv=>whnf
   refine⟨rfl,?_⟩;(conv=>whnf);(refine bQ (st:=st) hJ [[78,111,110,101]] s0 s0 i (mo hm) λst hp=> ?_;rw[hp] at hm d;clear hp;conv=>whnf)
   exact d _ rfl
 by_cases hk:k=34
 ·rcases hk with rfl
  all_goals
   replace hm:=pz hm;replace d:=pz d
   conv=>whnf
   refine⟨rfl,?_⟩;(conv=>whnf);(refine bQ (st:=st) hJ [[84,114,117,101]] s0 s0 i (mo hm) λst hp=> ?_;rw[hp] at hm d;clear hp;conv=>whnf)
   exact d _ rfl
 by_cases hk:k=35
 ·rcases hk with rfl
  all_goals
   replace hm:=pz hm;replace d:=pz d
   conv=>whnf
   refine⟨rfl,?_⟩;(conv=>whnf);(refine bQ (st:=st) hJ [[70,97,108,115,101]] s0 s0 i (mo hm) λst hp=> ?_;rw[hp] at hm d;clear hp;conv=>whnf)
   exact d _ rfl
 by_cases hk:k=48
 ·rcases hk with rfl
  all_goals
   replace hm:=pz hm;replace d:=pz d
   conv=>whnf
   exact d _ rfl
 by_cases hk:k=60
 ·rcases hk with rfl
  all_goals
   replace hm:=pz hm;replace d:=pz d
   conv=>whnf
   (refine((h f (ag f)).maybe [121,105,101,108,100] (.mk 60 ln x o ks)) st j _ _ i (mo hm) λst hp=> ?_;rw[hp] at hm d;clear hp;conv=>whnf)
   exact d _ rfl
 by_cases hk:k=44
 ·rcases hk with rfl
  all_goals
   replace hm:=pz hm;replace d:=pz d
   conv=>whnf
   (refine((h f (ag f)).dC (.mk 44 ln x o ks) (ja rfl) (ja rfl)) st j _ _ i (mo hm) λst hp=> ?_;rw[hp] at hm d;clear hp;conv=>whnf)
   exact d _ rfl
 by_cases hk:k=45
 ·rcases hk with rfl
  all_goals
   replace hm:=pz hm;replace d:=pz d
   conv=>whnf
   (refine((h f (ag f)).dC (.mk 45 ln x o ks) (ja rfl) (ja rfl)) st j _ _ i (mo hm) λst hp=> ?_;rw[hp] at hm d;clear hp;conv=>whnf)
   exact d _ rfl
 by_cases hk:k=46
 ·rcases hk with rfl
  all_goals
   replace hm:=pz hm;replace d:=pz d
   conv=>whnf
   (refine((h f (ag f)).dC (.mk 46 ln x o ks) (ja rfl) (ja rfl)) st j _ _ i (mo hm) λst hp=> ?_;rw[hp] at hm d;clear hp;conv=>whnf)
   exact d _ rfl
 by_cases hk:k=47
 ·rcases hk with rfl
  all_goals
   replace hm:=pz hm;replace d:=pz d
   conv=>whnf
   (refine((h f (ag f)).dC (.mk 47 ln x o ks) (ja rfl) (ja rfl)) st j _ _ i (mo hm) λst hp=> ?_;rw[hp] at hm d;clear hp;conv=>whnf)
   exact d _ rfl
 by_cases hk:k=51
 ·rcases hk with rfl
  all_goals
   replace hm:=pz hm;replace d:=pz d
   conv=>whnf
   (refine((h f (ag f)).shown (.mk 51 ln x o ks) (ja rfl) (ja rfl)) st j _ _ i (mo hm) λst hp=> ?_;rw[hp] at hm d;clear hp;conv=>whnf)
   exact d _ rfl
 by_cases hk:k=52
 ·rcases hk with rfl
  all_goals
   replace hm:=pz hm;replace d:=pz d
   conv=>whnf
   (refine((h f (ag f)).shown (.mk 52 ln x o ks) (ja rfl) (ja rfl)) st j _ _ i (mo hm) λst hp=> ?_;rw[hp] at hm d;clear hp;conv=>whnf)
   exact d _ rfl
 by_cases hk:k=53
 ·rcases hk with rfl
  all_goals
   replace hm:=pz hm;replace d:=pz d
   conv=>whnf
   (refine((h f (ag f)).shown (.mk 53 ln x o ks) (ja rfl) (ja rfl)) st j _ _ i (mo hm) λst hp=> ?_;rw[hp] at hm d;clear hp;conv=>whnf)
   exact d _ rfl
 by_cases hk:k=54
 ·rcases hk with rfl
  all_goals
   replace hm:=pz hm;replace d:=pz d
   conv=>whnf
   (refine((h f (ag f)).shown (.mk 54 ln x o ks) (ja rfl) (ja rfl)) st j _ _ i (mo hm) λst hp=> ?_;rw[hp] at hm d;clear hp;conv=>whnf)
   exact d _ rfl
 by_cases hk:k=55
 ·rcases hk with rfl
  all_goals
   replace hm:=pz hm;replace d:=pz d
   conv=>whnf
   (refine((h f (ag f)).shown (.mk 55 ln x o ks) (ja rfl) (ja rfl)) st j _ _ i (mo hm) λst hp=> ?_;rw[hp] at hm d;clear hp;conv=>whnf)
   exact d _ rfl
 by_cases hk:k=56
 ·rcases hk with rfl
  all_goals
   replace hm:=pz hm;replace d:=pz d
   conv=>whnf
   (refine((h f (ag f)).shown (.mk 56 ln x o ks) (ja rfl) (ja rfl)) st j _ _ i (mo hm) λst hp=> ?_;rw[hp] at hm d;clear hp;conv=>whnf)
   exact d _ rfl
 by_cases hk:k=57
 ·rcases hk with rfl
  all_goals
   replace hm:=pz hm;replace d:=pz d
   conv=>whnf
   (refine((h f (ag f)).shown (.mk 57 ln x o ks) (ja rfl) (ja rfl)) st j _ _ i (mo hm) λst hp=> ?_;rw[hp] at hm d;clear hp;conv=>whnf)
   exact d _ rfl
 have H : ¬k=30:=by omega
 have I : ¬k=31:=by omega
 have l : ¬k=36:=by omega
 have XR : ¬k=32:=by omega
 have m : ¬k=33:=by omega
 have K : ¬k=34:=by omega
 have s : ¬k=35:=by omega
 have Fe : ¬k=48:=by omega
 have t : ¬k=60:=by omega
 have u : ¬k=44:=by omega
 have v : ¬k=45:=by omega
 have y : ¬k=46:=by omega
 have z : ¬k=47:=by omega
 have A : ¬k=51:=by omega
 have B : ¬k=52:=by omega
 have C : ¬k=53:=by omega
 have D : ¬k=54:=by omega
 have E : ¬k=55:=by omega
 have F : ¬k=56:=by omega
 have G : ¬k=57:=by omega
 simp only[pe,Nd.kind,Nd.text,Nd.op,Nd.kids,Nat.reduceEqDiff,reduceCtorEq,or_self,or_true,true_or,or_false,false_or,and_true,true_and,and_false,false_and,↓reduceIte,H,I,l,XR,m,K,s,Fe,t,u,v,y,z,A,B,C,D,E,F,G] at hm d;conv=>whnf
 repeat' (refine b9 (λhc=>by exfalso;simp at hc;omega) λhc=> ?_;conv=>whnf)
 (refine((h f (ag f)).dK (.mk k ln x o ks)) st j _ _ i (mo hm) λst hp=> ?_;rw[hp] at hm d;clear hp;conv=>whnf)
 exact d _ rfl
end
end Can
end Go.Proofs.YtdfgkcoenagaaaaGreat
