/- Show: shown, based. (Printed by tools/gensh.py.). Show: joined. (Printed by tools/gensh.py.). Show: block, ifs. (Printed by tools/gensh.py.). Show: tries, stmt. (Printed by tools/gensh.py.). Show: head. (Printed by tools/gensh.py.). Show: simple. (Printed by tools/gensh.py.). Show: the printer prints what pe says. Show: same and high, as runs over trees. Show: same, high, stmt in memory. Show: Show walked. Show: the measure of the printer's rules. No program in sight. Show: the lines do not matter. No program in sight. Show: trees without long texts. No program in sight. Show: how much a tree of so many nodes asks to be printed. No program in sight. (Printed by tools/gencost.py.). Parse: no tree has a text that is longer than a token's; a for has three kids. No program in sight. Lex: no token's text is longer than a source. No program in sight. Show: the trees of sources ask for no more than there may be asked. No program in sight. Show: ShowAlike walked. The round trip: what a tree prints, in pieces: blanks, ends of lines, tokens. No program in sight. The round trip: what trees of sources look like. No program in sight. The round trip: pe prints the text of the pieces. No program in sight. -/
import Derived.Test.YtdfgkcoenagaaaaGreatWg
import Derived.Test.YtdfgkcoenagaaaaGreatWf
import Derived.Test.YtdfgkcoenagaaaaGreatWe
import Derived.Test.YtdfgkcoenagaaaaGreatWa
open Bool renaming and_eq_true → eZ, false_eq_true → aM, true_and → zq
open Go renaming Value → ae
open Go.IntKind renaming wrap → v7
open List renaming append_assoc → aG, append_nil → cn, cons_append → aS, drop_length → re, eq_of_mem_replicate → T8, flatten_cons → um, getElem?_eq_getElem → dx, getLast?_cons_cons → iu, getLast?_singleton → gT, length → l7, length_append → bW, length_cons → ay, length_drop → iH, length_nil → aF, length_take → nU, map_cons → dq, map_nil → lF, mem_of_getElem? → sq, replicate_succ → Dk, sum_cons → qu, sum_nil → xz
open Nat renaming add_le_add_right → T7, le_refl → ag, le_trans → cM, lt_of_lt_of_le → ek, lt_succ_self → nX, not_lt_zero → su, zero_le → fa
open Option renaming map_eq_some_iff → jX
set_option maxRecDepth 4000
set_option maxHeartbeats 4000000
set_option linter.unusedSimpArgs false
set_option linter.unusedVariables false
namespace Go.Proofs.YtdfgkcoenagaaaaGreat
namespace Can
section
open Go Go.RowKit
attribute [local irreducible] TC aV pe fx jF cJ eH aB.sb aB.dp
variable {Z:TP} {X:ce} {f:Nat} (hJ:Z.J=Jb) (h : ∀g,g<=f->qg Z X g)
include hJ h
theorem akD(n:Nd)(u:51<=n.kind)(v:n.kind<=57):gM Z X (f+1) (.shown n) 89 [eC n]:=by
 intro st l Q R j hm i;refine ky kz Rl Kr (bq ?_)
 obtain⟨k,ln,x,o,ks⟩:=n;obtain rfl | rfl | rfl | rfl | rfl | rfl | rfl:k=51\/k=52\/k=53\/k=54\/k=55\/k=56\/k=57:=by simp only[Nd.kind] at u v;omega
 ·replace hm:=pz hm;replace i:=pz i
  conv=>whnf
  refine⟨rfl,?_⟩;(conv=>whnf);(refine bQ (st:=st) hJ [[91]] s0 s0 j (mo hm) λst hp=> ?_;rw[hp] at hm i;clear hp;conv=>whnf)
  (refine((h f (ag f)).row ks) st l _ _ j (mo hm) λst hp=> ?_;rw[hp] at hm i;clear hp;conv=>whnf)
  refine⟨rfl,?_⟩;(conv=>whnf);(refine bQ (st:=st) hJ [[93]] s0 s0 j (mo hm) λst hp=> ?_;rw[hp] at hm i;clear hp;conv=>whnf)
  exact i _ rfl
 ·by_cases hl:ks.length=1
  ·simp only[pe,Nd.kind,Nd.text,Nd.op,Nd.kids,Nat.reduceEqDiff,reduceCtorEq,or_self,or_true,true_or,or_false,false_or,and_true,true_and,and_false,false_and,↓reduceIte,hl] at hm i;conv=>whnf
   intro hx;conv=>whnf
   refine b9 (λhc=> ?_) λhc=>by exfalso;simp[c8] at hc;omega
   conv=>whnf
   refine⟨rfl,?_⟩;(conv=>whnf);(refine bQ (st:=st) hJ [[40]] s0 s0 j (mo hm) λst hp=> ?_;rw[hp] at hm i;clear hp;conv=>whnf)
   (refine((h f (ag f)).row ks) st l _ _ j (mo hm) λst hp=> ?_;rw[hp] at hm i;clear hp;conv=>whnf)
   refine⟨rfl,?_⟩;(conv=>whnf);(refine bQ (st:=st) hJ [[44,41]] s0 s0 j (mo hm) λst hp=> ?_;rw[hp] at hm i;clear hp;conv=>whnf)
   exact i _ rfl
  simp only[pe,Nd.kind,Nd.text,Nd.op,Nd.kids,Nat.reduceEqDiff,reduceCtorEq,or_self,or_true,true_or,or_false,false_or,and_true,true_and,and_false,false_and,↓reduceIte,hl] at hm i;conv=>whnf
  intro hx;conv=>whnf
  refine b9 (λhc=>by exfalso;simp[c8] at hc;omega) λhc=> ?_;conv=>whnf
  refine⟨rfl,?_⟩;(conv=>whnf);(refine bQ (st:=st) hJ [[40]] s0 s0 j (mo hm) λst hp=> ?_;rw[hp] at hm i;clear hp;conv=>whnf)
  (refine((h f (ag f)).row ks) st l _ _ j (mo hm) λst hp=> ?_;rw[hp] at hm i;clear hp;conv=>whnf)
  refine⟨rfl,?_⟩;(conv=>whnf);(refine bQ (st:=st) hJ [[41]] s0 s0 j (mo hm) λst hp=> ?_;rw[hp] at hm i;clear hp;conv=>whnf)
  exact i _ rfl
 ·replace hm:=pz hm;replace i:=pz i
  conv=>whnf
  refine⟨rfl,?_⟩;(conv=>whnf);(refine bQ (st:=st) hJ [[123]] s0 s0 j (mo hm) λst hp=> ?_;rw[hp] at hm i;clear hp;conv=>whnf)
  (refine((h f (ag f)).row ks) st l _ _ j (mo hm) λst hp=> ?_;rw[hp] at hm i;clear hp;conv=>whnf)
  refine⟨rfl,?_⟩;(conv=>whnf);(refine bQ (st:=st) hJ [[125]] s0 s0 j (mo hm) λst hp=> ?_;rw[hp] at hm i;clear hp;conv=>whnf)
  exact i _ rfl
 ·replace hm:=pz hm;replace i:=pz i
  conv=>whnf
  refine⟨rfl,?_⟩;(conv=>whnf);(refine bQ (st:=st) hJ [[123]] s0 s0 j (mo hm) λst hp=> ?_;rw[hp] at hm i;clear hp;conv=>whnf)
  (refine((h f (ag f)).bO ks) st l _ _ j (mo hm) λst hp=> ?_;rw[hp] at hm i;clear hp;conv=>whnf)
  refine⟨rfl,?_⟩;(conv=>whnf);(refine bQ (st:=st) hJ [[125]] s0 s0 j (mo hm) λst hp=> ?_;rw[hp] at hm i;clear hp;conv=>whnf)
  exact i _ rfl
 ·conv=>whnf
  rcases ks with _ | ⟨⟨k1,m,r,o1,s⟩,ks⟩
  all_goals
   replace hm:=pz hm;replace i:=pz i
   refine⟨rfl,?_⟩;(conv=>whnf);(refine bQ (st:=st) hJ [[91]] s0 s0 j (mo hm) λst hp=> ?_;rw[hp] at hm i;clear hp;conv=>whnf)
   refine di (st:=st) (λhn hl t hk=> ?_) λst hb hk=> ?_;all_goals (rw[hk] at hm i;conv=>whnf)
  case nil.refine_1=>simp only[ay,aF] at hl;omega
  case cons.refine_1=>
   (refine⟨rfl,0,_,rfl,rfl,?_⟩;conv=>whnf)
   (refine((h f (ag f)).dX (.mk k1 m r o1 s) 0) st l _ _ j (mo hm) λst hp=> ?_;rw[hp] at hm i;clear hp;conv=>whnf)
   (refine((h f (ag f)).clauses ks) st l _ _ j (mo hm) λst hp=> ?_;rw[hp] at hm i;clear hp;conv=>whnf)
   refine⟨rfl,?_⟩;(conv=>whnf);(refine bQ (st:=st) hJ [[93]] s0 s0 j (mo hm) λst hp=> ?_;rw[hp] at hm i;clear hp;conv=>whnf)
   exact i _ rfl
  all_goals
   refine⟨rfl,?_⟩;(conv=>whnf);(refine bQ (st:=st) hJ [[93]] s0 s0 j (mo hm) λst hp=> ?_;rw[hp] at hm i;clear hp;conv=>whnf)
   exact i _ rfl
 ·conv=>whnf
  rcases ks with _ | ⟨⟨k1,m,r,o1,s⟩,ks⟩
  all_goals
   replace hm:=pz hm;replace i:=pz i
   refine⟨rfl,?_⟩;(conv=>whnf);(refine bQ (st:=st) hJ [[123]] s0 s0 j (mo hm) λst hp=> ?_;rw[hp] at hm i;clear hp;conv=>whnf)
   refine di (st:=st) (λhn hl t hk=> ?_) λst hb hk=> ?_;all_goals (rw[hk] at hm i;conv=>whnf)
  case nil.refine_1=>simp only[ay,aF] at hl;omega
  case cons.refine_1=>
   (refine⟨rfl,0,_,rfl,rfl,?_⟩;conv=>whnf)
   (refine((h f (ag f)).dX (.mk k1 m r o1 s) 0) st l _ _ j (mo hm) λst hp=> ?_;rw[hp] at hm i;clear hp;conv=>whnf)
   (refine((h f (ag f)).clauses ks) st l _ _ j (mo hm) λst hp=> ?_;rw[hp] at hm i;clear hp;conv=>whnf)
   refine⟨rfl,?_⟩;(conv=>whnf);(refine bQ (st:=st) hJ [[125]] s0 s0 j (mo hm) λst hp=> ?_;rw[hp] at hm i;clear hp;conv=>whnf)
   exact i _ rfl
  all_goals
   refine⟨rfl,?_⟩;(conv=>whnf);(refine bQ (st:=st) hJ [[125]] s0 s0 j (mo hm) λst hp=> ?_;rw[hp] at hm i;clear hp;conv=>whnf)
   exact i _ rfl
 conv=>whnf
 rcases ks with _ | ⟨⟨k1,m,r,o1,s⟩,_ | ⟨⟨w,y,z,o2,A⟩,ks⟩⟩
 all_goals
  replace hm:=pz hm;replace i:=pz i
  refine⟨rfl,?_⟩;(conv=>whnf);(refine bQ (st:=st) hJ [[123]] s0 s0 j (mo hm) λst hp=> ?_;rw[hp] at hm i;clear hp;conv=>whnf)
  refine di (st:=st) (λhn hl t hk=> ?_) λst hb hk=> ?_;all_goals (rw[hk] at hm i;conv=>whnf)
 case nil.refine_1=>simp only[ay,aF] at hl;omega
 case cons.nil.refine_1=>simp only[ay,aF] at hl;omega
 case cons.cons.refine_1=>
  (refine((h f (ag f)).aa5 [(.mk k1 m r o1 s),(.mk w y z o2 A)]) st l _ _ j (mo hm) λst hp=> ?_;rw[hp] at hm i;clear hp;conv=>whnf)
  (refine((h f (ag f)).clauses ks) st l _ _ j (mo hm) λst hp=> ?_;rw[hp] at hm i;clear hp;conv=>whnf)
  refine⟨rfl,?_⟩;(conv=>whnf);(refine bQ (st:=st) hJ [[125]] s0 s0 j (mo hm) λst hp=> ?_;rw[hp] at hm i;clear hp;conv=>whnf)
  exact i _ rfl
 all_goals
  refine⟨rfl,?_⟩;(conv=>whnf);(refine bQ (st:=st) hJ [[125]] s0 s0 j (mo hm) λst hp=> ?_;rw[hp] at hm i;clear hp;conv=>whnf)
  exact i _ rfl
theorem akE(n:Nd)(z:44<=n.kind)(A:n.kind<=47):gM Z X (f+1) (.dC n) 88 [eC n]:=by
 intro st m Q R j hm i;refine ky kz Rl Kr (bq ?_)
 obtain⟨k,ln,x,o,ks⟩:=n;obtain rfl | rfl | rfl | rfl:k=44\/k=45\/k=46\/k=47:=by simp only[Nd.kind] at z A;omega
 ·conv=>whnf
  rcases ks with _ | ⟨⟨k1,s,r,o1,t⟩,ks⟩
  all_goals
   replace hm:=pz hm;replace i:=pz i
   refine di (st:=st) (λhn hl l hk=> ?_) λst hb hk=> ?_;all_goals (rw[hk] at hm i;conv=>whnf)
  case nil.refine_1=>simp only[ay,aF] at hl;omega
  case cons.refine_1=>
   (refine⟨rfl,0,_,rfl,rfl,?_⟩;conv=>whnf)
   (refine((h f (ag f)).dX (.mk k1 s r o1 t) 9) st m _ _ j (mo hm) λst hp=> ?_;rw[hp] at hm i;clear hp;conv=>whnf)
   refine⟨rfl,?_⟩;(conv=>whnf);(refine bQ (st:=st) hJ [oG] s0 s0 j (mo hm) λst hp=> ?_;rw[hp] at hm i;clear hp;conv=>whnf)
   (refine((h f (ag f)).pW ks) st m _ _ j (mo hm) λst hp=> ?_;rw[hp] at hm i;clear hp;conv=>whnf)
   refine⟨rfl,?_⟩;(conv=>whnf);(refine bQ (st:=st) hJ [oH] s0 s0 j (mo hm) λst hp=> ?_;rw[hp] at hm i;clear hp;conv=>whnf)
   exact i _ rfl
  all_goals exact i _ rfl
 ·conv=>whnf
  rcases ks with _ | ⟨⟨k1,s,r,o1,t⟩,ks⟩
  ·replace hm:=pz hm;replace i:=pz i
   refine di (st:=st) (λhn hl l hk=> ?_) λst hb hk=> ?_;all_goals (rw[hk] at hm i;conv=>whnf)
   ·simp only[ay,aF] at hl;omega
   exact i _ rfl
  by_cases C:k1=30\/k1=31
  ·rcases C with rfl | rfl
   all_goals
    replace hm:=pz hm;replace i:=pz i
    refine di (st:=st) (λhn hl l hk=> ?_) λst hb hk=> ?_;all_goals (rw[hk] at hm i;conv=>whnf)
    ·(refine⟨rfl,0,_,rfl,rfl,?_⟩;conv=>whnf)
     refine⟨rfl,?_⟩;(conv=>whnf);(refine bQ (st:=st) hJ [oG,r,oH] s0 s0 j (mo hm) λst hp=> ?_;rw[hp] at hm i;clear hp;conv=>whnf)
     refine⟨rfl,?_⟩;(conv=>whnf);(refine bQ (st:=st) hJ [[46],x] s0 s0 j (mo hm) λst hp=> ?_;rw[hp] at hm i;clear hp;conv=>whnf)
     exact i _ rfl
    exact i _ rfl
  have D : ¬k1=30:=by omega
  have E : ¬k1=31:=by omega
  simp only[pe,Nd.kind,Nd.text,Nd.op,Nd.kids,Nat.reduceEqDiff,reduceCtorEq,or_self,or_true,true_or,or_false,false_or,and_true,true_and,and_false,false_and,↓reduceIte,D,E] at hm i;refine di (st:=st) (λhn hl l hk=> ?_) λst hb hk=> ?_;all_goals (rw[hk] at hm i;conv=>whnf)
  ·(refine⟨rfl,0,_,rfl,rfl,?_⟩;conv=>whnf)
   refine b9 (λhc=>by exfalso;simp at hc;omega) λhc=> ?_;conv=>whnf
   refine b9 (λhc=>by exfalso;simp at hc;omega) λhc=> ?_;conv=>whnf
   (refine((h f (ag f)).dX (.mk k1 s r o1 t) 9) st m _ _ j (mo hm) λst hp=> ?_;rw[hp] at hm i;clear hp;conv=>whnf)
   refine⟨rfl,?_⟩;(conv=>whnf);(refine bQ (st:=st) hJ [[46],x] s0 s0 j (mo hm) λst hp=> ?_;rw[hp] at hm i;clear hp;conv=>whnf)
   exact i _ rfl
  exact i _ rfl
 ·conv=>whnf
  rcases ks with _ | ⟨⟨k1,s,r,o1,t⟩,_ | ⟨⟨u,v,w,o2,y⟩,ks⟩⟩
  ·replace hm:=pz hm;replace i:=pz i
   refine di (st:=st) (λhn hl l hk=> ?_) λst hb hk=> ?_;all_goals (rw[hk] at hm i;conv=>whnf)
   ·simp only[ay,aF] at hl;omega
   exact i _ rfl
  all_goals
   replace hm:=pz hm;replace i:=pz i
   refine di (st:=st) (λhn hl l hk=> ?_) λst hb hk=> ?_;case refine_2=>
    rw[hk] at hm i;conv=>whnf
    exact i _ rfl
   rw[hk] at hm i;conv=>whnf
   (refine⟨rfl,0,_,rfl,rfl,?_⟩;conv=>whnf)
   (refine((h f (ag f)).dX (.mk k1 s r o1 t) 9) st m _ _ j (mo hm) λst hp=> ?_;rw[hp] at hm i;clear hp;conv=>whnf)
   refine di (st:=st) (λhn hl l hk=> ?_) λst hb hk=> ?_;case refine_2=>
    rw[hk] at hm i;conv=>whnf
    exact i _ rfl
   rw[hk] at hm i;conv=>whnf
  ·simp only[ay,aF] at hl;omega
  
  refine⟨rfl,?_⟩;(conv=>whnf);(refine bQ (st:=st) hJ [[91]] s0 s0 j (mo hm) λst hp=> ?_;rw[hp] at hm i;clear hp;conv=>whnf)
  (refine⟨rfl,1,_,rfl,rfl,?_⟩;conv=>whnf)
  (refine((h f (ag f)).dX (.mk u v w o2 y) 0) st m _ _ j (mo hm) λst hp=> ?_;rw[hp] at hm i;clear hp;conv=>whnf)
  refine⟨rfl,?_⟩;(conv=>whnf);(refine bQ (st:=st) hJ [[93]] s0 s0 j (mo hm) λst hp=> ?_;rw[hp] at hm i;clear hp;conv=>whnf)
  exact i _ rfl
 ·conv=>whnf
  rcases ks with _ | ⟨⟨k1,s,r,o1,t⟩,_ | ⟨⟨u,v,w,o2,y⟩,_ | ⟨⟨F,G,H,I,K⟩,ks⟩⟩⟩
  ·replace hm:=pz hm;replace i:=pz i
   refine di (st:=st) (λhn hl l hk=> ?_) λst hb hk=> ?_;all_goals (rw[hk] at hm i;conv=>whnf)
   ·simp only[ay,aF] at hl;omega
   exact i _ rfl
  all_goals
   replace hm:=pz hm;replace i:=pz i
   refine di (st:=st) (λhn hl l hk=> ?_) λst hb hk=> ?_;case refine_2=>
    rw[hk] at hm i;conv=>whnf
    exact i _ rfl
   rw[hk] at hm i;conv=>whnf
   (refine⟨rfl,0,_,rfl,rfl,?_⟩;conv=>whnf)
   (refine((h f (ag f)).dX (.mk k1 s r o1 t) 9) st m _ _ j (mo hm) λst hp=> ?_;rw[hp] at hm i;clear hp;conv=>whnf)
   refine di (st:=st) (λhn hl l hk=> ?_) λst hb hk=> ?_;case refine_2=>
    rw[hk] at hm i;conv=>whnf
    exact i _ rfl
   rw[hk] at hm i;conv=>whnf
  ·simp only[ay,aF] at hl;omega
  ·simp only[ay,aF] at hl;omega
  
  refine⟨rfl,?_⟩;(conv=>whnf);(refine bQ (st:=st) hJ [[91]] s0 s0 j (mo hm) λst hp=> ?_;rw[hp] at hm i;clear hp;conv=>whnf)
  (refine⟨rfl,1,_,rfl,rfl,?_⟩;conv=>whnf)
  (refine((h f (ag f)).dX (.mk u v w o2 y) 0) st m _ _ j (mo hm) λst hp=> ?_;rw[hp] at hm i;clear hp;conv=>whnf)
  refine⟨rfl,?_⟩;(conv=>whnf);(refine bQ (st:=st) hJ [[58]] s0 s0 j (mo hm) λst hp=> ?_;rw[hp] at hm i;clear hp;conv=>whnf)
  (refine⟨rfl,2,_,rfl,rfl,?_⟩;conv=>whnf)
  (refine((h f (ag f)).dX (.mk F G H I K) 0) st m _ _ j (mo hm) λst hp=> ?_;rw[hp] at hm i;clear hp;conv=>whnf)
  refine⟨rfl,?_⟩;(conv=>whnf);(refine bQ (st:=st) hJ [[93]] s0 s0 j (mo hm) λst hp=> ?_;rw[hp] at hm i;clear hp;conv=>whnf)
  exact i _ rfl
end
section
open Go Go.RowKit
attribute [local irreducible] TC aV pe fx jF cJ eH aB.sb aB.dp
variable {Z:TP} {X:ce} {f:Nat} (hJ:Z.J=Jb) (h : ∀g,g<=f->qg Z X g)
include hJ h
theorem akF(n:Nd):gM Z X (f+1) (.dK n) 90 [eC n]:=by
 intro st r Q R l hm j;refine ky kz Rl Kr (bq ?_)
 obtain⟨k,ln,x,o,ks⟩:=n;by_cases F:k=37
 ·subst F;by_cases M:o=7
  ·subst M;replace hm:=pz hm;replace j:=pz j
   conv=>whnf
   refine MI ?_;conv=>whnf
   (refine((h f (ag f)).two (.mk 37 ln x 7 ks) 9 [42,42] 7) st r _ _ l (mo hm) λst hp=> ?_;rw[hp] at hm j;clear hp;conv=>whnf)
   exact j _ rfl
  have z:gC (.mk 37 ln x o ks)=if o=1\/o=2 then 5 else 6:=by
   show(if o=7 then 8 else if o=1\/o=2 then 5 else 6)=_;rw[iN M]
  by_cases wy:o=1\/o=2
  ·rw[iP wy] at z;simp only[pe,Nd.kind,Nd.text,Nd.op,Nd.kids,Nat.reduceEqDiff,reduceCtorEq,or_self,or_true,true_or,or_false,false_or,and_true,true_and,and_false,false_and,↓reduceIte,M,z] at hm j;conv=>whnf
   refine MI ?_;rw[z];conv=>whnf
   refine b9 (λhc=>by exfalso;simp at hc;omega) λhc=> ?_;conv=>whnf
   refine Sd ?_;conv=>whnf
   (refine((h f (ag f)).two (.mk 37 ln x o ks) 5 (jT mR o) 6) st r _ _ l (mo hm) λst hp=> ?_;rw[hp] at hm j;clear hp;conv=>whnf)
   repeat' (refine⟨rfl,?_⟩;conv=>whnf)
   exact j _ rfl
  rw[iN wy] at z;simp only[pe,Nd.kind,Nd.text,Nd.op,Nd.kids,Nat.reduceEqDiff,reduceCtorEq,or_self,or_true,true_or,or_false,false_or,and_true,true_and,and_false,false_and,↓reduceIte,M,z] at hm j;conv=>whnf
  refine MI ?_;rw[z];conv=>whnf
  refine b9 (λhc=>by exfalso;simp at hc;omega) λhc=> ?_;conv=>whnf
  refine Sd ?_;conv=>whnf
  (refine((h f (ag f)).two (.mk 37 ln x o ks) 6 (jT mR o) 7) st r _ _ l (mo hm) λst hp=> ?_;rw[hp] at hm j;clear hp;conv=>whnf)
  repeat' (refine⟨rfl,?_⟩;conv=>whnf)
  exact j _ rfl
 by_cases G:k=38
 ·subst G;by_cases h1:o=1
  ·subst h1;rcases ks with _ | ⟨⟨k1,u,v,o1,s⟩,ks⟩
   all_goals
    replace hm:=pz hm;replace j:=pz j
    conv=>whnf
    refine di (st:=st) (λhn hl y hk=> ?_) λst hb hk=> ?_;case refine_2=>
     rw[hk] at hm j;conv=>whnf
     exact j _ rfl
    rw[hk] at hm j;conv=>whnf
   ·simp only[ay,aF] at hl;omega
   refine⟨rfl,?_⟩;(conv=>whnf);(refine bQ (st:=st) hJ [[45]] s0 s0 l (mo hm) λst hp=> ?_;rw[hp] at hm j;clear hp;conv=>whnf)
   (refine⟨rfl,0,_,rfl,rfl,?_⟩;conv=>whnf)
   (refine((h f (ag f)).dX (.mk k1 u v o1 s) 7) st r _ _ l (mo hm) λst hp=> ?_;rw[hp] at hm j;clear hp;conv=>whnf)
   exact j _ rfl
  rcases ks with _ | ⟨⟨k1,u,v,o1,s⟩,ks⟩
  all_goals
   simp only[pe,Nd.kind,Nd.text,Nd.op,Nd.kids,Nat.reduceEqDiff,reduceCtorEq,or_self,or_true,true_or,or_false,false_or,and_true,true_and,and_false,false_and,↓reduceIte,h1] at hm j;conv=>whnf
   refine di (st:=st) (λhn hl y hk=> ?_) λst hb hk=> ?_;case refine_2=>
    rw[hk] at hm j;conv=>whnf
    exact j _ rfl
   rw[hk] at hm j;conv=>whnf
  ·simp only[ay,aF] at hl;omega
  refine b9 (λhc=>by exfalso;simp at hc;omega) λhc=> ?_;conv=>whnf
  refine⟨rfl,?_⟩;(conv=>whnf);(refine bQ (st:=st) hJ [[43]] s0 s0 l (mo hm) λst hp=> ?_;rw[hp] at hm j;clear hp;conv=>whnf)
  (refine⟨rfl,0,_,rfl,rfl,?_⟩;conv=>whnf)
  (refine((h f (ag f)).dX (.mk k1 u v o1 s) 7) st r _ _ l (mo hm) λst hp=> ?_;rw[hp] at hm j;clear hp;conv=>whnf)
  exact j _ rfl
 by_cases H:k=41
 ·subst H;rcases ks with _ | ⟨⟨k1,u,v,o1,s⟩,ks⟩
  all_goals
   replace hm:=pz hm;replace j:=pz j
   conv=>whnf
   refine di (st:=st) (λhn hl y hk=> ?_) λst hb hk=> ?_;case refine_2=>
    rw[hk] at hm j;conv=>whnf
    exact j _ rfl
   rw[hk] at hm j;conv=>whnf
  ·simp only[ay,aF] at hl;omega
  
  refine⟨rfl,?_⟩;(conv=>whnf);(refine bQ (st:=st) hJ [[110,111,116,32]] s0 s0 l (mo hm) λst hp=> ?_;rw[hp] at hm j;clear hp;conv=>whnf)
  (refine⟨rfl,0,_,rfl,rfl,?_⟩;conv=>whnf)
  (refine((h f (ag f)).dX (.mk k1 u v o1 s) 3) st r _ _ l (mo hm) λst hp=> ?_;rw[hp] at hm j;clear hp;conv=>whnf)
  exact j _ rfl
 by_cases I:k=49
 ·subst I;rcases ks with _ | ⟨⟨k1,u,v,o1,s⟩,_ | ⟨⟨A,C,D,o2,E⟩,_ | ⟨⟨k3,l3,x3,o3,mq⟩,ks⟩⟩⟩
  all_goals
   replace hm:=pz hm;replace j:=pz j
   conv=>whnf
   refine di (st:=st) (λhn hl y hk=> ?_) λst hb hk=> ?_;case refine_2=>
    rw[hk] at hm j;conv=>whnf
    exact j _ rfl
   rw[hk] at hm j;conv=>whnf
  ·simp only[ay,aF] at hl;omega
  ·simp only[ay,aF] at hl;omega
  ·simp only[ay,aF] at hl;omega
  
  (refine⟨rfl,1,_,rfl,rfl,?_⟩;conv=>whnf)
  (refine((h f (ag f)).dX (.mk A C D o2 E) 1) st r _ _ l (mo hm) λst hp=> ?_;rw[hp] at hm j;clear hp;conv=>whnf)
  refine⟨rfl,?_⟩;(conv=>whnf);(refine bQ (st:=st) hJ [xb] s0 s0 l (mo hm) λst hp=> ?_;rw[hp] at hm j;clear hp;conv=>whnf)
  (refine⟨rfl,0,_,rfl,rfl,?_⟩;conv=>whnf)
  (refine((h f (ag f)).dX (.mk k1 u v o1 s) 1) st r _ _ l (mo hm) λst hp=> ?_;rw[hp] at hm j;clear hp;conv=>whnf)
  refine⟨rfl,?_⟩;(conv=>whnf);(refine bQ (st:=st) hJ [Av] s0 s0 l (mo hm) λst hp=> ?_;rw[hp] at hm j;clear hp;conv=>whnf)
  (refine⟨rfl,2,_,rfl,rfl,?_⟩;conv=>whnf)
  (refine((h f (ag f)).dX (.mk k3 l3 x3 o3 mq) 0) st r _ _ l (mo hm) λst hp=> ?_;rw[hp] at hm j;clear hp;conv=>whnf)
  exact j _ rfl
 by_cases K:k=50
 ·subst K;rcases ks with _ | ⟨⟨k1,u,v,o1,s⟩,_ | ⟨⟨A,C,D,o2,E⟩,ks⟩⟩
  ·replace hm:=pz hm;replace j:=pz j
   conv=>whnf
   refine di (st:=st) (λhn hl y hk=> ?_) λst hb hk=> ?_;case refine_2=>
    rw[hk] at hm j;conv=>whnf
    exact j _ rfl
   rw[hk] at hm j;conv=>whnf
   simp only[ay,aF] at hl;omega
  ·replace hm:=pz hm;replace j:=pz j
   conv=>whnf
   refine di (st:=st) (λhn hl y hk=> ?_) λst hb hk=> ?_;case refine_2=>
    rw[hk] at hm j;conv=>whnf
    exact j _ rfl
   rw[hk] at hm j;conv=>whnf
   simp only[ay,aF] at hl;omega
  by_cases N:0<s.length
  ·simp only[pe,Nd.kind,Nd.text,Nd.op,Nd.kids,Nat.reduceEqDiff,reduceCtorEq,or_self,or_true,true_or,or_false,false_or,and_true,true_and,and_false,false_and,↓reduceIte,N] at hm j;conv=>whnf
   refine di (st:=st) (λhn hl y hk=> ?_) λst hb hk=> ?_;case refine_2=>
    rw[hk] at hm j;conv=>whnf
    exact j _ rfl
   rw[hk] at hm j;conv=>whnf
   refine⟨rfl,?_⟩;(conv=>whnf);(refine bQ (st:=st) hJ [[108,97,109,98,100,97]] s0 s0 l (mo hm) λst hp=> ?_;rw[hp] at hm j;clear hp;conv=>whnf)
   (refine⟨rfl,0,_,rfl,rfl,?_⟩;conv=>whnf)
   intro hx;conv=>whnf
   refine b9 (λhc=> ?_) λhc=>by exfalso;simp[c8] at hc;simp[hc] at N
   conv=>whnf
   refine⟨rfl,?_⟩;(conv=>whnf);(refine bQ (st:=st) hJ [kR] s0 s0 l (mo hm) λst hp=> ?_;rw[hp] at hm j;clear hp;conv=>whnf)
   (refine⟨rfl,0,_,rfl,rfl,?_⟩;conv=>whnf)
   (refine((h f (ag f)).row s) st r _ _ l (mo hm) λst hp=> ?_;rw[hp] at hm j;clear hp;conv=>whnf)
   refine⟨rfl,?_⟩;(conv=>whnf);(refine bQ (st:=st) hJ [tW] s0 s0 l (mo hm) λst hp=> ?_;rw[hp] at hm j;clear hp;conv=>whnf)
   (refine⟨rfl,1,_,rfl,rfl,?_⟩;conv=>whnf)
   (refine((h f (ag f)).dX (.mk A C D o2 E) 0) st r _ _ l (mo hm) λst hp=> ?_;rw[hp] at hm j;clear hp;conv=>whnf)
   exact j _ rfl
  simp only[pe,Nd.kind,Nd.text,Nd.op,Nd.kids,Nat.reduceEqDiff,reduceCtorEq,or_self,or_true,true_or,or_false,false_or,and_true,true_and,and_false,false_and,↓reduceIte,N] at hm j;conv=>whnf
  refine di (st:=st) (λhn hl y hk=> ?_) λst hb hk=> ?_;case refine_2=>
   rw[hk] at hm j;conv=>whnf
   exact j _ rfl
  rw[hk] at hm j;conv=>whnf
  refine⟨rfl,?_⟩;(conv=>whnf);(refine bQ (st:=st) hJ [[108,97,109,98,100,97]] s0 s0 l (mo hm) λst hp=> ?_;rw[hp] at hm j;clear hp;conv=>whnf)
  (refine⟨rfl,0,_,rfl,rfl,?_⟩;conv=>whnf)
  intro hx;conv=>whnf
  refine b9 (λhc=>absurd (of_decide_eq_true hc) (by rw[c8];intro O;exact N (by have:(0:Int)<(s.length:Int):=O;omega))) λhc=> ?_;conv=>whnf
  (refine⟨rfl,0,_,rfl,rfl,?_⟩;conv=>whnf)
  (refine((h f (ag f)).row s) st r _ _ l (mo hm) λst hp=> ?_;rw[hp] at hm j;clear hp;conv=>whnf)
  refine⟨rfl,?_⟩;(conv=>whnf);(refine bQ (st:=st) hJ [tW] s0 s0 l (mo hm) λst hp=> ?_;rw[hp] at hm j;clear hp;conv=>whnf)
  (refine⟨rfl,1,_,rfl,rfl,?_⟩;conv=>whnf)
  (refine((h f (ag f)).dX (.mk A C D o2 E) 0) st r _ _ l (mo hm) λst hp=> ?_;rw[hp] at hm j;clear hp;conv=>whnf)
  exact j _ rfl
 by_cases L:k=42
 ·subst L;rcases ks with _ | ⟨⟨k0,l0,x0,o0,IK⟩,ks⟩
  all_goals
   replace hm:=pz hm;replace j:=pz j
   conv=>whnf
   refine di (st:=st) (λhn hl y hk=> ?_) λst hb hk=> ?_;case refine_2=>
    rw[hk] at hm j;conv=>whnf
    exact j _ rfl
   rw[hk] at hm j;conv=>whnf
  ·simp only[ay,aF] at hl;omega
  (refine⟨rfl,0,_,rfl,rfl,?_⟩;conv=>whnf)
  (refine((h f (ag f)).dX (.mk k0 l0 x0 o0 IK) 5) st r _ _ l (mo hm) λst hp=> ?_;rw[hp] at hm j;clear hp;conv=>whnf)
  intro hx;conv=>whnf
  generalize hE:pe f (.cW ks) st=dM at hm j;have kT:=j;have P:dM.w<=r.w:=mo hm;refine qH 90 (λm a s1=>∃(i:Nat) (aQ:aB),a=iS i/\m=ks.length-i/\i<=ks.length/\s1=⟨0,[oP aQ,Fb (.mk 42 ln x o (.mk k0 l0 x0 o0 IK::ks))]⟩/\pe (f-i) (.cW (ks.drop i)) aQ=dM) ks.length [] rfl ⟨0,st,rfl,rfl,fa _,rfl,hE⟩ ?_;rintro m a f1 s1 ⟨i,st,rfl,rfl,hi,rfl,h1⟩;conv=>whnf
  refine b9 (λhc=> ?_) λhc=> ?_
  ·have hi:i<ks.length:=by
    have this:(i:Int)<((c7 ks).length:Nat):=of_decide_eq_true hc;rw[c8] at this;omega
   obtain⟨⟨k1,u,v,o1,s⟩,ht⟩ : ∃t,ks[i]? = some t:=⟨_,dx hi⟩;have lw:=Cq hi (by rw[<-c8];exact hx);rw[vj ht] at h1;obtain⟨g,hg⟩ : ∃g,f-i=g+1:=by
    cases hg:f-i with
    | zero=>rw[hg] at h1;exact(qh h1 l P).elim
    | succ g=>exact⟨g,rfl⟩
   have jJ:f-(i+1)=g:=by omega
   rw[hg] at h1;have j:=h1;rw[<-h1] at P;have hm:=P;rcases s with _ | ⟨⟨A,C,D,o2,E⟩,s⟩
   all_goals
    replace hm:=pz hm;replace j:=pz j
    conv=>whnf
    refine⟨rfl,i,_,rfl,jr ht,?_⟩;conv=>whnf
    refine akv ?_;conv=>whnf
    refine⟨rfl,?_⟩;(conv=>whnf);(refine bQ (st:=st) hJ [kR,jT w8 o1,kR] s0 s0 l (mo hm) λst hp=> ?_;rw[hp] at hm j;clear hp;conv=>whnf)
    refine di (st:=st) (λhn hl y hk=> ?_) λst hb hk=> ?_;case refine_2=>
     rw[hk] at hm j;conv=>whnf
     refine⟨_,[],?_,rfl,i+1,st,lw,rfl,hi,rfl,?_⟩;·omega
     rw[jJ];exact j
    rw[hk] at hm j;conv=>whnf
   ·simp only[ay,aF] at hl;omega
   (refine⟨rfl,0,_,rfl,rfl,?_⟩;conv=>whnf)
   (refine((h g Om).dX (.mk A C D o2 E) 5) st r _ _ l (mo hm) λst hp=> ?_;rw[hp] at hm j;clear hp;conv=>whnf)
   refine⟨_,[],?_,rfl,i+1,st,lw,rfl,hi,rfl,?_⟩;·omega
   rw[jJ];exact j
  have hi:i=ks.length:=by
   have this : ¬(i:Int)<((c7 ks).length:Nat):=of_decide_eq_false hc;rw[c8] at this;omega
  subst hi;rw[re] at h1;cases hg:f-ks.length with
  | zero=>rw[hg] at h1;exact(qh h1 l P).elim
  | succ g=>
    rw[hg] at h1;simp only[pe] at h1;subst h1;conv=>whnf
    exact j _ rfl
 have S : ¬k=37:=F;have T : ¬k=38:=G;have U : ¬k=41:=H;have V : ¬k=49:=I;have W : ¬k=50:=K;have Y : ¬k=42:=L;by_cases hk:k=39
 ·rcases hk with rfl
  all_goals
   replace hm:=pz hm;replace j:=pz j
   conv=>whnf
   (refine((h f (ag f)).two (.mk 39 ln x o ks) 2 [97,110,100] 3) st r _ _ l (mo hm) λst hp=> ?_;rw[hp] at hm j;clear hp;conv=>whnf)
   exact j _ rfl
 by_cases hk:k=40
 ·rcases hk with rfl
  all_goals
   replace hm:=pz hm;replace j:=pz j
   conv=>whnf
   (refine((h f (ag f)).two (.mk 40 ln x o ks) 1 [111,114] 2) st r _ _ l (mo hm) λst hp=> ?_;rw[hp] at hm j;clear hp;conv=>whnf)
   exact j _ rfl
 have n39 : ¬k=39:=by omega
 have n40 : ¬k=40:=by omega
 simp only[pe,Nd.kind,Nd.text,Nd.op,Nd.kids,Nat.reduceEqDiff,reduceCtorEq,or_self,or_true,true_or,or_false,false_or,and_true,true_and,and_false,false_and,↓reduceIte,S,T,U,V,W,Y,n39,n40] at hm j;conv=>whnf
 repeat' (refine b9 (λhc=>by exfalso;simp at hc;omega) λhc=> ?_;conv=>whnf)
 have O:=j _ rfl;rw[MH] at O;exact O
end
section
open Go Go.RowKit
attribute [local irreducible] TC aV pe fx jF cJ eH aB.sb aB.dp
variable {Z:TP} {X:ce} {f:Nat} (hJ:Z.J=Jb) (h : ∀g,g<=f->qg Z X g)
include hJ h
theorem akG(n:Nd):gM Z X (f+1) (.block n) 47 [eC n]:=by
 intro st u Q R r hm j;refine ky kz Rl Kr (bq ?_)
 obtain⟨k,ln,x,o,ks⟩:=n;replace hm:=pz hm;replace j:=pz j
 conv=>whnf
 refine⟨rfl,?_⟩;(conv=>whnf);(refine bQ (st:=st) hJ [tV] s0 s0 r (mo hm) λst hp=> ?_;rw[hp] at hm j;clear hp;conv=>whnf)
 intro hx;conv=>whnf
 have v:=Sc st (v7 .i64 (st.deep+1));generalize st.dp (v7 .i64 (st.deep+1))=y at hm j v;generalize E:pe f (.a9 ks) y=z at hm j;have A:=j;have s:z.w<=u.w:=mo hm;refine qH 19 (λm a C=>∃(i:Nat) (D:aB),a=iS i/\m=ks.length-i/\i<=ks.length/\C=⟨0,[oP D,Fb (.mk k ln x o ks)]⟩/\pe (f-i) (.a9 (ks.drop i)) D=z) ks.length [] rfl ⟨0,y,rfl,rfl,fa _,(by simp only[oP,v];rfl),E⟩ ?_;rintro m a f1 C ⟨i,st,rfl,rfl,hi,rfl,h1⟩;conv=>whnf
 refine b9 (λhc=> ?_) λhc=> ?_
 ·have hi:i<ks.length:=by
   have this:(i:Int)<((c7 ks).length:Nat):=of_decide_eq_true hc;rw[c8] at this;omega
  obtain⟨⟨k1,F,G,o1,H⟩,ht⟩ : ∃t,ks[i]? = some t:=⟨_,dx hi⟩;have I:=Cq hi (by rw[<-c8];exact hx);rw[vj ht] at h1;obtain⟨g,hg⟩ : ∃g,f-i=g+1:=by
   cases hg:f-i with
   | zero=>rw[hg] at h1;exact(qh h1 r s).elim
   | succ g=>exact⟨g,rfl⟩
  have K:f-(i+1)=g:=by omega
  rw[hg] at h1;have j:=h1;rw[<-h1] at s;have hm:=s;conv=>whnf
  refine⟨rfl,i,_,rfl,jr ht,?_⟩;conv=>whnf
  refine b9 (λhb=> ?_) λhb=> ?_
  ·simp only[pe,hb,↓reduceIte] at j;subst j;conv=>whnf
   have l:=A _ rfl;rw[Sc] at l;exact l
  simp only[pe,hb,aM,↓reduceIte] at hm j;conv=>whnf
  (refine((h g Om).stmt (.mk k1 F G o1 H)) st u _ _ r (mo hm) λst hp=> ?_;rw[hp] at hm j;clear hp;conv=>whnf)
  refine⟨_,[],?_,rfl,i+1,st,I,rfl,hi,rfl,?_⟩;·omega
  rw[K];exact j
 have hi:i=ks.length:=by
  have this : ¬(i:Int)<((c7 ks).length:Nat):=of_decide_eq_false hc;rw[c8] at this;omega
 subst hi;rw[re] at h1;cases hg:f-ks.length with
 | zero=>rw[hg] at h1;exact(qh h1 r s).elim
 | succ g=>
   rw[hg] at h1;simp only[pe] at h1;subst h1;conv=>whnf
   have l:=A _ rfl;rw[Sc] at l;exact l
theorem akH(s:List UInt8)(n:Nd):gM Z X (f+1) (.ifs s n) 24 [rS (.string ⟨⟨s⟩⟩),eC n]:=by
 intro st l Q R j hm i;refine ky kz Rl Kr (bq ?_)
 obtain⟨k,ln,x,o,ks⟩:=n;rcases ks with _ | ⟨⟨k1,r,t,o1,u⟩,_ | ⟨⟨v,w,y,o2,z⟩,_ | ⟨⟨A,C,D,E,F⟩,ks⟩⟩⟩
 ·replace hm:=pz hm;replace i:=pz i
  conv=>whnf
  refine di (st:=st) (λhn hl m hk=> ?_) λst hb hk=> ?_;case refine_2=>
   rw[hk] at hm i;conv=>whnf
   exact i _ rfl
  rw[hk] at hm i;conv=>whnf
  simp only[ay,aF] at hl;omega
 ·replace hm:=pz hm;replace i:=pz i
  conv=>whnf
  refine di (st:=st) (λhn hl m hk=> ?_) λst hb hk=> ?_;case refine_2=>
   rw[hk] at hm i;conv=>whnf
   exact i _ rfl
  rw[hk] at hm i;conv=>whnf
  simp only[ay,aF] at hl;omega
 ·replace hm:=pz hm;replace i:=pz i
  conv=>whnf
  refine di (st:=st) (λhn hl m hk=> ?_) λst hb hk=> ?_;case refine_2=>
   rw[hk] at hm i;conv=>whnf
   exact i _ rfl
  rw[hk] at hm i;conv=>whnf
  (refine iW (st:=st) hJ s j (mo hm) λst hp=> ?_;rw[hp] at hm i;clear hp;conv=>whnf)
  (refine⟨rfl,0,_,rfl,rfl,?_⟩;conv=>whnf)
  (refine((h f (ag f)).dX (.mk k1 r t o1 u) 0) st l _ _ j (mo hm) λst hp=> ?_;rw[hp] at hm i;clear hp;conv=>whnf)
  (refine⟨rfl,1,_,rfl,rfl,?_⟩;conv=>whnf)
  (refine((h f (ag f)).block (.mk v w y o2 z)) st l _ _ j (mo hm) λst hp=> ?_;rw[hp] at hm i;clear hp;conv=>whnf)
  intro hx;conv=>whnf
  exact i _ rfl
 rcases F with _ | ⟨⟨G,H,I,K,L⟩,_ | ⟨⟨O,P,S,T,M⟩,F⟩⟩
 ·replace hm:=pz hm;replace i:=pz i
  conv=>whnf
  refine di (st:=st) (λhn hl m hk=> ?_) λst hb hk=> ?_;case refine_2=>
   rw[hk] at hm i;conv=>whnf
   exact i _ rfl
  rw[hk] at hm i;conv=>whnf
  (refine iW (st:=st) hJ s j (mo hm) λst hp=> ?_;rw[hp] at hm i;clear hp;conv=>whnf)
  (refine⟨rfl,0,_,rfl,rfl,?_⟩;conv=>whnf)
  (refine((h f (ag f)).dX (.mk k1 r t o1 u) 0) st l _ _ j (mo hm) λst hp=> ?_;rw[hp] at hm i;clear hp;conv=>whnf)
  (refine⟨rfl,1,_,rfl,rfl,?_⟩;conv=>whnf)
  (refine((h f (ag f)).block (.mk v w y o2 z)) st l _ _ j (mo hm) λst hp=> ?_;rw[hp] at hm i;clear hp;conv=>whnf)
  intro hx;conv=>whnf
  (refine⟨rfl,2,_,rfl,rfl,?_⟩;conv=>whnf)
  intro N;conv=>whnf
  (refine iW (st:=st) hJ [101,108,115,101] j (mo hm) λst hp=> ?_;rw[hp] at hm i;clear hp;conv=>whnf)
  (refine((h f (ag f)).block (.mk A C D E [])) st l _ _ j (mo hm) λst hp=> ?_;rw[hp] at hm i;clear hp;conv=>whnf)
  exact i _ rfl
 ·by_cases h5:G=5
  ·subst h5;replace hm:=pz hm;replace i:=pz i
   conv=>whnf
   refine di (st:=st) (λhn hl m hk=> ?_) λst hb hk=> ?_;case refine_2=>
    rw[hk] at hm i;conv=>whnf
    exact i _ rfl
   rw[hk] at hm i;conv=>whnf
   (refine iW (st:=st) hJ s j (mo hm) λst hp=> ?_;rw[hp] at hm i;clear hp;conv=>whnf)
   (refine⟨rfl,0,_,rfl,rfl,?_⟩;conv=>whnf)
   (refine((h f (ag f)).dX (.mk k1 r t o1 u) 0) st l _ _ j (mo hm) λst hp=> ?_;rw[hp] at hm i;clear hp;conv=>whnf)
   (refine⟨rfl,1,_,rfl,rfl,?_⟩;conv=>whnf)
   (refine((h f (ag f)).block (.mk v w y o2 z)) st l _ _ j (mo hm) λst hp=> ?_;rw[hp] at hm i;clear hp;conv=>whnf)
   intro hx;conv=>whnf
   (refine⟨rfl,2,_,rfl,rfl,?_⟩;conv=>whnf)
   intro N;conv=>whnf
   (refine⟨rfl,0,_,rfl,rfl,?_⟩;conv=>whnf)
   (refine⟨rfl,0,_,rfl,rfl,?_⟩;conv=>whnf)
   (refine((h f (ag f)).ifs [101,108,105,102,32] (.mk 5 H I K L)) st l _ _ j (mo hm) λst hp=> ?_;rw[hp] at hm i;clear hp;conv=>whnf)
   exact i _ rfl
  simp only[pe,Nd.kind,Nd.text,Nd.op,Nd.kids,Nat.reduceEqDiff,reduceCtorEq,or_self,or_true,true_or,or_false,false_or,and_true,true_and,and_false,false_and,↓reduceIte,h5] at hm i;conv=>whnf
  refine di (st:=st) (λhn hl m hk=> ?_) λst hb hk=> ?_;case refine_2=>
   rw[hk] at hm i;conv=>whnf
   exact i _ rfl
  rw[hk] at hm i;conv=>whnf
  (refine iW (st:=st) hJ s j (mo hm) λst hp=> ?_;rw[hp] at hm i;clear hp;conv=>whnf)
  (refine⟨rfl,0,_,rfl,rfl,?_⟩;conv=>whnf)
  (refine((h f (ag f)).dX (.mk k1 r t o1 u) 0) st l _ _ j (mo hm) λst hp=> ?_;rw[hp] at hm i;clear hp;conv=>whnf)
  (refine⟨rfl,1,_,rfl,rfl,?_⟩;conv=>whnf)
  (refine((h f (ag f)).block (.mk v w y o2 z)) st l _ _ j (mo hm) λst hp=> ?_;rw[hp] at hm i;clear hp;conv=>whnf)
  intro hx;conv=>whnf
  (refine⟨rfl,2,_,rfl,rfl,?_⟩;conv=>whnf)
  intro N;conv=>whnf
  (refine⟨rfl,0,_,rfl,rfl,?_⟩;conv=>whnf)
  refine b9 (λhc=>by exfalso;simp at hc;omega) λhc=> ?_;conv=>whnf
  (refine iW (st:=st) hJ [101,108,115,101] j (mo hm) λst hp=> ?_;rw[hp] at hm i;clear hp;conv=>whnf)
  (refine((h f (ag f)).block (.mk A C D E [(.mk G H I K L)])) st l _ _ j (mo hm) λst hp=> ?_;rw[hp] at hm i;clear hp;conv=>whnf)
  exact i _ rfl
 replace hm:=pz hm;replace i:=pz i
 conv=>whnf
 refine di (st:=st) (λhn hl m hk=> ?_) λst hb hk=> ?_;case refine_2=>
  rw[hk] at hm i;conv=>whnf
  exact i _ rfl
 rw[hk] at hm i;conv=>whnf
 (refine iW (st:=st) hJ s j (mo hm) λst hp=> ?_;rw[hp] at hm i;clear hp;conv=>whnf)
 (refine⟨rfl,0,_,rfl,rfl,?_⟩;conv=>whnf)
 (refine((h f (ag f)).dX (.mk k1 r t o1 u) 0) st l _ _ j (mo hm) λst hp=> ?_;rw[hp] at hm i;clear hp;conv=>whnf)
 (refine⟨rfl,1,_,rfl,rfl,?_⟩;conv=>whnf)
 (refine((h f (ag f)).block (.mk v w y o2 z)) st l _ _ j (mo hm) λst hp=> ?_;rw[hp] at hm i;clear hp;conv=>whnf)
 intro hx;conv=>whnf
 (refine⟨rfl,2,_,rfl,rfl,?_⟩;conv=>whnf)
 intro N;conv=>whnf
 (refine iW (st:=st) hJ [101,108,115,101] j (mo hm) λst hp=> ?_;rw[hp] at hm i;clear hp;conv=>whnf)
 (refine((h f (ag f)).block (.mk A C D E ((.mk G H I K L)::(.mk O P S T M)::F))) st l _ _ j (mo hm) λst hp=> ?_;rw[hp] at hm i;clear hp;conv=>whnf)
 exact i _ rfl
end
section
open Go Go.RowKit
attribute [local irreducible] TC aV pe fx jF cJ eH aB.sb aB.dp
variable {Z:TP} {X:ce} {f:Nat} (hJ:Z.J=Jb) (h : ∀g,g<=f->qg Z X g)
include hJ h
theorem akI(n:Nd):gM Z X (f+1) (.tries n) 25 [eC n]:=by
 intro st r Q R l hm j;refine ky kz Rl Kr (bq ?_)
 obtain⟨k,ln,x,o,ks⟩:=n;rcases ks with _ | ⟨⟨S,T,U,V,W⟩,ks⟩
 all_goals
  replace hm:=pz hm;replace j:=pz j
  conv=>whnf
  refine di (st:=st) (λhn hl s hk=> ?_) λst hb hk=> ?_;case refine_2=>
   rw[hk] at hm j;conv=>whnf
   exact j _ rfl
  rw[hk] at hm j;conv=>whnf
 ·simp only[ay,aF] at hl;omega
 (refine iW (st:=st) hJ [116,114,121] l (mo hm) λst hp=> ?_;rw[hp] at hm j;clear hp;conv=>whnf)
 (refine⟨rfl,0,_,rfl,rfl,?_⟩;conv=>whnf)
 (refine((h f (ag f)).block (.mk S T U V W)) st r _ _ l (mo hm) λst hp=> ?_;rw[hp] at hm j;clear hp;conv=>whnf)
 intro hx;conv=>whnf
 generalize hE:pe f (.cR ks) st=Y at hm j;have u:=j;have H:Y.w<=r.w:=mo hm;refine qH 22 (λm a s1=>∃(i:Nat) (aQ:aB),a=iS i/\m=ks.length-i/\i<=ks.length/\s1=⟨0,[oP aQ,Fb (.mk k ln x o (.mk S T U V W::ks))]⟩/\pe (f-i) (.cR (ks.drop i)) aQ=Y) ks.length [] rfl ⟨0,st,rfl,rfl,fa _,rfl,hE⟩ ?_;rintro m a f1 s1 ⟨i,st,rfl,rfl,hi,rfl,h1⟩;conv=>whnf
 refine b9 (λhc=> ?_) λhc=> ?_
 ·have hi:i<ks.length:=by
   have this:(i:Int)<((c7 ks).length:Nat):=of_decide_eq_true hc;rw[c8] at this;omega
  obtain⟨⟨k1,l1,I,o1,aA⟩,ht⟩ : ∃t,ks[i]? = some t:=⟨_,dx hi⟩;have z:=Cq hi (by rw[<-c8];exact hx);rw[vj ht] at h1;obtain⟨g,hg⟩ : ∃g,f-i=g+1:=by
   cases hg:f-i with
   | zero=>rw[hg] at h1;exact(qh h1 l H).elim
   | succ g=>exact⟨g,rfl⟩
  have A:f-(i+1)=g:=by omega
  rw[hg] at h1;have j:=h1;rw[<-h1] at H;have hm:=H;rcases aA with _ | ⟨⟨C,D,E,o2,F⟩,_ | ⟨⟨K,L,M,N,O⟩,_ | ⟨⟨k4,l4,x4,o4,MM⟩,aA⟩⟩⟩
  ·replace hm:=pz hm;replace j:=pz j
   conv=>whnf
   refine⟨rfl,i,_,rfl,jr ht,?_⟩;conv=>whnf
   refine di (st:=st) (λhn hl s hk=> ?_) λst hb hk=> ?_;case refine_2=>
    rw[hk] at j;subst j;conv=>whnf
    exact u _ rfl
   rw[hk] at hm j;conv=>whnf
   simp only[ay,aF] at hl;omega
  ·
   by_cases y:k1=22
   ·subst y;simp only[pe,Nd.kind,Nd.text,Nd.op,Nd.kids,Nat.reduceEqDiff,reduceCtorEq,or_self,or_true,true_or,or_false,false_or,and_true,true_and,and_false,false_and,↓reduceIte,iu,gT] at hm j;conv=>whnf
    refine⟨rfl,i,_,rfl,jr ht,?_⟩;conv=>whnf
    refine di (st:=st) (λhn hl s hk=> ?_) λst hb hk=> ?_;case refine_2=>
     rw[hk] at j;subst j;conv=>whnf
     exact u _ rfl
    rw[hk] at hm j;conv=>whnf
    (refine iW (st:=st) hJ [102,105,110,97,108,108,121] l (mo hm) λst hp=> ?_;rw[hp] at hm j;clear hp;conv=>whnf)
    intro G;conv=>whnf
    (refine⟨rfl,0,_,rfl,rfl,?_⟩;conv=>whnf)
    (refine((h g Om).block (.mk C D E o2 F)) st r _ _ l (mo hm) λst hp=> ?_;rw[hp] at hm j;clear hp;conv=>whnf)
    refine⟨_,[],?_,rfl,i+1,st,z,rfl,hi,rfl,?_⟩;·omega
    rw[A];exact j
   by_cases v:I= []
   ·simp only[pe,Nd.kind,Nd.text,Nd.op,Nd.kids,Nat.reduceEqDiff,reduceCtorEq,or_self,or_true,true_or,or_false,false_or,and_true,true_and,and_false,false_and,↓reduceIte,y,eq_true v,iu,gT] at hm j;conv=>whnf
    refine⟨rfl,i,_,rfl,jr ht,?_⟩;conv=>whnf
    refine di (st:=st) (λhn hl s hk=> ?_) λst hb hk=> ?_;case refine_2=>
     rw[hk] at j;subst j;conv=>whnf
     exact u _ rfl
    rw[hk] at hm j;conv=>whnf
    refine b9 (λhc=>by exfalso;simp at hc;omega) λhc=> ?_;conv=>whnf
    (refine iW (st:=st) hJ [101,120,99,101,112,116] l (mo hm) λst hp=> ?_;rw[hp] at hm j;clear hp;conv=>whnf)
    intro G;conv=>whnf
    refine b9 (λhc=>absurd ((MK v).symm.trans hc) de) λhc=> ?_;conv=>whnf
    intro P;conv=>whnf
    (refine⟨rfl,0,_,rfl,rfl,?_⟩;conv=>whnf)
    (refine((h g Om).block (.mk C D E o2 F)) st r _ _ l (mo hm) λst hp=> ?_;rw[hp] at hm j;clear hp;conv=>whnf)
    refine⟨_,[],?_,rfl,i+1,st,z,rfl,hi,rfl,?_⟩;·omega
    rw[A];exact j
   simp only[pe,Nd.kind,Nd.text,Nd.op,Nd.kids,Nat.reduceEqDiff,reduceCtorEq,or_self,or_true,true_or,or_false,false_or,and_true,true_and,and_false,false_and,↓reduceIte,y,eq_false v,iu,gT] at hm j;conv=>whnf
   refine⟨rfl,i,_,rfl,jr ht,?_⟩;conv=>whnf
   refine di (st:=st) (λhn hl s hk=> ?_) λst hb hk=> ?_;case refine_2=>
    rw[hk] at j;subst j;conv=>whnf
    exact u _ rfl
   rw[hk] at hm j;conv=>whnf
   refine b9 (λhc=>by exfalso;simp at hc;omega) λhc=> ?_;conv=>whnf
   (refine iW (st:=st) hJ [101,120,99,101,112,116] l (mo hm) λst hp=> ?_;rw[hp] at hm j;clear hp;conv=>whnf)
   intro G;conv=>whnf
   refine b9 (λhc=> ?_) λhc=>absurd ((ML v).symm.trans hc) de;conv=>whnf
   refine⟨rfl,?_⟩;(conv=>whnf);(refine bQ (st:=st) hJ [tX,I] s0 s0 l (mo hm) λst hp=> ?_;rw[hp] at hm j;clear hp;conv=>whnf)
   intro P;conv=>whnf
   (refine⟨rfl,0,_,rfl,rfl,?_⟩;conv=>whnf)
   (refine((h g Om).block (.mk C D E o2 F)) st r _ _ l (mo hm) λst hp=> ?_;rw[hp] at hm j;clear hp;conv=>whnf)
   refine⟨_,[],?_,rfl,i+1,st,z,rfl,hi,rfl,?_⟩;·omega
   rw[A];exact j
  ·
   by_cases y:k1=22
   ·subst y;simp only[pe,Nd.kind,Nd.text,Nd.op,Nd.kids,Nat.reduceEqDiff,reduceCtorEq,or_self,or_true,true_or,or_false,false_or,and_true,true_and,and_false,false_and,↓reduceIte,iu,gT] at hm j;conv=>whnf
    refine⟨rfl,i,_,rfl,jr ht,?_⟩;conv=>whnf
    refine di (st:=st) (λhn hl s hk=> ?_) λst hb hk=> ?_;case refine_2=>
     rw[hk] at j;subst j;conv=>whnf
     exact u _ rfl
    rw[hk] at hm j;conv=>whnf
    (refine iW (st:=st) hJ [102,105,110,97,108,108,121] l (mo hm) λst hp=> ?_;rw[hp] at hm j;clear hp;conv=>whnf)
    intro G;conv=>whnf
    (refine⟨rfl,1,_,rfl,rfl,?_⟩;conv=>whnf)
    (refine((h g Om).block (.mk K L M N O)) st r _ _ l (mo hm) λst hp=> ?_;rw[hp] at hm j;clear hp;conv=>whnf)
    refine⟨_,[],?_,rfl,i+1,st,z,rfl,hi,rfl,?_⟩;·omega
    rw[A];exact j
   by_cases v:I= []
   ·simp only[pe,Nd.kind,Nd.text,Nd.op,Nd.kids,Nat.reduceEqDiff,reduceCtorEq,or_self,or_true,true_or,or_false,false_or,and_true,true_and,and_false,false_and,↓reduceIte,y,eq_true v,iu,gT] at hm j;conv=>whnf
    refine⟨rfl,i,_,rfl,jr ht,?_⟩;conv=>whnf
    refine di (st:=st) (λhn hl s hk=> ?_) λst hb hk=> ?_;case refine_2=>
     rw[hk] at j;subst j;conv=>whnf
     exact u _ rfl
    rw[hk] at hm j;conv=>whnf
    refine b9 (λhc=>by exfalso;simp at hc;omega) λhc=> ?_;conv=>whnf
    (refine iW (st:=st) hJ [101,120,99,101,112,116] l (mo hm) λst hp=> ?_;rw[hp] at hm j;clear hp;conv=>whnf)
    intro G;conv=>whnf
    refine⟨rfl,?_⟩;(conv=>whnf);(refine bQ (st:=st) hJ [kR] s0 s0 l (mo hm) λst hp=> ?_;rw[hp] at hm j;clear hp;conv=>whnf)
    (refine⟨rfl,0,_,rfl,rfl,?_⟩;conv=>whnf)
    (refine((h g Om).dX (.mk C D E o2 F) 0) st r _ _ l (mo hm) λst hp=> ?_;rw[hp] at hm j;clear hp;conv=>whnf)
    refine b9 (λhc=>absurd ((MK v).symm.trans hc) de) λhc=> ?_;conv=>whnf
    intro P;conv=>whnf
    (refine⟨rfl,1,_,rfl,rfl,?_⟩;conv=>whnf)
    (refine((h g Om).block (.mk K L M N O)) st r _ _ l (mo hm) λst hp=> ?_;rw[hp] at hm j;clear hp;conv=>whnf)
    refine⟨_,[],?_,rfl,i+1,st,z,rfl,hi,rfl,?_⟩;·omega
    rw[A];exact j
   simp only[pe,Nd.kind,Nd.text,Nd.op,Nd.kids,Nat.reduceEqDiff,reduceCtorEq,or_self,or_true,true_or,or_false,false_or,and_true,true_and,and_false,false_and,↓reduceIte,y,eq_false v,iu,gT] at hm j;conv=>whnf
   refine⟨rfl,i,_,rfl,jr ht,?_⟩;conv=>whnf
   refine di (st:=st) (λhn hl s hk=> ?_) λst hb hk=> ?_;case refine_2=>
    rw[hk] at j;subst j;conv=>whnf
    exact u _ rfl
   rw[hk] at hm j;conv=>whnf
   refine b9 (λhc=>by exfalso;simp at hc;omega) λhc=> ?_;conv=>whnf
   (refine iW (st:=st) hJ [101,120,99,101,112,116] l (mo hm) λst hp=> ?_;rw[hp] at hm j;clear hp;conv=>whnf)
   intro G;conv=>whnf
   refine⟨rfl,?_⟩;(conv=>whnf);(refine bQ (st:=st) hJ [kR] s0 s0 l (mo hm) λst hp=> ?_;rw[hp] at hm j;clear hp;conv=>whnf)
   (refine⟨rfl,0,_,rfl,rfl,?_⟩;conv=>whnf)
   (refine((h g Om).dX (.mk C D E o2 F) 0) st r _ _ l (mo hm) λst hp=> ?_;rw[hp] at hm j;clear hp;conv=>whnf)
   refine b9 (λhc=> ?_) λhc=>absurd ((ML v).symm.trans hc) de;conv=>whnf
   refine⟨rfl,?_⟩;(conv=>whnf);(refine bQ (st:=st) hJ [tX,I] s0 s0 l (mo hm) λst hp=> ?_;rw[hp] at hm j;clear hp;conv=>whnf)
   intro P;conv=>whnf
   (refine⟨rfl,1,_,rfl,rfl,?_⟩;conv=>whnf)
   (refine((h g Om).block (.mk K L M N O)) st r _ _ l (mo hm) λst hp=> ?_;rw[hp] at hm j;clear hp;conv=>whnf)
   refine⟨_,[],?_,rfl,i+1,st,z,rfl,hi,rfl,?_⟩;·omega
   rw[A];exact j
  replace hm:=pz hm;replace j:=pz j
  conv=>whnf
  refine⟨rfl,i,_,rfl,jr ht,?_⟩;conv=>whnf
  refine di (st:=st) (λhn hl s hk=> ?_) λst hb hk=> ?_;case refine_2=>
   rw[hk] at j;subst j;conv=>whnf
   exact u _ rfl
  rw[hk] at hm j;conv=>whnf
  simp only[ay,aF] at s;omega
 have hi:i=ks.length:=by
  have this : ¬(i:Int)<((c7 ks).length:Nat):=of_decide_eq_false hc;rw[c8] at this;omega
 subst hi;rw[re] at h1;cases hg:f-ks.length with
 | zero=>rw[hg] at h1;exact(qh h1 l H).elim
 | succ g=>
   rw[hg] at h1;simp only[pe] at h1;subst h1;conv=>whnf
   exact u _ rfl
theorem akJ(n:Nd):gM Z X (f+1) (.stmt n) 14 [eC n]:=by
 intro st l Q R j hm i;refine ky kz Rl Kr (bq ?_)
 obtain⟨k,ln,x,o,ks⟩:=n;by_cases hk:k=5
 ·rcases hk with rfl
  all_goals
   replace hm:=pz hm;replace i:=pz i
   conv=>whnf
   (refine((h f (ag f)).ifs [105,102,32] (.mk 5 ln x o ks)) st l _ _ j (mo hm) λst hp=> ?_;rw[hp] at hm i;clear hp;conv=>whnf)
   exact i _ rfl
 by_cases hk:k=15
 ·rcases hk with rfl
  all_goals
   replace hm:=pz hm;replace i:=pz i
   conv=>whnf
   (refine((h f (ag f)).tries (.mk 15 ln x o ks)) st l _ _ j (mo hm) λst hp=> ?_;rw[hp] at hm i;clear hp;conv=>whnf)
   exact i _ rfl
 by_cases hk:k=6
 ·rcases hk with rfl
  all_goals
   replace hm:=pz hm;replace i:=pz i
   conv=>whnf
   (refine((h f (ag f)).head (.mk 6 ln x o ks) (.inl rfl)) st l _ _ j (mo hm) λst hp=> ?_;rw[hp] at hm i;clear hp;conv=>whnf)
   exact i _ rfl
 by_cases hk:k=7
 ·rcases hk with rfl
  all_goals
   replace hm:=pz hm;replace i:=pz i
   conv=>whnf
   (refine((h f (ag f)).head (.mk 7 ln x o ks) (.inr (.inl rfl))) st l _ _ j (mo hm) λst hp=> ?_;rw[hp] at hm i;clear hp;conv=>whnf)
   exact i _ rfl
 by_cases hk:k=8
 ·rcases hk with rfl
  all_goals
   replace hm:=pz hm;replace i:=pz i
   conv=>whnf
   (refine((h f (ag f)).head (.mk 8 ln x o ks) (.inr (.inr (.inl rfl)))) st l _ _ j (mo hm) λst hp=> ?_;rw[hp] at hm i;clear hp;conv=>whnf)
   exact i _ rfl
 by_cases hk:k=9
 ·rcases hk with rfl
  all_goals
   replace hm:=pz hm;replace i:=pz i
   conv=>whnf
   (refine((h f (ag f)).head (.mk 9 ln x o ks) (.inr (.inr (.inr (.inl rfl))))) st l _ _ j (mo hm) λst hp=> ?_;rw[hp] at hm i;clear hp;conv=>whnf)
   exact i _ rfl
 by_cases hk:k=16
 ·rcases hk with rfl
  all_goals
   replace hm:=pz hm;replace i:=pz i
   conv=>whnf
   (refine((h f (ag f)).head (.mk 16 ln x o ks) (.inr (.inr (.inr (.inr rfl))))) st l _ _ j (mo hm) λst hp=> ?_;rw[hp] at hm i;clear hp;conv=>whnf)
   exact i _ rfl
 have s : ¬k=5:=by omega
 have m : ¬k=15:=by omega
 have t : ¬k=6:=by omega
 have u : ¬k=7:=by omega
 have v : ¬k=8:=by omega
 have w : ¬k=9:=by omega
 have r : ¬k=16:=by omega
 simp only[pe,Nd.kind,Nd.text,Nd.op,Nd.kids,Nat.reduceEqDiff,reduceCtorEq,or_self,or_true,true_or,or_false,false_or,and_true,true_and,and_false,false_and,↓reduceIte,s,m,t,u,v,w,r] at hm i;conv=>whnf
 repeat' (refine b9 (λhc=>by exfalso;simp at hc;omega) λhc=> ?_;conv=>whnf)
 (refine iW (st:=st) hJ [] j (mo hm) λst hp=> ?_;rw[hp] at hm i;clear hp;conv=>whnf)
 (refine((h f (ag f)).simple (.mk k ln x o ks)) st l _ _ j (mo hm) λst hp=> ?_;rw[hp] at hm i;clear hp;conv=>whnf)
 refine⟨rfl,?_⟩;(conv=>whnf);(refine bQ (st:=st) hJ [At] s0 s0 j (mo hm) λst hp=> ?_;rw[hp] at hm i;clear hp;conv=>whnf)
 exact i _ rfl
end
section
open Go Go.RowKit
attribute [local irreducible] TC aV pe fx jF cJ eH aB.sb aB.dp
variable {Z:TP} {X:ce} {f:Nat} (hJ:Z.J=Jb) (h : ∀g,g<=f->qg Z X g)
include hJ h
theorem akK(n:Nd)(I:n.kind=6\/n.kind=7\/n.kind=8\/n.kind=9\/n.kind=16):gM Z X (f+1) (.head n) 26 [eC n]:=by
 intro st l Q R j hm i;refine ky kz Rl Kr (bq ?_)
 obtain⟨k,ln,x,o,ks⟩:=n;simp only[Nd.kind] at I;rcases ks with _ | ⟨⟨k1,A,C,o1,r⟩,_ | ⟨⟨t,u,v,o2,w⟩,_ | ⟨⟨D,E,F,G,H⟩,_ | ⟨L,ks⟩⟩⟩⟩
 ·rcases I with rfl | rfl | rfl | rfl | rfl
  all_goals
   replace hm:=pz hm;replace i:=pz i
   conv=>whnf
   refine di (st:=st) (λhn hl m hk=> ?_) λst hb hk=> ?_;case refine_2=>
    rw[hk] at hm i;conv=>whnf
    exact i _ rfl
   rw[hk] at hm i;conv=>whnf
   simp only[ay,aF] at hl;omega
 ·rcases I with rfl | rfl | rfl | rfl | rfl
  all_goals
   replace hm:=pz hm;replace i:=pz i
   conv=>whnf
   refine di (st:=st) (λhn hl m hk=> ?_) λst hb hk=> ?_;case refine_2=>
    rw[hk] at hm i;conv=>whnf
    exact i _ rfl
   rw[hk] at hm i;conv=>whnf
   simp only[ay,aF] at hl;omega
 ·rcases I with rfl | rfl | rfl | rfl | rfl
  ·replace hm:=pz hm;replace i:=pz i
   conv=>whnf
   refine di (st:=st) (λhn hl m hk=> ?_) λst hb hk=> ?_;case refine_2=>
    rw[hk] at hm i;conv=>whnf
    exact i _ rfl
   rw[hk] at hm i;conv=>whnf
   (refine iW (st:=st) hJ [119,104,105,108,101,32] j (mo hm) λst hp=> ?_;rw[hp] at hm i;clear hp;conv=>whnf)
   (refine⟨rfl,0,_,rfl,rfl,?_⟩;conv=>whnf)
   (refine((h f (ag f)).dX (.mk k1 A C o1 r) 0) st l _ _ j (mo hm) λst hp=> ?_;rw[hp] at hm i;clear hp;conv=>whnf)
   intro s;conv=>whnf
   (refine⟨rfl,1,_,rfl,rfl,?_⟩;conv=>whnf)
   (refine((h f (ag f)).block (.mk t u v o2 w)) st l _ _ j (mo hm) λst hp=> ?_;rw[hp] at hm i;clear hp;conv=>whnf)
   exact i _ rfl
  ·replace hm:=pz hm;replace i:=pz i
   conv=>whnf
   refine di (st:=st) (λhn hl m hk=> ?_) λst hb hk=> ?_;case refine_2=>
    rw[hk] at hm i;conv=>whnf
    exact i _ rfl
   rw[hk] at hm i;conv=>whnf
   (refine iW (st:=st) hJ [102,111,114,32] j (mo hm) λst hp=> ?_;rw[hp] at hm i;clear hp;conv=>whnf)
   (refine⟨rfl,0,_,rfl,rfl,?_⟩;conv=>whnf)
   (refine((h f (ag f)).dX (.mk k1 A C o1 r) 9) st l _ _ j (mo hm) λst hp=> ?_;rw[hp] at hm i;clear hp;conv=>whnf)
   refine⟨rfl,?_⟩;(conv=>whnf);(refine bQ (st:=st) hJ [vf] s0 s0 j (mo hm) λst hp=> ?_;rw[hp] at hm i;clear hp;conv=>whnf)
   (refine⟨rfl,1,_,rfl,rfl,?_⟩;conv=>whnf)
   (refine((h f (ag f)).dX (.mk t u v o2 w) 0) st l _ _ j (mo hm) λst hp=> ?_;rw[hp] at hm i;clear hp;conv=>whnf)
   intro s;conv=>whnf
   (refine⟨rfl,1,_,rfl,rfl,?_⟩;conv=>whnf)
   (refine((h f (ag f)).block (.mk t u v o2 w)) st l _ _ j (mo hm) λst hp=> ?_;rw[hp] at hm i;clear hp;conv=>whnf)
   exact i _ rfl
  ·replace hm:=pz hm;replace i:=pz i
   conv=>whnf
   refine di (st:=st) (λhn hl m hk=> ?_) λst hb hk=> ?_;case refine_2=>
    rw[hk] at hm i;conv=>whnf
    exact i _ rfl
   rw[hk] at hm i;conv=>whnf
   (refine iW (st:=st) hJ [100,101,102,32] j (mo hm) λst hp=> ?_;rw[hp] at hm i;clear hp;conv=>whnf)
   refine⟨rfl,?_⟩;(conv=>whnf);(refine bQ (st:=st) hJ [x,oG] s0 s0 j (mo hm) λst hp=> ?_;rw[hp] at hm i;clear hp;conv=>whnf)
   (refine⟨rfl,0,_,rfl,rfl,?_⟩;conv=>whnf)
   (refine((h f (ag f)).row r) st l _ _ j (mo hm) λst hp=> ?_;rw[hp] at hm i;clear hp;conv=>whnf)
   refine⟨rfl,?_⟩;(conv=>whnf);(refine bQ (st:=st) hJ [oH] s0 s0 j (mo hm) λst hp=> ?_;rw[hp] at hm i;clear hp;conv=>whnf)
   intro s;conv=>whnf
   (refine⟨rfl,1,_,rfl,rfl,?_⟩;conv=>whnf)
   (refine((h f (ag f)).block (.mk t u v o2 w)) st l _ _ j (mo hm) λst hp=> ?_;rw[hp] at hm i;clear hp;conv=>whnf)
   exact i _ rfl
  ·by_cases y:0<r.length
   ·simp only[pe,Nd.kind,Nd.text,Nd.op,Nd.kids,Nat.reduceEqDiff,reduceCtorEq,or_self,or_true,true_or,or_false,false_or,and_true,true_and,and_false,false_and,↓reduceIte,y] at hm i;conv=>whnf
    refine di (st:=st) (λhn hl m hk=> ?_) λst hb hk=> ?_;case refine_2=>
     rw[hk] at hm i;conv=>whnf
     exact i _ rfl
    rw[hk] at hm i;conv=>whnf
    (refine iW (st:=st) hJ [99,108,97,115,115,32] j (mo hm) λst hp=> ?_;rw[hp] at hm i;clear hp;conv=>whnf)
    refine⟨rfl,?_⟩;(conv=>whnf);(refine bQ (st:=st) hJ [x] s0 s0 j (mo hm) λst hp=> ?_;rw[hp] at hm i;clear hp;conv=>whnf)
    (refine⟨rfl,0,_,rfl,rfl,?_⟩;conv=>whnf)
    intro hx;conv=>whnf
    refine b9 (λhc=> ?_) λhc=>by exfalso;simp[c8] at hc;simp[hc] at y
    conv=>whnf
    refine⟨rfl,?_⟩;(conv=>whnf);(refine bQ (st:=st) hJ [oG] s0 s0 j (mo hm) λst hp=> ?_;rw[hp] at hm i;clear hp;conv=>whnf)
    (refine⟨rfl,0,_,rfl,rfl,?_⟩;conv=>whnf)
    (refine((h f (ag f)).row r) st l _ _ j (mo hm) λst hp=> ?_;rw[hp] at hm i;clear hp;conv=>whnf)
    refine⟨rfl,?_⟩;(conv=>whnf);(refine bQ (st:=st) hJ [oH] s0 s0 j (mo hm) λst hp=> ?_;rw[hp] at hm i;clear hp;conv=>whnf)
    intro s;conv=>whnf
    (refine⟨rfl,1,_,rfl,rfl,?_⟩;conv=>whnf)
    (refine((h f (ag f)).block (.mk t u v o2 w)) st l _ _ j (mo hm) λst hp=> ?_;rw[hp] at hm i;clear hp;conv=>whnf)
    exact i _ rfl
   simp only[pe,Nd.kind,Nd.text,Nd.op,Nd.kids,Nat.reduceEqDiff,reduceCtorEq,or_self,or_true,true_or,or_false,false_or,and_true,true_and,and_false,false_and,↓reduceIte,y] at hm i;conv=>whnf
   refine di (st:=st) (λhn hl m hk=> ?_) λst hb hk=> ?_;case refine_2=>
    rw[hk] at hm i;conv=>whnf
    exact i _ rfl
   rw[hk] at hm i;conv=>whnf
   (refine iW (st:=st) hJ [99,108,97,115,115,32] j (mo hm) λst hp=> ?_;rw[hp] at hm i;clear hp;conv=>whnf)
   refine⟨rfl,?_⟩;(conv=>whnf);(refine bQ (st:=st) hJ [x] s0 s0 j (mo hm) λst hp=> ?_;rw[hp] at hm i;clear hp;conv=>whnf)
   (refine⟨rfl,0,_,rfl,rfl,?_⟩;conv=>whnf)
   intro hx;conv=>whnf
   refine b9 (λhc=>absurd (of_decide_eq_true hc) (by rw[c8];intro K;exact y (by have:(0:Int)<(r.length:Int):=K;omega))) λhc=> ?_;conv=>whnf
   intro s;conv=>whnf
   (refine⟨rfl,1,_,rfl,rfl,?_⟩;conv=>whnf)
   (refine((h f (ag f)).block (.mk t u v o2 w)) st l _ _ j (mo hm) λst hp=> ?_;rw[hp] at hm i;clear hp;conv=>whnf)
   exact i _ rfl
  by_cases z:x= []
  ·simp only[pe,Nd.kind,Nd.text,Nd.op,Nd.kids,Nat.reduceEqDiff,reduceCtorEq,or_self,or_true,true_or,or_false,false_or,and_true,true_and,and_false,false_and,↓reduceIte,eq_true z] at hm i;conv=>whnf
   refine di (st:=st) (λhn hl m hk=> ?_) λst hb hk=> ?_;case refine_2=>
    rw[hk] at hm i;conv=>whnf
    exact i _ rfl
   rw[hk] at hm i;conv=>whnf
   (refine iW (st:=st) hJ [119,105,116,104,32] j (mo hm) λst hp=> ?_;rw[hp] at hm i;clear hp;conv=>whnf)
   (refine⟨rfl,0,_,rfl,rfl,?_⟩;conv=>whnf)
   (refine((h f (ag f)).dX (.mk k1 A C o1 r) 0) st l _ _ j (mo hm) λst hp=> ?_;rw[hp] at hm i;clear hp;conv=>whnf)
   refine b9 (λhc=>absurd ((MK z).symm.trans hc) de) λhc=> ?_;conv=>whnf
   intro s;conv=>whnf
   (refine⟨rfl,1,_,rfl,rfl,?_⟩;conv=>whnf)
   (refine((h f (ag f)).block (.mk t u v o2 w)) st l _ _ j (mo hm) λst hp=> ?_;rw[hp] at hm i;clear hp;conv=>whnf)
   exact i _ rfl
  simp only[pe,Nd.kind,Nd.text,Nd.op,Nd.kids,Nat.reduceEqDiff,reduceCtorEq,or_self,or_true,true_or,or_false,false_or,and_true,true_and,and_false,false_and,↓reduceIte,eq_false z] at hm i;conv=>whnf
  refine di (st:=st) (λhn hl m hk=> ?_) λst hb hk=> ?_;case refine_2=>
   rw[hk] at hm i;conv=>whnf
   exact i _ rfl
  rw[hk] at hm i;conv=>whnf
  (refine iW (st:=st) hJ [119,105,116,104,32] j (mo hm) λst hp=> ?_;rw[hp] at hm i;clear hp;conv=>whnf)
  (refine⟨rfl,0,_,rfl,rfl,?_⟩;conv=>whnf)
  (refine((h f (ag f)).dX (.mk k1 A C o1 r) 0) st l _ _ j (mo hm) λst hp=> ?_;rw[hp] at hm i;clear hp;conv=>whnf)
  refine b9 (λhc=> ?_) λhc=>absurd ((ML z).symm.trans hc) de;conv=>whnf
  refine⟨rfl,?_⟩;(conv=>whnf);(refine bQ (st:=st) hJ [tX,x] s0 s0 j (mo hm) λst hp=> ?_;rw[hp] at hm i;clear hp;conv=>whnf)
  intro s;conv=>whnf
  (refine⟨rfl,1,_,rfl,rfl,?_⟩;conv=>whnf)
  (refine((h f (ag f)).block (.mk t u v o2 w)) st l _ _ j (mo hm) λst hp=> ?_;rw[hp] at hm i;clear hp;conv=>whnf)
  exact i _ rfl
 ·rcases I with rfl | rfl | rfl | rfl | rfl
  ·replace hm:=pz hm;replace i:=pz i
   conv=>whnf
   refine di (st:=st) (λhn hl m hk=> ?_) λst hb hk=> ?_;case refine_2=>
    rw[hk] at hm i;conv=>whnf
    exact i _ rfl
   rw[hk] at hm i;conv=>whnf
   (refine iW (st:=st) hJ [119,104,105,108,101,32] j (mo hm) λst hp=> ?_;rw[hp] at hm i;clear hp;conv=>whnf)
   (refine⟨rfl,0,_,rfl,rfl,?_⟩;conv=>whnf)
   (refine((h f (ag f)).dX (.mk k1 A C o1 r) 0) st l _ _ j (mo hm) λst hp=> ?_;rw[hp] at hm i;clear hp;conv=>whnf)
   intro s;conv=>whnf
   (refine⟨rfl,2,_,rfl,rfl,?_⟩;conv=>whnf)
   (refine((h f (ag f)).block (.mk D E F G H)) st l _ _ j (mo hm) λst hp=> ?_;rw[hp] at hm i;clear hp;conv=>whnf)
   exact i _ rfl
  ·replace hm:=pz hm;replace i:=pz i
   conv=>whnf
   refine di (st:=st) (λhn hl m hk=> ?_) λst hb hk=> ?_;case refine_2=>
    rw[hk] at hm i;conv=>whnf
    exact i _ rfl
   rw[hk] at hm i;conv=>whnf
   (refine iW (st:=st) hJ [102,111,114,32] j (mo hm) λst hp=> ?_;rw[hp] at hm i;clear hp;conv=>whnf)
   (refine⟨rfl,0,_,rfl,rfl,?_⟩;conv=>whnf)
   (refine((h f (ag f)).dX (.mk k1 A C o1 r) 9) st l _ _ j (mo hm) λst hp=> ?_;rw[hp] at hm i;clear hp;conv=>whnf)
   refine⟨rfl,?_⟩;(conv=>whnf);(refine bQ (st:=st) hJ [vf] s0 s0 j (mo hm) λst hp=> ?_;rw[hp] at hm i;clear hp;conv=>whnf)
   (refine⟨rfl,1,_,rfl,rfl,?_⟩;conv=>whnf)
   (refine((h f (ag f)).dX (.mk t u v o2 w) 0) st l _ _ j (mo hm) λst hp=> ?_;rw[hp] at hm i;clear hp;conv=>whnf)
   intro s;conv=>whnf
   (refine⟨rfl,2,_,rfl,rfl,?_⟩;conv=>whnf)
   (refine((h f (ag f)).block (.mk D E F G H)) st l _ _ j (mo hm) λst hp=> ?_;rw[hp] at hm i;clear hp;conv=>whnf)
   exact i _ rfl
  ·replace hm:=pz hm;replace i:=pz i
   conv=>whnf
   refine di (st:=st) (λhn hl m hk=> ?_) λst hb hk=> ?_;case refine_2=>
    rw[hk] at hm i;conv=>whnf
    exact i _ rfl
   rw[hk] at hm i;conv=>whnf
   (refine iW (st:=st) hJ [100,101,102,32] j (mo hm) λst hp=> ?_;rw[hp] at hm i;clear hp;conv=>whnf)
   refine⟨rfl,?_⟩;(conv=>whnf);(refine bQ (st:=st) hJ [x,oG] s0 s0 j (mo hm) λst hp=> ?_;rw[hp] at hm i;clear hp;conv=>whnf)
   (refine⟨rfl,0,_,rfl,rfl,?_⟩;conv=>whnf)
   (refine((h f (ag f)).row r) st l _ _ j (mo hm) λst hp=> ?_;rw[hp] at hm i;clear hp;conv=>whnf)
   refine⟨rfl,?_⟩;(conv=>whnf);(refine bQ (st:=st) hJ [oH] s0 s0 j (mo hm) λst hp=> ?_;rw[hp] at hm i;clear hp;conv=>whnf)
   intro s;conv=>whnf
   (refine⟨rfl,2,_,rfl,rfl,?_⟩;conv=>whnf)
   (refine((h f (ag f)).block (.mk D E F G H)) st l _ _ j (mo hm) λst hp=> ?_;rw[hp] at hm i;clear hp;conv=>whnf)
   exact i _ rfl
  ·by_cases y:0<r.length
   ·simp only[pe,Nd.kind,Nd.text,Nd.op,Nd.kids,Nat.reduceEqDiff,reduceCtorEq,or_self,or_true,true_or,or_false,false_or,and_true,true_and,and_false,false_and,↓reduceIte,y] at hm i;conv=>whnf
    refine di (st:=st) (λhn hl m hk=> ?_) λst hb hk=> ?_;case refine_2=>
     rw[hk] at hm i;conv=>whnf
     exact i _ rfl
    rw[hk] at hm i;conv=>whnf
    (refine iW (st:=st) hJ [99,108,97,115,115,32] j (mo hm) λst hp=> ?_;rw[hp] at hm i;clear hp;conv=>whnf)
    refine⟨rfl,?_⟩;(conv=>whnf);(refine bQ (st:=st) hJ [x] s0 s0 j (mo hm) λst hp=> ?_;rw[hp] at hm i;clear hp;conv=>whnf)
    (refine⟨rfl,0,_,rfl,rfl,?_⟩;conv=>whnf)
    intro hx;conv=>whnf
    refine b9 (λhc=> ?_) λhc=>by exfalso;simp[c8] at hc;simp[hc] at y
    conv=>whnf
    refine⟨rfl,?_⟩;(conv=>whnf);(refine bQ (st:=st) hJ [oG] s0 s0 j (mo hm) λst hp=> ?_;rw[hp] at hm i;clear hp;conv=>whnf)
    (refine⟨rfl,0,_,rfl,rfl,?_⟩;conv=>whnf)
    (refine((h f (ag f)).row r) st l _ _ j (mo hm) λst hp=> ?_;rw[hp] at hm i;clear hp;conv=>whnf)
    refine⟨rfl,?_⟩;(conv=>whnf);(refine bQ (st:=st) hJ [oH] s0 s0 j (mo hm) λst hp=> ?_;rw[hp] at hm i;clear hp;conv=>whnf)
    intro s;conv=>whnf
    (refine⟨rfl,2,_,rfl,rfl,?_⟩;conv=>whnf)
    (refine((h f (ag f)).block (.mk D E F G H)) st l _ _ j (mo hm) λst hp=> ?_;rw[hp] at hm i;clear hp;conv=>whnf)
    exact i _ rfl
   simp only[pe,Nd.kind,Nd.text,Nd.op,Nd.kids,Nat.reduceEqDiff,reduceCtorEq,or_self,or_true,true_or,or_false,false_or,and_true,true_and,and_false,false_and,↓reduceIte,y] at hm i;conv=>whnf
   refine di (st:=st) (λhn hl m hk=> ?_) λst hb hk=> ?_;case refine_2=>
    rw[hk] at hm i;conv=>whnf
    exact i _ rfl
   rw[hk] at hm i;conv=>whnf
   (refine iW (st:=st) hJ [99,108,97,115,115,32] j (mo hm) λst hp=> ?_;rw[hp] at hm i;clear hp;conv=>whnf)
   refine⟨rfl,?_⟩;(conv=>whnf);(refine bQ (st:=st) hJ [x] s0 s0 j (mo hm) λst hp=> ?_;rw[hp] at hm i;clear hp;conv=>whnf)
   (refine⟨rfl,0,_,rfl,rfl,?_⟩;conv=>whnf)
   intro hx;conv=>whnf
   refine b9 (λhc=>absurd (of_decide_eq_true hc) (by rw[c8];intro K;exact y (by have:(0:Int)<(r.length:Int):=K;omega))) λhc=> ?_;conv=>whnf
   intro s;conv=>whnf
   (refine⟨rfl,2,_,rfl,rfl,?_⟩;conv=>whnf)
   (refine((h f (ag f)).block (.mk D E F G H)) st l _ _ j (mo hm) λst hp=> ?_;rw[hp] at hm i;clear hp;conv=>whnf)
   exact i _ rfl
  by_cases z:x= []
  ·simp only[pe,Nd.kind,Nd.text,Nd.op,Nd.kids,Nat.reduceEqDiff,reduceCtorEq,or_self,or_true,true_or,or_false,false_or,and_true,true_and,and_false,false_and,↓reduceIte,eq_true z] at hm i;conv=>whnf
   refine di (st:=st) (λhn hl m hk=> ?_) λst hb hk=> ?_;case refine_2=>
    rw[hk] at hm i;conv=>whnf
    exact i _ rfl
   rw[hk] at hm i;conv=>whnf
   (refine iW (st:=st) hJ [119,105,116,104,32] j (mo hm) λst hp=> ?_;rw[hp] at hm i;clear hp;conv=>whnf)
   (refine⟨rfl,0,_,rfl,rfl,?_⟩;conv=>whnf)
   (refine((h f (ag f)).dX (.mk k1 A C o1 r) 0) st l _ _ j (mo hm) λst hp=> ?_;rw[hp] at hm i;clear hp;conv=>whnf)
   refine b9 (λhc=>absurd ((MK z).symm.trans hc) de) λhc=> ?_;conv=>whnf
   intro s;conv=>whnf
   (refine⟨rfl,2,_,rfl,rfl,?_⟩;conv=>whnf)
   (refine((h f (ag f)).block (.mk D E F G H)) st l _ _ j (mo hm) λst hp=> ?_;rw[hp] at hm i;clear hp;conv=>whnf)
   exact i _ rfl
  simp only[pe,Nd.kind,Nd.text,Nd.op,Nd.kids,Nat.reduceEqDiff,reduceCtorEq,or_self,or_true,true_or,or_false,false_or,and_true,true_and,and_false,false_and,↓reduceIte,eq_false z] at hm i;conv=>whnf
  refine di (st:=st) (λhn hl m hk=> ?_) λst hb hk=> ?_;case refine_2=>
   rw[hk] at hm i;conv=>whnf
   exact i _ rfl
  rw[hk] at hm i;conv=>whnf
  (refine iW (st:=st) hJ [119,105,116,104,32] j (mo hm) λst hp=> ?_;rw[hp] at hm i;clear hp;conv=>whnf)
  (refine⟨rfl,0,_,rfl,rfl,?_⟩;conv=>whnf)
  (refine((h f (ag f)).dX (.mk k1 A C o1 r) 0) st l _ _ j (mo hm) λst hp=> ?_;rw[hp] at hm i;clear hp;conv=>whnf)
  refine b9 (λhc=> ?_) λhc=>absurd ((ML z).symm.trans hc) de;conv=>whnf
  refine⟨rfl,?_⟩;(conv=>whnf);(refine bQ (st:=st) hJ [tX,x] s0 s0 j (mo hm) λst hp=> ?_;rw[hp] at hm i;clear hp;conv=>whnf)
  intro s;conv=>whnf
  (refine⟨rfl,2,_,rfl,rfl,?_⟩;conv=>whnf)
  (refine((h f (ag f)).block (.mk D E F G H)) st l _ _ j (mo hm) λst hp=> ?_;rw[hp] at hm i;clear hp;conv=>whnf)
  exact i _ rfl
 rcases I with rfl | rfl | rfl | rfl | rfl
 all_goals
  replace hm:=pz hm;replace i:=pz i
  conv=>whnf
  refine di (st:=st) (λhn hl m hk=> ?_) λst hb hk=> ?_;case refine_2=>
   rw[hk] at hm i;conv=>whnf
   exact i _ rfl
  rw[hk] at hm i;conv=>whnf
  simp only[ay,aF] at m;omega
end
section
open Go Go.RowKit
attribute [local irreducible] TC aV pe fx jF cJ eH aB.sb aB.dp
variable {Z:TP} {X:ce} {f:Nat} (hJ:Z.J=Jb) (h : ∀g,g<=f->qg Z X g)
include hJ h
theorem akL(n:Nd):gM Z X (f+1) (.simple n) 28 [eC n]:=by
 intro st r Q R l hm j;refine ky kz Rl Kr (bq ?_)
 obtain⟨k,ln,x,o,ks⟩:=n;by_cases h4:k=4
 ·subst h4;replace hm:=pz hm;replace j:=pz j
  conv=>whnf
  refine Sd ?_;conv=>whnf
  have U:=aa6 o;rw[akx (a:=jT mR o) (b:= [61])];case hl=>simp only[ay,aF];omega
  case hx=>rfl
  case hy=>rfl
  conv=>whnf
  (refine((h f (ag f)).two (.mk 4 ln x o ks) 0 (jT mR o++ [61]) 0) st r _ _ l (mo hm) λst hp=> ?_;rw[hp] at hm j;clear hp;conv=>whnf)
  repeat' (refine⟨rfl,?_⟩;conv=>whnf)
  exact j _ rfl
 by_cases h3:k=3
 ·subst h3;replace hm:=pz hm;replace j:=pz j
  conv=>whnf
  intro hx;conv=>whnf
  generalize S:pe f (.bF false ks) st=K at hm j;have T:=j;have u:K.w<=r.w:=mo hm;refine qH 22 (λm a L=>∃(i:Nat) (M:aB),a=iS i/\m=ks.length-i/\i<=ks.length/\L=⟨0,[oP M,Fb (.mk 3 ln x o ks)]⟩/\pe (f-i) (.bF (decide (0<i)) (ks.drop i)) M=K) ks.length [] rfl ⟨0,st,rfl,rfl,fa _,rfl,S⟩ ?_;rintro m a f1 L ⟨i,st,rfl,rfl,hi,rfl,h1⟩;conv=>whnf
  refine b9 (λhc=> ?_) λhc=> ?_
  ·have hi:i<ks.length:=by
    have this:(i:Int)<((c7 ks).length:Nat):=of_decide_eq_true hc;rw[c8] at this;omega
   obtain⟨⟨k1,v,y,o1,z⟩,ht⟩ : ∃t,ks[i]? = some t:=⟨_,dx hi⟩;have N:=Cq hi (by rw[<-c8];exact hx);rw[vj ht] at h1;obtain⟨g,hg⟩ : ∃g,f-i=g+1:=by
    cases hg:f-i with
    | zero=>rw[hg] at h1;exact(qh h1 l u).elim
    | succ g=>exact⟨g,rfl⟩
   have O:f-(i+1)=g:=by omega
   rw[hg] at h1;have j:=h1;rw[<-h1] at u;have hm:=u;replace hm:=pz hm;replace j:=pz j
   conv=>whnf
   refine⟨rfl,i,_,rfl,jr ht,?_⟩;conv=>whnf
   refine b9 (λhc=> ?_) λhc=> ?_
   ·have A:0<i:=by have:(i:Int)>0:=of_decide_eq_true hc;omega
    rw[iP (decide_eq_true A)] at hm j;conv=>whnf
    refine⟨rfl,?_⟩;(conv=>whnf);(refine bQ (st:=st) hJ [Aw] s0 s0 l (mo hm) λst hp=> ?_;rw[hp] at hm j;clear hp;conv=>whnf)
    (refine((h g Om).dX (.mk k1 v y o1 z) 0) st r _ _ l (mo hm) λst hp=> ?_;rw[hp] at hm j;clear hp;conv=>whnf)
    refine⟨_,[],?_,rfl,i+1,st,N,rfl,hi,rfl,?_⟩;·omega
    rw[O];exact j
   have A : ¬ 0<i:=by have : ¬(i:Int)>0:=of_decide_eq_false hc;omega
   rw[iN (by simpa using A)] at hm j;conv=>whnf
   (refine((h g Om).dX (.mk k1 v y o1 z) 0) st r _ _ l (mo hm) λst hp=> ?_;rw[hp] at hm j;clear hp;conv=>whnf)
   refine⟨_,[],?_,rfl,i+1,st,N,rfl,hi,rfl,?_⟩;·omega
   rw[O];exact j
  have hi:i=ks.length:=by
   have this : ¬(i:Int)<((c7 ks).length:Nat):=of_decide_eq_false hc;rw[c8] at this;omega
  subst hi;rw[re] at h1;cases hg:f-ks.length with
  | zero=>rw[hg] at h1;exact(qh h1 l u).elim
  | succ g=>
    rw[hg] at h1;simp only[pe] at h1;subst h1;conv=>whnf
    exact T _ rfl
 by_cases s:k=19
 ·subst s;rcases ks with _ | ⟨⟨k1,v,y,o1,z⟩,ks⟩
  all_goals
   replace hm:=pz hm;replace j:=pz j
   conv=>whnf
   refine di (st:=st) (λhn hl V hk=> ?_) λst hb hk=> ?_;case refine_2=>
    rw[hk] at hm j;conv=>whnf
    exact j _ rfl
   rw[hk] at hm j;conv=>whnf
  ·simp only[ay,aF] at hl;omega
  
  refine⟨rfl,?_⟩;(conv=>whnf);(refine bQ (st:=st) hJ [[100,101,108,32]] s0 s0 l (mo hm) λst hp=> ?_;rw[hp] at hm j;clear hp;conv=>whnf)
  (refine⟨rfl,0,_,rfl,rfl,?_⟩;conv=>whnf)
  (refine((h f (ag f)).dX (.mk k1 v y o1 z) 9) st r _ _ l (mo hm) λst hp=> ?_;rw[hp] at hm j;clear hp;conv=>whnf)
  exact j _ rfl
 by_cases hk:k=2
 ·rcases hk with rfl
  all_goals
   replace hm:=pz hm;replace j:=pz j
   conv=>whnf
   (refine((h f (ag f)).row ks) st r _ _ l (mo hm) λst hp=> ?_;rw[hp] at hm j;clear hp;conv=>whnf)
   exact j _ rfl
 by_cases hk:k=10
 ·rcases hk with rfl
  all_goals
   replace hm:=pz hm;replace j:=pz j
   conv=>whnf
   (refine((h f (ag f)).maybe [114,101,116,117,114,110] (.mk 10 ln x o ks)) st r _ _ l (mo hm) λst hp=> ?_;rw[hp] at hm j;clear hp;conv=>whnf)
   exact j _ rfl
 by_cases hk:k=14
 ·rcases hk with rfl
  all_goals
   replace hm:=pz hm;replace j:=pz j
   conv=>whnf
   (refine((h f (ag f)).maybe [114,97,105,115,101] (.mk 14 ln x o ks)) st r _ _ l (mo hm) λst hp=> ?_;rw[hp] at hm j;clear hp;conv=>whnf)
   exact j _ rfl
 by_cases hk:k=20
 ·rcases hk with rfl
  all_goals
   replace hm:=pz hm;replace j:=pz j
   conv=>whnf
   (refine((h f (ag f)).maybe [97,115,115,101,114,116] (.mk 20 ln x o ks)) st r _ _ l (mo hm) λst hp=> ?_;rw[hp] at hm j;clear hp;conv=>whnf)
   exact j _ rfl
 by_cases hk:k=11
 ·rcases hk with rfl
  all_goals
   replace hm:=pz hm;replace j:=pz j
   conv=>whnf
   refine⟨rfl,?_⟩;(conv=>whnf);(refine bQ (st:=st) hJ [[112,97,115,115]] s0 s0 l (mo hm) λst hp=> ?_;rw[hp] at hm j;clear hp;conv=>whnf)
   exact j _ rfl
 by_cases hk:k=12
 ·rcases hk with rfl
  all_goals
   replace hm:=pz hm;replace j:=pz j
   conv=>whnf
   refine⟨rfl,?_⟩;(conv=>whnf);(refine bQ (st:=st) hJ [[98,114,101,97,107]] s0 s0 l (mo hm) λst hp=> ?_;rw[hp] at hm j;clear hp;conv=>whnf)
   exact j _ rfl
 by_cases hk:k=13
 ·rcases hk with rfl
  all_goals
   replace hm:=pz hm;replace j:=pz j
   conv=>whnf
   refine⟨rfl,?_⟩;(conv=>whnf);(refine bQ (st:=st) hJ [[99,111,110,116,105,110,117,101]] s0 s0 l (mo hm) λst hp=> ?_;rw[hp] at hm j;clear hp;conv=>whnf)
   exact j _ rfl
 by_cases hk:k=17
 ·rcases hk with rfl
  all_goals
   replace hm:=pz hm;replace j:=pz j
   conv=>whnf
   refine⟨rfl,?_⟩;(conv=>whnf);(refine bQ (st:=st) hJ [[103,108,111,98,97,108,32]] s0 s0 l (mo hm) λst hp=> ?_;rw[hp] at hm j;clear hp;conv=>whnf)
   (refine((h f (ag f)).row ks) st r _ _ l (mo hm) λst hp=> ?_;rw[hp] at hm j;clear hp;conv=>whnf)
   exact j _ rfl
 by_cases hk:k=18
 ·rcases hk with rfl
  all_goals
   replace hm:=pz hm;replace j:=pz j
   conv=>whnf
   refine⟨rfl,?_⟩;(conv=>whnf);(refine bQ (st:=st) hJ [[110,111,110,108,111,99,97,108,32]] s0 s0 l (mo hm) λst hp=> ?_;rw[hp] at hm j;clear hp;conv=>whnf)
   (refine((h f (ag f)).row ks) st r _ _ l (mo hm) λst hp=> ?_;rw[hp] at hm j;clear hp;conv=>whnf)
   exact j _ rfl
 have n2 : ¬k=2:=by omega
 have XS : ¬k=10:=by omega
 have C : ¬k=14:=by omega
 have D : ¬k=20:=by omega
 have E : ¬k=11:=by omega
 have F : ¬k=12:=by omega
 have G : ¬k=13:=by omega
 have H : ¬k=17:=by omega
 have I : ¬k=18:=by omega
 simp only[pe,Nd.kind,Nd.text,Nd.op,Nd.kids,Nat.reduceEqDiff,reduceCtorEq,or_self,or_true,true_or,or_false,false_or,and_true,true_and,and_false,false_and,↓reduceIte,h4,h3,s,n2,XS,C,D,E,F,G,H,I] at hm j;conv=>whnf
 repeat' (refine b9 (λhc=>by exfalso;simp at hc;omega) λhc=> ?_;conv=>whnf)
 have P:=j _ rfl;rw[MH] at P;exact P
end
section
open Go Go.RowKit
variable {Z:TP} {X:ce}
theorem akM:qg Z X 0:=
 ⟨λ_ _=>oI,λ_=>oI,λ_=>oI,λ_=>oI,λ_ _ _ _=>oI,λ_=>oI,λ_=>oI,λ_=>oI,λ_ _ _=>oI,λ_ _ _=>oI,λ_=>oI,λ_ _=>oI,λ_=>oI,λ_ _=>oI,λ_=>oI,λ_=>oI,λ_ _=>oI,λ_=>oI⟩
theorem akN(hJ:Z.J=Jb){f:Nat}(h : ∀g,g<=f->qg Z X g):qg Z X (f+1) where
 dX:=aky hJ h
 expr:=akC hJ h
 row:=λl=>aa7 hJ h l _ (.inl rfl)
 pW:=λl=>aa7 hJ h l _ (.inr rfl)
 two:=akz hJ h
 clauses:=akB hJ h
 bO:=λl=>aa8 hJ h l _ (.inl rfl)
 aa5:=λl=>aa8 hJ h l _ (.inr rfl)
 shown:=akD hJ h
 dC:=akE hJ h
 dK:=akF hJ h
 maybe:=akA hJ h
 block:=akG hJ h
 ifs:=akH hJ h
 tries:=akI hJ h
 stmt:=akJ hJ h
 head:=akK hJ h
 simple:=akL hJ h
theorem pal(hJ:Z.J=Jb)(f:Nat):qg Z X f:=by
 have H : ∀f g,g<=f->qg Z X g:=by
  intro f;induction f with
  | zero=>intro g hg;rw[Nat.le_zero.1 hg];exact akM
  | succ f ih=>
    intro g hg;rcases Nat.lt_or_ge g (f+1) with h | h
    ·exact ih g (Nat.le_of_lt_succ h)
    rw[Nat.le_antisymm hg h];exact akN hJ ih
 exact H f f (ag f)
end
section
open Go Go.RowKit
section
variable {Z:TP} {X:ce}
attribute [local irreducible] TC
theorem akO : ∀(N:Nat) (k:Nat) (l:Int) (x:List UInt8) (o:Nat) (ks:List Nd) (k':Nat) (l':Int) (x':List UInt8) (o':Nat) (db:List Nd),tU (.mk k l x o ks)<N->∀(Q:AV->List SV->Prop) (R:ae->Prop),Q (rS (.bool (kx false (.mk k l x o ks) (.mk k' l' x' o' db)))) []->TC Z TL X 16 [eC (.mk k l x o ks),eC (.mk k' l' x' o' db)] none Q R:=by
 intro N;induction N with
 | zero=>intro k l x o ks k' l' x' o' db h;exact absurd h (su _)
 | succ N ih=>
 intro k l x o ks k' l' x' o' db hN Q R j;refine ky kz Rl Kr (bq ?_)
 conv=>whnf
 have M:kx false (.mk k l x o ks) (.mk k' l' x' o' db)=(decide (k=k')&&decide (x=x')&&decide (o=o')&&decide (ks.length=db.length)&&(!false||decide (l=l'))&&sY false ks db):=rfl;rw[M] at j;generalize h1:((k:Int) != (k':Int))=O;cases O;case true=>
  have:k≠k':=by have h : ¬(k:Int)=(k':Int):=(by simpa using h1);omega
  rw[decide_eq_false this] at j;conv=>whnf
  exact j
 have u:k=k':=by have h:(k:Int)=(k':Int):=(by simpa using h1);omega
 conv=>whnf
 generalize h2:(!((pS x).toList==(pS x').toList))=P;have S : ∀a b:List UInt8,((pS a).toList==(pS b).toList)=decide (a=b):=λa b=>by
  have h : ∀l:List UInt8,(pS l).toList=l:=λl=>by simp[ByteArray.toList_eq]
  rw[h,h];by_cases e:a=b
  ·simp[e]
  rw[decide_eq_false e];simpa using e
 rw[S] at h2;cases P;case true=>
  have:x≠x':=by simpa using h2
  rw[decide_eq_true u,decide_eq_false this] at j;conv=>whnf
  exact j
 have w:x=x':=by simpa using h2
 conv=>whnf
 generalize h3:((o:Int) != (o':Int))=T;cases T;case true=>
  have:o≠o':=by have h : ¬(o:Int)=(o':Int):=(by simpa using h3);omega
  rw[decide_eq_true u,decide_eq_true w,decide_eq_false this] at j;conv=>whnf
  exact j
 have z:o=o':=by have h:(o:Int)=(o':Int):=(by simpa using h3);omega
 conv=>whnf
 intro U;conv=>whnf
 intro ju;conv=>whnf
 generalize h4:(((c7 ks).length:Int) != ((c7 db).length:Int))=V;rw[c8,c8] at h4;cases V;case true=>
  have:ks.length≠db.length:=by have h : ¬(ks.length:Int)=(db.length:Int):=(by simpa using h4);omega
  rw[decide_eq_true u,decide_eq_true w,decide_eq_true z,decide_eq_false this] at j;conv=>whnf
  exact j
 have W:ks.length=db.length:=by have h:(ks.length:Int)=(db.length:Int):=(by simpa using h4);omega
 rw[decide_eq_true u,decide_eq_true w,decide_eq_true z,decide_eq_true W] at j;have hb:(!false||decide (l=l'))=true:=rfl;rw[hb] at j;simp only[zq] at j;obtain⟨r,y⟩ : ∃r:List Nd->List Nd->Bool,r=sY false:=⟨_,rfl⟩;obtain⟨v,A⟩ : ∃v:Nd->Nd->Bool,v=kx false:=⟨_,rfl⟩;have Y : ∀ys,r [] ys=true:=λys=>by rw[y];rfl
 have gd : ∀(i:Nat) (t t':Nd),ks[i]? = some t->db[i]? = some t'->r (ks.drop i) (db.drop i)=(v t t'&&r (ks.drop (i+1)) (db.drop (i+1))):=λi t t' h h'=>by rw[y,A];exact aaG h h'
 rw[<-y] at j;conv=>whnf
 intro iw;conv=>whnf
 refine qH 37 (λm a s=>∃i:Nat,a=rS (.int .i64 (i:Nat))/\s=⟨0,[oN (nA k l x o ks),oN (nA k' l' x' o' db)]⟩/\m+i=ks.length/\r ks db=r (ks.drop i) (db.drop i)) ks.length [] rfl ⟨0,rfl,rfl,rfl,rfl⟩ ?_;rintro m a f s ⟨i,rfl,rfl,hm,hp⟩;conv=>whnf
 refine b9 (λhc=> ?_) λhc=> ?_
 ·have hi:i<ks.length:=by simp[c8] at hc;omega
  obtain⟨t,ht⟩ : ∃t,ks[i]? = some t:=⟨_,dx hi⟩;obtain⟨t',C⟩ : ∃t,db[i]? = some t:=⟨_,dx Om⟩;rw[gd i t t' ht C] at hp;have bn:=E5 (sq ht) (k:=k) (l:=l) (x:=x) (o:=o);obtain⟨k1,D,E,o1,F⟩:=t;obtain⟨G,H,I,o2,K⟩:=t';conv=>whnf
  refine⟨rfl,i,_,rfl,jr ht,?_⟩;conv=>whnf
  refine⟨rfl,i,_,rfl,jr C,?_⟩;conv=>whnf
  refine ih k1 D E o1 F G H I o2 K Om _ _ ?_;conv=>whnf
  rw[<-A];generalize yt:v (Nd.mk k1 D E o1 F) (Nd.mk G H I o2 K)=bs at hp⊢;cases bs
  ·rw[Bool.false_and] at hp;rw[hp] at j;conv=>whnf
   exact j
  rw[zq] at hp;have L:=iw;rw[c8] at L;conv=>whnf
  exact⟨m-1,[],Om,rfl,i+1,congrArg (λn=>rS (.int .i64 n)) (Cj hi L),rfl,Om,hp⟩
 have hi:i=ks.length:=by simp[c8] at hc;omega
 subst hi;have hp:r ks db=true:=by rw[hp,re];exact Y _
 rw[hp] at j;conv=>whnf
 exact j
theorem akP : ∀(N:Nat) (k:Nat) (l:Int) (x:List UInt8) (o:Nat) (ks:List Nd),N<=1000->∀(Q:AV->List SV->Prop) (R:ae->Prop),Q (rS (.bool (nq N (.mk k l x o ks)))) []->TC Z TL X 13 [eC (.mk k l x o ks),iS N] none Q R:=by
 intro N;induction N with
 | zero=>
   intro k l x o ks _ Q R b;refine ky kz Rl Kr (bq ?_)
   conv=>whnf
   exact b
 | succ N ih=>
 intro k l x o ks u Q R b;refine ky kz Rl Kr (bq ?_)
 conv=>whnf
 intro hx;conv=>whnf
 have hh:nq (N+1) (.mk k l x o ks)=ks.any (nq N):=rfl;rw[hh] at b;refine qH 12 (λm a s=>∃i:Nat,a=iS i/\s=⟨0,[Fb (.mk k l x o ks)]⟩/\m+i=ks.length/\ks.any (nq N)=(ks.drop i).any (nq N)) ks.length [] rfl ⟨0,rfl,rfl,rfl,rfl⟩ ?_;rintro m a f s ⟨i,rfl,rfl,v,hp⟩;conv=>whnf
 refine b9 (λhc=> ?_) λhc=> ?_
 ·have hi:i<ks.length:=by simp[c8] at hc;omega
  obtain⟨⟨k1,j,n,o1,r⟩,ht⟩ : ∃t,ks[i]? = some t:=⟨_,dx hi⟩;rw[vj ht,List.any_cons] at hp;conv=>whnf
  refine⟨rfl,i,_,rfl,jr ht,?_⟩;conv=>whnf
  have hw:rS (.int .i64 (IntKind.i64.wrap (((N+1:Nat):Int)-Int.ofNat 1)))=iS N:=by
   show rS (.int .i64 (IntKind.i64.wrap (((N+1:Nat):Int)-1)))=_;rw[nh Om Om];congr 4
   omega
  refine(show TC Z TL X 13 [eC (.mk k1 j n o1 r),rS (.int .i64 (IntKind.i64.wrap (((N+1:Nat):Int)-Int.ofNat 1)))] none _ _ from ?_);rw[hw];refine ih k1 j n o1 r Om _ _ ?_;conv=>whnf
  refine b9 (λhb=> ?_) λhb=> ?_
  ·rw[hb,Bool.true_or] at hp;rw[hp] at b;conv=>whnf
   exact b
  rw[hb,Bool.false_or] at hp;conv=>whnf
  exact⟨m-1,[],Om,rfl,i+1,Cq hi (by rw[<-c8];exact hx),rfl,Om,hp⟩
 have hi:i=ks.length:=by simp[c8] at hc;omega
 subst hi;rw[re] at hp;rw[hp] at b;conv=>whnf
 exact b
end
theorem akQ{K:CH}{A B:Nat->Prop}(hA : ∀b,A b->b<K.nx)(i : ∀b,B b->b<K.nx){a b:Nd}{os os':List ae}(h:fk K A (lr a) os)(h':fk K B (lr b) os'):bw TL 16 [.agg os.toArray, .agg os'.toArray] K λv K'=>aI K K'/\v= .bool (kx false a b):=by
 obtain⟨k,l,x,o,ks⟩:=a;obtain⟨k',l',x',o',db⟩:=b;obtain⟨w,_,rfl,hw,hn⟩:=w7 (rest:= []) (by simpa using h);cases hn;obtain⟨w',_,rfl,j,hn⟩:=w7 (rest:= []) (by simpa using h');cases hn;have e:=Ck hA (k:=k) (l:=l) (x:=x) (o:=o) hw;have r2:=Ck i (k:=k') (l:=l') (x:=x') (o:=o') j;refine(IE (X:=pX) (akO (tU (.mk k l x o ks)+1) k l x o ks k' l' x' o' db (nX _) (λa _=>a=rS (.bool (kx false (.mk k l x o ks) (.mk k' l' x' o' db)))) _ rfl) ?_).mono λv K' ⟨h1,a,m,h2,h3⟩=>⟨h1,by subst h3;exact ox h2 rfl⟩;cases e with | cons e _=>
 cases r2 with | cons r2 _=>
 exact .cons e (.cons r2 .nil)
theorem akR{K:CH}{A:Nat->Prop}(hA : ∀b,A b->b<K.nx){a:Nd}{os:List ae}(h:fk K A (lr a) os):bw TL 13 [.agg os.toArray, .int .i64 60] K λv K'=>aI K K'/\v= .bool (nq 60 a):=by
 obtain⟨k,l,x,o,ks⟩:=a;obtain⟨w,_,rfl,hw,hn⟩:=w7 (rest:= []) (by simpa using h);cases hn;have e:=Ck hA (k:=k) (l:=l) (x:=x) (o:=o) hw;refine(IE (X:=pX) (akP 60 k l x o ks Om (λa _=>a=rS (.bool (nq 60 (.mk k l x o ks)))) _ rfl) ?_).mono λv K' ⟨h1,a,i,h2,h3⟩=>⟨h1,by subst h3;exact ox h2 rfl⟩;cases e with | cons e _=>
 exact .cons e (.cons (Cf rfl) .nil)
def ZJ:TP:=⟨λ_=>False,λ_=> .dead,Jb,akm⟩
theorem kS.row{K:CH}{p:Nat}{b:ae}{st:aB}(h:kS K p b st){q:Nat}(i:rY b q):q<K.nx/\q≠p:=by
 obtain⟨a,h⟩:=h;obtain⟨n,c,rfl⟩:=i;rcases h.buf with ⟨_,e⟩ | ⟨j,e,_,h3,h4,_⟩
 ·cases e
 cases e;exact⟨h4,h3⟩
theorem akS{K:CH}{p:Nat}{b:ae}{st:aB}{n:Nd}{f:Nat}{A:Nat->Prop}{os:List ae}(j:kS K p b st)(hA : ∀q,A q->q<K.nx/\q≠p/\sZ b q)(hs:fk K A (lr n) os)(u:(pe f (.stmt n) st).w<=nu) :
 bw TL 14 [.pointer (some ⟨p,0,none⟩), .agg os.toArray] K λv K'=>v= .tuple #[]/\∃b',kS K' p b' (pe f (.stmt n) st)/\lu p K b K' b':=by
 have h:=(pal (Z:=ZJ) (X:=pX) rfl f).stmt n st (pe f (.stmt n) st) (λa t=>a= .eF []/\t=lW (pe f (.stmt n) st)) (λ_=>False) u (ag _) (λN e=>⟨rfl,by rw[e]⟩);have y : ∀q,rY b q->q<K.nx/\some p≠some q:=λq i=>⟨(j.row i).1,λe=>(j.row i).2 (by cases e;rfl)⟩;obtain⟨z,C⟩:=aaY (Z:=ZJ) rfl (E:=E0 (some p) (rY b)) j;have D : ∀q,A q->dw K (E0 (some p) (rY b)) q:=λq i=>by
  obtain⟨h1,h2,h3⟩:=hA q i;refine⟨h1,λ⟨n,c,e⟩=>h3 _ _ _ _ e,λ_ e=>(by cases e),λo e=> ?_⟩;have e:(if o=0 then some p else none)=some q:=e;split at e;·cases e;exact h2 rfl
  cases e
 have hv:R2 (bX K (E0 (some p) (rY b))) (.ptr 0 0:: [eC n]) [.pointer (some ⟨p,0,none⟩), .agg os.toArray]:=by
  refine .cons (.ptr rfl) (.cons ?_ .nil);obtain⟨k,l,x,o,ks⟩:=n;obtain⟨w,_,rfl,hw,hn⟩:=w7 (rest:= []) (by simpa using hs);cases hn;have m:fM K (dw K (E0 (some p) (rY b))) (.row 5 (c7 ks)) w:=hw.mv λb hb=>⟨D b hb,rfl⟩;exact .r (.agg (vs:= [.int .i64 (k:Nat), .int .i64 l, .string ⟨⟨x⟩⟩, .int .i64 (o:Nat),w]) (.cons (.s (.sc rfl)) (.cons (.s (.sc rfl)) (.cons (.s (.sc rfl)) (.cons (.s (.sc rfl)) (.cons (.s m) .nil))))))
 rcases h K (some p) (rY b) (rY b) _ y (λ_ h=>h) (λ_ h=>h.elim) hv z C with h | ⟨n,v,H',_,h⟩
 ·refine h.mono λv K' ⟨h1,h2,li,W',a,t,hw,h3,hc,h5,F,G,H⟩=> ?_;subst G H;obtain⟨O,b',I,_,L,M⟩:=aaX (Z:=ZJ) rfl h5 F;cases I;refine⟨?_,b',L,h1,λl hl hp hn=>h2 l hl (λe=>hp (by cases e;rfl)) λ⟨n,c,e⟩=>hn _ _ _ _ e,λl hl hn=>M l λm=> ?_⟩
  ·cases h3 with
   | eF h3=>cases h3;rfl
  rcases(hw.w l m).2 with ⟨n,c,e⟩ | g
  ·exact hn _ _ _ _ e
  exact absurd hl (Nat.not_lt.2 g)
 exact h.2.2.elim
theorem akT{q:Nat}{H:CH}{out:List UInt8}(a:H.ob q= .cells (out.map λc=> .int .u8 c.toNat) 5 .gr)(b:0<out.length)(hl:out.length<=2305843009213693952) :
 Gi 5 H (.pointer (some ⟨q,0,none⟩)) (.int .i64 (out.length:Nat))=some (.string ⟨⟨out⟩⟩,H.set q .dead):=by
 have h1 : ¬(out.length:Int)=0:=by omega
 simp only[Gi,iN h1,a];rw[iP (by simp[Kd.eM];omega)];simp[List.take_of_length_le,aaL]
theorem akU{K:CH}{p:Nat}{a b d r x:ae}{out:List UInt8}(h:Cm K p a b d r x out)(hl:out.length<=2305843009213693952) :
 bw TL 15 [.pointer (some ⟨p,0,none⟩)] K λv K'=>v= .string ⟨⟨out⟩⟩/\K.nx<=K'.nx/\∀l,l<K.nx->sZ b l->K'.ob l=K.ob l:=by
 have i:=h.ob;refine y7 Rl Kr (bq ?_);rcases h.buf with ⟨rfl,rfl⟩ | ⟨q,rfl,j,h1,h2,h3⟩
 ·refine rn (an @i @aj0) ?_;exactλ_ _ _=>trivial
 have m : ¬out.length=0:=by omega
 refine rn (jI @i @j @m (akT j h3 hl)) ?_;intro l _ hn;have:l≠q:=λe=>hn 0 none _ _ (by rw[e]);simp[this]
theorem kS.hx{K K':CH}{p:Nat}{b:ae}{st:aB}(h:kS K p b st)(hx:aI K K'):kS K' p b st:=by
 obtain⟨a,h⟩:=h;refine⟨a,h.own,by rw[hx.ob p h.pl];exact h.ob,?_,ek h.pl hx.nx⟩;rcases h.buf with g | ⟨q,i,j,k,e,l⟩
 ·exact .inl g
 exact .inr ⟨q,i,by rw[hx.ob q e];exact j,k,ek e hx.nx,l⟩
theorem lu.hx{p:Nat}{K a e:CH}{b i:ae}(h:lu p K b a i)(hx:aI a e):lu p K b e i:=
 ⟨cM h.nx hx.nx,λl h1 h2 h3=>(hx.ob l (ek h1 h.nx)).trans (h.ob l h1 h2 h3),h.row⟩
abbrev tY:aB:=⟨[],0,0,false,ag _⟩
def jU (f:Nat)(n:Nd):aB:=pe f (.a9 n.kids) tY
def gD(f:Nat)(n:Nd):List UInt8×Nat:=if nq 60 n=true then ([],3) else if (jU f n).bad=true then ([],3) else
 if (cQ (jU f n).out).2.2=0/\kx false (cQ (jU f n).out).1 n=true then ((jU f n).out,0) else ([],3)
theorem aa'{H:CH}{A:Nat->Prop}(hA : ∀q,A q->q<H.nx){n:Nd}{os:List ae}(hs:fk H A (lr n) os){f:Nat}(C:nq 60 n=false->(jU f n).w<=nu) :
 bw TL 8 [.agg os.toArray] H λv K=>aI H K/\v= .tuple #[.string ⟨⟨(gD f n).1⟩⟩, .int .i64 ((gD f n).2:Nat)]:=by
 obtain⟨k,l,x,o,ks⟩:=n;obtain⟨w,_,rfl,hw,hn⟩:=w7 (rest:= []) (by simpa using hs);cases hn;obtain⟨q,rfl,Hr,hq0,Vd⟩:=R5 hw;have hsn:fk (H.new (.cells [.int .i64 k, .int .i64 l, .string ⟨⟨x⟩⟩, .int .i64 o, .slice q ks.length ks.length] 26 .ex)) A (lr (.mk k l x o ks)) [.int .i64 k, .int .i64 l, .string ⟨⟨x⟩⟩, .int .i64 o, .slice q ks.length ks.length]:=hs.mv λb hb=>⟨hb,kN (by have:=hA b hb;omega)⟩;refine y7 Rl Kr (bq ?_);refine dh ?_;refine(akR (λb hb=>by rw[gN];have:=hA b hb;omega) hsn).mono ?_;rintro v m ⟨gB,rfl⟩;have HH:H.nx+1<=m.nx:=gB.nx;have MN:aI H m:=((aI.refl H).new _).trans gB;have hr:m.ob H.nx= .cells [.int .i64 k, .int .i64 l, .string ⟨⟨x⟩⟩, .int .i64 o, .slice q ks.length ks.length] 26 .ex:=by
  rw[gB.ob H.nx (nX _)];exact fZ.trans (iP rfl)
 cases I:nq 60 (.mk k l x o ks) with
 | true=>
   have es:gD f (.mk k l x o ks)=([],3):=iP I;refine rn @I ?_;rw[es];exact⟨MN,rfl⟩
 | false=>
 have C:=C I;refine rn (an @I @hr) ?_;have cx:jU f (.mk k l x o ks)=pe f (.a9 ks) tY:=rfl;generalize hS:jU f (.mk k l x o ks)=a at cx C;have Mw:kS (m.new (.cells [.pointer none, .slice none 0 0, .int .i64 0, .int .i64 20000, .bool false] 46 .ex)) m.nx (.slice none 0 0) tY:=
  ⟨.pointer none, .inl rfl,fZ.trans (iP rfl), .inl ⟨rfl,rfl⟩,nX _⟩
 generalize O:m.new (.cells [.pointer none, .slice none 0 0, .int .i64 0, .int .i64 20000, .bool false] 46 .ex)=L at Mw;have nc:aI m L:=by rw[<-O];exact(aI.refl m).new _
 have M:=MN.trans nc;have IF:L.nx=m.nx+1:=by rw[<-O];rfl
 refine dB.mono (Q:=λx fr' K'=>(x= .normal\/x= .exit 0)/\fr' 1= .pointer (some ⟨H.nx,0,none⟩)/\fr' 4= .pointer (some ⟨m.nx,0,none⟩)/\∃r,kS K' m.nx r a/\lu m.nx L (.slice none 0 0) K' r) ?_ ?_
 ·refine sM (λn fr j=>∃i r aQ,n=ks.length-i/\i<=ks.length/\fr 18= .int .i64 i/\kS j m.nx r aQ/\lu m.nx L (.slice none 0 0) j r/\pe (f-i) (.a9 (ks.drop i)) aQ=a) (n:=ks.length) ⟨0,_,tY,rfl,fa _,by(((first | assumption | simp only[cm,kj,Nat.reduceEqDiff,↓reduceIte]))<;>rfl),Mw, .refl,cx.symm⟩ ?_;rintro n fr j ⟨i,r,st,rfl,hi,MO,vg,s,h1⟩ bp;obtain⟨D,u⟩:=vg;have P:=u.ob;have eL:=u.pl;have LN : ¬m.nx=j.nx:=by omega
  by_cases bn:i<ks.length
  ·obtain⟨t,ht⟩ : ∃t,ks[i]? = some t:=⟨_,dx bn⟩;obtain⟨qb,cs,e,kd,rfl,Eb,R7,eE,mD,R,HC⟩:=Vd i t ht;have hqH:=hA qb Eb;have xc : ∀l,l<L.nx->sZ r l:=λl hl=>s.row l hl λ_ _ _ _ e=>by cases e
   have qD:j.ob qb= .cells cs e kd:=by
    rw[s.ob qb Om Om (λ_ _ _ _ e=>by cases e),M.ob qb hqH];exact R7
   rw[vj ht] at h1;obtain⟨g,hg⟩ : ∃g,f-i=g+1:=by
    cases hg:f-i with
    | zero=>rw[hg] at h1;exact(qh h1 (aD:=a) C (ag _)).elim
    | succ g=>exact⟨g,rfl⟩
   rw[hg] at h1;obtain⟨k1,l1,x1,o1,S,T,U,Sk⟩:=E7 HC;cases y:st.bad with
   | true=>
     have G:j.ob m.nx= .cells [D,r, .int .i64 st.deep, .int .i64 (20000-(st.w:Int)), .bool true] 46 .ex:=by rw[P,y]
     simp only[pe,y,↓reduceIte] at h1;refine rn (zv @bp @MO @qD @G @Sk @R @mD @LN) ?_;refine⟨.inr trivial,r,?_,?_⟩;·rw[<-h1];exact kS.hx ⟨D,u⟩ (((aI.refl j).new _).set (ag _) _)
     exact s.hx (((aI.refl j).new _).set (ag _) _)
   | false=>
     have G:j.ob m.nx= .cells [D,r, .int .i64 st.deep, .int .i64 (20000-(st.w:Int)), .bool false] 46 .ex:=by rw[P,y]
     simp only[pe,y,aM,↓reduceIte] at h1;refine rn (zv @bp @MO @qD @G @Sk @R @mD @LN) ?_;have AA:aI j ((j.new (.cells [.int .i64 0, .int .i64 0, .string ⟨⟨[]⟩⟩, .int .i64 0, .slice none 0 0] 26 .ex)).set j.nx (.cells [.int .i64 k1, .int .i64 l1, .string x1, .int .i64 o1, .slice S T U] 26 .ex)):=((aI.refl j).new _).set (ag _) _;have MP:=s.nx;have EF:(pe g (.stmt t) st).w<=nu:=by
      rw[<-h1] at C;exact cM (aaV _ _ _) C
     have Eo:=HC.mv (K':=(j.new (.cells [.int .i64 0, .int .i64 0, .string ⟨⟨[]⟩⟩, .int .i64 0, .slice none 0 0] 26 .ex)).set j.nx (.cells [.int .i64 k1, .int .i64 l1, .string x1, .int .i64 o1, .slice S T U] 26 .ex)) (A':=A) λb hb=>⟨hb,by
      have:=hA b hb;rw[AA.ob b Om,s.ob b Om Om (λ_ _ _ _ e=>by cases e),M.ob b this]⟩
     rw[Sk] at Eo;refine(akS (kS.hx ⟨D,u⟩ AA) (A:=A) (λb hb=> ?_) Eo EF).mono ?_;·have:=hA b hb;exact⟨ek (show b<j.nx by omega) AA.nx,Om,xc b Om⟩
     rintro v K5 ⟨rfl,b2,akW,pU⟩;have tJ:IntKind.i64.wrap ((i:Int)+1)=((i+1:Nat):Int):=by
      rw[nM] at Hr;rw[nh Om Om];rfl
     refine rn (mY @bp @MO @tJ) ?_;refine⟨_,?_,i+1,b2,_,rfl,bn,rfl,akW,(s.hx AA).trans pU,?_⟩;·omega
     have e:f-(i+1)=g:=by omega
     rw[e];exact h1
  have hi:i=ks.length:=by omega
  subst hi;rw[re] at h1;cases hg:f-ks.length with
  | zero=>rw[hg] at h1;exact(qh h1 (aD:=a) C (ag _)).elim
  | succ g=>
    rw[hg] at h1;simp only[pe] at h1;refine rn (an @bp @MO) ?_;refine⟨.inr trivial,r,?_,s⟩;rw[<-h1];exact⟨D,u⟩
 rintro x0 fr j ⟨iw,f1,f4,r,⟨D,u⟩,s⟩;have P:=u.ob;have eL:=u.pl;have MP:=s.nx;have Sn:aI H j:=⟨by have:=M.nx;omega,λb hb=>by rw[s.ob b (by have:=M.nx;omega) Om (λ_ _ _ _ e=>by cases e),M.ob b hb]⟩;have hr3:j.ob H.nx= .cells [.int .i64 k, .int .i64 l, .string ⟨⟨x⟩⟩, .int .i64 o, .slice q ks.length ks.length] 26 .ex:=by
  rw[s.ob H.nx Om Om (λ_ _ _ _ e=>by cases e),nc.ob H.nx Om];exact hr
 have sD : ∀p:Prop,(x0= .normal\/x0= .exit 0):=λ_=>iw;cases y:a.bad with
 | true=>
   have es:gD f (.mk k l x o ks)=([],3):=by
    unfold gD;rw[iN (by rw[I];decide),hS,iP y]
   have G:j.ob m.nx= .cells [D,r, .int .i64 a.deep, .int .i64 (20000-(a.w:Int)), .bool true] 46 .ex:=by rw[P,y]
   rw[es];rcases iw with rfl | rfl
   all_goals
    refine rn (mY @f1 @f4 @G) ?_;exact⟨Sn,rfl⟩
 | false=>
   have G:j.ob m.nx= .cells [D,r, .int .i64 a.deep, .int .i64 (20000-(a.w:Int)), .bool false] 46 .ex:=by rw[P,y]
   have BJ:a.out.length<=2305843009213693952:=cM a.h C;rcases iw with rfl | rfl
   all_goals
    refine rn (mY @f1 @f4 @G) ?_;refine(akU u BJ).mono ?_;rintro v z ⟨rfl,Sr,Ln⟩;have xc : ∀l,l<L.nx->sZ r l:=λl hl=>s.row l hl λ_ _ _ _ e=>by cases e
    have akX:aI H z:=⟨cM Sn.nx Sr,λb hb=>by
     have:=M.nx;rw[Ln b Om (xc b Om),Sn.ob b hb]⟩
    have RH:z.ob H.nx= .cells [.int .i64 k, .int .i64 l, .string ⟨⟨x⟩⟩, .int .i64 o, .slice q ks.length ks.length] 26 .ex:=by
     rw[Ln H.nx Om (xc _ Om)];exact hr3
    have pv:(⟨⟨a.out⟩⟩:ByteArray).size=a.out.length:=rfl;refine rn (mY @f1 @f4 @pv) ?_;have V:aI H (z.new (.cells (qf a.out) 5 .gr)):=akX.new _;have Fg:fU 1 (mM .u8) (z.new (.cells (qf a.out) 5 .gr)) (some ⟨z.nx,0,none⟩) a.out.length (mh a.out):=RT (by rw[gN];omega) (fZ.trans (iP rfl)) (by rw[nM];omega);have Ms:(z.new (.cells (qf a.out) 5 .gr)).ob H.nx= .cells [.int .i64 k, .int .i64 l, .string ⟨⟨x⟩⟩, .int .i64 o, .slice q ks.length ks.length] 26 .ex:=by
     rw[kN Om];exact RH
    have hn5:H.nx+1<(z.new (.cells (qf a.out) 5 .gr)).nx:=by rw[gN];omega
    show bw TL 7 _ (z.new (.cells (qf a.out) 5 .gr)) _;generalize z.new (.cells (qf a.out) 5 .gr)=K5 at V Fg Ms hn5;refine(ME Fg).mono ?_;rintro v E ⟨vs,rfl,AB,os6,rfl,Ss⟩;have hn6:=AB.nx;have W:E.ob H.nx= .cells [.int .i64 k, .int .i64 l, .string ⟨⟨x⟩⟩, .int .i64 o, .slice q ks.length ks.length] 26 .ex:=by
     rw[AB.ob H.nx Om];exact Ms
    have MQ:=V.trans AB;obtain⟨k6,l6,x6,o6,S,T,U,rfl⟩:=E7 Ss;have MR:gD f (.mk k l x o ks)=if (cQ a.out).2.2=0/\kx false (cQ a.out).1 (.mk k l x o ks)=true then (a.out,0) else ([],3):=by
     unfold gD;rw[iN (by rw[I];decide),hS,iN (by rw[y];decide)]
    generalize (cQ a.out).1=m6 at Ss MR;generalize (cQ a.out).2.1=ln6 at *;generalize (cQ a.out).2.2=er6 at *;by_cases he:er6=0
    ·subst he;refine rn (mY @f1 @f4 @W) ?_;have N:aI E ((E.new (.cells [.int .i64 0, .int .i64 0, .string ⟨⟨[]⟩⟩, .int .i64 0, .slice none 0 0] 26 .ex)).set E.nx (.cells [.int .i64 k6, .int .i64 l6, .string x6, .int .i64 o6, .slice S T U] 26 .ex)):=((aI.refl E).new _).set (ag _) _;generalize (E.new (.cells [.int .i64 0, .int .i64 0, .string ⟨⟨[]⟩⟩, .int .i64 0, .slice none 0 0] 26 .ex)).set E.nx (.cells [.int .i64 k6, .int .i64 l6, .string x6, .int .i64 o6, .slice S T U] 26 .ex)=K7 at N⊢;have hn7:=N.nx;have yt:=Ss.mv (K':=K7) (A':=λb=>K5.nx<=b/\b<E.nx) λb hb=>⟨hb,N.ob b hb.2⟩;have akY:=hs.mv (K':=K7) (A':=A) λb hb=>⟨hb,by have:=hA b hb;rw[N.ob b Om,MQ.ob b this]⟩;refine(akQ (λb hb=>ek hb.2 hn7) (λb hb=>by have:=hA b hb;omega) yt akY).mono ?_;rintro v K8 ⟨Fh,rfl⟩;cases Y:kx false m6 (.mk k l x o ks) with
     | true=>
       have es:gD f (.mk k l x o ks)=(a.out,0):=by rw[MR,iP ⟨rfl,Y⟩]
       rw[es];refine rn (an @f1 @f4) ?_;exact⟨(MQ.trans N).trans Fh,rfl⟩
     | false=>
       have es:gD f (.mk k l x o ks)=([],3):=by rw[MR,iN (λh=>by rw[Y] at h;exact absurd h.2 de)]
       rw[es];refine rn (an @f1 @f4) ?_;exact⟨(MQ.trans N).trans Fh,rfl⟩
    have es:gD f (.mk k l x o ks)=([],3):=by rw[MR,iN (λh=>he h.1)]
    rw[es];refine rn (jI @f1 @f4 @W @he) ?_;exact⟨(MQ.new _).set Om _,rfl⟩
end
section
theorem aE{k:Nat}{l:Int}{x:List UInt8}{o:Nat}{ks:List Nd}:(Nd.mk k l x o ks).kind=k:=rfl
theorem dz{k:Nat}{l:Int}{x:List UInt8}{o:Nat}{ks:List Nd}:(Nd.mk k l x o ks).text=x:=rfl
theorem fy{k:Nat}{l:Int}{x:List UInt8}{o:Nat}{ks:List Nd}:(Nd.mk k l x o ks).op=o:=rfl
theorem am{k:Nat}{l:Int}{x:List UInt8}{o:Nat}{ks:List Nd}:(Nd.mk k l x o ks).kids=ks:=rfl
def SR.me:SR->Nat
 | .at n _=>16*aq n.kids+7
 | .expr n=>16*aq n.kids+5
 | .dK n=>16*aq n.kids+4
 | .dC n=>16*aq n.kids+4
 | .two n _ _ _=>16*aq n.kids+2
 | .shown n=>16*aq n.kids+2
 | .maybe _ n=>16*aq n.kids+2
 | .block n=>16*aq n.kids+1
 | .ifs _ n=>16*aq n.kids+2
 | .tries n=>16*aq n.kids+1
 | .stmt n=>16*aq n.kids+10
 | .head n=>16*aq n.kids+5
 | .simple n=>16*aq n.kids+4
 | .bc _ l | .clauses l | .bO _ l | .cW l | .a9 l | .cR l | .bF _ l=>16*aq l
theorem aL(n:Nd):qe n=aq n.kids+1:=by cases n;rfl
mutual
def nl:Nd->Nd
 | .mk k _ x o ks=> .mk k 0 x o (aK ks)
def aK:List Nd->List Nd
 | []=> []
 | n::ks=>nl n::aK ks
end
theorem jG : ∀ks:List Nd,(aK ks).length=ks.length
 | []=>rfl
 | n::ks=>by simp only[aK,ay,jG ks]
theorem jV(n:Nd):(nl n).kind=n.kind:=by cases n;rfl
theorem ly(n:Nd):(nl n).text=n.text:=by cases n;rfl
theorem kU(n:Nd):(nl n).op=n.op:=by cases n;rfl
theorem kA(n:Nd):(nl n).kids=aK n.kids:=by cases n;rfl
theorem lz(n:Nd):gC (nl n)=gC n:=by
 unfold gC;rw[jV,kU]
mutual
theorem AC : ∀a b:Nd,kx false a b=true↔nl a=nl b
 | .mk k l x o ks, .mk k' l' x' o' db=>by
   have h:=abc ks db;simp only[kx,nl,eZ,decide_eq_true_eq,Bool.not_false,Bool.true_or,and_true,Nd.mk.injEq,true_and];constructor;·rintro⟨⟨⟨⟨rfl,rfl⟩,rfl⟩,h4⟩,h5⟩;exact⟨rfl,rfl,rfl,(h h4).1 h5⟩
   rintro⟨rfl,rfl,rfl,h5⟩;have h4:ks.length=db.length:=by rw[<-jG ks,<-jG db,h5]
   exact⟨⟨⟨⟨rfl,rfl⟩,rfl⟩,h4⟩,(h h4).2 h5⟩
theorem abc : ∀a b:List Nd,a.length=b.length->(sY false a b=true↔aK a=aK b)
 | [],[],_=>by simp[sY,aK]
 | [],_::_,h=>by cases h
 | _::_,[],h=>by cases h
 | n::a,m::b,h=>by
   simp only[sY,aK,eZ,List.cons.injEq];rw[AC n m,abc a b (by simpa using h)]
end
def akZ (n a b:Nat)(st:aB):aB:=if st.bad=true then st else if n<b then st.sb else if a<n then st.sb else st
theorem lA(ks:List Nd)(a b:Nat)(st:aB):cJ ks a b st=akZ ks.length a b st:=rfl
def SR.nl:SR->SR
 | .at n a=> .at (Can.nl n) a
 | .expr n=> .expr (Can.nl n)
 | .dK n=> .dK (Can.nl n)
 | .dC n=> .dC (Can.nl n)
 | .two n l s r=> .two (Can.nl n) l s r
 | .shown n=> .shown (Can.nl n)
 | .maybe s n=> .maybe s (Can.nl n)
 | .block n=> .block (Can.nl n)
 | .ifs s n=> .ifs s (Can.nl n)
 | .tries n=> .tries (Can.nl n)
 | .stmt n=> .stmt (Can.nl n)
 | .head n=> .head (Can.nl n)
 | .simple n=> .simple (Can.nl n)
 | .bc b l=> .bc b (aK l)
 | .clauses l=> .clauses (aK l)
 | .bO b l=> .bO b (aK l)
 | .cW l=> .cW (aK l)
 | .a9 l=> .a9 (aK l)
 | .cR l=> .cR (aK l)
 | .bF b l=> .bF b (aK l)
theorem abd : ∀ks:List Nd,(aK ks).getLast? = ks.getLast?.map nl
 | []=>rfl
 | [n]=>rfl
 | n::m::ks=>by
   have:=abd (m::ks);simp only[aK,iu] at this⊢;exact this
theorem abe : ∀(f:Nat) (r:SR) (st:aB),pe f r.nl st=pe f r st:=by
 intro f;induction f with
 | zero=>intro r st;rfl
 | succ f ih=>
   have i1 : ∀n a st,pe f (.at (nl n) a) st=pe f (.at n a) st:=λn a st=>ih (.at n a) st;have i2 : ∀n st,pe f (.expr (nl n)) st=pe f (.expr n) st:=λn st=>ih (.expr n) st;have i3 : ∀n st,pe f (.dK (nl n)) st=pe f (.dK n) st:=λn st=>ih (.dK n) st;have i4 : ∀n st,pe f (.dC (nl n)) st=pe f (.dC n) st:=λn st=>ih (.dC n) st;have i5 : ∀n l s r st,pe f (.two (nl n) l s r) st=pe f (.two n l s r) st:=λn l s r st=>ih (.two n l s r) st;have i6 : ∀n st,pe f (.shown (nl n)) st=pe f (.shown n) st:=λn st=>ih (.shown n) st;have i7 : ∀s n st,pe f (.maybe s (nl n)) st=pe f (.maybe s n) st:=λs n st=>ih (.maybe s n) st;have i8 : ∀n st,pe f (.block (nl n)) st=pe f (.block n) st:=λn st=>ih (.block n) st;have i9 : ∀s n st,pe f (.ifs s (nl n)) st=pe f (.ifs s n) st:=λs n st=>ih (.ifs s n) st;have i10 : ∀n st,pe f (.tries (nl n)) st=pe f (.tries n) st:=λn st=>ih (.tries n) st;have i11 : ∀n st,pe f (.stmt (nl n)) st=pe f (.stmt n) st:=λn st=>ih (.stmt n) st;have i12 : ∀n st,pe f (.head (nl n)) st=pe f (.head n) st:=λn st=>ih (.head n) st;have i13 : ∀n st,pe f (.simple (nl n)) st=pe f (.simple n) st:=λn st=>ih (.simple n) st;have i : ∀b l st,pe f (.bc b (aK l)) st=pe f (.bc b l) st:=λb l st=>ih (.bc b l) st;have j : ∀l st,pe f (.clauses (aK l)) st=pe f (.clauses l) st:=λl st=>ih (.clauses l) st;have k : ∀b l st,pe f (.bO b (aK l)) st=pe f (.bO b l) st:=λb l st=>ih (.bO b l) st;have o : ∀b n m st,pe f (.bO b [nl n,nl m]) st=pe f (.bO b [n,m]) st:=λb n m st=>ih (.bO b [n,m]) st;have p : ∀l st,pe f (.cW (aK l)) st=pe f (.cW l) st:=λl st=>ih (.cW l) st;have q : ∀l st,pe f (.a9 (aK l)) st=pe f (.a9 l) st:=λl st=>ih (.a9 l) st;have u : ∀l st,pe f (.cR (aK l)) st=pe f (.cR l) st:=λl st=>ih (.cR l) st;have v : ∀b l st,pe f (.bF b (aK l)) st=pe f (.bF b l) st:=λb l st=>ih (.bF b l) st;have w : ∀t a st,pe f (.bc t [nl a]) st=pe f (.bc t [a]) st:=λt a st=>ih (.bc t [a]) st;have x : ∀t a b st,pe f (.bc t [nl a,nl b]) st=pe f (.bc t [a,b]) st:=λt a b st=>ih (.bc t [a,b]) st;have y : ∀t a b c l st,pe f (.bc t (nl a::nl b::nl c::aK l)) st=pe f (.bc t (a::b::c::l)) st:=λt a b c l st=>ih (.bc t (a::b::c::l)) st;have z : ∀t a st,pe f (.bO t [nl a]) st=pe f (.bO t [a]) st:=λt a st=>ih (.bO t [a]) st
   have A : ∀t a b st,pe f (.bO t [nl a,nl b]) st=pe f (.bO t [a,b]) st:=λt a b st=>ih (.bO t [a,b]) st;have C : ∀t a b c l st,pe f (.bO t (nl a::nl b::nl c::aK l)) st=pe f (.bO t (a::b::c::l)) st:=λt a b c l st=>ih (.bO t (a::b::c::l)) st;have D : ∀t a st,pe f (.bF t [nl a]) st=pe f (.bF t [a]) st:=λt a st=>ih (.bF t [a]) st;have E : ∀t a b st,pe f (.bF t [nl a,nl b]) st=pe f (.bF t [a,b]) st:=λt a b st=>ih (.bF t [a,b]) st;have F : ∀t a b c l st,pe f (.bF t (nl a::nl b::nl c::aK l)) st=pe f (.bF t (a::b::c::l)) st:=λt a b c l st=>ih (.bF t (a::b::c::l)) st;have G : ∀a st,pe f (.clauses [nl a]) st=pe f (.clauses [a]) st:=λa st=>ih (.clauses [a]) st;have H : ∀a b l st,pe f (.clauses (nl a::nl b::aK l)) st=pe f (.clauses (a::b::l)) st:=λa b l st=>ih (.clauses (a::b::l)) st;have I : ∀a st,pe f (.cW [nl a]) st=pe f (.cW [a]) st:=λa st=>ih (.cW [a]) st;have K : ∀a b l st,pe f (.cW (nl a::nl b::aK l)) st=pe f (.cW (a::b::l)) st:=λa b l st=>ih (.cW (a::b::l)) st;have L : ∀a st,pe f (.cR [nl a]) st=pe f (.cR [a]) st:=λa st=>ih (.cR [a]) st;have M : ∀a b l st,pe f (.cR (nl a::nl b::aK l)) st=pe f (.cR (a::b::l)) st:=λa b l st=>ih (.cR (a::b::l)) st;have N : ∀t a b l st,pe f (.bc t (nl a::nl b::aK l)) st=pe f (.bc t (a::b::l)) st:=λt a b l st=>ih (.bc t (a::b::l)) st;have O : ∀a l st,pe f (.clauses (nl a::aK l)) st=pe f (.clauses (a::l)) st:=λa l st=>ih (.clauses (a::l)) st;intro r st;cases r;case bc b l=>rcases l with _ | ⟨n,l⟩<;>simp only[SR.nl,aK,pe,i1,i]
   case clauses l=>
    rcases l with _ | ⟨n,l⟩
    ·simp only[SR.nl,aK,pe,kA,jV,kU,ly,lz,lA,jG,ay,aF,i1,i2,i3,i4,i5,i6,i7,i8,i9,i10,i11,i12,i13,i,j,k,o,p,q,u,v]
    rcases hk:n.kids with _ | ⟨a,_ | ⟨b,_ | ⟨c,ks⟩⟩⟩<;>simp only[SR.nl,aK,pe,kA,jV,kU,ly,lz,lA,jG,ay,aF,i1,i2,i3,i4,i5,i6,i7,i8,i9,i10,i11,i12,i13,i,j,k,o,p,q,u,v,w,x,y,z,A,C,D,E,F,G,H,I,K,L,M,N,O,hk]
   case cW l=>
    rcases l with _ | ⟨n,l⟩
    ·simp only[SR.nl,aK,pe,kA,jV,kU,ly,lz,lA,jG,ay,aF,i1,i2,i3,i4,i5,i6,i7,i8,i9,i10,i11,i12,i13,i,j,k,o,p,q,u,v]
    rcases hk:n.kids with _ | ⟨a,_ | ⟨b,_ | ⟨c,ks⟩⟩⟩<;>simp only[SR.nl,aK,pe,kA,jV,kU,ly,lz,lA,jG,ay,aF,i1,i2,i3,i4,i5,i6,i7,i8,i9,i10,i11,i12,i13,i,j,k,o,p,q,u,v,w,x,y,z,A,C,D,E,F,G,H,I,K,L,M,N,O,hk]
   case cR l=>
    rcases l with _ | ⟨n,l⟩
    ·simp only[SR.nl,aK,pe,kA,jV,kU,ly,lz,lA,jG,ay,aF,i1,i2,i3,i4,i5,i6,i7,i8,i9,i10,i11,i12,i13,i,j,k,o,p,q,u,v]
    simp only[SR.nl,aK,pe,kA,jV,kU,ly,lz,lA,jG,ay,aF,i1,i2,i3,i4,i5,i6,i7,i8,i9,i10,i11,i12,i13,i,j,k,o,p,q,u,v,abd];cases hl:n.kids.getLast?<;>(simp only[hl,Option.map_some,Option.map_none];rcases hk:n.kids with _ | ⟨a,_ | ⟨b,_ | ⟨c,ks⟩⟩⟩<;>simp only[hk,SR.nl,aK,pe,kA,jV,kU,ly,lz,lA,jG,ay,aF,i1,i2,i3,i4,i5,i6,i7,i8,i9,i10,i11,i12,i13,i,j,k,o,p,q,u,v])
   case bO b l=>rcases l with _ | ⟨n,_ | ⟨m,l⟩⟩<;>simp only[SR.nl,aK,pe,kA,jV,kU,ly,lz,lA,jG,ay,aF,i1,i2,i3,i4,i5,i6,i7,i8,i9,i10,i11,i12,i13,i,j,k,o,p,q,u,v]
   case a9 l=>rcases l with _ | ⟨n,l⟩<;>simp only[SR.nl,aK,pe,kA,jV,kU,ly,lz,lA,jG,ay,aF,i1,i2,i3,i4,i5,i6,i7,i8,i9,i10,i11,i12,i13,i,j,k,o,p,q,u,v]
   case bF b l=>rcases l with _ | ⟨n,l⟩<;>simp only[SR.nl,aK,pe,kA,jV,kU,ly,lz,lA,jG,ay,aF,i1,i2,i3,i4,i5,i6,i7,i8,i9,i10,i11,i12,i13,i,j,k,o,p,q,u,v]
   case «at» n a=>simp only[SR.nl,aK,pe,kA,jV,kU,ly,lz,lA,jG,ay,aF,i1,i2,i3,i4,i5,i6,i7,i8,i9,i10,i11,i12,i13,i,j,k,o,p,q,u,v]
   case expr n=>simp only[SR.nl,aK,pe,kA,jV,kU,ly,lz,lA,jG,ay,aF,i1,i2,i3,i4,i5,i6,i7,i8,i9,i10,i11,i12,i13,i,j,k,o,p,q,u,v]
   case block n=>simp only[SR.nl,aK,pe,kA,jV,kU,ly,lz,lA,jG,ay,aF,i1,i2,i3,i4,i5,i6,i7,i8,i9,i10,i11,i12,i13,i,j,k,o,p,q,u,v]
   case stmt n=>simp only[SR.nl,aK,pe,kA,jV,kU,ly,lz,lA,jG,ay,aF,i1,i2,i3,i4,i5,i6,i7,i8,i9,i10,i11,i12,i13,i,j,k,o,p,q,u,v]
   case two n l s r=>
    rcases hk:n.kids with _ | ⟨a,_ | ⟨b,_ | ⟨c,ks⟩⟩⟩<;>simp only[SR.nl,aK,pe,kA,jV,kU,ly,lz,lA,jG,ay,aF,i1,i2,i3,i4,i5,i6,i7,i8,i9,i10,i11,i12,i13,i,j,k,o,p,q,u,v,w,x,y,z,A,C,D,E,F,G,H,I,K,L,M,N,O,hk]
   case shown n=>
    rcases hk:n.kids with _ | ⟨a,_ | ⟨b,_ | ⟨c,ks⟩⟩⟩<;>simp only[SR.nl,aK,pe,kA,jV,kU,ly,lz,lA,jG,ay,aF,i1,i2,i3,i4,i5,i6,i7,i8,i9,i10,i11,i12,i13,i,j,k,o,p,q,u,v,w,x,y,z,A,C,D,E,F,G,H,I,K,L,M,N,O,hk]
   case dC n=>
    rcases hk:n.kids with _ | ⟨a,_ | ⟨b,_ | ⟨c,ks⟩⟩⟩<;>simp only[SR.nl,aK,pe,kA,jV,kU,ly,lz,lA,jG,ay,aF,i1,i2,i3,i4,i5,i6,i7,i8,i9,i10,i11,i12,i13,i,j,k,o,p,q,u,v,w,x,y,z,A,C,D,E,F,G,H,I,K,L,M,N,O,hk]
   case dK n=>
    rcases hk:n.kids with _ | ⟨a,_ | ⟨b,_ | ⟨c,ks⟩⟩⟩<;>simp only[SR.nl,aK,pe,kA,jV,kU,ly,lz,lA,jG,ay,aF,i1,i2,i3,i4,i5,i6,i7,i8,i9,i10,i11,i12,i13,i,j,k,o,p,q,u,v,w,x,y,z,A,C,D,E,F,G,H,I,K,L,M,N,O,hk]
   case maybe s n=>
    rcases hk:n.kids with _ | ⟨a,_ | ⟨b,_ | ⟨c,ks⟩⟩⟩<;>simp only[SR.nl,aK,pe,kA,jV,kU,ly,lz,lA,jG,ay,aF,i1,i2,i3,i4,i5,i6,i7,i8,i9,i10,i11,i12,i13,i,j,k,o,p,q,u,v,w,x,y,z,A,C,D,E,F,G,H,I,K,L,M,N,O,hk]
   case tries n=>
    rcases hk:n.kids with _ | ⟨a,_ | ⟨b,_ | ⟨c,ks⟩⟩⟩<;>simp only[SR.nl,aK,pe,kA,jV,kU,ly,lz,lA,jG,ay,aF,i1,i2,i3,i4,i5,i6,i7,i8,i9,i10,i11,i12,i13,i,j,k,o,p,q,u,v,w,x,y,z,A,C,D,E,F,G,H,I,K,L,M,N,O,hk]
   case head n=>
    rcases hk:n.kids with _ | ⟨a,_ | ⟨b,_ | ⟨c,ks⟩⟩⟩<;>simp only[SR.nl,aK,pe,kA,jV,kU,ly,lz,lA,jG,ay,aF,i1,i2,i3,i4,i5,i6,i7,i8,i9,i10,i11,i12,i13,i,j,k,o,p,q,u,v,w,x,y,z,A,C,D,E,F,G,H,I,K,L,M,N,O,hk]
   case simple n=>
    rcases hk:n.kids with _ | ⟨a,_ | ⟨b,_ | ⟨c,ks⟩⟩⟩<;>simp only[SR.nl,aK,pe,kA,jV,kU,ly,lz,lA,jG,ay,aF,i1,i2,i3,i4,i5,i6,i7,i8,i9,i10,i11,i12,i13,i,j,k,o,p,q,u,v,w,x,y,z,A,C,D,E,F,G,H,I,K,L,M,N,O,hk]
   case ifs s n=>
    rcases hk:n.kids with _ | ⟨a,_ | ⟨b,_ | ⟨c,ks⟩⟩⟩
    all_goals simp only[SR.nl,aK,pe,kA,jV,kU,ly,lz,lA,jG,ay,aF,i1,i2,i3,i4,i5,i6,i7,i8,i9,i10,i11,i12,i13,i,j,k,o,p,q,u,v,w,x,y,z,A,C,D,E,F,G,H,I,K,L,M,N,O,hk]
    rcases P:c.kids with _ | ⟨e,_ | ⟨g,Q⟩⟩<;>simp only[SR.nl,aK,pe,kA,jV,kU,ly,lz,lA,jG,ay,aF,i1,i2,i3,i4,i5,i6,i7,i8,i9,i10,i11,i12,i13,i,j,k,o,p,q,u,v,P]
mutual
def gW:Nd->Prop
 | .mk k _ x _ ks=>x.length<=20000/\(k=7->ks.length=3)/\fR ks
def fR:List Nd->Prop
 | []=>True
 | n::ks=>gW n/\fR ks
end
end
section
def SR.si:SR->Nat
 | .at n _ | .expr n | .dK n | .dC n | .two n _ _ _ | .shown n | .maybe _ n | .block n | .ifs _ n | .tries n | .stmt n | .head n | .simple n=>aq n.kids+1
 | .bc _ l | .clauses l | .bO _ l | .cW l | .a9 l | .cR l | .bF _ l=>aq l
def SR.ok:SR->Prop
 | .two n _ s _=>gW n/\s.length<=100
 | .maybe s n=>gW n/\s.length<=100
 | .ifs s n=>gW n/\s.length<=100
 | .at n _ | .expr n | .dK n | .dC n | .shown n | .block n | .tries n | .stmt n | .head n | .simple n=>gW n
 | .bc _ l | .clauses l | .bO _ l | .cW l | .a9 l | .cR l | .bF _ l=>fR l
theorem St : ∀(a:List (List UInt8)) (st:aB),(aV a st).w<=st.w+(a.map l7).sum
 | [],st=>by simp[aV]
 | s::r,st=>by
   simp only[aV];split
   ·simp;try omega
   have:=St r ⟨st.out++s,st.deep,st.w+s.length,st.bad,by rw[bW];exact T7 st.h _⟩;simp at this⊢;omega
theorem abf : ∀(n:Nat) (st:aB),(qS n st).deep=st.deep
 | 0,st=>rfl
 | n+1,st=>by simp only[qS];rw[abf n,Ax]
theorem ak0(s:List UInt8)(st:aB):(fx s st).deep=st.deep:=by unfold fx;rw[Ax,abf]
theorem abg : ∀(s:List UInt8) (st:aB),(lV s st).deep=st.deep
 | [],st=>rfl
 | c::r,st=>by
   simp only[lV];split;·rfl
   rw[abg r,Ax]
theorem ak1(s:List UInt8)(st:aB):(jF s st).deep=st.deep:=by unfold jF;rw[Ax,abg,Ax]
theorem ak2(c:UInt8):((iE c).map l7).sum<=4:=by
 unfold iE
 (repeat' split)<;>simp
theorem abh : ∀(s:List UInt8) (st:aB),(lV s st).w<=st.w+4*s.length
 | [],st=>ag _
 | c::r,st=>by
   simp only[lV];split;·exact Nat.le_add_right _ _
   have h1:=abh r (aV (iE c) st);have h2:=St (iE c) st;have h3:=ak2 c;simp only[ay];omega
theorem ak3(s:List UInt8)(st:aB):(jF s st).w<=st.w+4*s.length+2:=by
 unfold jF;have h1:=abh s (aV [np] st);rw[E9] at h1⊢;simp only[np,ay,aF] at h1⊢;omega
def Jc (X:aB)(d:Int)(c B:Nat):Prop:=X.deep=d/\X.w+c<=B
theorem abi{X:aB}{d:Int}{c B:Nat}(h:Jc X d c B):X.deep=d/\X.w+c<=B:=h
theorem abj{X:aB}{d e:Int}{c B:Nat}(h:Jc X d c B):Jc (X.dp e) e c B:=⟨rfl,h.2⟩
theorem abk{a:List (List UInt8)}{st:aB}{d:Int}{c B:Nat}(h:(a.map l7).sum<=1000000000)(g:Jc st d (1000000000+c) B):Jc (aV a st) d c B:=by
 have:=St a st;exact⟨(Ax _ _).trans g.1,by have:=g.2;omega⟩
theorem ak4{s:List UInt8}{st:aB}{d:Int}{c B:Nat}(h:s.length<=100000)(hd:0<=d/\d<=100000000)(g:Jc st d (1000000000+c) B):Jc (fx s st) d c B:=by
 have h1:=aaR s st;rw[g.1] at h1;exact⟨(ak0 _ _).trans g.1,by have:=g.2;omega⟩
theorem ak5{s:List UInt8}{st:aB}{d:Int}{c B:Nat}(h:s.length<=100000)(g:Jc st d (1000000000+c) B):Jc (jF s st) d c B:=by
 have:=ak3 s st;exact⟨(ak1 _ _).trans g.1,by have:=g.2;omega⟩
theorem ak6{ks:List Nd}{a b:Nat}{st:aB}{k:aB->aB}{d:Int}{c B:Nat}(h1:b<=ks.length->ks.length<=a->Jc (k st) d c B)(h2:Jc st d c B):Jc (eH (cJ ks a b st) k) d c B:=by
 by_cases hb:st.bad=true
 ·rw[aa4 hb];exact h2
 by_cases h3:ks.length<b
 ·have e:cJ ks a b st=st.sb:=by unfold cJ;rw[iN hb,iP h3]
  unfold eH;rw[e,iP (show st.sb.bad=true from rfl)];exact h2
 by_cases h4:a<ks.length
 ·have e:cJ ks a b st=st.sb:=by unfold cJ;rw[iN hb,iN h3,iP h4]
  unfold eH;rw[e,iP (show st.sb.bad=true from rfl)];exact h2
 have e:cJ ks a b st=st:=by unfold cJ;rw[iN hb,iN h3,iN h4]
 unfold eH;rw[e,iN hb];exact h1 Om Om
theorem abl{p:Prop}[Decidable p]{d:Int}{c B:Nat}{X Y:aB}(h:p->Jc X d c B)(g : ¬p->Jc Y d c B):Jc (if p then X else Y) d c B:=by
 split;·exact h ‹_›
 exact g ‹_›
theorem MS(o:Nat):(jT mR o).length<=2:=aa6 o
theorem ak7(o:Nat):(jT w8 o).length<=6:=by
 rcases o with _ | _ | _ | _ | _ | _ | _ | _ | _ | _ | _ | o
 all_goals first | decide | skip
 show(w8.getD (o+10) [63]).length<=6;rw[List.getD_eq_getElem?_getD,List.getElem?_eq_none (by show 10<=o+10;omega)];decide
theorem ak8(n:Nd):(([if n.kind=51\/n.kind=55 then [93] else if n.kind=52 then (if n.kids.length=1 then [44,41] else [41]) else [125]]:List (List UInt8)).map l7).sum<=1000000000:=by
 simp only[dq,lF,qu,xz]
 (repeat' split)<;>decide
theorem ak9(l:List Nd):(([if l.length=1 then [44,41] else [41]]:List (List UInt8)).map l7).sum<=1000000000:=by
 simp only[dq,lF,qu,xz]
 (repeat' split)<;>decide
theorem ak'(n:Nd):(([if n.kind=51 then [91] else if n.kind=52 then [40] else [123]]:List (List UInt8)).map l7).sum<=1000000000:=by
 simp only[dq,lF,qu,xz]
 (repeat' split)<;>decide
theorem ala(n:Nd):(([if n.kind=55 then [91] else [123]]:List (List UInt8)).map l7).sum<=1000000000:=by
 simp only[dq,lF,qu,xz]
 (repeat' split)<;>decide
theorem alb{st:aB}{d:Int}{c B:Nat}(g:Jc st d c B):Jc st.sb d c B:=g
theorem abm{st:aB}{d:Int}{c c' B:Nat}(g:Jc st d c' B)(h:c<=c'):Jc st d c B:=⟨g.1,by have:=g.2;omega⟩
def Su (f:Nat):Prop:=∀(r:SR) (st:aB) (d:Int) (c B:Nat),r.ok->r.me<f->0<=d->d+r.si<=100000000->Jc st d (1000000000*r.me+c) B->Jc (pe f r st) d c B
theorem abn{f:Nat}(ih:Su f){r:SR}{st:aB}{d:Int}{c B:Nat}(h1:r.ok)(h2:r.me<f)(h3:0<=d)(h4:d+r.si<=100000000)(h5:Jc st d (1000000000*r.me+c) B):Jc (pe f r st) d c B:=ih r st d c B h1 h2 h3 h4 h5
attribute [local irreducible] aB.sb aB.dp fx jF aV qS lV cJ eH Jc
theorem cw{P:Prop}(hz:P:=by
 (repeat' (first
   | with_reducible refine abk ?_ ?_
   | with_reducible refine ak4 ?_ ?_ ?_
   | with_reducible refine ak5 ?_ ?_
   | with_reducible refine abn ih ?_ ?_ ?_ ?_ ?_
   | with_reducible refine ak6 (λhl hg=> ?_) ?_
   | with_reducible refine alb ?_
   | with_reducible refine abl (λhc=> ?_) (λhc=> ?_)
   | with_reducible refine abm hj ?_
   | (refine abl (λhc=> ?_) (λhc=> ?_))
   | split))
 all_goals first | assumption | trivial | exact ak8 (.mk k ln x o _) | exact ak' (.mk k ln x o _) | exact ala (.mk k ln x o _) | exact ak9 _ | exact ho.1.2.2.2.2.1 | exact⟨ho,Nat.le_trans (MS _) de⟩ | exact⟨ho,by rw[List.length_append];exact Nat.le_trans (Nat.add_le_add_right (MS _) _) de⟩ | (simp only[SR.ok,gW,fR,and_true,true_and,ho,implies_true];done) | omega | (simp only[SR.ok,gW,fR,and_true,true_and,ho,implies_true,Nd.kids,Nd.text,Nd.kind,Nd.op,List.length_cons,List.length_nil,Nat.reduceLeDiff,Nat.reduceAdd];done) | (simp only[SR.ok,SR.me,SR.si,aq,aL,Nd.kids,Nd.text,Nd.kind,Nd.op,kR,w9,oG,oH,At,tV,tW,np,xb,Au,vf,Av,tX,Aw,List.length_cons,List.length_nil,List.map_cons,List.map_nil,List.sum_cons,List.sum_nil,List.length_append] at *;omega) | (have Lm:=MS o;simp only[SR.ok,SR.me,SR.si,aq,aL,Nd.kids,Nd.text,Nd.kind,Nd.op,kR,w9,oG,oH,At,tV,tW,np,xb,Au,vf,Av,tX,Aw,List.length_cons,List.length_nil,List.map_cons,List.map_nil,List.sum_cons,List.sum_nil,List.length_append] at *;omega) | (have Lm:=ak7 o1;simp only[SR.ok,SR.me,SR.si,aq,aL,Nd.kids,Nd.text,Nd.kind,Nd.op,kR,w9,oG,oH,At,tV,tW,np,xb,Au,vf,Av,tX,Aw,List.length_cons,List.length_nil,List.map_cons,List.map_nil,List.sum_cons,List.sum_nil,List.length_append] at *;omega) | (simp only[SR.ok,gW,fR,ho,and_true,true_and,kR,w9,oG,oH,At,tV,tW,np,xb,Au,vf,Av,tX,Aw,List.length_cons,List.length_nil,List.map_cons,List.map_nil,List.sum_cons,List.sum_nil,List.length_append];omega) | (simp only[List.map_cons,List.map_nil,List.sum_cons,List.sum_nil];(repeat' split)<;>(simp only[kR,w9,oG,oH,At,tV,tW,np,xb,Au,vf,Av,tX,Aw,List.length_cons,List.length_nil,List.map_cons,List.map_nil,List.sum_cons,List.sum_nil,List.length_append];omega)) | (have Lm:=MS o;simp only[SR.ok,gW,fR,ho,and_true,true_and,Nd.op,kR,w9,oG,oH,At,tV,tW,np,xb,Au,vf,Av,tX,Aw,List.length_cons,List.length_nil,List.map_cons,List.map_nil,List.sum_cons,List.sum_nil,List.length_append];omega)):P:=hz
section
variable {f:Nat} (ih:Su f) (st:aB) (d:Int) (c B:Nat)
include ih in
theorem alc(b:Bool)(l:List Nd)(ho:SR.ok (.bc b l))(a:SR.me (.bc b l)<f+1)(e:0<=d)(hd:d+SR.si (.bc b l)<=100000000)(hj:Jc st d (1000000000*SR.me (.bc b l)+c) B):Jc (pe (f+1) (.bc b l) st) d c B:=by
 rcases l with _ | ⟨n1,l⟩
 all_goals simp only[pe,Nd.kids,gT,iu]
 all_goals simp only[SR.ok,SR.me,SR.si,aq,aL,Nd.kids,gW,fR] at ho a hd hj
 all_goals exact cw
include ih in
theorem ald(l:List Nd)(ho:SR.ok (.clauses l))(a:SR.me (.clauses l)<f+1)(b:0<=d)(hd:d+SR.si (.clauses l)<=100000000)(hj:Jc st d (1000000000*SR.me (.clauses l)+c) B):Jc (pe (f+1) (.clauses l) st) d c B:=by
 rcases l with _ | ⟨⟨k1,e,i,o1,_ | ⟨n2,_ | ⟨j,m⟩⟩⟩,l⟩
 all_goals simp only[pe,Nd.kids,gT,iu]
 all_goals simp only[SR.ok,SR.me,SR.si,aq,aL,Nd.kids,gW,fR] at ho a hd hj
 all_goals exact cw
include ih in
theorem ale(l:List Nd)(ho:SR.ok (.cW l))(a:SR.me (.cW l)<f+1)(b:0<=d)(hd:d+SR.si (.cW l)<=100000000)(hj:Jc st d (1000000000*SR.me (.cW l)+c) B):Jc (pe (f+1) (.cW l) st) d c B:=by
 rcases l with _ | ⟨⟨k1,e,i,o1,_ | ⟨n2,j⟩⟩,l⟩
 all_goals simp only[pe,Nd.kids,gT,iu]
 all_goals simp only[SR.ok,SR.me,SR.si,aq,aL,Nd.kids,gW,fR] at ho a hd hj
 all_goals exact cw
include ih in
theorem alf(l:List Nd)(ho:SR.ok (.a9 l))(a:SR.me (.a9 l)<f+1)(b:0<=d)(hd:d+SR.si (.a9 l)<=100000000)(hj:Jc st d (1000000000*SR.me (.a9 l)+c) B):Jc (pe (f+1) (.a9 l) st) d c B:=by
 rcases l with _ | ⟨n1,l⟩
 all_goals simp only[pe,Nd.kids,gT,iu]
 all_goals simp only[SR.ok,SR.me,SR.si,aq,aL,Nd.kids,gW,fR] at ho a hd hj
 all_goals exact cw
include ih in
theorem alg(l:List Nd)(ho:SR.ok (.cR l))(a:SR.me (.cR l)<f+1)(b:0<=d)(hd:d+SR.si (.cR l)<=100000000)(hj:Jc st d (1000000000*SR.me (.cR l)+c) B):Jc (pe (f+1) (.cR l) st) d c B:=by
 rcases l with _ | ⟨⟨k1,e,i,o1,_ | ⟨n2,_ | ⟨j,_ | ⟨m,n⟩⟩⟩⟩,l⟩
 all_goals simp only[pe,Nd.kids,gT,iu]
 all_goals simp only[SR.ok,SR.me,SR.si,aq,aL,Nd.kids,gW,fR] at ho a hd hj
 all_goals exact cw
include ih in
theorem alh(b:Bool)(l:List Nd)(ho:SR.ok (.bF b l))(a:SR.me (.bF b l)<f+1)(e:0<=d)(hd:d+SR.si (.bF b l)<=100000000)(hj:Jc st d (1000000000*SR.me (.bF b l)+c) B):Jc (pe (f+1) (.bF b l) st) d c B:=by
 rcases l with _ | ⟨n1,l⟩
 all_goals simp only[pe,Nd.kids,gT,iu]
 all_goals simp only[SR.ok,SR.me,SR.si,aq,aL,Nd.kids,gW,fR] at ho a hd hj
 all_goals exact cw
include ih in
theorem ali(b:Bool)(l:List Nd)(ho:SR.ok (.bO b l))(a:SR.me (.bO b l)<f+1)(e:0<=d)(hd:d+SR.si (.bO b l)<=100000000)(hj:Jc st d (1000000000*SR.me (.bO b l)+c) B):Jc (pe (f+1) (.bO b l) st) d c B:=by
 rcases l with _ | ⟨n1,_ | ⟨n2,l⟩⟩
 all_goals simp only[pe,Nd.kids,gT,iu]
 all_goals simp only[SR.ok,SR.me,SR.si,aq,aL,Nd.kids,gW,fR] at ho a hd hj
 all_goals exact cw
include ih in
theorem alj(n:Nd)(a:Nat)(ho:SR.ok (.at n a))(b:SR.me (.at n a)<f+1)(e:0<=d)(hd:d+SR.si (.at n a)<=100000000)(hj:Jc st d (1000000000*SR.me (.at n a)+c) B):Jc (pe (f+1) (.at n a) st) d c B:=by
 obtain⟨k,ln,x,o,ks⟩:=n;all_goals simp only[pe,Nd.kids,gT,iu]
 all_goals simp only[SR.ok,SR.me,SR.si,aq,aL,Nd.kids,gW,fR] at ho b hd hj
 all_goals exact cw
include ih in
theorem alk(n:Nd)(ho:SR.ok (.expr n))(a:SR.me (.expr n)<f+1)(b:0<=d)(hd:d+SR.si (.expr n)<=100000000)(hj:Jc st d (1000000000*SR.me (.expr n)+c) B):Jc (pe (f+1) (.expr n) st) d c B:=by
 obtain⟨k,ln,x,o,ks⟩:=n;all_goals simp only[pe,Nd.kids,gT,iu]
 all_goals simp only[SR.ok,SR.me,SR.si,aq,aL,Nd.kids,gW,fR] at ho a hd hj
 all_goals exact cw
include ih in
theorem alm(n:Nd)(l:Nat)(s:List UInt8)(r:Nat)(ho:SR.ok (.two n l s r))(a:SR.me (.two n l s r)<f+1)(b:0<=d)(hd:d+SR.si (.two n l s r)<=100000000)(hj:Jc st d (1000000000*SR.me (.two n l s r)+c) B):Jc (pe (f+1) (.two n l s r) st) d c B:=by
 rcases n with ⟨k,ln,x,o,_ | ⟨n1,_ | ⟨n2,_ | ⟨e,ks⟩⟩⟩⟩
 all_goals simp only[pe,Nd.kids,gT,iu]
 all_goals simp only[SR.ok,SR.me,SR.si,aq,aL,Nd.kids,gW,fR] at ho a hd hj
 all_goals exact cw
include ih in
theorem aln(n:Nd)(ho:SR.ok (.shown n))(a:SR.me (.shown n)<f+1)(b:0<=d)(hd:d+SR.si (.shown n)<=100000000)(hj:Jc st d (1000000000*SR.me (.shown n)+c) B):Jc (pe (f+1) (.shown n) st) d c B:=by
 rcases n with ⟨k,ln,x,o,_ | ⟨n1,_ | ⟨n2,_ | ⟨e,ks⟩⟩⟩⟩
 all_goals simp only[pe,Nd.kids,gT,iu]
 all_goals simp only[SR.ok,SR.me,SR.si,aq,aL,Nd.kids,gW,fR] at ho a hd hj
 all_goals exact cw
include ih in
theorem alo(n:Nd)(ho:SR.ok (.dC n))(a:SR.me (.dC n)<f+1)(b:0<=d)(hd:d+SR.si (.dC n)<=100000000)(hj:Jc st d (1000000000*SR.me (.dC n)+c) B):Jc (pe (f+1) (.dC n) st) d c B:=by
 rcases n with ⟨k,ln,x,o,_ | ⟨⟨k1,e,i,o1,j⟩,_ | ⟨n2,_ | ⟨l,ks⟩⟩⟩⟩
 all_goals simp only[pe,Nd.kids,gT,iu]
 all_goals simp only[SR.ok,SR.me,SR.si,aq,aL,Nd.kids,gW,fR] at ho a hd hj
 all_goals exact cw
include ih in
theorem alp(n:Nd)(ho:SR.ok (.dK n))(a:SR.me (.dK n)<f+1)(b:0<=d)(hd:d+SR.si (.dK n)<=100000000)(hj:Jc st d (1000000000*SR.me (.dK n)+c) B):Jc (pe (f+1) (.dK n) st) d c B:=by
 rcases n with ⟨k,ln,x,o,_ | ⟨⟨k1,e,i,o1,j⟩,_ | ⟨n2,_ | ⟨l,ks⟩⟩⟩⟩
 all_goals simp only[pe,Nd.kids,gT,iu]
 all_goals simp only[SR.ok,SR.me,SR.si,aq,aL,Nd.kids,gW,fR] at ho a hd hj
 all_goals exact cw
include ih in
theorem alq(s:List UInt8)(n:Nd)(ho:SR.ok (.maybe s n))(a:SR.me (.maybe s n)<f+1)(b:0<=d)(hd:d+SR.si (.maybe s n)<=100000000)(hj:Jc st d (1000000000*SR.me (.maybe s n)+c) B):Jc (pe (f+1) (.maybe s n) st) d c B:=by
 rcases n with ⟨k,ln,x,o,_ | ⟨n1,_ | ⟨n2,_ | ⟨e,ks⟩⟩⟩⟩
 all_goals simp only[pe,Nd.kids,gT,iu]
 all_goals simp only[SR.ok,SR.me,SR.si,aq,aL,Nd.kids,gW,fR] at ho a hd hj
 all_goals exact cw
include ih in
theorem alr(n:Nd)(ho:SR.ok (.block n))(i:SR.me (.block n)<f+1)(m:0<=d)(hd:d+SR.si (.block n)<=100000000)(b:Jc st d (1000000000*SR.me (.block n)+c) B):Jc (pe (f+1) (.block n) st) d c B:=by
 obtain⟨k,ln,x,o,ks⟩:=n;simp only[pe,Nd.kids];simp only[SR.ok,SR.me,SR.si,aq,aL,Nd.kids,gW,fR] at ho i hd b;have h1:Jc (aV [tV] st) d (1000000000*(16*aq ks)+c) B:=abk s0 (abm b Om);generalize aV [tV] st=a at h1⊢;have j:=(abi h1).1;have h2:Jc (a.dp (v7 .i64 (a.deep+1))) (d+1) (1000000000*(16*aq ks)+c) B:=by
  rw[j,nh Om Om];exact abj h1
 have h3:=abn ih (r:= .a9 ks) (c:=c) ho.2.2 Mt Om (by simp only[SR.si];omega) h2;generalize pe f (.a9 ks) (a.dp (v7 .i64 (a.deep+1)))=q at h3⊢;have l:=(abi h3).1;rw[l,nh Om Om];have e:d+1-1=d:=by omega
 rw[e];exact abj h3
include ih in
theorem als(s:List UInt8)(n:Nd)(ho:SR.ok (.ifs s n))(a:SR.me (.ifs s n)<f+1)(b:0<=d)(hd:d+SR.si (.ifs s n)<=100000000)(hj:Jc st d (1000000000*SR.me (.ifs s n)+c) B):Jc (pe (f+1) (.ifs s n) st) d c B:=by
 rcases n with ⟨k,ln,x,o,_ | ⟨n1,_ | ⟨n2,_ | ⟨⟨e,i,j,l,_ | ⟨m,_ | ⟨q,r⟩⟩⟩,ks⟩⟩⟩⟩
 all_goals simp only[pe,Nd.kids,gT,iu]
 all_goals simp only[SR.ok,SR.me,SR.si,aq,aL,Nd.kids,gW,fR] at ho a hd hj
 all_goals exact cw
include ih in
theorem alt(n:Nd)(ho:SR.ok (.tries n))(a:SR.me (.tries n)<f+1)(b:0<=d)(hd:d+SR.si (.tries n)<=100000000)(hj:Jc st d (1000000000*SR.me (.tries n)+c) B):Jc (pe (f+1) (.tries n) st) d c B:=by
 rcases n with ⟨k,ln,x,o,_ | ⟨n1,_ | ⟨n2,_ | ⟨e,ks⟩⟩⟩⟩
 all_goals simp only[pe,Nd.kids,gT,iu]
 all_goals simp only[SR.ok,SR.me,SR.si,aq,aL,Nd.kids,gW,fR] at ho a hd hj
 all_goals exact cw
include ih in
theorem alu(n:Nd)(ho:SR.ok (.stmt n))(a:SR.me (.stmt n)<f+1)(b:0<=d)(hd:d+SR.si (.stmt n)<=100000000)(hj:Jc st d (1000000000*SR.me (.stmt n)+c) B):Jc (pe (f+1) (.stmt n) st) d c B:=by
 obtain⟨k,ln,x,o,ks⟩:=n;all_goals simp only[pe,Nd.kids,gT,iu]
 all_goals simp only[SR.ok,SR.me,SR.si,aq,aL,Nd.kids,gW,fR] at ho a hd hj
 all_goals exact cw
include ih in
theorem alv(n:Nd)(ho:SR.ok (.head n))(a:SR.me (.head n)<f+1)(b:0<=d)(hd:d+SR.si (.head n)<=100000000)(hj:Jc st d (1000000000*SR.me (.head n)+c) B):Jc (pe (f+1) (.head n) st) d c B:=by
 rcases n with ⟨k,ln,x,o,_ | ⟨⟨k1,e,i,o1,j⟩,_ | ⟨n2,_ | ⟨l,ks⟩⟩⟩⟩
 all_goals simp only[pe,Nd.kids,gT,iu]
 all_goals simp only[SR.ok,SR.me,SR.si,aq,aL,Nd.kids,gW,fR] at ho a hd hj
 all_goals exact cw
include ih in
theorem alw(n:Nd)(ho:SR.ok (.simple n))(a:SR.me (.simple n)<f+1)(b:0<=d)(hd:d+SR.si (.simple n)<=100000000)(hj:Jc st d (1000000000*SR.me (.simple n)+c) B):Jc (pe (f+1) (.simple n) st) d c B:=by
 rcases n with ⟨k,ln,x,o,_ | ⟨n1,_ | ⟨n2,_ | ⟨e,ks⟩⟩⟩⟩
 all_goals simp only[pe,Nd.kids,gT,iu]
 all_goals simp only[SR.ok,SR.me,SR.si,aq,aL,Nd.kids,gW,fR] at ho a hd hj
 all_goals exact cw
end
theorem alx : ∀f,Su f:=by
 intro f;induction f with
 | zero=>intro r st d c B _ h;exact absurd h (su _)
 | succ f ih=>
   intro r st d c B ho e i hd j;cases r;case «at» n a=>exact alj ih st d c B n a ho e i hd j
   case expr n=>exact alk ih st d c B n ho e i hd j
   case two n l s r=>exact alm ih st d c B n l s r ho e i hd j
   case shown n=>exact aln ih st d c B n ho e i hd j
   case dC n=>exact alo ih st d c B n ho e i hd j
   case dK n=>exact alp ih st d c B n ho e i hd j
   case maybe s n=>exact alq ih st d c B s n ho e i hd j
   case block n=>exact alr ih st d c B n ho e i hd j
   case ifs s n=>exact als ih st d c B s n ho e i hd j
   case tries n=>exact alt ih st d c B n ho e i hd j
   case stmt n=>exact alu ih st d c B n ho e i hd j
   case head n=>exact alv ih st d c B n ho e i hd j
   case simple n=>exact alw ih st d c B n ho e i hd j
   case bc b l=>exact alc ih st d c B b l ho e i hd j
   case clauses l=>exact ald ih st d c B l ho e i hd j
   case cW l=>exact ale ih st d c B l ho e i hd j
   case a9 l=>exact alf ih st d c B l ho e i hd j
   case cR l=>exact alg ih st d c B l ho e i hd j
   case bF b l=>exact alh ih st d c B b l ho e i hd j
   case bO b l=>exact ali ih st d c B b l ho e i hd j
end
section
theorem aly(k:Int):yW k=7->False:=by
 unfold yW
 (repeat' split)<;>decide
theorem MT : ∀ {a b:List Nd},fR (a++b)↔fR a/\fR b
 | [],b=>by simp[fR]
 | n::a,b=>by simp only[aS,fR,MT,and_assoc]
def TB:PR->Prop
 | some (.ok (l,j))=>fR l
 | _=>True
theorem IL{c:Prop}[Decidable c]{a b:PR}(h1:TB a)(h2:TB b):TB (if c then a else b):=by
 split;·exact h1
 exact h2
theorem alz{ts:List PT}{s:List UInt8}{i:Nat}{k:Nat->PR}(h:TB (k (i+1))):TB (eX ts s i k):=IL h trivial
theorem alA{ts:List PT}(a : ∀i,(ah ts i).text.length<=20000){kd:Int}{i:Nat}{k:List UInt8->Nat->PR}(h : ∀x,x.length<=20000->TB (k x (i+1))):TB (jo ts kd i k):=IL (h _ (a i)) trivial
theorem abo{r:PR}{k:List Nd->Nat->PR}(h:TB r)(hk : ∀l j,fR l->TB (k l j)):TB (pb r k):=by
 match r,h with
 | none,_=>exact trivial
 | some (.error e),_=>exact trivial
 | some (.ok (l,j)),h=>exact hk l j h
theorem MU{r:PR}{k:Nd->Nat->PR}(h:TB r)(hk : ∀n j,gW n->TB (k n j)):TB (bu r k):=abo h λl j h2=>by
 match l,h2 with
 | [],_=>exact trivial
 | _::_::_,_=>exact trivial
 | [n],h2=>exact hk n j h2.1
theorem alB{e:Nat}:TB (some (.error e)):=trivial
theorem alC{j:Nat}{l:List Nd}(h2:fR l):TB (some (.ok (l,j))):=h2
theorem Sw{j:Nat}{n:Nd}(h2:gW n):TB (bI n j):=⟨h2,trivial⟩
def NT.tx:NT->Prop
 | .names k _ acc=>k≠7/\fR acc
 | .params _ _ acc | .row _ acc | .qc _ acc | .clauses acc | .rW _ acc | .placesL _ acc | .jp _ acc | .a9 acc | .lT acc | .top acc | .nR _ acc=>fR acc
 | .jR n acc=>gW n/\fR acc
 | .tR n | .tS n | .sW n | .qP n | .rV n | .index n=>gW n
 | .maybe k _ _=>k≠7
 | _=>True
def alD (ts:List PT)(f:Nat):Prop:=∀a i,a.tx->TB (gr ts f a i)
theorem abp{ts:List PT}{p:Nat}{A:PR}{B:Nat->Nat->PR}(hA:TB A)(a : ∀op j,TB (B op j)):TB (match eB ts p with | .error e=>some (.error e) | .ok (0,_)=>A | .ok (op+1,j)=>B op j):=by
 match eB ts p with
 | .error e=>exact trivial
 | .ok (0,_)=>exact hA
 | .ok (op+1,j)=>exact a op j
theorem alE{ts:List PT}(o : ∀i,(ah ts i).text.length<=20000) : ∀f,alD ts f:=by
 intro f;induction f with
 | zero=>intro a i h;exact trivial
 | succ f ih=>
 have b : ∀(all:Bool) i,TB (gr ts f (if all=true then .exprs else .expr) i):=λall i=>by
  cases all;·exact ih .expr i trivial
  exact ih .exprs i trivial
 have h1 : ∀a i,a.tx->TB (gr ts f a i):=ih;intro a i ha;cases a;case jp l acc=>
  simp only[gr];refine IL ?_ (Sw ⟨fa _,λh=>absurd h de,ha⟩);cases r:acc.getLast? with
  | none=>exact trivial
  | some n=>exact IL (MU (ih .value (i+1) trivial) λv j hv=>ih _ _ (MT.2 ⟨ha,hv,trivial⟩)) trivial
 case jR n acc=>
  obtain⟨hn,e⟩:=ha;simp only[gr];refine abp (Sw ?_) λop j=>MU (ih .arith j trivial) λm k b=>ih _ _ ⟨hn,MT.2 ⟨e,⟨fa _,λh=>absurd h de,b,trivial⟩,trivial⟩⟩;split;·exact hn
  exact⟨fa _,λh=>absurd h de,hn,e⟩
 all_goals simp only[NT.tx] at ha
 all_goals simp only[gr]
 all_goals (repeat' first
  | exact alB
  | (with_reducible refine IL ?_ ?_)
  | (with_reducible refine abp ?_ λop j=> ?_)
  | (with_reducible refine alz ?_)
  | (with_reducible refine alA o λx hx=> ?_)
  | (with_reducible refine MU (b _ _) λn j hn=> ?_)
  | (with_reducible refine MU (h1 _ _ ?_) λn j hn=> ?_)
  | (with_reducible refine abo (h1 _ _ ?_) λl j hl=> ?_)
  | (with_reducible refine Sw ?_)
  | (with_reducible refine alC ?_)
  | (with_reducible refine h1 _ _ ?_)
  | (with_reducible assumption)
  | exact True.intro
  | exact fa _
  | decide
  | exact o _
  | exact aly _
  | (obtain⟨e,q⟩:=ha)
  | (simp only[NT.tx,fR,gW,MT,and_true,true_and,ne_eq,aF,fa,ay,implies_true,Nat.reduceEqDiff,Nat.reduceAdd,reduceCtorEq,not_false_eq_true,false_implies])
  | (refine⟨?_,?_⟩)
  | (intro s;omega))
theorem Sy{q:Nat} : ∀ {f:Nat} {l s:List UInt8} {n:Nat},gO q f l=some (s,n)->s.length<=n
 | 0,_,_,_,h=>by cases h
 | f+1,l,s,n,h=>by
   simp only[gO] at h;split at h;·cases h;simp
   split at h;·cases h
   split at h;·rw[jX] at h;obtain⟨⟨y,m⟩,h1,h2⟩:=h;cases h2;have:=Sy h1;simp only[ay];omega
   split at h;·rw[jX] at h;obtain⟨⟨y,m⟩,h1,h2⟩:=h;cases h2;have:=Sy h1;simp only[ay];omega
   cases h
theorem alF{l:List UInt8}{k n:Nat}{x:List UInt8}(h:fq l=some (k,x,n)):x.length<=l.length:=by
 have hn:=(Lp h).2;unfold fq at h;split at h;·cases h;rw[nU];omega
 split at h
 ·split at h;·cases h
  cases h;rw[nU];omega
 split at h;·rw[jX] at h;obtain⟨⟨y,m⟩,h1,h2⟩:=h;cases h2;have:=Sy h1;simp only at hn⊢;omega
 rw[jX] at h;obtain⟨m,h1,h2⟩:=h;cases h2;rw[nU];omega
theorem abq{line:Nat} : ∀ {f:Nat} {t:List UInt8} {d d':Nat} {x:List da},je line f t d=some (x,d')->∀y∈x,y.text.length<=t.length
 | 0,_,_,_,_,h=>by cases h
 | f+1,t,d,d',x,h=>by
   simp only[je] at h;split at h;·cases h;intro y a;cases a
   cases ht:fq (t.drop (cq t)) with
   | none=>rw[ht] at h;cases h
   | some z=>
     obtain⟨k,y,n⟩:=z;rw[ht] at h;simp only at h;rw[jX] at h;obtain⟨⟨w,e⟩,h1,h2⟩:=h;cases h2;have h3:=alF ht;have h4:=abq h1;intro v hv;rcases List.mem_cons.1 hv with rfl | hv
     ·simp only[iH] at h3⊢;omega
     have:=h4 v hv;simp only[iH] at this;omega
theorem alG{line d d':Nat}{t:List UInt8}{st aT:List Nat}{x:List da}(h:gF line t d st= .ok (x,d',aT)) : ∀y∈x,y.text.length<=t.length:=by
 unfold gF at h;split at h;·cases h;intro y hy;cases hy
 split at h;·cases h
 split at h;·cases h
 rename_i ts d1 ht;cases h;intro y hy;simp only[List.mem_append] at hy;rcases hy with (hy | hy) | hy
 ·split at hy
  ·unfold dZ at hy;split at hy;·simp at hy;rw[hy];simp
   rw[T8 hy];simp
  cases hy
 ·exact abq ht y hy
 split at hy;·simp at hy;rw[hy];simp
 cases hy
theorem abr{B:Nat} : ∀ {ts:List (List UInt8)} {line d:Nat} {st aT:List Nat} {x:List da},gG line ts d st= .ok (x,aT)->(∀t∈ts,t.length<=B)->∀y∈x,y.text.length<=B
 | [],line,d,st,aT,x,h,_=>by cases h;intro y hy;cases hy
 | t::ts,line,d,st,aT,x,h,i=>by
   rw[yK] at h;cases a:gF line t d st with
   | error e=>rw[a] at h;cases h
   | ok q=>
     obtain⟨k,d1,j⟩:=q;rw[a] at h;simp only at h;cases b:gG (line+1) ts d1 j with
     | error e=>rw[b] at h;cases h
     | ok w=>
       rw[b] at h;cases h;intro y hy;rcases List.mem_append.1 hy with hy | hy
       ·exact cM (alG a y hy) (i t s0)
       exact abr b (λu hu=>i u (by simp[hu])) y hy
theorem abt{t:List UInt8} : ∀ {ts:List (List UInt8)},t∈ts->t.length+ts.length<=(ts.map l7).sum+ts.length
 | a::ts,h=>by
   rcases List.mem_cons.1 h with rfl | h
   ·simp only[dq,qu];omega
   have:=abt h;simp only[dq,qu,ay];omega
theorem alH{src:List UInt8}{ts:List da}(h:gv src= .ok ts) : ∀y∈ts,y.text.length<=20000:=by
 unfold gv at h;split at h;·cases h
 cases a:gG 1 (eT src) 0 [0] with
 | error e=>rw[a] at h;cases h
 | ok w=>
   obtain⟨x,st⟩:=w;rw[a] at h;cases h;have h2:=HI (src:=src);intro y hy;rcases List.mem_append.1 hy with hy | hy
   ·refine abr a (λt ht=> ?_) y hy;have h3:=abt ht;have h4:0<(eT src).length:=List.length_pos_of_mem ht;omega
   unfold tB at hy;rcases List.mem_append.1 hy with hy | hy
   ·rw[T8 hy];simp
   simp at hy;rw[hy];simp
theorem alI{ts:List PT}(h : ∀t∈ts,t.text.length<=20000)(i:Nat):(ah ts i).text.length<=20000:=by
 unfold ah;split;·rename_i t ht;exact h t (sq ht)
 split;·exact fa _
 exact fa _
theorem abu{F:Nat}{l:List Nd}(a:110000000<=F)(hl:fR l)(hs:aq l<=6500000):(pe F (.a9 l) tY).w<=nu:=by
 have h:=alx F (.a9 l) tY 0 0 (1000000000*(16*aq l)) hl (by show 16*aq l<F;omega) Om (by show(0:Int)+(aq l:Nat)<=100000000;omega) ⟨rfl,by show 0+(1000000000*(16*aq l)+0)<=_;omega⟩;have:=h.2;show _<=2305843009213693952;omega
theorem alJ{F:Nat}(k:110000000<=F)(src:List UInt8):(jU F (cQ src).1).w<=nu:=by
 have hz:(jU F nm).w<=nu:=abu (l:= []) k trivial (by show 0<=_;omega);unfold cQ;cases m:gv src with
 | error y=>exact hz
 | ok ts=>
   have b:=YI m;have o:=alH m;show(jU F (jS (ts.map iD)).1).w<=nu;generalize n:ts.map iD=a;have s:a.length<=100000:=by rw[<-n,List.length_map];exact b
   have i : ∀t∈a,t.text.length<=20000:=by
    rw[<-n];intro t ht;obtain⟨y,q,rfl⟩:=List.mem_map.1 ht;exact o y q
   have h1:=alE (alI i) (a.length*64+100) (.top []) 0 trivial;have h2:=Mz (ts:=a) (a.length*64+100) (.top []) 0 (by first | trivial | simp[NT.hY]) (fa _) (by simp only[NT.kM];omega);have h3:=wZ (ts:=a) (a.length*64+100) (.top []) 0 (by first | trivial | simp[NT.hY]) (fa _) (by simp only[NT.kM];omega);unfold jS;generalize gr a (a.length*64+100) (.top []) 0=r at h1 h2 h3;match r,h1,h2,h3 with
   | none,_,_,_=>exact hz
   | some (.error e),_,_,_=>exact hz
   | some (.ok (l,j)),h1,h2,h3=>
     simp only;split;·exact hz
     have h4:aq l+64*0+0<=0+64*j+0:=h2;have h5:j<=a.length:=h3.2.1;exact abu (l:=l) k h1 Om
end
section
open Go Go.RowKit
theorem alK(F:Nat)(n m:Nd)(h:nl n=nl m):jU F n=jU F m:=by
 unfold jU;have h1:=abe F (.a9 n.kids) tY;have h2:=abe F (.a9 m.kids) tY;rw[<-h1,<-h2];show pe F (.a9 (aK n.kids)) tY=pe F (.a9 (aK m.kids)) tY;rw[<-kA,<-kA,h]
theorem alL{F:Nat}{n:Nd}{s:List UInt8}(h:gD F n=(s,0)):s=(jU F n).out/\nl (cQ s).1=nl n:=by
 unfold gD at h;split at h;·cases h
 split at h;·cases h
 split at h;·rename_i hh;cases h;exact⟨rfl,(AC _ _).1 hh.2⟩
 cases h
end
section
inductive Pc where
 | sp | nl | kV | out
 | tk (k:Nat) (x:List UInt8)
def gu (x:List UInt8):List UInt8:=x.flatMap λc=>(iE c).flatten
def Pc.tx:Pc->List UInt8
 | .sp=> [32]
 | .nl=> [10]
 | .kV=> []
 | .out=> []
 | .tk k x=>if k=7 then 34::(gu x++ [34]) else x
def bf (l:List Pc):List UInt8:=l.flatMap Pc.tx
abbrev sy(x:List UInt8):Pc:= .tk 9 x
abbrev wd(x:List UInt8):Pc:= .tk 8 x
def vJ:Nat->List Pc
 | 1=> [sy [61,61]] | 2=> [sy [33,61]] | 3=> [sy [60]] | 4=> [sy [60,61]] | 5=> [sy [62]] | 6=> [sy [62,61]]
 | 7=> [wd [105,110]] | 8=> [wd [110,111,116], .sp,wd [105,110]] | 9=> [wd [105,115]] | 10=> [wd [105,115], .sp,wd [110,111,116]]
 | _=> [sy [63]]
def vL(s:List UInt8):Pc:=if s= [97,110,100]\/s= [111,114] then wd s else sy s
def dW (d:Nat):List Pc:=List.replicate (4*d) .sp
def pp:Nat->SR->Nat->List Pc
 | 0,_,_=> []
 | f+1, .at n a,d=>if gC n<a then [sy [40]]++pp f (.expr n) d++ [sy [41]] else pp f (.expr n) d
 | f+1, .bc b [],d=> []
 | f+1, .bc b (n::l),d=>(if b=true then [sy [44], .sp] else [])++pp f (.at n 0) d++pp f (.bc true l) d
 | f+1, .two n l s r,d=>match n.kids with
   | a::b::_=>pp f (.at a l) d++ [.sp,vL s, .sp]++pp f (.at b r) d
   | _=> []
 | f+1, .clauses [],d=> []
 | f+1, .clauses (c::l),d=>(if c.kind=59 then (match c.kids with
    | a::_=> [.sp,wd [105,102], .sp]++pp f (.at a 1) d
    | _=> [])
   else (match c.kids with
    | a::b::_=> [.sp,wd [102,111,114], .sp]++pp f (.at a 9) d++ [.sp,wd [105,110], .sp]++pp f (.at b 1) d
    | _=> []))++pp f (.clauses l) d
 | f+1, .bO b [],d=> []
 | f+1, .bO b [_],d=> []
 | f+1, .bO b (n::m::l),d=>(if b=true then [sy [44], .sp] else [])++pp f (.at n 0) d++ [sy [58], .sp]++pp f (.at m 0) d++pp f (.bO true l) d
 | f+1, .shown n,d=>
    (if n.kind=51\/n.kind=52\/n.kind=53 then [sy (if n.kind=51 then [91] else if n.kind=52 then [40] else [123])]++pp f (.bc false n.kids) d
    else if n.kind=54 then [sy [123]]++pp f (.bO false n.kids) d
    else if n.kind=57 then [sy [123]]++(match n.kids with
     | a::b::l=>pp f (.bO false [a,b]) d++pp f (.clauses l) d
     | _=> [])
    else [sy (if n.kind=55 then [91] else [123])]++(match n.kids with
     | a::l=>pp f (.at a 0) d++pp f (.clauses l) d
     | _=> [])) ++
    (if n.kind=51\/n.kind=55 then [sy [93]] else if n.kind=52 then (if n.kids.length=1 then [sy [44],sy [41]] else [sy [41]]) else [sy [125]])
 | f+1, .dC n,d=>match n.kids with
   | []=> []
   | a::l=>(if n.kind=45/\(a.kind=30\/a.kind=31) then [sy [40], .tk (if a.kind=30 then 5 else 6) a.text,sy [41]] else pp f (.at a 9) d) ++
     (if n.kind=44 then [sy [40]]++pp f (.bc false l) d++ [sy [41]]
     else if n.kind=45 then [sy [46], .tk 4 n.text]
     else if n.kind=46 then (match l with
      | b::_=> [sy [91]]++pp f (.at b 0) d++ [sy [93]]
      | _=> [])
     else if n.kind=47 then (match l with
      | b::c::_=> [sy [91]]++pp f (.at b 0) d++ [sy [58]]++pp f (.at c 0) d++ [sy [93]]
      | _=> [])
     else [])
 | f+1, .expr n,d=>if n.kind=30 then [.tk 5 n.text] else if n.kind=31 then [.tk 6 n.text] else if n.kind=36 then [.tk 4 n.text]
    else if n.kind=32 then [.tk 7 n.text]
    else if n.kind=33 then [wd [78,111,110,101]]
    else if n.kind=34 then [wd [84,114,117,101]]
    else if n.kind=35 then [wd [70,97,108,115,101]]
    else if n.kind=48 then []
    else if n.kind=60 then pp f (.maybe [121,105,101,108,100] n) d
    else if n.kind=44\/n.kind=45\/n.kind=46\/n.kind=47 then pp f (.dC n) d
    else if n.kind=51\/n.kind=52\/n.kind=53\/n.kind=54\/n.kind=55\/n.kind=56\/n.kind=57 then pp f (.shown n) d
    else pp f (.dK n) d
 | f+1, .cW [],d=> []
 | f+1, .cW (k::l),d=> [.sp]++vJ k.op++ [.sp]++(match k.kids with
   | a::_=>pp f (.at a 5) d
   | _=> [])++pp f (.cW l) d
 | f+1, .dK n,d=>if n.kind=37 then (if n.op=7 then pp f (.two n 9 [42,42] 7) d else pp f (.two n (gC n) (jT mR n.op) (gC n+1)) d)
    else if n.kind=38 then (match n.kids with
     | a::_=> [sy (if n.op=1 then [45] else [43])]++pp f (.at a 7) d
     | _=> [])
    else if n.kind=41 then (match n.kids with
     | a::_=> [wd [110,111,116], .sp]++pp f (.at a 3) d
     | _=> [])
    else if n.kind=39 then pp f (.two n 2 [97,110,100] 3) d
    else if n.kind=40 then pp f (.two n 1 [111,114] 2) d
    else if n.kind=42 then (match n.kids with
     | a::l=>pp f (.at a 5) d++pp f (.cW l) d
     | _=> [])
    else if n.kind=49 then (match n.kids with
     | c::a::b::_=>pp f (.at a 1) d++ [.sp,wd [105,102], .sp]++pp f (.at c 1) d++ [.sp,wd [101,108,115,101], .sp]++pp f (.at b 0) d
     | _=> [])
    else if n.kind=50 then (match n.kids with
     | p::e::_=> [wd [108,97,109,98,100,97]]++(if 0<p.kids.length then [.sp] else [])++pp f (.bc false p.kids) d++ [sy [58], .sp]++pp f (.at e 0) d
     | _=> [])
    else []
 | f+1, .maybe s n,d=>match n.kids with
   | []=> [wd s]
   | a::_=> [wd s]++ [.sp]++pp f (.at a 0) d
 | f+1, .block n,d=> [sy [58], .nl, .kV]++pp f (.a9 n.kids) (d+1)++ [.out]
 | f+1, .a9 [],d=> []
 | f+1, .a9 (k::l),d=>pp f (.stmt k) d++pp f (.a9 l) d
 | f+1, .ifs s n,d=>match n.kids with
   | c::b::l=>dW d++ [wd (if s= [105,102,32] then [105,102] else [101,108,105,102]), .sp]++pp f (.at c 0) d++pp f (.block b) d++(match l with
     | []=> []
     | e::_=>match e.kids with
       | [x]=>if x.kind=5 then pp f (.ifs [101,108,105,102,32] x) d else dW d++ [wd [101,108,115,101]]++pp f (.block e) d
       | _=>dW d++ [wd [101,108,115,101]]++pp f (.block e) d)
   | _=> []
 | f+1, .cR [],d=> []
 | f+1, .cR (h::l),d=>(if h.kind=22 then dW d++ [wd [102,105,110,97,108,108,121]] else
    dW d++ [wd [101,120,99,101,112,116]]++(match h.kids with
     | [a,_]=> [.sp]++pp f (.at a 0) d
     | _=> [])++(if h.text= [] then [] else [.sp,wd [97,115], .sp, .tk 4 h.text]))++(match h.kids.getLast? with
    | some b=>pp f (.block b) d++pp f (.cR l) d
    | none=> [])
 | f+1, .tries n,d=>match n.kids with
   | b::l=>dW d++ [wd [116,114,121]]++pp f (.block b) d++pp f (.cR l) d
   | _=> []
 | f+1, .stmt n,d=>if n.kind=5 then pp f (.ifs [105,102,32] n) d else if n.kind=15 then pp f (.tries n) d
    else if n.kind=6\/n.kind=7\/n.kind=8\/n.kind=9\/n.kind=16 then pp f (.head n) d
    else dW d++pp f (.simple n) d++ [.nl]
 | f+1, .head n,d=>match n.kids with
   | a::b::l=>(if n.kind=6 then dW d++ [wd [119,104,105,108,101], .sp]++pp f (.at a 0) d
      else if n.kind=7 then dW d++ [wd [102,111,114], .sp]++pp f (.at a 9) d++ [.sp,wd [105,110], .sp]++pp f (.at b 0) d
      else if n.kind=8 then dW d++ [wd [100,101,102], .sp]++ [.tk 4 n.text,sy [40]]++pp f (.bc false a.kids) d++ [sy [41]]
      else if n.kind=9 then dW d++ [wd [99,108,97,115,115], .sp]++ [.tk 4 n.text]++(if 0<a.kids.length then [sy [40]]++pp f (.bc false a.kids) d++ [sy [41]] else [])
      else if n.kind=16 then dW d++ [wd [119,105,116,104], .sp]++pp f (.at a 0) d++(if n.text= [] then [] else [.sp,wd [97,115], .sp, .tk 4 n.text])
      else [])++(match l with
     | []=>pp f (.block b) d
     | c::_=>pp f (.block c) d)
   | _=> []
 | f+1, .bF b [],d=> []
 | f+1, .bF b (n::l),d=>(if b=true then [.sp,sy [61], .sp] else [])++pp f (.at n 0) d++pp f (.bF true l) d
 | f+1, .simple n,d=>if n.kind=2 then pp f (.bc false n.kids) d
    else if n.kind=3 then pp f (.bF false n.kids) d
    else if n.kind=4 then pp f (.two n 0 (jT mR n.op++ [61]) 0) d
    else if n.kind=10 then pp f (.maybe [114,101,116,117,114,110] n) d
    else if n.kind=14 then pp f (.maybe [114,97,105,115,101] n) d
    else if n.kind=11 then [wd [112,97,115,115]]
    else if n.kind=12 then [wd [98,114,101,97,107]]
    else if n.kind=13 then [wd [99,111,110,116,105,110,117,101]]
    else if n.kind=17 then [wd [103,108,111,98,97,108], .sp]++pp f (.bc false n.kids) d
    else if n.kind=18 then [wd [110,111,110,108,111,99,97,108], .sp]++pp f (.bc false n.kids) d
    else if n.kind=20 then pp f (.maybe [97,115,115,101,114,116] n) d
    else if n.kind=19 then (match n.kids with
     | a::_=> [wd [100,101,108], .sp]++pp f (.at a 9) d
     | _=> [])
    else []
def iX(k:Nat)(x:List UInt8):Prop:=∃l n,fq l=some (k,x,n)
def eK (n:Nd):Prop:=30<=n.kind/\n.kind<=57/\n.kind≠43/\n.kind≠48
def nT (l:List Nd):Prop:=∀n∈l,eK n
def sK (n:Nd):Prop:=2<=n.kind/\n.kind<=20
def MV (l:List Nd):Prop:=l≠ []/\∀n∈l,sK n
def rZ:List Nd->Bool
 | c::_=>decide (c.kind=58)
 | []=>false
def tb (l:List Nd):Prop:=∀n∈l,n.kind=58\/n.kind=59
def vK (n:Nd):Prop:=eK n\/n.kind=60
def tZ (l:List Nd):Prop:=∀n∈l,n.kind=36
def vM (l:List Nd):Prop:=∀n∈l,n.kind=21
def bT (k:Nat)(x:List UInt8)(o:Nat)(ks:List Nd):Prop:=
 (k=30/\iX 5 x/\o=0/\ks= [])\/(k=31/\iX 6 x/\o=0/\ks= [])\/(k=32/\iX 7 x/\o=0/\ks= [])\/(k=36/\iX 4 x/\o=0/\ks= [])\/
 ((k=33\/k=34\/k=35\/k=48\/k=11\/k=12\/k=13)/\x= []/\o=0/\ks= [])\/
 (k=37/\x= []/\1<=o/\o<=7/\∃a b,ks= [a,b]/\eK a/\eK b)\/(k=38/\x= []/\(o=1\/o=2)/\∃a,ks= [a]/\eK a)\/
 ((k=39\/k=40)/\x= []/\o=0/\∃a b,ks= [a,b]/\eK a/\eK b)\/(k=41/\x= []/\o=0/\∃a,ks= [a]/\eK a)\/
 (k=42/\x= []/\o=0/\∃a l,ks=a::l/\eK a/\l≠ []/\∀n∈l,n.kind=43)\/(k=43/\x= []/\1<=o/\o<=10/\∃a,ks= [a]/\eK a)\/
 (k=44/\x= []/\o=0/\∃a l,ks=a::l/\eK a/\nT l)\/(k=45/\iX 4 x/\o=0/\∃a,ks= [a]/\eK a)\/(k=46/\x= []/\o=0/\∃a b,ks= [a,b]/\eK a/\eK b)\/
 (k=47/\x= []/\o=0/\∃a b c,ks= [a,b,c]/\eK a/\(eK b\/b.kind=48)/\(eK c\/c.kind=48))\/(k=49/\x= []/\o=0/\∃a b c,ks= [a,b,c]/\eK a/\eK b/\eK c)\/
 (k=50/\x= []/\o=0/\∃p e,ks= [p,e]/\p.kind=23/\eK e)\/(k=23/\x= []/\o=0/\tZ ks)\/
 ((k=51\/k=52)/\x= []/\o=0/\nT ks)\/(k=53/\x= []/\o=0/\ks≠ []/\nT ks)\/(k=54/\x= []/\o=0/\ks.length % 2=0/\nT ks)\/
 ((k=55\/k=56)/\x= []/\o=0/\∃e l,ks=e::l/\eK e/\rZ l=true/\tb l)\/(k=57/\x= []/\o=0/\∃a b l,ks=a::b::l/\eK a/\eK b/\rZ l=true/\tb l)\/
 (k=58/\x= []/\o=0/\∃a b,ks= [a,b]/\eK a/\fw a=true/\eK b)\/(k=59/\x= []/\o=0/\∃a,ks= [a]/\eK a)\/
 ((k=60\/k=10\/k=14)/\x= []/\o=0/\(ks= []\/∃a,ks= [a]/\eK a))\/(k=20/\x= []/\o=0/\∃a,ks= [a]/\eK a)\/
 (k=2/\x= []/\o=0/\∃a,ks= [a]/\vK a)\/(k=3/\x= []/\o=0/\∃l v,ks=l++ [v]/\l≠ []/\vK v/\∀n∈l,eK n/\fw n=true)\/
 (k=4/\x= []/\1<=o/\o<=7/\∃a b,ks= [a,b]/\eK a/\nQ a=true/\eK b)\/(k=19/\x= []/\o=0/\∃a,ks= [a]/\eK a/\nQ a=true)\/
 ((k=17\/k=18)/\x= []/\o=0/\ks≠ []/\tZ ks)\/(k=1/\x= []/\o=0/\MV ks)\/
 (k=5/\x= []/\o=0/\∃a b l,ks=a::b::l/\eK a/\b.kind=1/\(l= []\/∃e,l= [e]/\e.kind=1))\/(k=6/\x= []/\o=0/\∃a b,ks= [a,b]/\eK a/\b.kind=1)\/
 (k=7/\x= []/\o=0/\∃a b c,ks= [a,b,c]/\eK a/\fw a=true/\eK b/\c.kind=1)\/(k=8/\iX 4 x/\o=0/\∃a b,ks= [a,b]/\a.kind=23/\b.kind=1)\/
 (k=9/\iX 4 x/\o=0/\∃a b,ks= [a,b]/\a.kind=24/\b.kind=1)\/(k=24/\x= []/\o=0/\nT ks)\/
 (k=15/\x= []/\o=0/\∃b l,ks=b::l/\b.kind=1/\l≠ []/\∃h t,l=h++t/\vM h/\(∀n∈h.dropLast,n.kids.length=2)/\(t= []\/∃y,t= [y]/\y.kind=22))\/
 (k=21/\((x= []/\∃b,ks= [b]/\b.kind=1)\/((x= []\/iX 4 x)/\∃e b,ks= [e,b]/\eK e/\b.kind=1))/\o=0)\/(k=22/\x= []/\o=0/\∃b,ks= [b]/\b.kind=1)\/
 (k=16/\(x= []\/iX 4 x)/\o=0/\∃e b,ks= [e,b]/\eK e/\b.kind=1)
mutual
def fh:Nd->Prop
 | .mk k _ x o ks=>bT k x o ks/\ef ks
def ef:List Nd->Prop
 | []=>True
 | n::ks=>fh n/\ef ks
end
theorem oK : ∀ {a b:List Nd},ef (a++b)↔ef a/\ef b
 | [],b=>by simp[ef]
 | n::a,b=>by simp only[aS,ef,oK,and_assoc]
def TW (P:List Nd->Prop):PR->Prop
 | some (.ok (l,_))=>P l
 | _=>True
abbrev xE:List Nd->Prop:=λl=>∃n,l= [n]/\fh n/\eK n
abbrev xP:List Nd->Prop:=λl=>∃n,l= [n]/\fh n/\eK n/\fw n=true
abbrev xV:List Nd->Prop:=λl=>∃n,l= [n]/\fh n/\vK n
abbrev xS:List Nd->Prop:=λl=>∃n,l= [n]/\fh n/\sK n
abbrev xK(k:Nat):List Nd->Prop:=λl=>∃n,l= [n]/\fh n/\n.kind=k
def NT.out(ts:List PT)(i:Nat):NT->List Nd->Prop
 | .one | .sV | .placesL _ _=>xP
 | .value=>xV
 | .simple | .plain | .jp _ _ | .stmt | .names _ _ _ | .ifs _ | .tries _ | .nR _ _=>xS
 | .maybe k _ _=>xK k
 | .block | .a9 _=>xK 1
 | .params _ _ _=>xK 23
 | .row _ _=>λl=>ef l/\nT l
 | .clauses acc=>λl=>ef l/\tb l/\(acc= []->ai ts i jQ=true->rZ l=true)/\(acc≠ []->rZ l=rZ acc)
 | .lT _=>λl=>∃b h,l=b::h/\ef l/\b.kind=1/\vM h/\∀n∈h.dropLast,n.kids.length=2
 | .top _=>λl=>ef l/\∀n∈l,sK n
 | _=>xE
def NT.kW(ts:List PT)(i:Nat):NT->Prop
 | .params _ _ acc=>ef acc/\tZ acc
 | .row _ acc | .qc _ acc=>ef acc/\nT acc
 | .tR n | .tS n | .sW n | .qP n | .rV n | .index n=>fh n/\eK n
 | .jR n acc=>fh n/\eK n/\ef acc/\∀m∈acc,m.kind=43
 | .clauses acc=>ef acc/\tb acc
 | .rW _ acc=>ef acc/\nT acc/\acc.length % 2=0
 | .placesL _ acc=>ef acc/\nT acc/\iU acc=true/\acc≠ []
 | .names k _ acc=>(k=17\/k=18)/\ef acc/\tZ acc
 | .maybe k _ _=>k=60\/k=10\/k=14
 | .jp _ acc=>ef acc/\(∃l v,acc=l++ [v]/\vK v/\∀n∈l,eK n/\fw n=true)/\(2<=acc.length\/ai ts i va=true)
 | .a9 acc=>ef acc/\∀n∈acc,sK n
 | .lT acc=>∃b h,acc=b::h/\ef acc/\b.kind=1/\vM h/\∀n∈h,n.kids.length=2
 | .nR _ acc=>∃b h,acc=b::h/\ef acc/\b.kind=1/\vM h/\∀n∈h.dropLast,n.kids.length=2
 | .top acc=>ef acc/\∀n∈acc,sK n
 | _=>True
def xf (ts:List PT)(f:Nat):Prop:=∀a i,a.kW ts i->TW (a.out ts i) (gr ts f a i)
theorem oL{c:Prop}[Decidable c]{P:List Nd->Prop}{a b:PR}(h1:c->TW P a)(h2 : ¬c->TW P b):TW P (if c then a else b):=by
 split;·exact h1 ‹_›
 exact h2 ‹_›
theorem Ct{ts:List PT}{s:List UInt8}{i:Nat}{P:List Nd->Prop}{k:Nat->PR}(h:TW P (k (i+1))):TW P (eX ts s i k):=oL (λ_=>h) λ_=>trivial
theorem MW{ts:List PT}{kd:Int}{i:Nat}{P:List Nd->Prop}{k:List UInt8->Nat->PR}(h:(ah ts i).kind=kd->TW P (k (ah ts i).text (i+1))):TW P (jo ts kd i k):=oL h λ_=>trivial
theorem MX{r:PR}{P Q:List Nd->Prop}{k:List Nd->Nat->PR}(h:TW Q r)(hk : ∀l j,Q l->TW P (k l j)):TW P (pb r k):=by
 match r,h with
 | none,_=>exact trivial
 | some (.error e),_=>exact trivial
 | some (.ok (l,j)),h=>exact hk l j h
theorem r8{r:PR}{P Q:List Nd->Prop}{k:Nd->Nat->PR}(h:TW Q r)(hk : ∀n j,Q [n]->TW P (k n j)):TW P (bu r k):=MX h λl j h2=>by
 match l,h2 with
 | [],_=>exact trivial
 | _::_::_,_=>exact trivial
 | [n],h2=>exact hk n j h2
theorem Cu{P:List Nd->Prop}{e:Nat}:TW P (some (.error e)):=trivial
theorem IM{P:List Nd->Prop}{j:Nat}{l:List Nd}(h2:P l):TW P (some (.ok (l,j))):=h2
theorem tc{P:List Nd->Prop}{j:Nat}{n:Nd}(h2:P [n]):TW P (bI n j):=h2
theorem alM{ts:List PT}{p:Nat}{P:List Nd->Prop}{A:PR}{B:Nat->Nat->PR}(hA:TW P A)(a : ∀op j,op+1<=10->TW P (B op j)):TW P (match eB ts p with | .error e=>some (.error e) | .ok (0,_)=>A | .ok (op+1,j)=>B op j):=by
 have h : ∀o j,eB ts p= .ok (o,j)->o<=10:=by
  intro o j h;unfold eB at h
  (repeat' split at h)<;>first | (cases h;omega) | cases h
 match b:eB ts p with
 | .error e=>exact trivial
 | .ok (0,_)=>exact hA
 | .ok (op+1,j)=>exact a op j (h _ _ b)
def Pr (st aT:aB)(ps:List Pc):Prop:=aT.out=st.out++bf ps/\aT.w=st.w+(bf ps).length/\aT.deep=st.deep/\aT.bad=st.bad
theorem r9(a b:List Pc):bf (a++b)=bf a++bf b:=by simp[bf]
theorem Sz:bf []= []:=rfl
theorem alN(a:Pc)(b:List Pc):bf (a::b)=a.tx++bf b:=by simp[bf]
theorem Pr.refl(st:aB):Pr st st []:=⟨by simp[Sz],by simp[Sz],rfl,rfl⟩
theorem Pr.trans{a b c:aB}{p q:List Pc}(h:Pr a b p)(g:Pr b c q):Pr a c (p++q):=by
 obtain⟨h1,h2,h3,h4⟩:=h;obtain⟨e,i,j,k⟩:=g;exact⟨by rw[e,h1,r9,aG],by rw[i,h2,r9,bW];omega,j.trans h3,k.trans h4⟩
theorem IN : ∀(a:List (List UInt8)) (st:aB),st.w+a.flatten.length<=20000->(aV a st).out=st.out++a.flatten/\(aV a st).w=st.w+a.flatten.length/\(aV a st).deep=st.deep/\(aV a st).bad=st.bad
 | [],st,_=>by simp[aV]
 | s::r,st,h=>by
   rw[um,bW] at h;simp only[aV,iN (show ¬ 20000<st.w+s.length by omega)];obtain⟨h1,h2,h3,h4⟩:=IN r ⟨st.out++s,st.deep,st.w+s.length,st.bad,by rw[bW];exact T7 st.h _⟩ (by show st.w+s.length+r.flatten.length<=20000;omega);refine⟨by rw[h1,um,aG],?_,h3,h4⟩;rw[h2,um];show st.w+s.length+_=_;rw[bW];omega
theorem SB{a:List (List UInt8)}{st:aB}{ps:List Pc}(h:a.flatten=bf ps)(hw:st.w+(bf ps).length<=20000):Pr st (aV a st) ps:=by
 have:=IN a st (by rw[h];exact hw);rw[h] at this;exact this
theorem abv : ∀(s:List UInt8) (st:aB),st.bad=false->st.w+(gu s).length<=20000->(lV s st).out=st.out++gu s/\(lV s st).w=st.w+(gu s).length/\(lV s st).deep=st.deep/\(lV s st).bad=false
 | [],st,hb,_=>by simp[lV,gu,hb]
 | c::r,st,hb,h=>by
   have e:gu (c::r)=(iE c).flatten++gu r:=by simp[gu]
   rw[e,bW] at h;simp only[lV,hb,aM,↓reduceIte];obtain⟨h1,h2,h3,h4⟩:=IN (iE c) st Om;obtain⟨a,b,i,j⟩:=abv r (aV (iE c) st) (h4.trans hb) (by rw[h2];omega);exact⟨by rw[a,h1,e,aG],by rw[b,h2,e,bW];omega,i.trans h3,j⟩
theorem alO{s:List UInt8}{st:aB}(hb:st.bad=false)(hw:st.w+(bf [.tk 7 s]).length<=20000):Pr st (jF s st) [.tk 7 s]:=by
 have e:bf [.tk 7 s]= [34]++gu s++ [34]:=by simp[bf,Pc.tx]
 rw[e] at hw;simp only[bW,ay,aF] at hw;unfold jF;obtain⟨h1,h2,h3,h4⟩:=IN [np] st (by simp[np];omega);obtain⟨b,a,i,j⟩:=abv s (aV [np] st) (h4.trans hb) (by rw[h2];simp[np];omega);obtain⟨k1,k,l,m⟩:=IN [np] (lV s (aV [np] st)) (by rw[a,h2];simp[np];omega);refine⟨?_,?_,l.trans (i.trans h3),(m.trans j).trans hb.symm⟩;·rw[k1,b,h1,e];simp[np]
 rw[k,a,h2,e];simp[np];omega
theorem abw : ∀(n:Nat) (st:aB),st.w+4*n<=20000->Pr st (qS n st) (dW n)
 | 0,st,_=>by simpa[qS,dW] using Pr.refl st
 | n+1,st,h=>by
   simp only[qS];have e:dW (n+1)= [.sp, .sp, .sp, .sp]++dW n:=by
    unfold dW;rw[show 4*(n+1)=4*n+1+1+1+1 by omega];simp only[Dk];rfl
   rw[e];have h1:Pr st (aV [[32,32,32,32]] st) [.sp, .sp, .sp, .sp]:=SB rfl (by show st.w+4<=20000;omega);refine h1.trans (abw n _ ?_);have:=h1.2.1;rw[this];show st.w+4+4*n<=20000;omega
theorem abx(d:Nat):(bf (dW d)).length=4*d:=by
 unfold dW;generalize 4*d=n;induction n with
 | zero=>rfl
 | succ n ih=>rw[Dk,alN,bW,ih];show 1+n=n+1;omega
theorem alP{s:List UInt8}{st:aB}{d:Nat}{ps:List Pc}(hd:st.deep=d)(h:s=bf ps)(hw:st.w+(bf (dW d++ps)).length<=20000):Pr st (fx s st) (dW d++ps):=by
 unfold fx;rw[r9,bW,abx] at hw;have e:st.deep.toNat=d:=by rw[hd];rfl
 rw[e];have h1:=abw d st Om;refine h1.trans (SB (by rw[h];simp) ?_);rw[h1.2.1,abx];omega
theorem gX{ks:List Nd}{a b:Nat}{st:aB}{k:aB->aB}(hb:st.bad=false)(h1:b<=ks.length)(h2:ks.length<=a):eH (cJ ks a b st) k=k st:=by
 have e:cJ ks a b st=st:=by unfold cJ;rw[iN (by rw[hb];decide),iN Om,iN Om]
 unfold eH;rw[e,iN (by rw[hb];decide)]
def Jp (st X:aB)(p:List Pc)(d n:Nat):Prop:=Pr st X p/\st.bad=false/\st.deep=d/\X.w+n<=20000
theorem Jp.bad{st X:aB}{p:List Pc}{d n:Nat}(h:Jp st X p d n):X.bad=false:=h.1.2.2.2.trans h.2.1
theorem Jp.deep{st X:aB}{p:List Pc}{d n:Nat}(h:Jp st X p d n):X.deep=d:=h.1.2.2.1.trans h.2.2.1
theorem zb{st:aB}{d n:Nat}(h1:st.bad=false)(h2:st.deep=d)(h3:st.w+n<=20000):Jp st st [] d n:=⟨Pr.refl st,h1,h2,h3⟩
theorem SC{st X:aB}{p ps:List Pc}{d n:Nat}{a:List (List UInt8)}(h:a.flatten=bf ps)(g:Jp st X p d ((bf ps).length+n)):Jp st (aV a X) (p++ps) d n:=by
 have h1:=SB (st:=X) h (by have:=g.2.2.2;omega);exact⟨g.1.trans h1,g.2.1,g.2.2.1,by rw[h1.2.1];have:=g.2.2.2;omega⟩
theorem Fi{st:aB}{ps:List Pc}{d n:Nat}{a:List (List UInt8)}(h:a.flatten=bf ps)(g:Jp st st [] d ((bf ps).length+n)):Jp st (aV a st) ps d n:=SC (p:= []) h g
theorem SD{st X:aB}{p ps:List Pc}{d n:Nat}{s:List UInt8}(h:s=bf ps)(g:Jp st X p d ((bf (dW d++ps)).length+n)):Jp st (fx s X) (p++dW d++ps) d n:=by
 have h1:=alP (st:=X) g.deep h (by have:=g.2.2.2;omega);rw[aG];exact⟨g.1.trans h1,g.2.1,g.2.2.1,by rw[h1.2.1];have:=g.2.2.2;omega⟩
theorem alQ{st:aB}{d n:Nat}(g:Jp st st [] d ((bf (dW d)).length+n)):Jp st (fx [] st) (dW d) d n:=by
 have h:=SD (p:= []) (ps:= []) (s:= []) (n:=n) rfl (by rw[cn];exact g);rw[cn] at h;exact h
theorem alR{st:aB}{ps:List Pc}{d n:Nat}{s:List UInt8}(h:s=bf ps)(g:Jp st st [] d ((bf (dW d++ps)).length+n)):Jp st (fx s st) (dW d++ps) d n:=SD (p:= []) h g
def MY (a:SR->Prop)(f:Nat):Prop:=∀(r:SR) (st:aB) (d:Nat),d+f<=20000000->a r->r.me<f->st.bad=false->st.deep=d->st.w+(bf (pp f r d)).length<=20000->Pr st (pe f r st) (pp f r d)
theorem IP{a:SR->Prop}{f:Nat}(ih:MY a f){st X:aB}{p:List Pc}{d n:Nat}{r:SR}(b:d+f<=20000000)(h1:a r)(h2:r.me<f)(g:Jp st X p d ((bf (pp f r d)).length+n)):Jp st (pe f r X) (p++pp f r d) d n:=by
 have h:=ih r X d b h1 h2 g.bad g.deep (by have:=g.2.2.2;omega);exact⟨g.1.trans h,g.2.1,g.2.2.1,by rw[h.2.1];have:=g.2.2.2;omega⟩
theorem SE{a:SR->Prop}{f:Nat}(ih:MY a f){st:aB}{d n:Nat}{r:SR}(b:d+f<=20000000)(h1:a r)(h2:r.me<f)(g:Jp st st [] d ((bf (pp f r d)).length+n)):Jp st (pe f r st) (pp f r d) d n:=IP (p:= []) ih b h1 h2 g
theorem SF{st X:aB}{p:List Pc}{d n:Nat}(h:Jp st X p d n):Pr st X p:=h.1
theorem alS(s:List UInt8):bf [.sp,vL s, .sp]= [32]++s++ [32]:=by
 unfold vL;split<;>simp[bf,Pc.tx]
theorem alT{o:Nat}(h1:1<=o)(h2:o<=10):bf (vJ o)=jT w8 o:=by
 obtain rfl | rfl | rfl | rfl | rfl | rfl | rfl | rfl | rfl | rfl:o=1\/o=2\/o=3\/o=4\/o=5\/o=6\/o=7\/o=8\/o=9\/o=10:=by omega
 all_goals decide
end
end Can
end Go.Proofs.YtdfgkcoenagaaaaGreat
