/- Show: joined. (Printed by tools/gensh.py.). Show: block, ifs. (Printed by tools/gensh.py.). Show: tries, stmt. (Printed by tools/gensh.py.). Show: head. (Printed by tools/gensh.py.). Show: simple. (Printed by tools/gensh.py.). Show: the printer prints what pe says. -/
import Derived.Test.YtdfgkcoenagaaaaGreatZp
section
namespace Go.Proofs.YtdfgkcoenagaaaaGreat
namespace Can
open Go Go.RowKit
set_option linter.unusedSimpArgs false
set_option linter.unusedVariables false
set_option maxRecDepth 4000
attribute [local irreducible] TC putL pe padS quoS cntN okS PSt.sb PSt.dp
variable {Z:TP} {X:Pan} {f:Nat} (hJ:Z.J=Jb) (h : ∀g,g≤f→PAl Z X g)
include hJ h
theorem pt_joined(n:Nd):PrT Z X (f+1) (.joined n) 90 [ndA n]:=by
 intro st stF Q R hB hm hQ
 (refine tc_rS d0_ok (by rfl) (by kernel_rfl) ?_);(conv in (rF _ _).body=>reduce);(conv in (rF _ _).res=>reduce)
 obtain⟨k,ln,x,o,ks⟩:=n
 by_cases h37:k=37
 ·subst h37
  by_cases h7:o=7
  ·subst h7
   simp only[pe,Nd.kind,Nd.text,Nd.op,Nd.kids,Nat.reduceEqDiff,reduceCtorEq,or_self,or_true,true_or,or_false,false_or,and_true,true_and,and_false,false_and,↓reduceIte] at hm hQ
   (conv=>whnf)
   refine level_tc ?_
   (conv=>whnf)
   ((refine((h f (Nat.le_refl f)).two (.mk 37 ln x 7 ks) 9 [42,42] 7) st stF _ _ hB (mo hm) fun st hp=> ?_);(rw[hp] at hm hQ);(clear hp);(conv=>whnf))
   exact hQ _ rfl
  ·have hlv:lvN (.mk 37 ln x o ks)=if o=1∨o=2 then 5 else 6:=by
    show(if o=7 then 8 else if o=1∨o=2 then 5 else 6)=_
    rw[if_neg h7]
   by_cases h12:o=1∨o=2
   ·rw[if_pos h12] at hlv
    simp only[pe,Nd.kind,Nd.text,Nd.op,Nd.kids,Nat.reduceEqDiff,reduceCtorEq,or_self,or_true,true_or,or_false,false_or,and_true,true_and,and_false,false_and,↓reduceIte,h7,hlv] at hm hQ
    (conv=>whnf)
    refine level_tc ?_
    rw[hlv]
    (conv=>whnf)
    refine ifT_c (fun hc=>by exfalso;simp at hc;omega) fun hc=> ?_
    (conv=>whnf)
    refine signs_tc ?_
    (conv=>whnf)
    ((refine((h f (Nat.le_refl f)).two (.mk 37 ln x o ks) 5 (opN signL o) 6) st stF _ _ hB (mo hm) fun st hp=> ?_);(rw[hp] at hm hQ);(clear hp);(conv=>whnf))
    repeat' (refine⟨rfl,?_⟩;(conv=>whnf))
    exact hQ _ rfl
   ·rw[if_neg h12] at hlv
    simp only[pe,Nd.kind,Nd.text,Nd.op,Nd.kids,Nat.reduceEqDiff,reduceCtorEq,or_self,or_true,true_or,or_false,false_or,and_true,true_and,and_false,false_and,↓reduceIte,h7,hlv] at hm hQ
    (conv=>whnf)
    refine level_tc ?_
    rw[hlv]
    (conv=>whnf)
    refine ifT_c (fun hc=>by exfalso;simp at hc;omega) fun hc=> ?_
    (conv=>whnf)
    refine signs_tc ?_
    (conv=>whnf)
    ((refine((h f (Nat.le_refl f)).two (.mk 37 ln x o ks) 6 (opN signL o) 7) st stF _ _ hB (mo hm) fun st hp=> ?_);(rw[hp] at hm hQ);(clear hp);(conv=>whnf))
    repeat' (refine⟨rfl,?_⟩;(conv=>whnf))
    exact hQ _ rfl
 by_cases h38:k=38
 ·subst h38
  by_cases h1:o=1
  ·subst h1
   rcases ks with _ | ⟨⟨k1,l1,x1,o1,ks1⟩,ks⟩
   all_goals
    simp only[pe,Nd.kind,Nd.text,Nd.op,Nd.kids,Nat.reduceEqDiff,reduceCtorEq,or_self,or_true,true_or,or_false,false_or,and_true,true_and,and_false,false_and,↓reduceIte] at hm hQ
    (conv=>whnf)
    refine count_st (st:=st) (fun hn hl hg3 hk=> ?_) fun st hb hk=> ?_
    case refine_2=>
     rw[hk] at hm hQ
     (conv=>whnf)
     exact hQ _ rfl
    rw[hk] at hm hQ
    (conv=>whnf)
   ·simp only[List.length_cons,List.length_nil] at hl;omega
   ·(refine⟨rfl,?_⟩;(conv=>whnf);((refine put_st (st:=st) hJ [[45]] (by simp) (by simp) hB (mo hm) fun st hp=> ?_);(rw[hp] at hm hQ);(clear hp);(conv=>whnf)))
    ((refine⟨rfl,0,_,rfl,rfl,?_⟩);(conv=>whnf))
    ((refine((h f (Nat.le_refl f)).at' (.mk k1 l1 x1 o1 ks1) 7) st stF _ _ hB (mo hm) fun st hp=> ?_);(rw[hp] at hm hQ);(clear hp);(conv=>whnf))
    exact hQ _ rfl
  ·rcases ks with _ | ⟨⟨k1,l1,x1,o1,ks1⟩,ks⟩
   all_goals
    simp only[pe,Nd.kind,Nd.text,Nd.op,Nd.kids,Nat.reduceEqDiff,reduceCtorEq,or_self,or_true,true_or,or_false,false_or,and_true,true_and,and_false,false_and,↓reduceIte,h1] at hm hQ
    (conv=>whnf)
    refine count_st (st:=st) (fun hn hl hg3 hk=> ?_) fun st hb hk=> ?_
    case refine_2=>
     rw[hk] at hm hQ
     (conv=>whnf)
     exact hQ _ rfl
    rw[hk] at hm hQ
    (conv=>whnf)
   ·simp only[List.length_cons,List.length_nil] at hl;omega
   ·refine ifT_c (fun hc=>by exfalso;simp at hc;omega) fun hc=> ?_
    (conv=>whnf)
    (refine⟨rfl,?_⟩;(conv=>whnf);((refine put_st (st:=st) hJ [[43]] (by simp) (by simp) hB (mo hm) fun st hp=> ?_);(rw[hp] at hm hQ);(clear hp);(conv=>whnf)))
    ((refine⟨rfl,0,_,rfl,rfl,?_⟩);(conv=>whnf))
    ((refine((h f (Nat.le_refl f)).at' (.mk k1 l1 x1 o1 ks1) 7) st stF _ _ hB (mo hm) fun st hp=> ?_);(rw[hp] at hm hQ);(clear hp);(conv=>whnf))
    exact hQ _ rfl
 by_cases h41:k=41
 ·subst h41
  rcases ks with _ | ⟨⟨k1,l1,x1,o1,ks1⟩,ks⟩
  all_goals
   simp only[pe,Nd.kind,Nd.text,Nd.op,Nd.kids,Nat.reduceEqDiff,reduceCtorEq,or_self,or_true,true_or,or_false,false_or,and_true,true_and,and_false,false_and,↓reduceIte] at hm hQ
   (conv=>whnf)
   refine count_st (st:=st) (fun hn hl hg3 hk=> ?_) fun st hb hk=> ?_
   case refine_2=>
    rw[hk] at hm hQ
    (conv=>whnf)
    exact hQ _ rfl
   rw[hk] at hm hQ
   (conv=>whnf)
  ·simp only[List.length_cons,List.length_nil] at hl;omega
  ·
   (refine⟨rfl,?_⟩;(conv=>whnf);((refine put_st (st:=st) hJ [[110,111,116,32]] (by simp) (by simp) hB (mo hm) fun st hp=> ?_);(rw[hp] at hm hQ);(clear hp);(conv=>whnf)))
   ((refine⟨rfl,0,_,rfl,rfl,?_⟩);(conv=>whnf))
   ((refine((h f (Nat.le_refl f)).at' (.mk k1 l1 x1 o1 ks1) 3) st stF _ _ hB (mo hm) fun st hp=> ?_);(rw[hp] at hm hQ);(clear hp);(conv=>whnf))
   exact hQ _ rfl
 by_cases h49:k=49
 ·subst h49
  rcases ks with _ | ⟨⟨k1,l1,x1,o1,ks1⟩,_ | ⟨⟨k2,l2,x2,o2,ks2⟩,_ | ⟨⟨k3,l3,x3,o3,ks3⟩,ks⟩⟩⟩
  all_goals
   simp only[pe,Nd.kind,Nd.text,Nd.op,Nd.kids,Nat.reduceEqDiff,reduceCtorEq,or_self,or_true,true_or,or_false,false_or,and_true,true_and,and_false,false_and,↓reduceIte] at hm hQ
   (conv=>whnf)
   refine count_st (st:=st) (fun hn hl hg3 hk=> ?_) fun st hb hk=> ?_
   case refine_2=>
    rw[hk] at hm hQ
    (conv=>whnf)
    exact hQ _ rfl
   rw[hk] at hm hQ
   (conv=>whnf)
  ·simp only[List.length_cons,List.length_nil] at hl;omega
  ·simp only[List.length_cons,List.length_nil] at hl;omega
  ·simp only[List.length_cons,List.length_nil] at hl;omega
  ·
   ((refine⟨rfl,1,_,rfl,rfl,?_⟩);(conv=>whnf))
   ((refine((h f (Nat.le_refl f)).at' (.mk k2 l2 x2 o2 ks2) 1) st stF _ _ hB (mo hm) fun st hp=> ?_);(rw[hp] at hm hQ);(clear hp);(conv=>whnf))
   (refine⟨rfl,?_⟩;(conv=>whnf);((refine put_st (st:=st) hJ [t_if] (by simp) (by simp) hB (mo hm) fun st hp=> ?_);(rw[hp] at hm hQ);(clear hp);(conv=>whnf)))
   ((refine⟨rfl,0,_,rfl,rfl,?_⟩);(conv=>whnf))
   ((refine((h f (Nat.le_refl f)).at' (.mk k1 l1 x1 o1 ks1) 1) st stF _ _ hB (mo hm) fun st hp=> ?_);(rw[hp] at hm hQ);(clear hp);(conv=>whnf))
   (refine⟨rfl,?_⟩;(conv=>whnf);((refine put_st (st:=st) hJ [t_else] (by simp) (by simp) hB (mo hm) fun st hp=> ?_);(rw[hp] at hm hQ);(clear hp);(conv=>whnf)))
   ((refine⟨rfl,2,_,rfl,rfl,?_⟩);(conv=>whnf))
   ((refine((h f (Nat.le_refl f)).at' (.mk k3 l3 x3 o3 ks3) 0) st stF _ _ hB (mo hm) fun st hp=> ?_);(rw[hp] at hm hQ);(clear hp);(conv=>whnf))
   exact hQ _ rfl
 by_cases h50:k=50
 ·subst h50
  rcases ks with _ | ⟨⟨k1,l1,x1,o1,ks1⟩,_ | ⟨⟨k2,l2,x2,o2,ks2⟩,ks⟩⟩
  ·simp only[pe,Nd.kind,Nd.text,Nd.op,Nd.kids,Nat.reduceEqDiff,reduceCtorEq,or_self,or_true,true_or,or_false,false_or,and_true,true_and,and_false,false_and,↓reduceIte] at hm hQ
   (conv=>whnf)
   refine count_st (st:=st) (fun hn hl hg3 hk=> ?_) fun st hb hk=> ?_
   case refine_2=>
    rw[hk] at hm hQ
    (conv=>whnf)
    exact hQ _ rfl
   rw[hk] at hm hQ
   (conv=>whnf)
   simp only[List.length_cons,List.length_nil] at hl;omega
  ·simp only[pe,Nd.kind,Nd.text,Nd.op,Nd.kids,Nat.reduceEqDiff,reduceCtorEq,or_self,or_true,true_or,or_false,false_or,and_true,true_and,and_false,false_and,↓reduceIte] at hm hQ
   (conv=>whnf)
   refine count_st (st:=st) (fun hn hl hg3 hk=> ?_) fun st hb hk=> ?_
   case refine_2=>
    rw[hk] at hm hQ
    (conv=>whnf)
    exact hQ _ rfl
   rw[hk] at hm hQ
   (conv=>whnf)
   simp only[List.length_cons,List.length_nil] at hl;omega
  ·by_cases hpl:0<ks1.length
   ·simp only[pe,Nd.kind,Nd.text,Nd.op,Nd.kids,Nat.reduceEqDiff,reduceCtorEq,or_self,or_true,true_or,or_false,false_or,and_true,true_and,and_false,false_and,↓reduceIte,hpl] at hm hQ
    (conv=>whnf)
    refine count_st (st:=st) (fun hn hl hg3 hk=> ?_) fun st hb hk=> ?_
    case refine_2=>
     rw[hk] at hm hQ
     (conv=>whnf)
     exact hQ _ rfl
    rw[hk] at hm hQ
    (conv=>whnf)
    (refine⟨rfl,?_⟩;(conv=>whnf);((refine put_st (st:=st) hJ [[108,97,109,98,100,97]] (by simp) (by simp) hB (mo hm) fun st hp=> ?_);(rw[hp] at hm hQ);(clear hp);(conv=>whnf)))
    ((refine⟨rfl,0,_,rfl,rfl,?_⟩);(conv=>whnf))
    intro hx
    (conv=>whnf)
    refine ifT_c (fun hc=> ?_) fun hc=>by exfalso;simp[ndsS_len] at hc;simp[hc] at hpl
    (conv=>whnf)
    (refine⟨rfl,?_⟩;(conv=>whnf);((refine put_st (st:=st) hJ [t_sp] (by simp) (by simp) hB (mo hm) fun st hp=> ?_);(rw[hp] at hm hQ);(clear hp);(conv=>whnf)))
    ((refine⟨rfl,0,_,rfl,rfl,?_⟩);(conv=>whnf))
    ((refine((h f (Nat.le_refl f)).row ks1) st stF _ _ hB (mo hm) fun st hp=> ?_);(rw[hp] at hm hQ);(clear hp);(conv=>whnf))
    (refine⟨rfl,?_⟩;(conv=>whnf);((refine put_st (st:=st) hJ [t_cl] (by simp) (by simp) hB (mo hm) fun st hp=> ?_);(rw[hp] at hm hQ);(clear hp);(conv=>whnf)))
    ((refine⟨rfl,1,_,rfl,rfl,?_⟩);(conv=>whnf))
    ((refine((h f (Nat.le_refl f)).at' (.mk k2 l2 x2 o2 ks2) 0) st stF _ _ hB (mo hm) fun st hp=> ?_);(rw[hp] at hm hQ);(clear hp);(conv=>whnf))
    exact hQ _ rfl
   ·simp only[pe,Nd.kind,Nd.text,Nd.op,Nd.kids,Nat.reduceEqDiff,reduceCtorEq,or_self,or_true,true_or,or_false,false_or,and_true,true_and,and_false,false_and,↓reduceIte,hpl] at hm hQ
    (conv=>whnf)
    refine count_st (st:=st) (fun hn hl hg3 hk=> ?_) fun st hb hk=> ?_
    case refine_2=>
     rw[hk] at hm hQ
     (conv=>whnf)
     exact hQ _ rfl
    rw[hk] at hm hQ
    (conv=>whnf)
    (refine⟨rfl,?_⟩;(conv=>whnf);((refine put_st (st:=st) hJ [[108,97,109,98,100,97]] (by simp) (by simp) hB (mo hm) fun st hp=> ?_);(rw[hp] at hm hQ);(clear hp);(conv=>whnf)))
    ((refine⟨rfl,0,_,rfl,rfl,?_⟩);(conv=>whnf))
    intro hx
    (conv=>whnf)
    refine ifT_c (fun hc=>absurd (of_decide_eq_true hc) (by rw[ndsS_len];intro h9;exact hpl (by have:(0:Int)<(ks1.length:Int):=h9;omega))) fun hc=> ?_
    (conv=>whnf)
    ((refine⟨rfl,0,_,rfl,rfl,?_⟩);(conv=>whnf))
    ((refine((h f (Nat.le_refl f)).row ks1) st stF _ _ hB (mo hm) fun st hp=> ?_);(rw[hp] at hm hQ);(clear hp);(conv=>whnf))
    (refine⟨rfl,?_⟩;(conv=>whnf);((refine put_st (st:=st) hJ [t_cl] (by simp) (by simp) hB (mo hm) fun st hp=> ?_);(rw[hp] at hm hQ);(clear hp);(conv=>whnf)))
    ((refine⟨rfl,1,_,rfl,rfl,?_⟩);(conv=>whnf))
    ((refine((h f (Nat.le_refl f)).at' (.mk k2 l2 x2 o2 ks2) 0) st stF _ _ hB (mo hm) fun st hp=> ?_);(rw[hp] at hm hQ);(clear hp);(conv=>whnf))
    exact hQ _ rfl
 by_cases h42:k=42
 ·subst h42
  rcases ks with _ | ⟨⟨k0,l0,x0,o0,ks0⟩,ks⟩
  all_goals
   simp only[pe,Nd.kind,Nd.text,Nd.op,Nd.kids,Nat.reduceEqDiff,reduceCtorEq,or_self,or_true,true_or,or_false,false_or,and_true,true_and,and_false,false_and,↓reduceIte] at hm hQ
   (conv=>whnf)
   refine count_st (st:=st) (fun hn hl hg3 hk=> ?_) fun st hb hk=> ?_
   case refine_2=>
    rw[hk] at hm hQ
    (conv=>whnf)
    exact hQ _ rfl
   rw[hk] at hm hQ
   (conv=>whnf)
  ·simp only[List.length_cons,List.length_nil] at hl;omega
  ·((refine⟨rfl,0,_,rfl,rfl,?_⟩);(conv=>whnf))
   ((refine((h f (Nat.le_refl f)).at' (.mk k0 l0 x0 o0 ks0) 5) st stF _ _ hB (mo hm) fun st hp=> ?_);(rw[hp] at hm hQ);(clear hp);(conv=>whnf))
   intro hx
   (conv=>whnf)
   generalize hE:pe f (.links ks) st=stE at hm hQ
   have hQ0:=hQ
   have hmE:stE.w≤stF.w:=mo hm
   refine loop_1 90 (fun m a s1=>∃(i:Nat) (st1:PSt),a=iS i∧m=ks.length-i∧i≤ks.length∧s1=⟨0,[oP st1,oNd (.mk 42 ln x o (.mk k0 l0 x0 o0 ks0::ks))]⟩∧pe (f-i) (.links (ks.drop i)) st1=stE) ks.length [] rfl ⟨0,st,rfl,rfl,Nat.zero_le _,rfl,hE⟩ ?_
   rintro m a f1 s1 ⟨i,st,rfl,rfl,hi,rfl,h1⟩
   (conv=>whnf)
   refine ifT_c (fun hc=> ?_) fun hc=> ?_
   ·have hi:i<ks.length:=by
     have this:(i:Int)<((ndsS ks).length:Nat):=of_decide_eq_true hc
     rw[ndsS_len] at this;omega
    obtain⟨⟨k1,l1,x1,o1,ks1⟩,ht⟩ : ∃t,ks[i]? = some t:=⟨_,List.getElem?_eq_getElem hi⟩
    have hwi:=wrap_inc hi (by rw[←ndsS_len];exact hx)
    rw[drop_get ht] at h1
    obtain⟨g,hg⟩ : ∃g,f-i=g+1:=by
     cases hg:f-i with
     | zero=>rw[hg] at h1;exact(pe_lost h1 hB hmE).elim
     | succ g=>exact⟨g,rfl⟩
    have hg2:f-(i+1)=g:=by omega
    rw[hg] at h1
    have hQ:=h1
    rw[←h1] at hmE
    have hm:=hmE
    rcases ks1 with _ | ⟨⟨k2,l2,x2,o2,ks2⟩,ks1⟩
    all_goals
     simp only[pe,Nd.kind,Nd.text,Nd.op,Nd.kids,Nat.reduceEqDiff,reduceCtorEq,or_self,or_true,true_or,or_false,false_or,and_true,true_and,and_false,false_and,↓reduceIte] at hm hQ
     (conv=>whnf)
     refine⟨rfl,i,_,rfl,ndsS_get ht,?_⟩
     (conv=>whnf)
     refine links_tc ?_
     (conv=>whnf)
     (refine⟨rfl,?_⟩;(conv=>whnf);((refine put_st (st:=st) hJ [t_sp,opN linkL o1,t_sp] (by simp) (by simp) hB (mo hm) fun st hp=> ?_);(rw[hp] at hm hQ);(clear hp);(conv=>whnf)))
     refine count_st (st:=st) (fun hn hl hg3 hk=> ?_) fun st hb hk=> ?_
     case refine_2=>
      rw[hk] at hm hQ
      (conv=>whnf)
      refine⟨_,[],?_,rfl,i+1,st,hwi,rfl,hi,rfl,?_⟩
      ·omega
      ·rw[hg2];exact hQ
     rw[hk] at hm hQ
     (conv=>whnf)
    ·simp only[List.length_cons,List.length_nil] at hl;omega
    ·((refine⟨rfl,0,_,rfl,rfl,?_⟩);(conv=>whnf))
     ((refine((h g (by omega)).at' (.mk k2 l2 x2 o2 ks2) 5) st stF _ _ hB (mo hm) fun st hp=> ?_);(rw[hp] at hm hQ);(clear hp);(conv=>whnf))
     refine⟨_,[],?_,rfl,i+1,st,hwi,rfl,hi,rfl,?_⟩
     ·omega
     ·rw[hg2];exact hQ
   ·have hi:i=ks.length:=by
     have this : ¬(i:Int)<((ndsS ks).length:Nat):=of_decide_eq_false hc
     rw[ndsS_len] at this;omega
    subst hi
    rw[List.drop_length] at h1
    cases hg:f-ks.length with
    | zero=>rw[hg] at h1;exact(pe_lost h1 hB hmE).elim
    | succ g=>
      rw[hg] at h1
      simp only[pe] at h1
      subst h1
      (conv=>whnf)
      exact hQ _ rfl
 have n37 : ¬k=37:=h37
 have n38 : ¬k=38:=h38
 have n41 : ¬k=41:=h41
 have n49 : ¬k=49:=h49
 have n50 : ¬k=50:=h50
 have n42 : ¬k=42:=h42
 by_cases hk:k=39
 ·rcases hk with rfl
  all_goals
   simp only[pe,Nd.kind,Nd.text,Nd.op,Nd.kids,Nat.reduceEqDiff,reduceCtorEq,or_self,or_true,true_or,or_false,false_or,and_true,true_and,and_false,false_and,↓reduceIte] at hm hQ
   (conv=>whnf)
   ((refine((h f (Nat.le_refl f)).two (.mk 39 ln x o ks) 2 [97,110,100] 3) st stF _ _ hB (mo hm) fun st hp=> ?_);(rw[hp] at hm hQ);(clear hp);(conv=>whnf))
   exact hQ _ rfl
 by_cases hk:k=40
 ·rcases hk with rfl
  all_goals
   simp only[pe,Nd.kind,Nd.text,Nd.op,Nd.kids,Nat.reduceEqDiff,reduceCtorEq,or_self,or_true,true_or,or_false,false_or,and_true,true_and,and_false,false_and,↓reduceIte] at hm hQ
   (conv=>whnf)
   ((refine((h f (Nat.le_refl f)).two (.mk 40 ln x o ks) 1 [111,114] 2) st stF _ _ hB (mo hm) fun st hp=> ?_);(rw[hp] at hm hQ);(clear hp);(conv=>whnf))
   exact hQ _ rfl
 have n39 : ¬k=39:=by omega
 have n40 : ¬k=40:=by omega
 simp only[pe,Nd.kind,Nd.text,Nd.op,Nd.kids,Nat.reduceEqDiff,reduceCtorEq,or_self,or_true,true_or,or_false,false_or,and_true,true_and,and_false,false_and,↓reduceIte,n37,n38,n41,n49,n50,n42,n39,n40] at hm hQ
 (conv=>whnf)
 repeat' (refine ifT_c (fun hc=>by exfalso;simp at hc;omega) fun hc=> ?_;(conv=>whnf))
 have h9:=hQ _ rfl
 rw[prS_sb] at h9
 exact h9
end Can
end Go.Proofs.YtdfgkcoenagaaaaGreat
end
section
namespace Go.Proofs.YtdfgkcoenagaaaaGreat
namespace Can
open Go Go.RowKit
set_option linter.unusedSimpArgs false
set_option linter.unusedVariables false
set_option maxRecDepth 4000
attribute [local irreducible] TC putL pe padS quoS cntN okS PSt.sb PSt.dp
variable {Z:TP} {X:Pan} {f:Nat} (hJ:Z.J=Jb) (h : ∀g,g≤f→PAl Z X g)
include hJ h
theorem pt_block(n:Nd):PrT Z X (f+1) (.block n) 47 [ndA n]:=by
 intro st stF Q R hB hm hQ
 (refine tc_rS d0_ok (by rfl) (by kernel_rfl) ?_);(conv in (rF _ _).body=>reduce);(conv in (rF _ _).res=>reduce)
 obtain⟨k,ln,x,o,ks⟩:=n
 simp only[pe,Nd.kind,Nd.text,Nd.op,Nd.kids,Nat.reduceEqDiff,reduceCtorEq,or_self,or_true,true_or,or_false,false_or,and_true,true_and,and_false,false_and,↓reduceIte] at hm hQ
 (conv=>whnf)
 (refine⟨rfl,?_⟩;(conv=>whnf);((refine put_st (st:=st) hJ [t_cn] (by simp) (by simp) hB (mo hm) fun st hp=> ?_);(rw[hp] at hm hQ);(clear hp);(conv=>whnf)))
 intro hx
 (conv=>whnf)
 have hP:=prS_dp st (Go.IntKind.wrap .i64 (st.deep+1))
 generalize st.dp (Go.IntKind.wrap .i64 (st.deep+1))=st2 at hm hQ hP
 generalize hE:pe f (.blockL ks) st2=stE at hm hQ
 have hQ0:=hQ
 have hmE:stE.w≤stF.w:=mo hm
 refine loop_1 19 (fun m a s1=>∃(i:Nat) (st1:PSt),a=iS i∧m=ks.length-i∧i≤ks.length∧s1=⟨0,[oP st1,oNd (.mk k ln x o ks)]⟩∧pe (f-i) (.blockL (ks.drop i)) st1=stE) ks.length [] rfl ⟨0,st2,rfl,rfl,Nat.zero_le _,(by simp only[oP,hP];rfl),hE⟩ ?_
 rintro m a f1 s1 ⟨i,st,rfl,rfl,hi,rfl,h1⟩
 (conv=>whnf)
 refine ifT_c (fun hc=> ?_) fun hc=> ?_
 ·have hi:i<ks.length:=by
   have this:(i:Int)<((ndsS ks).length:Nat):=of_decide_eq_true hc
   rw[ndsS_len] at this;omega
  obtain⟨⟨k1,l1,x1,o1,ks1⟩,ht⟩ : ∃t,ks[i]? = some t:=⟨_,List.getElem?_eq_getElem hi⟩
  have hwi:=wrap_inc hi (by rw[←ndsS_len];exact hx)
  rw[drop_get ht] at h1
  obtain⟨g,hg⟩ : ∃g,f-i=g+1:=by
   cases hg:f-i with
   | zero=>rw[hg] at h1;exact(pe_lost h1 hB hmE).elim
   | succ g=>exact⟨g,rfl⟩
  have hg2:f-(i+1)=g:=by omega
  rw[hg] at h1
  have hQ:=h1
  rw[←h1] at hmE
  have hm:=hmE
  (conv=>whnf)
  refine⟨rfl,i,_,rfl,ndsS_get ht,?_⟩
  (conv=>whnf)
  refine ifT_c (fun hb=> ?_) fun hb=> ?_
  ·simp only[pe,hb,↓reduceIte] at hQ
   subst hQ
   (conv=>whnf)
   have h9:=hQ0 _ rfl
   rw[prS_dp] at h9
   exact h9
  ·simp only[pe,hb,Bool.false_eq_true,↓reduceIte] at hm hQ
   (conv=>whnf)
   ((refine((h g (by omega)).stmt (.mk k1 l1 x1 o1 ks1)) st stF _ _ hB (mo hm) fun st hp=> ?_);(rw[hp] at hm hQ);(clear hp);(conv=>whnf))
   refine⟨_,[],?_,rfl,i+1,st,hwi,rfl,hi,rfl,?_⟩
   ·omega
   ·rw[hg2];exact hQ
 ·have hi:i=ks.length:=by
   have this : ¬(i:Int)<((ndsS ks).length:Nat):=of_decide_eq_false hc
   rw[ndsS_len] at this;omega
  subst hi
  rw[List.drop_length] at h1
  cases hg:f-ks.length with
  | zero=>rw[hg] at h1;exact(pe_lost h1 hB hmE).elim
  | succ g=>
    rw[hg] at h1
    simp only[pe] at h1
    subst h1
    (conv=>whnf)
    have h9:=hQ0 _ rfl
    rw[prS_dp] at h9
    exact h9
theorem pt_ifs(s:List UInt8)(n:Nd):PrT Z X (f+1) (.ifs s n) 24 [rS (.string ⟨⟨s⟩⟩),ndA n]:=by
 intro st stF Q R hB hm hQ
 (refine tc_rS d0_ok (by rfl) (by kernel_rfl) ?_);(conv in (rF _ _).body=>reduce);(conv in (rF _ _).res=>reduce)
 obtain⟨k,ln,x,o,ks⟩:=n
 rcases ks with _ | ⟨⟨k1,l1,x1,o1,ks1⟩,_ | ⟨⟨k2,l2,x2,o2,ks2⟩,_ | ⟨⟨k3,l3,x3,o3,ks3⟩,ks⟩⟩⟩
 ·simp only[pe,Nd.kind,Nd.text,Nd.op,Nd.kids,Nat.reduceEqDiff,reduceCtorEq,or_self,or_true,true_or,or_false,false_or,and_true,true_and,and_false,false_and,↓reduceIte] at hm hQ
  (conv=>whnf)
  refine count_st (st:=st) (fun hn hl hg3 hk=> ?_) fun st hb hk=> ?_
  case refine_2=>
   rw[hk] at hm hQ
   (conv=>whnf)
   exact hQ _ rfl
  rw[hk] at hm hQ
  (conv=>whnf)
  simp only[List.length_cons,List.length_nil] at hl;omega
 ·simp only[pe,Nd.kind,Nd.text,Nd.op,Nd.kids,Nat.reduceEqDiff,reduceCtorEq,or_self,or_true,true_or,or_false,false_or,and_true,true_and,and_false,false_and,↓reduceIte] at hm hQ
  (conv=>whnf)
  refine count_st (st:=st) (fun hn hl hg3 hk=> ?_) fun st hb hk=> ?_
  case refine_2=>
   rw[hk] at hm hQ
   (conv=>whnf)
   exact hQ _ rfl
  rw[hk] at hm hQ
  (conv=>whnf)
  simp only[List.length_cons,List.length_nil] at hl;omega
 ·simp only[pe,Nd.kind,Nd.text,Nd.op,Nd.kids,Nat.reduceEqDiff,reduceCtorEq,or_self,or_true,true_or,or_false,false_or,and_true,true_and,and_false,false_and,↓reduceIte] at hm hQ
  (conv=>whnf)
  refine count_st (st:=st) (fun hn hl hg3 hk=> ?_) fun st hb hk=> ?_
  case refine_2=>
   rw[hk] at hm hQ
   (conv=>whnf)
   exact hQ _ rfl
  rw[hk] at hm hQ
  (conv=>whnf)
  ((refine pad_st (st:=st) hJ s hB (mo hm) fun st hp=> ?_);(rw[hp] at hm hQ);(clear hp);(conv=>whnf))
  ((refine⟨rfl,0,_,rfl,rfl,?_⟩);(conv=>whnf))
  ((refine((h f (Nat.le_refl f)).at' (.mk k1 l1 x1 o1 ks1) 0) st stF _ _ hB (mo hm) fun st hp=> ?_);(rw[hp] at hm hQ);(clear hp);(conv=>whnf))
  ((refine⟨rfl,1,_,rfl,rfl,?_⟩);(conv=>whnf))
  ((refine((h f (Nat.le_refl f)).block (.mk k2 l2 x2 o2 ks2)) st stF _ _ hB (mo hm) fun st hp=> ?_);(rw[hp] at hm hQ);(clear hp);(conv=>whnf))
  intro hx
  (conv=>whnf)
  exact hQ _ rfl
 ·rcases ks3 with _ | ⟨⟨k4,l4,x4,o4,ks4⟩,_ | ⟨⟨k5,l5,x5,o5,ks5⟩,ks3⟩⟩
  ·simp only[pe,Nd.kind,Nd.text,Nd.op,Nd.kids,Nat.reduceEqDiff,reduceCtorEq,or_self,or_true,true_or,or_false,false_or,and_true,true_and,and_false,false_and,↓reduceIte] at hm hQ
   (conv=>whnf)
   refine count_st (st:=st) (fun hn hl hg3 hk=> ?_) fun st hb hk=> ?_
   case refine_2=>
    rw[hk] at hm hQ
    (conv=>whnf)
    exact hQ _ rfl
   rw[hk] at hm hQ
   (conv=>whnf)
   ((refine pad_st (st:=st) hJ s hB (mo hm) fun st hp=> ?_);(rw[hp] at hm hQ);(clear hp);(conv=>whnf))
   ((refine⟨rfl,0,_,rfl,rfl,?_⟩);(conv=>whnf))
   ((refine((h f (Nat.le_refl f)).at' (.mk k1 l1 x1 o1 ks1) 0) st stF _ _ hB (mo hm) fun st hp=> ?_);(rw[hp] at hm hQ);(clear hp);(conv=>whnf))
   ((refine⟨rfl,1,_,rfl,rfl,?_⟩);(conv=>whnf))
   ((refine((h f (Nat.le_refl f)).block (.mk k2 l2 x2 o2 ks2)) st stF _ _ hB (mo hm) fun st hp=> ?_);(rw[hp] at hm hQ);(clear hp);(conv=>whnf))
   intro hx
   (conv=>whnf)
   ((refine⟨rfl,2,_,rfl,rfl,?_⟩);(conv=>whnf))
   intro hx2
   (conv=>whnf)
   ((refine pad_st (st:=st) hJ [101,108,115,101] hB (mo hm) fun st hp=> ?_);(rw[hp] at hm hQ);(clear hp);(conv=>whnf))
   ((refine((h f (Nat.le_refl f)).block (.mk k3 l3 x3 o3 [])) st stF _ _ hB (mo hm) fun st hp=> ?_);(rw[hp] at hm hQ);(clear hp);(conv=>whnf))
   exact hQ _ rfl
  ·by_cases h5:k4=5
   ·subst h5
    simp only[pe,Nd.kind,Nd.text,Nd.op,Nd.kids,Nat.reduceEqDiff,reduceCtorEq,or_self,or_true,true_or,or_false,false_or,and_true,true_and,and_false,false_and,↓reduceIte] at hm hQ
    (conv=>whnf)
    refine count_st (st:=st) (fun hn hl hg3 hk=> ?_) fun st hb hk=> ?_
    case refine_2=>
     rw[hk] at hm hQ
     (conv=>whnf)
     exact hQ _ rfl
    rw[hk] at hm hQ
    (conv=>whnf)
    ((refine pad_st (st:=st) hJ s hB (mo hm) fun st hp=> ?_);(rw[hp] at hm hQ);(clear hp);(conv=>whnf))
    ((refine⟨rfl,0,_,rfl,rfl,?_⟩);(conv=>whnf))
    ((refine((h f (Nat.le_refl f)).at' (.mk k1 l1 x1 o1 ks1) 0) st stF _ _ hB (mo hm) fun st hp=> ?_);(rw[hp] at hm hQ);(clear hp);(conv=>whnf))
    ((refine⟨rfl,1,_,rfl,rfl,?_⟩);(conv=>whnf))
    ((refine((h f (Nat.le_refl f)).block (.mk k2 l2 x2 o2 ks2)) st stF _ _ hB (mo hm) fun st hp=> ?_);(rw[hp] at hm hQ);(clear hp);(conv=>whnf))
    intro hx
    (conv=>whnf)
    ((refine⟨rfl,2,_,rfl,rfl,?_⟩);(conv=>whnf))
    intro hx2
    (conv=>whnf)
    ((refine⟨rfl,0,_,rfl,rfl,?_⟩);(conv=>whnf))
    ((refine⟨rfl,0,_,rfl,rfl,?_⟩);(conv=>whnf))
    ((refine((h f (Nat.le_refl f)).ifs [101,108,105,102,32] (.mk 5 l4 x4 o4 ks4)) st stF _ _ hB (mo hm) fun st hp=> ?_);(rw[hp] at hm hQ);(clear hp);(conv=>whnf))
    exact hQ _ rfl
   ·simp only[pe,Nd.kind,Nd.text,Nd.op,Nd.kids,Nat.reduceEqDiff,reduceCtorEq,or_self,or_true,true_or,or_false,false_or,and_true,true_and,and_false,false_and,↓reduceIte,h5] at hm hQ
    (conv=>whnf)
    refine count_st (st:=st) (fun hn hl hg3 hk=> ?_) fun st hb hk=> ?_
    case refine_2=>
     rw[hk] at hm hQ
     (conv=>whnf)
     exact hQ _ rfl
    rw[hk] at hm hQ
    (conv=>whnf)
    ((refine pad_st (st:=st) hJ s hB (mo hm) fun st hp=> ?_);(rw[hp] at hm hQ);(clear hp);(conv=>whnf))
    ((refine⟨rfl,0,_,rfl,rfl,?_⟩);(conv=>whnf))
    ((refine((h f (Nat.le_refl f)).at' (.mk k1 l1 x1 o1 ks1) 0) st stF _ _ hB (mo hm) fun st hp=> ?_);(rw[hp] at hm hQ);(clear hp);(conv=>whnf))
    ((refine⟨rfl,1,_,rfl,rfl,?_⟩);(conv=>whnf))
    ((refine((h f (Nat.le_refl f)).block (.mk k2 l2 x2 o2 ks2)) st stF _ _ hB (mo hm) fun st hp=> ?_);(rw[hp] at hm hQ);(clear hp);(conv=>whnf))
    intro hx
    (conv=>whnf)
    ((refine⟨rfl,2,_,rfl,rfl,?_⟩);(conv=>whnf))
    intro hx2
    (conv=>whnf)
    ((refine⟨rfl,0,_,rfl,rfl,?_⟩);(conv=>whnf))
    refine ifT_c (fun hc=>by exfalso;simp at hc;omega) fun hc=> ?_
    (conv=>whnf)
    ((refine pad_st (st:=st) hJ [101,108,115,101] hB (mo hm) fun st hp=> ?_);(rw[hp] at hm hQ);(clear hp);(conv=>whnf))
    ((refine((h f (Nat.le_refl f)).block (.mk k3 l3 x3 o3 [(.mk k4 l4 x4 o4 ks4)])) st stF _ _ hB (mo hm) fun st hp=> ?_);(rw[hp] at hm hQ);(clear hp);(conv=>whnf))
    exact hQ _ rfl
  ·simp only[pe,Nd.kind,Nd.text,Nd.op,Nd.kids,Nat.reduceEqDiff,reduceCtorEq,or_self,or_true,true_or,or_false,false_or,and_true,true_and,and_false,false_and,↓reduceIte] at hm hQ
   (conv=>whnf)
   refine count_st (st:=st) (fun hn hl hg3 hk=> ?_) fun st hb hk=> ?_
   case refine_2=>
    rw[hk] at hm hQ
    (conv=>whnf)
    exact hQ _ rfl
   rw[hk] at hm hQ
   (conv=>whnf)
   ((refine pad_st (st:=st) hJ s hB (mo hm) fun st hp=> ?_);(rw[hp] at hm hQ);(clear hp);(conv=>whnf))
   ((refine⟨rfl,0,_,rfl,rfl,?_⟩);(conv=>whnf))
   ((refine((h f (Nat.le_refl f)).at' (.mk k1 l1 x1 o1 ks1) 0) st stF _ _ hB (mo hm) fun st hp=> ?_);(rw[hp] at hm hQ);(clear hp);(conv=>whnf))
   ((refine⟨rfl,1,_,rfl,rfl,?_⟩);(conv=>whnf))
   ((refine((h f (Nat.le_refl f)).block (.mk k2 l2 x2 o2 ks2)) st stF _ _ hB (mo hm) fun st hp=> ?_);(rw[hp] at hm hQ);(clear hp);(conv=>whnf))
   intro hx
   (conv=>whnf)
   ((refine⟨rfl,2,_,rfl,rfl,?_⟩);(conv=>whnf))
   intro hx2
   (conv=>whnf)
   ((refine pad_st (st:=st) hJ [101,108,115,101] hB (mo hm) fun st hp=> ?_);(rw[hp] at hm hQ);(clear hp);(conv=>whnf))
   ((refine((h f (Nat.le_refl f)).block (.mk k3 l3 x3 o3 ((.mk k4 l4 x4 o4 ks4)::(.mk k5 l5 x5 o5 ks5)::ks3))) st stF _ _ hB (mo hm) fun st hp=> ?_);(rw[hp] at hm hQ);(clear hp);(conv=>whnf))
   exact hQ _ rfl
end Can
end Go.Proofs.YtdfgkcoenagaaaaGreat
end
section
namespace Go.Proofs.YtdfgkcoenagaaaaGreat
namespace Can
open Go Go.RowKit
set_option linter.unusedSimpArgs false
set_option linter.unusedVariables false
set_option maxRecDepth 4000
attribute [local irreducible] TC putL pe padS quoS cntN okS PSt.sb PSt.dp
variable {Z:TP} {X:Pan} {f:Nat} (hJ:Z.J=Jb) (h : ∀g,g≤f→PAl Z X g)
include hJ h
theorem pt_tries(n:Nd):PrT Z X (f+1) (.tries n) 25 [ndA n]:=by
 intro st stF Q R hB hm hQ
 (refine tc_rS d0_ok (by rfl) (by kernel_rfl) ?_);(conv in (rF _ _).body=>reduce);(conv in (rF _ _).res=>reduce)
 obtain⟨k,ln,x,o,ks⟩:=n
 rcases ks with _ | ⟨⟨k0,l0,x0,o0,ks0⟩,ks⟩
 all_goals
  simp only[pe,Nd.kind,Nd.text,Nd.op,Nd.kids,Nat.reduceEqDiff,reduceCtorEq,or_self,or_true,true_or,or_false,false_or,and_true,true_and,and_false,false_and,↓reduceIte] at hm hQ
  (conv=>whnf)
  refine count_st (st:=st) (fun hn hl hg3 hk=> ?_) fun st hb hk=> ?_
  case refine_2=>
   rw[hk] at hm hQ
   (conv=>whnf)
   exact hQ _ rfl
  rw[hk] at hm hQ
  (conv=>whnf)
 ·simp only[List.length_cons,List.length_nil] at hl;omega
 ·((refine pad_st (st:=st) hJ [116,114,121] hB (mo hm) fun st hp=> ?_);(rw[hp] at hm hQ);(clear hp);(conv=>whnf))
  ((refine⟨rfl,0,_,rfl,rfl,?_⟩);(conv=>whnf))
  ((refine((h f (Nat.le_refl f)).block (.mk k0 l0 x0 o0 ks0)) st stF _ _ hB (mo hm) fun st hp=> ?_);(rw[hp] at hm hQ);(clear hp);(conv=>whnf))
  intro hx
  (conv=>whnf)
  generalize hE:pe f (.hands ks) st=stE at hm hQ
  have hQ0:=hQ
  have hmE:stE.w≤stF.w:=mo hm
  refine loop_1 22 (fun m a s1=>∃(i:Nat) (st1:PSt),a=iS i∧m=ks.length-i∧i≤ks.length∧s1=⟨0,[oP st1,oNd (.mk k ln x o (.mk k0 l0 x0 o0 ks0::ks))]⟩∧pe (f-i) (.hands (ks.drop i)) st1=stE) ks.length [] rfl ⟨0,st,rfl,rfl,Nat.zero_le _,rfl,hE⟩ ?_
  rintro m a f1 s1 ⟨i,st,rfl,rfl,hi,rfl,h1⟩
  (conv=>whnf)
  refine ifT_c (fun hc=> ?_) fun hc=> ?_
  ·have hi:i<ks.length:=by
    have this:(i:Int)<((ndsS ks).length:Nat):=of_decide_eq_true hc
    rw[ndsS_len] at this;omega
   obtain⟨⟨k1,l1,x1,o1,ks1⟩,ht⟩ : ∃t,ks[i]? = some t:=⟨_,List.getElem?_eq_getElem hi⟩
   have hwi:=wrap_inc hi (by rw[←ndsS_len];exact hx)
   rw[drop_get ht] at h1
   obtain⟨g,hg⟩ : ∃g,f-i=g+1:=by
    cases hg:f-i with
    | zero=>rw[hg] at h1;exact(pe_lost h1 hB hmE).elim
    | succ g=>exact⟨g,rfl⟩
   have hg2:f-(i+1)=g:=by omega
   rw[hg] at h1
   have hQ:=h1
   rw[←h1] at hmE
   have hm:=hmE
   rcases ks1 with _ | ⟨⟨k2,l2,x2,o2,ks2⟩,_ | ⟨⟨k3,l3,x3,o3,ks3⟩,_ | ⟨⟨k4,l4,x4,o4,ks4⟩,ks1⟩⟩⟩
   ·simp only[pe,Nd.kind,Nd.text,Nd.op,Nd.kids,Nat.reduceEqDiff,reduceCtorEq,or_self,or_true,true_or,or_false,false_or,and_true,true_and,and_false,false_and,↓reduceIte] at hm hQ
    (conv=>whnf)
    refine⟨rfl,i,_,rfl,ndsS_get ht,?_⟩
    (conv=>whnf)
    refine count_st (st:=st) (fun hn hl hg3 hk=> ?_) fun st hb hk=> ?_
    case refine_2=>
     rw[hk] at hQ
     subst hQ
     (conv=>whnf)
     exact hQ0 _ rfl
    rw[hk] at hm hQ
    (conv=>whnf)
    simp only[List.length_cons,List.length_nil] at hl;omega
   ·
    by_cases h22:k1=22
    ·subst h22
     simp only[pe,Nd.kind,Nd.text,Nd.op,Nd.kids,Nat.reduceEqDiff,reduceCtorEq,or_self,or_true,true_or,or_false,false_or,and_true,true_and,and_false,false_and,↓reduceIte,List.getLast?_cons_cons,List.getLast?_singleton] at hm hQ
     (conv=>whnf)
     refine⟨rfl,i,_,rfl,ndsS_get ht,?_⟩
     (conv=>whnf)
     refine count_st (st:=st) (fun hn hl hg3 hk=> ?_) fun st hb hk=> ?_
     case refine_2=>
      rw[hk] at hQ
      subst hQ
      (conv=>whnf)
      exact hQ0 _ rfl
     rw[hk] at hm hQ
     (conv=>whnf)
     ((refine pad_st (st:=st) hJ [102,105,110,97,108,108,121] hB (mo hm) fun st hp=> ?_);(rw[hp] at hm hQ);(clear hp);(conv=>whnf))
     intro hx2
     (conv=>whnf)
     ((refine⟨rfl,0,_,rfl,rfl,?_⟩);(conv=>whnf))
     ((refine((h g (by omega)).block (.mk k2 l2 x2 o2 ks2)) st stF _ _ hB (mo hm) fun st hp=> ?_);(rw[hp] at hm hQ);(clear hp);(conv=>whnf))
     refine⟨_,[],?_,rfl,i+1,st,hwi,rfl,hi,rfl,?_⟩
     ·omega
     ·rw[hg2];exact hQ
    ·by_cases hx1:x1= []
     ·simp only[pe,Nd.kind,Nd.text,Nd.op,Nd.kids,Nat.reduceEqDiff,reduceCtorEq,or_self,or_true,true_or,or_false,false_or,and_true,true_and,and_false,false_and,↓reduceIte,h22,eq_true hx1,List.getLast?_cons_cons,List.getLast?_singleton] at hm hQ
      (conv=>whnf)
      refine⟨rfl,i,_,rfl,ndsS_get ht,?_⟩
      (conv=>whnf)
      refine count_st (st:=st) (fun hn hl hg3 hk=> ?_) fun st hb hk=> ?_
      case refine_2=>
       rw[hk] at hQ
       subst hQ
       (conv=>whnf)
       exact hQ0 _ rfl
      rw[hk] at hm hQ
      (conv=>whnf)
      refine ifT_c (fun hc=>by exfalso;simp at hc;omega) fun hc=> ?_
      (conv=>whnf)
      ((refine pad_st (st:=st) hJ [101,120,99,101,112,116] hB (mo hm) fun st hp=> ?_);(rw[hp] at hm hQ);(clear hp);(conv=>whnf))
      intro hx2
      (conv=>whnf)
      refine ifT_c (fun hc=>absurd ((neS_nil hx1).symm.trans hc) (by decide)) fun hc=> ?_
      (conv=>whnf)
      intro hx3
      (conv=>whnf)
      ((refine⟨rfl,0,_,rfl,rfl,?_⟩);(conv=>whnf))
      ((refine((h g (by omega)).block (.mk k2 l2 x2 o2 ks2)) st stF _ _ hB (mo hm) fun st hp=> ?_);(rw[hp] at hm hQ);(clear hp);(conv=>whnf))
      refine⟨_,[],?_,rfl,i+1,st,hwi,rfl,hi,rfl,?_⟩
      ·omega
      ·rw[hg2];exact hQ
     ·simp only[pe,Nd.kind,Nd.text,Nd.op,Nd.kids,Nat.reduceEqDiff,reduceCtorEq,or_self,or_true,true_or,or_false,false_or,and_true,true_and,and_false,false_and,↓reduceIte,h22,eq_false hx1,List.getLast?_cons_cons,List.getLast?_singleton] at hm hQ
      (conv=>whnf)
      refine⟨rfl,i,_,rfl,ndsS_get ht,?_⟩
      (conv=>whnf)
      refine count_st (st:=st) (fun hn hl hg3 hk=> ?_) fun st hb hk=> ?_
      case refine_2=>
       rw[hk] at hQ
       subst hQ
       (conv=>whnf)
       exact hQ0 _ rfl
      rw[hk] at hm hQ
      (conv=>whnf)
      refine ifT_c (fun hc=>by exfalso;simp at hc;omega) fun hc=> ?_
      (conv=>whnf)
      ((refine pad_st (st:=st) hJ [101,120,99,101,112,116] hB (mo hm) fun st hp=> ?_);(rw[hp] at hm hQ);(clear hp);(conv=>whnf))
      intro hx2
      (conv=>whnf)
      refine ifT_c (fun hc=> ?_) fun hc=>absurd ((neS_cons hx1).symm.trans hc) (by decide)
      (conv=>whnf)
      (refine⟨rfl,?_⟩;(conv=>whnf);((refine put_st (st:=st) hJ [t_as,x1] (by simp) (by simp) hB (mo hm) fun st hp=> ?_);(rw[hp] at hm hQ);(clear hp);(conv=>whnf)))
      intro hx3
      (conv=>whnf)
      ((refine⟨rfl,0,_,rfl,rfl,?_⟩);(conv=>whnf))
      ((refine((h g (by omega)).block (.mk k2 l2 x2 o2 ks2)) st stF _ _ hB (mo hm) fun st hp=> ?_);(rw[hp] at hm hQ);(clear hp);(conv=>whnf))
      refine⟨_,[],?_,rfl,i+1,st,hwi,rfl,hi,rfl,?_⟩
      ·omega
      ·rw[hg2];exact hQ
   ·
    by_cases h22:k1=22
    ·subst h22
     simp only[pe,Nd.kind,Nd.text,Nd.op,Nd.kids,Nat.reduceEqDiff,reduceCtorEq,or_self,or_true,true_or,or_false,false_or,and_true,true_and,and_false,false_and,↓reduceIte,List.getLast?_cons_cons,List.getLast?_singleton] at hm hQ
     (conv=>whnf)
     refine⟨rfl,i,_,rfl,ndsS_get ht,?_⟩
     (conv=>whnf)
     refine count_st (st:=st) (fun hn hl hg3 hk=> ?_) fun st hb hk=> ?_
     case refine_2=>
      rw[hk] at hQ
      subst hQ
      (conv=>whnf)
      exact hQ0 _ rfl
     rw[hk] at hm hQ
     (conv=>whnf)
     ((refine pad_st (st:=st) hJ [102,105,110,97,108,108,121] hB (mo hm) fun st hp=> ?_);(rw[hp] at hm hQ);(clear hp);(conv=>whnf))
     intro hx2
     (conv=>whnf)
     ((refine⟨rfl,1,_,rfl,rfl,?_⟩);(conv=>whnf))
     ((refine((h g (by omega)).block (.mk k3 l3 x3 o3 ks3)) st stF _ _ hB (mo hm) fun st hp=> ?_);(rw[hp] at hm hQ);(clear hp);(conv=>whnf))
     refine⟨_,[],?_,rfl,i+1,st,hwi,rfl,hi,rfl,?_⟩
     ·omega
     ·rw[hg2];exact hQ
    ·by_cases hx1:x1= []
     ·simp only[pe,Nd.kind,Nd.text,Nd.op,Nd.kids,Nat.reduceEqDiff,reduceCtorEq,or_self,or_true,true_or,or_false,false_or,and_true,true_and,and_false,false_and,↓reduceIte,h22,eq_true hx1,List.getLast?_cons_cons,List.getLast?_singleton] at hm hQ
      (conv=>whnf)
      refine⟨rfl,i,_,rfl,ndsS_get ht,?_⟩
      (conv=>whnf)
      refine count_st (st:=st) (fun hn hl hg3 hk=> ?_) fun st hb hk=> ?_
      case refine_2=>
       rw[hk] at hQ
       subst hQ
       (conv=>whnf)
       exact hQ0 _ rfl
      rw[hk] at hm hQ
      (conv=>whnf)
      refine ifT_c (fun hc=>by exfalso;simp at hc;omega) fun hc=> ?_
      (conv=>whnf)
      ((refine pad_st (st:=st) hJ [101,120,99,101,112,116] hB (mo hm) fun st hp=> ?_);(rw[hp] at hm hQ);(clear hp);(conv=>whnf))
      intro hx2
      (conv=>whnf)
      (refine⟨rfl,?_⟩;(conv=>whnf);((refine put_st (st:=st) hJ [t_sp] (by simp) (by simp) hB (mo hm) fun st hp=> ?_);(rw[hp] at hm hQ);(clear hp);(conv=>whnf)))
      ((refine⟨rfl,0,_,rfl,rfl,?_⟩);(conv=>whnf))
      ((refine((h g (by omega)).at' (.mk k2 l2 x2 o2 ks2) 0) st stF _ _ hB (mo hm) fun st hp=> ?_);(rw[hp] at hm hQ);(clear hp);(conv=>whnf))
      refine ifT_c (fun hc=>absurd ((neS_nil hx1).symm.trans hc) (by decide)) fun hc=> ?_
      (conv=>whnf)
      intro hx3
      (conv=>whnf)
      ((refine⟨rfl,1,_,rfl,rfl,?_⟩);(conv=>whnf))
      ((refine((h g (by omega)).block (.mk k3 l3 x3 o3 ks3)) st stF _ _ hB (mo hm) fun st hp=> ?_);(rw[hp] at hm hQ);(clear hp);(conv=>whnf))
      refine⟨_,[],?_,rfl,i+1,st,hwi,rfl,hi,rfl,?_⟩
      ·omega
      ·rw[hg2];exact hQ
     ·simp only[pe,Nd.kind,Nd.text,Nd.op,Nd.kids,Nat.reduceEqDiff,reduceCtorEq,or_self,or_true,true_or,or_false,false_or,and_true,true_and,and_false,false_and,↓reduceIte,h22,eq_false hx1,List.getLast?_cons_cons,List.getLast?_singleton] at hm hQ
      (conv=>whnf)
      refine⟨rfl,i,_,rfl,ndsS_get ht,?_⟩
      (conv=>whnf)
      refine count_st (st:=st) (fun hn hl hg3 hk=> ?_) fun st hb hk=> ?_
      case refine_2=>
       rw[hk] at hQ
       subst hQ
       (conv=>whnf)
       exact hQ0 _ rfl
      rw[hk] at hm hQ
      (conv=>whnf)
      refine ifT_c (fun hc=>by exfalso;simp at hc;omega) fun hc=> ?_
      (conv=>whnf)
      ((refine pad_st (st:=st) hJ [101,120,99,101,112,116] hB (mo hm) fun st hp=> ?_);(rw[hp] at hm hQ);(clear hp);(conv=>whnf))
      intro hx2
      (conv=>whnf)
      (refine⟨rfl,?_⟩;(conv=>whnf);((refine put_st (st:=st) hJ [t_sp] (by simp) (by simp) hB (mo hm) fun st hp=> ?_);(rw[hp] at hm hQ);(clear hp);(conv=>whnf)))
      ((refine⟨rfl,0,_,rfl,rfl,?_⟩);(conv=>whnf))
      ((refine((h g (by omega)).at' (.mk k2 l2 x2 o2 ks2) 0) st stF _ _ hB (mo hm) fun st hp=> ?_);(rw[hp] at hm hQ);(clear hp);(conv=>whnf))
      refine ifT_c (fun hc=> ?_) fun hc=>absurd ((neS_cons hx1).symm.trans hc) (by decide)
      (conv=>whnf)
      (refine⟨rfl,?_⟩;(conv=>whnf);((refine put_st (st:=st) hJ [t_as,x1] (by simp) (by simp) hB (mo hm) fun st hp=> ?_);(rw[hp] at hm hQ);(clear hp);(conv=>whnf)))
      intro hx3
      (conv=>whnf)
      ((refine⟨rfl,1,_,rfl,rfl,?_⟩);(conv=>whnf))
      ((refine((h g (by omega)).block (.mk k3 l3 x3 o3 ks3)) st stF _ _ hB (mo hm) fun st hp=> ?_);(rw[hp] at hm hQ);(clear hp);(conv=>whnf))
      refine⟨_,[],?_,rfl,i+1,st,hwi,rfl,hi,rfl,?_⟩
      ·omega
      ·rw[hg2];exact hQ
   ·simp only[pe,Nd.kind,Nd.text,Nd.op,Nd.kids,Nat.reduceEqDiff,reduceCtorEq,or_self,or_true,true_or,or_false,false_or,and_true,true_and,and_false,false_and,↓reduceIte] at hm hQ
    (conv=>whnf)
    refine⟨rfl,i,_,rfl,ndsS_get ht,?_⟩
    (conv=>whnf)
    refine count_st (st:=st) (fun hn hl hg3 hk=> ?_) fun st hb hk=> ?_
    case refine_2=>
     rw[hk] at hQ
     subst hQ
     (conv=>whnf)
     exact hQ0 _ rfl
    rw[hk] at hm hQ
    (conv=>whnf)
    simp only[List.length_cons,List.length_nil] at hg3;omega
  ·have hi:i=ks.length:=by
    have this : ¬(i:Int)<((ndsS ks).length:Nat):=of_decide_eq_false hc
    rw[ndsS_len] at this;omega
   subst hi
   rw[List.drop_length] at h1
   cases hg:f-ks.length with
   | zero=>rw[hg] at h1;exact(pe_lost h1 hB hmE).elim
   | succ g=>
     rw[hg] at h1
     simp only[pe] at h1
     subst h1
     (conv=>whnf)
     exact hQ0 _ rfl
theorem pt_stmt(n:Nd):PrT Z X (f+1) (.stmt n) 14 [ndA n]:=by
 intro st stF Q R hB hm hQ
 (refine tc_rS d0_ok (by rfl) (by kernel_rfl) ?_);(conv in (rF _ _).body=>reduce);(conv in (rF _ _).res=>reduce)
 obtain⟨k,ln,x,o,ks⟩:=n
 by_cases hk:k=5
 ·rcases hk with rfl
  all_goals
   simp only[pe,Nd.kind,Nd.text,Nd.op,Nd.kids,Nat.reduceEqDiff,reduceCtorEq,or_self,or_true,true_or,or_false,false_or,and_true,true_and,and_false,false_and,↓reduceIte] at hm hQ
   (conv=>whnf)
   ((refine((h f (Nat.le_refl f)).ifs [105,102,32] (.mk 5 ln x o ks)) st stF _ _ hB (mo hm) fun st hp=> ?_);(rw[hp] at hm hQ);(clear hp);(conv=>whnf))
   exact hQ _ rfl
 by_cases hk:k=15
 ·rcases hk with rfl
  all_goals
   simp only[pe,Nd.kind,Nd.text,Nd.op,Nd.kids,Nat.reduceEqDiff,reduceCtorEq,or_self,or_true,true_or,or_false,false_or,and_true,true_and,and_false,false_and,↓reduceIte] at hm hQ
   (conv=>whnf)
   ((refine((h f (Nat.le_refl f)).tries (.mk 15 ln x o ks)) st stF _ _ hB (mo hm) fun st hp=> ?_);(rw[hp] at hm hQ);(clear hp);(conv=>whnf))
   exact hQ _ rfl
 by_cases hk:k=6
 ·rcases hk with rfl
  all_goals
   simp only[pe,Nd.kind,Nd.text,Nd.op,Nd.kids,Nat.reduceEqDiff,reduceCtorEq,or_self,or_true,true_or,or_false,false_or,and_true,true_and,and_false,false_and,↓reduceIte] at hm hQ
   (conv=>whnf)
   ((refine((h f (Nat.le_refl f)).head (.mk 6 ln x o ks) (.inl rfl)) st stF _ _ hB (mo hm) fun st hp=> ?_);(rw[hp] at hm hQ);(clear hp);(conv=>whnf))
   exact hQ _ rfl
 by_cases hk:k=7
 ·rcases hk with rfl
  all_goals
   simp only[pe,Nd.kind,Nd.text,Nd.op,Nd.kids,Nat.reduceEqDiff,reduceCtorEq,or_self,or_true,true_or,or_false,false_or,and_true,true_and,and_false,false_and,↓reduceIte] at hm hQ
   (conv=>whnf)
   ((refine((h f (Nat.le_refl f)).head (.mk 7 ln x o ks) (.inr (.inl rfl))) st stF _ _ hB (mo hm) fun st hp=> ?_);(rw[hp] at hm hQ);(clear hp);(conv=>whnf))
   exact hQ _ rfl
 by_cases hk:k=8
 ·rcases hk with rfl
  all_goals
   simp only[pe,Nd.kind,Nd.text,Nd.op,Nd.kids,Nat.reduceEqDiff,reduceCtorEq,or_self,or_true,true_or,or_false,false_or,and_true,true_and,and_false,false_and,↓reduceIte] at hm hQ
   (conv=>whnf)
   ((refine((h f (Nat.le_refl f)).head (.mk 8 ln x o ks) (.inr (.inr (.inl rfl)))) st stF _ _ hB (mo hm) fun st hp=> ?_);(rw[hp] at hm hQ);(clear hp);(conv=>whnf))
   exact hQ _ rfl
 by_cases hk:k=9
 ·rcases hk with rfl
  all_goals
   simp only[pe,Nd.kind,Nd.text,Nd.op,Nd.kids,Nat.reduceEqDiff,reduceCtorEq,or_self,or_true,true_or,or_false,false_or,and_true,true_and,and_false,false_and,↓reduceIte] at hm hQ
   (conv=>whnf)
   ((refine((h f (Nat.le_refl f)).head (.mk 9 ln x o ks) (.inr (.inr (.inr (.inl rfl))))) st stF _ _ hB (mo hm) fun st hp=> ?_);(rw[hp] at hm hQ);(clear hp);(conv=>whnf))
   exact hQ _ rfl
 by_cases hk:k=16
 ·rcases hk with rfl
  all_goals
   simp only[pe,Nd.kind,Nd.text,Nd.op,Nd.kids,Nat.reduceEqDiff,reduceCtorEq,or_self,or_true,true_or,or_false,false_or,and_true,true_and,and_false,false_and,↓reduceIte] at hm hQ
   (conv=>whnf)
   ((refine((h f (Nat.le_refl f)).head (.mk 16 ln x o ks) (.inr (.inr (.inr (.inr rfl))))) st stF _ _ hB (mo hm) fun st hp=> ?_);(rw[hp] at hm hQ);(clear hp);(conv=>whnf))
   exact hQ _ rfl
 have n5 : ¬k=5:=by omega
 have n15 : ¬k=15:=by omega
 have n6 : ¬k=6:=by omega
 have n7 : ¬k=7:=by omega
 have n8 : ¬k=8:=by omega
 have n9 : ¬k=9:=by omega
 have n16 : ¬k=16:=by omega
 simp only[pe,Nd.kind,Nd.text,Nd.op,Nd.kids,Nat.reduceEqDiff,reduceCtorEq,or_self,or_true,true_or,or_false,false_or,and_true,true_and,and_false,false_and,↓reduceIte,n5,n15,n6,n7,n8,n9,n16] at hm hQ
 (conv=>whnf)
 repeat' (refine ifT_c (fun hc=>by exfalso;simp at hc;omega) fun hc=> ?_;(conv=>whnf))
 ((refine pad_st (st:=st) hJ [] hB (mo hm) fun st hp=> ?_);(rw[hp] at hm hQ);(clear hp);(conv=>whnf))
 ((refine((h f (Nat.le_refl f)).simple (.mk k ln x o ks)) st stF _ _ hB (mo hm) fun st hp=> ?_);(rw[hp] at hm hQ);(clear hp);(conv=>whnf))
 (refine⟨rfl,?_⟩;(conv=>whnf);((refine put_st (st:=st) hJ [t_nl] (by simp) (by simp) hB (mo hm) fun st hp=> ?_);(rw[hp] at hm hQ);(clear hp);(conv=>whnf)))
 exact hQ _ rfl
end Can
end Go.Proofs.YtdfgkcoenagaaaaGreat
end
section
namespace Go.Proofs.YtdfgkcoenagaaaaGreat
namespace Can
open Go Go.RowKit
set_option linter.unusedSimpArgs false
set_option linter.unusedVariables false
set_option maxRecDepth 4000
attribute [local irreducible] TC putL pe padS quoS cntN okS PSt.sb PSt.dp
variable {Z:TP} {X:Pan} {f:Nat} (hJ:Z.J=Jb) (h : ∀g,g≤f→PAl Z X g)
include hJ h
theorem pt_head(n:Nd)(g1:n.kind=6∨n.kind=7∨n.kind=8∨n.kind=9∨n.kind=16):PrT Z X (f+1) (.head n) 26 [ndA n]:=by
 intro st stF Q R hB hm hQ
 (refine tc_rS d0_ok (by rfl) (by kernel_rfl) ?_);(conv in (rF _ _).body=>reduce);(conv in (rF _ _).res=>reduce)
 obtain⟨k,ln,x,o,ks⟩:=n
 simp only[Nd.kind] at g1
 rcases ks with _ | ⟨⟨k1,l1,x1,o1,ks1⟩,_ | ⟨⟨k2,l2,x2,o2,ks2⟩,_ | ⟨⟨k3,l3,x3,o3,ks3⟩,_ | ⟨n4,ks⟩⟩⟩⟩
 ·rcases g1 with rfl | rfl | rfl | rfl | rfl
  all_goals
   simp only[pe,Nd.kind,Nd.text,Nd.op,Nd.kids,Nat.reduceEqDiff,reduceCtorEq,or_self,or_true,true_or,or_false,false_or,and_true,true_and,and_false,false_and,↓reduceIte] at hm hQ
   (conv=>whnf)
   refine count_st (st:=st) (fun hn hl hg3 hk=> ?_) fun st hb hk=> ?_
   case refine_2=>
    rw[hk] at hm hQ
    (conv=>whnf)
    exact hQ _ rfl
   rw[hk] at hm hQ
   (conv=>whnf)
   simp only[List.length_cons,List.length_nil] at hl;omega
 ·rcases g1 with rfl | rfl | rfl | rfl | rfl
  all_goals
   simp only[pe,Nd.kind,Nd.text,Nd.op,Nd.kids,Nat.reduceEqDiff,reduceCtorEq,or_self,or_true,true_or,or_false,false_or,and_true,true_and,and_false,false_and,↓reduceIte] at hm hQ
   (conv=>whnf)
   refine count_st (st:=st) (fun hn hl hg3 hk=> ?_) fun st hb hk=> ?_
   case refine_2=>
    rw[hk] at hm hQ
    (conv=>whnf)
    exact hQ _ rfl
   rw[hk] at hm hQ
   (conv=>whnf)
   simp only[List.length_cons,List.length_nil] at hl;omega
 ·rcases g1 with rfl | rfl | rfl | rfl | rfl
  ·simp only[pe,Nd.kind,Nd.text,Nd.op,Nd.kids,Nat.reduceEqDiff,reduceCtorEq,or_self,or_true,true_or,or_false,false_or,and_true,true_and,and_false,false_and,↓reduceIte] at hm hQ
   (conv=>whnf)
   refine count_st (st:=st) (fun hn hl hg3 hk=> ?_) fun st hb hk=> ?_
   case refine_2=>
    rw[hk] at hm hQ
    (conv=>whnf)
    exact hQ _ rfl
   rw[hk] at hm hQ
   (conv=>whnf)
   ((refine pad_st (st:=st) hJ [119,104,105,108,101,32] hB (mo hm) fun st hp=> ?_);(rw[hp] at hm hQ);(clear hp);(conv=>whnf))
   ((refine⟨rfl,0,_,rfl,rfl,?_⟩);(conv=>whnf))
   ((refine((h f (Nat.le_refl f)).at' (.mk k1 l1 x1 o1 ks1) 0) st stF _ _ hB (mo hm) fun st hp=> ?_);(rw[hp] at hm hQ);(clear hp);(conv=>whnf))
   intro hx9
   (conv=>whnf)
   ((refine⟨rfl,1,_,rfl,rfl,?_⟩);(conv=>whnf))
   ((refine((h f (Nat.le_refl f)).block (.mk k2 l2 x2 o2 ks2)) st stF _ _ hB (mo hm) fun st hp=> ?_);(rw[hp] at hm hQ);(clear hp);(conv=>whnf))
   exact hQ _ rfl
  ·simp only[pe,Nd.kind,Nd.text,Nd.op,Nd.kids,Nat.reduceEqDiff,reduceCtorEq,or_self,or_true,true_or,or_false,false_or,and_true,true_and,and_false,false_and,↓reduceIte] at hm hQ
   (conv=>whnf)
   refine count_st (st:=st) (fun hn hl hg3 hk=> ?_) fun st hb hk=> ?_
   case refine_2=>
    rw[hk] at hm hQ
    (conv=>whnf)
    exact hQ _ rfl
   rw[hk] at hm hQ
   (conv=>whnf)
   ((refine pad_st (st:=st) hJ [102,111,114,32] hB (mo hm) fun st hp=> ?_);(rw[hp] at hm hQ);(clear hp);(conv=>whnf))
   ((refine⟨rfl,0,_,rfl,rfl,?_⟩);(conv=>whnf))
   ((refine((h f (Nat.le_refl f)).at' (.mk k1 l1 x1 o1 ks1) 9) st stF _ _ hB (mo hm) fun st hp=> ?_);(rw[hp] at hm hQ);(clear hp);(conv=>whnf))
   (refine⟨rfl,?_⟩;(conv=>whnf);((refine put_st (st:=st) hJ [t_in] (by simp) (by simp) hB (mo hm) fun st hp=> ?_);(rw[hp] at hm hQ);(clear hp);(conv=>whnf)))
   ((refine⟨rfl,1,_,rfl,rfl,?_⟩);(conv=>whnf))
   ((refine((h f (Nat.le_refl f)).at' (.mk k2 l2 x2 o2 ks2) 0) st stF _ _ hB (mo hm) fun st hp=> ?_);(rw[hp] at hm hQ);(clear hp);(conv=>whnf))
   intro hx9
   (conv=>whnf)
   ((refine⟨rfl,1,_,rfl,rfl,?_⟩);(conv=>whnf))
   ((refine((h f (Nat.le_refl f)).block (.mk k2 l2 x2 o2 ks2)) st stF _ _ hB (mo hm) fun st hp=> ?_);(rw[hp] at hm hQ);(clear hp);(conv=>whnf))
   exact hQ _ rfl
  ·simp only[pe,Nd.kind,Nd.text,Nd.op,Nd.kids,Nat.reduceEqDiff,reduceCtorEq,or_self,or_true,true_or,or_false,false_or,and_true,true_and,and_false,false_and,↓reduceIte] at hm hQ
   (conv=>whnf)
   refine count_st (st:=st) (fun hn hl hg3 hk=> ?_) fun st hb hk=> ?_
   case refine_2=>
    rw[hk] at hm hQ
    (conv=>whnf)
    exact hQ _ rfl
   rw[hk] at hm hQ
   (conv=>whnf)
   ((refine pad_st (st:=st) hJ [100,101,102,32] hB (mo hm) fun st hp=> ?_);(rw[hp] at hm hQ);(clear hp);(conv=>whnf))
   (refine⟨rfl,?_⟩;(conv=>whnf);((refine put_st (st:=st) hJ [x,t_lp] (by simp) (by simp) hB (mo hm) fun st hp=> ?_);(rw[hp] at hm hQ);(clear hp);(conv=>whnf)))
   ((refine⟨rfl,0,_,rfl,rfl,?_⟩);(conv=>whnf))
   ((refine((h f (Nat.le_refl f)).row ks1) st stF _ _ hB (mo hm) fun st hp=> ?_);(rw[hp] at hm hQ);(clear hp);(conv=>whnf))
   (refine⟨rfl,?_⟩;(conv=>whnf);((refine put_st (st:=st) hJ [t_rp] (by simp) (by simp) hB (mo hm) fun st hp=> ?_);(rw[hp] at hm hQ);(clear hp);(conv=>whnf)))
   intro hx9
   (conv=>whnf)
   ((refine⟨rfl,1,_,rfl,rfl,?_⟩);(conv=>whnf))
   ((refine((h f (Nat.le_refl f)).block (.mk k2 l2 x2 o2 ks2)) st stF _ _ hB (mo hm) fun st hp=> ?_);(rw[hp] at hm hQ);(clear hp);(conv=>whnf))
   exact hQ _ rfl
  ·by_cases hpl:0<ks1.length
   ·simp only[pe,Nd.kind,Nd.text,Nd.op,Nd.kids,Nat.reduceEqDiff,reduceCtorEq,or_self,or_true,true_or,or_false,false_or,and_true,true_and,and_false,false_and,↓reduceIte,hpl] at hm hQ
    (conv=>whnf)
    refine count_st (st:=st) (fun hn hl hg3 hk=> ?_) fun st hb hk=> ?_
    case refine_2=>
     rw[hk] at hm hQ
     (conv=>whnf)
     exact hQ _ rfl
    rw[hk] at hm hQ
    (conv=>whnf)
    ((refine pad_st (st:=st) hJ [99,108,97,115,115,32] hB (mo hm) fun st hp=> ?_);(rw[hp] at hm hQ);(clear hp);(conv=>whnf))
    (refine⟨rfl,?_⟩;(conv=>whnf);((refine put_st (st:=st) hJ [x] (by simp) (by simp) hB (mo hm) fun st hp=> ?_);(rw[hp] at hm hQ);(clear hp);(conv=>whnf)))
    ((refine⟨rfl,0,_,rfl,rfl,?_⟩);(conv=>whnf))
    intro hx
    (conv=>whnf)
    refine ifT_c (fun hc=> ?_) fun hc=>by exfalso;simp[ndsS_len] at hc;simp[hc] at hpl
    (conv=>whnf)
    (refine⟨rfl,?_⟩;(conv=>whnf);((refine put_st (st:=st) hJ [t_lp] (by simp) (by simp) hB (mo hm) fun st hp=> ?_);(rw[hp] at hm hQ);(clear hp);(conv=>whnf)))
    ((refine⟨rfl,0,_,rfl,rfl,?_⟩);(conv=>whnf))
    ((refine((h f (Nat.le_refl f)).row ks1) st stF _ _ hB (mo hm) fun st hp=> ?_);(rw[hp] at hm hQ);(clear hp);(conv=>whnf))
    (refine⟨rfl,?_⟩;(conv=>whnf);((refine put_st (st:=st) hJ [t_rp] (by simp) (by simp) hB (mo hm) fun st hp=> ?_);(rw[hp] at hm hQ);(clear hp);(conv=>whnf)))
    intro hx9
    (conv=>whnf)
    ((refine⟨rfl,1,_,rfl,rfl,?_⟩);(conv=>whnf))
    ((refine((h f (Nat.le_refl f)).block (.mk k2 l2 x2 o2 ks2)) st stF _ _ hB (mo hm) fun st hp=> ?_);(rw[hp] at hm hQ);(clear hp);(conv=>whnf))
    exact hQ _ rfl
   ·simp only[pe,Nd.kind,Nd.text,Nd.op,Nd.kids,Nat.reduceEqDiff,reduceCtorEq,or_self,or_true,true_or,or_false,false_or,and_true,true_and,and_false,false_and,↓reduceIte,hpl] at hm hQ
    (conv=>whnf)
    refine count_st (st:=st) (fun hn hl hg3 hk=> ?_) fun st hb hk=> ?_
    case refine_2=>
     rw[hk] at hm hQ
     (conv=>whnf)
     exact hQ _ rfl
    rw[hk] at hm hQ
    (conv=>whnf)
    ((refine pad_st (st:=st) hJ [99,108,97,115,115,32] hB (mo hm) fun st hp=> ?_);(rw[hp] at hm hQ);(clear hp);(conv=>whnf))
    (refine⟨rfl,?_⟩;(conv=>whnf);((refine put_st (st:=st) hJ [x] (by simp) (by simp) hB (mo hm) fun st hp=> ?_);(rw[hp] at hm hQ);(clear hp);(conv=>whnf)))
    ((refine⟨rfl,0,_,rfl,rfl,?_⟩);(conv=>whnf))
    intro hx
    (conv=>whnf)
    refine ifT_c (fun hc=>absurd (of_decide_eq_true hc) (by rw[ndsS_len];intro h9;exact hpl (by have:(0:Int)<(ks1.length:Int):=h9;omega))) fun hc=> ?_
    (conv=>whnf)
    intro hx9
    (conv=>whnf)
    ((refine⟨rfl,1,_,rfl,rfl,?_⟩);(conv=>whnf))
    ((refine((h f (Nat.le_refl f)).block (.mk k2 l2 x2 o2 ks2)) st stF _ _ hB (mo hm) fun st hp=> ?_);(rw[hp] at hm hQ);(clear hp);(conv=>whnf))
    exact hQ _ rfl
  ·by_cases hx1:x= []
   ·simp only[pe,Nd.kind,Nd.text,Nd.op,Nd.kids,Nat.reduceEqDiff,reduceCtorEq,or_self,or_true,true_or,or_false,false_or,and_true,true_and,and_false,false_and,↓reduceIte,eq_true hx1] at hm hQ
    (conv=>whnf)
    refine count_st (st:=st) (fun hn hl hg3 hk=> ?_) fun st hb hk=> ?_
    case refine_2=>
     rw[hk] at hm hQ
     (conv=>whnf)
     exact hQ _ rfl
    rw[hk] at hm hQ
    (conv=>whnf)
    ((refine pad_st (st:=st) hJ [119,105,116,104,32] hB (mo hm) fun st hp=> ?_);(rw[hp] at hm hQ);(clear hp);(conv=>whnf))
    ((refine⟨rfl,0,_,rfl,rfl,?_⟩);(conv=>whnf))
    ((refine((h f (Nat.le_refl f)).at' (.mk k1 l1 x1 o1 ks1) 0) st stF _ _ hB (mo hm) fun st hp=> ?_);(rw[hp] at hm hQ);(clear hp);(conv=>whnf))
    refine ifT_c (fun hc=>absurd ((neS_nil hx1).symm.trans hc) (by decide)) fun hc=> ?_
    (conv=>whnf)
    intro hx9
    (conv=>whnf)
    ((refine⟨rfl,1,_,rfl,rfl,?_⟩);(conv=>whnf))
    ((refine((h f (Nat.le_refl f)).block (.mk k2 l2 x2 o2 ks2)) st stF _ _ hB (mo hm) fun st hp=> ?_);(rw[hp] at hm hQ);(clear hp);(conv=>whnf))
    exact hQ _ rfl
   ·simp only[pe,Nd.kind,Nd.text,Nd.op,Nd.kids,Nat.reduceEqDiff,reduceCtorEq,or_self,or_true,true_or,or_false,false_or,and_true,true_and,and_false,false_and,↓reduceIte,eq_false hx1] at hm hQ
    (conv=>whnf)
    refine count_st (st:=st) (fun hn hl hg3 hk=> ?_) fun st hb hk=> ?_
    case refine_2=>
     rw[hk] at hm hQ
     (conv=>whnf)
     exact hQ _ rfl
    rw[hk] at hm hQ
    (conv=>whnf)
    ((refine pad_st (st:=st) hJ [119,105,116,104,32] hB (mo hm) fun st hp=> ?_);(rw[hp] at hm hQ);(clear hp);(conv=>whnf))
    ((refine⟨rfl,0,_,rfl,rfl,?_⟩);(conv=>whnf))
    ((refine((h f (Nat.le_refl f)).at' (.mk k1 l1 x1 o1 ks1) 0) st stF _ _ hB (mo hm) fun st hp=> ?_);(rw[hp] at hm hQ);(clear hp);(conv=>whnf))
    refine ifT_c (fun hc=> ?_) fun hc=>absurd ((neS_cons hx1).symm.trans hc) (by decide)
    (conv=>whnf)
    (refine⟨rfl,?_⟩;(conv=>whnf);((refine put_st (st:=st) hJ [t_as,x] (by simp) (by simp) hB (mo hm) fun st hp=> ?_);(rw[hp] at hm hQ);(clear hp);(conv=>whnf)))
    intro hx9
    (conv=>whnf)
    ((refine⟨rfl,1,_,rfl,rfl,?_⟩);(conv=>whnf))
    ((refine((h f (Nat.le_refl f)).block (.mk k2 l2 x2 o2 ks2)) st stF _ _ hB (mo hm) fun st hp=> ?_);(rw[hp] at hm hQ);(clear hp);(conv=>whnf))
    exact hQ _ rfl
 ·rcases g1 with rfl | rfl | rfl | rfl | rfl
  ·simp only[pe,Nd.kind,Nd.text,Nd.op,Nd.kids,Nat.reduceEqDiff,reduceCtorEq,or_self,or_true,true_or,or_false,false_or,and_true,true_and,and_false,false_and,↓reduceIte] at hm hQ
   (conv=>whnf)
   refine count_st (st:=st) (fun hn hl hg3 hk=> ?_) fun st hb hk=> ?_
   case refine_2=>
    rw[hk] at hm hQ
    (conv=>whnf)
    exact hQ _ rfl
   rw[hk] at hm hQ
   (conv=>whnf)
   ((refine pad_st (st:=st) hJ [119,104,105,108,101,32] hB (mo hm) fun st hp=> ?_);(rw[hp] at hm hQ);(clear hp);(conv=>whnf))
   ((refine⟨rfl,0,_,rfl,rfl,?_⟩);(conv=>whnf))
   ((refine((h f (Nat.le_refl f)).at' (.mk k1 l1 x1 o1 ks1) 0) st stF _ _ hB (mo hm) fun st hp=> ?_);(rw[hp] at hm hQ);(clear hp);(conv=>whnf))
   intro hx9
   (conv=>whnf)
   ((refine⟨rfl,2,_,rfl,rfl,?_⟩);(conv=>whnf))
   ((refine((h f (Nat.le_refl f)).block (.mk k3 l3 x3 o3 ks3)) st stF _ _ hB (mo hm) fun st hp=> ?_);(rw[hp] at hm hQ);(clear hp);(conv=>whnf))
   exact hQ _ rfl
  ·simp only[pe,Nd.kind,Nd.text,Nd.op,Nd.kids,Nat.reduceEqDiff,reduceCtorEq,or_self,or_true,true_or,or_false,false_or,and_true,true_and,and_false,false_and,↓reduceIte] at hm hQ
   (conv=>whnf)
   refine count_st (st:=st) (fun hn hl hg3 hk=> ?_) fun st hb hk=> ?_
   case refine_2=>
    rw[hk] at hm hQ
    (conv=>whnf)
    exact hQ _ rfl
   rw[hk] at hm hQ
   (conv=>whnf)
   ((refine pad_st (st:=st) hJ [102,111,114,32] hB (mo hm) fun st hp=> ?_);(rw[hp] at hm hQ);(clear hp);(conv=>whnf))
   ((refine⟨rfl,0,_,rfl,rfl,?_⟩);(conv=>whnf))
   ((refine((h f (Nat.le_refl f)).at' (.mk k1 l1 x1 o1 ks1) 9) st stF _ _ hB (mo hm) fun st hp=> ?_);(rw[hp] at hm hQ);(clear hp);(conv=>whnf))
   (refine⟨rfl,?_⟩;(conv=>whnf);((refine put_st (st:=st) hJ [t_in] (by simp) (by simp) hB (mo hm) fun st hp=> ?_);(rw[hp] at hm hQ);(clear hp);(conv=>whnf)))
   ((refine⟨rfl,1,_,rfl,rfl,?_⟩);(conv=>whnf))
   ((refine((h f (Nat.le_refl f)).at' (.mk k2 l2 x2 o2 ks2) 0) st stF _ _ hB (mo hm) fun st hp=> ?_);(rw[hp] at hm hQ);(clear hp);(conv=>whnf))
   intro hx9
   (conv=>whnf)
   ((refine⟨rfl,2,_,rfl,rfl,?_⟩);(conv=>whnf))
   ((refine((h f (Nat.le_refl f)).block (.mk k3 l3 x3 o3 ks3)) st stF _ _ hB (mo hm) fun st hp=> ?_);(rw[hp] at hm hQ);(clear hp);(conv=>whnf))
   exact hQ _ rfl
  ·simp only[pe,Nd.kind,Nd.text,Nd.op,Nd.kids,Nat.reduceEqDiff,reduceCtorEq,or_self,or_true,true_or,or_false,false_or,and_true,true_and,and_false,false_and,↓reduceIte] at hm hQ
   (conv=>whnf)
   refine count_st (st:=st) (fun hn hl hg3 hk=> ?_) fun st hb hk=> ?_
   case refine_2=>
    rw[hk] at hm hQ
    (conv=>whnf)
    exact hQ _ rfl
   rw[hk] at hm hQ
   (conv=>whnf)
   ((refine pad_st (st:=st) hJ [100,101,102,32] hB (mo hm) fun st hp=> ?_);(rw[hp] at hm hQ);(clear hp);(conv=>whnf))
   (refine⟨rfl,?_⟩;(conv=>whnf);((refine put_st (st:=st) hJ [x,t_lp] (by simp) (by simp) hB (mo hm) fun st hp=> ?_);(rw[hp] at hm hQ);(clear hp);(conv=>whnf)))
   ((refine⟨rfl,0,_,rfl,rfl,?_⟩);(conv=>whnf))
   ((refine((h f (Nat.le_refl f)).row ks1) st stF _ _ hB (mo hm) fun st hp=> ?_);(rw[hp] at hm hQ);(clear hp);(conv=>whnf))
   (refine⟨rfl,?_⟩;(conv=>whnf);((refine put_st (st:=st) hJ [t_rp] (by simp) (by simp) hB (mo hm) fun st hp=> ?_);(rw[hp] at hm hQ);(clear hp);(conv=>whnf)))
   intro hx9
   (conv=>whnf)
   ((refine⟨rfl,2,_,rfl,rfl,?_⟩);(conv=>whnf))
   ((refine((h f (Nat.le_refl f)).block (.mk k3 l3 x3 o3 ks3)) st stF _ _ hB (mo hm) fun st hp=> ?_);(rw[hp] at hm hQ);(clear hp);(conv=>whnf))
   exact hQ _ rfl
  ·by_cases hpl:0<ks1.length
   ·simp only[pe,Nd.kind,Nd.text,Nd.op,Nd.kids,Nat.reduceEqDiff,reduceCtorEq,or_self,or_true,true_or,or_false,false_or,and_true,true_and,and_false,false_and,↓reduceIte,hpl] at hm hQ
    (conv=>whnf)
    refine count_st (st:=st) (fun hn hl hg3 hk=> ?_) fun st hb hk=> ?_
    case refine_2=>
     rw[hk] at hm hQ
     (conv=>whnf)
     exact hQ _ rfl
    rw[hk] at hm hQ
    (conv=>whnf)
    ((refine pad_st (st:=st) hJ [99,108,97,115,115,32] hB (mo hm) fun st hp=> ?_);(rw[hp] at hm hQ);(clear hp);(conv=>whnf))
    (refine⟨rfl,?_⟩;(conv=>whnf);((refine put_st (st:=st) hJ [x] (by simp) (by simp) hB (mo hm) fun st hp=> ?_);(rw[hp] at hm hQ);(clear hp);(conv=>whnf)))
    ((refine⟨rfl,0,_,rfl,rfl,?_⟩);(conv=>whnf))
    intro hx
    (conv=>whnf)
    refine ifT_c (fun hc=> ?_) fun hc=>by exfalso;simp[ndsS_len] at hc;simp[hc] at hpl
    (conv=>whnf)
    (refine⟨rfl,?_⟩;(conv=>whnf);((refine put_st (st:=st) hJ [t_lp] (by simp) (by simp) hB (mo hm) fun st hp=> ?_);(rw[hp] at hm hQ);(clear hp);(conv=>whnf)))
    ((refine⟨rfl,0,_,rfl,rfl,?_⟩);(conv=>whnf))
    ((refine((h f (Nat.le_refl f)).row ks1) st stF _ _ hB (mo hm) fun st hp=> ?_);(rw[hp] at hm hQ);(clear hp);(conv=>whnf))
    (refine⟨rfl,?_⟩;(conv=>whnf);((refine put_st (st:=st) hJ [t_rp] (by simp) (by simp) hB (mo hm) fun st hp=> ?_);(rw[hp] at hm hQ);(clear hp);(conv=>whnf)))
    intro hx9
    (conv=>whnf)
    ((refine⟨rfl,2,_,rfl,rfl,?_⟩);(conv=>whnf))
    ((refine((h f (Nat.le_refl f)).block (.mk k3 l3 x3 o3 ks3)) st stF _ _ hB (mo hm) fun st hp=> ?_);(rw[hp] at hm hQ);(clear hp);(conv=>whnf))
    exact hQ _ rfl
   ·simp only[pe,Nd.kind,Nd.text,Nd.op,Nd.kids,Nat.reduceEqDiff,reduceCtorEq,or_self,or_true,true_or,or_false,false_or,and_true,true_and,and_false,false_and,↓reduceIte,hpl] at hm hQ
    (conv=>whnf)
    refine count_st (st:=st) (fun hn hl hg3 hk=> ?_) fun st hb hk=> ?_
    case refine_2=>
     rw[hk] at hm hQ
     (conv=>whnf)
     exact hQ _ rfl
    rw[hk] at hm hQ
    (conv=>whnf)
    ((refine pad_st (st:=st) hJ [99,108,97,115,115,32] hB (mo hm) fun st hp=> ?_);(rw[hp] at hm hQ);(clear hp);(conv=>whnf))
    (refine⟨rfl,?_⟩;(conv=>whnf);((refine put_st (st:=st) hJ [x] (by simp) (by simp) hB (mo hm) fun st hp=> ?_);(rw[hp] at hm hQ);(clear hp);(conv=>whnf)))
    ((refine⟨rfl,0,_,rfl,rfl,?_⟩);(conv=>whnf))
    intro hx
    (conv=>whnf)
    refine ifT_c (fun hc=>absurd (of_decide_eq_true hc) (by rw[ndsS_len];intro h9;exact hpl (by have:(0:Int)<(ks1.length:Int):=h9;omega))) fun hc=> ?_
    (conv=>whnf)
    intro hx9
    (conv=>whnf)
    ((refine⟨rfl,2,_,rfl,rfl,?_⟩);(conv=>whnf))
    ((refine((h f (Nat.le_refl f)).block (.mk k3 l3 x3 o3 ks3)) st stF _ _ hB (mo hm) fun st hp=> ?_);(rw[hp] at hm hQ);(clear hp);(conv=>whnf))
    exact hQ _ rfl
  ·by_cases hx1:x= []
   ·simp only[pe,Nd.kind,Nd.text,Nd.op,Nd.kids,Nat.reduceEqDiff,reduceCtorEq,or_self,or_true,true_or,or_false,false_or,and_true,true_and,and_false,false_and,↓reduceIte,eq_true hx1] at hm hQ
    (conv=>whnf)
    refine count_st (st:=st) (fun hn hl hg3 hk=> ?_) fun st hb hk=> ?_
    case refine_2=>
     rw[hk] at hm hQ
     (conv=>whnf)
     exact hQ _ rfl
    rw[hk] at hm hQ
    (conv=>whnf)
    ((refine pad_st (st:=st) hJ [119,105,116,104,32] hB (mo hm) fun st hp=> ?_);(rw[hp] at hm hQ);(clear hp);(conv=>whnf))
    ((refine⟨rfl,0,_,rfl,rfl,?_⟩);(conv=>whnf))
    ((refine((h f (Nat.le_refl f)).at' (.mk k1 l1 x1 o1 ks1) 0) st stF _ _ hB (mo hm) fun st hp=> ?_);(rw[hp] at hm hQ);(clear hp);(conv=>whnf))
    refine ifT_c (fun hc=>absurd ((neS_nil hx1).symm.trans hc) (by decide)) fun hc=> ?_
    (conv=>whnf)
    intro hx9
    (conv=>whnf)
    ((refine⟨rfl,2,_,rfl,rfl,?_⟩);(conv=>whnf))
    ((refine((h f (Nat.le_refl f)).block (.mk k3 l3 x3 o3 ks3)) st stF _ _ hB (mo hm) fun st hp=> ?_);(rw[hp] at hm hQ);(clear hp);(conv=>whnf))
    exact hQ _ rfl
   ·simp only[pe,Nd.kind,Nd.text,Nd.op,Nd.kids,Nat.reduceEqDiff,reduceCtorEq,or_self,or_true,true_or,or_false,false_or,and_true,true_and,and_false,false_and,↓reduceIte,eq_false hx1] at hm hQ
    (conv=>whnf)
    refine count_st (st:=st) (fun hn hl hg3 hk=> ?_) fun st hb hk=> ?_
    case refine_2=>
     rw[hk] at hm hQ
     (conv=>whnf)
     exact hQ _ rfl
    rw[hk] at hm hQ
    (conv=>whnf)
    ((refine pad_st (st:=st) hJ [119,105,116,104,32] hB (mo hm) fun st hp=> ?_);(rw[hp] at hm hQ);(clear hp);(conv=>whnf))
    ((refine⟨rfl,0,_,rfl,rfl,?_⟩);(conv=>whnf))
    ((refine((h f (Nat.le_refl f)).at' (.mk k1 l1 x1 o1 ks1) 0) st stF _ _ hB (mo hm) fun st hp=> ?_);(rw[hp] at hm hQ);(clear hp);(conv=>whnf))
    refine ifT_c (fun hc=> ?_) fun hc=>absurd ((neS_cons hx1).symm.trans hc) (by decide)
    (conv=>whnf)
    (refine⟨rfl,?_⟩;(conv=>whnf);((refine put_st (st:=st) hJ [t_as,x] (by simp) (by simp) hB (mo hm) fun st hp=> ?_);(rw[hp] at hm hQ);(clear hp);(conv=>whnf)))
    intro hx9
    (conv=>whnf)
    ((refine⟨rfl,2,_,rfl,rfl,?_⟩);(conv=>whnf))
    ((refine((h f (Nat.le_refl f)).block (.mk k3 l3 x3 o3 ks3)) st stF _ _ hB (mo hm) fun st hp=> ?_);(rw[hp] at hm hQ);(clear hp);(conv=>whnf))
    exact hQ _ rfl
 ·rcases g1 with rfl | rfl | rfl | rfl | rfl
  all_goals
   simp only[pe,Nd.kind,Nd.text,Nd.op,Nd.kids,Nat.reduceEqDiff,reduceCtorEq,or_self,or_true,true_or,or_false,false_or,and_true,true_and,and_false,false_and,↓reduceIte] at hm hQ
   (conv=>whnf)
   refine count_st (st:=st) (fun hn hl hg3 hk=> ?_) fun st hb hk=> ?_
   case refine_2=>
    rw[hk] at hm hQ
    (conv=>whnf)
    exact hQ _ rfl
   rw[hk] at hm hQ
   (conv=>whnf)
   simp only[List.length_cons,List.length_nil] at hg3;omega
end Can
end Go.Proofs.YtdfgkcoenagaaaaGreat
end
section
namespace Go.Proofs.YtdfgkcoenagaaaaGreat
namespace Can
open Go Go.RowKit
set_option linter.unusedSimpArgs false
set_option linter.unusedVariables false
set_option maxRecDepth 4000
attribute [local irreducible] TC putL pe padS quoS cntN okS PSt.sb PSt.dp
variable {Z:TP} {X:Pan} {f:Nat} (hJ:Z.J=Jb) (h : ∀g,g≤f→PAl Z X g)
include hJ h
theorem pt_simple(n:Nd):PrT Z X (f+1) (.simple n) 28 [ndA n]:=by
 intro st stF Q R hB hm hQ
 (refine tc_rS d0_ok (by rfl) (by kernel_rfl) ?_);(conv in (rF _ _).body=>reduce);(conv in (rF _ _).res=>reduce)
 obtain⟨k,ln,x,o,ks⟩:=n
 by_cases h4:k=4
 ·subst h4
  simp only[pe,Nd.kind,Nd.text,Nd.op,Nd.kids,Nat.reduceEqDiff,reduceCtorEq,or_self,or_true,true_or,or_false,false_or,and_true,true_and,and_false,false_and,↓reduceIte] at hm hQ
  (conv=>whnf)
  refine signs_tc ?_
  (conv=>whnf)
  have hop:=opN_len o
  rw[tpop_cat (a:=opN signL o) (b:= [61])]
  case hl=>simp only[List.length_cons,List.length_nil];omega
  case hx=>rfl
  case hy=>rfl
  (conv=>whnf)
  ((refine((h f (Nat.le_refl f)).two (.mk 4 ln x o ks) 0 (opN signL o++ [61]) 0) st stF _ _ hB (mo hm) fun st hp=> ?_);(rw[hp] at hm hQ);(clear hp);(conv=>whnf))
  repeat' (refine⟨rfl,?_⟩;(conv=>whnf))
  exact hQ _ rfl
 by_cases h3:k=3
 ·subst h3
  simp only[pe,Nd.kind,Nd.text,Nd.op,Nd.kids,Nat.reduceEqDiff,reduceCtorEq,or_self,or_true,true_or,or_false,false_or,and_true,true_and,and_false,false_and,↓reduceIte] at hm hQ
  (conv=>whnf)
  intro hx
  (conv=>whnf)
  generalize hE:pe f (.asg false ks) st=stE at hm hQ
  have hQ0:=hQ
  have hmE:stE.w≤stF.w:=mo hm
  refine loop_1 22 (fun m a s1=>∃(i:Nat) (st1:PSt),a=iS i∧m=ks.length-i∧i≤ks.length∧s1=⟨0,[oP st1,oNd (.mk 3 ln x o ks)]⟩∧pe (f-i) (.asg (decide (0<i)) (ks.drop i)) st1=stE) ks.length [] rfl ⟨0,st,rfl,rfl,Nat.zero_le _,rfl,hE⟩ ?_
  rintro m a f1 s1 ⟨i,st,rfl,rfl,hi,rfl,h1⟩
  (conv=>whnf)
  refine ifT_c (fun hc=> ?_) fun hc=> ?_
  ·have hi:i<ks.length:=by
    have this:(i:Int)<((ndsS ks).length:Nat):=of_decide_eq_true hc
    rw[ndsS_len] at this;omega
   obtain⟨⟨k1,l1,x1,o1,ks1⟩,ht⟩ : ∃t,ks[i]? = some t:=⟨_,List.getElem?_eq_getElem hi⟩
   have hwi:=wrap_inc hi (by rw[←ndsS_len];exact hx)
   rw[drop_get ht] at h1
   obtain⟨g,hg⟩ : ∃g,f-i=g+1:=by
    cases hg:f-i with
    | zero=>rw[hg] at h1;exact(pe_lost h1 hB hmE).elim
    | succ g=>exact⟨g,rfl⟩
   have hg2:f-(i+1)=g:=by omega
   rw[hg] at h1
   have hQ:=h1
   rw[←h1] at hmE
   have hm:=hmE
   simp only[pe,Nd.kind,Nd.text,Nd.op,Nd.kids,Nat.reduceEqDiff,reduceCtorEq,or_self,or_true,true_or,or_false,false_or,and_true,true_and,and_false,false_and,↓reduceIte] at hm hQ
   (conv=>whnf)
   refine⟨rfl,i,_,rfl,ndsS_get ht,?_⟩
   (conv=>whnf)
   refine ifT_c (fun hc=> ?_) fun hc=> ?_
   ·have h0:0<i:=by have:(i:Int)>0:=of_decide_eq_true hc;omega
    rw[if_pos (decide_eq_true h0)] at hm hQ
    (conv=>whnf)
    (refine⟨rfl,?_⟩;(conv=>whnf);((refine put_st (st:=st) hJ [t_asg] (by simp) (by simp) hB (mo hm) fun st hp=> ?_);(rw[hp] at hm hQ);(clear hp);(conv=>whnf)))
    ((refine((h g (by omega)).at' (.mk k1 l1 x1 o1 ks1) 0) st stF _ _ hB (mo hm) fun st hp=> ?_);(rw[hp] at hm hQ);(clear hp);(conv=>whnf))
    refine⟨_,[],?_,rfl,i+1,st,hwi,rfl,hi,rfl,?_⟩
    ·omega
    ·rw[hg2];exact hQ
   ·have h0 : ¬ 0<i:=by have : ¬(i:Int)>0:=of_decide_eq_false hc;omega
    rw[if_neg (by simpa using h0)] at hm hQ
    (conv=>whnf)
    ((refine((h g (by omega)).at' (.mk k1 l1 x1 o1 ks1) 0) st stF _ _ hB (mo hm) fun st hp=> ?_);(rw[hp] at hm hQ);(clear hp);(conv=>whnf))
    refine⟨_,[],?_,rfl,i+1,st,hwi,rfl,hi,rfl,?_⟩
    ·omega
    ·rw[hg2];exact hQ
  ·have hi:i=ks.length:=by
    have this : ¬(i:Int)<((ndsS ks).length:Nat):=of_decide_eq_false hc
    rw[ndsS_len] at this;omega
   subst hi
   rw[List.drop_length] at h1
   cases hg:f-ks.length with
   | zero=>rw[hg] at h1;exact(pe_lost h1 hB hmE).elim
   | succ g=>
     rw[hg] at h1
     simp only[pe] at h1
     subst h1
     (conv=>whnf)
     exact hQ0 _ rfl
 by_cases h19:k=19
 ·subst h19
  rcases ks with _ | ⟨⟨k1,l1,x1,o1,ks1⟩,ks⟩
  all_goals
   simp only[pe,Nd.kind,Nd.text,Nd.op,Nd.kids,Nat.reduceEqDiff,reduceCtorEq,or_self,or_true,true_or,or_false,false_or,and_true,true_and,and_false,false_and,↓reduceIte] at hm hQ
   (conv=>whnf)
   refine count_st (st:=st) (fun hn hl hg3 hk=> ?_) fun st hb hk=> ?_
   case refine_2=>
    rw[hk] at hm hQ
    (conv=>whnf)
    exact hQ _ rfl
   rw[hk] at hm hQ
   (conv=>whnf)
  ·simp only[List.length_cons,List.length_nil] at hl;omega
  ·
   (refine⟨rfl,?_⟩;(conv=>whnf);((refine put_st (st:=st) hJ [[100,101,108,32]] (by simp) (by simp) hB (mo hm) fun st hp=> ?_);(rw[hp] at hm hQ);(clear hp);(conv=>whnf)))
   ((refine⟨rfl,0,_,rfl,rfl,?_⟩);(conv=>whnf))
   ((refine((h f (Nat.le_refl f)).at' (.mk k1 l1 x1 o1 ks1) 9) st stF _ _ hB (mo hm) fun st hp=> ?_);(rw[hp] at hm hQ);(clear hp);(conv=>whnf))
   exact hQ _ rfl
 by_cases hk:k=2
 ·rcases hk with rfl
  all_goals
   simp only[pe,Nd.kind,Nd.text,Nd.op,Nd.kids,Nat.reduceEqDiff,reduceCtorEq,or_self,or_true,true_or,or_false,false_or,and_true,true_and,and_false,false_and,↓reduceIte] at hm hQ
   (conv=>whnf)
   ((refine((h f (Nat.le_refl f)).row ks) st stF _ _ hB (mo hm) fun st hp=> ?_);(rw[hp] at hm hQ);(clear hp);(conv=>whnf))
   exact hQ _ rfl
 by_cases hk:k=10
 ·rcases hk with rfl
  all_goals
   simp only[pe,Nd.kind,Nd.text,Nd.op,Nd.kids,Nat.reduceEqDiff,reduceCtorEq,or_self,or_true,true_or,or_false,false_or,and_true,true_and,and_false,false_and,↓reduceIte] at hm hQ
   (conv=>whnf)
   ((refine((h f (Nat.le_refl f)).maybe [114,101,116,117,114,110] (.mk 10 ln x o ks)) st stF _ _ hB (mo hm) fun st hp=> ?_);(rw[hp] at hm hQ);(clear hp);(conv=>whnf))
   exact hQ _ rfl
 by_cases hk:k=14
 ·rcases hk with rfl
  all_goals
   simp only[pe,Nd.kind,Nd.text,Nd.op,Nd.kids,Nat.reduceEqDiff,reduceCtorEq,or_self,or_true,true_or,or_false,false_or,and_true,true_and,and_false,false_and,↓reduceIte] at hm hQ
   (conv=>whnf)
   ((refine((h f (Nat.le_refl f)).maybe [114,97,105,115,101] (.mk 14 ln x o ks)) st stF _ _ hB (mo hm) fun st hp=> ?_);(rw[hp] at hm hQ);(clear hp);(conv=>whnf))
   exact hQ _ rfl
 by_cases hk:k=20
 ·rcases hk with rfl
  all_goals
   simp only[pe,Nd.kind,Nd.text,Nd.op,Nd.kids,Nat.reduceEqDiff,reduceCtorEq,or_self,or_true,true_or,or_false,false_or,and_true,true_and,and_false,false_and,↓reduceIte] at hm hQ
   (conv=>whnf)
   ((refine((h f (Nat.le_refl f)).maybe [97,115,115,101,114,116] (.mk 20 ln x o ks)) st stF _ _ hB (mo hm) fun st hp=> ?_);(rw[hp] at hm hQ);(clear hp);(conv=>whnf))
   exact hQ _ rfl
 by_cases hk:k=11
 ·rcases hk with rfl
  all_goals
   simp only[pe,Nd.kind,Nd.text,Nd.op,Nd.kids,Nat.reduceEqDiff,reduceCtorEq,or_self,or_true,true_or,or_false,false_or,and_true,true_and,and_false,false_and,↓reduceIte] at hm hQ
   (conv=>whnf)
   (refine⟨rfl,?_⟩;(conv=>whnf);((refine put_st (st:=st) hJ [[112,97,115,115]] (by simp) (by simp) hB (mo hm) fun st hp=> ?_);(rw[hp] at hm hQ);(clear hp);(conv=>whnf)))
   exact hQ _ rfl
 by_cases hk:k=12
 ·rcases hk with rfl
  all_goals
   simp only[pe,Nd.kind,Nd.text,Nd.op,Nd.kids,Nat.reduceEqDiff,reduceCtorEq,or_self,or_true,true_or,or_false,false_or,and_true,true_and,and_false,false_and,↓reduceIte] at hm hQ
   (conv=>whnf)
   (refine⟨rfl,?_⟩;(conv=>whnf);((refine put_st (st:=st) hJ [[98,114,101,97,107]] (by simp) (by simp) hB (mo hm) fun st hp=> ?_);(rw[hp] at hm hQ);(clear hp);(conv=>whnf)))
   exact hQ _ rfl
 by_cases hk:k=13
 ·rcases hk with rfl
  all_goals
   simp only[pe,Nd.kind,Nd.text,Nd.op,Nd.kids,Nat.reduceEqDiff,reduceCtorEq,or_self,or_true,true_or,or_false,false_or,and_true,true_and,and_false,false_and,↓reduceIte] at hm hQ
   (conv=>whnf)
   (refine⟨rfl,?_⟩;(conv=>whnf);((refine put_st (st:=st) hJ [[99,111,110,116,105,110,117,101]] (by simp) (by simp) hB (mo hm) fun st hp=> ?_);(rw[hp] at hm hQ);(clear hp);(conv=>whnf)))
   exact hQ _ rfl
 by_cases hk:k=17
 ·rcases hk with rfl
  all_goals
   simp only[pe,Nd.kind,Nd.text,Nd.op,Nd.kids,Nat.reduceEqDiff,reduceCtorEq,or_self,or_true,true_or,or_false,false_or,and_true,true_and,and_false,false_and,↓reduceIte] at hm hQ
   (conv=>whnf)
   (refine⟨rfl,?_⟩;(conv=>whnf);((refine put_st (st:=st) hJ [[103,108,111,98,97,108,32]] (by simp) (by simp) hB (mo hm) fun st hp=> ?_);(rw[hp] at hm hQ);(clear hp);(conv=>whnf)))
   ((refine((h f (Nat.le_refl f)).row ks) st stF _ _ hB (mo hm) fun st hp=> ?_);(rw[hp] at hm hQ);(clear hp);(conv=>whnf))
   exact hQ _ rfl
 by_cases hk:k=18
 ·rcases hk with rfl
  all_goals
   simp only[pe,Nd.kind,Nd.text,Nd.op,Nd.kids,Nat.reduceEqDiff,reduceCtorEq,or_self,or_true,true_or,or_false,false_or,and_true,true_and,and_false,false_and,↓reduceIte] at hm hQ
   (conv=>whnf)
   (refine⟨rfl,?_⟩;(conv=>whnf);((refine put_st (st:=st) hJ [[110,111,110,108,111,99,97,108,32]] (by simp) (by simp) hB (mo hm) fun st hp=> ?_);(rw[hp] at hm hQ);(clear hp);(conv=>whnf)))
   ((refine((h f (Nat.le_refl f)).row ks) st stF _ _ hB (mo hm) fun st hp=> ?_);(rw[hp] at hm hQ);(clear hp);(conv=>whnf))
   exact hQ _ rfl
 have n2 : ¬k=2:=by omega
 have n10 : ¬k=10:=by omega
 have n14 : ¬k=14:=by omega
 have n20 : ¬k=20:=by omega
 have n11 : ¬k=11:=by omega
 have n12 : ¬k=12:=by omega
 have n13 : ¬k=13:=by omega
 have n17 : ¬k=17:=by omega
 have n18 : ¬k=18:=by omega
 simp only[pe,Nd.kind,Nd.text,Nd.op,Nd.kids,Nat.reduceEqDiff,reduceCtorEq,or_self,or_true,true_or,or_false,false_or,and_true,true_and,and_false,false_and,↓reduceIte,h4,h3,h19,n2,n10,n14,n20,n11,n12,n13,n17,n18] at hm hQ
 (conv=>whnf)
 repeat' (refine ifT_c (fun hc=>by exfalso;simp at hc;omega) fun hc=> ?_;(conv=>whnf))
 have h9:=hQ _ rfl
 rw[prS_sb] at h9
 exact h9
end Can
end Go.Proofs.YtdfgkcoenagaaaaGreat
end
section
namespace Go.Proofs.YtdfgkcoenagaaaaGreat
namespace Can
open Go Go.RowKit
set_option linter.unusedSimpArgs false
set_option linter.unusedVariables false
set_option maxRecDepth 4000
variable {Z:TP} {X:Pan}
theorem pal_zero:PAl Z X 0:=
 ⟨fun _ _=>pt_zero,fun _=>pt_zero,fun _=>pt_zero,fun _=>pt_zero,fun _ _ _ _=>pt_zero,fun _=>pt_zero,fun _=>pt_zero,fun _=>pt_zero,fun _ _ _=>pt_zero,fun _ _ _=>pt_zero,fun _=>pt_zero,fun _ _=>pt_zero,fun _=>pt_zero,fun _ _=>pt_zero,fun _=>pt_zero,fun _=>pt_zero,fun _ _=>pt_zero,fun _=>pt_zero⟩
theorem pal_succ(hJ:Z.J=Jb){f:Nat}(h : ∀g,g≤f→PAl Z X g):PAl Z X (f+1) where
 at':=pt_at hJ h
 expr:=pt_expr hJ h
 row:=fun l=>pt_rowA hJ h l _ (.inl rfl)
 rowS:=fun l=>pt_rowA hJ h l _ (.inr rfl)
 two:=pt_two hJ h
 clauses:=pt_clauses hJ h
 pairs:=fun l=>pt_pairsA hJ h l _ (.inl rfl)
 pairsS:=fun l=>pt_pairsA hJ h l _ (.inr rfl)
 shown:=pt_shown hJ h
 based:=pt_based hJ h
 joined:=pt_joined hJ h
 maybe:=pt_maybe hJ h
 block:=pt_block hJ h
 ifs:=pt_ifs hJ h
 tries:=pt_tries hJ h
 stmt:=pt_stmt hJ h
 head:=pt_head hJ h
 simple:=pt_simple hJ h
theorem pal(hJ:Z.J=Jb)(f:Nat):PAl Z X f:=by
 have H : ∀f g,g≤f→PAl Z X g:=by
  intro f
  induction f with
  | zero=>intro g hg;rw[Nat.le_zero.1 hg];exact pal_zero
  | succ f ih=>
    intro g hg
    rcases Nat.lt_or_ge g (f+1) with h | h
    ·exact ih g (Nat.le_of_lt_succ h)
    ·rw[Nat.le_antisymm hg h];exact pal_succ hJ ih
 exact H f f (Nat.le_refl f)
end Can
end Go.Proofs.YtdfgkcoenagaaaaGreat
end
