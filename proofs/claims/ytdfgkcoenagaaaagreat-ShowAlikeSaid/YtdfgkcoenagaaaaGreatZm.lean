/- Parse, the program: the reader in memory; its looks at a token. Parse, the program: what is known of its reader's looks, for runs over trees. Parse, the program: a token that can't stand there: fail panics. Parse, the program: the closure that Parse defers. Parse, the program: its small steps, as runs over trees. Parse, the program: steps along the grammar. Parse: how high the trees are. No program in sight. (Printed by tools/genpsh.py.). Parse, the program: leaf, single, place. -/
import Derived.Test.YtdfgkcoenagaaaaGreatZl
import Derived.Test.YtdfgkcoenagaaaaGreatZd
import Derived.Test.YtdfgkcoenagaaaaGreatZi
section
namespace Go.Proofs.YtdfgkcoenagaaaaGreat
namespace Can
open Go Go.RowKit
set_option linter.unusedSimpArgs false
set_option linter.unusedVariables false
set_option maxRecDepth 4000
def tokV (t:PT):List Value:= [.int .i64 t.kind, .int .i64 t.line, .string ⟨⟨t.text⟩⟩]
def CTk:CRep PT:=fun _ cs t=>cs=tokV t
def tkC (t:PT):CObj:= .cells (tokV t) 65 .ex
structure Sl where
 q:Option Addr
 n:Nat
 c:Nat
theorem tk_get{K:CH}{q:Option Addr}{c:Nat}{ts:List PT}(h:SlAt 3 CTk K q c ts){i:Nat}(hi:i<ts.length) : ∃l o os e kd,q=some ⟨l,o,none⟩∧K.ob l= .cells os e kd∧l<K.nx∧o+i*3+3≤os.length∧(os.drop (o+i*3)).take 3=tokV ts[i]∧os[o+i*3+1]? = some (.int .i64 ts[i].line):=by
 rcases h with ⟨rfl,_⟩ | ⟨l,o,os,e,kd,rfl,h1,h2,h3,h4,h5,h6⟩
 ·cases hi
 ·have g:_=_:=h6 i hi
  refine⟨l,o,os,e,kd,rfl,h4,h1,by omega,g,?_⟩
  have:os[o+i*3+1]? = (tokV ts[i])[1]? :=by rw[←g,List.getElem?_take_of_lt (by decide),List.getElem?_drop]
  rw[this];rfl
theorem new_set{K:CH}{o o':CObj}:(K.new o).set K.nx o'=K.new o':=by
 unfold CH.set CH.new
 congr 1
 funext k
 by_cases h:k=K.nx
 ·simp[h]
 ·simp[h]
abbrev pS(l:List UInt8):ByteArray:=⟨⟨l⟩⟩
theorem pstr_get{l:List UInt8}{i:Nat}:(pS l)[i]? = l[i]? :=by
 show(if h:i<(pS l).size then some ((pS l)[i]'h) else none)=_
 by_cases h:i<l.length
 ·have h':i<(pS l).size:=h
  rw[dif_pos h',List.getElem?_eq_getElem h];rfl
 ·have h' : ¬i<(pS l).size:=h
  rw[dif_neg h',List.getElem?_eq_none (by omega)]
theorem pstr_eq{a b:List UInt8}:svOf (binOp .eql 0 (.string (pS a)) (.string (pS b)))=some (.bool (decide (a=b))):=by
 have h:((pS a).toList==(pS b).toList)=decide (a=b):=by
  have h : ∀l:List UInt8,(pS l).toList=l:=fun l=>by simp[ByteArray.toList_eq]
  rw[h,h]
  by_cases e:a=b
  ·simp[e]
  ·rw[decide_eq_false e];simpa using e
 simp only[binOp,Op.stringOp,svOf,Pure.pure,h]
def rpC (sl:Sl)(i:Nat):CObj:= .cells [.slice sl.q sl.n sl.c, .int .i64 (i:Nat)] 59 .ex
structure RpP(K:CH)(p:Nat)(sl:Sl)(ts:List PT)(i:Nat):Prop where
 ob:K.ob p=rpC sl i
 pl:p<K.nx
 il:i≤ts.length
 n:sl.n=ts.length
 tk:SlAt 3 CTk K sl.q sl.c ts
theorem RpP.len{K:CH}{p:Nat}{sl:Sl}{ts:List PT}{i:Nat}(h:RpP K p sl ts i):ts.length≤9223372036854775807:=by
 rcases h.tk with ⟨rfl,_⟩ | ⟨l,o,os,e,kd,_,_,h2,h3,_⟩
 ·simp
 ·rw[maxLen_eq] at h3;omega
theorem pnow_wp{K:CH}{p:Nat}{sl:Sl}{ts:List PT}{i:Nat}(h:RpP K p sl ts i):WpF (tblG Tryz.prog LG GG) 22 [.pointer (some ⟨p,0,none⟩)] K fun v K'=>v= .agg (tokV (nowT ts i)).toArray∧K'=K.new (tkC (nowT ts i)):=by
 have hob:=h.ob
 have hpl:=h.pl
 have hln:=h.len
 have hil:=h.il
 unfold rpC at hob
 rw[h.n] at hob
 refine wpF_rG (by rfl) (by kernel_rfl) ?_;(conv in (rF _ _).body=>reduce);(conv in (rF _ _).res=>reduce)
 by_cases hi:i<ts.length
 ·obtain⟨l,o,os,e,kd,hq,g1,g2,g3,g4,g5⟩:=tk_get h.tk hi
  have hn:nowT ts i=ts[i]:=by unfold nowT;rw[List.getElem?_eq_getElem hi]
  rw[hn]
  rw[hq] at hob
  unfold tokV at g4⊢
  repeat' (first | (simp (disch:=first | omega | (decide +kernel)) only[↓RD,RU,↓putF_get,↓putF_none,↓evF_t,new_get,set_get,getD_zero,pop,lop,aop,wop,resL,resV,tupleV,akV,isVal,isCell,Value.cells,↓reduceIte,Nat.reduceEqDiff,Nat.reduceAdd,Int.reduceOfNat,reduceCtorEq,ρ5,ρ6,ρ7,ρ8,ρ15,ρ17,ρ18,ρ21,ρ22,ρ23,Kd.isRo,ρ25,ρ26,ρ28,ρ29,hob,g1,g3,g4]) | (with_reducible first | refine condK_dec (fun _=> ?_) fun _=> ?_ | refine grd_dec (fun _=> ?_) fun _=> ?_ | refine egrd_dec (fun _=> ?_) fun _=> ?_))
  all_goals exact new_set
 ·by_cases h0:0<ts.length
  ·obtain⟨l,o,os,e,kd,hq,g1,g2,g3,g4,g5⟩:=tk_get h.tk (i:=ts.length-1) (by omega)
   have hn:nowT ts i=⟨0,ts[ts.length-1].line,[]⟩:=by
    unfold nowT
    rw[List.getElem?_eq_none (by omega),List.getLast?_eq_getElem?,List.getElem?_eq_getElem (by omega)]
   rw[hn]
   rw[hq] at hob
   have hsub:((ts.length:Nat):Int)-1=((ts.length-1:Nat):Int):=by omega
   unfold tokV
   repeat' (first | (simp (disch:=first | omega | (decide +kernel)) only[↓RD,RU,↓putF_get,↓putF_none,↓evF_t,↓evF_c,new_get,set_get,getD_zero,pop,lop,aop,wop,resL,resV,tupleV,akV,isVal,isCell,Value.cells,ρ0,ρ1,ρ4,↓reduceIte,Nat.reduceEqDiff,Nat.reduceAdd,Int.reduceOfNat,reduceCtorEq,ρ5,ρ6,ρ7,ρ8,ρ15,ρ17,ρ18,ρ19,ρ20,ρ21,ρ22,ρ23,Kd.isRo,ρ25,ρ26,bldV,Nat.reduceLeDiff,ρ28,ρ29,hob,g1,g5,hsub]) | (with_reducible first | refine condK_dec (fun _=> ?_) fun _=> ?_ | refine grd_dec (fun _=> ?_) fun _=> ?_ | refine egrd_dec (fun _=> ?_) fun _=> ?_))
   all_goals exact new_set
  ·have hts:ts= []:=List.length_eq_zero_iff.1 (by omega)
   have hn:nowT ts i=⟨0,0,[]⟩:=by subst hts;rfl
   rw[hn]
   unfold tokV
   repeat' (first | (simp (disch:=first | omega | (decide +kernel)) only[↓RD,RU,↓putF_get,↓putF_none,↓evF_t,↓evF_c,new_get,set_get,getD_zero,pop,lop,aop,wop,resL,resV,tupleV,akV,isVal,isCell,Value.cells,ρ0,ρ1,ρ4,↓reduceIte,Nat.reduceEqDiff,Nat.reduceAdd,Int.reduceOfNat,reduceCtorEq,ρ5,ρ6,ρ7,ρ8,ρ15,ρ17,ρ18,ρ19,ρ20,ρ21,ρ22,ρ23,Kd.isRo,ρ25,ρ26,bldV,Nat.reduceLeDiff,ρ28,hob]) | (with_reducible first | refine condK_dec (fun _=> ?_) fun _=> ?_ | refine grd_dec (fun _=> ?_) fun _=> ?_ | refine egrd_dec (fun _=> ?_) fun _=> ?_))
   all_goals exact new_set
theorem pnow_iff{K:CH}{p:Nat}{sl:Sl}{ts:List PT}{i:Nat}(h:RpP K p sl ts i){Q:Value→CH→Prop}:WpF (tblG Tryz.prog LG GG) 22 [.pointer (some ⟨p,0,none⟩)] K Q↔Q (.agg (tokV (nowT ts i)).toArray) (K.new (tkC (nowT ts i))):=wpF_iff (pnow_wp h)
theorem pisWord_wp(K:CH){c:UInt8}{s:List UInt8}:WpF (tblG Tryz.prog LG GG) 80 [.string ⟨⟨c::s⟩⟩] K fun v K'=>v= .bool (isWd (c::s))∧K'=K:=by
 have hg:((c::s)[0]?).map (fun b=>Value.int .u8 (b.toNat:Int))=some (.int .u8 (c.toNat:Int)):=rfl
 have hc:=c.toNat_lt
 have e:isWd (c::s)=decide ((65≤c.toNat∧c.toNat≤90)∨(97≤c.toNat∧c.toNat≤122)):=rfl
 rw[e]
 obtain⟨n,hn⟩ : ∃n,c.toNat=n:=⟨_,rfl⟩
 rw[hn] at hg hc⊢
 refine wpF_rG (by rfl) (by kernel_rfl) ?_;(conv in (rF _ _).body=>reduce);(conv in (rF _ _).res=>reduce)
 by_cases h1:65≤n
 ·by_cases h2:n≤90
  ·rw[decide_eq_true (by omega)]
   repeat' (first | (simp (disch:=first | omega | (decide +kernel)) only[↓RD,RU,↓putF_get,↓evF_t,↓evF_c,getD_zero,pop,resL,resV,tupleV,ρ4,↓reduceIte,Nat.reduceEqDiff,Int.reduceOfNat,reduceCtorEq,ρ5,Int.reduceToNat,pstr_get]) | (with_reducible first | refine condK_dec (fun _=> ?_) fun _=> ?_ | refine grd_dec (fun _=> ?_) fun _=> ?_ | refine egrd_dec (fun _=> ?_) fun _=> ?_))
  ·by_cases h3:97≤n
   ·by_cases h4:n≤122
    ·rw[decide_eq_true (by omega)]
     repeat' (first | (simp (disch:=first | omega | (decide +kernel)) only[↓RD,RU,↓putF_get,↓evF_t,↓evF_c,getD_zero,pop,resL,resV,tupleV,ρ4,↓reduceIte,Nat.reduceEqDiff,Int.reduceOfNat,reduceCtorEq,ρ5,Int.reduceToNat,pstr_get]) | (with_reducible first | refine condK_dec (fun _=> ?_) fun _=> ?_ | refine grd_dec (fun _=> ?_) fun _=> ?_ | refine egrd_dec (fun _=> ?_) fun _=> ?_))
    ·rw[decide_eq_false (by omega)]
     repeat' (first | (simp (disch:=first | omega | (decide +kernel)) only[↓RD,RU,↓putF_get,↓evF_t,↓evF_c,getD_zero,pop,resL,resV,tupleV,ρ4,↓reduceIte,Nat.reduceEqDiff,Int.reduceOfNat,reduceCtorEq,ρ5,Int.reduceToNat,pstr_get]) | (with_reducible first | refine condK_dec (fun _=> ?_) fun _=> ?_ | refine grd_dec (fun _=> ?_) fun _=> ?_ | refine egrd_dec (fun _=> ?_) fun _=> ?_))
   ·rw[decide_eq_false (by omega)]
    repeat' (first | (simp (disch:=first | omega | (decide +kernel)) only[↓RD,RU,↓putF_get,↓evF_t,↓evF_c,getD_zero,pop,resL,resV,tupleV,ρ4,↓reduceIte,Nat.reduceEqDiff,Int.reduceOfNat,reduceCtorEq,ρ5,Int.reduceToNat,pstr_get]) | (with_reducible first | refine condK_dec (fun _=> ?_) fun _=> ?_ | refine grd_dec (fun _=> ?_) fun _=> ?_ | refine egrd_dec (fun _=> ?_) fun _=> ?_))
 ·rw[decide_eq_false (by omega)]
  have h3 : ¬ 97≤n:=by omega
  repeat' (first | (simp (disch:=first | omega | (decide +kernel)) only[↓RD,RU,↓putF_get,↓evF_t,↓evF_c,getD_zero,pop,resL,resV,tupleV,ρ4,↓reduceIte,Nat.reduceEqDiff,Int.reduceOfNat,reduceCtorEq,ρ5,Int.reduceToNat,pstr_get]) | (with_reducible first | refine condK_dec (fun _=> ?_) fun _=> ?_ | refine grd_dec (fun _=> ?_) fun _=> ?_ | refine egrd_dec (fun _=> ?_) fun _=> ?_))
theorem pisWord_iff{K:CH}{c:UInt8}{s:List UInt8}{Q:Value→CH→Prop}:WpF (tblG Tryz.prog LG GG) 80 [.string ⟨⟨c::s⟩⟩] K Q↔Q (.bool (isWd (c::s))) K:=wpF_iff (pisWord_wp K)
theorem pis_wp{K:CH}{p:Nat}{sl:Sl}{ts:List PT}{i:Nat}(h:RpP K p sl ts i){c1:UInt8}{s:List UInt8}:WpF (tblG Tryz.prog LG GG) 61 [.pointer (some ⟨p,0,none⟩), .string ⟨⟨c1::s⟩⟩] K fun v K'=>v= .bool (isT ts i (c1::s))∧K'=(K.new (tkC (nowT ts i))).new (tkC (nowT ts i)):=by
 have hob:=h.ob
 have hpl:=h.pl
 have hnow:=fun Q=> @pnow_iff K p sl ts i h Q
 obtain⟨t,ht⟩ : ∃t,nowT ts i=t:=⟨_,rfl⟩
 unfold rpC at hob
 rw[ht] at hnow
 unfold isT
 rw[ht]
 obtain⟨kd,ln,tx⟩:=t
 obtain⟨G,hG⟩ : ∃G,K.new (tkC ⟨kd,ln,tx⟩)=G:=⟨_,rfl⟩
 rw[hG] at hnow⊢
 unfold tokV at hnow
 have fin:G.new (.cells [.int .i64 kd, .int .i64 ln, .string ⟨⟨tx⟩⟩] 65 .ex)=G.new (tkC ⟨kd,ln,tx⟩):=rfl
 refine wpF_rG (by rfl) (by kernel_rfl) ?_;(conv in (rF _ _).body=>reduce);(conv in (rF _ _).res=>reduce)
 by_cases k8:kd=8
 ·subst k8
  by_cases e:tx=c1::s
  ·have hd:=decide_eq_true e
   have hw:=fun K Q=> @pisWord_iff K c1 s Q
   cases hW:isWd (c1::s) with
   | true=>
     rw[hW] at hw
     rw[decide_eq_true ⟨.inl rfl,e,rfl⟩]
     repeat' (first | (simp (disch:=first | omega | (decide +kernel)) only[↓RD,RU,accW_t,accW_f,isW,↓putF_get,↓putF_none,↓evF_t,↓evF_c,new_get,getD_zero,getD_succ,pop,lop,aop,wop,resL,resV,tupleV,akV,isVal,isCell,Value.cells,ρ0,ρ1,ρ3,↓reduceIte,Nat.reduceEqDiff,Nat.reduceAdd,Int.reduceOfNat,reduceCtorEq,ρ5,ρ6,ρ7,ρ8,ρ17,ρ20,ρ21,ρ22,ρ23,Kd.isRo,ρ25,ρ26,ρ28,hnow,new_set,pstr_eq,hw]) | (with_reducible first | refine condK_dec (fun _=> ?_) fun _=> ?_ | refine grd_dec (fun _=> ?_) fun _=> ?_ | refine egrd_dec (fun _=> ?_) fun _=> ?_))
     all_goals exact fin
   | false=>
     rw[hW] at hw
     rw[decide_eq_false (by simp)]
     repeat' (first | (simp (disch:=first | omega | (decide +kernel)) only[↓RD,RU,accW_t,accW_f,isW,↓putF_get,↓putF_none,↓evF_t,↓evF_c,new_get,getD_zero,getD_succ,pop,lop,aop,wop,resL,resV,tupleV,akV,isVal,isCell,Value.cells,ρ0,ρ1,↓reduceIte,Nat.reduceEqDiff,Nat.reduceAdd,Int.reduceOfNat,reduceCtorEq,ρ5,ρ6,ρ7,ρ8,ρ17,ρ20,ρ21,ρ22,ρ23,Kd.isRo,ρ25,ρ26,ρ28,hnow,new_set,pstr_eq,hw]) | (with_reducible first | refine condK_dec (fun _=> ?_) fun _=> ?_ | refine grd_dec (fun _=> ?_) fun _=> ?_ | refine egrd_dec (fun _=> ?_) fun _=> ?_))
     all_goals exact fin
  ·have hd:=decide_eq_false e
   rw[decide_eq_false (fun g=>e g.2.1)]
   repeat' (first | (simp (disch:=first | omega | (decide +kernel)) only[↓RD,RU,accW_t,accW_f,isW,↓putF_get,↓putF_none,↓evF_t,↓evF_c,new_get,getD_zero,getD_succ,pop,lop,aop,wop,resL,resV,tupleV,akV,isVal,isCell,Value.cells,ρ0,ρ1,↓reduceIte,Nat.reduceEqDiff,Nat.reduceAdd,Int.reduceOfNat,reduceCtorEq,ρ5,ρ6,ρ7,ρ8,ρ17,ρ20,ρ21,ρ22,ρ23,Kd.isRo,ρ25,ρ26,ρ28,hnow,new_set,pstr_eq]) | (with_reducible first | refine condK_dec (fun _=> ?_) fun _=> ?_ | refine grd_dec (fun _=> ?_) fun _=> ?_ | refine egrd_dec (fun _=> ?_) fun _=> ?_))
   all_goals exact fin
 ·by_cases k9:kd=9
  ·subst k9
   by_cases e:tx=c1::s
   ·have hd:=decide_eq_true e
    have hw:=fun K Q=> @pisWord_iff K c1 s Q
    cases hW:isWd (c1::s) with
    | true=>
      rw[hW] at hw
      rw[decide_eq_false (by simp)]
      repeat' (first | (simp (disch:=first | omega | (decide +kernel)) only[↓RD,RU,accW_t,accW_f,isW,↓putF_get,↓putF_none,↓evF_t,↓evF_c,new_get,getD_zero,getD_succ,pop,lop,aop,wop,resL,resV,tupleV,akV,isVal,isCell,Value.cells,ρ0,ρ1,ρ2,↓reduceIte,Nat.reduceEqDiff,Nat.reduceAdd,Int.reduceOfNat,reduceCtorEq,ρ5,ρ6,ρ7,ρ8,ρ17,ρ20,ρ21,ρ22,ρ23,Kd.isRo,ρ25,ρ26,ρ28,hnow,new_set,pstr_eq,hw]) | (with_reducible first | refine condK_dec (fun _=> ?_) fun _=> ?_ | refine grd_dec (fun _=> ?_) fun _=> ?_ | refine egrd_dec (fun _=> ?_) fun _=> ?_))
      all_goals exact fin
    | false=>
      rw[hW] at hw
      rw[decide_eq_true ⟨.inr rfl,e,by simp⟩]
      repeat' (first | (simp (disch:=first | omega | (decide +kernel)) only[↓RD,RU,accW_t,accW_f,isW,↓putF_get,↓putF_none,↓evF_t,↓evF_c,new_get,getD_zero,getD_succ,pop,lop,aop,wop,resL,resV,tupleV,akV,isVal,isCell,Value.cells,ρ0,ρ1,ρ3,↓reduceIte,Nat.reduceEqDiff,Nat.reduceAdd,Int.reduceOfNat,reduceCtorEq,ρ5,ρ6,ρ7,ρ8,ρ17,ρ20,ρ21,ρ22,ρ23,Kd.isRo,ρ25,ρ26,ρ28,hnow,new_set,pstr_eq,hw]) | (with_reducible first | refine condK_dec (fun _=> ?_) fun _=> ?_ | refine grd_dec (fun _=> ?_) fun _=> ?_ | refine egrd_dec (fun _=> ?_) fun _=> ?_))
      all_goals exact fin
   ·have hd:=decide_eq_false e
    rw[decide_eq_false (fun g=>e g.2.1)]
    repeat' (first | (simp (disch:=first | omega | (decide +kernel)) only[↓RD,RU,accW_t,accW_f,isW,↓putF_get,↓putF_none,↓evF_t,↓evF_c,new_get,getD_zero,getD_succ,pop,lop,aop,wop,resL,resV,tupleV,akV,isVal,isCell,Value.cells,ρ0,ρ1,↓reduceIte,Nat.reduceEqDiff,Nat.reduceAdd,Int.reduceOfNat,reduceCtorEq,ρ5,ρ6,ρ7,ρ8,ρ17,ρ20,ρ21,ρ22,ρ23,Kd.isRo,ρ25,ρ26,ρ28,hnow,new_set,pstr_eq]) | (with_reducible first | refine condK_dec (fun _=> ?_) fun _=> ?_ | refine grd_dec (fun _=> ?_) fun _=> ?_ | refine egrd_dec (fun _=> ?_) fun _=> ?_))
    all_goals exact fin
  ·rw[decide_eq_false (fun g=>g.1.elim k8 k9)]
   repeat' (first | (simp (disch:=first | omega | (decide +kernel)) only[↓RD,RU,accW_t,accW_f,isW,↓putF_get,↓putF_none,↓evF_t,↓evF_c,new_get,getD_zero,pop,lop,aop,wop,resL,resV,tupleV,akV,isVal,isCell,Value.cells,ρ0,ρ1,↓reduceIte,Nat.reduceEqDiff,Nat.reduceAdd,Int.reduceOfNat,reduceCtorEq,ρ5,ρ6,ρ7,ρ8,ρ17,ρ20,ρ21,ρ22,ρ23,Kd.isRo,ρ25,ρ26,ρ28,hnow,new_set,k8,k9]) | (with_reducible first | refine condK_dec (fun _=> ?_) fun _=> ?_ | refine grd_dec (fun _=> ?_) fun _=> ?_ | refine egrd_dec (fun _=> ?_) fun _=> ?_))
   all_goals exact fin
theorem pkind_wp{K:CH}{p:Nat}{sl:Sl}{ts:List PT}{i:Nat}(h:RpP K p sl ts i){k:Int}:WpF (tblG Tryz.prog LG GG) 64 [.pointer (some ⟨p,0,none⟩), .int .i64 k] K fun v K'=>v= .bool (decide ((nowT ts i).kind=k))∧K'=K.new (tkC (nowT ts i)):=by
 have hob:=h.ob
 have hpl:=h.pl
 have hnow:=fun Q=> @pnow_iff K p sl ts i h Q
 obtain⟨t,ht⟩ : ∃t,nowT ts i=t:=⟨_,rfl⟩
 unfold rpC at hob
 rw[ht] at hnow⊢
 obtain⟨kd,ln,tx⟩:=t
 unfold tokV at hnow
 refine wpF_rG (by rfl) (by kernel_rfl) ?_;(conv in (rF _ _).body=>reduce);(conv in (rF _ _).res=>reduce)
 by_cases hk:kd=k
 ·rw[decide_eq_true hk]
  subst hk
  repeat' (first | (simp (disch:=first | omega | (decide +kernel)) only[↓RD,RU,↓putF_get,↓evF_t,↓evF_c,getD_zero,getD_succ,pop,resL,resV,tupleV,ρ0,ρ1,↓reduceIte,Nat.reduceEqDiff,reduceCtorEq,ρ5,partV,hnow]) | (with_reducible first | refine condK_dec (fun _=> ?_) fun _=> ?_ | refine grd_dec (fun _=> ?_) fun _=> ?_ | refine egrd_dec (fun _=> ?_) fun _=> ?_))
  all_goals rfl
 ·rw[decide_eq_false hk]
  repeat' (first | (simp (disch:=first | omega | (decide +kernel)) only[↓RD,RU,↓putF_get,↓evF_t,↓evF_c,getD_zero,getD_succ,pop,resL,resV,tupleV,ρ0,ρ1,↓reduceIte,Nat.reduceEqDiff,reduceCtorEq,ρ5,partV,hnow,hk]) | (with_reducible first | refine condK_dec (fun _=> ?_) fun _=> ?_ | refine grd_dec (fun _=> ?_) fun _=> ?_ | refine egrd_dec (fun _=> ?_) fun _=> ?_))
  all_goals rfl
theorem pnode_wp{K:CH}{k l:Int}{a:Option Addr}{n c:Nat}:WpF (tblG Tryz.prog LG GG) 21 [.int .i64 k, .int .i64 l, .slice a n c] K fun v K'=>v= .agg #[.int .i64 k, .int .i64 l, .string ⟨⟨[]⟩⟩, .int .i64 0, .slice a n c]∧∃o,K'=K.new o:=by
 refine wpF_rG (by rfl) (by kernel_rfl) ?_;(conv in (rF _ _).body=>reduce);(conv in (rF _ _).res=>reduce)
 repeat' (first | (simp (disch:=first | omega | (decide +kernel)) only[↓RD,RU,↓putF_get,↓putF_none,↓evF_t,new_get,getD_zero,getD_succ,pop,lop,aop,wop,resL,resV,tupleV,akV,isVal,isCell,Value.cells,ρ0,ρ1,ρ4,↓reduceIte,Nat.reduceEqDiff,Nat.reduceAdd,Int.reduceOfNat,reduceCtorEq,ρ7,ρ8,ρ15,ρ17,ρ18,ρ19,ρ20,ρ21,ρ22,ρ23,Kd.isRo,ρ25,ρ26,bldV,Nat.reduceLeDiff,new_set]) | (with_reducible first | refine condK_dec (fun _=> ?_) fun _=> ?_ | refine grd_dec (fun _=> ?_) fun _=> ?_ | refine egrd_dec (fun _=> ?_) fun _=> ?_))
 all_goals exact⟨_,rfl⟩
end Can
end Go.Proofs.YtdfgkcoenagaaaaGreat
end
section
namespace Go.Proofs.YtdfgkcoenagaaaaGreat
namespace Can
open Go Go.RowKit
set_option linter.unusedSimpArgs false
set_option linter.unusedVariables false
set_option maxRecDepth 4000
mutual
def ndS:Nd→List SV
 | .mk k l x o ks=> [.sc (.int .i64 (k:Nat)), .sc (.int .i64 l), .sc (.string ⟨⟨x⟩⟩), .sc (.int .i64 (o:Nat)), .row 5 (ndsS ks)]
def ndsS:List Nd→List (List SV)
 | []=> []
 | n::ks=>ndS n::ndsS ks
end
theorem ndsS_app : ∀ {a b:List Nd},ndsS (a++b)=ndsS a++ndsS b
 | [],b=>rfl
 | n::a,b=>by simp only[List.cons_append,ndsS,ndsS_app]
theorem ndsS_len : ∀ {a:List Nd},(ndsS a).length=a.length
 | []=>rfl
 | n::a=>by simp only[ndsS,List.length_cons,ndsS_len]
theorem ndS_len{t:Nd}:(ndS t).length=5:=by cases t;rfl
theorem ndsS_get : ∀ {a:List Nd} {i:Nat} {t:Nd},a[i]? = some t→(ndsS a)[i]? = some (ndS t)
 | [],i,t,h=>by simp at h
 | n::a,0,t,h=>by simp at h;subst h;rfl
 | n::a,i+1,t,h=>by simpa[ndsS] using ndsS_get (a:=a) (i:=i) (by simpa using h)
def ndA (t:Nd):AV:= .r (.agg ((ndS t).map .s))
def tokA (t:PT):AV:= .r (.agg [cS (.int .i64 t.kind),cS (.int .i64 t.line),cS (.string ⟨⟨t.text⟩⟩)])
structure TkZ(Z:TP)(sl:Sl)(ts:List PT):Prop where
 n:sl.n=ts.length
 q : ∀l o,sl.q=some ⟨l,o,none⟩→Z.N l
 tk : ∀K:CH,(∀b,Z.N b→b<K.nx∧K.ob b=Z.M b)→SlAt 3 CTk K sl.q sl.c ts
theorem tokA_rel{K:CH}{E:TE}{t:PT}:AVR K E (tokA t) (.agg (tokV t).toArray):= .r (.agg (vs:=tokV t) (.cons (.s (.sc rfl)) (.cons (.s (.sc rfl)) (.cons (.s (.sc rfl)) .nil))))
theorem rS_rel{K:CH}{E:TE}{v:Value}(h:isCell v=true):AVR K E (rS v) v:= .r (.c (.s (.sc h)))
theorem r2_rS{K:CH}{E:TE} : ∀ {L:List Value} {vs:List Value},R2 (AVR K E) (L.map rS) vs→vs=L
 | [],_, .nil=>rfl
 | v::L,_, .cons h t=>by rw[r2_rS t,raw_rel h rfl]
theorem tc_self{Z:TP}{T:Tbl}{X:Pan}{f:FuncId}{args:List AV}{e:TypeId}{s s':List SV}{Q:AV→List SV→Prop}{R:Value→Prop}(h:s=s')(g:TC Z T X f args (some (e,s')) Q R):TC Z T X f args (some (e,s)) Q R:=by rw[h];exact g
theorem wr_inc{i n:Nat}(h:i<n)(hn:n≤4398046510976):(IntKind.wrap .i64 ((i:Int)+1))=((i+1:Nat):Int):=by
 rw[w_i64 (by omega) (by omega)];omega
def rdS (sl:Sl)(i:Nat):List SV:= [.sc (.slice sl.q sl.n sl.c), .sc (.int .i64 (i:Nat))]
abbrev rdR(sl:Sl)(i:Nat):Self:=some (59,rdS sl i)
theorem self_inv{K:CH}{E:TE}{sp:Option Nat}{sl:Sl}{i:Nat}(h:SelfR K E sp (rdR sl i)) : ∃p,sp=some p∧p<K.nx∧K.ob p=rpC sl i:=by
 obtain⟨p,os,h1,h2,h3,h4⟩:=h
 refine⟨p,h1,h2,?_⟩
 rw[h3]
 cases h4 with
 | cons a h4=>cases h4 with
   | cons b h4=>cases h4;cases a;cases b;rfl
theorem self_mk{K:CH}{E:TE}{p:Nat}{sl:Sl}{i:Nat}(h:p<K.nx)(ho:K.ob p=rpC sl i):SelfR K E (some p) (rdR sl i):=⟨p,_,rfl,h,ho, .cons (.sc rfl) (.cons (.sc rfl) .nil)⟩
theorem tc_rd{Z:TP}{X:Pan}{sl:Sl}{ts:List PT}(hZ:TkZ Z sl ts){f:FuncId}{L:List Value}{i j:Nat}{a:AV}{V:Value}{Q:AV→List SV→Prop}{R:Value→Prop}(hi:i≤ts.length)(hV : ∀K E,AVR K E a V)(hc:a.clean)
 (h : ∀K p,RpP K p sl ts i→WpF (tblG Tryz.prog LG GG) f (.pointer (some ⟨p,0,none⟩)::L) K fun v K'=>v=V∧K.nx≤K'.nx∧(∀b,b<K.nx→b≠p→K'.ob b=K.ob b)∧K'.ob p=rpC sl j) (hQ:Q a (rdS sl j)):TC Z (tblG Tryz.prog LG GG) X f (.ptr 0 0::L.map rS) (rdR sl i) Q R:=by
 refine tc_old rfl fun K sp hid vs h1 h2 h3 h4=> ?_
 obtain⟨p,rfl,hp,ho⟩:=self_inv h4
 have hvs:vs= .pointer (some ⟨p,0,none⟩)::L:=by
  cases h3 with
  | cons g1 g2=>
    obtain⟨l,q1,q2⟩:=g1.ptr_inv
    have q1:some p=some l:=q1
    cases q1
    rw[q2,r2_rS g2]
 subst hvs
 left
 refine(h K p ⟨ho,hp,hi,hZ.n,hZ.tk K fun b hb=>⟨(h2 b hb).1,(h2 b hb).2.2⟩⟩).mono fun v K' ⟨e1,e2,e3,e4⟩=> ?_
 subst e1
 exact⟨e2,fun b hb hs=>e3 b hb fun e=>hs (by rw[e]),a,rdS sl j,hV _ _,hc,self_mk (Nat.lt_of_lt_of_le hp e2) e4,rfl,hQ⟩
structure PCtx(Z:TP)(X:Pan)(W:Int→Value)(ts:List PT)(sl:Sl):Prop where
 tkz:TkZ Z sl ts
 fail : ∀(i:Nat) (Q:AV→List SV→Prop) (R:Value→Prop),i≤ts.length→R (W (nowT ts i).line)→TC Z (tblG Tryz.prog LG GG) X 63 [.ptr 0 0] (rdR sl i) Q R
 len:ts.length≤4398046510976
def DT:TD:=⟨[21]⟩
theorem dt_ok:TDOk (tblG Tryz.prog LG GG) DT:=⟨fun f hf K k l a n c=>by
 have:f=21:=by
  simp only[DT,List.elem_cons,List.elem_nil] at hf
  split at hf
  ·rename_i h;exact eq_of_beq h
  ·cases hf
 subst this
 exact pnode_wp⟩
section
variable {Z:TP} {X:Pan} {W:Int→Value} {ts:List PT} {sl:Sl} {R:Value→Prop} {Q:AV→List SV→Prop} {E:Nat→Prop} {P:List Nd→Nat→Prop} {i:Nat}
theorem now_tc(C:PCtx Z X W ts sl)(hi:i≤ts.length)(hQ:Q (tokA (nowT ts i)) (rdS sl i)):TC Z (tblG Tryz.prog LG GG) X 22 [.ptr 0 0] (rdR sl i) Q R:=
 tc_rd C.tkz (L:= []) hi (fun _ _=>tokA_rel) trivial (fun K p h=>(pnow_wp h).mono fun v K' ⟨e1,e2⟩=>by
  subst e2
  exact⟨e1,Nat.le_succ _,fun b hb _=>new_ne (by omega),(new_ne (by have:=h.pl;omega)).trans h.ob⟩) hQ
theorem is_tc(C:PCtx Z X W ts sl){s:List UInt8}(hs:s≠ [])(hi:i≤ts.length)(hQ:Q (rS (.bool (isT ts i s))) (rdS sl i)):TC Z (tblG Tryz.prog LG GG) X 61 [.ptr 0 0,rS (.string ⟨⟨s⟩⟩)] (rdR sl i) Q R:=by
 obtain⟨c1,s,rfl⟩ : ∃c1 s',s=c1::s':=by cases s;exact absurd rfl hs;exact⟨_,_,rfl⟩
 exact tc_rd C.tkz (L:= [.string ⟨⟨c1::s⟩⟩]) hi (fun _ _=>rS_rel rfl) trivial (fun K p h=>(pis_wp h).mono fun v K' ⟨e1,e2⟩=>by
  subst e2
  have:=h.pl
  refine⟨e1,by simp only[new_nx];omega,fun b hb _=> ?_,?_⟩
  ·rw[new_ne (by simp only[new_nx];omega),new_ne (by omega)]
  ·rw[new_ne (by simp only[new_nx];omega),new_ne (by omega)];exact h.ob) hQ
theorem kind_tc(C:PCtx Z X W ts sl){k:Int}(hi:i≤ts.length)(hQ:Q (rS (.bool (decide ((nowT ts i).kind=k)))) (rdS sl i)):TC Z (tblG Tryz.prog LG GG) X 64 [.ptr 0 0,rS (.int .i64 k)] (rdR sl i) Q R:=
 tc_rd C.tkz (L:= [.int .i64 k]) hi (fun _ _=>rS_rel rfl) trivial (fun K p h=>(pkind_wp h).mono fun v K' ⟨e1,e2⟩=>by
  subst e2
  exact⟨e1,Nat.le_succ _,fun b hb _=>new_ne (by omega),(new_ne (by have:=h.pl;omega)).trans h.ob⟩) hQ
end
end Can
end Go.Proofs.YtdfgkcoenagaaaaGreat
end
section
namespace Go.Proofs.YtdfgkcoenagaaaaGreat
namespace Can
open Go Go.RowKit
set_option linter.unusedSimpArgs false
set_option linter.unusedVariables false
set_option maxRecDepth 4000
def wrV (l:Int):Value:= .iface 61 (.agg #[.int .i64 l])
noncomputable def regOps:Option Code→Array Oper
 | some (.region _ ops _)=>ops
 | _=> #[]
noncomputable def failOps:Array Oper:=regOps (Tryz.f63).body
def pX:Pan:=fun f args H v H'=>f=63∧∃p sl ts i,args= [.pointer (some ⟨p,0,none⟩)]∧RpP H p sl ts i∧v=wrV (nowT ts i).line∧H'=H.new (tkC (nowT ts i))
noncomputable def failIts:List Item:=(resItems Tryz.prog 7 failOps (failOps.toList.take 4)).getD []
theorem failIts_ok:resItems Tryz.prog 7 failOps (failOps.toList.take 4)=some failIts:=by
 unfold failIts
 have h:(resItems Tryz.prog 7 failOps (failOps.toList.take 4)).isSome=true:=by kernel_rfl
 cases hr:resItems Tryz.prog 7 failOps (failOps.toList.take 4) with
 | none=>rw[hr] at h;cases h
 | some l=>rfl
theorem fail_run{H:CH}{p:Nat}{sl:Sl}{ts:List PT}{i:Nat}(h:RpP H p sl ts i):WpI (tblG Tryz.prog LG GG) failIts (fun t=> [Value.pointer (some ⟨p,0,none⟩)].getD t undef) H fun fr1 H1=>fr1 5= .agg #[.int .i64 (nowT ts i).line]∧H1=H.new (tkC (nowT ts i)):=by
 have hnow:=fun Q=> @pnow_iff H p sl ts i h Q
 unfold tokV at hnow
 conv in failIts=>reduce
 repeat' (first | (simp (disch:=first | omega | (decide +kernel)) only[↓RD,RU,↓putF_get,↓evF_t,getD_zero,pop,isVal,Value.cells,ρ0,ρ1,ρ4,↓reduceIte,Int.reduceOfNat,ρ5,ρ6,ρ7,ρ8,ρ17,ρ21,ρ25,ρ26,bldV,partV,hnow]) | (with_reducible first | refine condK_dec (fun _=> ?_) fun _=> ?_ | refine grd_dec (fun _=> ?_) fun _=> ?_ | refine egrd_dec (fun _=> ?_) fun _=> ?_))
 all_goals exact⟨rfl,rfl⟩
theorem fail_ok{B:Nat}{f:FuncId}{args:List Value}{H:CH}{v:Value}{H':CH}(h:pX f args H v H'):PanC Tryz.prog B f args H v H':=by
 obtain⟨rfl,p,sl,ts,i,rfl,hR,rfl,rfl⟩:=h
 refine⟨by kernel_rfl,fun β w args' hS hv=> ?_⟩
 obtain⟨n,fr1,H1,hrun,h5,rfl⟩:=fail_run hR
 obtain⟨hl,hits⟩:=resItems_ok failIts_ok
 have hbody:(Tryz.f63).body=some (.region 0 failOps false):=by rfl
 refine callsIn_of_wp_marks Tryz.func63 hbody trivial ?_ rfl
 have hnt:(Tryz.f63).ntmps=7:=by rfl
 have hf:=frArgs (N:=7) hv
 rw[hnt]
 refine wpIn_region ?_
 show wpOpsIn (Fn none) 0 Tryz.prog failOps _ ([0,1,2,3]++ [4,5]) _ w
 refine wpOpsIn_app [4,5] [0,1,2,3] _ w ?_
 refine items_sound (fn_sound tg_ok n) [0,1,2,3] failIts β _ fr1 H _ _ w (by rw[hl];rfl) (fun k h1 h2=> ?_) hS hf hrun fun β' w' a' q1 q2 q3 q4=> ?_
 ·have hk:k<(failOps.toList.take 4).length:=by rw[←hl];exact h1
  refine⟨(failOps.toList.take 4)[k],?_,hits k h1 hk⟩
  have hk4:k<4:=by simpa using h2
  obtain rfl | rfl | rfl | rfl:k=0∨k=1∨k=2∨k=3:=by omega
  all_goals rfl
 ·have h5':a'.tmps.getD 5 undef= .agg #[.int .i64 (nowT ts i).line]:=by
   have:=q3.2 5
   rw[h5] at this
   exact closedW_eq rfl this
  have hlen:=q3.1
  show wpOpsIn (Fn none) 0 Tryz.prog failOps _ [4,5] a' w'
  have ho4:failOps[4]? = some (failOps[4]'(by decide)):=rfl
  have ho5:failOps[5]? = some (failOps[5]'(by decide)):=rfl
  simp only[wpOpsIn,ho4,ho5]
  rw[if_pos (by rfl)]
  refine⟨fun f _=>trivial,?_⟩
  have hr4:((failOps[4]'(by decide)).semAt (Fn none).round a'.eval).run Tryz.prog w'= .ok (.value (wrV (nowT ts i).line)) w':=by
   rw[show(Fn none).round=none from rfl,Oper.semAt_none]
   simp[execOp,failOps,regOps,Tryz.f63,Instr.makeInterface,Act.eval,h5']
   rfl
  rw[hr4,Oper.uponIn_value]
  have hd4:(failOps[4]'(by decide)).dst=some 6:=rfl
  rw[hd4]
  have h6:(a'.put (some 6) (wrV (nowT ts i).line)).tmps.getD 6 undef=wrV (nowT ts i).line:=by
   show(a'.tmps.setIfInBounds 6 _).getD 6 undef=_
   rw[Array.getD_eq_getD_getElem?,Array.getElem?_setIfInBounds_self_of_lt (by omega)]
   rfl
  have hdef:(a'.put (some 6) (wrV (nowT ts i).line)).defers= []:=q4
  generalize a'.put (some 6) (wrV (nowT ts i).line)=a2 at h6 hdef⊢
  rw[if_pos (by rfl)]
  refine⟨fun f _=>trivial,?_⟩
  have hr5:((failOps[5]'(by decide)).semAt (Fn none).round a2.eval).run Tryz.prog w'= .halt (.panic (wrV (nowT ts i).line)) w':=by
   rw[show(Fn none).round=none from rfl,Oper.semAt_none]
   simp[execOp,failOps,regOps,Tryz.f63,Instr.panic,Act.eval,h6,wrV]
  rw[hr5,Oper.uponIn_panic]
  show LeavesInM _ _ _ _ _ _ a2.defers _ w'
  rw[hdef]
  exact⟨_,β',rfl, .iface _ (.agg rfl fun i h1 h2=>by
   have:i=0:=by simpa using h1
   subst this;exact .int _ _),q1,q2⟩
theorem pctx{Z:TP}{sl:Sl}{ts:List PT}(hZ:TkZ Z sl ts)(hl:ts.length≤4398046510976):PCtx Z pX wrV ts sl:=⟨hZ,fun i Q R hi hR=>tc_old rfl fun K sp hid vs h1 h2 h3 h4=>by
 obtain⟨p,rfl,hp,ho⟩:=self_inv h4
 have hvs:vs= [.pointer (some ⟨p,0,none⟩)]:=by
  cases h3 with
  | cons g1 g2=>
    cases g2
    obtain⟨l,q1,q2⟩:=g1.ptr_inv
    have q1:some p=some l:=q1
    cases q1
    rw[q2]
 subst hvs
 exact .inr ⟨0,_,_,⟨rfl,p,sl,ts,i,rfl,⟨ho,hp,hi,hZ.n,hZ.tk K fun b hb=>⟨(h2 b hb).1,(h2 b hb).2.2⟩⟩,rfl,rfl⟩,Nat.le_succ _,fun b hb _=>new_ne (by omega),hR⟩,hl⟩
end Can
end Go.Proofs.YtdfgkcoenagaaaaGreat
end
section
namespace Go.Proofs.YtdfgkcoenagaaaaGreat
namespace Can
open Go Go.RowKit
set_option linter.unusedSimpArgs false
set_option linter.unusedVariables false
set_option maxRecDepth 4000
theorem gd_ret:GdRet Tryz.prog 20 3:=by
 intro args w ha
 match args,ha with
 | [v1,v2,v3],_=>
   refine callsDIn_of_wpSIn Tryz.func20 rfl trivial fun c0 cs hu=> ?_
   have hnt:(Tryz.f20).ntmps=20:=by rfl
   rw[hnt]
   apply wpSIn_seq
   apply wpSIn_region
   simp[wpOpsSIn,go_sem,recoverD,hu,Exit.thenS]
   refine wpSIn_of_wpIn rfl (wpIn_seq (wpIn_region ?_))
   simp[wpOpsIn,go_sem]
   refine wpIn_cond_false (by simp[Act.eval]) (wpIn_skip ?_)
   simp[bodyPostS,results,Tryz.f20]
   cases c0
   simp_all
def lastOps:Code→Array Oper
 | .seq _ b=>lastOps b
 | .cond _ a _=>lastOps a
 | .region _ ops _=>ops
 | _=> #[]
noncomputable def gdOps:Array Oper:=lastOps ((Tryz.f20).body.getD .skip)
noncomputable def gdD:DReg:=(resD Tryz.prog 20 gdOps).getD ⟨[],[],none⟩
theorem gdD_ok:DOk Tryz.prog 20 gdOps gdD∧PDOk Tryz.prog 20 gdOps gdD:=by
 refine resD_ok ?_
 unfold gdD
 have h:(resD Tryz.prog 20 gdOps).isSome=true:=by kernel_rfl
 cases hr:resD Tryz.prog 20 gdOps with
 | none=>rw[hr] at h;cases h
 | some l=>rfl
def gdH (H:CH)(l:Int):CH:=(H.new (.cells [.int .i64 0] 61 .ex)).set H.nx (.cells [.int .i64 l] 61 .ex)
def gdG (args:List Value)(v:Value)(H H':CH):Prop:=args.length=3∧∃l,v=wrV l∧WpR (tblG Tryz.prog LG GG) (.drw gdD) (fun t=>if t=4 then .pointer (some ⟨H.nx,0,none⟩) else args.getD t undef) (gdH H l) fun x _ K=>x= .normal∧K=H'
noncomputable def gdTl:Code:=match (Tryz.f20).body with
 | some (.seq _ (.seq _ (.cond _ x _)))=>x
 | _=> .skip
noncomputable def gd0:Array Oper:=match (Tryz.f20).body with
 | some (.seq (.region _ ops _) _)=>ops
 | _=> #[]
noncomputable def gd1:Array Oper:=match (Tryz.f20).body with
 | some (.seq _ (.seq (.region _ ops _) _))=>ops
 | _=> #[]
noncomputable def gd2:Array Oper:=match gdTl with
 | .seq (.region _ ops _) _=>ops
 | _=> #[]
noncomputable def gd3:Array Oper:=match gdTl with
 | .seq _ (.seq (.seq (.region _ ops _) _) _)=>ops
 | _=> #[]
noncomputable def gd4:Code:=match gdTl with
 | .seq _ (.seq (.seq _ (.cond _ x _)) _)=>x
 | _=> .skip
theorem gd_ops{K3:Act→World→Prop}{Q3:Exit→Act→World→Prop}{a:Act}{w:World}{l:Int}(h3:a.tmps.getD 3 undef=wrV l)(hs:20≤a.tmps.size)
 (hK : ∀a',a'.defers=a.defers→20≤a'.tmps.size→(∀t,t<3→a'.tmps.getD t undef=a.tmps.getD t undef)→a'.tmps.getD 12 undef= .agg #[.int .i64 l]→a'.tmps.getD 13 undef= .bool true→K3 a' w):wpOpsIn Fence.wide 0 Tryz.prog gd2 (thenQ K3 Q3) [0,1,2,3,4] a w:=by
 have hta : ∀(xt:TypeId) (v:Value) (w:World),(Instr.typeAssert (.iface 61 v) xt 61 true).run Tryz.prog w= .ok (.tuple #[v, .bool true]) w:=fun xt v w=>by kernel_rfl
 have s9:9<a.tmps.size:=by omega
 have s10:10<a.tmps.size:=by omega
 have s11:11<a.tmps.size:=by omega
 have s12:12<a.tmps.size:=by omega
 have s13:13<a.tmps.size:=by omega
 unfold wrV at h3
 simp only[Array.getD_eq_getD_getElem?] at h3 hK
 have e:gd2=_:=rfl
 conv at e=>rhs;whnf
 rw[e]
 simp[wpOpsIn,go_sem,thenQ,hta,h3,s9,s10,s11,s12,s13]
 refine hK _ rfl (by simpa using hs) (fun t ht=> ?_) ?_ ?_
 ·have g9:9≠t:=by omega
  have g10:10≠t:=by omega
  have g11:11≠t:=by omega
  have g12:12≠t:=by omega
  have g13:13≠t:=by omega
  simp[Array.getElem?_setIfInBounds,g9,g10,g11,g12,g13]
 ·simp[Array.getElem?_setIfInBounds,s12]
 ·simp[Array.getElem?_setIfInBounds,s13]
noncomputable def gdIts:List Item:=(resItems Tryz.prog 20 gd2 (gd2.toList.drop 5)).getD []
theorem gdIts_ok:resItems Tryz.prog 20 gd2 (gd2.toList.drop 5)=some gdIts:=by
 unfold gdIts
 have h:(resItems Tryz.prog 20 gd2 (gd2.toList.drop 5)).isSome=true:=by kernel_rfl
 cases hr:resItems Tryz.prog 20 gd2 (gd2.toList.drop 5) with
 | none=>rw[hr] at h;cases h
 | some l=>rfl
theorem gd_run{H:CH}{l:Int}{fr:Fr}(h12:fr 12= .agg #[.int .i64 l])(h13:fr 13= .bool true):WpI (tblG Tryz.prog LG GG) gdIts fr H fun fr1 H1=>fr1 0=fr 0∧fr1 1=fr 1∧fr1 2=fr 2∧fr1 4= .pointer (some ⟨H.nx,0,none⟩)∧fr1 5= .bool true∧H1=gdH H l:=by
 unfold gdH
 conv in gdIts=>reduce
 repeat' (first | (simp (disch:=first | omega | (decide +kernel)) only[↓RD,RU,↓putF_get,↓putF_none,↓evF_t,new_get,pop,aop,wop,akV,isVal,isCell,Value.cells,↓reduceIte,Nat.reduceEqDiff,Int.reduceOfNat,reduceCtorEq,ρ7,ρ8,ρ17,ρ21,ρ22,ρ23,Kd.isRo,ρ25,ρ26,h12,h13]) | (with_reducible first | refine condK_dec (fun _=> ?_) fun _=> ?_ | refine grd_dec (fun _=> ?_) fun _=> ?_ | refine egrd_dec (fun _=> ?_) fun _=> ?_))
theorem gd_tl{B:Nat}{β:Nat→Ent}{w:World}{u1 u2 u3 v1 v2 v3:Value}{l:Int}{H H':CH}{a:Act}{Q:Exit→Act→World→Prop}(hS:Sim Tryz.prog B β H w)(hargs:VRs β [u1,u2,u3] [v1,v2,v3])(hG:gdG [u1,u2,u3] (wrV l) H H')(h3:a.tmps.getD 3 undef=wrV l)(hs:20≤a.tmps.size)
 (ha : ∀i,i<3→a.tmps.getD i undef= [v1,v2,v3].getD i undef)
 (hK : ∀β' w' a',Sim Tryz.prog B β' H' w'→Evo β w β' w'→a'.defers=a.defers→Q .normal a' w'):gdTl.wpIn Fence.wide 0 Tryz.prog Q a w:=by
 obtain⟨_,l',hl,n,x,fr2,K',hev,rfl,rfl⟩:=hG
 have hl:l'=l:=by
  unfold wrV at hl
  injection hl with _ hl
  injection hl with hl
  simpa using hl.symm
 subst hl
 show(Code.seq (.region 2 gd2 false) (.seq (.seq (.region 3 gd3 false) (.cond (.tmp 15) gd4 .skip)) (.region 5 gdOps true))).wpIn Fence.wide 0 Tryz.prog Q a w
 refine wpIn_seq_k fun K hK2=>wpIn_region ?_
 show wpOpsIn Fence.wide 0 Tryz.prog gd2 _ ([0,1,2,3,4]++ [5,6,7]) a w
 refine wpOpsIn_app [5,6,7] [0,1,2,3,4] a w (gd_ops h3 hs fun a1 hd1 hs1 h01 h12 h13=> ?_)
 have hf1:FR β 20 (fun t=>if t<3 then [u1,u2,u3].getD t undef else if t=12 then .agg #[.int .i64 l'] else if t=13 then .bool true else undef) a1:=by
  refine⟨hs1,fun t=> ?_⟩
  show VR β (if t<3 then [u1,u2,u3].getD t undef else if t=12 then .agg #[.int .i64 l'] else if t=13 then .bool true else undef) _
  split
  ·rename_i ht
   rw[h01 t ht,ha t ht]
   obtain⟨z,z1,z2⟩:=hargs.2 t ([u1,u2,u3].getD t undef) (by
    obtain rfl | rfl | rfl:t=0∨t=1∨t=2:=by omega
    all_goals rfl)
   have e : [v1,v2,v3].getD t undef=z:=by rw[List.getD_eq_getElem?_getD,z1];rfl
   rw[e]
   exact z2
  ·split
   ·rename_i e;subst e;rw[h12];exact closedW_rel rfl β
   ·split
    ·rename_i e;subst e;rw[h13];exact .bool _
    ·exact .undef _
 obtain⟨m,fr1,H1,hrun,g0,g1,g2,g4,g5,rfl⟩:=gd_run (H:=H) (l:=l') (fr:=fun t=>if t<3 then [u1,u2,u3].getD t undef else if t=12 then .agg #[.int .i64 l'] else if t=13 then .bool true else undef) rfl rfl
 obtain⟨hl,hits⟩:=resItems_ok gdIts_ok
 refine items_sound (ro:=none) (fn_sound tg_ok m) [5,6,7] gdIts β _ fr1 H _ a1 w (by rw[hl];rfl) (fun k h1 h2=> ?_) hS hf1 hrun fun β2 w2 a2 q1 q2 q3 q4=> ?_
 ·have hk:k<(gd2.toList.drop 5).length:=by rw[←hl];exact h1
  refine⟨(gd2.toList.drop 5)[k],?_,hits k h1 hk⟩
  have hk3:k<3:=by simpa using h2
  obtain rfl | rfl | rfl:k=0∨k=1∨k=2:=by omega
  all_goals rfl
 ·refine hK2 _ _ ?_
  have h5:a2.tmps.getD 5 undef= .bool true:=by
   have:=q3.2 5
   rw[g5] at this
   exact this.bool_inv
  have hs2:=q3.1
  refine wpIn_seq (wpIn_seq (wpIn_region ?_))
  have e3:gd3=_:=rfl
  conv at e3=>rhs;whnf
  rw[e3]
  have s14:14<a2.tmps.size:=by omega
  have s15:15<a2.tmps.size:=by omega
  simp only[Array.getD_eq_getD_getElem?] at h5
  simp[wpOpsIn,go_sem,h5,s14,s15]
  refine wpIn_cond_false (by simp[Act.eval,Array.getElem?_setIfInBounds,s15]) (wpIn_skip ?_)
  have hev':evD (evH (tblG Tryz.prog LG GG) n) gdD (fun t=>if t=4 then .pointer (some ⟨H.nx,0,none⟩) else [u1,u2,u3].getD t undef) (gdH H l')=some (fr2,K'):=by
   simp only[evR] at hev
   cases hr:evD (evH (tblG Tryz.prog LG GG) n) gdD (fun t=>if t=4 then .pointer (some ⟨H.nx,0,none⟩) else [u1,u2,u3].getD t undef) (gdH H l') with
   | none=>rw[hr] at hev;simp at hev
   | some q=>rw[hr] at hev;simp at hev;rw[←hev.1,←hev.2]
  refine gdD_ok.1 B _ none β2 _ fr2 _ K' _ w2 5 Q (fn_sound tg_ok n) q1 ?_ hev' fun β3 w3 a3 p1 p2 p3 p4=>hK β3 w3 a3 p1 (q2.trans p2) (p4.trans (q4.trans hd1))
  refine⟨by simpa using hs2,fun t=> ?_⟩
  by_cases h15:t=15
  ·subst h15;exact .undef _
  by_cases h14:t=14
  ·subst h14;exact .undef _
  have e : ∀z y:Value,((a2.tmps.setIfInBounds 14 z).setIfInBounds 15 y).getD t undef=a2.tmps.getD t undef:=fun z y=>by
   have g14:14≠t:=fun e=>h14 e.symm
   have g15:15≠t:=fun e=>h15 e.symm
   simp[Array.getD_eq_getD_getElem?,Array.getElem?_setIfInBounds,g14,g15]
  show VR β2 (if t=4 then .pointer (some ⟨H.nx,0,none⟩) else [u1,u2,u3].getD t undef) (Array.getD _ t undef)
  rw[e]
  split
  ·rename_i h4
   subst h4
   rw[←g4]
   exact q3.2 4
  ·match t with
   | 0=>have:=q3.2 0;rw[g0] at this;exact this
   | 1=>have:=q3.2 1;rw[g1] at this;exact this
   | 2=>have:=q3.2 2;rw[g2] at this;exact this
   | n+3=>exact .undef _
theorem gd_pan{B:Nat}:GdPan Tryz.prog B 20 gdG:=by
 intro β w args args' v v' H H' hS hargs hv hG
 obtain⟨hlen,l,hvl,_⟩:=id hG
 subst hvl
 have hv':v'=wrV l:=by
  unfold wrV at hv⊢
  cases hv with
  | iface t hx=>rw[closedW_eq rfl hx]
 subst hv'
 match args,hlen,args',hargs with
 | [u1,u2,u3],_,[v1,v2,v3],hargs=>
   refine callsDIn_of_wpSIn (c:= .seq (.region 0 gd0 false) (.seq (.region 1 gd1 false) (.cond (.tmp 8) gdTl .skip))) Tryz.func20 rfl trivial fun c0 cs hu=> ?_
   have hnt:(Tryz.f20).ntmps=20:=by rfl
   rw[hnt]
   have e0:gd0=_:=rfl
   conv at e0=>rhs;whnf
   have e1:gd1=_:=rfl
   conv at e1=>rhs;whnf
   rw[e0,e1]
   apply wpSIn_seq
   apply wpSIn_region
   simp[wpOpsSIn,go_sem,recoverD,hu,Exit.thenS]
   refine wpSIn_of_wpIn rfl (wpIn_seq (wpIn_region ?_))
   simp[wpOpsIn,go_sem,wrV]
   refine wpIn_cond_true (by simp[Act.eval]) (gd_tl (l:=l) hS hargs hG (by simp[wrV]) (by simp) (fun i hi=> ?_) fun β' w' a' q1 q2 q3=> ?_)
   ·obtain rfl | rfl | rfl:i=0∨i=1∨i=2:=by omega
    all_goals simp
   ·simp[bodyPostS,results,Tryz.f20]
    exact⟨q3,β',q1,q2⟩
end Can
end Go.Proofs.YtdfgkcoenagaaaaGreat
end
section
namespace Go.Proofs.YtdfgkcoenagaaaaGreat
namespace Can
open Go Go.RowKit
set_option linter.unusedSimpArgs false
set_option linter.unusedVariables false
set_option maxRecDepth 4000
attribute [local irreducible] TC isT nowT begT
section
variable {Z:TP} {X:Pan} {W:Int→Value} {ts:List PT} {sl:Sl} {R:Value→Prop} {Q:AV→List SV→Prop} {E:Nat→Prop} {P:List Nd→Nat→Prop} {i:Nat}
theorem rd_inc(C:PCtx Z X W ts sl)(h:i<ts.length){a:AV}(hQ:Q a (rdS sl (i+1))):Q a [SV.sc (.slice sl.q sl.n sl.c),SV.sc (.int .i64 (IntKind.wrap .i64 ((i:Int)+1)))]:=by
 rw[wr_inc h C.len];exact hQ
theorem is_tc2(C:PCtx Z X W ts sl){s:List UInt8}(hs:s≠ [])(hi:i≤ts.length)(h1:isT ts i s=true→Q (rS (.bool true)) (rdS sl i))(h2:isT ts i s=false→Q (rS (.bool false)) (rdS sl i)):TC Z (tblG Tryz.prog LG GG) X 61 [.ptr 0 0,rS (.string ⟨⟨s⟩⟩)] (rdR sl i) Q R:=by
 refine is_tc C hs hi ?_
 cases hb:isT ts i s with
 | true=>exact h1 hb
 | false=>exact h2 hb
theorem has_tc(C:PCtx Z X W ts sl){s:List UInt8}(hs:s≠ [])(hi:i≤ts.length)(h1:isT ts i s=true→i<ts.length→Q (rS (.bool true)) (rdS sl (i+1)))(h2:isT ts i s=false→Q (rS (.bool false)) (rdS sl i)):TC Z (tblG Tryz.prog LG GG) X 33 [.ptr 0 0,rS (.string ⟨⟨s⟩⟩)] (rdR sl i) Q R:=by
 refine tc_rG dt_ok (by rfl) (by kernel_rfl) ?_
 conv in (rF _ _).body=>reduce
 conv in (rF _ _).res=>reduce
 conv=>whnf
 refine is_tc C hs hi ?_
 cases hb:isT ts i s with
 | false=>
   conv=>whnf
   exact h2 hb
 | true=>
   conv=>whnf
   exact rd_inc C (isT_lt' hb) (h1 hb (isT_lt' hb))
theorem want_tc(C:PCtx Z X W ts sl){s:List UInt8}(hs:s≠ [])(hi:i≤ts.length)(h1:isT ts i s=true→i<ts.length→Q (.tup []) (rdS sl (i+1)))(h2:isT ts i s=false→R (W (nowT ts i).line)):TC Z (tblG Tryz.prog LG GG) X 36 [.ptr 0 0,rS (.string ⟨⟨s⟩⟩)] (rdR sl i) Q R:=by
 refine tc_rG dt_ok (by rfl) (by kernel_rfl) ?_
 conv in (rF _ _).body=>reduce
 conv in (rF _ _).res=>reduce
 conv=>whnf
 refine has_tc C hs hi (fun hb hl=> ?_) (fun hb=> ?_)
 ·conv=>whnf
  exact h1 hb hl
 ·conv=>whnf
  exact C.fail i _ _ hi (h2 hb)
theorem wantKind_tc(C:PCtx Z X W ts sl){k:Int}(h0:k≠0)(hi:i≤ts.length)(h1:(nowT ts i).kind=k→i<ts.length→Q (rS (.string ⟨⟨(nowT ts i).text⟩⟩)) (rdS sl (i+1)))(h2:(nowT ts i).kind≠k→R (W (nowT ts i).line)):TC Z (tblG Tryz.prog LG GG) X 40 [.ptr 0 0,rS (.int .i64 k)] (rdR sl i) Q R:=by
 refine tc_rG dt_ok (by rfl) (by kernel_rfl) ?_
 conv in (rF _ _).body=>reduce
 conv in (rF _ _).res=>reduce
 conv=>whnf
 refine now_tc C hi ?_
 conv=>whnf
 refine ifT_c (fun hb=> ?_) (fun hb=> ?_)
 ·conv=>whnf
  refine C.fail i _ _ hi (h2 ?_)
  simpa using hb
 ·have hk:(nowT ts i).kind=k:=by simpa using hb
  have hl:i<ts.length:=kd_lt (by rw[hk];exact h0)
  conv=>whnf
  exact rd_inc C hl (h1 hk hl)
theorem begins_tc(C:PCtx Z X W ts sl)(hi:i≤ts.length)(hQ:Q (rS (.bool (begT ts i))) (rdS sl i)):TC Z (tblG Tryz.prog LG GG) X 66 [.ptr 0 0] (rdR sl i) Q R:=by
 refine tc_rG dt_ok (by rfl) (by kernel_rfl) ?_
 conv in (rF _ _).body=>reduce
 conv in (rF _ _).res=>reduce
 conv=>whnf
 refine now_tc C hi ?_
 obtain⟨t,ht⟩ : ∃t,nowT ts i=t:=⟨_,rfl⟩
 have hw:= @beg_w ts i
 have hs:= @beg_s ts i
 have hk:= @beg_k ts i
 have hn:= @beg_n ts i
 rw[ht] at hw hs hk hn⊢
 obtain⟨kd,ln,tx⟩:=t
 by_cases k4:kd=4
 ·subst k4
  rw[hk (show(4:Int)≤4∧(4:Int)≤7 by decide)] at hQ
  conv=>whnf
  exact hQ
 by_cases k5:kd=5
 ·subst k5
  rw[hk (show(4:Int)≤5∧(5:Int)≤7 by decide)] at hQ
  conv=>whnf
  exact hQ
 by_cases k6:kd=6
 ·subst k6
  rw[hk (show(4:Int)≤6∧(6:Int)≤7 by decide)] at hQ
  conv=>whnf
  exact hQ
 by_cases k7:kd=7
 ·subst k7
  rw[hk (show(4:Int)≤7∧(7:Int)≤7 by decide)] at hQ
  conv=>whnf
  exact hQ
 by_cases k8:kd=8
 ·subst k8
  conv=>whnf
  refine is_tc2 C (by decide) hi (fun(b0:isT ts i s_lambda=true)=> ?_) fun(b0:isT ts i s_lambda=false)=> ?_
  ·conv=>whnf
   rw[hw rfl,b0] at hQ
   exact hQ
  conv=>whnf
  refine is_tc2 C (by decide) hi (fun(b1:isT ts i s_not=true)=> ?_) fun(b1:isT ts i s_not=false)=> ?_
  ·conv=>whnf
   rw[hw rfl,b0,b1] at hQ
   exact hQ
  conv=>whnf
  refine is_tc2 C (by decide) hi (fun(b2:isT ts i s_None=true)=> ?_) fun(b2:isT ts i s_None=false)=> ?_
  ·conv=>whnf
   rw[hw rfl,b0,b1,b2] at hQ
   exact hQ
  conv=>whnf
  refine is_tc2 C (by decide) hi (fun(b3:isT ts i s_True=true)=> ?_) fun(b3:isT ts i s_True=false)=> ?_
  ·conv=>whnf
   rw[hw rfl,b0,b1,b2,b3] at hQ
   exact hQ
  conv=>whnf
  refine is_tc2 C (by decide) hi (fun(b4:isT ts i s_False=true)=> ?_) fun(b4:isT ts i s_False=false)=> ?_
  ·conv=>whnf
   rw[hw rfl,b0,b1,b2,b3,b4] at hQ
   exact hQ
  conv=>whnf
  rw[hw rfl,b0,b1,b2,b3,b4] at hQ
  exact hQ
 by_cases k9:kd=9
 ·subst k9
  conv=>whnf
  refine is_tc2 C (by decide) hi (fun(b0:isT ts i s_plus=true)=> ?_) fun(b0:isT ts i s_plus=false)=> ?_
  ·conv=>whnf
   rw[hs rfl,b0] at hQ
   exact hQ
  conv=>whnf
  refine is_tc2 C (by decide) hi (fun(b1:isT ts i s_minus=true)=> ?_) fun(b1:isT ts i s_minus=false)=> ?_
  ·conv=>whnf
   rw[hs rfl,b0,b1] at hQ
   exact hQ
  conv=>whnf
  refine is_tc2 C (by decide) hi (fun(b2:isT ts i s_lpar=true)=> ?_) fun(b2:isT ts i s_lpar=false)=> ?_
  ·conv=>whnf
   rw[hs rfl,b0,b1,b2] at hQ
   exact hQ
  conv=>whnf
  refine is_tc2 C (by decide) hi (fun(b3:isT ts i s_lbrk=true)=> ?_) fun(b3:isT ts i s_lbrk=false)=> ?_
  ·conv=>whnf
   rw[hs rfl,b0,b1,b2,b3] at hQ
   exact hQ
  conv=>whnf
  refine is_tc2 C (by decide) hi (fun(b4:isT ts i s_lbrc=true)=> ?_) fun(b4:isT ts i s_lbrc=false)=> ?_
  ·conv=>whnf
   rw[hs rfl,b0,b1,b2,b3,b4] at hQ
   exact hQ
  conv=>whnf
  rw[hs rfl,b0,b1,b2,b3,b4] at hQ
  exact hQ
 rw[hn (by simp only;omega) k8 k9] at hQ
 conv=>whnf
 refine ifT_c (fun h=>absurd (by simpa using h) k4) fun _=> ?_
 conv=>whnf
 refine ifT_c (fun h=>absurd (by simpa using h) k5) fun _=> ?_
 conv=>whnf
 refine ifT_c (fun h=>absurd (by simpa using h) k6) fun _=> ?_
 conv=>whnf
 refine ifT_c (fun h=>absurd (by simpa using h) k7) fun _=> ?_
 conv=>whnf
 refine ifT_c (fun h=>absurd (by simpa using h) k8) fun _=> ?_
 conv=>whnf
 refine ifT_c (fun h=>absurd (by simpa using h) k9) fun _=> ?_
 conv=>whnf
 exact hQ
theorem augment_tc(C:PCtx Z X W ts sl)(hi:i≤ts.length)(h1:augT ts i≠0→i<ts.length→Q (rS (.int .i64 (augT ts i:Nat))) (rdS sl (i+1)))(h2:augT ts i=0→Q (rS (.int .i64 0)) (rdS sl i)):TC Z (tblG Tryz.prog LG GG) X 86 [.ptr 0 0] (rdR sl i) Q R:=by
 refine tc_rG dt_ok (by rfl) (by kernel_rfl) ?_
 conv in (rF _ _).body=>reduce
 conv in (rF _ _).res=>reduce
 conv=>whnf
 refine has_tc C (by decide) hi (fun(b0:isT ts i s_plusA=true) hl=> ?_) (fun(b0:isT ts i s_plusA=false)=> ?_)
 ·conv=>whnf
  have e:augT ts i=1:=by simp[augT,b0]
  have h1:=h1 (by rw[e];decide) hl
  rw[e] at h1
  exact h1
 conv=>whnf
 refine has_tc C (by decide) hi (fun(b1:isT ts i s_minusA=true) hl=> ?_) (fun(b1:isT ts i s_minusA=false)=> ?_)
 ·conv=>whnf
  have e:augT ts i=2:=by simp[augT,b0,b1]
  have h1:=h1 (by rw[e];decide) hl
  rw[e] at h1
  exact h1
 conv=>whnf
 refine has_tc C (by decide) hi (fun(b2:isT ts i s_starA=true) hl=> ?_) (fun(b2:isT ts i s_starA=false)=> ?_)
 ·conv=>whnf
  have e:augT ts i=3:=by simp[augT,b0,b1,b2]
  have h1:=h1 (by rw[e];decide) hl
  rw[e] at h1
  exact h1
 conv=>whnf
 refine has_tc C (by decide) hi (fun(b3:isT ts i s_slashA=true) hl=> ?_) (fun(b3:isT ts i s_slashA=false)=> ?_)
 ·conv=>whnf
  have e:augT ts i=4:=by simp[augT,b0,b1,b2,b3]
  have h1:=h1 (by rw[e];decide) hl
  rw[e] at h1
  exact h1
 conv=>whnf
 refine has_tc C (by decide) hi (fun(b4:isT ts i s_dslashA=true) hl=> ?_) (fun(b4:isT ts i s_dslashA=false)=> ?_)
 ·conv=>whnf
  have e:augT ts i=5:=by simp[augT,b0,b1,b2,b3,b4]
  have h1:=h1 (by rw[e];decide) hl
  rw[e] at h1
  exact h1
 conv=>whnf
 refine has_tc C (by decide) hi (fun(b5:isT ts i s_pctA=true) hl=> ?_) (fun(b5:isT ts i s_pctA=false)=> ?_)
 ·conv=>whnf
  have e:augT ts i=6:=by simp[augT,b0,b1,b2,b3,b4,b5]
  have h1:=h1 (by rw[e];decide) hl
  rw[e] at h1
  exact h1
 conv=>whnf
 refine has_tc C (by decide) hi (fun(b6:isT ts i s_dstarA=true) hl=> ?_) (fun(b6:isT ts i s_dstarA=false)=> ?_)
 ·conv=>whnf
  have e:augT ts i=7:=by simp[augT,b0,b1,b2,b3,b4,b5,b6]
  have h1:=h1 (by rw[e];decide) hl
  rw[e] at h1
  exact h1
 conv=>whnf
 exact h2 (by simp[augT,b0,b1,b2,b3,b4,b5,b6])
theorem operator_tc(C:PCtx Z X W ts sl)(hi:i≤ts.length)(hE : ∀e,opT ts i= .error e→R (W (nowT ts e).line))(hQ : ∀op j,opT ts i= .ok (op,j)→j≤ts.length→Q (rS (.int .i64 (op:Nat))) (rdS sl j)):TC Z (tblG Tryz.prog LG GG) X 111 [.ptr 0 0] (rdR sl i) Q R:=by
 refine tc_rG dt_ok (by rfl) (by kernel_rfl) ?_
 conv in (rF _ _).body=>reduce
 conv in (rF _ _).res=>reduce
 conv=>whnf
 refine has_tc C (by decide) hi (fun(b0:isT ts i s_eqeq=true) hl=> ?_) (fun(b0:isT ts i s_eqeq=false)=> ?_)
 ·conv=>whnf
  exact hQ 1 (i+1) (by simp[opT,b0]) hl
 conv=>whnf
 refine has_tc C (by decide) hi (fun(b1:isT ts i s_bne=true) hl=> ?_) (fun(b1:isT ts i s_bne=false)=> ?_)
 ·conv=>whnf
  exact hQ 2 (i+1) (by simp[opT,b0,b1]) hl
 conv=>whnf
 refine has_tc C (by decide) hi (fun(b2:isT ts i s_lt=true) hl=> ?_) (fun(b2:isT ts i s_lt=false)=> ?_)
 ·conv=>whnf
  exact hQ 3 (i+1) (by simp[opT,b0,b1,b2]) hl
 conv=>whnf
 refine has_tc C (by decide) hi (fun(b3:isT ts i s_le=true) hl=> ?_) (fun(b3:isT ts i s_le=false)=> ?_)
 ·conv=>whnf
  exact hQ 4 (i+1) (by simp[opT,b0,b1,b2,b3]) hl
 conv=>whnf
 refine has_tc C (by decide) hi (fun(b4:isT ts i s_gt=true) hl=> ?_) (fun(b4:isT ts i s_gt=false)=> ?_)
 ·conv=>whnf
  exact hQ 5 (i+1) (by simp[opT,b0,b1,b2,b3,b4]) hl
 conv=>whnf
 refine has_tc C (by decide) hi (fun(b5:isT ts i s_ge=true) hl=> ?_) (fun(b5:isT ts i s_ge=false)=> ?_)
 ·conv=>whnf
  exact hQ 6 (i+1) (by simp[opT,b0,b1,b2,b3,b4,b5]) hl
 conv=>whnf
 refine has_tc C (by decide) hi (fun(b6:isT ts i s_in=true) hl=> ?_) (fun(b6:isT ts i s_in=false)=> ?_)
 ·conv=>whnf
  exact hQ 7 (i+1) (by simp[opT,b0,b1,b2,b3,b4,b5,b6]) hl
 conv=>whnf
 refine has_tc C (by decide) hi (fun(b7:isT ts i s_not=true) hl=> ?_) (fun(b7:isT ts i s_not=false)=> ?_)
 ·conv=>whnf
  refine want_tc C (by decide) hl (fun(c0:isT ts (i+1) s_in=true) hl=> ?_) (fun(c0:isT ts (i+1) s_in=false)=> ?_)
  ·conv=>whnf
   exact hQ 8 (i+2) (by simp[opT,b0,b1,b2,b3,b4,b5,b6,b7,c0]) hl
  ·exact hE (i+1) (by simp[opT,b0,b1,b2,b3,b4,b5,b6,b7,c0])
 conv=>whnf
 refine has_tc C (by decide) hi (fun(b8:isT ts i s_is=true) hl=> ?_) (fun(b8:isT ts i s_is=false)=> ?_)
 ·conv=>whnf
  refine has_tc C (by decide) hl (fun(c0:isT ts (i+1) s_not=true) hl=> ?_) (fun(c0:isT ts (i+1) s_not=false)=> ?_)
  ·conv=>whnf
   exact hQ 10 (i+2) (by simp[opT,b0,b1,b2,b3,b4,b5,b6,b7,b8,c0]) hl
  ·conv=>whnf
   exact hQ 9 (i+1) (by simp[opT,b0,b1,b2,b3,b4,b5,b6,b7,b8,c0]) hl
 conv=>whnf
 exact hQ 0 i (by simp[opT,b0,b1,b2,b3,b4,b5,b6,b7,b8]) hi
end
end Can
end Go.Proofs.YtdfgkcoenagaaaaGreat
end
section
namespace Go.Proofs.YtdfgkcoenagaaaaGreat
namespace Can
open Go Go.RowKit
set_option linter.unusedSimpArgs false
set_option linter.unusedVariables false
set_option maxRecDepth 4000
attribute [local irreducible] TC isT nowT begT
theorem gr_post{ts:List PT}{f:Nat}{a:NT}{i:Nat}(hg:a.good)(hi:i≤ts.length){E:Nat→Prop}{P:List Nd→Nat→Prop}(h:Gd E P (gr ts f a i)):Gd (fun e=>E e∧e≤ts.length) (fun l j=>P l j∧a.post i ts.length l j) (gr ts f a i):=by
 cases hr:gr ts f a i with
 | none=>rw[hr] at h;exact h
 | some r=>
   have h1:=gr_gd (ts:=ts) (max f (ts.length*64+a.rank+1)) a i hg hi (by omega)
   rw[gr_mono (Nat.le_max_left ..) hr] at h1
   rw[hr] at h
   match r,h,h1 with
   | .error e,h,h1=>exact⟨h,h1.2⟩
   | .ok (l,j),h,h1=>exact⟨h,h1⟩
def ans1:List Nd→AV
 | [t]=>ndA t
 | _=> .bad
def ansL (l:List Nd):AV:= .r (.c (.s (.row 5 (ndsS l))))
def AccV (acc:List Nd)(c:CV):Prop:=(acc= []∧c= .s (.row 5 []))∨(acc≠ []∧c= .own 0 26 5 (ndsS acc))
theorem accV_app{acc:List Nd}{t:Nd}{g:List (List SV)}(h:g=ndsS acc++ [ndS t]):AccV (acc++ [t]) (.own 0 26 5 g):= .inr ⟨by simp,by rw[h,ndsS_app];rfl⟩
theorem ndsS_snoc{acc:List Nd}{t:Nd}:ndsS (acc++ [t])=ndsS acc++ [ndS t]:=by rw[ndsS_app];rfl
theorem sn_agg{a b c d:CV}{acc:List Nd}{t:Nd}{g:List (List SV)}(h:g=ndsS acc++ [ndS t]):AV.r (.agg [a,b,c,d,CV.s (.row 5 g)])=AV.r (.agg [a,b,c,d,CV.s (.row 5 (ndsS (acc++ [t])))]):=by rw[h,ndsS_snoc]
theorem sn_row{acc:List Nd}{t:Nd}{g:List (List SV)}(h:g=ndsS acc++ [ndS t]):AV.r (.c (CV.s (.row 5 g)))=AV.r (.c (CV.s (.row 5 (ndsS (acc++ [t]))))):=by rw[h,ndsS_snoc]
theorem wr_dec{acc:List Nd}(hne:acc≠ [])(hm:(ndsS acc).length≤maxLen):IntKind.wrap .i64 (((ndsS acc).length:Int)-1)=((acc.length-1:Nat):Int):=by
 rw[ndsS_len] at hm⊢
 rw[maxLen_eq] at hm
 have:acc.length≠0:=fun e=>hne (List.length_eq_zero_iff.1 e)
 rw[w_i64 (by omega) (by omega)];omega
theorem last_get{acc:List Nd}{t:Nd}(h:acc.getLast? = some t):acc[acc.length-1]? = some t:=by rw[←h,List.getLast?_eq_getElem?]
theorem gd_pk1{E:Nat→Prop}{P:List Nd→Nat→Prop}{t:Nd}{j:Nat}{k:Nd→Nat→PR}(h:Gd E (fun l j=>∃t,l= [t]∧Gd E P (k t j)) (pk1 t j)):Gd E P (k t j):=by
 obtain⟨t',e,h⟩:=h
 cases e;exact h
theorem bdA{m:Nat}(h:m≤2199023255552):BdA m 64:=⟨by omega,by rw[maxLen_eq];omega⟩
theorem q_eq{Q:AV→List SV→Prop}{a a':AV}{s s':List SV}(ha:a=a')(hs:s=s')(h:Q a' s'):Q a s:=by rw[ha,hs];exact h
theorem len1_c{E:Nat→Prop}{P:List Nd→Nat→Prop}{acc:List Nd}{A B:PR}{b:Bool}{yes no:Prop}(hG:Gd E P (if acc.length=1 then A else B))(hb:b=true↔acc.length=1)(h1:Gd E P A→yes)(h2:Gd E P B→no):ifT b yes no:=by
 refine ifT_c (fun h=> ?_) fun h=> ?_
 ·rw[if_pos (hb.1 h)] at hG;exact h1 hG
 ·rw[if_neg (fun g=>by rw[hb.2 g] at h;cases h)] at hG;exact h2 hG
theorem ite_andP{p q:Prop}[Decidable p][Decidable q]{a b:PR}:(if p∧q then a else b)=if p then (if q then a else b) else b:=by
 by_cases hp:p<;>by_cases hq:q<;>simp[hp,hq]
abbrev oN(cs:List CV):Nat×TypeId×List CV:=(0,26,cs)
abbrev nzC:List CV:= [cS (.int .i64 0),cS (.int .i64 0),cS (.string ⟨⟨[]⟩⟩),cS (.int .i64 0), .s (.row 5 [])]
abbrev nC(k:Nat)(l:Int)(x:List UInt8)(o:Nat)(c:CV):List CV:= [cS (.int .i64 (k:Nat)),cS (.int .i64 l),cS (.string ⟨⟨x⟩⟩),cS (.int .i64 (o:Nat)),c]
abbrev nA(k:Nat)(l:Int)(x:List UInt8)(o:Nat)(ks:List Nd):List CV:=nC k l x o (.s (.row 5 (ndsS ks)))
abbrev oR(sl:Sl)(j:Nat):Nat×TypeId×List CV:=(0,59,[cS (.slice sl.q sl.n sl.c),cS (.int .i64 (j:Nat))])
def PC (Z:TP)(X:Pan)(W:Int→Value)(ts:List PT)(sl:Sl)(f:Nat)(a:NT)(F:FuncId)(args:List AV)(ans:List Nd→AV):Prop:=
 ∀(i:Nat) (Q:AV→List SV→Prop) (R:Value→Prop) (E:Nat→Prop) (P:List Nd→Nat→Prop),i≤ts.length→Gd E P (gr ts f a i)→(∀e,E e→R (W (nowT ts e).line))→(∀l j,P l j→j≤ts.length→Q (ans l) (rdS sl j))→TC Z (tblG Tryz.prog LG GG) X F args (rdR sl i) Q R
section
variable {Z:TP} {X:Pan} {W:Int→Value} {ts:List PT} {sl:Sl} {R:Value→Prop} {Q:AV→List SV→Prop} {E:Nat→Prop} {P:List Nd→Nat→Prop} {i:Nat}
theorem has_st(C:PCtx Z X W ts sl){s:List UInt8}{A B:PR}(hG:Gd E P (if isT ts i s=true then A else B))(hs:s≠ [])(hi:i≤ts.length)(h1:i<ts.length→Gd E P A→Q (rS (.bool true)) (rdS sl (i+1)))(h2:Gd E P B→Q (rS (.bool false)) (rdS sl i)):TC Z (tblG Tryz.prog LG GG) X 33 [.ptr 0 0,rS (.string ⟨⟨s⟩⟩)] (rdR sl i) Q R:=by
 refine has_tc C hs hi (fun h hl=> ?_) (fun h=> ?_)
 ·rw[if_pos h] at hG;exact h1 hl hG
 ·rw[if_neg (by rw[h];decide)] at hG;exact h2 hG
theorem is_st(C:PCtx Z X W ts sl){s:List UInt8}{A B:PR}(hG:Gd E P (if isT ts i s=true then A else B))(hs:s≠ [])(hi:i≤ts.length)(h1:isT ts i s=true→i<ts.length→Gd E P A→Q (rS (.bool true)) (rdS sl i))(h2:isT ts i s=false→Gd E P B→Q (rS (.bool false)) (rdS sl i)):TC Z (tblG Tryz.prog LG GG) X 61 [.ptr 0 0,rS (.string ⟨⟨s⟩⟩)] (rdR sl i) Q R:=by
 refine is_tc2 C hs hi (fun h=> ?_) (fun h=> ?_)
 ·rw[if_pos h] at hG;exact h1 h (isT_lt' h) hG
 ·rw[if_neg (by rw[h];decide)] at hG;exact h2 h hG
theorem is_stf(C:PCtx Z X W ts sl){s:List UInt8}{A B:PR}(hG:Gd E P (if isT ts i s=false then A else B))(hs:s≠ [])(hi:i≤ts.length)(h1:Gd E P B→Q (rS (.bool true)) (rdS sl i))(h2:Gd E P A→Q (rS (.bool false)) (rdS sl i)):TC Z (tblG Tryz.prog LG GG) X 61 [.ptr 0 0,rS (.string ⟨⟨s⟩⟩)] (rdR sl i) Q R:=by
 refine is_tc2 C hs hi (fun h=> ?_) (fun h=> ?_)
 ·rw[if_neg (by rw[h];decide)] at hG;exact h1 hG
 ·rw[if_pos h] at hG;exact h2 hG
theorem want_kn(C:PCtx Z X W ts sl){s:List UInt8}(hs:s≠ [])(hi:i≤ts.length)(hb:isT ts i s=true)(h1:i<ts.length→Q (.tup []) (rdS sl (i+1))):TC Z (tblG Tryz.prog LG GG) X 36 [.ptr 0 0,rS (.string ⟨⟨s⟩⟩)] (rdR sl i) Q R:=
 want_tc C hs hi (fun _ hl=>h1 hl) fun h=>by rw[hb] at h;cases h
theorem rd_wr(C:PCtx Z X W ts sl)(h:i<ts.length) : [SV.sc (.slice sl.q sl.n sl.c),SV.sc (.int .i64 (IntKind.wrap .i64 ((i:Int)+1)))]=rdS sl (i+1):=by
 rw[wr_inc h C.len];rfl
theorem begins_st(C:PCtx Z X W ts sl){A B:PR}(hG:Gd E P (if begT ts i=true then A else B))(hi:i≤ts.length)(h1:Gd E P A→Q (rS (.bool true)) (rdS sl i))(h2:Gd E P B→Q (rS (.bool false)) (rdS sl i)):TC Z (tblG Tryz.prog LG GG) X 66 [.ptr 0 0] (rdR sl i) Q R:=by
 refine begins_tc C hi ?_
 cases h:begT ts i with
 | true=>rw[if_pos h] at hG;exact h1 hG
 | false=>rw[if_neg (by rw[h];decide)] at hG;exact h2 hG
theorem kind_st(C:PCtx Z X W ts sl){k:Int}{A B:PR}(hG:Gd E P (if (nowT ts i).kind=k then A else B))(h0:k≠0)(hi:i≤ts.length)(h1:i<ts.length→Gd E P A→Q (rS (.bool true)) (rdS sl i))(h2:Gd E P B→Q (rS (.bool false)) (rdS sl i)):TC Z (tblG Tryz.prog LG GG) X 64 [.ptr 0 0,rS (.int .i64 k)] (rdR sl i) Q R:=by
 refine kind_tc C hi ?_
 by_cases h:(nowT ts i).kind=k
 ·rw[if_pos h] at hG;rw[decide_eq_true h];exact h1 (kd_lt (by rw[h];exact h0)) hG
 ·rw[if_neg h] at hG;rw[decide_eq_false h];exact h2 hG
theorem want_st(C:PCtx Z X W ts sl){s:List UInt8}{k:Nat→PR}(hG:Gd E P (wantB ts s i k))(hs:s≠ [])(hi:i≤ts.length)(hE : ∀e,E e→R (W (nowT ts e).line))(h1:i<ts.length→Gd E P (k (i+1))→Q (.tup []) (rdS sl (i+1))):TC Z (tblG Tryz.prog LG GG) X 36 [.ptr 0 0,rS (.string ⟨⟨s⟩⟩)] (rdR sl i) Q R:=by
 unfold wantB at hG
 refine want_tc C hs hi (fun h hl=> ?_) (fun h=> ?_)
 ·rw[if_pos h] at hG;exact h1 hl hG
 ·rw[if_neg (by rw[h];decide)] at hG;exact hE _ hG
theorem wantK_st(C:PCtx Z X W ts sl){kd:Int}{k:List UInt8→Nat→PR}(hG:Gd E P (wantK ts kd i k))(h0:kd≠0)(hi:i≤ts.length)(hE : ∀e,E e→R (W (nowT ts e).line))(h1:i<ts.length→Gd E P (k (nowT ts i).text (i+1))→Q (rS (.string ⟨⟨(nowT ts i).text⟩⟩)) (rdS sl (i+1))):TC Z (tblG Tryz.prog LG GG) X 40 [.ptr 0 0,rS (.int .i64 kd)] (rdR sl i) Q R:=by
 unfold wantK at hG
 refine wantKind_tc C h0 hi (fun h hl=> ?_) (fun h=> ?_)
 ·rw[if_pos h] at hG;exact h1 hl hG
 ·rw[if_neg h] at hG;exact hE _ hG
theorem fail_st(C:PCtx Z X W ts sl)(hi:i≤ts.length)(hG:Gd E P (some (.error i)))(hE : ∀e,E e→R (W (nowT ts e).line)):TC Z (tblG Tryz.prog LG GG) X 63 [.ptr 0 0] (rdR sl i) Q R:=C.fail i Q R hi (hE i hG)
theorem operator_st(C:PCtx Z X W ts sl){A:PR}{B:Nat→Nat→PR}(hG:Gd E P (match opT ts i with | .error e=>some (.error e) | .ok (0,_)=>A | .ok (op+1,j)=>B op j))(hi:i≤ts.length)(hE : ∀e,E e→R (W (nowT ts e).line))(h0:Gd E P A→Q (rS (.int .i64 0)) (rdS sl i))(h1 : ∀op j,i<j→j≤ts.length→Gd E P (B op j)→Q (rS (.int .i64 ((op+1:Nat):Int))) (rdS sl j)):TC Z (tblG Tryz.prog LG GG) X 111 [.ptr 0 0] (rdR sl i) Q R:=by
 have ho:=opT_gd hi
 refine operator_tc C hi (fun e h=> ?_) (fun op j h hj=> ?_)
 ·rw[h] at hG;exact hE e hG
 ·rw[h] at hG ho
  cases op with
  | zero=>
    rcases ho with ⟨_,e⟩ | ⟨h,_⟩
    ·subst e;exact h0 hG
    ·exact absurd rfl h
  | succ op=>
    rcases ho with ⟨h,_⟩ | ⟨_,h2,_⟩
    ·cases h
    ·exact h1 op j h2 hj hG
theorem augment_st(C:PCtx Z X W ts sl){A B:PR}(hG:Gd E P (if augT ts i=0 then A else B))(hi:i≤ts.length)(h1:augT ts i≠0→i<ts.length→Gd E P B→Q (rS (.int .i64 (augT ts i:Nat))) (rdS sl (i+1)))(h2:Gd E P A→Q (rS (.int .i64 0)) (rdS sl i)):TC Z (tblG Tryz.prog LG GG) X 86 [.ptr 0 0] (rdR sl i) Q R:=by
 refine augment_tc C hi (fun h hl=> ?_) (fun h=> ?_)
 ·rw[if_neg h] at hG;exact h1 h hl hG
 ·rw[if_pos h] at hG;exact h2 hG
theorem rul_st{f:Nat}{a:NT}{F:FuncId}{args:List AV}(h:PC Z X W ts sl f a F args ans1){k:Nd→Nat→PR}(hG:Gd E P (pb1 (gr ts f a i) k))(hg:a.good)(ha:a.acc=none)(hE : ∀e,E e→R (W (nowT ts e).line))(hi:i≤ts.length)(h1 : ∀n l x o ks j,i+a.min≤j→j≤ts.length→Gd E P (k (.mk n l x o ks) j)→Q (ndA (.mk n l x o ks)) (rdS sl j)):TC Z (tblG Tryz.prog LG GG) X F args (rdR sl i) Q R:=by
 rw[gd_pb1] at hG
 refine h i Q R _ _ hi (gr_post hg hi hG) (fun e he=>hE e he.1) fun l j ⟨⟨t,e,hP⟩,hp⟩ hj=> ?_
 subst e
 obtain⟨n,l,x,o,ks⟩:=t
 exact h1 n l x o ks j hp.1 hp.2.1 hP
theorem lst_st{f:Nat}{a:NT}{F:FuncId}{args:List AV}(h:PC Z X W ts sl f a F args ansL){k:List Nd→Nat→PR}(hG:Gd E P (pb (gr ts f a i) k))(hg:a.good)(ha:a.acc=some (a.acc.getD 0))(hE : ∀e,E e→R (W (nowT ts e).line))(hi:i≤ts.length)(h1 : ∀l j,i≤j→j≤ts.length→2*l.length+i≤2*a.acc.getD 0+j+1→Gd E P (k l j)→Q (ansL l) (rdS sl j)):TC Z (tblG Tryz.prog LG GG) X F args (rdR sl i) Q R:=by
 rw[gd_pb] at hG
 refine h i Q R _ _ hi (gr_post hg hi hG) (fun e he=>hE e he.1) fun l j ⟨hP,hp⟩ hj=> ?_
 obtain⟨p1,p2,p3⟩:=hp
 rw[ha] at p3
 exact h1 l j (by omega) p2 p3.1 hP
theorem tal_st{f:Nat}{a:NT}{F:FuncId}{args:List AV}(h:PC Z X W ts sl f a F args ans1)(hG:Gd E P (gr ts f a i))(hg:a.good)(ha:a.acc=none)(hE : ∀e,E e→R (W (nowT ts e).line))(hi:i≤ts.length)(h1 : ∀n l x o ks j,i+a.min≤j→j≤ts.length→P [.mk n l x o ks] j→Q (ndA (.mk n l x o ks)) (rdS sl j)):TC Z (tblG Tryz.prog LG GG) X F args (rdR sl i) Q R:=by
 refine h i Q R _ _ hi (gr_post hg hi hG) (fun e he=>hE e he.1) fun l j ⟨hP,hp⟩ hj=> ?_
 have h3:=hp.2.2
 rw[ha] at h3
 obtain⟨t,rfl⟩:=nd_one_of h3
 obtain⟨n,l,x,o,ks⟩:=t
 exact h1 n l x o ks j hp.1 hp.2.1 hP
end
end Can
end Go.Proofs.YtdfgkcoenagaaaaGreat
end
section
namespace Go.Proofs.YtdfgkcoenagaaaaGreat
namespace Can
set_option linter.unusedSimpArgs false
set_option linter.unusedVariables false
mutual
def htN:Nd→Nat
 | .mk _ _ _ _ ks=>htL ks+1
def htL:List Nd→Nat
 | []=>0
 | n::ks=>max (htN n) (htL ks)
end
theorem htL_drop{ks:List Nd}{i:Nat}{t:Nd}(h:ks[i]? = some t):htL (ks.drop i)=max (htN t) (htL (ks.drop (i+1))):=by
 obtain⟨hi,rfl⟩:=List.getElem?_eq_some_iff.1 h
 rw[List.drop_eq_getElem_cons hi]
 rfl
theorem htL_mem : ∀ {ks:List Nd} {t:Nd},t∈ks→htN t≤htL ks
 | n::ks,t,h=>by
   rcases List.mem_cons.1 h with rfl | h
   ·exact Nat.le_max_left _ _
   ·exact Nat.le_trans (htL_mem h) (Nat.le_max_right _ _)
mutual
def szN:Nd→Nat
 | .mk _ _ _ _ ks=>szL ks+1
def szL:List Nd→Nat
 | []=>0
 | n::ks=>szN n+szL ks
end
mutual
theorem ht_szN : ∀n:Nd,htN n≤szN n
 | .mk _ _ _ _ ks=>Nat.succ_le_succ (ht_szL ks)
theorem ht_szL : ∀ks:List Nd,htL ks≤szL ks
 | []=>Nat.le_refl _
 | n::ks=>Nat.max_le.2 ⟨Nat.le_trans (ht_szN n) (Nat.le_add_right _ _),Nat.le_trans (ht_szL ks) (Nat.le_add_left _ _)⟩
end
theorem szL_app : ∀ {a b:List Nd},szL (a++b)=szL a+szL b
 | [],b=>(Nat.zero_add _).symm
 | n::a,b=>by simp only[List.cons_append,szL,szL_app,Nat.add_assoc]
def NT.sz:NT→Nat
 | .params _ _ c=>szL c
 | .row _ b=>szL b
 | .exprsL _ b=>szL b
 | .orL a=>szN a
 | .andL a=>szN a
 | .cmpL a b=>szN a+szL b
 | .arithL a=>szN a
 | .termL a=>szN a
 | .primL a=>szN a
 | .index a=>szN a
 | .clauses a=>szL a
 | .dictL _ b=>szL b
 | .placesL _ b=>szL b
 | .names _ _ c=>szL c
 | .asgL _ b=>szL b
 | .blockL a=>szL a
 | .triesL a=>szL a
 | .triesF _ b=>szL b
 | .top a=>szL a
 | _=>0
def NT.lo:NT→Nat
 | .atom=>50
 | .primary=>50
 | .factor=>50
 | .term=>50
 | .arith=>50
 | .compare=>49
 | .expr=>49
 | .exprs=>48
 | .one=>50
 | .places=>49
 | .value=>47
 | .plain=>40
 | .simple=>40
 | .block=>30
 | .stmt=>30
 | .ifs _=>20
 | .not=>49
 | .and=>49
 | .or=>49
 | _=>0
def NT.ad:NT→Nat
 | .exprsL _ _=>1
 | .cmpL _ _=>1
 | .dictL _ _=>1
 | .placesL _ _=>1
 | .params _ _ _=>1
 | .maybe _ _ _=>1
 | .asgL _ _=>1
 | .list _=>1
 | .braces _=>1
 | .triesF _ _=>1
 | _=>0
def GdT (P:List Nd→Nat→Prop)(r:PR):Prop:=Gd (fun _=>True) P r
theorem gd_and{E E':Nat→Prop}{P P':List Nd→Nat→Prop}{r:PR}(h:Gd E P r)(h':Gd E' P' r):Gd (fun e=>E e∧E' e) (fun l j=>P l j∧P' l j) r:=by
 match r,h,h' with
 | some (.error e),h,h'=>exact⟨h,h'⟩
 | some (.ok (l,j)),h,h'=>exact⟨h,h'⟩
theorem gt_if{ts:List PT}{s:List UInt8}{i:Nat}{a b:PR}{P:List Nd→Nat→Prop}(h1:i<ts.length→GdT P a)(h2:GdT P b):GdT P (if isT ts i s=true then a else b):=gd_if h1 h2
theorem gt_ite{c:Prop}[Decidable c]{a b:PR}{P:List Nd→Nat→Prop}(h1:c→GdT P a)(h2 : ¬c→GdT P b):GdT P (if c then a else b):=gd_ite h1 h2
theorem gt_wantB{ts:List PT}{s:List UInt8}{i:Nat}{k:Nat→PR}{P:List Nd→Nat→Prop}(h2:i<ts.length→GdT P (k (i+1))):GdT P (wantB ts s i k):=gd_wantB trivial h2
theorem gt_wantK{ts:List PT}{kd:Int}(h0:kd≠0){i:Nat}{k:List UInt8→Nat→PR}{P:List Nd→Nat→Prop}(h2:i<ts.length→GdT P (k (nowT ts i).text (i+1))):GdT P (wantK ts kd i k):=gd_wantK h0 trivial h2
theorem gt_pk{t:Nd}{j:Nat}{P:List Nd→Nat→Prop}(h:P [t] j):GdT P (pk1 t j):=h
theorem gt_ok{l:List Nd}{j:Nat}{P:List Nd→Nat→Prop}(h:P l j):GdT P (some (.ok (l,j))):=h
theorem gt_er{e:Nat}{P:List Nd→Nat→Prop}:GdT P (some (.error e)):=trivial
def HtOk (ts:List PT)(f:Nat):Prop:=∀(a:NT) (i:Nat),a.good→i≤ts.length→ts.length*64+a.rank<f+i*64→GdT (fun l j=>szL l+64*i+a.lo≤a.sz+64*j+a.ad) (gr ts f a i)
theorem HtOk.one{ts:List PT}{f:Nat}(h:HtOk ts f){a:NT}{i:Nat}{P:List Nd→Nat→Prop}{k:Nd→Nat→PR}(hg:a.good)(hi:i≤ts.length)(hf:ts.length*64+a.rank<f+i*64)(ha:a.acc=none)(hP : ∀t j,i+a.min≤j→j≤ts.length→szN t+64*i+a.lo≤a.sz+64*j+a.ad→GdT P (k t j)):GdT P (pb1 (gr ts f a i) k):=by
 unfold GdT
 rw[gd_pb1]
 refine(gd_and (gr_gd f a i hg hi hf) (h a i hg hi hf)).mono (fun _ _=>trivial) fun l j h=> ?_
 obtain⟨⟨h1,h2,h3⟩,h4⟩:=h
 rw[ha] at h3
 obtain⟨t,rfl⟩:=nd_one_of h3
 exact⟨t,rfl,hP t j h1 h2 h4⟩
theorem HtOk.lst{ts:List PT}{f:Nat}(h:HtOk ts f){a:NT}{i:Nat}{P:List Nd→Nat→Prop}{k:List Nd→Nat→PR}(hg:a.good)(hi:i≤ts.length)(hf:ts.length*64+a.rank<f+i*64)(hP : ∀l j,i+a.min≤j→j≤ts.length→szL l+64*i+a.lo≤a.sz+64*j+a.ad→GdT P (k l j)):GdT P (pb (gr ts f a i) k):=by
 unfold GdT
 rw[gd_pb]
 refine(gd_and (gr_gd f a i hg hi hf) (h a i hg hi hf)).mono (fun _ _=>trivial) fun l j h=> ?_
 obtain⟨⟨h1,h2,h3⟩,h4⟩:=h
 exact hP l j h1 h2 h4
theorem HtOk.nxt{ts:List PT}{f:Nat}(h:HtOk ts f){a:NT}{i:Nat}{P:List Nd→Nat→Prop}(hg:a.good)(hi:i≤ts.length)(hf:ts.length*64+a.rank<f+i*64)(hP : ∀l j,i+a.min≤j→j≤ts.length→szL l+64*i+a.lo≤a.sz+64*j+a.ad→P l j):GdT P (gr ts f a i):=
 (gd_and (gr_gd f a i hg hi hf) (h a i hg hi hf)).mono (fun _ _=>trivial) fun l j ⟨⟨h1,h2,h3⟩,h4⟩=>hP l j h1 h2 h4
theorem gt_op{ts:List PT}{i:Nat}(hi:i≤ts.length){P:List Nd→Nat→Prop}{A:PR}{B:Nat→Nat→PR}(hA:GdT P A)(hB : ∀op j,i<j→j≤ts.length→GdT P (B op j)):GdT P (match opT ts i with | .error e=>some (.error e) | .ok (0,_)=>A | .ok (op+1,j)=>B op j):=by
 have ho:=opT_gd hi
 match opT ts i,ho with
 | .error e,ho=>exact gt_er
 | .ok (0,_),_=>exact hA
 | .ok (op+1,j),ho=>
   rcases ho with ⟨h,_⟩ | ⟨_,h1,h2⟩
   ·cases h
   ·exact hB op j h1 h2
set_option maxHeartbeats 4000000 in
theorem htOk_succ{ts:List PT}{f:Nat}(ih:HtOk ts f):HtOk ts (f+1):=by
 intro a i hg hi hf
 cases a
 case' maybe k l c=>cases c
 case' asgL l acc=>obtain⟨t,ht⟩:=last_ne hg
 case' cmpL n acc=>cases hb:acc.isEmpty
 all_goals first | simp only[gr,ht] | simp only[gr,hb,Bool.false_eq_true,if_false,if_true] | simp only[gr,Bool.false_eq_true,if_false,if_true]
 case' cmpL.false=>refine gt_op hi ?_ fun op j h1 h2=> ?_
 case' cmpL.true=>refine gt_op hi ?_ fun op j h1 h2=> ?_
 all_goals (repeat' first | (have h0:=kd_lt (by rw[h];decide);clear h) | (have h0:=kd_lt (i:=i) (ts:=ts) (by omega);clear h) | (have h0:=augT_lt h;clear h) | (with_reducible refine gt_if (fun h=> ?_) ?_) | ((with_reducible refine gt_wantB ?_);intro h) | ((with_reducible refine gt_wantK ?_ ?_);decide;intro h) | (with_reducible exact gt_er) | ((with_reducible refine gt_pk ?_);(simp only[NT.min,NT.sz,NT.lo,NT.ad,szN,szL,szL_app];omega)) | ((with_reducible refine gt_ok ?_);(simp only[NT.min,NT.sz,NT.lo,NT.ad,szN,szL,szL_app];omega)) | ((with_reducible refine ih.one ?_ ?_ ?_ ?_ ?_);(first | exact True.intro | simp[NT.good]);omega;(simp only[NT.rank] at hf⊢;omega);rfl;intro t j g1 g3 g7;simp only[NT.min,NT.sz,NT.lo,NT.ad,szN,szL,szL_app] at g1 g7) | ((with_reducible refine ih.lst ?_ ?_ ?_ ?_);(first | exact True.intro | simp[NT.good]);omega;(simp only[NT.rank] at hf⊢;omega);intro l j g1 g3 g7;simp only[NT.min,NT.sz,NT.lo,NT.ad,szN,szL,szL_app] at g1 g7) | ((with_reducible refine ih.nxt ?_ ?_ ?_ ?_);(first | exact True.intro | simp[NT.good]);omega;(simp only[NT.rank] at hf⊢;omega);intro l j g1 g3 g7;simp only[NT.min,NT.sz,NT.lo,NT.ad,szN,szL,szL_app] at g1 g7⊢;omega) | (with_reducible refine gt_ite (fun h=> ?_) (fun h=> ?_)))
theorem gr_ht{ts:List PT} : ∀f,HtOk ts f
 | 0=>fun a i _ hi h=>by omega
 | f+1=>htOk_succ (gr_ht f)
end Can
end Go.Proofs.YtdfgkcoenagaaaaGreat
end
section
namespace Go.Proofs.YtdfgkcoenagaaaaGreat
namespace Can
open Go Go.RowKit
set_option linter.unusedSimpArgs false
set_option linter.unusedVariables false
set_option maxRecDepth 4000
attribute [local irreducible] TC isT nowT begT
theorem wr_inc'{i n:Nat}(h:i<n)(hn:n≤maxLen):(IntKind.wrap .i64 ((i:Int)+1))=((i+1:Nat):Int):=by
 rw[maxLen_eq] at hn
 rw[w_i64 (by omega) (by omega)];omega
section
variable {Z:TP} {X:Pan} {R:Value→Prop} {Q:AV→List SV→Prop}
theorem leaf_tc{k:Int}(h4:4≤k)(h7:k≤7)(hQ:Q (rS (.int .i64 (leafK k:Nat))) []):TC Z (tblG Tryz.prog LG GG) X 97 [rS (.int .i64 k)] none Q R:=by
 refine tc_rG dt_ok (by rfl) (by kernel_rfl) ?_
 conv in (rF _ _).body=>reduce
 conv in (rF _ _).res=>reduce
 obtain rfl | rfl | rfl | rfl:k=4∨k=5∨k=6∨k=7:=by omega
 all_goals
  conv=>whnf
  exact hQ
theorem single_tc{k:Nat}{l:Int}{x:List UInt8}{o:Nat}{ks:List Nd}(hQ:Q (rS (.bool (singleN (.mk k l x o ks)))) []):TC Z (tblG Tryz.prog LG GG) X 70 [ndA (.mk k l x o ks)] none Q R:=by
 have e:singleN (.mk k l x o ks)=decide (k=36∨k=45∨k=46):=rfl
 rw[e] at hQ
 refine tc_rG dt_ok (by rfl) (by kernel_rfl) ?_
 conv in (rF _ _).body=>reduce
 conv in (rF _ _).res=>reduce
 by_cases h1:k=36
 ·subst h1
  conv=>whnf
  exact hQ
 by_cases h2:k=45
 ·subst h2
  conv=>whnf
  exact hQ
 by_cases h3:k=46
 ·subst h3
  conv=>whnf
  exact hQ
 rw[decide_eq_false (by omega)] at hQ
 conv=>whnf
 refine ifT_c (fun h=>by exfalso;simp at h;omega) fun h=> ?_
 conv=>whnf
 refine ifT_c (fun h=>by exfalso;simp at h;omega) fun h=> ?_
 conv=>whnf
 refine ifT_c (fun h=>by exfalso;simp at h;omega) fun h=> ?_
 conv=>whnf
 exact hQ
theorem single_st{k:Nat}{l:Int}{x:List UInt8}{o:Nat}{ks:List Nd}{E:Nat→Prop}{P:List Nd→Nat→Prop}{A B:PR}(hG:Gd E P (if singleN (.mk k l x o ks)=true then A else B))(h1:Gd E P A→Q (rS (.bool true)) [])(h2:Gd E P B→Q (rS (.bool false)) []):TC Z (tblG Tryz.prog LG GG) X 70 [ndA (.mk k l x o ks)] none Q R:=by
 refine single_tc ?_
 cases h:singleN (.mk k l x o ks) with
 | true=>rw[if_pos h] at hG;exact h1 hG
 | false=>rw[if_neg (by rw[h];decide)] at hG;exact h2 hG
theorem placesN_drop{ks:List Nd}{i:Nat}{t:Nd}(h:ks[i]? = some t):placesN (ks.drop i)=(placeN t&&placesN (ks.drop (i+1))):=by
 obtain⟨hi,rfl⟩:=List.getElem?_eq_some_iff.1 h
 rw[List.drop_eq_getElem_cons hi]
 rfl
noncomputable def nsz:Nd→Nat:=fun t=>SizeOf.sizeOf t
theorem nsz_lt{k:Nat}{l:Int}{x:List UInt8}{o:Nat}{ks:List Nd}{t:Nd}(h:t∈ks):nsz t<nsz (.mk k l x o ks):=by
 have h1:=List.sizeOf_lt_of_mem h
 unfold nsz
 rw[Nd.mk.sizeOf_spec]
 omega
theorem place_tc : ∀(N:Nat) (k:Nat) (l:Int) (x:List UInt8) (o:Nat) (ks:List Nd),nsz (.mk k l x o ks)<N→∀(Q:AV→List SV→Prop) (R:Value→Prop),Q (rS (.bool (placeN (.mk k l x o ks)))) []→TC Z (tblG Tryz.prog LG GG) X 82 [ndA (.mk k l x o ks)] none Q R:=by
 intro N
 induction N with
 | zero=>intro k l x o ks h;exact absurd h (Nat.not_lt_zero _)
 | succ N ih=>
 intro k l x o ks hN Q R hQ
 refine tc_rG dt_ok (by rfl) (by kernel_rfl) ?_
 conv in (rF _ _).body=>reduce
 conv in (rF _ _).res=>reduce
 by_cases hk:k=52∨k=51
 ·have e:placeN (.mk k l x o ks)=(placesN ks && !ks.isEmpty):=if_pos hk
  rw[e] at hQ
  rcases hk with rfl | rfl
  all_goals
   conv=>whnf
   refine loop_1 3 (fun m a s=>∃i:Nat,a=rS (.int .i64 (i:Nat))∧s=⟨0,[oN (nA _ l x o ks)]⟩∧m+i=ks.length∧placesN ks=placesN (ks.drop i)) ks.length [] rfl ⟨0,rfl,rfl,rfl,rfl⟩ ?_
   rintro m a f s ⟨i,rfl,rfl,hm,hp⟩
   conv=>whnf
   intro hmx
   conv=>whnf
   refine ifT_c (fun h=> ?_) fun h=> ?_
   ·have hi:i<ks.length:=by simp[ndsS_len] at h;omega
    obtain⟨t,ht⟩ : ∃t,ks[i]? = some t:=⟨_,List.getElem?_eq_getElem hi⟩
    have hd:=placesN_drop ht
    have hlt:=nsz_lt (List.mem_of_getElem? ht) (k:=52) (l:=l) (x:=x) (o:=o)
    have hlt2:=nsz_lt (List.mem_of_getElem? ht) (k:=51) (l:=l) (x:=x) (o:=o)
    obtain⟨k1,l1,x1,o1,ks1⟩:=t
    conv=>whnf
    refine⟨rfl,i,_,rfl,ndsS_get ht,?_⟩
    conv=>whnf
    refine ih k1 l1 x1 o1 ks1 (by omega) _ _ ?_
    conv=>whnf
    cases hpl:placeN (.mk k1 l1 x1 o1 ks1) with
    | true=>
      rw[hpl,Bool.true_and] at hd
      conv=>whnf
      rw[ndsS_len] at hmx
      exact⟨m-1,[],by omega,rfl,i+1,congrArg (fun n=>rS (.int .i64 n)) (wr_inc' hi hmx),rfl,by omega,hp.trans hd⟩
    | false=>
      rw[hp,hd,hpl] at hQ
      conv=>whnf
      exact hQ
   ·have hi:i=ks.length:=by simp[ndsS_len] at h;omega
    subst hi
    have hp:placesN ks=true:=by rw[hp,List.drop_length];rfl
    rw[hp,Bool.true_and] at hQ
    conv=>whnf
    intro hmx
    conv=>whnf
    refine ifT_c (fun h=> ?_) fun h=> ?_
    ·have:ks.isEmpty=false:=by cases ks;simp[ndsS] at h;rfl
     rw[this] at hQ
     conv=>whnf
     exact hQ
    ·have:ks.isEmpty=true:=by cases ks;rfl;simp[ndsS] at h
     rw[this] at hQ
     conv=>whnf
     exact hQ
 ·have e:placeN (.mk k l x o ks)=decide (k=36∨k=45∨k=46):=if_neg hk
  have e':singleN (.mk k l x o ks)=decide (k=36∨k=45∨k=46):=rfl
  rw[e,←e'] at hQ
  conv=>whnf
  refine ifT_c (fun h=> ?_) fun h=>by exfalso;simp at h;omega
  conv=>whnf
  refine ifT_c (fun h=> ?_) fun h=>by exfalso;simp at h;omega
  conv=>whnf
  refine single_tc ?_
  conv=>whnf
  cases hs:singleN (.mk k l x o ks) with
  | true=>
    rw[hs] at hQ
    conv=>whnf
    exact hQ
  | false=>
    rw[hs] at hQ
    conv=>whnf
    exact hQ
theorem place_st{k:Nat}{l:Int}{x:List UInt8}{o:Nat}{ks:List Nd}{E:Nat→Prop}{P:List Nd→Nat→Prop}{A B:PR}(hG:Gd E P (if placeN (.mk k l x o ks)=true then A else B))(h1:Gd E P A→Q (rS (.bool true)) [])(h2:Gd E P B→Q (rS (.bool false)) []):TC Z (tblG Tryz.prog LG GG) X 82 [ndA (.mk k l x o ks)] none Q R:=by
 refine place_tc _ k l x o ks (Nat.lt_succ_self _) Q R ?_
 cases h:placeN (.mk k l x o ks) with
 | true=>rw[if_pos h] at hG;exact h1 hG
 | false=>rw[if_neg (by rw[h];decide)] at hG;exact h2 hG
theorem max_int(a b:Nat):(if true=true then (if ((b:Nat):Int)>(a:Nat) then ((b:Nat):Int) else (a:Nat)) else if ((b:Nat):Int)<(a:Nat) then ((b:Nat):Int) else (a:Nat))=((max a b:Nat):Int):=by
 rw[if_pos rfl]
 split<;>omega
theorem height_tc : ∀(N:Nat) (k:Nat) (l:Int) (x:List UInt8) (o:Nat) (ks:List Nd),nsz (.mk k l x o ks)<N→htL ks+1≤9223372036854775807→∀(Q:AV→List SV→Prop) (R:Value→Prop),Q (rS (.int .i64 (htL ks+1:Nat))) []→TC Z (tblG Tryz.prog LG GG) X 12 [ndA (.mk k l x o ks)] none Q R:=by
 intro N
 induction N with
 | zero=>intro k l x o ks h;exact absurd h (Nat.not_lt_zero _)
 | succ N ih=>
 intro k l x o ks hN hB Q R hQ
 refine tc_rG dt_ok (by rfl) (by kernel_rfl) ?_
 conv in (rF _ _).body=>reduce
 conv in (rF _ _).res=>reduce
 conv=>whnf
 refine loop_2 4 3 (fun m a b s=>∃i h:Nat,a=rS (.int .i64 (i:Nat))∧b=rS (.int .i64 (h:Nat))∧s=⟨0,[oN (nA k l x o ks)]⟩∧m+i=ks.length∧max h (htL (ks.drop i))=htL ks) ks.length [] rfl ⟨0,0,rfl,rfl,rfl,rfl,Nat.zero_max _⟩ ?_
 rintro m a b f s ⟨i,h,rfl,rfl,rfl,hm,hp⟩
 conv=>whnf
 intro hmx
 conv=>whnf
 refine ifT_c (fun hc=> ?_) fun hc=> ?_
 ·have hi:i<ks.length:=by simp[ndsS_len] at hc;omega
  obtain⟨t,ht⟩ : ∃t,ks[i]? = some t:=⟨_,List.getElem?_eq_getElem hi⟩
  have hd:=htL_drop ht
  have hlt:=nsz_lt (List.mem_of_getElem? ht) (k:=k) (l:=l) (x:=x) (o:=o)
  have hht:=htL_mem (List.mem_of_getElem? ht)
  obtain⟨k1,l1,x1,o1,ks1⟩:=t
  have e1:htN (.mk k1 l1 x1 o1 ks1)=htL ks1+1:=rfl
  conv=>whnf
  refine⟨rfl,i,_,rfl,ndsS_get ht,?_⟩
  conv=>whnf
  refine ih k1 l1 x1 o1 ks1 (by omega) (by omega) _ _ ?_
  conv=>whnf
  rw[ndsS_len] at hmx
  refine⟨m-1,[],by omega,rfl,i+1,max h (htL ks1+1),congrArg (fun n=>rS (.int .i64 n)) (wr_inc' hi hmx),?_,rfl,by omega,by rw[←hp,hd,e1,Nat.max_assoc]⟩
  exact congrArg (fun n=>rS (.int .i64 n)) (max_int h (htL ks1+1))
 ·have hi:i=ks.length:=by simp[ndsS_len] at hc;omega
  subst hi
  have hp:h=htL ks:=by rw[←hp,List.drop_length];exact(Nat.max_zero _).symm
  subst hp
  conv=>whnf
  exact q_eq (congrArg (fun n=>rS (.int .i64 n)) (wr_inc' (Nat.lt_succ_self _) (by rw[maxLen_eq];omega))) rfl hQ
end
end Can
end Go.Proofs.YtdfgkcoenagaaaaGreat
end
