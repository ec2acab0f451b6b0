/- Lex, the document: next. Lex, the document: lines. Lex, the document: what is open and what is out. -/
import Derived.Test.YtnankhlanilbbaaGreatZn
section
namespace Go.Proofs.YtnankhlanilbbaaGreat
namespace Can
open Go Go.RowKit
set_option linter.unusedSimpArgs false
set_option linter.unusedVariables false
set_option maxRecDepth 4000
theorem syms_len{x:List UInt8}(h:x∈symsL):(x.length=3∧x∈S3)∨(x.length=2∧x∈S2)∨(x.length=1∧x∈S1.map fun c=> [c]):=by
 unfold symsL at h
 simp only[List.mem_append] at h
 rcases h with (h | h) | h
 ·exact .inl ⟨by revert h;revert x;decide,h⟩
 ·exact .inr (.inl ⟨by revert h;revert x;decide,h⟩)
 ·exact .inr (.inr ⟨by obtain⟨c,_,rfl⟩:=List.mem_map.1 h;rfl,h⟩)
theorem s3_len{x:List UInt8}(h:x∈S3):x.length=3:=by revert h;revert x;decide
theorem s2_len{x:List UInt8}(h:x∈S2):x.length=2:=by revert h;revert x;decide
theorem sym3{l:List UInt8}(h:3≤l.length):decide (l.take 3∈symsL)=decide (l.take 3∈S3):=decide_eq_decide.2 ⟨fun g=>by
 rcases syms_len g with ⟨_,g⟩ | ⟨e,_⟩ | ⟨e,_⟩
 ·exact g
 ·simp at e;omega
 ·simp at e;omega,fun g=>by unfold symsL;simp only[List.mem_append];exact .inl (.inl g)⟩
theorem sym2{l:List UInt8}(h:2≤l.length):decide (l.take 2∈symsL)=decide (l.take 2∈S2):=decide_eq_decide.2 ⟨fun g=>by
 rcases syms_len g with ⟨e,_⟩ | ⟨_,g⟩ | ⟨e,_⟩
 ·simp at e;omega
 ·exact g
 ·simp at e;omega,fun g=>by unfold symsL;simp only[List.mem_append];exact .inl (.inr g)⟩
theorem sym1{l:List UInt8}(h:1≤l.length):decide (l.take 1∈symsL)=decide (hd l∈S1.map UInt8.toNat):=decide_eq_decide.2 (by
 cases l with
 | nil=>simp at h
 | cons c r=>
   refine⟨fun g=> ?_,fun g=> ?_⟩
   ·rcases syms_len g with ⟨e,_⟩ | ⟨e,_⟩ | ⟨_,g⟩
    ·simp at e
    ·simp at e
    ·obtain⟨d,hd1,e⟩:=List.mem_map.1 g
     simp at e;subst e
     exact List.mem_map.2 ⟨d,hd1,rfl⟩
   ·obtain⟨d,hd1,e⟩:=List.mem_map.1 g
    have:d=c:=UInt8.toNat_inj.1 e
    subst this
    unfold symsL;simp only[List.mem_append]
    exact .inr (List.mem_map.2 ⟨d,hd1,rfl⟩))
def SyJ (K1:CH)(l:List UInt8)(n:Nat)(v:Value)(K:CH):Prop:=n≤3∧v= .int .i64 (n:Nat)∧K=K1∧(n<3→¬l.take 3∈S3)∧(n<2→¬l.take 2∈S2)∧(n<1→¬hd l∈S1.map UInt8.toNat)
set_option maxHeartbeats 2000000 in
theorem next_r{K:CH}{t:List UInt8}{j:Nat}(hj:j<t.length)(hl:t.length≤20000) :
 WpF (tblG Tryz.prog LG GG) 28 [.string (str t), .int .i64 (j:Nat)] K fun v K'=>HExt K K'∧v= .agg (pieC (tokT (t.drop j)) j).toArray:=by
 obtain⟨l,hl'⟩ : ∃l,t.drop j=l:=⟨_,rfl⟩
 have gq:=get_some hj
 have hll:l.length=t.length-j:=by rw[←hl'];simp
 have hdr : ∀i,t.drop (j+i)=l.drop i:=fun i=>by rw[←hl',List.drop_drop]
 have hgs:=fun(i:Nat) (hi:j+i<t.length)=>get_some hi
 simp only[hdr] at hgs
 have hnum:= @number_r
 have htxt:= @text_r
 rw[hl'] at gq⊢
 refine wpF_rG (by rfl) (by kernel_rfl) ?_;(conv in (rF _ _).body=>reduce);(conv in (rF _ _).res=>reduce)
 obtain⟨A,hA⟩ : ∃A,K.new (.cells [.int .i64 0, .string ⟨⟨[]⟩⟩, .int .i64 0] 64 .ex)=A:=⟨_,rfl⟩
 have hxA:HExt K A:=by rw[←hA];exact(HExt.refl K).new _
 have hAo:A.ob K.nx= .cells [.int .i64 0, .string ⟨⟨[]⟩⟩, .int .i64 0] 64 .ex:=by rw[←hA];exact new_get.trans (if_pos rfl)
 have hAn:K.nx<A.nx:=by rw[←hA];exact Nat.lt_succ_self _
 refine seq_cut (fun fr K1=>fr 4= .pointer (some ⟨K.nx,0,none⟩)∧K1=A) (by repeat' (first | (simp (disch:=first | omega | (decide +kernel)) only[↓RD,RU,↓putF_get,aop,akV,↓reduceIte,Int.reduceOfNat,hA]) | (with_reducible first | refine condK_dec (fun _=> ?_) fun _=> ?_ | refine grd_dec (fun _=> ?_) fun _=> ?_ | refine egrd_dec (fun _=> ?_) fun _=> ?_))) ?_
 rintro fr1 K1 ⟨f4,rfl⟩ hag1
 by_cases c1:isLetN (hd l)=true
 ·have etok:tokT l=some (if l.take (nW isAlN l)∈wordsL then 8 else 4,l.take (nW isAlN l),nW isAlN l):=by unfold tokT;rw[if_pos c1]
  rw[etok]
  repeat' (first | (simp (disch:=first | omega | (decide +kernel)) only[↓RD,RU,↓putF_get,↓evF_t,getD_zero,getD_succ,pop,ρ0,ρ1,↓reduceIte,Nat.reduceEqDiff,Int.reduceOfNat,Int.reduceNegSucc,ρ29,hag1,str_get,gq,rletter_iff,c1]) | (with_reducible first | refine condK_dec (fun _=> ?_) fun _=> ?_ | refine grd_dec (fun _=> ?_) fun _=> ?_ | refine egrd_dec (fun _=> ?_) fun _=> ?_))
  refine loop_w (fun n fr K2=>DgJ isAlN t j K1 n (fr 6) K2) (n:=t.length-j) ⟨j,rfl,Nat.le_refl _,by omega,by(repeat' (first | (simp (disch:=first | omega | (decide +kernel)) only[↓putF_get,↓reduceIte]) | (with_reducible first | refine condK_dec (fun _=> ?_) fun _=> ?_ | refine grd_dec (fun _=> ?_) fun _=> ?_ | refine egrd_dec (fun _=> ?_) fun _=> ?_));all_goals rfl),rfl,rfl⟩ ?_
  rintro n fr K2 ⟨i,rfl,hji,hi,f6,rfl,hnw⟩ hag
  rw[hl'] at hnw
  have hfin:i-j=nW isAlN l→(t.drop j).take (i-j)=l.take (nW isAlN l):=fun g=>by rw[hl',g]
  by_cases hil:i<t.length
  ·have g1:=get_some hil
   obtain⟨e,he⟩ : ∃e,hd (t.drop i)=e:=⟨_,rfl⟩
   rw[he] at g1
   by_cases d1:isLetN e=true
   ·have hy:=nW_yes (p:=isAlN) hil (by rw[he];simp[isAlN,d1])
    repeat' (first | (simp (disch:=first | omega | (decide +kernel)) only[↓RD,RU,↓putF_get,↓evF_t,↓evF_c,getD_zero,pop,ρ0,ρ1,↓reduceIte,Nat.reduceEqDiff,reduceCtorEq,ρ29,hag,hag1,f6,str_size,str_get,g1,rletter_iff,d1]) | (with_reducible first | refine condK_dec (fun _=> ?_) fun _=> ?_ | refine grd_dec (fun _=> ?_) fun _=> ?_ | refine egrd_dec (fun _=> ?_) fun _=> ?_))
    all_goals exact⟨t.length-(i+1),by omega,i+1,rfl,by omega,by omega,rfl,rfl,by rw[hl'];omega⟩
   ·have d1':isLetN e=false:=by simpa using d1
    by_cases d2:isDigN e=true
    ·have hy:=nW_yes (p:=isAlN) hil (by rw[he];simp[isAlN,d2])
     repeat' (first | (simp (disch:=first | omega | (decide +kernel)) only[↓RD,RU,↓putF_get,↓evF_t,↓evF_c,getD_zero,pop,ρ0,ρ1,↓reduceIte,Nat.reduceEqDiff,reduceCtorEq,ρ29,hag,hag1,f6,str_size,str_get,g1,rletter_iff,rdigit_iff,d1',d2]) | (with_reducible first | refine condK_dec (fun _=> ?_) fun _=> ?_ | refine grd_dec (fun _=> ?_) fun _=> ?_ | refine egrd_dec (fun _=> ?_) fun _=> ?_))
     all_goals exact⟨t.length-(i+1),by omega,i+1,rfl,by omega,by omega,rfl,rfl,by rw[hl'];omega⟩
    ·have d2':isDigN e=false:=by simpa using d2
     have hn:=nW_no (p:=isAlN) (l:=t.drop i) (.inr (by rw[he];simp[isAlN,d1',d2']))
     have hW:i-j=nW isAlN l:=by omega
     have hiW:i=j+nW isAlN l:=by omega
     have hf:=hfin hW
     by_cases hw:l.take (nW isAlN l)∈wordsL
     ·rw[if_pos hw]
      repeat' (first | (simp (disch:=first | omega | (decide +kernel)) only[↓RD,RU,↓putF_get,↓putF_none,↓evF_t,↓evF_c,set_get,getD_zero,getD_succ,pop,lop,wop,resL,resV,tupleV,isVal,isCell,Value.cells,ρ0,ρ1,ρ4,↓reduceIte,Nat.reduceEqDiff,Nat.reduceAdd,reduceCtorEq,ρ7,ρ8,bnd,ρ15,ρ17,ρ18,ρ19,ρ20,ρ21,ρ22,ρ23,Kd.isRo,ρ25,ρ26,bldV,Nat.reduceLeDiff,ρ29,hag,hag1,f4,f6,str_size,str_get,str_ext,g1,rletter_iff,rdigit_iff,d1',d2',hf,isWord_iff,hw,hAo]) | (with_reducible first | refine condK_dec (fun _=> ?_) fun _=> ?_ | refine grd_dec (fun _=> ?_) fun _=> ?_ | refine egrd_dec (fun _=> ?_) fun _=> ?_))
      all_goals exact⟨hxA.set (Nat.le_refl _) _,by rw[hiW];rfl⟩
     ·rw[if_neg hw]
      repeat' (first | (simp (disch:=first | omega | (decide +kernel)) only[↓RD,RU,↓putF_get,↓putF_none,↓evF_t,↓evF_c,set_get,getD_zero,getD_succ,pop,lop,wop,resL,resV,tupleV,isVal,isCell,Value.cells,ρ0,ρ1,ρ4,↓reduceIte,Nat.reduceEqDiff,Nat.reduceAdd,reduceCtorEq,ρ7,ρ8,bnd,ρ15,ρ17,ρ18,ρ19,ρ20,ρ21,ρ22,ρ23,Kd.isRo,ρ25,ρ26,bldV,Nat.reduceLeDiff,ρ29,hag,hag1,f4,f6,str_size,str_get,str_ext,g1,rletter_iff,rdigit_iff,d1',d2',hf,isWord_iff,hw,hAo]) | (with_reducible first | refine condK_dec (fun _=> ?_) fun _=> ?_ | refine grd_dec (fun _=> ?_) fun _=> ?_ | refine egrd_dec (fun _=> ?_) fun _=> ?_))
      all_goals exact⟨hxA.set (Nat.le_refl _) _,by rw[hiW];rfl⟩
  ·have hn:=nW_no (p:=isAlN) (l:=t.drop i) (.inl (List.drop_eq_nil_of_le (by omega)))
   have hW:i-j=nW isAlN l:=by omega
   have hiW:i=j+nW isAlN l:=by omega
   have hf:=hfin hW
   by_cases hw:l.take (nW isAlN l)∈wordsL
   ·rw[if_pos hw]
    repeat' (first | (simp (disch:=first | omega | (decide +kernel)) only[↓RD,RU,↓putF_get,↓putF_none,↓evF_t,↓evF_c,set_get,getD_zero,getD_succ,pop,lop,wop,resL,resV,tupleV,isVal,isCell,Value.cells,ρ0,ρ1,ρ4,↓reduceIte,Nat.reduceEqDiff,Nat.reduceAdd,reduceCtorEq,ρ7,ρ8,bnd,ρ15,ρ17,ρ18,ρ19,ρ20,ρ21,ρ22,ρ23,Kd.isRo,ρ25,ρ26,bldV,Nat.reduceLeDiff,ρ29,hag,hag1,f4,f6,str_size,str_ext,hf,isWord_iff,hw,hAo]) | (with_reducible first | refine condK_dec (fun _=> ?_) fun _=> ?_ | refine grd_dec (fun _=> ?_) fun _=> ?_ | refine egrd_dec (fun _=> ?_) fun _=> ?_))
    all_goals exact⟨hxA.set (Nat.le_refl _) _,by rw[hiW];rfl⟩
   ·rw[if_neg hw]
    repeat' (first | (simp (disch:=first | omega | (decide +kernel)) only[↓RD,RU,↓putF_get,↓putF_none,↓evF_t,↓evF_c,set_get,getD_zero,getD_succ,pop,lop,wop,resL,resV,tupleV,isVal,isCell,Value.cells,ρ0,ρ1,ρ4,↓reduceIte,Nat.reduceEqDiff,Nat.reduceAdd,reduceCtorEq,ρ7,ρ8,bnd,ρ15,ρ17,ρ18,ρ19,ρ20,ρ21,ρ22,ρ23,Kd.isRo,ρ25,ρ26,bldV,Nat.reduceLeDiff,ρ29,hag,hag1,f4,f6,str_size,str_ext,hf,isWord_iff,hw,hAo]) | (with_reducible first | refine condK_dec (fun _=> ?_) fun _=> ?_ | refine grd_dec (fun _=> ?_) fun _=> ?_ | refine egrd_dec (fun _=> ?_) fun _=> ?_))
    all_goals exact⟨hxA.set (Nat.le_refl _) _,by rw[hiW];rfl⟩
 ·have c1':isLetN (hd l)=false:=by simpa using c1
  by_cases c2:isDigN (hd l)=true
  ·have etok:tokT l=if numBad l=true then none else some (numK l,l.take (numN l),numN l):=by unfold tokT;rw[if_neg c1,if_pos c2]
   rw[etok]
   repeat' (first | (simp (disch:=first | omega | (decide +kernel)) only[↓RD,RU,↓putF_get,↓evF_t,getD_zero,getD_succ,pop,ρ0,ρ1,↓reduceIte,Nat.reduceEqDiff,Int.reduceOfNat,Int.reduceNegSucc,reduceCtorEq,ρ29,hag1,str_get,gq,rletter_iff,rdigit_iff,c1',c2]) | (with_reducible first | refine condK_dec (fun _=> ?_) fun _=> ?_ | refine grd_dec (fun _=> ?_) fun _=> ?_ | refine egrd_dec (fun _=> ?_) fun _=> ?_))
   refine(number_r hj hl (by rw[hl'];exact c2)).mono fun v K2 ⟨hx2,hv⟩=> ?_
   subst hv
   rw[hl']
   have hob2:=(hx2.ob _ hAn).trans hAo
   cases hb:numBad l with
   | true=>
     repeat' (first | (simp (disch:=first | omega | (decide +kernel)) only[↓RD,RU,↓putF_get,↓putF_none,↓evF_t,set_get,lop,wop,resL,resV,tupleV,isVal,isCell,Value.cells,↓reduceIte,Nat.reduceEqDiff,Nat.reduceAdd,ρ7,ρ8,ρ15,ρ17,ρ18,ρ21,ρ22,ρ23,Kd.isRo,ρ25,ρ26,f4,hob2,pieC]) | (with_reducible first | refine condK_dec (fun _=> ?_) fun _=> ?_ | refine grd_dec (fun _=> ?_) fun _=> ?_ | refine egrd_dec (fun _=> ?_) fun _=> ?_))
     all_goals exact(hxA.trans hx2).set (Nat.le_refl _) _
   | false=>
     repeat' (first | (simp (disch:=first | omega | (decide +kernel)) only[↓RD,RU,↓putF_get,↓putF_none,↓evF_t,set_get,lop,wop,resL,resV,tupleV,isVal,isCell,Value.cells,↓reduceIte,Nat.reduceEqDiff,Nat.reduceAdd,reduceCtorEq,ρ7,ρ8,ρ15,ρ17,ρ18,ρ21,ρ22,ρ23,Kd.isRo,ρ25,ρ26,f4,hob2,pieC]) | (with_reducible first | refine condK_dec (fun _=> ?_) fun _=> ?_ | refine grd_dec (fun _=> ?_) fun _=> ?_ | refine egrd_dec (fun _=> ?_) fun _=> ?_))
     all_goals exact(hxA.trans hx2).set (Nat.le_refl _) _
  ·have c2':isDigN (hd l)=false:=by simpa using c2
   by_cases c3:hd l=39∨hd l=34
   ·have etok:tokT l=(strT (hd l) (l.drop 1)).map fun x=>(7,x.1,x.2+1):=by unfold tokT;rw[if_neg c1,if_neg c2,if_pos c3]
    rw[etok]
    have hq:32≤hd (t.drop j)∧hd (t.drop j)≠92:=by rw[hl'];omega
    rcases c3 with c3 | c3
    all_goals
     rw[c3] at gq c1' c2'
     repeat' (first | (simp (disch:=first | omega | (decide +kernel)) only[↓RD,RU,↓putF_get,↓evF_t,↓evF_c,getD_zero,getD_succ,pop,ρ0,ρ1,↓reduceIte,Nat.reduceEqDiff,Int.reduceOfNat,Int.reduceNegSucc,reduceCtorEq,ρ29,hag1,str_get,gq,rletter_iff,rdigit_iff,c1',c2']) | (with_reducible first | refine condK_dec (fun _=> ?_) fun _=> ?_ | refine grd_dec (fun _=> ?_) fun _=> ?_ | refine egrd_dec (fun _=> ?_) fun _=> ?_))
     refine(text_r hj hl hq).mono fun v K2 ⟨hx2,hv⟩=> ?_
     subst hv
     rw[hdr 1,hl']
     have hob2:=(hx2.ob _ hAn).trans hAo
     cases hb:strT (hd l) (l.drop 1) with
     | none=>
       repeat' (first | (simp (disch:=first | omega | (decide +kernel)) only[↓RD,RU,↓putF_get,↓putF_none,↓evF_t,set_get,lop,wop,resL,resV,tupleV,isVal,isCell,Value.cells,↓reduceIte,Nat.reduceEqDiff,Nat.reduceAdd,ρ7,ρ8,ρ15,ρ17,ρ18,ρ21,ρ22,ρ23,Kd.isRo,ρ25,ρ26,f4,hob2,pieC,Option.map_none]) | (with_reducible first | refine condK_dec (fun _=> ?_) fun _=> ?_ | refine grd_dec (fun _=> ?_) fun _=> ?_ | refine egrd_dec (fun _=> ?_) fun _=> ?_))
       all_goals exact(hxA.trans hx2).set (Nat.le_refl _) _
     | some x=>
       repeat' (first | (simp (disch:=first | omega | (decide +kernel)) only[↓RD,RU,↓putF_get,↓putF_none,↓evF_t,set_get,lop,wop,resL,resV,tupleV,isVal,isCell,Value.cells,ρ4,↓reduceIte,Nat.reduceEqDiff,Nat.reduceAdd,ρ7,ρ8,ρ15,ρ17,ρ18,ρ21,ρ22,ρ23,Kd.isRo,ρ25,ρ26,f4,hob2,pieC]) | (with_reducible first | refine condK_dec (fun _=> ?_) fun _=> ?_ | refine grd_dec (fun _=> ?_) fun _=> ?_ | refine egrd_dec (fun _=> ?_) fun _=> ?_))
       all_goals exact(hxA.trans hx2).set (Nat.le_refl _) _
   have c3' : ¬hd l=39:=fun g=>c3 (.inl g)
   have c3'' : ¬hd l=34:=fun g=>c3 (.inr g)
   have etok:tokT l=(symN l).map fun n=>(9,l.take n,n):=by unfold tokT;rw[if_neg c1,if_neg c2,if_neg c3]
   rw[etok]
   repeat' (first | (simp (disch:=first | omega | (decide +kernel)) only[↓RD,RU,↓putF_get,↓evF_t,↓evF_c,getD_zero,getD_succ,pop,ρ0,ρ1,↓reduceIte,Nat.reduceEqDiff,Int.reduceOfNat,Int.reduceNegSucc,reduceCtorEq,ρ29,hag1,str_get,gq,rletter_iff,rdigit_iff,c1',c2']) | (with_reducible first | refine condK_dec (fun _=> ?_) fun _=> ?_ | refine grd_dec (fun _=> ?_) fun _=> ?_ | refine egrd_dec (fun _=> ?_) fun _=> ?_))
   have hext : ∀n,(t.drop j).take (j+n-j)=l.take n:=fun n=>by rw[hl',show j+n-j=n by omega]
   refine loop_w (fun n fr K2=>SyJ K1 l n (fr 7) K2) (n:=3) ⟨by omega,by(repeat' (first | (simp (disch:=first | omega | (decide +kernel)) only[↓putF_get,↓reduceIte]) | (with_reducible first | refine condK_dec (fun _=> ?_) fun _=> ?_ | refine grd_dec (fun _=> ?_) fun _=> ?_ | refine egrd_dec (fun _=> ?_) fun _=> ?_));all_goals rfl),rfl,fun h=>absurd h (by omega),fun h=>absurd h (by omega),fun h=>absurd h (by omega)⟩ ?_
   rintro n fr K2 ⟨hn3,f7,rfl,s3,s2,s1⟩ hag
   obtain rfl | rfl | rfl | rfl:n=3∨n=2∨n=1∨n=0:=by omega
   ·by_cases hin:3≤l.length
    ·have hs:=sym3 hin
     by_cases hm:l.take 3∈S3
     ·rw[decide_eq_true hm] at hs
      have etok2:symN l=some 3:=by
       unfold symN
       rw[if_pos hm]
      rw[etok2]
      repeat' (first | (simp (disch:=first | omega | (decide +kernel)) only[↓RD,RU,↓putF_get,↓putF_none,↓evF_t,↓evF_c,set_get,getD_zero,getD_succ,pop,lop,wop,resL,resV,tupleV,isVal,isCell,Value.cells,ρ0,ρ1,ρ4,↓reduceIte,Nat.reduceEqDiff,Nat.reduceAdd,reduceCtorEq,ρ7,ρ8,bnd,ρ15,ρ17,ρ18,ρ19,ρ20,ρ21,ρ22,ρ23,Kd.isRo,ρ25,ρ26,bldV,Nat.reduceLeDiff,ρ29,hag,hag1,f4,f7,str_size,str_ext,hext,isSymbol_iff,hs,hAo,pieC]) | (with_reducible first | refine condK_dec (fun _=> ?_) fun _=> ?_ | refine grd_dec (fun _=> ?_) fun _=> ?_ | refine egrd_dec (fun _=> ?_) fun _=> ?_))
      all_goals exact⟨hxA.set (Nat.le_refl _) _,rfl⟩
     ·rw[decide_eq_false hm] at hs
      repeat' (first | (simp (disch:=first | omega | (decide +kernel)) only[↓RD,RU,↓putF_get,↓evF_t,↓evF_c,getD_zero,getD_succ,pop,ρ0,ρ1,↓reduceIte,Nat.reduceEqDiff,reduceCtorEq,bnd,ρ29,hag,hag1,f7,str_size,str_ext,hext,isSymbol_iff,hs]) | (with_reducible first | refine condK_dec (fun _=> ?_) fun _=> ?_ | refine grd_dec (fun _=> ?_) fun _=> ?_ | refine egrd_dec (fun _=> ?_) fun _=> ?_))
      all_goals exact⟨2,by omega,by omega,rfl,rfl,fun _=>hm,fun h=>absurd h (by omega),fun h=>absurd h (by omega)⟩
    ·have hm : ¬(l.take 3∈S3):=fun g=>hin (by have:=s3_len g;simp at this;omega)
     repeat' (first | (simp (disch:=first | omega | (decide +kernel)) only[↓RD,RU,↓putF_get,↓evF_t,↓evF_c,getD_zero,getD_succ,pop,↓reduceIte,Nat.reduceEqDiff,reduceCtorEq,hag,hag1,f7,str_size]) | (with_reducible first | refine condK_dec (fun _=> ?_) fun _=> ?_ | refine grd_dec (fun _=> ?_) fun _=> ?_ | refine egrd_dec (fun _=> ?_) fun _=> ?_))
     all_goals exact⟨2,by omega,by omega,rfl,rfl,fun _=>hm,fun h=>absurd h (by omega),fun h=>absurd h (by omega)⟩
   ·by_cases hin:2≤l.length
    ·have hs:=sym2 hin
     by_cases hm:l.take 2∈S2
     ·rw[decide_eq_true hm] at hs
      have etok2:symN l=some 2:=by
       unfold symN
       rw[if_neg (s3 (by omega)),if_pos hm]
      rw[etok2]
      repeat' (first | (simp (disch:=first | omega | (decide +kernel)) only[↓RD,RU,↓putF_get,↓putF_none,↓evF_t,↓evF_c,set_get,getD_zero,getD_succ,pop,lop,wop,resL,resV,tupleV,isVal,isCell,Value.cells,ρ0,ρ1,ρ4,↓reduceIte,Nat.reduceEqDiff,Nat.reduceAdd,reduceCtorEq,ρ7,ρ8,bnd,ρ15,ρ17,ρ18,ρ19,ρ20,ρ21,ρ22,ρ23,Kd.isRo,ρ25,ρ26,bldV,Nat.reduceLeDiff,ρ29,hag,hag1,f4,f7,str_size,str_ext,hext,isSymbol_iff,hs,hAo,pieC]) | (with_reducible first | refine condK_dec (fun _=> ?_) fun _=> ?_ | refine grd_dec (fun _=> ?_) fun _=> ?_ | refine egrd_dec (fun _=> ?_) fun _=> ?_))
      all_goals exact⟨hxA.set (Nat.le_refl _) _,rfl⟩
     ·rw[decide_eq_false hm] at hs
      repeat' (first | (simp (disch:=first | omega | (decide +kernel)) only[↓RD,RU,↓putF_get,↓evF_t,↓evF_c,getD_zero,getD_succ,pop,ρ0,ρ1,↓reduceIte,Nat.reduceEqDiff,reduceCtorEq,bnd,ρ29,hag,hag1,f7,str_size,str_ext,hext,isSymbol_iff,hs]) | (with_reducible first | refine condK_dec (fun _=> ?_) fun _=> ?_ | refine grd_dec (fun _=> ?_) fun _=> ?_ | refine egrd_dec (fun _=> ?_) fun _=> ?_))
      all_goals exact⟨1,by omega,by omega,rfl,rfl,fun _=>s3 (by omega),fun _=>hm,fun h=>absurd h (by omega)⟩
    ·have hm : ¬(l.take 2∈S2):=fun g=>hin (by have:=s2_len g;simp at this;omega)
     repeat' (first | (simp (disch:=first | omega | (decide +kernel)) only[↓RD,RU,↓putF_get,↓evF_t,↓evF_c,getD_zero,getD_succ,pop,↓reduceIte,Nat.reduceEqDiff,reduceCtorEq,hag,hag1,f7,str_size]) | (with_reducible first | refine condK_dec (fun _=> ?_) fun _=> ?_ | refine grd_dec (fun _=> ?_) fun _=> ?_ | refine egrd_dec (fun _=> ?_) fun _=> ?_))
     all_goals exact⟨1,by omega,by omega,rfl,rfl,fun _=>s3 (by omega),fun _=>hm,fun h=>absurd h (by omega)⟩
   ·by_cases hin:1≤l.length
    ·have hs:=sym1 hin
     by_cases hm:hd l∈S1.map UInt8.toNat
     ·rw[decide_eq_true hm] at hs
      have etok2:symN l=some 1:=by
       unfold symN
       rw[if_neg (s3 (by omega)),if_neg (s2 (by omega)),if_pos hm]
      rw[etok2]
      repeat' (first | (simp (disch:=first | omega | (decide +kernel)) only[↓RD,RU,↓putF_get,↓putF_none,↓evF_t,↓evF_c,set_get,getD_zero,getD_succ,pop,lop,wop,resL,resV,tupleV,isVal,isCell,Value.cells,ρ0,ρ1,ρ4,↓reduceIte,Nat.reduceEqDiff,Nat.reduceAdd,reduceCtorEq,ρ7,ρ8,bnd,ρ15,ρ17,ρ18,ρ19,ρ20,ρ21,ρ22,ρ23,Kd.isRo,ρ25,ρ26,bldV,Nat.reduceLeDiff,ρ29,hag,hag1,f4,f7,str_size,str_ext,hext,isSymbol_iff,hs,hAo,pieC]) | (with_reducible first | refine condK_dec (fun _=> ?_) fun _=> ?_ | refine grd_dec (fun _=> ?_) fun _=> ?_ | refine egrd_dec (fun _=> ?_) fun _=> ?_))
      all_goals exact⟨hxA.set (Nat.le_refl _) _,rfl⟩
     ·rw[decide_eq_false hm] at hs
      repeat' (first | (simp (disch:=first | omega | (decide +kernel)) only[↓RD,RU,↓putF_get,↓evF_t,↓evF_c,getD_zero,getD_succ,pop,ρ0,ρ1,↓reduceIte,Nat.reduceEqDiff,reduceCtorEq,bnd,ρ29,hag,hag1,f7,str_size,str_ext,hext,isSymbol_iff,hs]) | (with_reducible first | refine condK_dec (fun _=> ?_) fun _=> ?_ | refine grd_dec (fun _=> ?_) fun _=> ?_ | refine egrd_dec (fun _=> ?_) fun _=> ?_))
      all_goals exact⟨0,by omega,by omega,rfl,rfl,fun _=>s3 (by omega),fun _=>s2 (by omega),fun _=>hm⟩
    ·have hm : ¬(hd l∈S1.map UInt8.toNat):=fun g=>hin (by omega)
     repeat' (first | (simp (disch:=first | omega | (decide +kernel)) only[↓RD,RU,↓putF_get,↓evF_t,↓evF_c,getD_zero,getD_succ,pop,wop,isVal,Value.cells,ρ0,ρ1,ρ4,↓reduceIte,Nat.reduceEqDiff,Nat.reduceAdd,reduceCtorEq,ρ7,ρ8,bnd,ρ17,ρ18,ρ19,ρ20,ρ21,ρ25,ρ26,bldV,Nat.reduceLeDiff,ρ29,hag,hag1,str_size,str_ext,isSymbol_iff]) | (with_reducible first | refine condK_dec (fun _=> ?_) fun _=> ?_ | refine grd_dec (fun _=> ?_) fun _=> ?_ | refine egrd_dec (fun _=> ?_) fun _=> ?_))
     all_goals first | exact⟨0,by omega,by omega,rfl,rfl,fun _=>s3 (by omega),fun _=>s2 (by omega),fun _=>hm⟩ | (exfalso;omega)
   ·have etok2:symN l=none:=by
     unfold symN
     rw[if_neg (s3 (by omega)),if_neg (s2 (by omega)),if_neg (s1 (by omega))]
    rw[etok2]
    repeat' (first | (simp (disch:=first | omega | (decide +kernel)) only[↓RD,RU,↓putF_get,↓putF_none,↓evF_t,↓evF_c,set_get,pop,lop,wop,resL,resV,tupleV,isVal,isCell,Value.cells,ρ0,ρ1,ρ4,↓reduceIte,Nat.reduceEqDiff,Nat.reduceAdd,ρ7,ρ8,ρ15,ρ17,ρ18,ρ19,ρ20,ρ21,ρ22,ρ23,Kd.isRo,ρ25,ρ26,bldV,Nat.reduceLeDiff,hag,f4,f7,hAo,pieC]) | (with_reducible first | refine condK_dec (fun _=> ?_) fun _=> ?_ | refine grd_dec (fun _=> ?_) fun _=> ?_ | refine egrd_dec (fun _=> ?_) fun _=> ?_))
    all_goals exact⟨hxA.set (Nat.le_refl _) _,rfl⟩
end Can
end Go.Proofs.YtnankhlanilbbaaGreat
end
section
namespace Go.Proofs.YtnankhlanilbbaaGreat
namespace Can
open Go Go.RowKit
set_option linter.unusedSimpArgs false
set_option linter.unusedVariables false
set_option maxRecDepth 4000
def strC (r:List UInt8):List Value:= [.string (str r)]
theorem strC_ok : ∀r,(strC r).length=1∧(strC r).all isCell=true:=fun _=>⟨rfl,rfl⟩
def LnJ (A:CH)(src:List UInt8)(n:Nat)(v3 v4 v5:Value)(K:CH):Prop:=∃(i fm:Nat) (acc:List (List UInt8)),n=src.length+1-i∧i≤src.length+1∧fm≤i∧v5= .int .i64 (i:Nat)∧v4= .int .i64 (fm:Nat)∧Grw A 9 1 strC K v3 acc∧HExt A K∧acc.length≤i∧
 (i≤src.length→(∀x∈(src.drop fm).take (i-fm),x.toNat≠10)∧splitN src=acc++splitN (src.drop fm))∧(i=src.length+1→splitN src=acc)
theorem lines_r{A:CH}{src:List UInt8}(hl:src.length≤20000):WpF (tblG Tryz.prog LG GG) 26 [.string (str src)] A fun v K=>HExt A K∧Grw A 9 1 strC K v (splitN src):=by
 refine wpF_rG (by rfl) (by kernel_rfl) ?_;(conv in (rF _ _).body=>reduce);(conv in (rF _ _).res=>reduce)
 repeat' (first | (simp (disch:=first | omega | (decide +kernel)) only[↓RD,RU,↓evF_c,pop,Int.reduceOfNat]) | (with_reducible first | refine condK_dec (fun _=> ?_) fun _=> ?_ | refine grd_dec (fun _=> ?_) fun _=> ?_ | refine egrd_dec (fun _=> ?_) fun _=> ?_))
 refine loop_w (fun n fr K=>LnJ A src n (fr 3) (fr 4) (fr 5) K) (n:=src.length+1) ⟨0,0,[],rfl,by omega,by omega,by(repeat' (first | (simp (disch:=first | omega | (decide +kernel)) only[↓putF_get,↓reduceIte]) | (with_reducible first | refine condK_dec (fun _=> ?_) fun _=> ?_ | refine grd_dec (fun _=> ?_) fun _=> ?_ | refine egrd_dec (fun _=> ?_) fun _=> ?_));all_goals rfl),by(repeat' (first | (simp (disch:=first | omega | (decide +kernel)) only[↓putF_get,↓reduceIte,Nat.reduceEqDiff]) | (with_reducible first | refine condK_dec (fun _=> ?_) fun _=> ?_ | refine grd_dec (fun _=> ?_) fun _=> ?_ | refine egrd_dec (fun _=> ?_) fun _=> ?_));all_goals rfl),by(repeat' (first | (simp (disch:=first | omega | (decide +kernel)) only[↓putF_get,↓reduceIte,Nat.reduceEqDiff]) | (with_reducible first | refine condK_dec (fun _=> ?_) fun _=> ?_ | refine grd_dec (fun _=> ?_) fun _=> ?_ | refine egrd_dec (fun _=> ?_) fun _=> ?_));all_goals exact .inl ⟨rfl,rfl⟩),HExt.refl _,by simp,fun _=>⟨by simp,rfl⟩,fun h=>by omega⟩ ?_
 rintro n fr K ⟨i,fm,acc,rfl,hi,hfi,f5,f4,hG,hx,hac,hR,hE⟩ hag
 obtain⟨v3,f3⟩ : ∃v,fr 3=v:=⟨_,rfl⟩
 rw[f3] at hG
 by_cases hil:i<src.length
 ·have g0:=get_some hil
  obtain⟨h1,h2⟩:=hR (by omega)
  have hrow:src.drop fm=(src.drop fm).take (i-fm)++src.drop i:=by
   have:(src.drop fm).drop (i-fm)=src.drop i:=by rw[List.drop_drop];congr 1;omega
   rw[←this,List.take_append_drop]
  by_cases c1:hd (src.drop i)=10
  ·rw[c1] at g0
   have hu:src.drop i=10::src.drop (i+1):=by
    rw[List.drop_eq_getElem_cons hil] at c1⊢
    have:src[i]=10:=UInt8.toNat_inj.1 c1
    rw[this]
   have h3:splitN src=(acc++ [(src.drop fm).take (i-fm)])++splitN (src.drop (i+1)):=by
    rw[h2]
    conv=>lhs;rw[hrow,hu]
    rw[splitN_row (.inr ⟨_,rfl⟩) h1]
    simp
   repeat' (first | (simp (disch:=first | omega | (decide +kernel)) only[↓RD,RU,↓putF_get,↓evF_t,↓evF_c,new_get,getD_zero,pop,aop,akV,isVal,Value.cells,ρ0,ρ1,ρ4,↓reduceIte,Nat.reduceEqDiff,reduceCtorEq,ρ7,ρ8,srcR_c,bnd,ρ15,ρ17,ρ18,ρ21,ρ25,ρ26,bldV,Nat.reduceLeDiff,zeros_one,appS_some,ρ29,hag,f3,f4,f5,g0,str_size,str_get,str_ext]) | (with_reducible first | refine condK_dec (fun _=> ?_) fun _=> ?_ | refine grd_dec (fun _=> ?_) fun _=> ?_ | refine egrd_dec (fun _=> ?_) fun _=> ?_))
   refine optW_app strC_ok (ys:= [(src.drop fm).take (i-fm)]) (hG.ext (by(repeat (first | assumption | exact HExt.refl _ | (refine HExt.set ?_ (by first | omega | (simp only[new_nx,set_nx];omega)) _) | (refine HExt.new ?_ _))))) (hx.trans (by(repeat (first | assumption | exact HExt.refl _ | (refine HExt.set ?_ (by first | omega | (simp only[new_nx,set_nx];omega)) _) | (refine HExt.new ?_ _))))) (by simp;omega) (by simp;omega) rfl rfl fun v' K4 j1 j2 j3 j4=> ?_
   repeat' (first | (simp (disch:=first | omega | (decide +kernel)) only[↓RD,RU,↓putF_get,↓evF_t,↓evF_c,pop,↓reduceIte,Nat.reduceEqDiff,f5]) | (with_reducible first | refine condK_dec (fun _=> ?_) fun _=> ?_ | refine grd_dec (fun _=> ?_) fun _=> ?_ | refine egrd_dec (fun _=> ?_) fun _=> ?_))
   all_goals exact⟨src.length+1-(i+1),by omega,i+1,i+1,_,rfl,by omega,by omega,rfl,rfl,j1,j2,by simp;omega,fun _=>⟨by simp,h3⟩,fun h=>by omega⟩
  ·have h4 : ∀x∈(src.drop fm).take (i+1-fm),x.toNat≠10:=by
    rw[show i+1-fm=(i-fm)+1 by omega,List.take_succ_eq_append_getElem (by simp;omega)]
    intro x hx
    rcases List.mem_append.1 hx with hx | hx
    ·exact h1 x hx
    ·simp only[List.mem_singleton] at hx
     subst hx
     rw[hd_drop hil] at c1
     simp only[List.getElem_drop]
     have:fm+(i-fm)=i:=by omega
     simp only[this]
     exact c1
   repeat' (first | (simp (disch:=first | omega | (decide +kernel)) only[↓RD,RU,↓putF_get,↓evF_t,↓evF_c,getD_zero,pop,↓reduceIte,Nat.reduceEqDiff,reduceCtorEq,ρ29,hag,f3,f4,f5,g0,str_size,str_get]) | (with_reducible first | refine condK_dec (fun _=> ?_) fun _=> ?_ | refine grd_dec (fun _=> ?_) fun _=> ?_ | refine egrd_dec (fun _=> ?_) fun _=> ?_))
   all_goals exact⟨src.length+1-(i+1),by omega,i+1,fm,acc,rfl,by omega,by omega,rfl,rfl,hG,hx,by omega,fun _=>⟨h4,h2⟩,fun h=>by omega⟩
 ·by_cases hie:i=src.length
  ·obtain⟨h1,h2⟩:=hR (by omega)
   have hrow:src.drop fm=(src.drop fm).take (i-fm)++ []:=by
    rw[List.append_nil,List.take_of_length_le (by simp;omega)]
   have h3:splitN src=acc++ [(src.drop fm).take (i-fm)]:=by
    rw[h2]
    conv=>lhs;rw[hrow]
    rw[splitN_row (.inl rfl) h1]
   subst hie
   repeat' (first | (simp (disch:=first | omega | (decide +kernel)) only[↓RD,RU,↓putF_get,↓evF_t,↓evF_c,new_get,getD_zero,pop,aop,akV,isVal,Value.cells,ρ0,ρ1,ρ4,↓reduceIte,Nat.reduceEqDiff,reduceCtorEq,ρ7,ρ8,srcR_c,bnd,ρ15,ρ17,ρ18,ρ21,ρ25,ρ26,bldV,Nat.reduceLeDiff,zeros_one,appS_some,ρ29,hag,f3,f4,f5,str_size,str_ext]) | (with_reducible first | refine condK_dec (fun _=> ?_) fun _=> ?_ | refine grd_dec (fun _=> ?_) fun _=> ?_ | refine egrd_dec (fun _=> ?_) fun _=> ?_))
   refine optW_app strC_ok (ys:= [(src.drop fm).take (src.length-fm)]) (hG.ext (by(repeat (first | assumption | exact HExt.refl _ | (refine HExt.set ?_ (by first | omega | (simp only[new_nx,set_nx];omega)) _) | (refine HExt.new ?_ _))))) (hx.trans (by(repeat (first | assumption | exact HExt.refl _ | (refine HExt.set ?_ (by first | omega | (simp only[new_nx,set_nx];omega)) _) | (refine HExt.new ?_ _))))) (by simp;omega) (by simp;omega) rfl rfl fun v' K4 j1 j2 j3 j4=> ?_
   repeat' (first | (simp (disch:=first | omega | (decide +kernel)) only[↓RD,RU,↓putF_get,↓evF_t,↓evF_c,pop,↓reduceIte,Nat.reduceEqDiff,f5]) | (with_reducible first | refine condK_dec (fun _=> ?_) fun _=> ?_ | refine grd_dec (fun _=> ?_) fun _=> ?_ | refine egrd_dec (fun _=> ?_) fun _=> ?_))
   all_goals exact⟨0,by omega,src.length+1,src.length+1,_,by omega,by omega,by omega,rfl,rfl,j1,j2,by simp;omega,fun h=>by omega,fun _=>h3⟩
  ·have h3:=hE (by omega)
   rw[h3]
   repeat' (first | (simp (disch:=first | omega | (decide +kernel)) only[↓RD,RU,↓putF_get,↓evF_t,getD_zero,pop,resL,resV,tupleV,↓reduceIte,Nat.reduceEqDiff,reduceCtorEq,hag,f3,f5,str_size]) | (with_reducible first | refine condK_dec (fun _=> ?_) fun _=> ?_ | refine grd_dec (fun _=> ?_) fun _=> ?_ | refine egrd_dec (fun _=> ?_) fun _=> ?_))
   all_goals exact⟨hx,hG⟩
end Can
end Go.Proofs.YtnankhlanilbbaaGreat
end
section
namespace Go.Proofs.YtnankhlanilbbaaGreat
namespace Can
open Go Go.RowKit
set_option linter.unusedSimpArgs false
set_option linter.unusedVariables false
def DcAt (A K:CH)(vo vt:Value)(opn:List Nat)(out:List Tok):Prop:=OpnAt A K vo opn∧Grw A 50 3 tokC K vt out∧HExt A K
theorem OpnAt.mv{A K K':CH}{v:Value}{ns:List Nat}(h:OpnAt A K v ns)(hn:K.nx≤K'.nx)(hk : ∀b o n c,v= .slice (some ⟨b,o,none⟩) n c→K'.ob b=K.ob b):OpnAt A K' v ns:=by
 obtain⟨b,kd,c,os,h1,h2,h3,h4,h5⟩:=h
 exact⟨b,kd,c,os,h1,h2,Nat.lt_of_lt_of_le h3 hn,(hk _ _ _ _ h1).trans h4,h5⟩
theorem DcAt.mv{A K K':CH}{vo vt:Value}{opn:List Nat}{out:List Tok}(h:DcAt A K vo vt opn out)(hx:HExt K K'):DcAt A K' vo vt opn out:=by
 obtain⟨h1,h2,h3⟩:=h
 refine⟨h1.mv hx.nx fun b o n c e=> ?_,h2.ext hx,h3.trans hx⟩
 obtain⟨b',kd,c',os,e',g1,g2,_⟩:=h1
 rw[e] at e'
 cases e'
 exact hx.ob b g2
theorem DcAt.put{A K:CH}{vo vt:Value}{opn:List Nat}{out:List Tok}(h:DcAt A K vo vt opn out)(t:Tok)(hb:out.length<1000000){us:List Value}(hu:us=tokC t){Q:Value→CH→Prop}(k : ∀vt' K',DcAt A K' vo vt' opn (out++ [t])→K.nx≤K'.nx→(∀l e kd cs,l<K.nx→K.ob l= .cells cs e kd→e≠50→K'.ob l=K.ob l)→Q vt' K'):optW (appV 50 3 32 vt us 1 K) Q:=by
 obtain⟨h1,h2,h3⟩:=h
 have hne : ∀l cs e kd,K.ob l= .cells cs e kd→e≠50→∀o n c,vt≠ .slice (some ⟨l,o,none⟩) n c:=fun l cs e kd hl he o n c hv=>by
  rcases h2 with ⟨_,g⟩ | ⟨b,kd',e',g1,g2,g3,g4⟩
  ·rw[g] at hv;cases hv
  ·rw[e'] at hv;cases hv
   rw[hl] at g3
   exact he (CObj.cells.inj g3).2.1
 refine optW_app tokC_ok (ys:= [t]) h2 h3 (by simp;omega) (by simp;omega) (by rw[hu];simp) rfl fun vt' K' j1 j2 j3 j4=> ?_
 refine k vt' K' ⟨h1.mv j3 fun b o n c e=> ?_,j1,j2⟩ j3 fun l e kd cs hl hc he=>j4 l hl (hne l cs e kd hc he)
 obtain⟨b',kd,c',os,e',g1,g2,g3,_⟩:=h1
 rw[e] at e'
 cases e'
 exact j4 b g2 (hne b os _ kd g3 (by decide))
theorem DcAt.push{A K:CH}{vo vt:Value}{opn:List Nat}{out:List Tok}(h:DcAt A K vo vt opn out)(n:Nat)(hb:opn.length<1000000){Q:Value→CH→Prop}(k : ∀vo' K',DcAt A K' vo' vt (opn++ [n]) out→K.nx≤K'.nx→(∀l e kd cs,l<K.nx→K.ob l= .cells cs e kd→e≠3→K'.ob l=K.ob l)→Q vo' K'):optW (appV 3 1 8 vo [.int .i64 n] 1 K) Q:=by
 obtain⟨h1,h2,h3⟩:=h
 have hne : ∀l cs e kd,K.ob l= .cells cs e kd→e≠3→∀o n c,vo≠ .slice (some ⟨l,o,none⟩) n c:=fun l cs e kd hl he o n c hv=>by
  obtain⟨b',kd',c',os,e',g1,g2,g3,_⟩:=h1
  rw[e'] at hv;cases hv
  rw[hl] at g3
  exact he (CObj.cells.inj g3).2.1
 refine opn_app h1 h3 hb fun vo' K' j1 j2 j3 j4=> ?_
 refine k vo' K' ⟨j1,?_,j2⟩ j3 fun l e kd cs hl hc he=>j4 l hl (hne l cs e kd hc he)
 rcases h2 with g | ⟨b,kd,e,g1,g2,g3,g4⟩
 ·exact .inl g
 ·exact .inr ⟨b,kd,e,g1,Nat.lt_of_lt_of_le g2 j3,(j4 b g2 (hne b _ _ kd g3 (by decide))).trans g3,g4⟩
theorem DcAt.last{A K:CH}{vo vt:Value}{opn:List Nat}{out:List Tok}(h:DcAt A K vo vt opn out) : ∃b kd c os,vo= .slice (some ⟨b,0,none⟩) opn.length c∧K.ob b= .cells os 3 kd∧opn.length≤c∧opn.length≤os.length∧∀i,i<opn.length→os[i]? = some (.int .i64 (opn.getD i 0:Nat)):=by
 obtain⟨⟨b,kd,c,os,h1,h2,h3,h4,h5,h6,h7,h8,h9⟩,_⟩:=h
 exact⟨b,kd,c,os,h1,h4,h6,h8,h9⟩
theorem DcAt.pop{A K:CH}{vt:Value}{b c m:Nat}{opn:List Nat}{out:List Tok}(h:DcAt A K (.slice (some ⟨b,0,none⟩) opn.length c) vt opn out)(hm:m≤opn.length):DcAt A K (.slice (some ⟨b,0,none⟩) m c) vt (opn.take m) out:=by
 obtain⟨⟨b',kd,c',os,h1,h2,h3,h4,h5,h6,h7,h8,h9⟩,g⟩:=h
 cases h1
 have hl:(opn.take m).length=m:=by simp;omega
 refine⟨⟨b,kd,c,os,by rw[hl],h2,h3,h4,h5,by omega,h7,by omega,fun i hi=> ?_⟩,g⟩
 rw[hl] at hi
 rw[h9 i (by omega)]
 congr 3
 simp only[List.getD_eq_getElem?_getD]
 rw[List.getElem?_take_of_lt hi]
theorem lines_iff{A:CH}{src:List UInt8}(hl:src.length≤20000) : ∃v K,HExt A K∧Grw A 9 1 strC K v (splitN src)∧∀Q:Value→CH→Prop,WpF (tblG Tryz.prog LG GG) 26 [.string ⟨⟨src⟩⟩] A Q↔Q v K:=by
 obtain⟨n,v,K,h1,h2,h3⟩:=lines_r (A:=A) hl
 exact⟨v,K,h2,h3,fun Q=>wpF_iff ⟨n,v,K,h1,rfl,rfl⟩⟩
structure RwK(R:List (List UInt8))(B i d:Nat)(st:List Nat)(out:List Tok):Prop where
 z:st.getLast? = some 0
 il:i≤R.length
 rows:rowsT 1 R 0 [0]=mp2 out (rowsT (i+1) (R.drop i) d st)
 bo:out.length+st.length+((R.drop i).map List.length).sum+3*(R.length-i)≤B
 bd:d+((R.drop i).map List.length).sum≤B
theorem RwK.init{R:List (List UInt8)}{B:Nat}(hB:1+(R.map List.length).sum+3*R.length≤B):RwK R B 0 0 [0] []:=by
 refine⟨rfl,Nat.zero_le _,?_,by simp only[List.drop_zero,List.length_nil,List.length_singleton];omega,by simp only[List.drop_zero];omega⟩
 simp only[List.drop_zero]
 cases rowsT 1 R 0 [0]<;>rfl
theorem RwK.step{R:List (List UInt8)}{B i d:Nat}{st:List Nat}{out:List Tok}(h:RwK R B i d st out)(hi:i<R.length){x:List Tok}{d':Nat}{st':List Nat}(hr:rowT (i+1) R[i] d st= .ok (x,d',st')):RwK R B (i+1) d' st' (out++x):=by
 obtain⟨g1,g2,g3⟩:=rowT_ok hr h.z
 have hbo:=h.bo
 have hbd:=h.bd
 have e:R.drop i=R[i]::R.drop (i+1):=List.drop_eq_getElem_cons hi
 rw[e] at hbo hbd
 simp only[List.map_cons,List.sum_cons] at hbo hbd
 refine⟨g3,hi,?_,by simp only[List.length_append];omega,by omega⟩
 rw[h.rows,e,rowsT_cons,hr,←mp2_mp2]
theorem RwK.err{R:List (List UInt8)}{B i d:Nat}{st:List Nat}{out:List Tok}(h:RwK R B i d st out)(hi:i<R.length){e:Nat}(hr:rowT (i+1) R[i] d st= .error e):rowsT 1 R 0 [0]= .error (i+1,e):=by
 rw[h.rows,List.drop_eq_getElem_cons hi,rowsT_cons,hr];rfl
theorem RwK.fin{R:List (List UInt8)}{B d:Nat}{st:List Nat}{out:List Tok}(h:RwK R B R.length d st out):rowsT 1 R 0 [0]= .ok (out,st):=by
 rw[h.rows,List.drop_eq_nil_of_le (Nat.le_refl _)]
 simp[rowsT,mp2]
end Can
end Go.Proofs.YtnankhlanilbbaaGreat
end
