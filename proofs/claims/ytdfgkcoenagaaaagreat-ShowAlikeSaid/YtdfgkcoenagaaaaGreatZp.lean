/- Show: quoted, in memory and as a run over trees. Show: the printer's small functions, as runs over trees. Show: what the printer's functions are promised to do. Show: at, two, maybe. Show: row. Show: clauses. (Printed by tools/gensh.py.). Show: pairs. (Printed by tools/gensh.py.). Show: expr. (Printed by tools/gensh.py.). Show: shown, based. (Printed by tools/gensh.py.). -/
import Derived.Test.YtdfgkcoenagaaaaGreatZo
import Derived.Test.YtdfgkcoenagaaaaGreatZd
section
namespace Go.Proofs.YtdfgkcoenagaaaaGreat
namespace Can
open Go Go.RowKit
set_option linter.unusedSimpArgs false
set_option linter.unusedVariables false
set_option maxRecDepth 4000
theorem put_nw{K:CH}{p:Nat}{b:Value}{st:PSt}(ss:List (List UInt8))(h:PrAt K p b st){e:TypeId}{kd:Kd}(hw:(putL ss st).w≤bigB)(hn:ss.length≤1000000) :
 WpF TL 29 [.pointer (some ⟨p,0,none⟩), .slice (some ⟨K.nx,0,none⟩) ss.length ss.length] (K.new (.cells (ss.map fun s=> .string ⟨⟨s⟩⟩) e kd)) fun v K'=>v= .tuple #[]∧∃b',PrAt K' p b' (putL ss st)∧WFr p K b K' b':=by
 obtain⟨a,h⟩:=h
 have hp:p<K.nx:=h.pl
 have hnr:NotRow b K.nx:=by
  rcases h.buf with ⟨_,rfl⟩ | ⟨q,rfl,_,_,h4,_⟩
  ·intro o s n c e;cases e
  ·intro o s n c e;cases e;exact Nat.lt_irrefl _ h4
 have h2:PrAt (K.new (.cells (ss.map fun s=> .string ⟨⟨s⟩⟩) e kd)) p b st:=by
  refine⟨a,h.own,?_,?_,?_⟩
  ·rw[new_get,if_neg (Nat.ne_of_lt hp)];exact h.ob
  ·rcases h.buf with g | ⟨q,g1,g2,g3,g4,g5⟩
   ·exact .inl g
   ·exact .inr ⟨q,g1,by rw[new_get,if_neg (Nat.ne_of_lt g4)];exact g2,g3,by rw[new_nx];omega,g5⟩
  ·rw[new_nx];omega
 refine(pput_wp h2 (e:=e) (kd:=kd) (by rw[new_get,if_pos rfl]) (Nat.ne_of_gt hp) hnr (by rw[new_nx];omega) hw hn).mono fun v K' ⟨e1,b',e2,e3⟩=>⟨e1,b',e2,?_⟩
 refine⟨Nat.le_trans (by rw[new_nx];omega) e3.nx,fun l h1 h3 h4=> ?_,fun l h1 h3=>e3.row l (by rw[new_nx];omega) h3⟩
 rw[e3.ob l (by rw[new_nx];omega) h3 h4,new_get,if_neg (Nat.ne_of_lt h1)]
theorem quo1_w(c:UInt8)(st:PSt):st.w+1≤(putL (quo1 c) st).w:=by
 have h : ∃a s r,quo1 c=(a::s)::r:=by
  unfold quo1
  (repeat' split)<;>exact⟨_,_,_,rfl⟩
 obtain⟨a,s,r,h⟩:=h
 rw[h]
 refine Nat.le_trans ?_ (putL_cons _ _ _)
 simp only[List.length_cons];omega
theorem dig_take : ∀j:Nat,j<16→ [digL.getD j 0]=(digL.drop j).take 1:=by decide
theorem quoted_wp{K:CH}{p:Nat}{b:Value}{st:PSt}{s:List UInt8}(h:PrAt K p b st)(hB:(quoS s st).w≤bigB) :
 WpF TL 87 [.pointer (some ⟨p,0,none⟩), .string ⟨⟨s⟩⟩] K fun v K'=>v= .tuple #[]∧∃b',PrAt K' p b' (quoS s st)∧WFr p K b K' b':=by
 simp only[quoS,t_qt] at hB⊢
 refine wpF_rS (by rfl) (by kernel_rfl) ?_;(conv in (rF _ _).body=>reduce);(conv in (rF _ _).res=>reduce)
 repeat' (first | (simp (disch:=first | omega | (decide +kernel)) only[↓RD,RU,↓putF_get,↓evF_t,↓evF_c,getD_zero,pop,aop,akV,isVal,Value.cells,ρ0,ρ1,ρ4,↓reduceIte,Nat.reduceEqDiff,Int.reduceOfNat,ρ7,ρ8,ρ17,ρ21,ρ25,ρ26,bldV,Nat.reduceLeDiff,zeros_one]) | (with_reducible first | refine condK_dec (fun _=> ?_) fun _=> ?_ | refine grd_dec (fun _=> ?_) fun _=> ?_ | refine egrd_dec (fun _=> ?_) fun _=> ?_))
 refine(put_nw [[34]] h (Nat.le_trans (Nat.le_trans (quoL_wm _ _) (putL_wm _ _)) hB) (by simp)).mono fun v K1 ⟨e1,b1,h1,f1⟩=> ?_
 generalize hs0:putL [[34]] st=st0 at *
 generalize hP:quoL s st0=P0 at *
 repeat' (first | (simp (disch:=first | omega | (decide +kernel)) only[↓RD,RU,↓evF_c,pop]) | (with_reducible first | refine condK_dec (fun _=> ?_) fun _=> ?_ | refine grd_dec (fun _=> ?_) fun _=> ?_ | refine egrd_dec (fun _=> ?_) fun _=> ?_))
 refine loop_w (fun n fr K2=>∃i b2 st2,n=s.length-i∧i≤s.length∧fr 4= .int .i64 i∧PrAt K2 p b2 st2∧WFr p K b K2 b2∧quoL (s.drop i) st2=P0∧i+st0.w≤st2.w) (n:=s.length) ⟨0,b1,st0,rfl,Nat.zero_le _,by(((first | assumption | simp only[putF_get,putF_none,Nat.reduceEqDiff,↓reduceIte]))<;>rfl),h1,f1,hP,by omega⟩ ?_
 rintro n fr K2 ⟨i,b2,st2,rfl,hi,h4,⟨a2,h2⟩,hf,hq,hw2⟩ hag
 have hob:=h2.ob
 have esz:(⟨⟨s⟩⟩:ByteArray).size=s.length:=rfl
 by_cases hlt:i<s.length
 ·cases hbad:st2.bad with
  | true=>
    have hob':K2.ob p= .cells [a2,b2, .int .i64 st2.deep, .int .i64 (20000-(st2.w:Int)), .bool true] 46 .ex:=by rw[hob,hbad]
    have hp0:quoL (s.drop i) st2=st2:=by
     cases s.drop i with
     | nil=>rfl
     | cons c r=>simp only[quoL,hbad];rfl
    rw[hp0] at hq
    subst hq
    repeat' (first | (simp (disch:=first | omega | (decide +kernel)) only[↓RD,RU,↓putF_get,↓evF_t,↓evF_c,getD_zero,getD_succ,u_not,pop,lop,aop,akV,isVal,Value.cells,ρ0,ρ1,ρ2,ρ4,↓reduceIte,Nat.reduceEqDiff,reduceCtorEq,ρ5,ρ6,ρ7,ρ8,ρ17,ρ21,ρ25,ρ26,bldV,Nat.reduceLeDiff,zeros_one,hag,h4,hob',esz]) | (with_reducible first | refine condK_dec (fun _=> ?_) fun _=> ?_ | refine grd_dec (fun _=> ?_) fun _=> ?_ | refine egrd_dec (fun _=> ?_) fun _=> ?_))
    refine(put_nw [[34]] ⟨a2,h2⟩ (by rw[←hp0,hp0];exact hB) (by simp)).mono fun v K3 ⟨e3,b3,h3,f3⟩=> ?_
    repeat' (first | (simp (disch:=first | omega | (decide +kernel)) only[↓RD,RU,resL,tupleV]) | (with_reducible first | refine condK_dec (fun _=> ?_) fun _=> ?_ | refine grd_dec (fun _=> ?_) fun _=> ?_ | refine egrd_dec (fun _=> ?_) fun _=> ?_))
    exact⟨b3,h3,hf.trans f3⟩
  | false=>
    have hob':K2.ob p= .cells [a2,b2, .int .i64 st2.deep, .int .i64 (20000-(st2.w:Int)), .bool false] 46 .ex:=by rw[hob,hbad]
    obtain⟨c,hs⟩ : ∃c,s[i]? = some c:=⟨_,List.getElem?_eq_getElem hlt⟩
    have hget:(⟨⟨s⟩⟩:ByteArray)[i]? = some c:=str_get.trans hs
    have hd:s.drop i=c::s.drop (i+1):=by
     rw[List.drop_eq_getElem_cons hlt]
     rw[List.getElem?_eq_getElem hlt] at hs
     cases hs;rfl
    rw[hd] at hq
    simp only[quoL,hbad,Bool.false_eq_true,↓reduceIte] at hq
    have hBw:(putL (quo1 c) st2).w≤bigB:=Nat.le_trans (Nat.le_trans (quoL_wm _ _) (Nat.le_trans (Nat.le_of_eq (congrArg PSt.w hq)) (putL_wm _ _))) hB
    have hiw:i+1≤2305843009213693952:=by
     have:=quo1_w c st2
     simp only[bigB] at hBw
     omega
    have hnx:i+1+st0.w≤(putL (quo1 c) st2).w:=by
     have:=quo1_w c st2
     omega
    have hwr:IntKind.i64.wrap ((i:Int)+1)=((i+1:Nat):Int):=by
     rw[w_i64 (by omega) (by omega)];rfl
    have hex:(⟨⟨s⟩⟩:ByteArray).extract i (i+1)=⟨⟨[c]⟩⟩:=by
     rw[str_ext,hd]
     have:i+1-i=1:=by omega
     rw[this];rfl
    have hsl:(0:Int)≤(i:Int)∧(i:Int)≤((i+1:Nat):Int)∧((i+1:Nat):Int)≤(s.length:Int):=by omega
    by_cases h10:c.toNat=10
    ·have e10:quo1 c= [[92,110]]:=if_pos (UInt8.toNat.inj h10)
     rw[e10] at hBw hq hnx
     repeat' (first | (simp (disch:=first | omega | (decide +kernel)) only[↓RD,RU,↓putF_get,↓evF_t,↓evF_c,getD_zero,getD_succ,u_not,pop,lop,aop,akV,isVal,Value.cells,ρ0,ρ1,ρ3,ρ4,↓reduceIte,Nat.reduceEqDiff,reduceCtorEq,ρ5,ρ6,ρ7,ρ8,ρ17,ρ21,ρ25,ρ26,bldV,Nat.reduceLeDiff,zeros_one,ρ29,hag,h4,hob',esz,hget,h10]) | (with_reducible first | refine condK_dec (fun _=> ?_) fun _=> ?_ | refine grd_dec (fun _=> ?_) fun _=> ?_ | refine egrd_dec (fun _=> ?_) fun _=> ?_))
     refine(put_nw [[92,110]] ⟨a2,h2⟩ hBw (by simp)).mono fun v K3 ⟨e3,b3,h3,f3⟩=> ?_
     repeat' (first | (simp (disch:=first | omega | (decide +kernel)) only[↓RD,RU,↓putF_get,↓evF_t,↓evF_c,pop,↓reduceIte,Nat.reduceEqDiff,h4,casts]) | (with_reducible first | refine condK_dec (fun _=> ?_) fun _=> ?_ | refine grd_dec (fun _=> ?_) fun _=> ?_ | refine egrd_dec (fun _=> ?_) fun _=> ?_))
     refine⟨_,?_,i+1,b3,_,rfl,hlt,rfl,h3,hf.trans f3,hq,hnx⟩
     omega
    by_cases h9:c.toNat=9
    ·have e10:quo1 c= [[92,116]]:=(if_neg fun h=>h10 (congrArg _ h)).trans (if_pos (UInt8.toNat.inj h9))
     rw[e10] at hBw hq hnx
     repeat' (first | (simp (disch:=first | omega | (decide +kernel)) only[↓RD,RU,↓putF_get,↓evF_t,↓evF_c,getD_zero,getD_succ,u_not,pop,lop,aop,akV,isVal,Value.cells,ρ0,ρ1,ρ3,ρ4,↓reduceIte,Nat.reduceEqDiff,reduceCtorEq,ρ5,ρ6,ρ7,ρ8,ρ17,ρ21,ρ25,ρ26,bldV,Nat.reduceLeDiff,zeros_one,ρ29,hag,h4,hob',esz,hget,h9]) | (with_reducible first | refine condK_dec (fun _=> ?_) fun _=> ?_ | refine grd_dec (fun _=> ?_) fun _=> ?_ | refine egrd_dec (fun _=> ?_) fun _=> ?_))
     refine(put_nw [[92,116]] ⟨a2,h2⟩ hBw (by simp)).mono fun v K3 ⟨e3,b3,h3,f3⟩=> ?_
     repeat' (first | (simp (disch:=first | omega | (decide +kernel)) only[↓RD,RU,↓putF_get,↓evF_t,↓evF_c,pop,↓reduceIte,Nat.reduceEqDiff,h4,casts]) | (with_reducible first | refine condK_dec (fun _=> ?_) fun _=> ?_ | refine grd_dec (fun _=> ?_) fun _=> ?_ | refine egrd_dec (fun _=> ?_) fun _=> ?_))
     refine⟨_,?_,i+1,b3,_,rfl,hlt,rfl,h3,hf.trans f3,hq,hnx⟩
     omega
    by_cases h34:c.toNat=34
    ·have e10:quo1 c= [[92],[c]]:=(if_neg fun h=>h10 (congrArg _ h)).trans ((if_neg fun h=>h9 (congrArg _ h)).trans (if_pos (.inl (UInt8.toNat.inj h34))))
     rw[e10] at hBw hq hnx
     repeat' (first | (simp (disch:=first | omega | (decide +kernel)) only[↓RD,RU,↓putF_get,↓evF_t,↓evF_c,getD_zero,getD_succ,u_not,pop,lop,aop,akV,isVal,Value.cells,ρ0,ρ1,ρ3,ρ4,↓reduceIte,Nat.reduceEqDiff,Nat.reduceAdd,reduceCtorEq,ρ5,ρ6,ρ7,ρ8,bnd,ρ17,ρ18,ρ19,ρ20,ρ21,ρ25,ρ26,bldV,Nat.reduceLeDiff,ρ29,hag,h4,hob',esz,hget,h34,hwr,hex]) | (with_reducible first | refine condK_dec (fun _=> ?_) fun _=> ?_ | refine grd_dec (fun _=> ?_) fun _=> ?_ | refine egrd_dec (fun _=> ?_) fun _=> ?_))
     refine(put_nw [[92],[c]] ⟨a2,h2⟩ hBw (by simp)).mono fun v K3 ⟨e3,b3,h3,f3⟩=> ?_
     repeat' (first | (simp (disch:=first | omega | (decide +kernel)) only[↓RD,RU,↓putF_get,↓evF_t,↓evF_c,pop,↓reduceIte,Nat.reduceEqDiff,h4,casts]) | (with_reducible first | refine condK_dec (fun _=> ?_) fun _=> ?_ | refine grd_dec (fun _=> ?_) fun _=> ?_ | refine egrd_dec (fun _=> ?_) fun _=> ?_))
     refine⟨_,?_,i+1,b3,_,rfl,hlt,rfl,h3,hf.trans f3,hq,hnx⟩
     omega
    by_cases h92:c.toNat=92
    ·have e10:quo1 c= [[92],[c]]:=(if_neg fun h=>h10 (congrArg _ h)).trans ((if_neg fun h=>h9 (congrArg _ h)).trans (if_pos (.inr (UInt8.toNat.inj h92))))
     rw[e10] at hBw hq hnx
     repeat' (first | (simp (disch:=first | omega | (decide +kernel)) only[↓RD,RU,↓putF_get,↓evF_t,↓evF_c,getD_zero,getD_succ,u_not,pop,lop,aop,akV,isVal,Value.cells,ρ0,ρ1,ρ3,ρ4,↓reduceIte,Nat.reduceEqDiff,Nat.reduceAdd,reduceCtorEq,ρ5,ρ6,ρ7,ρ8,bnd,ρ17,ρ18,ρ19,ρ20,ρ21,ρ25,ρ26,bldV,Nat.reduceLeDiff,ρ29,hag,h4,hob',esz,hget,h92,hwr,hex]) | (with_reducible first | refine condK_dec (fun _=> ?_) fun _=> ?_ | refine grd_dec (fun _=> ?_) fun _=> ?_ | refine egrd_dec (fun _=> ?_) fun _=> ?_))
     refine(put_nw [[92],[c]] ⟨a2,h2⟩ hBw (by simp)).mono fun v K3 ⟨e3,b3,h3,f3⟩=> ?_
     repeat' (first | (simp (disch:=first | omega | (decide +kernel)) only[↓RD,RU,↓putF_get,↓evF_t,↓evF_c,pop,↓reduceIte,Nat.reduceEqDiff,h4,casts]) | (with_reducible first | refine condK_dec (fun _=> ?_) fun _=> ?_ | refine grd_dec (fun _=> ?_) fun _=> ?_ | refine egrd_dec (fun _=> ?_) fun _=> ?_))
     refine⟨_,?_,i+1,b3,_,rfl,hlt,rfl,h3,hf.trans f3,hq,hnx⟩
     omega
    have g10 : ¬((c.toNat:Int)=10):=by omega
    have g9 : ¬((c.toNat:Int)=9):=by omega
    have g34 : ¬((c.toNat:Int)=34):=by omega
    have g92 : ¬((c.toNat:Int)=92):=by omega
    have k1 : ¬(c=34∨c=92):=fun h=>h.elim (fun h=>h34 (congrArg _ h)) fun h=>h92 (congrArg _ h)
    by_cases h32:c.toNat<32
    ·have g32:((c.toNat:Int)<32):=by omega
     have e10:quo1 c= [[92,120],(digL.drop (c.toNat / 16)).take 1,(digL.drop (c.toNat % 16)).take 1]:=by
      rw[←dig_take _ (by omega),←dig_take _ (by omega)]
      exact(if_neg fun h=>h10 (congrArg _ h)).trans ((if_neg fun h=>h9 (congrArg _ h)).trans ((if_neg k1).trans (if_pos h32)))
     rw[e10] at hBw hq hnx
     have q1:((c.toNat:Int) / 16)=((c.toNat / 16:Nat):Int):=by omega
     have q2:((c.toNat:Int) % 16)=((c.toNat % 16:Nat):Int):=by omega
     have q3:c.toNat / 16<2:=by omega
     have q4:c.toNat % 16<16:=by omega
     generalize c.toNat / 16=q at *
     generalize c.toNat % 16=r at *
     repeat' (first | (simp (disch:=first | omega | (decide +kernel)) only[↓RD,RU,↓putF_get,↓evF_t,↓evF_c,getD_zero,getD_succ,u_not,pop,lop,aop,akV,isVal,Value.cells,ρ0,ρ1,ρ3,ρ4,↓reduceIte,Nat.reduceEqDiff,Nat.reduceAdd,reduceCtorEq,ρ5,ρ6,ρ7,ρ8,bnd,ρ17,ρ18,ρ19,ρ20,ρ21,ρ25,ρ26,bldV,Nat.reduceLeDiff,ρ29,hag,h4,hob',esz,hget,g10,g9,g34,g92,g32,q1,q2,casts,str_size,str_ext,Nat.add_sub_cancel_left]) | (with_reducible first | refine condK_dec (fun _=> ?_) fun _=> ?_ | refine grd_dec (fun _=> ?_) fun _=> ?_ | refine egrd_dec (fun _=> ?_) fun _=> ?_))
     refine(put_nw [[92,120],(digL.drop q).take 1,(digL.drop r).take 1] ⟨a2,h2⟩ hBw (by simp)).mono fun v K3 ⟨e3,b3,h3,f3⟩=> ?_
     repeat' (first | (simp (disch:=first | omega | (decide +kernel)) only[↓RD,RU,↓putF_get,↓evF_t,↓evF_c,pop,↓reduceIte,Nat.reduceEqDiff,h4,casts]) | (with_reducible first | refine condK_dec (fun _=> ?_) fun _=> ?_ | refine grd_dec (fun _=> ?_) fun _=> ?_ | refine egrd_dec (fun _=> ?_) fun _=> ?_))
     refine⟨_,?_,i+1,b3,_,rfl,hlt,rfl,h3,hf.trans f3,hq,hnx⟩
     omega
    have g32 : ¬((c.toNat:Int)<32):=by omega
    ·have e10:quo1 c= [[c]]:=(if_neg fun h=>h10 (congrArg _ h)).trans ((if_neg fun h=>h9 (congrArg _ h)).trans ((if_neg k1).trans (if_neg h32)))
     rw[e10] at hBw hq hnx
     repeat' (first | (simp (disch:=first | omega | (decide +kernel)) only[↓RD,RU,↓putF_get,↓evF_t,↓evF_c,getD_zero,getD_succ,u_not,pop,lop,aop,akV,isVal,Value.cells,ρ0,ρ1,ρ3,ρ4,↓reduceIte,Nat.reduceEqDiff,reduceCtorEq,ρ5,ρ6,ρ7,ρ8,bnd,ρ17,ρ21,ρ25,ρ26,bldV,Nat.reduceLeDiff,zeros_one,ρ29,hag,h4,hob',esz,hget,g10,g9,g34,g92,g32,hwr,hex]) | (with_reducible first | refine condK_dec (fun _=> ?_) fun _=> ?_ | refine grd_dec (fun _=> ?_) fun _=> ?_ | refine egrd_dec (fun _=> ?_) fun _=> ?_))
     refine(put_nw [[c]] ⟨a2,h2⟩ hBw (by simp)).mono fun v K3 ⟨e3,b3,h3,f3⟩=> ?_
     repeat' (first | (simp (disch:=first | omega | (decide +kernel)) only[↓RD,RU,↓putF_get,↓evF_t,↓evF_c,pop,↓reduceIte,Nat.reduceEqDiff,h4,casts]) | (with_reducible first | refine condK_dec (fun _=> ?_) fun _=> ?_ | refine grd_dec (fun _=> ?_) fun _=> ?_ | refine egrd_dec (fun _=> ?_) fun _=> ?_))
     refine⟨_,?_,i+1,b3,_,rfl,hlt,rfl,h3,hf.trans f3,hq,hnx⟩
     omega
 ·have he:i=s.length:=by omega
  subst he
  rw[List.drop_length] at hq
  simp only[quoL] at hq
  subst hq
  repeat' (first | (simp (disch:=first | omega | (decide +kernel)) only[↓RD,RU,↓putF_get,↓evF_t,↓evF_c,getD_zero,getD_succ,pop,aop,akV,isVal,Value.cells,ρ0,ρ1,ρ4,↓reduceIte,Nat.reduceEqDiff,reduceCtorEq,ρ7,ρ8,ρ17,ρ21,ρ25,ρ26,bldV,Nat.reduceLeDiff,zeros_one,hag,h4,esz]) | (with_reducible first | refine condK_dec (fun _=> ?_) fun _=> ?_ | refine grd_dec (fun _=> ?_) fun _=> ?_ | refine egrd_dec (fun _=> ?_) fun _=> ?_))
  refine(put_nw [[34]] ⟨a2,h2⟩ hB (by simp)).mono fun v K3 ⟨e3,b3,h3,f3⟩=> ?_
  repeat' (first | (simp (disch:=first | omega | (decide +kernel)) only[↓RD,RU,resL,tupleV]) | (with_reducible first | refine condK_dec (fun _=> ?_) fun _=> ?_ | refine grd_dec (fun _=> ?_) fun _=> ?_ | refine egrd_dec (fun _=> ?_) fun _=> ?_))
  exact⟨b3,h3,hf.trans f3⟩
theorem quoted_st{Z:TP}(hJ:Z.J=Jb){X:Pan}{st:PSt}{Q:AV→List SV→Prop}{R:Value→Prop}(s:List UInt8){stF:PSt}(hB:stF.w≤bigB)(hm:(quoS s st).w≤stF.w)(hQ : ∀st1,quoS s st=st1→Q (.tup []) (prS st1)):TC Z TL X 87 [.ptr 0 0,rS (.string ⟨⟨s⟩⟩)] (prR st) Q R:=by
 refine tc_pr hJ (V:= .tuple #[]) (fun K E=> .tup (vs:= []) .nil) trivial (fun K p b E vs hpr hr hfz=> ?_) (hQ _ rfl)
 cases hr with
 | cons g1 g2=>
   cases g2
   cases g1 with
   | r g1=>cases g1 with
     | c g1=>cases g1 with
       | s g1=>
         cases g1
         exact quoted_wp hpr (Nat.le_trans hm hB)
theorem pad_st{Z:TP}(hJ:Z.J=Jb){X:Pan}{st:PSt}{Q:AV→List SV→Prop}{R:Value→Prop}(s:List UInt8){stF:PSt}(hB:stF.w≤bigB)(hm:(padS s st).w≤stF.w)(hQ : ∀st1,padS s st=st1→Q (.tup []) (prS st1)):TC Z TL X 27 [.ptr 0 0,rS (.string ⟨⟨s⟩⟩)] (prR st) Q R:=pad_tc hJ s (Nat.le_trans hm hB) (hQ _ rfl)
end Can
end Go.Proofs.YtdfgkcoenagaaaaGreat
end
section
namespace Go.Proofs.YtdfgkcoenagaaaaGreat
namespace Can
open Go Go.RowKit
set_option linter.unusedSimpArgs false
set_option linter.unusedVariables false
set_option maxRecDepth 4000
attribute [local irreducible] TC putL
theorem prS_sb(st:PSt):prS st.sb= [.lk [], .lk st.out, .sc (.int .i64 st.deep), .sc (.int .i64 (20000-(st.w:Int))), .sc (.bool true)]:=rfl
theorem prS_dp(st:PSt)(d:Int):prS (st.dp d)= [.lk [], .lk st.out, .sc (.int .i64 d), .sc (.int .i64 (20000-(st.w:Int))), .sc (.bool st.bad)]:=rfl
theorem odd_eq(n:Nat):((n:Int).tmod (Int.ofNat 2)==Int.ofNat 1)=decide (n % 2=1):=by
 show(((n % 2:Nat):Int)==((1:Nat):Int))=_
 by_cases h:n % 2=1
 ·rw[h];rfl
 ·rw[decide_eq_false h]
  rw[beq_eq_false_iff_ne]
  omega
theorem okc_bad{ks:List Nd}{a b:Nat}{st:PSt}{K:PSt→PSt}(hb:st.bad=true):okS (cntN ks a b st) K=st:=by
 have:cntN ks a b st=st:=by unfold cntN;rw[if_pos hb]
 rw[this];unfold okS;rw[if_pos hb]
theorem count_st{Z:TP}{X:Pan}{st:PSt}{k:Nat}{l:Int}{x:List UInt8}{o:Nat}{ks:List Nd}{a b:Nat}{Q:AV→List SV→Prop}{R:Value→Prop}
 (h1:st.bad=false→b≤ks.length→ks.length≤a→(∀K,okS (cntN ks a b st) K=K st)→Q (rS (.bool true)) (prS st))
 (h2 : ∀st1:PSt,st1.bad=true→(∀K,okS (cntN ks a b st) K=st1)→Q (rS (.bool false)) (prS st1)):TC Z TL X 45 [.ptr 0 0,ndA (.mk k l x o ks),iS a,iS b] (prR st) Q R:=by
 refine count_tc (n:= .mk k l x o ks) ?_
 show Q (rS (.bool !(cntN ks a b st).bad)) (prS (cntN ks a b st))
 cases hb:(cntN ks a b st).bad with
 | true=>
   exact h2 _ hb fun K=>by unfold okS;rw[if_pos hb]
 | false=>
   have he:cntN ks a b st=st∧st.bad=false∧b≤ks.length∧ks.length≤a:=by
    unfold cntN at hb⊢
    split at hb
    ·rename_i h;rw[h] at hb;cases hb
    ·rename_i h
     split at hb
     ·cases hb
     ·split at hb
      ·cases hb
      ·rename_i g1 g2
       rw[if_neg h,if_neg g1,if_neg g2]
       exact⟨rfl,hb,by omega,by omega⟩
   rw[he.1]
   exact h1 he.2.1 he.2.2.1 he.2.2.2 fun K=>by rw[he.1];unfold okS;rw[if_neg (by rw[he.2.1];decide)]
section
variable {Z:TP} {X:Pan} {R:Value→Prop} {Q:AV→List SV→Prop}
theorem level_tc{k:Nat}{l:Int}{x:List UInt8}{o:Nat}{ks:List Nd}(hQ:Q (iS (lvN (.mk k l x o ks))) []):TC Z TL X 72 [ndA (.mk k l x o ks)] none Q R:=by
 refine tc_rS d0_ok (by rfl) (by kernel_rfl) ?_
 conv in (rF _ _).body=>reduce
 conv in (rF _ _).res=>reduce
 by_cases hk:k=37
 ·subst hk
  by_cases h7:o=7
  ·subst h7
   conv=>whnf
   exact hQ
  by_cases h1:o=1
  ·subst h1
   conv=>whnf
   exact hQ
  by_cases h2:o=2
  ·subst h2
   conv=>whnf
   exact hQ
  have e:lvN (.mk 37 l x o ks)=6:=by
   show(if o=7 then 8 else if o=1∨o=2 then 5 else 6)=6
   rw[if_neg h7,if_neg (by omega)]
  rw[e] at hQ
  conv=>whnf
  repeat' (refine ifT_c (fun h=>by exfalso;simp at h;omega) fun h=> ?_;conv=>whnf)
  exact hQ
 by_cases hm:k=49∨k=50∨k=40∨k=39∨k=41∨k=42∨k=38∨k=44∨k=45∨k=46∨k=47
 ·rcases hm with rfl | rfl | rfl | rfl | rfl | rfl | rfl | rfl | rfl | rfl | rfl
  all_goals
   conv=>whnf
   exact hQ
 ·have e:lvN (.mk k l x o ks)=10:=by
   have n1 : ¬(k=49∨k=50):=by omega
   have n2 : ¬k=40:=by omega
   have n3 : ¬k=39:=by omega
   have n4 : ¬k=41:=by omega
   have n5 : ¬k=42:=by omega
   have n6 : ¬k=38:=by omega
   have n7 : ¬(k=44∨k=45∨k=46∨k=47):=by omega
   simp only[lvN,Nd.kind,n1,n2,n3,n4,n5,n6,hk,n7,↓reduceIte]
  rw[e] at hQ
  conv=>whnf
  repeat' (refine ifT_c (fun h=>by exfalso;simp at h;omega) fun h=> ?_;conv=>whnf)
  exact hQ
theorem signs_tc{o:Nat}(hQ:Q (rS (.string ⟨⟨opN signL o⟩⟩)) []):TC Z TL X 50 [iS o] none Q R:=by
 refine tc_rS d0_ok (by rfl) (by kernel_rfl) ?_
 conv in (rF _ _).body=>reduce
 conv in (rF _ _).res=>reduce
 by_cases hm:o=1∨o=2∨o=3∨o=4∨o=5∨o=6∨o=7
 ·rcases hm with rfl | rfl | rfl | rfl | rfl | rfl | rfl
  ·conv=>whnf
   refine⟨rfl,?_⟩
   conv=>whnf
   refine⟨rfl,0,_,rfl,rfl,?_⟩
   conv=>whnf
   exact hQ
  ·conv=>whnf
   refine⟨rfl,?_⟩
   conv=>whnf
   refine⟨rfl,1,_,rfl,rfl,?_⟩
   conv=>whnf
   exact hQ
  ·conv=>whnf
   refine⟨rfl,?_⟩
   conv=>whnf
   refine⟨rfl,2,_,rfl,rfl,?_⟩
   conv=>whnf
   exact hQ
  ·conv=>whnf
   refine⟨rfl,?_⟩
   conv=>whnf
   refine⟨rfl,3,_,rfl,rfl,?_⟩
   conv=>whnf
   exact hQ
  ·conv=>whnf
   refine⟨rfl,?_⟩
   conv=>whnf
   refine⟨rfl,4,_,rfl,rfl,?_⟩
   conv=>whnf
   exact hQ
  ·conv=>whnf
   refine⟨rfl,?_⟩
   conv=>whnf
   refine⟨rfl,5,_,rfl,rfl,?_⟩
   conv=>whnf
   exact hQ
  ·conv=>whnf
   refine⟨rfl,?_⟩
   conv=>whnf
   refine⟨rfl,6,_,rfl,rfl,?_⟩
   conv=>whnf
   exact hQ
 ·have e:opN signL o= [63]:=by
   cases o with
   | zero=>rfl
   | succ o=>
     show(signL).getD o [63]=_
     rw[List.getD_eq_getElem?_getD,List.getElem?_eq_none (by show 7≤o;omega)];rfl
  rw[e] at hQ
  conv=>whnf
  refine ifT_c (fun h=> ?_) fun h=> ?_
  ·conv=>whnf
   exact hQ
  ·conv=>whnf
   have h8 : ¬((o:Int)<1):=by simpa using h
   rw[show decide ((o:Int)>Int.ofNat 7)=true from decide_eq_true (by show(7:Int)<o;omega)]
   conv=>whnf
   exact hQ
theorem links_tc{o:Nat}(hQ:Q (rS (.string ⟨⟨opN linkL o⟩⟩)) []):TC Z TL X 102 [iS o] none Q R:=by
 refine tc_rS d0_ok (by rfl) (by kernel_rfl) ?_
 conv in (rF _ _).body=>reduce
 conv in (rF _ _).res=>reduce
 by_cases hm:o=1∨o=2∨o=3∨o=4∨o=5∨o=6∨o=7∨o=8∨o=9∨o=10
 ·rcases hm with rfl | rfl | rfl | rfl | rfl | rfl | rfl | rfl | rfl | rfl
  ·conv=>whnf
   refine⟨rfl,?_⟩
   conv=>whnf
   refine⟨rfl,0,_,rfl,rfl,?_⟩
   conv=>whnf
   exact hQ
  ·conv=>whnf
   refine⟨rfl,?_⟩
   conv=>whnf
   refine⟨rfl,1,_,rfl,rfl,?_⟩
   conv=>whnf
   exact hQ
  ·conv=>whnf
   refine⟨rfl,?_⟩
   conv=>whnf
   refine⟨rfl,2,_,rfl,rfl,?_⟩
   conv=>whnf
   exact hQ
  ·conv=>whnf
   refine⟨rfl,?_⟩
   conv=>whnf
   refine⟨rfl,3,_,rfl,rfl,?_⟩
   conv=>whnf
   exact hQ
  ·conv=>whnf
   refine⟨rfl,?_⟩
   conv=>whnf
   refine⟨rfl,4,_,rfl,rfl,?_⟩
   conv=>whnf
   exact hQ
  ·conv=>whnf
   refine⟨rfl,?_⟩
   conv=>whnf
   refine⟨rfl,5,_,rfl,rfl,?_⟩
   conv=>whnf
   exact hQ
  ·conv=>whnf
   refine⟨rfl,?_⟩
   conv=>whnf
   refine⟨rfl,6,_,rfl,rfl,?_⟩
   conv=>whnf
   exact hQ
  ·conv=>whnf
   refine⟨rfl,?_⟩
   conv=>whnf
   refine⟨rfl,7,_,rfl,rfl,?_⟩
   conv=>whnf
   exact hQ
  ·conv=>whnf
   refine⟨rfl,?_⟩
   conv=>whnf
   refine⟨rfl,8,_,rfl,rfl,?_⟩
   conv=>whnf
   exact hQ
  ·conv=>whnf
   refine⟨rfl,?_⟩
   conv=>whnf
   refine⟨rfl,9,_,rfl,rfl,?_⟩
   conv=>whnf
   exact hQ
 ·have e:opN linkL o= [63]:=by
   cases o with
   | zero=>rfl
   | succ o=>
     show(linkL).getD o [63]=_
     rw[List.getD_eq_getElem?_getD,List.getElem?_eq_none (by show 10≤o;omega)];rfl
  rw[e] at hQ
  conv=>whnf
  refine ifT_c (fun h=> ?_) fun h=> ?_
  ·conv=>whnf
   exact hQ
  ·conv=>whnf
   have h8 : ¬((o:Int)<1):=by simpa using h
   rw[show decide ((o:Int)>Int.ofNat 10)=true from decide_eq_true (by show(10:Int)<o;omega)]
   conv=>whnf
   exact hQ
end
end Can
end Go.Proofs.YtdfgkcoenagaaaaGreat
end
section
namespace Go.Proofs.YtdfgkcoenagaaaaGreat
namespace Can
open Go Go.RowKit
set_option linter.unusedSimpArgs false
set_option linter.unusedVariables false
set_option maxRecDepth 4000
attribute [local irreducible] TC putL pe padS quoS cntN okS
def PrT (Z:TP)(X:Pan)(f:Nat)(r:SR)(F:FuncId)(args:List AV):Prop:=∀(st stF:PSt) (Q:AV→List SV→Prop) (R:Value→Prop),stF.w≤bigB→(pe f r st).w≤stF.w→(∀st1,pe f r st=st1→Q (.tup []) (prS st1))→TC Z TL X F (.ptr 0 0::args) (prR st) Q R
abbrev rwA(l:List Nd):AV:= .r (.c (.s (.row 5 (ndsS l))))
abbrev sbA(l:List Nd):AV:= .r (.c (.s (.sub 5 (ndsS l))))
abbrev oNd(n:Nd):Nat×TypeId×List CV:=(0,26,(ndS n).map .s)
structure PAl(Z:TP)(X:Pan)(f:Nat):Prop where
 at' : ∀n a,PrT Z X f (.at n a) 46 [ndA n,iS a]
 expr : ∀n,PrT Z X f (.expr n) 73 [ndA n]
 row : ∀l,PrT Z X f (.rowL false l) 48 [rwA l]
 rowS : ∀l,PrT Z X f (.rowL false l) 48 [sbA l]
 two : ∀n l s r,PrT Z X f (.two n l s r) 49 [ndA n,iS l,rS (.string ⟨⟨s⟩⟩),iS r]
 clauses : ∀l,PrT Z X f (.clauses l) 101 [sbA l]
 pairs : ∀l,PrT Z X f (.pairs false l) 100 [rwA l]
 pairsS : ∀l,PrT Z X f (.pairs false l) 100 [sbA l]
 shown : ∀n,51≤n.kind→n.kind≤57→PrT Z X f (.shown n) 89 [ndA n]
 based : ∀n,44≤n.kind→n.kind≤47→PrT Z X f (.based n) 88 [ndA n]
 joined : ∀n,PrT Z X f (.joined n) 90 [ndA n]
 maybe : ∀s n,PrT Z X f (.maybe s n) 51 [rS (.string ⟨⟨s⟩⟩),ndA n]
 block : ∀n,PrT Z X f (.block n) 47 [ndA n]
 ifs : ∀s n,PrT Z X f (.ifs s n) 24 [rS (.string ⟨⟨s⟩⟩),ndA n]
 tries : ∀n,PrT Z X f (.tries n) 25 [ndA n]
 stmt : ∀n,PrT Z X f (.stmt n) 14 [ndA n]
 head : ∀n,(n.kind=6∨n.kind=7∨n.kind=8∨n.kind=9∨n.kind=16)→PrT Z X f (.head n) 26 [ndA n]
 simple : ∀n,PrT Z X f (.simple n) 28 [ndA n]
theorem pt_zero{Z:TP}{X:Pan}{r:SR}{F:FuncId}{args:List AV}:PrT Z X 0 r F args:=by
 unfold PrT
 intro st stF Q R hB hm hQ
 exfalso
 unfold pe at hm
 simp only[PSt.lose,bigB] at hm hB
 omega
theorem drop_get{l:List Nd}{i:Nat}{n:Nd}(h:l[i]? = some n):l.drop i=n::l.drop (i+1):=by
 obtain⟨hi,rfl⟩:=List.getElem?_eq_some_iff.1 h
 exact List.drop_eq_getElem_cons hi
theorem pe_lost{r:SR}{st stE stF:PSt}(h:pe 0 r st=stE)(hB:stF.w≤bigB)(hm:stE.w≤stF.w):False:=by
 rw[←h] at hm
 unfold pe at hm
 simp only[PSt.lose,bigB] at hm hB
 omega
theorem wrap_inc{i n:Nat}(h:i<n)(hn:n≤maxLen):rS (.int .i64 (IntKind.i64.wrap ((i:Int)+1)))=iS ((i+1:Nat):Int):=by
 have:n≤9223372036854775807:=hn
 rw[w_i64 (by omega) (by omega)];rfl
theorem cat_str{a b:List UInt8}(hl:a.length+b.length≤1000):svOf (binOp .add 0 (.string (str a)) (.string (str b)))=some (.string (str (a++b))):=by
 simp only[binOp,Op.stringOp,svOf,Pure.pure]
 have h : ¬(((str a).size+(str b).size:Nat):Int)>IntKind.i64.max:=by
  show ¬(((a.length+b.length:Nat):Int)>9223372036854775807)
  omega
 rw[if_neg h]
 have e:str a++str b=str (a++b):=by
  apply ByteArray.ext
  rw[ByteArray.data_append]
  apply Array.ext'
  rw[Array.toList_append]
 rw[e]
theorem tpop_cat{fr:TFr}{x y:Operand}{a b:List UInt8}(hl:a.length+b.length≤1000)(hx:(tev fr x).raw=some (.string ⟨⟨a⟩⟩))(hy:(tev fr y).raw=some (.string ⟨⟨b⟩⟩)):tpop fr (.bin .add x y)=some (rS (.string ⟨⟨a++b⟩⟩)):=by
 have h1:rev fr x= .string ⟨⟨a⟩⟩:=by unfold rev;rw[hx];rfl
 have h2:rev fr y= .string ⟨⟨b⟩⟩:=by unfold rev;rw[hy];rfl
 show(if ([x,y].all fun y=>(tev fr y).raw.isSome)=true then (pop (rev fr) (.bin .add x y)).map toAV else none)=_
 rw[if_pos (by simp[hx,hy])]
 simp only[pop,h1,h2]
 have:=cat_str hl
 simp only[str] at this
 rw[this];rfl
theorem opN_len(o:Nat):(opN signL o).length≤2:=by
 rcases o with _ | _ | _ | _ | _ | _ | _ | _ | o
 all_goals first | decide | skip
 show(signL.getD (o+7) [63]).length≤2
 rw[List.getD_eq_getElem?_getD,List.getElem?_eq_none (by show 7≤o+7;omega)];decide
theorem neS{x:List UInt8}:(!((⟨⟨x⟩⟩:ByteArray).toList==(⟨⟨[]⟩⟩:ByteArray).toList))= !decide (x= []):=by
 have:=beq_str (a:=x) (b:= [])
 simp only[str] at this
 rw[this]
theorem neS_nil{x:List UInt8}(h:x= []):(!((⟨⟨x⟩⟩:ByteArray).toList==(⟨⟨[]⟩⟩:ByteArray).toList))=false:=by rw[neS,decide_eq_true h];rfl
theorem neS_cons{x:List UInt8}(h : ¬x= []):(!((⟨⟨x⟩⟩:ByteArray).toList==(⟨⟨[]⟩⟩:ByteArray).toList))=true:=by rw[neS,decide_eq_false h];rfl
end Can
end Go.Proofs.YtdfgkcoenagaaaaGreat
end
section
namespace Go.Proofs.YtdfgkcoenagaaaaGreat
namespace Can
open Go Go.RowKit
set_option linter.unusedSimpArgs false
set_option linter.unusedVariables false
set_option maxRecDepth 4000
attribute [local irreducible] TC putL pe padS quoS cntN okS PSt.sb PSt.dp
variable {Z:TP} {X:Pan} {f:Nat} (hJ:Z.J=Jb) (h : ∀g,g≤f→PAl Z X g)
include hJ h
theorem pt_at(n:Nd)(a:Nat):PrT Z X (f+1) (.at n a) 46 [ndA n,iS a]:=by
 intro st stF Q R hB hm hQ
 (refine tc_rS d0_ok (by rfl) (by kernel_rfl) ?_);(conv in (rF _ _).body=>reduce);(conv in (rF _ _).res=>reduce)
 simp only[pe] at hm hQ
 obtain⟨k,l,x,o,ks⟩:=n
 (conv=>whnf)
 refine level_tc ?_
 (conv=>whnf)
 refine ifT_c (fun hc=> ?_) fun hc=> ?_
 ·have hc:lvN (.mk k l x o ks)<a:=by simpa using hc
  simp only[hc,↓reduceIte] at hm hQ
  (conv=>whnf)
  (refine⟨rfl,?_⟩;(conv=>whnf);((refine put_st (st:=st) hJ [t_lp] (by simp) (by simp) hB (mo hm) fun st hp=> ?_);(rw[hp] at hm hQ);(clear hp);(conv=>whnf)))
  ((refine((h f (Nat.le_refl f)).expr (.mk k l x o ks)) st stF _ _ hB (mo hm) fun st hp=> ?_);(rw[hp] at hm hQ);(clear hp);(conv=>whnf))
  (refine⟨rfl,?_⟩;(conv=>whnf);((refine put_st (st:=st) hJ [t_rp] (by simp) (by simp) hB (mo hm) fun st hp=> ?_);(rw[hp] at hm hQ);(clear hp);(conv=>whnf)))
  exact hQ _ rfl
 ·have hc : ¬lvN (.mk k l x o ks)<a:=by simpa using hc
  simp only[hc,↓reduceIte] at hm hQ
  (conv=>whnf)
  ((refine((h f (Nat.le_refl f)).expr (.mk k l x o ks)) st stF _ _ hB (mo hm) fun st hp=> ?_);(rw[hp] at hm hQ);(clear hp);(conv=>whnf))
  exact hQ _ rfl
theorem pt_two(n:Nd)(l:Nat)(s:List UInt8)(r:Nat):PrT Z X (f+1) (.two n l s r) 49 [ndA n,iS l,rS (.string ⟨⟨s⟩⟩),iS r]:=by
 intro st stF Q R hB hm hQ
 (refine tc_rS d0_ok (by rfl) (by kernel_rfl) ?_);(conv in (rF _ _).body=>reduce);(conv in (rF _ _).res=>reduce)
 simp only[pe] at hm hQ
 rcases n with ⟨k,ln,x,o,_ | ⟨⟨k1,l1,x1,o1,ks1⟩,_ | ⟨⟨k2,l2,x2,o2,ks2⟩,ks⟩⟩⟩
 all_goals
  simp only[Nd.kids] at hm hQ
  (conv=>whnf)
  refine count_st (st:=st) (fun hn hl hg hk=> ?_) fun st hb hk=> ?_
  all_goals rw[hk] at hm hQ
 case nil.refine_1=>simp at hl
 case cons.nil.refine_1=>simp at hl
 case cons.cons.refine_1=>
  (conv=>whnf)
  ((refine⟨rfl,0,_,rfl,rfl,?_⟩);(conv=>whnf))
  ((refine((h f (Nat.le_refl f)).at' (.mk k1 l1 x1 o1 ks1) l) st stF _ _ hB (mo hm) fun st hp=> ?_);(rw[hp] at hm hQ);(clear hp);(conv=>whnf))
  (refine⟨rfl,?_⟩;(conv=>whnf);((refine put_st (st:=st) hJ [t_sp,s,t_sp] (by simp) (by simp) hB (mo hm) fun st hp=> ?_);(rw[hp] at hm hQ);(clear hp);(conv=>whnf)))
  ((refine⟨rfl,1,_,rfl,rfl,?_⟩);(conv=>whnf))
  ((refine((h f (Nat.le_refl f)).at' (.mk k2 l2 x2 o2 ks2) r) st stF _ _ hB (mo hm) fun st hp=> ?_);(rw[hp] at hm hQ);(clear hp);(conv=>whnf))
  exact hQ _ rfl
 all_goals
  (conv=>whnf)
  exact hQ _ rfl
theorem pt_maybe(s:List UInt8)(n:Nd):PrT Z X (f+1) (.maybe s n) 51 [rS (.string ⟨⟨s⟩⟩),ndA n]:=by
 intro st stF Q R hB hm hQ
 (refine tc_rS d0_ok (by rfl) (by kernel_rfl) ?_);(conv in (rF _ _).body=>reduce);(conv in (rF _ _).res=>reduce)
 simp only[pe] at hm hQ
 rcases n with ⟨k,ln,x,o,_ | ⟨⟨k1,l1,x1,o1,ks1⟩,ks⟩⟩
 all_goals
  simp only[Nd.kids] at hm hQ
  (conv=>whnf)
  (refine⟨rfl,?_⟩;(conv=>whnf);((refine put_st (st:=st) hJ [s] (by simp) (by simp) hB (mo hm) fun st hp=> ?_);(rw[hp] at hm hQ);(clear hp);(conv=>whnf)))
  intro hx
  (conv=>whnf)
 ·exact hQ _ rfl
 ·refine ifT_c (fun _=> ?_) fun hc=>absurd (of_decide_eq_false hc) (by rw[ndsS_len,List.length_cons];show ¬ ¬(0:Int)<_;omega)
  (conv=>whnf)
  (refine⟨rfl,?_⟩;(conv=>whnf);((refine put_st (st:=st) hJ [t_sp] (by simp) (by simp) hB (mo hm) fun st hp=> ?_);(rw[hp] at hm hQ);(clear hp);(conv=>whnf)))
  ((refine⟨rfl,0,_,rfl,rfl,?_⟩);(conv=>whnf))
  ((refine((h f (Nat.le_refl f)).at' (.mk k1 l1 x1 o1 ks1) 0) st stF _ _ hB (mo hm) fun st hp=> ?_);(rw[hp] at hm hQ);(clear hp);(conv=>whnf))
  exact hQ _ rfl
end Can
end Go.Proofs.YtdfgkcoenagaaaaGreat
end
section
namespace Go.Proofs.YtdfgkcoenagaaaaGreat
namespace Can
open Go Go.RowKit
set_option linter.unusedSimpArgs false
set_option linter.unusedVariables false
set_option maxRecDepth 4000
attribute [local irreducible] TC putL pe padS quoS cntN okS PSt.sb PSt.dp
variable {Z:TP} {X:Pan} {f:Nat} (hJ:Z.J=Jb) (h : ∀g,g≤f→PAl Z X g)
include hJ h
theorem pt_rowA(l:List Nd)(A:AV)(hA:A=rwA l∨A=sbA l):PrT Z X (f+1) (.rowL false l) 48 [A]:=by
 intro st stF Q R hB hm hQ
 (refine tc_rS d0_ok (by rfl) (by kernel_rfl) ?_);(conv in (rF _ _).body=>reduce);(conv in (rF _ _).res=>reduce)
 generalize hE:pe (f+1) (.rowL false l) st=stE at hm
 have hQ0:=hQ _ hE
 rcases hA with rfl | rfl
 all_goals
  (conv=>whnf)
  intro hx
  (conv=>whnf)
  refine loop_1 8 (fun m a s1=>∃(i:Nat) (st1:PSt),a=iS i∧m=l.length-i∧i≤l.length∧s1=⟨0,[oP st1]⟩∧pe (f+1-i) (.rowL (decide (0<i)) (l.drop i)) st1=stE) l.length [] rfl ⟨0,st,rfl,rfl,Nat.zero_le _,rfl,hE⟩ ?_
  rintro m a f1 s1 ⟨i,st,rfl,rfl,hi,rfl,h1⟩
  (conv=>whnf)
  refine ifT_c (fun hc=> ?_) fun hc=> ?_
  ·have hi:i<l.length:=by have:=of_decide_eq_true hc;rw[ndsS_len] at this;omega
   obtain⟨⟨k1,l1,x1,o1,ks1⟩,ht⟩ : ∃t,l[i]? = some t:=⟨_,List.getElem?_eq_getElem hi⟩
   have hwi:=wrap_inc hi (by rw[←ndsS_len];exact hx)
   rw[drop_get ht] at h1
   obtain⟨g,hg⟩ : ∃g,f+1-i=g+1:=by
    cases hg:f+1-i with
    | zero=>rw[hg] at h1;exact(pe_lost h1 hB hm).elim
    | succ g=>exact⟨g,rfl⟩
   have hg2:f+1-(i+1)=g:=by omega
   rw[hg] at h1
   simp only[pe] at h1
   have hQ:=h1
   rw[←h1] at hm
   (conv=>whnf)
   refine⟨rfl,i,_,rfl,ndsS_get ht,?_⟩
   (conv=>whnf)
   refine ifT_c (fun hc=> ?_) fun hc=> ?_
   ·have h0:0<i:=by have:(i:Int)>0:=of_decide_eq_true hc;omega
    rw[if_pos (decide_eq_true h0)] at hm hQ
    (conv=>whnf)
    (refine⟨rfl,?_⟩;(conv=>whnf);((refine put_st (st:=st) hJ [t_cs] (by simp) (by simp) hB (mo hm) fun st hp=> ?_);(rw[hp] at hm hQ);(clear hp);(conv=>whnf)))
    ((refine((h g (by omega)).at' (.mk k1 l1 x1 o1 ks1) 0) st stF _ _ hB (mo hm) fun st hp=> ?_);(rw[hp] at hm hQ);(clear hp);(conv=>whnf))
    refine⟨_,[],?_,rfl,i+1,st,hwi,rfl,hi,rfl,?_⟩
    ·omega
    ·rw[hg2];exact hQ
   ·have h0 : ¬ 0<i:=by have : ¬(i:Int)>0:=of_decide_eq_false hc;omega
    rw[if_neg (by simpa using h0)] at hm hQ
    (conv=>whnf)
    ((refine((h g (by omega)).at' (.mk k1 l1 x1 o1 ks1) 0) st stF _ _ hB (mo hm) fun st hp=> ?_);(rw[hp] at hm hQ);(clear hp);(conv=>whnf))
    refine⟨_,[],?_,rfl,i+1,st,hwi,rfl,hi,rfl,?_⟩
    ·omega
    ·rw[hg2];exact hQ
  ·have hi:i=l.length:=by have:=of_decide_eq_false hc;rw[ndsS_len] at this;omega
   subst hi
   rw[List.drop_length] at h1
   cases hg:f+1-l.length with
   | zero=>rw[hg] at h1;exact(pe_lost h1 hB hm).elim
   | succ g=>
     rw[hg] at h1
     simp only[pe] at h1
     subst h1
     (conv=>whnf)
     exact hQ0
end Can
end Go.Proofs.YtdfgkcoenagaaaaGreat
end
section
namespace Go.Proofs.YtdfgkcoenagaaaaGreat
namespace Can
open Go Go.RowKit
set_option linter.unusedSimpArgs false
set_option linter.unusedVariables false
set_option maxRecDepth 4000
attribute [local irreducible] TC putL pe padS quoS cntN okS PSt.sb PSt.dp
variable {Z:TP} {X:Pan} {f:Nat} (hJ:Z.J=Jb) (h : ∀g,g≤f→PAl Z X g)
include hJ h
theorem pt_clauses(l:List Nd):PrT Z X (f+1) (.clauses l) 101 [sbA l]:=by
 intro st stF Q R hB hm hQ
 (refine tc_rS d0_ok (by rfl) (by kernel_rfl) ?_);(conv in (rF _ _).body=>reduce);(conv in (rF _ _).res=>reduce)
 (conv=>whnf)
 intro hx
 (conv=>whnf)
 generalize hE:pe (f+1) (.clauses l) st=stE at hm hQ
 have hQ0:=hQ
 have hmE:stE.w≤stF.w:=mo hm
 refine loop_1 8 (fun m a s1=>∃(i:Nat) (st1:PSt),a=iS i∧m=l.length-i∧i≤l.length∧s1=⟨0,[oP st1]⟩∧pe ((f+1)-i) (.clauses (l.drop i)) st1=stE) l.length [] rfl ⟨0,st,rfl,rfl,Nat.zero_le _,rfl,hE⟩ ?_
 rintro m a f1 s1 ⟨i,st,rfl,rfl,hi,rfl,h1⟩
 (conv=>whnf)
 refine ifT_c (fun hc=> ?_) fun hc=> ?_
 ·have hi:i<l.length:=by
   have this:(i:Int)<((ndsS l).length:Nat):=of_decide_eq_true hc
   rw[ndsS_len] at this;omega
  obtain⟨⟨k1,l1,x1,o1,ks1⟩,ht⟩ : ∃t,l[i]? = some t:=⟨_,List.getElem?_eq_getElem hi⟩
  have hwi:=wrap_inc hi (by rw[←ndsS_len];exact hx)
  rw[drop_get ht] at h1
  obtain⟨g,hg⟩ : ∃g,(f+1)-i=g+1:=by
   cases hg:(f+1)-i with
   | zero=>rw[hg] at h1;exact(pe_lost h1 hB hmE).elim
   | succ g=>exact⟨g,rfl⟩
  have hg2:(f+1)-(i+1)=g:=by omega
  rw[hg] at h1
  have hQ:=h1
  rw[←h1] at hmE
  have hm:=hmE
  by_cases hk0:k1=59
  ·subst hk0
   rcases ks1 with _ | ⟨⟨k2,l2,x2,o2,ks2⟩,ks1⟩
   all_goals
    simp only[pe,Nd.kind,Nd.text,Nd.op,Nd.kids,Nat.reduceEqDiff,reduceCtorEq,or_self,or_true,true_or,or_false,false_or,and_true,true_and,and_false,false_and,↓reduceIte] at hm hQ
    (conv=>whnf)
    refine⟨rfl,i,_,rfl,ndsS_get ht,?_⟩
    (conv=>whnf)
    refine count_st (st:=st) (fun hn hl hg3 hk=> ?_) fun st2 hb hk=> ?_
    all_goals (rw[hk] at hm hQ;(conv=>whnf))
   case nil.refine_1=>simp at hl
   case cons.refine_1=>
    (refine⟨rfl,?_⟩;(conv=>whnf);((refine put_st (st:=st) hJ [t_if] (by simp) (by simp) hB (mo hm) fun st hp=> ?_);(rw[hp] at hm hQ);(clear hp);(conv=>whnf)))
    ((refine⟨rfl,0,_,rfl,rfl,?_⟩);(conv=>whnf))
    ((refine((h g (by omega)).at' (.mk k2 l2 x2 o2 ks2) 1) st stF _ _ hB (mo hm) fun st hp=> ?_);(rw[hp] at hm hQ);(clear hp);(conv=>whnf))
    refine⟨_,[],?_,rfl,i+1,st,hwi,rfl,hi,rfl,?_⟩
    ·omega
    ·rw[hg2];exact hQ
   all_goals
    refine count_st (st:=st2) (fun hn hl hg3 hk2=> ?_) fun st hb2 hk2=> ?_
    ·rw[hn] at hb;cases hb
    ·have e:st2=st:=by rw[←hk2 id,okc_bad hb]
     subst e
     (conv=>whnf)
     refine⟨_,[],?_,rfl,i+1,st2,hwi,rfl,hi,rfl,?_⟩
     ·omega
     ·rw[hg2];exact hQ
  ·skip
   rcases ks1 with _ | ⟨⟨k2,l2,x2,o2,ks2⟩,_ | ⟨⟨k3,l3,x3,o3,ks3⟩,ks1⟩⟩
   all_goals
    simp only[pe,Nd.kind,Nd.text,Nd.op,Nd.kids,Nat.reduceEqDiff,reduceCtorEq,or_self,or_true,true_or,or_false,false_or,and_true,true_and,and_false,false_and,↓reduceIte,hk0] at hm hQ
    (conv=>whnf)
    refine⟨rfl,i,_,rfl,ndsS_get ht,?_⟩
    (conv=>whnf)
    refine ifT_c (fun hc=>by exfalso;simp at hc;omega) fun hc=> ?_
    (conv=>whnf)
    refine count_st (st:=st) (fun hn hl hg3 hk=> ?_) fun st hb hk=> ?_
    all_goals (rw[hk] at hm hQ;(conv=>whnf))
   case nil.refine_1=>simp at hl
   case cons.nil.refine_1=>simp at hl
   case cons.cons.refine_1=>
    (refine⟨rfl,?_⟩;(conv=>whnf);((refine put_st (st:=st) hJ [t_for] (by simp) (by simp) hB (mo hm) fun st hp=> ?_);(rw[hp] at hm hQ);(clear hp);(conv=>whnf)))
    ((refine⟨rfl,0,_,rfl,rfl,?_⟩);(conv=>whnf))
    ((refine((h g (by omega)).at' (.mk k2 l2 x2 o2 ks2) 9) st stF _ _ hB (mo hm) fun st hp=> ?_);(rw[hp] at hm hQ);(clear hp);(conv=>whnf))
    (refine⟨rfl,?_⟩;(conv=>whnf);((refine put_st (st:=st) hJ [t_in] (by simp) (by simp) hB (mo hm) fun st hp=> ?_);(rw[hp] at hm hQ);(clear hp);(conv=>whnf)))
    ((refine⟨rfl,1,_,rfl,rfl,?_⟩);(conv=>whnf))
    ((refine((h g (by omega)).at' (.mk k3 l3 x3 o3 ks3) 1) st stF _ _ hB (mo hm) fun st hp=> ?_);(rw[hp] at hm hQ);(clear hp);(conv=>whnf))
    refine⟨_,[],?_,rfl,i+1,st,hwi,rfl,hi,rfl,?_⟩
    ·omega
    ·rw[hg2];exact hQ
   all_goals
    refine⟨_,[],?_,rfl,i+1,st,hwi,rfl,hi,rfl,?_⟩
    ·omega
    ·rw[hg2];exact hQ
 ·have hi:i=l.length:=by
   have this : ¬(i:Int)<((ndsS l).length:Nat):=of_decide_eq_false hc
   rw[ndsS_len] at this;omega
  subst hi
  rw[List.drop_length] at h1
  cases hg:(f+1)-l.length with
  | zero=>rw[hg] at h1;exact(pe_lost h1 hB hmE).elim
  | succ g=>
    rw[hg] at h1
    simp only[pe] at h1
    subst h1
    (conv=>whnf)
    exact hQ _ rfl
end Can
end Go.Proofs.YtdfgkcoenagaaaaGreat
end
section
namespace Go.Proofs.YtdfgkcoenagaaaaGreat
namespace Can
open Go Go.RowKit
set_option linter.unusedSimpArgs false
set_option linter.unusedVariables false
set_option maxRecDepth 4000
attribute [local irreducible] TC putL pe padS quoS cntN okS PSt.sb PSt.dp
variable {Z:TP} {X:Pan} {f:Nat} (hJ:Z.J=Jb) (h : ∀g,g≤f→PAl Z X g)
include hJ h
theorem pt_pairsA(l:List Nd)(A:AV)(hA:A=rwA l∨A=sbA l):PrT Z X (f+1) (.pairs false l) 100 [A]:=by
 intro st stF Q R hB hm hQ
 (refine tc_rS d0_ok (by rfl) (by kernel_rfl) ?_);(conv in (rF _ _).body=>reduce);(conv in (rF _ _).res=>reduce)
 generalize hE:pe (f+1) (.pairs false l) st=stE at hm hQ
 have hQ0:=hQ _ rfl
 rcases hA with rfl | rfl
 all_goals
  (conv=>whnf)
  refine loop_1 4 (fun m a s1=>∃(j:Nat) (st1:PSt),a=iS ((2*j:Nat):Int)∧m=l.length-j∧2*j≤l.length∧s1=⟨0,[oP st1]⟩∧pe (f+1-j) (.pairs (decide (0<j)) (l.drop (2*j))) st1=stE) l.length [] rfl ⟨0,st,rfl,rfl,Nat.zero_le _,rfl,hE⟩ ?_
  rintro m a f1 s1 ⟨j,st,rfl,rfl,hi,rfl,h1⟩
  (conv=>whnf)
  intro hx
  (conv=>whnf)
  have hx1:l.length≤9223372036854775807:=by have:=hx;rw[ndsS_len] at this;exact this
  have hdl:(l.drop (2*j)).length=l.length-2*j:=List.length_drop
  have hw:IntKind.i64.wrap (((2*j:Nat):Int)+Int.ofNat 1)=((2*j+1:Nat):Int):=by
   show IntKind.i64.wrap (((2*j:Nat):Int)+1)=_
   rw[w_i64 (by omega) (by omega)];rfl
  refine ifT_c (fun hc=> ?_) fun hc=> ?_
  ·have hi:2*j+1<l.length:=by
    have:=of_decide_eq_true hc
    rw[ndsS_len,hw] at this
    omega
   obtain⟨⟨k1,l1,x1,o1,ks1⟩,ht⟩ : ∃t,l[2*j]? = some t:=⟨_,List.getElem?_eq_getElem (by omega)⟩
   obtain⟨⟨k2,l2,x2,o2,ks2⟩,ht2⟩ : ∃t,l[2*j+1]? = some t:=⟨_,List.getElem?_eq_getElem (by omega)⟩
   rw[drop_get ht,drop_get ht2] at h1
   obtain⟨g,hg⟩ : ∃g,f+1-j=g+1:=by
    cases hg:f+1-j with
    | zero=>rw[hg] at h1;exact(pe_lost h1 hB hm).elim
    | succ g=>exact⟨g,rfl⟩
   have hg2:f+1-(j+1)=g:=by omega
   rw[hg] at h1
   simp only[pe] at h1
   have hQ:=h1
   rw[←h1] at hm
   have hend : ∀st:PSt,pe g (.pairs true (l.drop (2*j+1+1))) st=stE→pe (f+1-(j+1)) (.pairs (decide (0<j+1)) (l.drop (2*(j+1)))) st=stE:=fun st e=>by rw[hg2];exact e
   have hwn:l.length-(j+1)<l.length-j:=by omega
   (conv=>whnf)
   refine ifT_c (fun hc=> ?_) fun hc=> ?_
   ·have h0:0<j:=by have:((2*j:Nat):Int)>0:=of_decide_eq_true hc;omega
    rw[if_pos (decide_eq_true h0)] at hm hQ
    (conv=>whnf)
    (refine⟨rfl,?_⟩;(conv=>whnf);((refine put_st (st:=st) hJ [t_cs] (by simp) (by simp) hB (mo hm) fun st hp=> ?_);(rw[hp] at hm hQ);(clear hp);(conv=>whnf)))
    refine⟨rfl,2*j,_,rfl,ndsS_get ht,?_⟩
    (conv=>whnf)
    ((refine((h g (by omega)).at' (.mk k1 l1 x1 o1 ks1) 0) st stF _ _ hB (mo hm) fun st hp=> ?_);(rw[hp] at hm hQ);(clear hp);(conv=>whnf))
    (refine⟨rfl,?_⟩;(conv=>whnf);((refine put_st (st:=st) hJ [t_cl] (by simp) (by simp) hB (mo hm) fun st hp=> ?_);(rw[hp] at hm hQ);(clear hp);(conv=>whnf)))
    refine⟨rfl,2*j+1,_,hw,ndsS_get ht2,?_⟩
    (conv=>whnf)
    ((refine((h g (by omega)).at' (.mk k2 l2 x2 o2 ks2) 0) st stF _ _ hB (mo hm) fun st hp=> ?_);(rw[hp] at hm hQ);(clear hp);(conv=>whnf))
    refine⟨_,[],hwn,rfl,j+1,st,?_,rfl,by omega,rfl,hend _ hQ⟩
    show rS (.int .i64 (IntKind.i64.wrap (((2*j:Nat):Int)+2)))=_
    rw[w_i64 (by omega) (by omega)];rfl
   ·have h0 : ¬ 0<j:=by have : ¬((2*j:Nat):Int)>0:=of_decide_eq_false hc;omega
    rw[if_neg (by simpa using h0)] at hm hQ
    (conv=>whnf)
    refine⟨rfl,2*j,_,rfl,ndsS_get ht,?_⟩
    (conv=>whnf)
    ((refine((h g (by omega)).at' (.mk k1 l1 x1 o1 ks1) 0) st stF _ _ hB (mo hm) fun st hp=> ?_);(rw[hp] at hm hQ);(clear hp);(conv=>whnf))
    (refine⟨rfl,?_⟩;(conv=>whnf);((refine put_st (st:=st) hJ [t_cl] (by simp) (by simp) hB (mo hm) fun st hp=> ?_);(rw[hp] at hm hQ);(clear hp);(conv=>whnf)))
    refine⟨rfl,2*j+1,_,hw,ndsS_get ht2,?_⟩
    (conv=>whnf)
    ((refine((h g (by omega)).at' (.mk k2 l2 x2 o2 ks2) 0) st stF _ _ hB (mo hm) fun st hp=> ?_);(rw[hp] at hm hQ);(clear hp);(conv=>whnf))
    refine⟨_,[],hwn,rfl,j+1,st,?_,rfl,by omega,rfl,hend _ hQ⟩
    show rS (.int .i64 (IntKind.i64.wrap (((2*j:Nat):Int)+2)))=_
    rw[w_i64 (by omega) (by omega)];rfl
  ·have hi2:l.length≤2*j+1:=by
    have:=of_decide_eq_false hc
    rw[ndsS_len,hw] at this
    omega
   obtain⟨g,hg⟩ : ∃g,f+1-j=g+1:=by
    cases hg:f+1-j with
    | zero=>rw[hg] at h1;exact(pe_lost h1 hB hm).elim
    | succ g=>exact⟨g,rfl⟩
   rw[hg] at h1
   have hodd : ∀b:Bool,(decide (2*j+1=l.length)=b)→stE=if b=true then st.sb else st:=fun b hb=>by
    subst hb
    rw[←h1]
    by_cases e:2*j+1=l.length
    ·rw[if_pos (decide_eq_true e),drop_get (List.getElem?_eq_getElem (by omega)),List.drop_eq_nil_of_le (by omega)]
     simp only[pe]
    ·rw[if_neg (by simpa using e),List.drop_eq_nil_of_le (by omega)]
     simp only[pe]
   (conv=>whnf)
   refine ifT_c (fun hb=> ?_) fun hb=> ?_
   ·(conv=>whnf)
    have hs:prS stE= [.lk [], .lk st.out, .sc (.int .i64 st.deep), .sc (.int .i64 (20000-(st.w:Int))), .sc (.bool true)]:=by
     rw[hodd _ rfl]
     split
     ·exact prS_sb st
     ·simp only[prS,hb]
    rw[hs] at hQ0
    exact hQ0
   ·(conv=>whnf)
    intro hx
    (conv=>whnf)
    refine ifT_c (fun hc=> ?_) fun hc=> ?_
    ·(conv=>whnf)
     rw[odd_eq,ndsS_len] at hc
     have hc:=of_decide_eq_true hc
     rw[hodd true (decide_eq_true (by omega)),if_pos rfl,prS_sb] at hQ0
     exact hQ0
    ·(conv=>whnf)
     rw[odd_eq,ndsS_len] at hc
     have hc:=of_decide_eq_false hc
     have hs:prS stE= [.lk [], .lk st.out, .sc (.int .i64 st.deep), .sc (.int .i64 (20000-(st.w:Int))), .sc (.bool false)]:=by
      rw[hodd false (decide_eq_false (by omega)),if_neg (by decide)]
      simp only[prS,hb]
     rw[hs] at hQ0
     exact hQ0
end Can
end Go.Proofs.YtdfgkcoenagaaaaGreat
end
section
namespace Go.Proofs.YtdfgkcoenagaaaaGreat
namespace Can
open Go Go.RowKit
set_option linter.unusedSimpArgs false
set_option linter.unusedVariables false
set_option maxRecDepth 4000
attribute [local irreducible] TC putL pe padS quoS cntN okS PSt.sb PSt.dp
variable {Z:TP} {X:Pan} {f:Nat} (hJ:Z.J=Jb) (h : ∀g,g≤f→PAl Z X g)
include hJ h
theorem pt_expr(n:Nd):PrT Z X (f+1) (.expr n) 73 [ndA n]:=by
 intro st stF Q R hB hm hQ
 (refine tc_rS d0_ok (by rfl) (by kernel_rfl) ?_);(conv in (rF _ _).body=>reduce);(conv in (rF _ _).res=>reduce)
 obtain⟨k,ln,x,o,ks⟩:=n
 by_cases hk:k=30∨k=31∨k=36
 ·rcases hk with rfl | rfl | rfl
  all_goals
   simp only[pe,Nd.kind,Nd.text,Nd.op,Nd.kids,Nat.reduceEqDiff,reduceCtorEq,or_self,or_true,true_or,or_false,false_or,and_true,true_and,and_false,false_and,↓reduceIte] at hm hQ
   (conv=>whnf)
   (refine⟨rfl,?_⟩;(conv=>whnf);((refine put_st (st:=st) hJ [x] (by simp) (by simp) hB (mo hm) fun st hp=> ?_);(rw[hp] at hm hQ);(clear hp);(conv=>whnf)))
   exact hQ _ rfl
 by_cases hk:k=32
 ·rcases hk with rfl
  all_goals
   simp only[pe,Nd.kind,Nd.text,Nd.op,Nd.kids,Nat.reduceEqDiff,reduceCtorEq,or_self,or_true,true_or,or_false,false_or,and_true,true_and,and_false,false_and,↓reduceIte] at hm hQ
   (conv=>whnf)
   ((refine quoted_st (st:=st) hJ x hB (mo hm) fun st hp=> ?_);(rw[hp] at hm hQ);(clear hp);(conv=>whnf))
   exact hQ _ rfl
 by_cases hk:k=33
 ·rcases hk with rfl
  all_goals
   simp only[pe,Nd.kind,Nd.text,Nd.op,Nd.kids,Nat.reduceEqDiff,reduceCtorEq,or_self,or_true,true_or,or_false,false_or,and_true,true_and,and_false,false_and,↓reduceIte] at hm hQ
   (conv=>whnf)
   (refine⟨rfl,?_⟩;(conv=>whnf);((refine put_st (st:=st) hJ [[78,111,110,101]] (by simp) (by simp) hB (mo hm) fun st hp=> ?_);(rw[hp] at hm hQ);(clear hp);(conv=>whnf)))
   exact hQ _ rfl
 by_cases hk:k=34
 ·rcases hk with rfl
  all_goals
   simp only[pe,Nd.kind,Nd.text,Nd.op,Nd.kids,Nat.reduceEqDiff,reduceCtorEq,or_self,or_true,true_or,or_false,false_or,and_true,true_and,and_false,false_and,↓reduceIte] at hm hQ
   (conv=>whnf)
   (refine⟨rfl,?_⟩;(conv=>whnf);((refine put_st (st:=st) hJ [[84,114,117,101]] (by simp) (by simp) hB (mo hm) fun st hp=> ?_);(rw[hp] at hm hQ);(clear hp);(conv=>whnf)))
   exact hQ _ rfl
 by_cases hk:k=35
 ·rcases hk with rfl
  all_goals
   simp only[pe,Nd.kind,Nd.text,Nd.op,Nd.kids,Nat.reduceEqDiff,reduceCtorEq,or_self,or_true,true_or,or_false,false_or,and_true,true_and,and_false,false_and,↓reduceIte] at hm hQ
   (conv=>whnf)
   (refine⟨rfl,?_⟩;(conv=>whnf);((refine put_st (st:=st) hJ [[70,97,108,115,101]] (by simp) (by simp) hB (mo hm) fun st hp=> ?_);(rw[hp] at hm hQ);(clear hp);(conv=>whnf)))
   exact hQ _ rfl
 by_cases hk:k=48
 ·rcases hk with rfl
  all_goals
   simp only[pe,Nd.kind,Nd.text,Nd.op,Nd.kids,Nat.reduceEqDiff,reduceCtorEq,or_self,or_true,true_or,or_false,false_or,and_true,true_and,and_false,false_and,↓reduceIte] at hm hQ
   (conv=>whnf)
   exact hQ _ rfl
 by_cases hk:k=60
 ·rcases hk with rfl
  all_goals
   simp only[pe,Nd.kind,Nd.text,Nd.op,Nd.kids,Nat.reduceEqDiff,reduceCtorEq,or_self,or_true,true_or,or_false,false_or,and_true,true_and,and_false,false_and,↓reduceIte] at hm hQ
   (conv=>whnf)
   ((refine((h f (Nat.le_refl f)).maybe [121,105,101,108,100] (.mk 60 ln x o ks)) st stF _ _ hB (mo hm) fun st hp=> ?_);(rw[hp] at hm hQ);(clear hp);(conv=>whnf))
   exact hQ _ rfl
 by_cases hk:k=44
 ·rcases hk with rfl
  all_goals
   simp only[pe,Nd.kind,Nd.text,Nd.op,Nd.kids,Nat.reduceEqDiff,reduceCtorEq,or_self,or_true,true_or,or_false,false_or,and_true,true_and,and_false,false_and,↓reduceIte] at hm hQ
   (conv=>whnf)
   ((refine((h f (Nat.le_refl f)).based (.mk 44 ln x o ks) (Nat.le_of_ble_eq_true rfl) (Nat.le_of_ble_eq_true rfl)) st stF _ _ hB (mo hm) fun st hp=> ?_);(rw[hp] at hm hQ);(clear hp);(conv=>whnf))
   exact hQ _ rfl
 by_cases hk:k=45
 ·rcases hk with rfl
  all_goals
   simp only[pe,Nd.kind,Nd.text,Nd.op,Nd.kids,Nat.reduceEqDiff,reduceCtorEq,or_self,or_true,true_or,or_false,false_or,and_true,true_and,and_false,false_and,↓reduceIte] at hm hQ
   (conv=>whnf)
   ((refine((h f (Nat.le_refl f)).based (.mk 45 ln x o ks) (Nat.le_of_ble_eq_true rfl) (Nat.le_of_ble_eq_true rfl)) st stF _ _ hB (mo hm) fun st hp=> ?_);(rw[hp] at hm hQ);(clear hp);(conv=>whnf))
   exact hQ _ rfl
 by_cases hk:k=46
 ·rcases hk with rfl
  all_goals
   simp only[pe,Nd.kind,Nd.text,Nd.op,Nd.kids,Nat.reduceEqDiff,reduceCtorEq,or_self,or_true,true_or,or_false,false_or,and_true,true_and,and_false,false_and,↓reduceIte] at hm hQ
   (conv=>whnf)
   ((refine((h f (Nat.le_refl f)).based (.mk 46 ln x o ks) (Nat.le_of_ble_eq_true rfl) (Nat.le_of_ble_eq_true rfl)) st stF _ _ hB (mo hm) fun st hp=> ?_);(rw[hp] at hm hQ);(clear hp);(conv=>whnf))
   exact hQ _ rfl
 by_cases hk:k=47
 ·rcases hk with rfl
  all_goals
   simp only[pe,Nd.kind,Nd.text,Nd.op,Nd.kids,Nat.reduceEqDiff,reduceCtorEq,or_self,or_true,true_or,or_false,false_or,and_true,true_and,and_false,false_and,↓reduceIte] at hm hQ
   (conv=>whnf)
   ((refine((h f (Nat.le_refl f)).based (.mk 47 ln x o ks) (Nat.le_of_ble_eq_true rfl) (Nat.le_of_ble_eq_true rfl)) st stF _ _ hB (mo hm) fun st hp=> ?_);(rw[hp] at hm hQ);(clear hp);(conv=>whnf))
   exact hQ _ rfl
 by_cases hk:k=51
 ·rcases hk with rfl
  all_goals
   simp only[pe,Nd.kind,Nd.text,Nd.op,Nd.kids,Nat.reduceEqDiff,reduceCtorEq,or_self,or_true,true_or,or_false,false_or,and_true,true_and,and_false,false_and,↓reduceIte] at hm hQ
   (conv=>whnf)
   ((refine((h f (Nat.le_refl f)).shown (.mk 51 ln x o ks) (Nat.le_of_ble_eq_true rfl) (Nat.le_of_ble_eq_true rfl)) st stF _ _ hB (mo hm) fun st hp=> ?_);(rw[hp] at hm hQ);(clear hp);(conv=>whnf))
   exact hQ _ rfl
 by_cases hk:k=52
 ·rcases hk with rfl
  all_goals
   simp only[pe,Nd.kind,Nd.text,Nd.op,Nd.kids,Nat.reduceEqDiff,reduceCtorEq,or_self,or_true,true_or,or_false,false_or,and_true,true_and,and_false,false_and,↓reduceIte] at hm hQ
   (conv=>whnf)
   ((refine((h f (Nat.le_refl f)).shown (.mk 52 ln x o ks) (Nat.le_of_ble_eq_true rfl) (Nat.le_of_ble_eq_true rfl)) st stF _ _ hB (mo hm) fun st hp=> ?_);(rw[hp] at hm hQ);(clear hp);(conv=>whnf))
   exact hQ _ rfl
 by_cases hk:k=53
 ·rcases hk with rfl
  all_goals
   simp only[pe,Nd.kind,Nd.text,Nd.op,Nd.kids,Nat.reduceEqDiff,reduceCtorEq,or_self,or_true,true_or,or_false,false_or,and_true,true_and,and_false,false_and,↓reduceIte] at hm hQ
   (conv=>whnf)
   ((refine((h f (Nat.le_refl f)).shown (.mk 53 ln x o ks) (Nat.le_of_ble_eq_true rfl) (Nat.le_of_ble_eq_true rfl)) st stF _ _ hB (mo hm) fun st hp=> ?_);(rw[hp] at hm hQ);(clear hp);(conv=>whnf))
   exact hQ _ rfl
 by_cases hk:k=54
 ·rcases hk with rfl
  all_goals
   simp only[pe,Nd.kind,Nd.text,Nd.op,Nd.kids,Nat.reduceEqDiff,reduceCtorEq,or_self,or_true,true_or,or_false,false_or,and_true,true_and,and_false,false_and,↓reduceIte] at hm hQ
   (conv=>whnf)
   ((refine((h f (Nat.le_refl f)).shown (.mk 54 ln x o ks) (Nat.le_of_ble_eq_true rfl) (Nat.le_of_ble_eq_true rfl)) st stF _ _ hB (mo hm) fun st hp=> ?_);(rw[hp] at hm hQ);(clear hp);(conv=>whnf))
   exact hQ _ rfl
 by_cases hk:k=55
 ·rcases hk with rfl
  all_goals
   simp only[pe,Nd.kind,Nd.text,Nd.op,Nd.kids,Nat.reduceEqDiff,reduceCtorEq,or_self,or_true,true_or,or_false,false_or,and_true,true_and,and_false,false_and,↓reduceIte] at hm hQ
   (conv=>whnf)
   ((refine((h f (Nat.le_refl f)).shown (.mk 55 ln x o ks) (Nat.le_of_ble_eq_true rfl) (Nat.le_of_ble_eq_true rfl)) st stF _ _ hB (mo hm) fun st hp=> ?_);(rw[hp] at hm hQ);(clear hp);(conv=>whnf))
   exact hQ _ rfl
 by_cases hk:k=56
 ·rcases hk with rfl
  all_goals
   simp only[pe,Nd.kind,Nd.text,Nd.op,Nd.kids,Nat.reduceEqDiff,reduceCtorEq,or_self,or_true,true_or,or_false,false_or,and_true,true_and,and_false,false_and,↓reduceIte] at hm hQ
   (conv=>whnf)
   ((refine((h f (Nat.le_refl f)).shown (.mk 56 ln x o ks) (Nat.le_of_ble_eq_true rfl) (Nat.le_of_ble_eq_true rfl)) st stF _ _ hB (mo hm) fun st hp=> ?_);(rw[hp] at hm hQ);(clear hp);(conv=>whnf))
   exact hQ _ rfl
 by_cases hk:k=57
 ·rcases hk with rfl
  all_goals
   simp only[pe,Nd.kind,Nd.text,Nd.op,Nd.kids,Nat.reduceEqDiff,reduceCtorEq,or_self,or_true,true_or,or_false,false_or,and_true,true_and,and_false,false_and,↓reduceIte] at hm hQ
   (conv=>whnf)
   ((refine((h f (Nat.le_refl f)).shown (.mk 57 ln x o ks) (Nat.le_of_ble_eq_true rfl) (Nat.le_of_ble_eq_true rfl)) st stF _ _ hB (mo hm) fun st hp=> ?_);(rw[hp] at hm hQ);(clear hp);(conv=>whnf))
   exact hQ _ rfl
 have n30 : ¬k=30:=by omega
 have n31 : ¬k=31:=by omega
 have n36 : ¬k=36:=by omega
 have n32 : ¬k=32:=by omega
 have n33 : ¬k=33:=by omega
 have n34 : ¬k=34:=by omega
 have n35 : ¬k=35:=by omega
 have n48 : ¬k=48:=by omega
 have n60 : ¬k=60:=by omega
 have n44 : ¬k=44:=by omega
 have n45 : ¬k=45:=by omega
 have n46 : ¬k=46:=by omega
 have n47 : ¬k=47:=by omega
 have n51 : ¬k=51:=by omega
 have n52 : ¬k=52:=by omega
 have n53 : ¬k=53:=by omega
 have n54 : ¬k=54:=by omega
 have n55 : ¬k=55:=by omega
 have n56 : ¬k=56:=by omega
 have n57 : ¬k=57:=by omega
 simp only[pe,Nd.kind,Nd.text,Nd.op,Nd.kids,Nat.reduceEqDiff,reduceCtorEq,or_self,or_true,true_or,or_false,false_or,and_true,true_and,and_false,false_and,↓reduceIte,n30,n31,n36,n32,n33,n34,n35,n48,n60,n44,n45,n46,n47,n51,n52,n53,n54,n55,n56,n57] at hm hQ
 (conv=>whnf)
 repeat' (refine ifT_c (fun hc=>by exfalso;simp at hc;omega) fun hc=> ?_;(conv=>whnf))
 ((refine((h f (Nat.le_refl f)).joined (.mk k ln x o ks)) st stF _ _ hB (mo hm) fun st hp=> ?_);(rw[hp] at hm hQ);(clear hp);(conv=>whnf))
 exact hQ _ rfl
end Can
end Go.Proofs.YtdfgkcoenagaaaaGreat
end
section
namespace Go.Proofs.YtdfgkcoenagaaaaGreat
namespace Can
open Go Go.RowKit
set_option linter.unusedSimpArgs false
set_option linter.unusedVariables false
set_option maxRecDepth 4000
attribute [local irreducible] TC putL pe padS quoS cntN okS PSt.sb PSt.dp
variable {Z:TP} {X:Pan} {f:Nat} (hJ:Z.J=Jb) (h : ∀g,g≤f→PAl Z X g)
include hJ h
theorem pt_shown(n:Nd)(g1:51≤n.kind)(g2:n.kind≤57):PrT Z X (f+1) (.shown n) 89 [ndA n]:=by
 intro st stF Q R hB hm hQ
 (refine tc_rS d0_ok (by rfl) (by kernel_rfl) ?_);(conv in (rF _ _).body=>reduce);(conv in (rF _ _).res=>reduce)
 obtain⟨k,ln,x,o,ks⟩:=n
 obtain rfl | rfl | rfl | rfl | rfl | rfl | rfl:k=51∨k=52∨k=53∨k=54∨k=55∨k=56∨k=57:=by simp only[Nd.kind] at g1 g2;omega
 ·simp only[pe,Nd.kind,Nd.text,Nd.op,Nd.kids,Nat.reduceEqDiff,reduceCtorEq,or_self,or_true,true_or,or_false,false_or,and_true,true_and,and_false,false_and,↓reduceIte] at hm hQ
  (conv=>whnf)
  (refine⟨rfl,?_⟩;(conv=>whnf);((refine put_st (st:=st) hJ [[91]] (by simp) (by simp) hB (mo hm) fun st hp=> ?_);(rw[hp] at hm hQ);(clear hp);(conv=>whnf)))
  ((refine((h f (Nat.le_refl f)).row ks) st stF _ _ hB (mo hm) fun st hp=> ?_);(rw[hp] at hm hQ);(clear hp);(conv=>whnf))
  (refine⟨rfl,?_⟩;(conv=>whnf);((refine put_st (st:=st) hJ [[93]] (by simp) (by simp) hB (mo hm) fun st hp=> ?_);(rw[hp] at hm hQ);(clear hp);(conv=>whnf)))
  exact hQ _ rfl
 ·by_cases hl:ks.length=1
  ·simp only[pe,Nd.kind,Nd.text,Nd.op,Nd.kids,Nat.reduceEqDiff,reduceCtorEq,or_self,or_true,true_or,or_false,false_or,and_true,true_and,and_false,false_and,↓reduceIte,hl] at hm hQ
   (conv=>whnf)
   intro hx
   (conv=>whnf)
   refine ifT_c (fun hc=> ?_) fun hc=>by exfalso;simp[ndsS_len] at hc;omega
   (conv=>whnf)
   (refine⟨rfl,?_⟩;(conv=>whnf);((refine put_st (st:=st) hJ [[40]] (by simp) (by simp) hB (mo hm) fun st hp=> ?_);(rw[hp] at hm hQ);(clear hp);(conv=>whnf)))
   ((refine((h f (Nat.le_refl f)).row ks) st stF _ _ hB (mo hm) fun st hp=> ?_);(rw[hp] at hm hQ);(clear hp);(conv=>whnf))
   (refine⟨rfl,?_⟩;(conv=>whnf);((refine put_st (st:=st) hJ [[44,41]] (by simp) (by simp) hB (mo hm) fun st hp=> ?_);(rw[hp] at hm hQ);(clear hp);(conv=>whnf)))
   exact hQ _ rfl
  ·simp only[pe,Nd.kind,Nd.text,Nd.op,Nd.kids,Nat.reduceEqDiff,reduceCtorEq,or_self,or_true,true_or,or_false,false_or,and_true,true_and,and_false,false_and,↓reduceIte,hl] at hm hQ
   (conv=>whnf)
   intro hx
   (conv=>whnf)
   refine ifT_c (fun hc=>by exfalso;simp[ndsS_len] at hc;omega) fun hc=> ?_
   (conv=>whnf)
   (refine⟨rfl,?_⟩;(conv=>whnf);((refine put_st (st:=st) hJ [[40]] (by simp) (by simp) hB (mo hm) fun st hp=> ?_);(rw[hp] at hm hQ);(clear hp);(conv=>whnf)))
   ((refine((h f (Nat.le_refl f)).row ks) st stF _ _ hB (mo hm) fun st hp=> ?_);(rw[hp] at hm hQ);(clear hp);(conv=>whnf))
   (refine⟨rfl,?_⟩;(conv=>whnf);((refine put_st (st:=st) hJ [[41]] (by simp) (by simp) hB (mo hm) fun st hp=> ?_);(rw[hp] at hm hQ);(clear hp);(conv=>whnf)))
   exact hQ _ rfl
 ·simp only[pe,Nd.kind,Nd.text,Nd.op,Nd.kids,Nat.reduceEqDiff,reduceCtorEq,or_self,or_true,true_or,or_false,false_or,and_true,true_and,and_false,false_and,↓reduceIte] at hm hQ
  (conv=>whnf)
  (refine⟨rfl,?_⟩;(conv=>whnf);((refine put_st (st:=st) hJ [[123]] (by simp) (by simp) hB (mo hm) fun st hp=> ?_);(rw[hp] at hm hQ);(clear hp);(conv=>whnf)))
  ((refine((h f (Nat.le_refl f)).row ks) st stF _ _ hB (mo hm) fun st hp=> ?_);(rw[hp] at hm hQ);(clear hp);(conv=>whnf))
  (refine⟨rfl,?_⟩;(conv=>whnf);((refine put_st (st:=st) hJ [[125]] (by simp) (by simp) hB (mo hm) fun st hp=> ?_);(rw[hp] at hm hQ);(clear hp);(conv=>whnf)))
  exact hQ _ rfl
 ·simp only[pe,Nd.kind,Nd.text,Nd.op,Nd.kids,Nat.reduceEqDiff,reduceCtorEq,or_self,or_true,true_or,or_false,false_or,and_true,true_and,and_false,false_and,↓reduceIte] at hm hQ
  (conv=>whnf)
  (refine⟨rfl,?_⟩;(conv=>whnf);((refine put_st (st:=st) hJ [[123]] (by simp) (by simp) hB (mo hm) fun st hp=> ?_);(rw[hp] at hm hQ);(clear hp);(conv=>whnf)))
  ((refine((h f (Nat.le_refl f)).pairs ks) st stF _ _ hB (mo hm) fun st hp=> ?_);(rw[hp] at hm hQ);(clear hp);(conv=>whnf))
  (refine⟨rfl,?_⟩;(conv=>whnf);((refine put_st (st:=st) hJ [[125]] (by simp) (by simp) hB (mo hm) fun st hp=> ?_);(rw[hp] at hm hQ);(clear hp);(conv=>whnf)))
  exact hQ _ rfl
 ·(conv=>whnf)
  rcases ks with _ | ⟨⟨k1,l1,x1,o1,ks1⟩,ks⟩
  all_goals
   simp only[pe,Nd.kind,Nd.text,Nd.op,Nd.kids,Nat.reduceEqDiff,reduceCtorEq,or_self,or_true,true_or,or_false,false_or,and_true,true_and,and_false,false_and,↓reduceIte] at hm hQ
   (refine⟨rfl,?_⟩;(conv=>whnf);((refine put_st (st:=st) hJ [[91]] (by simp) (by simp) hB (mo hm) fun st hp=> ?_);(rw[hp] at hm hQ);(clear hp);(conv=>whnf)))
   refine count_st (st:=st) (fun hn hl hg3 hk=> ?_) fun st hb hk=> ?_
   all_goals (rw[hk] at hm hQ;(conv=>whnf))
  case nil.refine_1=>simp only[List.length_cons,List.length_nil] at hl;omega
  case cons.refine_1=>
   ((refine⟨rfl,0,_,rfl,rfl,?_⟩);(conv=>whnf))
   ((refine((h f (Nat.le_refl f)).at' (.mk k1 l1 x1 o1 ks1) 0) st stF _ _ hB (mo hm) fun st hp=> ?_);(rw[hp] at hm hQ);(clear hp);(conv=>whnf))
   ((refine((h f (Nat.le_refl f)).clauses ks) st stF _ _ hB (mo hm) fun st hp=> ?_);(rw[hp] at hm hQ);(clear hp);(conv=>whnf))
   (refine⟨rfl,?_⟩;(conv=>whnf);((refine put_st (st:=st) hJ [[93]] (by simp) (by simp) hB (mo hm) fun st hp=> ?_);(rw[hp] at hm hQ);(clear hp);(conv=>whnf)))
   exact hQ _ rfl
  all_goals
   (refine⟨rfl,?_⟩;(conv=>whnf);((refine put_st (st:=st) hJ [[93]] (by simp) (by simp) hB (mo hm) fun st hp=> ?_);(rw[hp] at hm hQ);(clear hp);(conv=>whnf)))
   exact hQ _ rfl
 ·(conv=>whnf)
  rcases ks with _ | ⟨⟨k1,l1,x1,o1,ks1⟩,ks⟩
  all_goals
   simp only[pe,Nd.kind,Nd.text,Nd.op,Nd.kids,Nat.reduceEqDiff,reduceCtorEq,or_self,or_true,true_or,or_false,false_or,and_true,true_and,and_false,false_and,↓reduceIte] at hm hQ
   (refine⟨rfl,?_⟩;(conv=>whnf);((refine put_st (st:=st) hJ [[123]] (by simp) (by simp) hB (mo hm) fun st hp=> ?_);(rw[hp] at hm hQ);(clear hp);(conv=>whnf)))
   refine count_st (st:=st) (fun hn hl hg3 hk=> ?_) fun st hb hk=> ?_
   all_goals (rw[hk] at hm hQ;(conv=>whnf))
  case nil.refine_1=>simp only[List.length_cons,List.length_nil] at hl;omega
  case cons.refine_1=>
   ((refine⟨rfl,0,_,rfl,rfl,?_⟩);(conv=>whnf))
   ((refine((h f (Nat.le_refl f)).at' (.mk k1 l1 x1 o1 ks1) 0) st stF _ _ hB (mo hm) fun st hp=> ?_);(rw[hp] at hm hQ);(clear hp);(conv=>whnf))
   ((refine((h f (Nat.le_refl f)).clauses ks) st stF _ _ hB (mo hm) fun st hp=> ?_);(rw[hp] at hm hQ);(clear hp);(conv=>whnf))
   (refine⟨rfl,?_⟩;(conv=>whnf);((refine put_st (st:=st) hJ [[125]] (by simp) (by simp) hB (mo hm) fun st hp=> ?_);(rw[hp] at hm hQ);(clear hp);(conv=>whnf)))
   exact hQ _ rfl
  all_goals
   (refine⟨rfl,?_⟩;(conv=>whnf);((refine put_st (st:=st) hJ [[125]] (by simp) (by simp) hB (mo hm) fun st hp=> ?_);(rw[hp] at hm hQ);(clear hp);(conv=>whnf)))
   exact hQ _ rfl
 ·(conv=>whnf)
  rcases ks with _ | ⟨⟨k1,l1,x1,o1,ks1⟩,_ | ⟨⟨k2,l2,x2,o2,ks2⟩,ks⟩⟩
  all_goals
   simp only[pe,Nd.kind,Nd.text,Nd.op,Nd.kids,Nat.reduceEqDiff,reduceCtorEq,or_self,or_true,true_or,or_false,false_or,and_true,true_and,and_false,false_and,↓reduceIte] at hm hQ
   (refine⟨rfl,?_⟩;(conv=>whnf);((refine put_st (st:=st) hJ [[123]] (by simp) (by simp) hB (mo hm) fun st hp=> ?_);(rw[hp] at hm hQ);(clear hp);(conv=>whnf)))
   refine count_st (st:=st) (fun hn hl hg3 hk=> ?_) fun st hb hk=> ?_
   all_goals (rw[hk] at hm hQ;(conv=>whnf))
  case nil.refine_1=>simp only[List.length_cons,List.length_nil] at hl;omega
  case cons.nil.refine_1=>simp only[List.length_cons,List.length_nil] at hl;omega
  case cons.cons.refine_1=>
   ((refine((h f (Nat.le_refl f)).pairsS [(.mk k1 l1 x1 o1 ks1),(.mk k2 l2 x2 o2 ks2)]) st stF _ _ hB (mo hm) fun st hp=> ?_);(rw[hp] at hm hQ);(clear hp);(conv=>whnf))
   ((refine((h f (Nat.le_refl f)).clauses ks) st stF _ _ hB (mo hm) fun st hp=> ?_);(rw[hp] at hm hQ);(clear hp);(conv=>whnf))
   (refine⟨rfl,?_⟩;(conv=>whnf);((refine put_st (st:=st) hJ [[125]] (by simp) (by simp) hB (mo hm) fun st hp=> ?_);(rw[hp] at hm hQ);(clear hp);(conv=>whnf)))
   exact hQ _ rfl
  all_goals
   (refine⟨rfl,?_⟩;(conv=>whnf);((refine put_st (st:=st) hJ [[125]] (by simp) (by simp) hB (mo hm) fun st hp=> ?_);(rw[hp] at hm hQ);(clear hp);(conv=>whnf)))
   exact hQ _ rfl
theorem pt_based(n:Nd)(g1:44≤n.kind)(g2:n.kind≤47):PrT Z X (f+1) (.based n) 88 [ndA n]:=by
 intro st stF Q R hB hm hQ
 (refine tc_rS d0_ok (by rfl) (by kernel_rfl) ?_);(conv in (rF _ _).body=>reduce);(conv in (rF _ _).res=>reduce)
 obtain⟨k,ln,x,o,ks⟩:=n
 obtain rfl | rfl | rfl | rfl:k=44∨k=45∨k=46∨k=47:=by simp only[Nd.kind] at g1 g2;omega
 ·(conv=>whnf)
  rcases ks with _ | ⟨⟨k1,l1,x1,o1,ks1⟩,ks⟩
  all_goals
   simp only[pe,Nd.kind,Nd.text,Nd.op,Nd.kids,Nat.reduceEqDiff,reduceCtorEq,or_self,or_true,true_or,or_false,false_or,and_true,true_and,and_false,false_and,↓reduceIte] at hm hQ
   refine count_st (st:=st) (fun hn hl hg3 hk=> ?_) fun st hb hk=> ?_
   all_goals (rw[hk] at hm hQ;(conv=>whnf))
  case nil.refine_1=>simp only[List.length_cons,List.length_nil] at hl;omega
  case cons.refine_1=>
   ((refine⟨rfl,0,_,rfl,rfl,?_⟩);(conv=>whnf))
   ((refine((h f (Nat.le_refl f)).at' (.mk k1 l1 x1 o1 ks1) 9) st stF _ _ hB (mo hm) fun st hp=> ?_);(rw[hp] at hm hQ);(clear hp);(conv=>whnf))
   (refine⟨rfl,?_⟩;(conv=>whnf);((refine put_st (st:=st) hJ [t_lp] (by simp) (by simp) hB (mo hm) fun st hp=> ?_);(rw[hp] at hm hQ);(clear hp);(conv=>whnf)))
   ((refine((h f (Nat.le_refl f)).rowS ks) st stF _ _ hB (mo hm) fun st hp=> ?_);(rw[hp] at hm hQ);(clear hp);(conv=>whnf))
   (refine⟨rfl,?_⟩;(conv=>whnf);((refine put_st (st:=st) hJ [t_rp] (by simp) (by simp) hB (mo hm) fun st hp=> ?_);(rw[hp] at hm hQ);(clear hp);(conv=>whnf)))
   exact hQ _ rfl
  all_goals exact hQ _ rfl
 ·(conv=>whnf)
  rcases ks with _ | ⟨⟨k1,l1,x1,o1,ks1⟩,ks⟩
  ·simp only[pe,Nd.kind,Nd.text,Nd.op,Nd.kids,Nat.reduceEqDiff,reduceCtorEq,or_self,or_true,true_or,or_false,false_or,and_true,true_and,and_false,false_and,↓reduceIte] at hm hQ
   refine count_st (st:=st) (fun hn hl hg3 hk=> ?_) fun st hb hk=> ?_
   all_goals (rw[hk] at hm hQ;(conv=>whnf))
   ·simp only[List.length_cons,List.length_nil] at hl;omega
   ·exact hQ _ rfl
  ·by_cases h30:k1=30∨k1=31
   ·rcases h30 with rfl | rfl
    all_goals
     simp only[pe,Nd.kind,Nd.text,Nd.op,Nd.kids,Nat.reduceEqDiff,reduceCtorEq,or_self,or_true,true_or,or_false,false_or,and_true,true_and,and_false,false_and,↓reduceIte] at hm hQ
     refine count_st (st:=st) (fun hn hl hg3 hk=> ?_) fun st hb hk=> ?_
     all_goals (rw[hk] at hm hQ;(conv=>whnf))
     ·((refine⟨rfl,0,_,rfl,rfl,?_⟩);(conv=>whnf))
      (refine⟨rfl,?_⟩;(conv=>whnf);((refine put_st (st:=st) hJ [t_lp,x1,t_rp] (by simp) (by simp) hB (mo hm) fun st hp=> ?_);(rw[hp] at hm hQ);(clear hp);(conv=>whnf)))
      (refine⟨rfl,?_⟩;(conv=>whnf);((refine put_st (st:=st) hJ [[46],x] (by simp) (by simp) hB (mo hm) fun st hp=> ?_);(rw[hp] at hm hQ);(clear hp);(conv=>whnf)))
      exact hQ _ rfl
     ·exact hQ _ rfl
   ·have n30 : ¬k1=30:=by omega
    have n31 : ¬k1=31:=by omega
    simp only[pe,Nd.kind,Nd.text,Nd.op,Nd.kids,Nat.reduceEqDiff,reduceCtorEq,or_self,or_true,true_or,or_false,false_or,and_true,true_and,and_false,false_and,↓reduceIte,n30,n31] at hm hQ
    refine count_st (st:=st) (fun hn hl hg3 hk=> ?_) fun st hb hk=> ?_
    all_goals (rw[hk] at hm hQ;(conv=>whnf))
    ·((refine⟨rfl,0,_,rfl,rfl,?_⟩);(conv=>whnf))
     refine ifT_c (fun hc=>by exfalso;simp at hc;omega) fun hc=> ?_
     (conv=>whnf)
     refine ifT_c (fun hc=>by exfalso;simp at hc;omega) fun hc=> ?_
     (conv=>whnf)
     ((refine((h f (Nat.le_refl f)).at' (.mk k1 l1 x1 o1 ks1) 9) st stF _ _ hB (mo hm) fun st hp=> ?_);(rw[hp] at hm hQ);(clear hp);(conv=>whnf))
     (refine⟨rfl,?_⟩;(conv=>whnf);((refine put_st (st:=st) hJ [[46],x] (by simp) (by simp) hB (mo hm) fun st hp=> ?_);(rw[hp] at hm hQ);(clear hp);(conv=>whnf)))
     exact hQ _ rfl
    ·exact hQ _ rfl
 ·(conv=>whnf)
  rcases ks with _ | ⟨⟨k1,l1,x1,o1,ks1⟩,_ | ⟨⟨k2,l2,x2,o2,ks2⟩,ks⟩⟩
  ·simp only[pe,Nd.kind,Nd.text,Nd.op,Nd.kids,Nat.reduceEqDiff,reduceCtorEq,or_self,or_true,true_or,or_false,false_or,and_true,true_and,and_false,false_and,↓reduceIte] at hm hQ
   refine count_st (st:=st) (fun hn hl hg3 hk=> ?_) fun st hb hk=> ?_
   all_goals (rw[hk] at hm hQ;(conv=>whnf))
   ·simp only[List.length_cons,List.length_nil] at hl;omega
   ·exact hQ _ rfl
  all_goals
   simp only[pe,Nd.kind,Nd.text,Nd.op,Nd.kids,Nat.reduceEqDiff,reduceCtorEq,or_self,or_true,true_or,or_false,false_or,and_true,true_and,and_false,false_and,↓reduceIte] at hm hQ
   refine count_st (st:=st) (fun hn hl hg3 hk=> ?_) fun st hb hk=> ?_
   case refine_2=>
    rw[hk] at hm hQ
    (conv=>whnf)
    exact hQ _ rfl
   rw[hk] at hm hQ
   (conv=>whnf)
   ((refine⟨rfl,0,_,rfl,rfl,?_⟩);(conv=>whnf))
   ((refine((h f (Nat.le_refl f)).at' (.mk k1 l1 x1 o1 ks1) 9) st stF _ _ hB (mo hm) fun st hp=> ?_);(rw[hp] at hm hQ);(clear hp);(conv=>whnf))
   refine count_st (st:=st) (fun hn hl hg3 hk=> ?_) fun st hb hk=> ?_
   case refine_2=>
    rw[hk] at hm hQ
    (conv=>whnf)
    exact hQ _ rfl
   rw[hk] at hm hQ
   (conv=>whnf)
  ·simp only[List.length_cons,List.length_nil] at hl;omega
  ·
   (refine⟨rfl,?_⟩;(conv=>whnf);((refine put_st (st:=st) hJ [[91]] (by simp) (by simp) hB (mo hm) fun st hp=> ?_);(rw[hp] at hm hQ);(clear hp);(conv=>whnf)))
   ((refine⟨rfl,1,_,rfl,rfl,?_⟩);(conv=>whnf))
   ((refine((h f (Nat.le_refl f)).at' (.mk k2 l2 x2 o2 ks2) 0) st stF _ _ hB (mo hm) fun st hp=> ?_);(rw[hp] at hm hQ);(clear hp);(conv=>whnf))
   (refine⟨rfl,?_⟩;(conv=>whnf);((refine put_st (st:=st) hJ [[93]] (by simp) (by simp) hB (mo hm) fun st hp=> ?_);(rw[hp] at hm hQ);(clear hp);(conv=>whnf)))
   exact hQ _ rfl
 ·(conv=>whnf)
  rcases ks with _ | ⟨⟨k1,l1,x1,o1,ks1⟩,_ | ⟨⟨k2,l2,x2,o2,ks2⟩,_ | ⟨⟨k3,l3,x3,o3,ks3⟩,ks⟩⟩⟩
  ·simp only[pe,Nd.kind,Nd.text,Nd.op,Nd.kids,Nat.reduceEqDiff,reduceCtorEq,or_self,or_true,true_or,or_false,false_or,and_true,true_and,and_false,false_and,↓reduceIte] at hm hQ
   refine count_st (st:=st) (fun hn hl hg3 hk=> ?_) fun st hb hk=> ?_
   all_goals (rw[hk] at hm hQ;(conv=>whnf))
   ·simp only[List.length_cons,List.length_nil] at hl;omega
   ·exact hQ _ rfl
  all_goals
   simp only[pe,Nd.kind,Nd.text,Nd.op,Nd.kids,Nat.reduceEqDiff,reduceCtorEq,or_self,or_true,true_or,or_false,false_or,and_true,true_and,and_false,false_and,↓reduceIte] at hm hQ
   refine count_st (st:=st) (fun hn hl hg3 hk=> ?_) fun st hb hk=> ?_
   case refine_2=>
    rw[hk] at hm hQ
    (conv=>whnf)
    exact hQ _ rfl
   rw[hk] at hm hQ
   (conv=>whnf)
   ((refine⟨rfl,0,_,rfl,rfl,?_⟩);(conv=>whnf))
   ((refine((h f (Nat.le_refl f)).at' (.mk k1 l1 x1 o1 ks1) 9) st stF _ _ hB (mo hm) fun st hp=> ?_);(rw[hp] at hm hQ);(clear hp);(conv=>whnf))
   refine count_st (st:=st) (fun hn hl hg3 hk=> ?_) fun st hb hk=> ?_
   case refine_2=>
    rw[hk] at hm hQ
    (conv=>whnf)
    exact hQ _ rfl
   rw[hk] at hm hQ
   (conv=>whnf)
  ·simp only[List.length_cons,List.length_nil] at hl;omega
  ·simp only[List.length_cons,List.length_nil] at hl;omega
  ·
   (refine⟨rfl,?_⟩;(conv=>whnf);((refine put_st (st:=st) hJ [[91]] (by simp) (by simp) hB (mo hm) fun st hp=> ?_);(rw[hp] at hm hQ);(clear hp);(conv=>whnf)))
   ((refine⟨rfl,1,_,rfl,rfl,?_⟩);(conv=>whnf))
   ((refine((h f (Nat.le_refl f)).at' (.mk k2 l2 x2 o2 ks2) 0) st stF _ _ hB (mo hm) fun st hp=> ?_);(rw[hp] at hm hQ);(clear hp);(conv=>whnf))
   (refine⟨rfl,?_⟩;(conv=>whnf);((refine put_st (st:=st) hJ [[58]] (by simp) (by simp) hB (mo hm) fun st hp=> ?_);(rw[hp] at hm hQ);(clear hp);(conv=>whnf)))
   ((refine⟨rfl,2,_,rfl,rfl,?_⟩);(conv=>whnf))
   ((refine((h f (Nat.le_refl f)).at' (.mk k3 l3 x3 o3 ks3) 0) st stF _ _ hB (mo hm) fun st hp=> ?_);(rw[hp] at hm hQ);(clear hp);(conv=>whnf))
   (refine⟨rfl,?_⟩;(conv=>whnf);((refine put_st (st:=st) hJ [[93]] (by simp) (by simp) hB (mo hm) fun st hp=> ?_);(rw[hp] at hm hQ);(clear hp);(conv=>whnf)))
   exact hQ _ rfl
end Can
end Go.Proofs.YtdfgkcoenagaaaaGreat
end
