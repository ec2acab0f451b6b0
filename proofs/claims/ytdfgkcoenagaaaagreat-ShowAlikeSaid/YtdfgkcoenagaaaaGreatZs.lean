/- Show: ShowAlike walked. -/
import Derived.Test.YtdfgkcoenagaaaaGreatZr
namespace Go.Proofs.YtdfgkcoenagaaaaGreat
namespace Can
open Go Go.RowKit
set_option linter.unusedSimpArgs false
set_option linter.unusedVariables false
set_option maxRecDepth 4000
def srcK:List UInt8:= [120,61,45,40,97,43,98,41,42,99,44]
def outK:List UInt8:= [120,32,61,32,40,45,40,97,32,43,32,98,41,32,42,32,99,44,41,10]
def treeK:Nd:=nd 1 1 [nd 3 1 [.mk 36 1 [120] 0 [],nd 52 1 [.mk 37 1 [] 3 [.mk 38 1 [] 1 [.mk 37 1 [] 1 [.mk 36 1 [97] 0 [], .mk 36 1 [98] 0 []]], .mk 36 1 [99] 0 []]]]]
theorem src_K:sourceT srcK=(treeK,0,0):=by kernel_rfl
theorem show_K:showT 60 treeK=(outK,0):=by kernel_rfl
theorem bnd_K:(shF 60 treeK).w≤2305843009213693952:=by
 have:(shF 60 treeK).w=20:=by kernel_rfl
 rw[this];decide
noncomputable def knQ:RCode×RCode×RCode×RCode×RCode:=match (rF Tryz.prog 6).body with
 | .seq a (.seq b (.seq c (.seq d e)))=>(a,b,c,d,e)
 | _=>(.skip, .skip, .skip, .skip, .skip)
theorem knQ_body:(rF Tryz.prog 6).body= .seq knQ.1 (.seq knQ.2.1 (.seq knQ.2.2.1 (.seq knQ.2.2.2.1 knQ.2.2.2.2))):=by kernel_rfl
theorem eq_outK:svOf (binOp .eql 0 (.string (str outK)) (.string (str outK)))=some (.bool true):=by rw[str_eq];rfl
theorem eq_out{x:List UInt8}(h:outK=x):svOf (binOp .eql 0 (.string ⟨⟨outK⟩⟩) (.string ⟨⟨x⟩⟩))=some (.bool true):=by
 subst h
 exact eq_outK
theorem kn_b{H K:CH}{fr:Fr}{p:Nat}{A:Nat→Prop}{os:List Value}(hK:HExt H K)(f1:fr 1= .pointer (some ⟨p,0,none⟩))(f3:fr 3= .int .i64 0)(ho:K.ob p= .cells os 26 .ex)(hs:SVRs K A (ndS treeK) os)(hA : ∀q,A q→q<K.nx) :
 WpR TL knQ.2.2.1 fr K (SeqK TL (knQ.2.2.2.1.seq knQ.2.2.2.2) (FunK [.tmp 0] fun v K=>HExt H K∧v= .bool true)):=by
 have e:knQ.2.2.1=_:=rfl
 conv at e=>rhs;reduce
 rw[e]
 clear e
 obtain⟨i1,i2,i3,i4,iq,jn,jc,rfl⟩:=nd_cells hs
 have hsh:=show_wp hA hs (f:=60) (fun _=>bnd_K)
 rw[show_K] at hsh
 repeat' (first | (simp (disch:=first | omega | (decide +kernel)) only[↓RD,RU,↓putF_get,↓evF_t,lop,ρ0,ρ1,↓reduceIte,Nat.reduceAdd,ρ7,ρ8,ρ15,ρ18,f1,ho]) | (with_reducible first | refine condK_dec (fun _=> ?_) fun _=> ?_ | refine grd_dec (fun _=> ?_) fun _=> ?_ | refine egrd_dec (fun _=> ?_) fun _=> ?_))
 refine hsh.mono ?_
 rintro v K2 ⟨hx2,rfl⟩
 have e:knQ.2.2.2.1=_:=rfl
 conv at e=>rhs;reduce
 rw[e]
 clear e
 have e:knQ.2.2.2.2=_:=rfl
 conv at e=>rhs;reduce
 rw[e]
 clear e
 repeat' (first | (simp (disch:=first | omega | (decide +kernel)) only[↓RD,RU,↓putF_get,↓evF_t,↓evF_c,pop,↓reduceIte,Nat.reduceEqDiff,Int.reduceOfNat,ρ5,ρ6,f3]) | (with_reducible first | refine condK_dec (fun _=> ?_) fun _=> ?_ | refine grd_dec (fun _=> ?_) fun _=> ?_ | refine egrd_dec (fun _=> ?_) fun _=> ?_))
 rw[eq_out (by rfl)]
 repeat' (first | (simp (disch:=first | omega | (decide +kernel)) only[↓RD,RU,↓putF_get,↓evF_t,pop,resL,resV,tupleV,↓reduceIte,Nat.reduceEqDiff]) | (with_reducible first | refine condK_dec (fun _=> ?_) fun _=> ?_ | refine grd_dec (fun _=> ?_) fun _=> ?_ | refine egrd_dec (fun _=> ?_) fun _=> ?_))
 exact hK.trans hx2
set_option maxHeartbeats 4000000 in
theorem known6_wp{H:CH}:WpF TL 6 [] H fun v K=>HExt H K∧v= .bool true:=by
 refine wpF_rS (by rfl) (by kernel_rfl) ?_
 rw[knQ_body]
 conv in (rF _ _).res=>reduce
 have e:knQ.1=_:=rfl
 conv at e=>rhs;reduce
 rw[e]
 clear e
 have e:knQ.2.1=_:=rfl
 conv at e=>rhs;reduce
 rw[e]
 clear e
 repeat' (first | (simp (maxSteps:=2000000) (disch:=first | omega | (decide +kernel)) only[↓RD,RU,↓putF_get,↓evF_t,↓evF_c,new_get,pop,aop,wop,akV,isVal,Value.cells,ρ0,ρ1,ρ4,↓reduceIte,Nat.reduceAdd,Int.reduceOfNat,ρ7,ρ8,ρ19,ρ20,Kd.isRo,ρ25,ρ26,bldV,Nat.reduceLeDiff,frzV]) | (with_reducible first | refine condK_dec (fun _=> ?_) fun _=> ?_ | refine grd_dec (fun _=> ?_) fun _=> ?_ | refine egrd_dec (fun _=> ?_) fun _=> ?_))
 refine(source_wp (src:=srcK) (slat_bs (src:=srcK) (p:=H.nx) (Nat.lt_succ_self _) ((new_get.trans (if_pos rfl)).trans rfl) (by rw[maxLen_eq];decide))).mono ?_
 rintro v K ⟨vs,rfl,hx,os,rfl,hs⟩
 rw[src_K] at hs⊢
 obtain⟨i1,i2,i3,i4,iq,jn,jc,rfl⟩:=nd_cells hs
 have hxH:HExt H K:=((HExt.refl H).new _).trans hx
 repeat' (first | (simp (disch:=first | omega | (decide +kernel)) only[↓RD,RU,↓putF_get,↓putF_none,↓evF_t,new_get,pop,aop,wop,tupleV,akV,isVal,isCell,Value.cells,↓reduceIte,Nat.reduceEqDiff,Nat.reduceAdd,ρ5,ρ6,ρ7,ρ8,ρ17,ρ21,ρ22,ρ23,Kd.isRo,ρ25,ρ26]) | (with_reducible first | refine condK_dec (fun _=> ?_) fun _=> ?_ | refine grd_dec (fun _=> ?_) fun _=> ?_ | refine egrd_dec (fun _=> ?_) fun _=> ?_))
 refine kn_b (p:=K.nx) (A:=fun b=>b<K.nx) ((hxH.new _).set (by have:=hxH.nx;omega) _) (by(((first | assumption | simp only[putF_get,putF_none,Nat.reduceEqDiff,↓reduceIte]))<;>rfl)) (by(((first | assumption | simp only[putF_get,putF_none,Nat.reduceEqDiff,↓reduceIte]))<;>rfl)) (set_get.trans (if_pos rfl)) (hs.mv fun b hb=>⟨hb.2,by have:=hb.2;rw[set_get,if_neg (by omega),new_ne (by omega)]⟩) (fun q hq=>by simp only[set_nx,new_nx];omega)
theorem shF_nl(F:Nat)(n m:Nd)(h:nl n=nl m):shF F n=shF F m:=by
 unfold shF
 have h1:=pe_nl F (.blockL n.kids) st00
 have h2:=pe_nl F (.blockL m.kids) st00
 rw[←h1,←h2]
 show pe F (.blockL (nls n.kids)) st00=pe F (.blockL (nls m.kids)) st00
 rw[←nl_kids,←nl_kids,h]
theorem show_ok{F:Nat}{n:Nd}{s:List UInt8}(h:showT F n=(s,0)):s=(shF F n).out∧nl (sourceT s).1=nl n:=by
 unfold showT at h
 split at h
 ·cases h
 ·split at h
  ·cases h
  ·split at h
   ·rename_i hh
    cases h
    exact⟨rfl,(nl_same _ _).1 hh.2⟩
   ·cases h
theorem alike_plain(F:Nat)(a b:List UInt8):(sourceT a).2.2=0→(sourceT b).2.2=0→(showT F (sourceT a).1).2=0→(showT F (sourceT b).1).2=0→decide ((showT F (sourceT a).1).1=(showT F (sourceT b).1).1)=sameN false (sourceT a).1 (sourceT b).1:=by
 intro _ _ h3 h4
 have e1:showT F (sourceT a).1=((showT F (sourceT a).1).1,0):=by rw[←h3]
 have e2:showT F (sourceT b).1=((showT F (sourceT b).1).1,0):=by rw[←h4]
 obtain⟨g1,g2⟩:=show_ok e1
 obtain⟨k1,k2⟩:=show_ok e2
 by_cases hs:(showT F (sourceT a).1).1=(showT F (sourceT b).1).1
 ·rw[decide_eq_true hs]
  symm
  rw[nl_same,←g2,←k2,hs]
 ·rw[decide_eq_false hs]
  symm
  cases hq:sameN false (sourceT a).1 (sourceT b).1 with
  | false=>rfl
  | true=>exact absurd (by rw[g1,k1,shF_nl F _ _ ((nl_same _ _).1 hq)]) hs
theorem alike_law{H:CH}{q q':Option Addr}{c c':Nat}{a b:List UInt8}(h:SlAt 1 (CInt .u8) H q c (u8i a))(h':SlAt 1 (CInt .u8) H q' c' (u8i b)){F:Nat}(hF : ∀src,(shF F (sourceT src).1).w≤bigB):WpF TL 4 [.slice q a.length c, .slice q' b.length c'] H fun v _=>v= .bool true:=by
 refine wpF_rS (by rfl) (by kernel_rfl) ?_;(conv in (rF _ _).body=>reduce);(conv in (rF _ _).res=>reduce)
 repeat' (first | (simp (disch:=first | omega | (decide +kernel)) only[↓RD,RU,↓evF_c,pop,ρ1,Int.reduceOfNat]) | (with_reducible first | refine condK_dec (fun _=> ?_) fun _=> ?_ | refine grd_dec (fun _=> ?_) fun _=> ?_ | refine egrd_dec (fun _=> ?_) fun _=> ?_))
 refine known6_wp.mono ?_
 rintro v K1 ⟨hx1,rfl⟩
 repeat' (first | (simp (disch:=first | omega | (decide +kernel)) only[↓RD,RU,↓putF_get,↓evF_t,getD_zero,u_not,pop,ρ0,ρ1,ρ2,↓reduceIte,reduceCtorEq]) | (with_reducible first | refine condK_dec (fun _=> ?_) fun _=> ?_ | refine grd_dec (fun _=> ?_) fun _=> ?_ | refine egrd_dec (fun _=> ?_) fun _=> ?_))
 refine(source_wp (SlAt.good (CInt.good _) hx1 h)).mono ?_
 rintro v K2 ⟨vs,rfl,hx2,os2,rfl,hs2⟩
 obtain⟨i1,i2,i3,i4,iq,jn,jc,rfl⟩:=nd_cells hs2
 repeat' (first | (simp (disch:=first | omega | (decide +kernel)) only[↓RD,RU,↓putF_get,↓putF_none,↓evF_t,new_get,getD_zero,getD_succ,pop,aop,wop,tupleV,akV,isVal,isCell,Value.cells,ρ0,ρ1,↓reduceIte,Nat.reduceEqDiff,Nat.reduceAdd,ρ5,ρ6,ρ7,ρ8,ρ17,ρ21,ρ22,ρ23,Kd.isRo,ρ25,ρ26]) | (with_reducible first | refine condK_dec (fun _=> ?_) fun _=> ?_ | refine grd_dec (fun _=> ?_) fun _=> ?_ | refine egrd_dec (fun _=> ?_) fun _=> ?_))
 have hxa:HExt K2 ((K2.new (.cells [.int .i64 0, .int .i64 0, .string ⟨⟨[]⟩⟩, .int .i64 0, .slice none 0 0] 26 .ex)).set K2.nx (.cells [.int .i64 i1, .int .i64 i2, .string i3, .int .i64 i4, .slice iq jn jc] 26 .ex)):=((HExt.refl K2).new _).set (Nat.le_refl _) _
 have hna:((K2.new (.cells [.int .i64 0, .int .i64 0, .string ⟨⟨[]⟩⟩, .int .i64 0, .slice none 0 0] 26 .ex)).set K2.nx (.cells [.int .i64 i1, .int .i64 i2, .string i3, .int .i64 i4, .slice iq jn jc] 26 .ex)).nx=K2.nx+1:=rfl
 have oa:((K2.new (.cells [.int .i64 0, .int .i64 0, .string ⟨⟨[]⟩⟩, .int .i64 0, .slice none 0 0] 26 .ex)).set K2.nx (.cells [.int .i64 i1, .int .i64 i2, .string i3, .int .i64 i4, .slice iq jn jc] 26 .ex)).ob K2.nx= .cells [.int .i64 i1, .int .i64 i2, .string i3, .int .i64 i4, .slice iq jn jc] 26 .ex:=set_get.trans (if_pos rfl)
 generalize (K2.new (.cells [.int .i64 0, .int .i64 0, .string ⟨⟨[]⟩⟩, .int .i64 0, .slice none 0 0] 26 .ex)).set K2.nx (.cells [.int .i64 i1, .int .i64 i2, .string i3, .int .i64 i4, .slice iq jn jc] 26 .ex)=K3 at hxa hna oa⊢
 have hn1:=hx1.nx
 have hn2:=hx2.nx
 refine(source_wp (SlAt.good (CInt.good _) ((hx1.trans hx2).trans hxa) h')).mono ?_
 rintro v K4 ⟨vs,rfl,hx4,os4,rfl,hs4⟩
 obtain⟨j1,j2,j3,j4,jq,kn,kc,rfl⟩:=nd_cells hs4
 have hn4:=hx4.nx
 have oa4:=(hx4.ob K2.nx (by omega)).trans oa
 have hne : ¬K2.nx=K4.nx:=by omega
 repeat' (first | (simp (disch:=first | omega | (decide +kernel)) only[↓RD,RU,↓putF_get,↓putF_none,↓evF_t,new_get,set_get,pop,lop,aop,wop,tupleV,akV,isVal,isCell,Value.cells,ρ0,ρ1,↓reduceIte,Nat.reduceEqDiff,Nat.reduceAdd,ρ5,ρ6,ρ7,ρ8,ρ15,ρ17,ρ18,ρ21,ρ22,ρ23,Kd.isRo,ρ25,ρ26,oa4,hne]) | (with_reducible first | refine condK_dec (fun _=> ?_) fun _=> ?_ | refine grd_dec (fun _=> ?_) fun _=> ?_ | refine egrd_dec (fun _=> ?_) fun _=> ?_))
 have hxb:HExt K4 ((K4.new (.cells [.int .i64 0, .int .i64 0, .string ⟨⟨[]⟩⟩, .int .i64 0, .slice none 0 0] 26 .ex)).set K4.nx (.cells [.int .i64 j1, .int .i64 j2, .string j3, .int .i64 j4, .slice jq kn kc] 26 .ex)):=((HExt.refl K4).new _).set (Nat.le_refl _) _
 have hnb:((K4.new (.cells [.int .i64 0, .int .i64 0, .string ⟨⟨[]⟩⟩, .int .i64 0, .slice none 0 0] 26 .ex)).set K4.nx (.cells [.int .i64 j1, .int .i64 j2, .string j3, .int .i64 j4, .slice jq kn kc] 26 .ex)).nx=K4.nx+1:=rfl
 have ob:((K4.new (.cells [.int .i64 0, .int .i64 0, .string ⟨⟨[]⟩⟩, .int .i64 0, .slice none 0 0] 26 .ex)).set K4.nx (.cells [.int .i64 j1, .int .i64 j2, .string j3, .int .i64 j4, .slice jq kn kc] 26 .ex)).ob K4.nx= .cells [.int .i64 j1, .int .i64 j2, .string j3, .int .i64 j4, .slice jq kn kc] 26 .ex:=set_get.trans (if_pos rfl)
 generalize (K4.new (.cells [.int .i64 0, .int .i64 0, .string ⟨⟨[]⟩⟩, .int .i64 0, .slice none 0 0] 26 .ex)).set K4.nx (.cells [.int .i64 j1, .int .i64 j2, .string j3, .int .i64 j4, .slice jq kn kc] 26 .ex)=K5 at hxb hnb ob⊢
 have hx25:HExt K2 K5:=(hxa.trans hx4).trans hxb
 have hsA:=hs2.mv (K':=K5) (A':=fun b=>b<K2.nx) fun b hb=>⟨hb.2,hx25.ob b hb.2⟩
 have hsB:=hs4.mv (K':=K5) (A':=fun b=>b<K4.nx) fun b hb=>⟨hb.2,hxb.ob b hb.2⟩
 have hn25:=hx25.nx
 have oa5:K5.ob K2.nx=_:=(hxb.ob K2.nx (by omega)).trans oa4
 refine(show_wp (fun q hq=>Nat.lt_of_lt_of_le hq hn25) hsA (f:=F) (fun _=>hF a)).mono ?_
 rintro v K6 ⟨hx6,rfl⟩
 have hn6:=hx6.nx
 have ob6:=(hx6.ob K4.nx (by omega)).trans ob
 have oa6:=(hx6.ob K2.nx (by omega)).trans oa5
 repeat' (first | (simp (disch:=first | omega | (decide +kernel)) only[↓RD,RU,↓putF_get,↓evF_t,pop,lop,ρ0,ρ1,↓reduceIte,Nat.reduceEqDiff,Nat.reduceAdd,ρ5,ρ6,ρ7,ρ8,ρ15,ρ18,ob6]) | (with_reducible first | refine condK_dec (fun _=> ?_) fun _=> ?_ | refine grd_dec (fun _=> ?_) fun _=> ?_ | refine egrd_dec (fun _=> ?_) fun _=> ?_))
 have hsB6:=hsB.mv (K':=K6) (A':=fun b=>b<K4.nx) fun b hb=>⟨hb,hx6.ob b (by omega)⟩
 have hsA6:=hsA.mv (K':=K6) (A':=fun b=>b<K2.nx) fun b hb=>⟨hb,hx6.ob b (by omega)⟩
 refine(show_wp (fun q hq=>show q<K6.nx by omega) hsB6 (f:=F) (fun _=>hF b)).mono ?_
 rintro v K7 ⟨hx7,rfl⟩
 have hn7:=hx7.nx
 have ob7:=(hx7.ob K4.nx (by omega)).trans ob6
 have oa7:=(hx7.ob K2.nx (by omega)).trans oa6
 have hsB7:=hsB6.mv (K':=K7) (A':=fun b=>b<K4.nx) fun b hb=>⟨hb,hx7.ob b (by omega)⟩
 have hsA7:=hsA6.mv (K':=K7) (A':=fun b=>b<K2.nx) fun b hb=>⟨hb,hx7.ob b (by omega)⟩
 have hsm:=nsame_wp false (fun q hq=>show q<K7.nx by omega) (fun q hq=>show q<K7.nx by omega) hsA7 hsB7
 have hpl:=alike_plain F a b
 generalize (sourceT a).2.2=ea at hpl⊢
 generalize (sourceT b).2.2=eb at hpl⊢
 generalize showT F (sourceT a).1=ra at hpl⊢
 generalize showT F (sourceT b).1=rb at hpl⊢
 generalize sameN false (sourceT a).1 (sourceT b).1=sm at hpl hsm
 obtain⟨sa,ga⟩:=ra
 obtain⟨sb,gb⟩:=rb
 by_cases h1:ea=0
 ·by_cases h2:eb=0
  ·by_cases h3:ga=0
   ·by_cases h4:gb=0
    ·subst h1 h2 h3 h4
     have hpl:=hpl rfl rfl rfl rfl
     repeat' (first | (simp (disch:=first | omega | (decide +kernel)) only[↓RD,RU,↓putF_get,↓evF_t,↓evF_c,pop,lop,ρ0,ρ1,↓reduceIte,Nat.reduceEqDiff,Nat.reduceAdd,reduceCtorEq,ρ5,ρ6,ρ7,ρ8,ρ15,ρ18,oa7,ob7,str_eq]) | (with_reducible first | refine condK_dec (fun _=> ?_) fun _=> ?_ | refine grd_dec (fun _=> ?_) fun _=> ?_ | refine egrd_dec (fun _=> ?_) fun _=> ?_))
     refine hsm.mono ?_
     rintro v K8 ⟨hx8,rfl⟩
     repeat' (first | (simp (disch:=first | omega | (decide +kernel)) only[↓RD,RU,↓putF_get,↓evF_t,pop,resL,resV,tupleV,ρ3,↓reduceIte,Nat.reduceEqDiff,hpl]) | (with_reducible first | refine condK_dec (fun _=> ?_) fun _=> ?_ | refine grd_dec (fun _=> ?_) fun _=> ?_ | refine egrd_dec (fun _=> ?_) fun _=> ?_))
    ·have h4' : ¬((gb:Int)=0):=by omega
     repeat' (first | (simp (disch:=first | omega | (decide +kernel)) only[↓RD,RU,↓putF_get,↓evF_t,↓evF_c,pop,resL,resV,tupleV,↓reduceIte,Nat.reduceEqDiff,reduceCtorEq,ρ5,ρ6,h1,h2,h3]) | (with_reducible first | refine condK_dec (fun _=> ?_) fun _=> ?_ | refine grd_dec (fun _=> ?_) fun _=> ?_ | refine egrd_dec (fun _=> ?_) fun _=> ?_))
   ·have h3' : ¬((ga:Int)=0):=by omega
    repeat' (first | (simp (disch:=first | omega | (decide +kernel)) only[↓RD,RU,↓putF_get,↓evF_t,↓evF_c,pop,resL,resV,tupleV,↓reduceIte,Nat.reduceEqDiff,reduceCtorEq,ρ5,ρ6,h1,h2]) | (with_reducible first | refine condK_dec (fun _=> ?_) fun _=> ?_ | refine grd_dec (fun _=> ?_) fun _=> ?_ | refine egrd_dec (fun _=> ?_) fun _=> ?_))
  ·repeat' (first | (simp (disch:=first | omega | (decide +kernel)) only[↓RD,RU,↓putF_get,↓evF_t,↓evF_c,pop,resL,resV,tupleV,↓reduceIte,Nat.reduceEqDiff,reduceCtorEq,ρ5,ρ6,h1]) | (with_reducible first | refine condK_dec (fun _=> ?_) fun _=> ?_ | refine grd_dec (fun _=> ?_) fun _=> ?_ | refine egrd_dec (fun _=> ?_) fun _=> ?_))
 ·repeat' (first | (simp (disch:=first | omega | (decide +kernel)) only[↓RD,RU,↓putF_get,↓evF_t,↓evF_c,pop,resL,resV,tupleV,↓reduceIte,Nat.reduceEqDiff,ρ5,ρ6]) | (with_reducible first | refine condK_dec (fun _=> ?_) fun _=> ?_ | refine grd_dec (fun _=> ?_) fun _=> ?_ | refine egrd_dec (fun _=> ?_) fun _=> ?_))
theorem alike_law'{H:CH}{q q':Option Addr}{c c':Nat}{xs ys:List Int}(h:SlAt 1 (CInt .u8) H q c xs)(h':SlAt 1 (CInt .u8) H q' c' ys):WpF TL 4 [.slice q xs.length c, .slice q' ys.length c'] H fun v _=>v= .bool true:=by
 obtain⟨a,rfl⟩:=u8_of h
 obtain⟨b,rfl⟩:=u8_of h'
 rw[u8i_len,u8i_len]
 obtain⟨F,hF⟩ : ∃F:Nat,110000000≤F:=⟨_,Nat.le_refl _⟩
 exact alike_law h h' fun src=>sh_bound hF src
end Can
end Go.Proofs.YtdfgkcoenagaaaaGreat
