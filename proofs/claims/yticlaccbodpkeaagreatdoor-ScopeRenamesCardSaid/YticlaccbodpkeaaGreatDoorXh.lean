/- Rename, the document: turned. Rename, the document: kids that lie apart in the memory; comp. Rename, the document: rename. Show: trees without long texts. No program in sight. Parse: no tree has a text that is longer than a token's; a for has three kids. No program in sight. Lex: no token's text is longer than a source. No program in sight. ScopeAgain: sources' trees are small. No program in sight. The round trip: gr answers trees as XRtW says. No program in sight. The round trip: a source's tokens are tokens; a source's tree is as XRtW says. No program in sight. ScopeRenames: the trees that both rename; what is told; the law. The library's table lies where the card says. -/
import Derived.Test.YticlaccbodpkeaaGreatDoorXg
import Derived.Test.YticlaccbodpkeaaGreatDoorXe
import Derived.Test.YticlaccbodpkeaaGreatDoorXd
import Derived.Test.YticlaccbodpkeaaGreatDoorRows
import Derived.Lib.LaidU8
import Derived.LaidSub
section
namespace Go.Proofs.YticlaccbodpkeaaGreatDoor
namespace Can
open Go Go.RowKit
set_option linter.unusedSimpArgs false
set_option linter.unusedVariables false
set_option maxRecDepth 4000
theorem grp5{cs:List Value}{j:Nat}{a0 a1 a2 a3 a4:Value}(h:(cs.drop j).take 5= [a0,a1,a2,a3,a4]):cs[j]? = some a0∧cs[j+1]? = some a1∧cs[j+2]? = some a2∧cs[j+3]? = some a3∧cs[j+4]? = some a4:=by
 have e : ∀k,k<5→cs[j+k]? = ([a0,a1,a2,a3,a4]:List Value)[k]? :=fun k hk=>by
  rw[←h,List.getElem?_take_of_lt hk,List.getElem?_drop]
 exact⟨e 0 (by omega),e 1 (by omega),e 2 (by omega),e 3 (by omega),e 4 (by omega)⟩
theorem GrS.low'{A K:CH}{v:Value}{xs:List Bs}(h:GrS A K v xs){b:Nat}(hb:b<A.nx):offB v b:=fun o n c e=>by
 rcases h with ⟨_,g⟩ | ⟨b',kd',g,g1,g2,_⟩
 ·rw[g] at e;cases e
 ·rw[g] at e;cases e;omega
theorem GrS.hx{A K K':CH}{v v':Value}{xs:List Bs}(h:GrS A K v xs)(hx:HExt A K)(g:GS K K' v v'):HExt A K':=⟨Nat.le_trans hx.nx g.nx,fun b hb=>(g.ob b (Nat.lt_of_lt_of_le hb hx.nx) (h.low' hb)).trans (hx.ob b hb)⟩
structure TuF(K:CH)(t:Nd)(q:Option Addr)(tl:Bs)(fr:Fr)(H:CH):Prop where
 f2:fr 2= .string (tx tl)
 f3:fr 3=pN K.nx
 f6:fr 6=pN (K.nx+1)
 hx:HExt K H
 nx:K.nx+2≤H.nx
 o1:H.ob K.nx= .cells [.int .i64 (t.kind:Nat), .int .i64 t.line, .string (tx t.text), .int .i64 (t.op:Nat), .slice q t.kids.length t.kids.length] 26 .ex
 o2:H.ob (K.nx+1)= .cells [.int .i64 0, .int .i64 0, .string ⟨⟨[]⟩⟩, .int .i64 0, .slice none 0 0] 26 .ex
def TuQ (K:CH)(r:Nd)(v:Value)(K':CH):Prop:=HExt K K'∧∃os',v= .agg os'.toArray∧SVRs K' (fun b=>K.nx≤b∧b<K'.nx) (ndS r) os'
def TuN (K:CH)(t:Nd)(q:Option Addr)(v:Value)(own:List Bs)(tl:Bs)(x:CExit)(fr:Fr)(H:CH):Prop:=
 (x= .normal∧TuF K t q tl fr H∧fr 1=v∧¬(t.kind=36∧t.text∈own))∨(x= .ret∧FunK [.lda 5 6] (TuQ K (turn own tl t)) x fr H)
def TuM (K:CH)(t:Nd)(q:Option Addr)(own:List Bs)(tl:Bs)(x:CExit)(fr:Fr)(H:CH):Prop:=
 x= .normal∧TuF K t q tl fr H∧∃own',NL H (fr 1) own'∧offB (fr 1) K.nx∧own'.length≤2199023255552∧turn own tl t= .mk t.kind t.line t.text t.op (turnL own' tl t.kids)
def TpJ (K0:CH)(ps:List Nd)(n:Nat)(v8 v9:Value)(K1:CH):Prop:=∃i:Nat,n=ps.length-i∧i≤ps.length∧v9= .int .i64 (i:Nat)∧GrS K0 K1 v8 ((ps.take i).map Nd.text)∧HExt K0 K1
def TlJ (K0:CH)(own:List Bs)(ps:List Nd)(n:Nat)(v7 v10:Value)(K1:CH):Prop:=∃i:Nat,n=own.length-i∧i≤own.length∧v10= .int .i64 (i:Nat)∧GrS K0 K1 v7 (lamO (own.take i) ps)∧HExt K0 K1
theorem lamO_take{own:List Bs}{ps:List Nd}{i:Nat}(hi:i<own.length):lamO (own.take (i+1)) ps=if own[i]∈ps.map Nd.text then lamO (own.take i) ps else lamO (own.take i) ps++ [own[i]]:=by
 unfold lamO
 rw[List.take_succ_eq_append_getElem hi,List.filter_append]
 by_cases h:own[i]∈ps.map Nd.text
 ·rw[if_pos h,List.filter_cons_of_neg (by simp only[decide_eq_true h];decide)]
  simp
 ·rw[if_neg h,List.filter_cons_of_pos (by simp only[decide_eq_false h];decide)]
  simp
def TuJ (K H0:CH)(t:Nd)(own:List Bs)(tl:Bs)(n:Nat)(v12:Value)(K1:CH):Prop:=∃(i:Nat) (v:Value),n=t.kids.length-i∧i≤t.kids.length∧v12= .int .i64 (i:Nat)∧HEx K.nx H0 K1∧K1.ob K.nx= .cells [.int .i64 (t.kind:Nat), .int .i64 t.line, .string (tx t.text), .int .i64 (t.op:Nat),v] 26 .ex∧AccAt H0 K1 v (turnL own tl (t.kids.take i))
def TurnOk(B M N:Nat):Prop:=∀(t:Nd),htN t≤N→lfN t→kdN B t→txB M t→∀(K:CH) (A:Nat→Prop) (os:List Value) (v:Value) (own:List Bs) (tl:Bs),SVRs K A (ndS t) os→(∀b,A b→b<K.nx)→0<K.nx→NL K v own→M+tl.length≤4611686018427387904→own.length≤2199023255552→WpF TRn 53 [.agg os.toArray,v, .string (tx tl)] K fun r K'=>HExt K K'∧∃os',r= .agg os'.toArray∧SVRs K' (fun b=>K.nx≤b∧b<K'.nx) (ndS (turn own tl t)) os'
set_option maxHeartbeats 2000000 in
theorem turn_step{B M N:Nat}(hB:B+16≤4398046511104)(ih:TurnOk B M N):TurnOk B M (N+1):=by
 rintro⟨tk,ln,x,o,ks⟩ hN hlf hK hT K A os v own tl hs hA h0 hnl hM hol
 obtain⟨q,rfl,hrow⟩:=ndS_cells hs
 obtain⟨q',e,hmx,hnil,hat⟩:=row_at hrow
 cases e
 rw[maxLen_eq] at hmx
 obtain⟨qo,co,hv,_,hco⟩:=hnl.len
 rw[maxLen_eq] at hco
 have e0:HExt K ((K.new (.cells [.int .i64 (tk:Nat), .int .i64 ln, .string (tx x), .int .i64 (o:Nat), .slice q ks.length ks.length] 26 .ex)).new (.cells [.int .i64 0, .int .i64 0, .string ⟨⟨[]⟩⟩, .int .i64 0, .slice none 0 0] 26 .ex)):=((HExt.refl K).new _).new _
 have hoff:=hnl.off (Nat.le_refl _) h0
 have hxl:x.length≤M:=hT.1
 have hks:2*ks.length≤B+16:=hK.1
 refine wpF_rS (by rfl) (by kernel_rfl) ?_;(conv in (rF _ _).body=>reduce);(conv in (rF _ _).res=>reduce)
 refine seq_mid (TuN K (.mk tk ln x o ks) q v own tl) ?_ ?_
 ·by_cases h36:tk=36
  ·subst h36
   refine rn0 ?_
   rw[has_iff (hnl.ext e0)]
   by_cases hx:x∈own
   ·have hd:decide (x∈own)=true:=decide_eq_true hx
    have a1:svOf (binOp .add 0 (.string (tx x)) (.string (tx tl)))=some (.string (tx (x++tl))):=str_add (by show x.length+tl.length≤_;omega)
    repeat' (first | (simp (disch:=first | omega | (decide +kernel)) only[↓RD,RU,↓putF_get,↓evF_t,new_nx,new_get,getD_zero,getD_succ,pop,lop,↓reduceIte,Nat.reduceEqDiff,ρ5,ρ6]) | (with_reducible first | refine condK_dec (fun _=> ?_) fun _=> ?_ | refine grd_dec (fun _=> ?_) fun _=> ?_ | refine egrd_dec (fun _=> ?_) fun _=> ?_))
    refine optV_eq a1 ?_
    repeat' (first | (simp (disch:=first | omega | (decide +kernel)) only[↓RD,RU,↓putF_get,↓putF_none,↓evF_t,new_nx,new_get,set_get,pop,lop,wop,isVal,isCell,Value.cells,↓reduceIte,Nat.reduceEqDiff,Nat.reduceAdd,ρ7,ρ8,ρ15,ρ17,ρ18,ρ19,ρ20,ρ21,ρ22,ρ23,Kd.isRo,ρ25,ρ26,Nat.reduceLeDiff]) | (with_reducible first | refine condK_dec (fun _=> ?_) fun _=> ?_ | refine grd_dec (fun _=> ?_) fun _=> ?_ | refine egrd_dec (fun _=> ?_) fun _=> ?_))
    refine .inr ⟨rfl,?_⟩
    refine rn0 ?_
    obtain rfl:=hlf.1.1 rfl
    obtain rfl:=hnil rfl
    refine⟨by(repeat (first | assumption | exact HExt.refl _ | (refine HExt.set ?_ (by first | omega | (simp only[new_nx,set_nx];omega)) _) | (refine HExt.new ?_ _))),_,rfl,?_⟩
    rw[turn,if_pos ⟨rfl,hx⟩]
    exact .cons (.sc rfl) (.cons (.sc rfl) (.cons (.sc rfl) (.cons (.sc rfl) (.cons .row0 .nil))))
   ·have hd:decide (x∈own)=false:=decide_eq_false hx
    repeat' (first | (simp (disch:=first | omega | (decide +kernel)) only[↓RD,RU,↓putF_get,↓evF_t,pop,↓reduceIte,Nat.reduceEqDiff]) | (with_reducible first | refine condK_dec (fun _=> ?_) fun _=> ?_ | refine grd_dec (fun _=> ?_) fun _=> ?_ | refine egrd_dec (fun _=> ?_) fun _=> ?_))
    exact .inl ⟨rfl,⟨by(exact rz0;all_goals rfl),by(exact rz0;all_goals rfl),by(exact rz0;all_goals rfl),e0,Nat.le_refl _,by(refine rn0 ?_;all_goals rfl),by(exact rz0;all_goals rfl)⟩,by(exact rz0;all_goals rfl),fun h=>hx h.2⟩
  ·refine rn0 ?_
   exact .inl ⟨rfl,⟨by(exact rz0;all_goals rfl),by(exact rz0;all_goals rfl),by(exact rz0;all_goals rfl),e0,Nat.le_refl _,by(refine rn0 ?_;all_goals rfl),by(exact rz0;all_goals rfl)⟩,by(exact rz0;all_goals rfl),fun h=>h36 h.1⟩
 rintro x1 fr H (⟨rfl,hF,f1,hno⟩ | ⟨rfl,h⟩)
 case inr=>exact h
 rw[seqK_n]
 have hno : ¬(tk=36∧x∈own):=hno
 refine cutM (TuM K (.mk tk ln x o ks) q own tl) ?_ ?_
 ·obtain⟨f2,f3,f6,hx,hn,o1,o2⟩:=hF
  have o1:H.ob K.nx= .cells [.int .i64 (tk:Nat), .int .i64 ln, .string (tx x), .int .i64 (o:Nat), .slice q ks.length ks.length] 26 .ex:=o1
  by_cases h50:tk=50
  ·subst h50
   obtain⟨pk,pl,px,po,pks,hk0⟩ : ∃pk pl px po pks,kid0 ks= .mk pk pl px po pks:=by cases kid0 ks;exact⟨_,_,_,_,_,rfl⟩
   have hplen:2*pks.length≤B+16:=by
    cases ks with
    | nil=>simp[kid0] at hk0;obtain⟨_,_,_,_,rfl⟩:=hk0;simp
    | cons p r=>simp only[kid0] at hk0;subst hk0;exact hK.2.1.1
   have hsH:SVRs H A (ndS (.mk 50 ln x o ks)) [.int .i64 ((50:Nat):Int), .int .i64 ln, .string (tx x), .int .i64 (o:Nat), .slice q ks.length ks.length]:=hs.mv fun b hb=>⟨hb,hx.ob b (hA b hb)⟩
   refine rn (an @f3 @o1) ?_
   refine loop_w (fun n fr K1=>TpJ H pks n (fr 8) (fr 9) K1) (n:=pks.length) ⟨0,rfl,Nat.zero_le _,by(refine rn0 ?_;all_goals rfl),by(refine rn0 ?_;exact Grw.nil),HExt.refl _⟩ ?_
   rintro n fr1 K1 ⟨i,rfl,hi,f9,hg1,hx1⟩ hag
   have o1':=(hx1.ob K.nx (by omega)).trans o1
   have hkid:=kid7_wp (K:=K1) (A:=A) (hsH.mv fun b hb=>⟨hb,hx1.ob b (by have:=hA b hb;omega)⟩) (fun b hb=>by have:=hA b hb;have:=hx1.nx;omega)
   refine rn (an @hag (an @f3 (an @f9 @o1'))) ?_
   refine hkid.mono fun v2 K2 ⟨os2,e2,hx2,hs2⟩=> ?_
   subst e2
   have hs2:SVRs K1 A (ndS (kid0 ks)) os2:=hs2
   rw[hk0] at hs2
   obtain⟨q2,rfl,hrow2⟩:=ndS_cells hs2
   have o1'':=(hx2.ob K.nx (by have:=hx1.nx;omega)).trans o1'
   have hn1:=hx1.nx
   have hn2:=hx2.nx
   by_cases hil:i<pks.length
   ·obtain⟨p,r,rfl⟩ : ∃p r,ks=p::r:=by
     cases ks with
     | nil=>simp[kid0] at hk0;obtain⟨_,_,_,_,rfl⟩:=hk0;simp at hil
     | cons p r=>exact⟨p,r,rfl⟩
    have hk0:p= .mk pk pl px po pks:=hk0
    obtain⟨b,cs,e,kd,hqq,hb,ob,hkd,hcl,hc5,hst⟩:=hat 0 p rfl
    rw[hk0] at hst
    obtain⟨q3,hc3,hrow3⟩:=ndS_cells hst
    obtain⟨_,e3,_,_,hat3⟩:=row_at hrow3
    cases e3
    obtain⟨_,_,_,_,g4⟩:=grp5 hc3
    obtain⟨t,ht⟩ : ∃t,pks[i]? = some t:=⟨_,List.getElem?_eq_getElem hil⟩
    obtain⟨b2,cs2,e2,kd2,hq3,hb2,ob2,hkd2,hcl2,hc52,hst2⟩:=hat3 i t ht
    obtain⟨tk,tln,ttx,tto,tks⟩:=t
    obtain⟨q4,hc4,_⟩:=ndS_cells hst2
    obtain⟨_,_,g2,_,_⟩:=grp5 hc4
    have hmv : ∀b,A b→K2.ob b=K.ob b:=fun b hb=>by have:=hA b hb;exact(hx2.ob b (by omega)).trans ((hx1.ob b (by omega)).trans (hx.ob b this))
    have ob1:=(hmv b hb).trans ob
    have ob2':=(hmv b2 hb2).trans ob2
    subst hq3
    refine rn (an @hag (an @f3 (an @f9 (an @o1'' (an @hqq (an @ob1 (an @ob2' (an @g4 (an @g2 (an @Nat.zero_add @Nat.zero_mul)))))))))) ?_
    have e2:HExt K2 (K2.new (.cells [.string (tx ttx)] 9 .ex)):=(HExt.refl K2).new _
    have e3:HExt K1 (K2.new (.cells [.string (tx ttx)] 9 .ex)):=hx2.trans e2
    refine grs_one (y:=ttx) (hg1.ext e3) (by show H.nx≤K2.nx+1;omega) (by rw[List.length_map,List.length_take];omega) rfl fun v' K3 h1 h2=> ?_
    refine rn (an @hag @f9) ?_
    refine⟨pks.length-(i+1),by omega,i+1,rfl,hil,rfl,?_,hg1.hx hx1 ((GS.ext e3).trans h2)⟩
    obtain⟨_,et⟩:=List.getElem?_eq_some_iff.1 ht
    rw[List.take_succ_eq_append_getElem hil,et,List.map_append]
    exact h1
   ·have hil:i=pks.length:=by omega
    subst hil
    rw[List.take_length] at hg1
    have hp8:NL K2 (fr1 8) (pks.map Nd.text):=(hg1.nl (by rw[List.length_map];omega)).ext hx2
    refine rn (an @hag (an @f3 (an @f9 @o1''))) ?_
    refine loop_w (fun n fr K3=>TlJ K2 own pks n (fr 7) (fr 10) K3) (n:=own.length) ⟨0,rfl,Nat.zero_le _,by(refine rn0 ?_;all_goals rfl),by(refine rn @hag ?_;exact Grw.nil),HExt.refl _⟩ ?_
    rintro n fr2 K3 ⟨j,rfl,hj,f10,hg2,hx3⟩ hag2
    have hn3:=hx3.nx
    have hxK3:HExt K K3:=hx.trans (hx1.trans (hx2.trans hx3))
    have hll:(lamO (own.take j) pks).length≤own.length:=Nat.le_trans (List.length_filter_le ..) (by rw[List.length_take];omega)
    by_cases hjl:j<own.length
    ·obtain⟨l,ol,c1,os,e,kd,hv2,h4,h5,g⟩:=(hnl.ext hxK3).cell hjl
     rw[hv] at hv2
     obtain⟨rfl,rfl⟩:qo=some ⟨l,ol,none⟩∧co=c1:=by cases hv2;exact⟨rfl,rfl⟩
     refine rn (an @hag2 (an @hag (an @f1 (an @hv (an @f10 (an @h4 @g)))))) ?_
     rw[has_iff (hp8.ext hx3)]
     by_cases hm:own[j]∈pks.map Nd.text
     ·have hd:decide (own[j]∈pks.map Nd.text)=true:=decide_eq_true hm
      repeat' (first | (simp (disch:=first | omega | (decide +kernel)) only[↓RD,RU,↓putF_get,↓evF_t,↓evF_c,u_not,pop,ρ2,↓reduceIte,Nat.reduceEqDiff,f10]) | (with_reducible first | refine condK_dec (fun _=> ?_) fun _=> ?_ | refine grd_dec (fun _=> ?_) fun _=> ?_ | refine egrd_dec (fun _=> ?_) fun _=> ?_))
      exact⟨own.length-(j+1),by omega,j+1,rfl,hjl,rfl,by rw[lamO_take hjl,if_pos hm];exact hg2,hx3⟩
     ·have hd:decide (own[j]∈pks.map Nd.text)=false:=decide_eq_false hm
      repeat' (first | (simp (disch:=first | omega | (decide +kernel)) only[↓RD,RU,↓putF_get,↓evF_t,new_get,u_not,pop,lop,aop,akV,isVal,Value.cells,ρ0,ρ1,ρ3,ρ4,↓reduceIte,Nat.reduceEqDiff,reduceCtorEq,ρ7,ρ8,srcR_c,ρ15,ρ17,ρ18,ρ21,ρ25,ρ26,bldV,Nat.reduceLeDiff,zeros_one,appS_some,ρ29,hag2,hag,f1,hv,f10,h4,g]) | (with_reducible first | refine condK_dec (fun _=> ?_) fun _=> ?_ | refine grd_dec (fun _=> ?_) fun _=> ?_ | refine egrd_dec (fun _=> ?_) fun _=> ?_))
      have e3:HExt K3 (K3.new (.cells [.string (tx own[j])] 9 .ex)):=(HExt.refl K3).new _
      refine grs_one (y:=own[j]) (hg2.ext e3) (by show K2.nx≤K3.nx+1;omega) (by omega) rfl fun v' K4 h1 h2=> ?_
      refine rn (an @hag2 @f10) ?_
      exact⟨own.length-(j+1),by omega,j+1,rfl,hjl,rfl,by rw[lamO_take hjl,if_neg hm];exact h1,hg2.hx hx3 ((GS.ext e3).trans h2)⟩
    ·have hjl:j=own.length:=by omega
     subst hjl
     rw[List.take_length] at hg2
     refine rn (an @hag2 (an @hag (an @f1 (an @hv @f10)))) ?_
     refine⟨rfl,⟨by(exact rz (an @hag2 (an @hag @f2));all_goals rfl),by(exact rz (an @hag2 (an @hag @f3));all_goals rfl),by(exact rz (an @hag2 (an @hag @f6));all_goals rfl),hxK3,by omega,(hx3.ob _ (by omega)).trans o1'',(hx3.ob _ (by omega)).trans ((hx2.ob _ (by omega)).trans ((hx1.ob _ (by omega)).trans o2))⟩,lamO own pks,by(refine rn0 ?_;exact hg2.nl (by rw[List.take_length] at hll;omega)),by(refine rn0 ?_;exact hg2.low' (by omega)),by rw[List.take_length] at hll;omega,?_⟩
     rw[turn,if_neg hno,if_pos rfl,hk0]
     rfl
  ·refine rn (an @f3 @o1) ?_
   refine⟨rfl,⟨by(exact rz @f2;all_goals rfl),by(exact rz @f3;all_goals rfl),by(exact rz @f6;all_goals rfl),hx,hn,o1,o2⟩,own,by(refine rn @f1 ?_;exact hnl.ext hx),by(refine rn @f1 ?_;exact hoff),by omega,?_⟩
   rw[turn,if_neg hno,if_neg h50]
   rfl
 ·rintro x1 fr H ⟨rfl,⟨f2,f3,f6,hx,hn,o1,o2⟩,own',hnl',hoff',hol',et⟩
  rw[et]
  have o1:H.ob K.nx= .cells [.int .i64 (tk:Nat), .int .i64 ln, .string (tx x), .int .i64 (o:Nat), .slice q ks.length ks.length] 26 .ex:=o1
  rw[seqK_n]
  refine rn (an @f2 (an @f3 (an @f6 (an @o1 @o2)))) ?_
  refine loop_w (fun n fr K1=>TuJ K (H.set K.nx (.cells [.int .i64 (tk:Nat), .int .i64 ln, .string (tx x), .int .i64 (o:Nat), .slice none 0 0] 26 .ex)) (.mk tk ln x o ks) own' tl n (fr 12) K1) (n:=ks.length) ⟨0, .slice none 0 0,rfl,Nat.zero_le _,by(refine rn0 ?_;all_goals rfl),HEx.refl _,by(refine rn0 ?_;all_goals rfl),AccAt.nil⟩ ?_
  rintro n fr1 K1 ⟨i,va,rfl,hi,f12,hx1,o3,hacc⟩ hag
  have hn1:H.nx≤K1.nx:=hx1.nx
  have hi':i≤ks.length:=hi
  have o3:K1.ob K.nx= .cells [.int .i64 (tk:Nat), .int .i64 ln, .string (tx x), .int .i64 (o:Nat),va] 26 .ex:=o3
  have hold : ∀b,b<H.nx→b≠K.nx→K1.ob b=H.ob b:=fun b hb hc=>(hx1.ob b hb hc).trans (set_ne' hc)
  have hlen:(turnL own' tl (ks.take i)).length=i:=by rw[turnL_len,List.length_take];omega
  have hacc:AccAt (H.set K.nx (.cells [.int .i64 (tk:Nat), .int .i64 ln, .string (tx x), .int .i64 (o:Nat), .slice none 0 0] 26 .ex)) K1 va (turnL own' tl (ks.take i)):=hacc
  obtain⟨vq,eva,_⟩:=hacc.done (by omega)
  subst eva
  by_cases hil:i<ks.length
  ·obtain⟨t,ht⟩ : ∃t,ks[i]? = some t:=⟨_,List.getElem?_eq_getElem hil⟩
   obtain⟨b,cs,e,kd,hqq,hb,ob,hkd,hcl,hc5,hst⟩:=hat i t ht
   have hbK:=hA b hb
   have hmv : ∀b,A b→K1.ob b=K.ob b:=fun b hb=>by have:=hA b hb;exact(hold b (by omega) (by omega)).trans (hx.ob b this)
   have ob1:=(hmv b hb).trans ob
   obtain⟨k',l',x',o',wa,wn,wc,hnc⟩:=nd_cells hst
   have hmem:=List.mem_of_getElem? ht
   have hcall:=ih t (Nat.le_trans (ht_mem hmem) (by simp only[htN] at hN;omega)) (lfL_mem hlf.2.2 hmem) (kdL_mem hK.2 hmem) (txB_mem hT.2 hmem) K1 A _ (fr 1) own' tl (hst.mv fun b hb=>⟨hb,hmv b hb⟩) (fun b hb=>by have:=hA b hb;omega) (by omega) (hnl'.mv hn1 fun b hb ⟨o,n,c,e⟩=>hold b hb fun eb=>hoff' o n c (eb▸e)) hM hol'
   rw[hnc] at hcall
   refine rn (an @hag (an @f2 (an @f3 (an @f12 (an @o3 (an @hqq (an @ob1 (an @hnc @Nat.zero_add)))))))) ?_
   refine hcall.mono fun v2 K2 ⟨hx2,os2,e2,hs2⟩=> ?_
   subst e2
   obtain⟨nd,rfl⟩:=nd_n5 hs2
   have o4:=(hx2.ob K.nx (by omega)).trans o3
   repeat' (first | (simp (disch:=first | omega | (decide +kernel)) only[↓RD,RU,accW_t,accW_f,isW,↓putF_get,↓evF_t,new_get,pop,lop,aop,akV,isVal,Value.cells,ρ0,ρ1,ρ4,↓reduceIte,Nat.reduceEqDiff,Nat.reduceAdd,reduceCtorEq,ρ5,ρ6,ρ7,ρ8,srcR_c,ρ15,ρ16,ρ18,ρ19,ρ20,ρ25,ρ26,bldV,Nat.reduceLeDiff,appS_some,hag,f3,o4,n5V,Nat.zero_mul,zeros]) | (with_reducible first | refine condK_dec (fun _=> ?_) fun _=> ?_ | refine grd_dec (fun _=> ?_) fun _=> ?_ | refine egrd_dec (fun _=> ?_) fun _=> ?_))
   have hn2:=hx2.nx
   have e4:HExt K2 (K2.new (.cells (n5V nd) 26 .ex)):=(HExt.refl K2).new _
   have e5:HExt K1 (K2.new (.cells (n5V nd) 26 .ex)):=hx2.trans e4
   refine AccAt.app (n:=turn own' tl t) (hacc.ex (HExt.ex e5) (bc:=K.nx) (by show K.nx<H.nx;omega)) (by show H.nx≤K2.nx+1;omega) (hs2.mv fun b hb=>⟨⟨by have:=hb.1;show H.nx≤b;omega,Nat.lt_succ_of_lt hb.2,fun o n c e=>by have:=(hacc.blk e).2;have:=hb.1;omega⟩,e4.ob b hb.2⟩) (by omega) fun v' K3 k1 k2 k3=> ?_
   have k1:K2.nx+1≤K3.nx:=k1
   have o5:=(k2 K.nx (by show K.nx<H.nx;omega)).trans ((e4.ob K.nx (by omega)).trans o4)
   obtain⟨vq',ev',_⟩:=k3.done (by rw[List.length_append,hlen];show i+1≤_;omega)
   subst ev'
   refine rn (an @hag (an @f3 (an @f12 (an @o3 (an @o4 @o5))))) ?_
   refine⟨ks.length-(i+1),by show _<ks.length-i;omega,i+1,_,rfl,hil,rfl,⟨by show H.nx≤K3.nx;omega,fun b hb hc=>(set_ne' hc).trans ((k2 b hb).trans ((e5.ob b (by have:b<H.nx:=hb;omega)).trans (hx1.ob b hb hc)))⟩,by(refine rn0 ?_;all_goals rfl),?_⟩
   have et:turnL own' tl ((Nd.mk tk ln x o ks).kids.take (i+1))=turnL own' tl (ks.take i)++ [turn own' tl t]:=by
    obtain⟨_,e⟩:=List.getElem?_eq_some_iff.1 ht
    show turnL own' tl (ks.take (i+1))=_
    rw[List.take_succ_eq_append_getElem hil,e,turnL_app]
    rfl
   rw[et]
   rw[List.length_append] at k3
   refine AccAt.mv (K1:=K3) k3 (Nat.le_refl _) ?_
   intro b hb _
   exact set_ne' (by have:H.nx≤b:=hb;omega)
  ·have hil:i=ks.length:=by omega
   subst hil
   have o6:=(hold (K.nx+1) (by omega) (by omega)).trans o2
   refine rn (an @hag (an @f3 (an @f6 (an @f12 (an @o3 @o6))))) ?_
   rw[List.take_length] at hacc hlen⊢
   obtain⟨vq2,e2,hv2⟩:=hacc.done (by omega)
   cases e2
   refine⟨⟨by show K.nx≤K1.nx;omega,fun b hb=>(set_ne' (by omega)).trans ((hold b (by omega) (by omega)).trans (hx.ob b hb))⟩,_,rfl, .cons (.sc rfl) (.cons (.sc rfl) (.cons (.sc rfl) (.cons (.sc rfl) (.cons (hv2.mv fun b hb=>⟨⟨by have:H.nx≤b:=hb.1;omega,hb.2⟩,set_ne' (by have:H.nx≤b:=hb.1;omega)⟩) .nil))))⟩
theorem turn_ok{B M:Nat}(hB:B+16≤4398046511104) : ∀N,TurnOk B M N
 | 0=>fun t h=>by cases t;simp[htN] at h
 | N+1=>turn_step hB (turn_ok hB N)
end Can
end Go.Proofs.YticlaccbodpkeaaGreatDoor
end
section
namespace Go.Proofs.YticlaccbodpkeaaGreatDoor
namespace Can
open Go Go.RowKit
set_option linter.unusedSimpArgs false
set_option linter.unusedVariables false
set_option maxRecDepth 4000
def AccH (lo hi:Nat)(K:CH)(v:Value)(ns:List Nd):Prop:=∃acc:List N5,acc.length=ns.length∧((acc= []∧v= .slice none 0 0)∨∃b kd,v= .slice (some ⟨b,0,none⟩) acc.length acc.length∧lo≤b∧b<hi∧K.ob b= .cells (acc.flatMap n5V) 26 kd∧kd.isRo=false)∧(ns= []→v= .slice none 0 0)∧SVRs K (fun b=>lo≤b∧b<hi∧offB v b) (ndsS ns).flatten (acc.flatMap n5V)
theorem AccH.mv{lo hi:Nat}{K K':CH}{v:Value}{ns:List Nd}(h:AccH lo hi K v ns)(hx : ∀b,lo≤b→b<hi→K'.ob b=K.ob b):AccH lo hi K' v ns:=by
 obtain⟨acc,h1,hG,h2,hS⟩:=h
 refine⟨acc,h1,?_,h2,hS.mv fun b hb=>⟨hb,hx b hb.1 hb.2.1⟩⟩
 rcases hG with g | ⟨b',kd',g,g1,g2,g3,g4⟩
 ·exact .inl g
 ·exact .inr ⟨b',kd',g,g1,g2,(hx b' g1 g2).trans g3,g4⟩
theorem AccH.row{lo hi:Nat}{K:CH}{v:Value}{ns:List Nd}(h:AccH lo hi K v ns)(hl:ns.length≤2199023255552) : ∃va,v= .slice va ns.length ns.length∧SVR K (fun b=>lo≤b∧b<hi) (.row 5 (ndsS ns)) v:=by
 obtain⟨acc,h1,hG,h2,hS⟩:=h
 by_cases hn:ns= []
 ·subst hn
  rw[h2 rfl]
  exact⟨none,rfl, .row0⟩
 ·rcases hG with ⟨rfl,e⟩ | ⟨b,kd,rfl,g1,g2,g3,g4⟩
  ·exact absurd (List.length_eq_zero_iff.1 h1.symm) hn
  ·refine⟨_,by rw[h1],?_⟩
   have e:=SVR.row (A:=fun b=>lo≤b∧b<hi) (sz:=5) (gs:=ndsS ns) ⟨fun e=>hn (List.length_eq_zero_iff.1 (by rw[←ndsS_len (a:=ns),e];rfl)),by rw[ndsS_len,maxLen_eq];omega⟩ ⟨g1,g2⟩ g3 g4 ndsS_all (hS.mv fun b hb=>⟨⟨hb.1,hb.2.1⟩,rfl⟩) (fun _=>by rfl)
   rw[ndsS_len] at e
   rw[h1]
   exact e
def NdH (lo hi:Nat)(K:CH)(t:Nd)(a:N5):Prop:=a.k=(t.kind:Nat)∧a.l=t.line∧a.x=tx t.text∧a.o=(t.op:Nat)∧AccH lo hi K (.slice a.a a.n a.c) t.kids
theorem NdH.mv{lo hi:Nat}{K K':CH}{t:Nd}{a:N5}(h:NdH lo hi K t a)(hx : ∀b,lo≤b→b<hi→K'.ob b=K.ob b):NdH lo hi K' t a:=⟨h.1,h.2.1,h.2.2.1,h.2.2.2.1,h.2.2.2.2.mv hx⟩
theorem NdH.s{lo hi:Nat}{K:CH}{t:Nd}{a:N5}(h:NdH lo hi K t a)(hl:t.kids.length≤2199023255552):SVRs K (fun b=>lo≤b∧b<hi) (ndS t) (n5V a):=by
 obtain⟨k,l,x,o,ks⟩:=t
 obtain⟨h1,h2,h3,h4,h5⟩:=h
 obtain⟨va,e,h6⟩:=h5.row hl
 unfold n5V
 rw[h1,h2,h3,h4]
 exact .cons (.sc rfl) (.cons (.sc rfl) (.cons (.sc rfl) (.cons (.sc rfl) (.cons h6 .nil))))
def KdsH (K:CH):Nat→Nat→List Nd→List N5→Prop
 | lo,hi,[],[]=>lo≤hi
 | lo,hi,t::ts,a::aa=>∃m,lo≤m∧NdH lo m K t a∧KdsH K m hi ts aa
 | _,_,_,_=>False
theorem KdsH.le{K:CH} : ∀ {ts:List Nd} {aa:List N5} {lo hi:Nat},KdsH K lo hi ts aa→lo≤hi
 | [],[],_,_,h=>h
 | t::ts,a::aa,lo,hi,⟨m,h1,_,h3⟩=>Nat.le_trans h1 h3.le
 | [],_::_,_,_,h=>h.elim
 | _::_,[],_,_,h=>h.elim
theorem KdsH.len{K:CH} : ∀ {ts:List Nd} {aa:List N5} {lo hi:Nat},KdsH K lo hi ts aa→aa.length=ts.length
 | [],[],_,_,h=>rfl
 | t::ts,a::aa,lo,hi,⟨m,h1,_,h3⟩=>by simp[h3.len]
 | [],_::_,_,_,h=>h.elim
 | _::_,[],_,_,h=>h.elim
theorem KdsH.mv{K K':CH} : ∀ {ts:List Nd} {aa:List N5} {lo hi:Nat},KdsH K lo hi ts aa→(∀b,lo≤b→b<hi→K'.ob b=K.ob b)→KdsH K' lo hi ts aa
 | [],[],_,_,h,_=>h
 | t::ts,a::aa,lo,hi,⟨m,h1,h2,h3⟩,hx=>⟨m,h1,h2.mv fun b g1 g2=>hx b g1 (Nat.lt_of_lt_of_le g2 h3.le),h3.mv fun b g1 g2=>hx b (Nat.le_trans h1 g1) g2⟩
 | [],_::_,_,_,h,_=>h.elim
 | _::_,[],_,_,h,_=>h.elim
theorem KdsH.snoc{K:CH}{t:Nd}{a:N5}{m' hi':Nat} : ∀ {ts:List Nd} {aa:List N5} {lo hi:Nat},KdsH K lo hi ts aa→hi≤m'→m'≤hi'→NdH m' hi' K t a→KdsH K lo hi' (ts++ [t]) (aa++ [a])
 | [],[],lo,hi,h,g1,g2,g3=>⟨hi',by have:lo≤hi:=h;omega,⟨g3.1,g3.2.1,g3.2.2.1,g3.2.2.2.1,by
     obtain⟨acc,h1,hG,h2,hS⟩:=g3.2.2.2.2
     have hlo:lo≤hi:=h
     refine⟨acc,h1,?_,h2,hS.mv fun b hb=>⟨⟨by have:=hb.1;omega,hb.2⟩,rfl⟩⟩
     rcases hG with g | ⟨b',kd',g,k1,k2,k3,k4⟩
     ·exact .inl g
     ·exact .inr ⟨b',kd',g,by omega,k2,k3,k4⟩⟩,Nat.le_refl _⟩
 | t0::ts,a0::aa,lo,hi,⟨m,h1,h2,h3⟩,g1,g2,g3=>⟨m,h1,h2,h3.snoc g1 g2 g3⟩
 | [],_::_,_,_,h,_,_,_=>h.elim
 | _::_,[],_,_,h,_,_,_=>h.elim
theorem KdsH.s{K:CH} : ∀ {ts:List Nd} {aa:List N5} {lo hi:Nat},KdsH K lo hi ts aa→(∀t∈ts,t.kids.length≤2199023255552)→SVRs K (fun b=>lo≤b∧b<hi) (ndsS ts).flatten (aa.flatMap n5V)
 | [],[],_,_,h,_=> .nil
 | t::ts,a::aa,lo,hi,⟨m,h1,h2,h3⟩,hl=>by
   have e1:(ndsS (t::ts)).flatten=ndS t++(ndsS ts).flatten:=rfl
   rw[e1,List.flatMap_cons]
   refine SVRs.app ((h2.s (hl t (List.mem_cons_self ..))).mv fun b hb=>⟨⟨hb.1,Nat.lt_of_lt_of_le hb.2 h3.le⟩,rfl⟩) ((h3.s fun t ht=>hl t (List.mem_cons_of_mem _ ht)).mv fun b hb=>⟨⟨Nat.le_trans h1 hb.1,hb.2⟩,rfl⟩)
 | [],_::_,_,_,h,_=>h.elim
 | _::_,[],_,_,h,_=>h.elim
theorem KdsH.get{K:CH} : ∀ {ts:List Nd} {aa:List N5} {lo hi:Nat} {i:Nat} {t:Nd},KdsH K lo hi ts aa→ts[i]? = some t→∃a,aa[i]? = some a∧∃l m,lo≤l∧m≤hi∧NdH l m K t a
 | t0::ts,a0::aa,lo,hi,0,t,⟨m,h1,h2,h3⟩,e=>by cases e;exact⟨a0,rfl,lo,m,Nat.le_refl _,h3.le,h2⟩
 | t0::ts,a0::aa,lo,hi,i+1,t,⟨m,h1,h2,h3⟩,e=>by
   obtain⟨a,g1,l,m',g2,g3,g4⟩:=h3.get (by simpa using e)
   exact⟨a,by simpa using g1,l,m',Nat.le_trans h1 g2,g3,g4⟩
 | [],_,_,_,_,_,_,e=>by simp at e
 | _::_,[],_,_,_,_,h,_=>h.elim
theorem comp_wp{K:CH}{A:Nat→Prop}{n:Nd}{os:List Value}(h:SVRs K A (ndS n) os):WpF TRn 50 [.agg os.toArray] K fun v K'=>HExt K K'∧v= .bool (decide (n.kind=55∨n.kind=56∨n.kind=57)):=by
 obtain⟨k,l,x,o,ks⟩:=n
 obtain⟨q,rfl,hrow⟩:=ndS_cells h
 have e0:HExt K (K.new (.cells [.int .i64 (k:Nat), .int .i64 l, .string (tx x), .int .i64 (o:Nat), .slice q ks.length ks.length] 26 .ex)):=(HExt.refl K).new _
 have hd : ∀b:Bool,decide (k=55∨k=56∨k=57)=b→decide ((Nd.mk k l x o ks).kind=55∨(Nd.mk k l x o ks).kind=56∨(Nd.mk k l x o ks).kind=57)=b:=fun _ h=>h
 by_cases h55:k=55
 ·rw[hd true (decide_eq_true (.inl h55))]
  subst h55
  refine wpF_rS (by rfl) (by kernel_rfl) ?_;(conv in (rF _ _).body=>reduce);(conv in (rF _ _).res=>reduce)
  refine rn0 ?_
  exact e0
 ·by_cases h56:k=56
  ·rw[hd true (decide_eq_true (.inr (.inl h56)))]
   subst h56
   refine wpF_rS (by rfl) (by kernel_rfl) ?_;(conv in (rF _ _).body=>reduce);(conv in (rF _ _).res=>reduce)
   refine rn0 ?_
   exact e0
  ·by_cases h57:k=57
   ·rw[hd true (decide_eq_true (.inr (.inr h57)))]
    subst h57
    refine wpF_rS (by rfl) (by kernel_rfl) ?_;(conv in (rF _ _).body=>reduce);(conv in (rF _ _).res=>reduce)
    refine rn0 ?_
    exact e0
   ·rw[hd false (decide_eq_false (by omega))]
    refine wpF_rS (by rfl) (by kernel_rfl) ?_;(conv in (rF _ _).body=>reduce);(conv in (rF _ _).res=>reduce)
    refine rn0 ?_
    exact e0
end Can
end Go.Proofs.YticlaccbodpkeaaGreatDoor
end
section
namespace Go.Proofs.YticlaccbodpkeaaGreatDoor
namespace Can
open Go Go.RowKit
set_option linter.unusedSimpArgs false
set_option linter.unusedVariables false
set_option maxRecDepth 4000
def CHn (n:Nat):CH:= { nx:=n,ob:=fun _=> .dead }
structure WD(K:CH)(bc c:Nat):Prop where
 c:K.ob bc= .cells [.int .i64 (c:Nat)] 64 .ex
 lt:bc<K.nx
 pw:PowAt K
theorem WD.ex{K K':CH}{bc c c':Nat}(h:WD K bc c)(hx:HEx bc K K')(hc:K'.ob bc= .cells [.int .i64 (c':Nat)] 64 .ex):WD K' bc c':=by
 obtain⟨p0,e3,h3⟩:=h.pw
 have hn:=hx.nx
 have l1:=h.lt
 have n3:0≠bc:=fun e=>by rw[e,h.c] at h3;cases h3
 exact⟨hc,by omega,by omega,e3,(hx.ob _ p0 n3).trans h3⟩
theorem WD.hx{K K':CH}{bc c:Nat}(h:WD K bc c)(hx:HExt K K'):WD K' bc c:=h.ex hx.ex ((hx.ob _ h.lt).trans h.c)
theorem WD.mv{K K':CH}{bc c:Nat}(h:WD K bc c)(hn:K.nx≤K'.nx)(hx : ∀b,b=bc∨b=0→K'.ob b=K.ob b):WD K' bc c:=by
 obtain⟨p0,e3,h3⟩:=h.pw
 exact⟨(hx bc (.inl rfl)).trans h.c,Nat.lt_of_lt_of_le h.lt hn,by omega,e3,(hx 0 (.inr rfl)).trans h3⟩
theorem WD.set{K:CH}{bc c p:Nat}(h:WD K bc c)(h1:bc≠p)(h2:0≠p)(o:CObj):WD (K.set p o) bc c:=by
 obtain⟨p0,e3,h3⟩:=h.pw
 exact⟨(set_ne' h1).trans h.c,h.lt,p0,e3,(set_ne' h2).trans h3⟩
def DrQ (K:CH)(bc:Nat)(r:Nd×Nat)(v:Value)(K':CH):Prop:=HEx bc K K'∧K'.ob bc= .cells [.int .i64 (r.2:Nat)] 64 .ex∧∃a:N5,v= .agg (n5V a).toArray∧NdH K.nx K'.nx K' r.1 a
def DrOk (B M C bc N:Nat):Prop:=∀(t:Nd),htN t≤N→lfN t→kdN B t→txB M t→∀(K:CH) (A:Nat→Prop) (os:List Value) (c:Nat),SVRs K A (ndS t) os→(∀b,A b→b<K.nx∧b≠bc)→WD K bc c→c+szN t≤C→WpF TRn 30 [pN bc, .agg os.toArray] K (DrQ K bc (renD itT c t))
def cmp (k:Nat):Prop:=k=55∨k=56∨k=57
instance (k:Nat):Decidable (cmp k):=inferInstanceAs (Decidable (_∨_))
def DrA (K:CH)(bc c:Nat)(t:Nd)(q:Option Addr)(x:CExit)(fr:Fr)(H:CH):Prop:=x= .normal∧fr 0=pN bc∧fr 3=pN K.nx∧fr 4=pN (K.nx+1)∧fr 5= .int .i64 (if cmp t.kind then c+1 else 0:Nat)∧HEx bc K H∧K.nx+2≤H.nx∧WD H bc (if cmp t.kind then c+1 else c)∧H.ob K.nx= .cells [.int .i64 (t.kind:Nat), .int .i64 t.line, .string (tx t.text), .int .i64 (t.op:Nat), .slice q t.kids.length t.kids.length] 26 .ex∧H.ob (K.nx+1)= .cells [.int .i64 0, .int .i64 0, .string ⟨⟨[]⟩⟩, .int .i64 0, .slice none 0 0] 26 .ex
def DrJ (K H:CH)(bc c0 C:Nat)(t:Nd)(n:Nat)(v7:Value)(K1:CH):Prop:=∃(i c hi:Nat) (ns:List Nd) (acc:List N5) (vk:Value),n=t.kids.length-i∧i≤t.kids.length∧v7= .int .i64 (i:Nat)∧HEx bc K K1∧H.nx≤K1.nx∧WD K1 bc c∧K1.ob K.nx= .cells [.int .i64 (t.kind:Nat), .int .i64 t.line, .string (tx t.text), .int .i64 (t.op:Nat),vk] 26 .ex∧K1.ob (K.nx+1)= .cells [.int .i64 0, .int .i64 0, .string ⟨⟨[]⟩⟩, .int .i64 0, .slice none 0 0] 26 .ex∧c+szL (t.kids.drop i)≤C∧ns.length=i∧(ns= []→vk= .slice none 0 0)∧hi≤K1.nx∧Grw (CHn hi) 26 5 n5V K1 vk acc∧KdsH K1 (K.nx+2) hi ns acc∧renDL itT c0 t.kids=(ns++(renDL itT c (t.kids.drop i)).1,(renDL itT c (t.kids.drop i)).2)
theorem seq_mid2{T:Tbl}{a b d t:RCode}{fr:Fr}{H:CH}{Q:CExit→Fr→CH→Prop}(M:CExit→Fr→CH→Prop)(h1:WpR T (.seq a (.seq b d)) fr H M)(h2 : ∀x fr' H',M x fr' H'→SeqK T t Q x fr' H'):WpR T (.seq a (.seq b (.seq d t))) fr H Q:=by
 rw[r_seq] at h1⊢
 refine h1.mono fun x fr' H' h=> ?_
 cases x with
 | normal=>
   rw[seqK_n] at h⊢
   exact seq_mid M h h2
 | ret=>exact h2 .ret fr' H' h
 | exit i=>exact h2 (.exit i) fr' H' h
theorem flat5 : ∀ {acc:List N5} {i:Nat} {a:N5},acc[i]? = some a→((acc.flatMap n5V).drop (i*5)).take 5=n5V a∧i*5+5≤(acc.flatMap n5V).length
 | a0::r,0,a,h=>by
   cases h
   rw[List.flatMap_cons]
   exact⟨rfl,by simp[n5V]⟩
 | a0::r,i+1,a,h=>by
   obtain⟨h1,h2⟩:=flat5 (acc:=r) (i:=i) (a:=a) (by simpa using h)
   rw[List.flatMap_cons,Nat.succ_mul]
   refine⟨h1,?_⟩
   rw[List.length_append]
   show i*5+5+5≤5+_
   omega
theorem set5{da r:List N5}{a nd:N5}{j:Nat}(h:da.length=j):setCells ((da++a::r).flatMap n5V) (j*5) (n5V nd)=(da++nd::r).flatMap n5V:=by
 have hl:(da.flatMap n5V).length=j*5:=by rw[←h];exact flat_len (fun x=>(n5V_ok x).1) da
 unfold setCells
 rw[List.flatMap_append,List.flatMap_append,List.flatMap_cons,List.flatMap_cons,←hl,List.take_left,←List.drop_drop,List.drop_left,List.append_assoc]
 rfl
def DoJ (K0:CH)(ns:List Nd)(n:Nat)(v8 v9:Value)(K1:CH):Prop:=∃i:Nat,n=ns.length-i∧i≤ns.length∧v9= .int .i64 (i:Nat)∧GrS K0 K1 v8 (wths [] (ownL (ns.take i)))∧HExt K0 K1
def DtJ (K K2:CH)(r hi:Nat)(kd:Kd)(ns:List Nd)(acc:List N5)(own:List Bs)(tl:Bs)(n:Nat)(v11 v12:Value)(K5:CH):Prop:=∃(i m:Nat) (fb:Bool) (dn:List Nd) (da:List N5),n=ns.length-i∧i≤ns.length∧v12= .int .i64 (i:Nat)∧v11= .bool fb∧K2.nx≤K5.nx∧(∀b,b<K2.nx→b≠r→¬(K.nx+2≤b∧b<hi)→K5.ob b=K2.ob b)∧K5.ob r= .cells ((da++acc.drop i).flatMap n5V) 26 kd∧da.length=i∧dn.length=i∧K.nx+2≤m∧KdsH K5 m hi (ns.drop i) (acc.drop i)∧SVRs K5 (fun b=>K.nx+2≤b∧b<K5.nx∧b≠r∧¬(m≤b∧b<hi)) (ndsS dn).flatten (da.flatMap n5V)∧turnC own tl true ns=dn++turnC own tl fb (ns.drop i)
def DeJ (Ks:CH)(re:Nat)(kde:Kd)(a0 a1:N5)(tp:Nd)(n:Nat)(v14:Value)(K7:CH):Prop:=
 (n=2∧v14= .int .i64 0∧K7=Ks)∨(∃(j:Nat) (nd:N5),n=1-j∧j≤1∧v14= .int .i64 ((j:Nat)+1:Int)∧HEx re Ks K7∧K7.ob re= .cells ([nd,a1].flatMap n5V) 26 kde∧SVRs K7 (fun b=>Ks.nx≤b∧b<K7.nx) (ndS tp) (n5V nd))
set_option maxHeartbeats 2000000 in
theorem drn_step{B M C bc N:Nat}(hB:B+16≤4398046511104)(hC:C≤1099511627776)(hM:M+(N+1)*(C+2)≤2305843009213693952)(ih:DrOk B M C bc N):DrOk B M C bc (N+1):=by
 rintro⟨tk,ln,x,o,ks⟩ hN hlf hK hT K A os c hs hA hw hc
 obtain⟨q,rfl,hrow⟩:=ndS_cells hs
 obtain⟨q',e,hmx,hnil,hat⟩:=row_at hrow
 cases e
 rw[maxLen_eq] at hmx
 have hks:2*ks.length≤B+16:=hK.1
 have hc':c+(szL ks+1)≤C:=hc
 have lc:=hw.lt
 have hcc:=hw.c
 refine wpF_rS (by rfl) (by kernel_rfl) ?_;(conv in (rF _ _).body=>reduce);(conv in (rF _ _).res=>reduce)
 refine seq_mid2 (DrA K bc c (.mk tk ln x o ks) q) ?_ ?_
 ·have e0:HExt K ((K.new (.cells [.int .i64 (tk:Nat), .int .i64 ln, .string (tx x), .int .i64 (o:Nat), .slice q ks.length ks.length] 26 .ex)).new (.cells [.int .i64 0, .int .i64 0, .string ⟨⟨[]⟩⟩, .int .i64 0, .slice none 0 0] 26 .ex)):=((HExt.refl K).new _).new _
  refine rn0 ?_
  refine(comp_wp (A:=A) (hs.mv fun b hb=>⟨hb,e0.ob b (hA b hb).1⟩)).mono fun v K1 ⟨hx1,ev⟩=> ?_
  subst ev
  have hn1:K.nx+1+1≤K1.nx:=hx1.nx
  have o1:=(hx1.ob K.nx (by show K.nx<K.nx+1+1;omega)).trans ((new_ne (by show K.nx≠K.nx+1;omega)).trans new_at)
  have o2:=(hx1.ob (K.nx+1) (by show K.nx+1<K.nx+1+1;omega)).trans (new_at (K:=K.new _))
  have hxK:=e0.trans hx1
  have oc:=(hxK.ob bc lc).trans hcc
  by_cases hcm:cmp tk
  ·have hd:decide (tk=55∨tk=56∨tk=57)=true:=decide_eq_true hcm
   have hd:decide ((Nd.mk tk ln x o ks).kind=55∨(Nd.mk tk ln x o ks).kind=56∨(Nd.mk tk ln x o ks).kind=57)=true:=hd
   rw[hd]
   refine rn @oc ?_
   have hx2:HEx bc K (K1.set bc (.cells [.int .i64 ((c:Int)+1)] 64 .ex)):=(hxK.ex (c:=bc)).set (.inr rfl) _
   refine⟨rfl,by(exact rz0;all_goals rfl),by(exact rz0;all_goals rfl),by(exact rz0;all_goals rfl),?_,hx2,by show K.nx+2≤K1.nx;omega,?_,(set_ne' (by omega)).trans o1,(set_ne' (by omega)).trans o2⟩
   ·show _=Value.int .i64 ((if cmp tk then c+1 else 0:Nat):Int)
    rw[if_pos hcm]
    refine rn0 ?_
    all_goals rfl
   ·show WD _ bc (if cmp tk then c+1 else c)
    rw[if_pos hcm]
    exact hw.ex hx2 (by rw[set_get,if_pos rfl];rfl)
  ·have hd:decide ((Nd.mk tk ln x o ks).kind=55∨(Nd.mk tk ln x o ks).kind=56∨(Nd.mk tk ln x o ks).kind=57)=false:=decide_eq_false hcm
   rw[hd]
   refine rn0 ?_
   refine⟨rfl,by(exact rz0;all_goals rfl),by(exact rz0;all_goals rfl),by(exact rz0;all_goals rfl),?_,hxK.ex,by omega,?_,o1,o2⟩
   ·show _=Value.int .i64 ((if cmp tk then c+1 else 0:Nat):Int)
    rw[if_neg hcm]
    refine rn0 ?_
    all_goals rfl
   ·show WD _ bc (if cmp tk then c+1 else c)
    rw[if_neg hcm]
    exact hw.hx hxK
 rintro x1 fr H ⟨rfl,f0,f3,f4,f5,hxH,hnH,hwH,o1,o2⟩
 have o1:H.ob K.nx= .cells [.int .i64 (tk:Nat), .int .i64 ln, .string (tx x), .int .i64 (o:Nat), .slice q ks.length ks.length] 26 .ex:=o1
 obtain⟨nb,hnb⟩ : ∃nb:Nat,(if cmp tk then c+1 else 0)=nb:=⟨_,rfl⟩
 obtain⟨c0,hc0⟩ : ∃c0:Nat,(if cmp tk then c+1 else c)=c0:=⟨_,rfl⟩
 have f5:fr 5= .int .i64 ((if cmp tk then c+1 else 0:Nat):Int):=f5
 have hwH:WD H bc (if cmp tk then c+1 else c):=hwH
 rw[hnb] at f5
 rw[hc0] at hwH
 have hc0C:c0+szL ks≤C:=by rw[←hc0];split<;>omega
 rw[seqK_n]
 refine rn (an @f0 (an @f3 (an @f4 (an @f5 (an @o1 @o2))))) ?_
 refine loop_w (fun n fr K1=>DrJ K H bc c0 C (.mk tk ln x o ks) n (fr 7) K1) (n:=ks.length) ⟨0,c0,K.nx+2,[],[], .slice none 0 0,rfl,Nat.zero_le _,by(refine rn0 ?_;all_goals rfl),hxH.set (.inl (Nat.le_refl _)) _,Nat.le_refl _,hwH.set (by omega) (by omega) _,by(refine rn0 ?_;all_goals rfl),(set_ne' (by omega)).trans o2,hc0C,rfl,fun _=>rfl,by show K.nx+2≤H.nx;omega, .inl ⟨rfl,rfl⟩,Nat.le_refl _,rfl⟩ ?_
 rintro n fr1 K1 ⟨i,c1,hi,ns,acc,vk,rfl,hil',f7,hx1,hn1,hw1,o3,o4,hsz,hns,hnil1,hhi,hG,hKd,hren⟩ hag
 have hi':i≤ks.length:=hil'
 have o3:K1.ob K.nx= .cells [.int .i64 (tk:Nat), .int .i64 ln, .string (tx x), .int .i64 (o:Nat),vk] 26 .ex:=o3
 have hsz:c1+szL (ks.drop i)≤C:=hsz
 have hren:renDL itT c0 ks=(ns++(renDL itT c1 (ks.drop i)).1,(renDL itT c1 (ks.drop i)).2):=hren
 have hal:=hKd.len
 have hlo:=hKd.le
 have lc1:=hw1.lt
 obtain⟨vq,evk⟩ : ∃vq,vk= .slice vq acc.length acc.length:=by
  rcases hG with ⟨rfl,rfl⟩ | ⟨b,kd,rfl,_⟩
  ·exact⟨none,rfl⟩
  ·exact⟨_,rfl⟩
 by_cases hil:i<ks.length
 ·obtain⟨t,ht⟩ : ∃t,ks[i]? = some t:=⟨_,List.getElem?_eq_getElem hil⟩
  obtain⟨b,cs,e,kd,hqq,hb,ob,hkd,hcl,hc5,hst⟩:=hat i t ht
  have hbK:=hA b hb
  have hmv : ∀b,A b→K1.ob b=K.ob b:=fun b hb=>hx1.ob b (hA b hb).1 (hA b hb).2
  have ob1:=(hmv b hb).trans ob
  obtain⟨k',l',x',o',wa,wn,wc,hnc⟩:=nd_cells hst
  have hmem:=List.mem_of_getElem? ht
  have hdr:ks.drop i=t::ks.drop (i+1):=by
   obtain⟨_,e⟩:=List.getElem?_eq_some_iff.1 ht
   rw[List.drop_eq_getElem_cons hil,e]
  have hszt:szN t+szL (ks.drop (i+1))=szL (ks.drop i):=by rw[hdr];rfl
  have hcall:=ih t (Nat.le_trans (ht_mem hmem) (by simp only[htN] at hN;omega)) (lfL_mem hlf.2.2 hmem) (kdL_mem hK.2 hmem) (txB_mem hT.2 hmem) K1 A _ c1 (hst.mv fun b hb=>⟨hb,hmv b hb⟩) (fun b hb=>⟨by have:=(hA b hb).1;omega,(hA b hb).2⟩) hw1 (by omega)
  rw[hnc] at hcall
  subst evk
  refine rn (an @hag (an @f0 (an @f3 (an @f7 (an @o3 (an @hqq (an @ob1 (an @hnc @Nat.zero_add)))))))) ?_
  refine hcall.mono fun v2 K2 ⟨hx2,oc2,a,e2,hnd⟩=> ?_
  subst e2
  have hn2:=hx2.nx
  have o5:=(hx2.ob K.nx (by omega) (by omega)).trans o3
  repeat' (first | (simp (disch:=first | omega | (decide +kernel)) only[↓RD,RU,accW_t,accW_f,isW,↓putF_get,↓evF_t,new_get,pop,lop,aop,akV,isVal,Value.cells,ρ0,ρ1,ρ4,↓reduceIte,Nat.reduceEqDiff,Nat.reduceAdd,reduceCtorEq,ρ5,ρ6,ρ7,ρ8,srcR_c,ρ15,ρ16,ρ18,ρ19,ρ20,ρ25,ρ26,bldV,Nat.reduceLeDiff,appS_some,hag,f3,o5,n5V,Nat.zero_mul,zeros]) | (with_reducible first | refine condK_dec (fun _=> ?_) fun _=> ?_ | refine grd_dec (fun _=> ?_) fun _=> ?_ | refine egrd_dec (fun _=> ?_) fun _=> ?_))
  have e4:HExt K2 (K2.new (.cells (n5V a) 26 .ex)):=(HExt.refl K2).new _
  have hgb : ∀b o n c,Value.slice vq acc.length acc.length= .slice (some ⟨b,o,none⟩) n c→hi≤b∧b<K1.nx:=fun b o n c e=>by
   rcases hG with ⟨_,g⟩ | ⟨b',kd',g,g1,g2,_⟩
   ·rw[g] at e;cases e
   ·rw[g] at e;cases e;exact⟨g1,g2⟩
  have hG2:Grw (CHn hi) 26 5 n5V (K2.new (.cells (n5V a) 26 .ex)) (.slice vq acc.length acc.length) acc:=hG.nx (by show K1.nx≤K2.nx+1;omega) fun b h1 h2 _=>(e4.ob b (by omega)).trans (hx2.ob b h2 (by have:hi≤b:=h1;omega))
  refine optW_one (y:=a) n5V_ok hG2 (by omega) (by omega) rfl fun K3 k1 k2 k3=> ?_
  have k2:K3.nx=K2.nx+1+1:=k2
  have hst3 : ∀b,b<K2.nx→¬(hi≤b∧b<K1.nx)→K3.ob b=K2.ob b:=fun b hb hne=>(k3 b (by show b<K2.nx+1;omega) fun o n c e=>hne (hgb b o n c e)).trans (e4.ob b hb)
  have o6:=(hst3 K.nx (by omega) (by omega)).trans o5
  refine rn (an @hag (an @f3 (an @f7 (an @o3 (an @o5 @o6))))) ?_
  have hw2:=hw1.ex hx2 oc2
  have hrl:=renD_le itT c1 t
  refine⟨ks.length-(i+1),by show _<ks.length-i;omega,i+1,(renD itT c1 t).2,K2.nx,ns++ [(renD itT c1 t).1],acc++ [a],_,rfl,hil,rfl,⟨by show K.nx≤K3.nx;omega,fun b hb hc=>(set_ne' (by omega)).trans ((hst3 b (by omega) (by omega)).trans ((hx2.ob b (by omega) hc).trans (hx1.ob b hb hc)))⟩,by show H.nx≤K3.nx;omega,hw2.mv (by show K2.nx≤K3.nx;omega) (fun b hb=>(set_ne' (by omega)).trans (hst3 b (by omega) (by omega))),by(refine rn0 ?_;all_goals rfl),(set_ne' (by omega)).trans ((hst3 _ (by omega) (by omega)).trans ((hx2.ob _ (by omega) (by omega)).trans o4)),?_,by simp[hns],fun e=>by simp at e,by show K2.nx≤K3.nx;omega, .inr ⟨K2.nx+1, .gr,by simp,Nat.le_succ _,by show K2.nx+1<K3.nx;omega,(set_ne' (by omega)).trans k1,rfl⟩,?_,?_⟩
  ·show(renD itT c1 t).2+szL (ks.drop (i+1))≤C
   omega
  ·refine(hKd.mv fun b g1 g2=> ?_).snoc hhi hn2 (hnd.mv fun b g1 g2=> ?_)
   ·exact(set_ne' (by omega)).trans ((hst3 b (by omega) (by omega)).trans (hx2.ob b (by omega) (by omega)))
   ·exact(set_ne' (by omega)).trans (hst3 b g2 (by omega))
  ·show renDL itT c0 ks=(ns++ [(renD itT c1 t).1]++(renDL itT (renD itT c1 t).2 (ks.drop (i+1))).1,(renDL itT (renD itT c1 t).2 (ks.drop (i+1))).2)
   rw[hren,hdr,renDL_cons]
   simp
 ·have hil:i=ks.length:=by omega
  subst hil
  have e1:renDL itT c0 ks=(ns,c1):=by rw[hren,List.drop_length,renDL_nil];simp
  have hnl:ns.length=ks.length:=hns
  have hkn:kdL B ns:=by
   have:=nkL_ren itT c0 ks
   rw[e1] at this
   exact(nkL_kd B ns).1 (this▸(nkL_kd B ks).2 hK.2)
  have hkk : ∀t∈ns,t.kids.length≤2199023255552:=fun t ht=>by
   have:=kdL_mem hkn ht
   obtain⟨_,_,_,_,kk⟩:=t
   have:2*kk.length≤B+16:=this.1
   show kk.length≤_
   omega
  subst evk
  have hgo : ∀b,b<hi→offB (.slice vq acc.length acc.length) b:=fun b hb o n c e=>by
   rcases hG with ⟨_,g⟩ | ⟨b',kd',g,g1,g2,_⟩
   ·rw[g] at e;cases e
   ·rw[g] at e;cases e;have:hi≤b:=g1;omega
  by_cases hcm:cmp tk
  ·rw[if_pos hcm] at hnb hc0
   subst hnb hc0
   have hsn:szL ns=szL ks:=by
    have:=nkL_ren itT (c+1) ks
    rw[e1] at this
    have h2:=congrArg szL this
    rwa [nkL_sz,nkL_sz] at h2
   have hown:=own_le ns
   have hne:ks≠ []:=hlf.1.2 hcm
   have hksl:0<ks.length:=List.length_pos_iff.2 hne
   obtain⟨r,kd',g,g1,g2,g3,g4⟩ : ∃b' kd',vq=some ⟨b',0,none⟩∧hi≤b'∧b'<K1.nx∧K1.ob b'= .cells (acc.flatMap n5V) 26 kd'∧kd'.isRo=false:=by
    rcases hG with ⟨rfl,_⟩ | ⟨b',kd',g,g1,g2,g3,g4⟩
    ·simp at hal;omega
    ·cases g;exact⟨b',kd',rfl,g1,g2,g3,g4⟩
   subst g
   refine rn (an @hag (an @f3 (an @f4 (an @f5 (an @f7 (an @o3 @o4)))))) ?_
   refine loop_w (fun n fr K2=>DoJ K1 ns n (fr 8) (fr 9) K2) (n:=ns.length) ⟨0,rfl,Nat.zero_le _,by(refine rn0 ?_;all_goals rfl),by(refine rn @hag ?_;exact Grw.nil),HExt.refl _⟩ ?_
   rintro n fr2 K2 ⟨j,rfl,hj,f9,hg,hx2⟩ hag2
   have hn2:=hx2.nx
   have o3':=(hx2.ob K.nx (by omega)).trans o3
   have o4':=(hx2.ob (K.nx+1) (by omega)).trans o4
   by_cases hjl:j<ns.length
   ·obtain⟨t,ht⟩ : ∃t,ns[j]? = some t:=⟨_,List.getElem?_eq_getElem hjl⟩
    obtain⟨a,ha,l1,m1,hl1,hm1,hnd⟩:=hKd.get ht
    obtain⟨hgrp,hc5⟩:=flat5 ha
    obtain⟨cs,hcs⟩ : ∃cs,acc.flatMap n5V=cs:=⟨_,rfl⟩
    rw[hcs] at hgrp hc5 g3
    have ob1:=(hx2.ob r g2).trans g3
    have hgrp:List.take 5 (List.drop (j*5) cs)= [.int .i64 a.k, .int .i64 a.l, .string a.x, .int .i64 a.o, .slice a.a a.n a.c]:=hgrp
    obtain⟨q0,_,_,_,_⟩:=grp5 hgrp
    have ak:=hnd.1
    have htk:=hkk t (List.mem_of_getElem? ht)
    have hst:=(hnd.s htk)
    obtain⟨pk,pl,px,po,pks⟩:=t
    have ak:a.k=(pk:Nat):=ak
    have hot:ownL (ns.take (j+1))=ownL (ns.take j)++(if pk=58 then plc (kid0 pks) else []):=by
     obtain⟨_,e⟩:=List.getElem?_eq_some_iff.1 ht
     rw[List.take_succ_eq_append_getElem hjl,e,ownL_app]
     show _++((if pk=58 then plc (kid0 pks) else [])++ [])=_
     rw[List.append_nil]
    have hle:=ownL_take (i:=j+1) (ks:=ns)
    rw[hot,List.length_append] at hle
    have hwl:=wths_len (xs:= []) (ys:=ownL (ns.take j))
    rw[List.length_nil] at hwl
    by_cases h58:pk=58
    ·subst h58
     rw[if_pos rfl] at hot hle
     have hkid:=kid7_wp (K:=K2) (A:=fun b=>l1≤b∧b<m1) (hst.mv fun b hb=>⟨hb,hx2.ob b (by omega)⟩) (fun b hb=>by omega)
     have ak:a.k=58:=ak
     unfold n5V at hkid
     rw[ak] at hkid
     refine rn (an @hag2 (an @hag (an @f3 (an @f9 (an @o3' (an @ob1 (an @q0 (an @ak (an @hgrp @Nat.zero_add))))))))) ?_
     refine hkid.mono fun v3 K3 ⟨os3,e3,hx3,hs3⟩=> ?_
     subst e3
     have hn3:=hx3.nx
     have hplc:=placed_wp (A:=K1) (htN (kid0 pks)) (kid0 pks) (Nat.le_refl _) K3 (fun b=>l1≤b∧b<m1) os3 (fr2 8) (wths [] (ownL (ns.take j))) (hs3.mv fun b hb=>⟨hb,hx3.ob b (by omega)⟩) (fun b hb=>⟨by omega,hg.low' (by omega)⟩) (by omega) (hg.ext hx3) (by omega)
     refine rn (an @hag2 @f9) ?_
     refine hplc.mono fun v4 K4 ⟨hg4,gs4⟩=> ?_
     refine rn (an @hag2 @f9) ?_
     exact⟨ns.length-(j+1),by omega,j+1,rfl,hjl,rfl,by rw[hot,wths_app];exact hg4,hg.hx hx2 ((GS.ext hx3).trans gs4)⟩
    ·have ak:a.k≠58:=by omega
     refine rn (an @hag2 (an @hag (an @f3 (an @f9 (an @o3' (an @ob1 (an @q0 (an @ak @Nat.zero_add)))))))) ?_
     exact⟨ns.length-(j+1),by omega,j+1,rfl,hjl,rfl,by rw[hot,if_neg h58,List.append_nil];exact hg,hx2⟩
   ·have hjl:j=ns.length:=by omega
    subst hjl
    rw[List.take_length] at hg
    have hwl:=wths_len (xs:= []) (ys:=ownL ns)
    rw[List.length_nil] at hwl
    have a1:svOf (binOp .add 0 (.string ⟨#[46]⟩) (.string ⟨(Lib.itoa ((c+1:Nat):Int)).toArray⟩))=some (.string (tx (46::itT (c+1)))):=str_add (a:=tx [46]) (b:=tx (itT (c+1))) (by have:=itT_le (c+1);show 1+(itT (c+1)).length≤_;omega)
    refine rn (an @hag2 (an @hag (an @f3 (an @f5 (an @f9 @o3'))))) ?_
    refine(itoa_wp (hw1.pw.hx hx2) (n:=((c+1:Nat):Int)) (by omega) (by omega)).mono fun v4 K4 ⟨e4,e5⟩=> ?_
    subst e4
    rw[e5]
    refine rn (an @hag2 @hag) ?_
    refine optV_eq a1 ?_
    refine rn (an @hag2 (an @hag (an @f3 @o3'))) ?_
    have hwC:(renD itT c (.mk tk ln x o ks))=(.mk tk ln x o (turnC (ownL ns) (46::itT (c+1)) true ns),c1):=by
     have hcm':tk=55∨tk=56∨tk=57:=hcm
     rw[renD,if_pos hcm']
     show(Nd.mk tk ln x o (turnC (ownL (renDL itT (c+1) ks).1) (46::itT (c+1)) true (renDL itT (c+1) ks).1),(renDL itT (c+1) ks).2)=_
     rw[e1]
    have hcg:turnC (wths [] (ownL ns)) (46::itT (c+1)) true ns=turnC (ownL ns) (46::itT (c+1)) true ns:=turnC_congr _ (fun y=>by rw[mem_wths];simp) ns true
    obtain⟨own,hownE⟩ : ∃own,wths [] (ownL ns)=own:=⟨_,rfl⟩
    obtain⟨tl,htlE⟩ : ∃tl,46::itT (c+1)=tl:=⟨_,rfl⟩
    have htlL:tl.length≤C+2:=by
     rw[←htlE,List.length_cons]
     have:=itT_le (c+1)
     omega
    rw[hownE,htlE] at hcg
    rw[hownE] at hg hwl
    rw[htlE] at hwC⊢
    rw[←hcg] at hwC
    have hlfn:lfL ns:=by
     have:=nkL_ren itT (c+1) ks
     rw[e1] at this
     exact(nkL_lf ns).1 (this▸(nkL_lf ks).2 hlf.2.2)
    have hhtn:htL ns=htL ks:=by
     have:=nkL_ren itT (c+1) ks
     rw[e1] at this
     have h2:=congrArg htL this
     rwa [nkL_ht,nkL_ht] at h2
    have htxn:txBL (M+N*(C+2)) ns:=by
     have:=txBL_ren itT (M:=M) (C:=C) (T:=C+2) (fun i hi=>by have:=itT_le i;omega) ks (c+1) (by omega) hT.2
     rw[e1] at this
     exact txBL_mono (Nat.add_le_add_left (Nat.mul_le_mul_right _ (by simp only[htN] at hN;omega)) _) _ this
    have hMn:M+N*(C+2)+tl.length≤4611686018427387904:=by rw[Nat.succ_mul] at hM;omega
    have hsub : ∀b,b<K1.nx→K2.ob b=K1.ob b:=hx2.ob
    have hK2:KdsH K2 (K.nx+2) hi ns acc:=hKd.mv fun b h1 h2=>hsub b (by omega)
    refine loop_w (fun n fr K5=>DtJ K K2 r hi kd' ns acc own tl n (fr 11) (fr 12) K5) (n:=ns.length) ⟨0,K.nx+2,true,[],[],rfl,Nat.zero_le _,by(refine rn0 ?_;all_goals rfl),by(exact rz0;all_goals rfl),Nat.le_refl _,fun _ _ _ _=>rfl,(hsub r g2).trans g3,rfl,rfl,Nat.le_refl _,hK2, .nil,rfl⟩ ?_
    rintro n fr3 K5 ⟨j,m,fb,dn,da,rfl,hj,f12,f11,hn5,hfr,o7,hda,hdn,hmlo,hK5,hS5,htc⟩ hag3
    have o3'':=(hfr K.nx (by omega) (by omega) (by omega)).trans o3'
    have o4'':=(hfr (K.nx+1) (by omega) (by omega) (by omega)).trans o4'
    by_cases hjl:j<ns.length
    ·obtain⟨t,ht⟩ : ∃t,ns[j]? = some t:=⟨_,List.getElem?_eq_getElem hjl⟩
     obtain⟨a,ha⟩ : ∃a,acc[j]? = some a:=⟨_,List.getElem?_eq_getElem (by omega)⟩
     have hdt:ns.drop j=t::ns.drop (j+1):=by
      obtain⟨_,e⟩:=List.getElem?_eq_some_iff.1 ht
      rw[List.drop_eq_getElem_cons hjl,e]
     have hda':acc.drop j=a::acc.drop (j+1):=by
      obtain⟨hh,e⟩:=List.getElem?_eq_some_iff.1 ha
      rw[List.drop_eq_getElem_cons hh,e]
     rw[hdt,hda'] at hK5
     rw[hda'] at o7
     rw[hdt] at htc
     obtain⟨m2,hm2,hnd,hrest⟩:=hK5
     have hmh:=hrest.le
     obtain⟨hgrp,hc5⟩:=flat5 (acc:=da++a::acc.drop (j+1)) (i:=j) (a:=a) (by rw[List.getElem?_append_right (by omega),hda,Nat.sub_self];rfl)
     obtain⟨cs,hcs⟩ : ∃cs,(da++a::acc.drop (j+1)).flatMap n5V=cs:=⟨_,rfl⟩
     rw[hcs] at hgrp hc5 o7
     have hgrp:List.take 5 (List.drop (j*5) cs)= [.int .i64 a.k, .int .i64 a.l, .string a.x, .int .i64 a.o, .slice a.a a.n a.c]:=hgrp
     obtain⟨q0,_,_,_,_⟩:=grp5 hgrp
     have hmem:=List.mem_of_getElem? ht
     have hst:=(hnd.s (hkk t hmem))
     have hlt:=lfL_mem hlfn hmem
     have hkt:=kdL_mem hkn hmem
     have hxt:=txB_mem htxn hmem
     have hht:htN t≤N:=by
      have:=ht_mem hmem
      simp only[htN] at hN
      omega
     obtain⟨pk,pl,px,po,pks⟩:=t
     have ak:a.k=(pk:Nat):=hnd.1
     have hNL5:NL K5 (fr2 8) own:=(hg.nl (by omega)).mv hn5 fun b hb ⟨o,n,c,e⟩=>by
      have h1:K1.nx≤b:=Nat.le_of_not_lt fun h=>hg.low' h o n c e
      exact hfr b hb (by omega) (by omega)
     by_cases hf:pk=58∧fb=true
     ·obtain⟨rfl,rfl⟩:=hf
      have ak:a.k=58:=ak
      obtain⟨p,e2,rfl⟩ : ∃p e2,pks= [p,e2]:=by
       have h2:pks.length=2:=hlt.2.1 rfl
       match pks,h2 with
       | [p,e2],_=>exact⟨p,e2,rfl⟩
      obtain⟨acce,hle2,hGe,_,hSe⟩:=hnd.2.2.2.2
      obtain⟨a0,b0,rfl⟩ : ∃a0 b0,acce= [a0,b0]:=by
       match acce,hle2 with
       | [a0,b0],_=>exact⟨a0,b0,rfl⟩
      obtain⟨re,kde,ge,r1,r2,r3,r4⟩ : ∃re kde,Value.slice a.a a.n a.c= .slice (some ⟨re,0,none⟩) 2 2∧m≤re∧re<m2∧K5.ob re= .cells [.int .i64 a0.k, .int .i64 a0.l, .string a0.x, .int .i64 a0.o, .slice a0.a a0.n a0.c, .int .i64 b0.k, .int .i64 b0.l, .string b0.x, .int .i64 b0.o, .slice b0.a b0.n b0.c] 26 kde∧kde.isRo=false:=by
       rcases hGe with ⟨h,_⟩ | ⟨re,kde,ge,r1,r2,r3,r4⟩
       ·cases h
       ·exact⟨re,kde,ge,r1,r2,r3,r4⟩
      obtain⟨_,hgr⟩:=svrs_grp hSe
      have hsp:SVRs K5 (fun b=>m≤b∧b<m2∧offB (.slice a.a a.n a.c) b) (ndS p) (n5V a0):=(hgr 0 p rfl).2
      have hse:SVRs K5 (fun b=>m≤b∧b<m2∧offB (.slice a.a a.n a.c) b) (ndS e2) (n5V b0):=(hgr 1 e2 rfl).2
      have hore : ∀b,offB (.slice a.a a.n a.c) b→b≠re:=fun b hb e=>by
       subst e
       exact hb _ _ _ ge
      obtain⟨Ks,hKs⟩ : ∃Ks,(K5.new (.cells [.int .i64 0, .int .i64 0, .string ⟨⟨[]⟩⟩, .int .i64 0, .slice none 0 0] 26 .ex)).set K5.nx (.cells [.int .i64 58, .int .i64 a.l, .string a.x, .int .i64 a.o, .slice (some ⟨re,0,none⟩) 2 2] 26 .ex)=Ks:=⟨_,rfl⟩
      have hxs:HExt K5 Ks:=hKs▸((HExt.refl K5).new _).set (Nat.le_refl _) _
      have hns5:Ks.nx=K5.nx+1:=by rw[←hKs];rfl
      have obs:Ks.ob K5.nx= .cells [.int .i64 58, .int .i64 a.l, .string a.x, .int .i64 a.o, .slice (some ⟨re,0,none⟩) 2 2] 26 .ex:=by rw[←hKs,set_get,if_pos rfl]
      have rs3:=(hxs.ob re (by omega)).trans r3
      have hltp:=hlt.2.2.1
      have hktp:=hkt.2.1
      have hxtp:=hxt.2.1
      have hhp:htN p≤N:=by simp only[htN,htL] at hht;omega
      have hcallp:=turn_ok (M:=M+N*(C+2)) hB N p hhp hltp hktp hxtp Ks (fun b=>m≤b∧b<m2∧offB (.slice a.a a.n a.c) b) (n5V a0) (fr2 8) own tl (hsp.mv fun b hb=>⟨hb,hxs.ob b (by omega)⟩) (fun b hb=>by omega) (by omega) (hNL5.ext hxs) hMn (by omega)
      refine rn (an @hag3 (an @hag2 (an @hag (an @f3 (an @f11 (an @f12 (an @o3'' (an @o7 (an @q0 (an @ak (an @hgrp (an @ge @Nat.zero_add)))))))))))) ?_
      rw[hKs]
      refine loop_w (fun n fr K7=>DeJ Ks re kde a0 b0 (turn own tl p) n (fr 14) K7) (n:=2) (.inl ⟨rfl,by(exact rz0;all_goals rfl),rfl⟩) ?_
      rintro n fr4 K7 hJ hag4
      have obs7:K7.ob K5.nx= .cells [.int .i64 58, .int .i64 a.l, .string a.x, .int .i64 a.o, .slice (some ⟨re,0,none⟩) 2 2] 26 .ex:=by
       rcases hJ with ⟨_,_,rfl⟩ | ⟨_,_,_,_,_,hx7,_⟩
       ·exact obs
       ·exact(hx7.ob K5.nx (by omega) (by omega)).trans obs
      rcases hJ with ⟨rfl,f14,rfl⟩ | ⟨j2,nd,rfl,hj2,f14,hx7,o10,hs7⟩
      ·unfold n5V at hcallp
       refine rn (an @hag4 (an @hag3 (an @hag2 (an @hag (an @f14 (an @obs7 @rs3)))))) ?_
       refine hcallp.mono fun v8 K8 ⟨hx8,os8,e8,hs8⟩=> ?_
       subst e8
       obtain⟨nd,rfl⟩:=nd_n5 hs8
       have hn8:=hx8.nx
       have obs8:=(hx8.ob K5.nx (by omega)).trans obs
       have rs8:=(hx8.ob re (by omega)).trans rs3
       repeat' (first | (simp (disch:=first | omega | (decide +kernel)) only[↓seqK_n,↓blockK_n,↓loopI_n,↓r_reg,↓i_cons,↓eitemK,↓e_nil,↓e_cons,↓drwK,↓chk_nil,↓chk_n,agL,agE,accW_t,accW_f,isW,↓itemK,↓o_p,↓o_l,↓o_w,↓putF_get,↓putF_none,↓evF_t,↓evF_c,optV_some,optW_some,↓wpI_nil,b_add,w_i64,pop,lop,wop,isVal,isCell,Value.cells,↓reduceIte,Nat.reduceEqDiff,Nat.reduceAdd,List.getElem?_cons_zero,List.getElem?_cons_succ,List.length_cons,List.length_nil,List.cons_append,List.nil_append,List.all_cons,List.all_nil,Bool.and_true,List.size_toArray,List.toList_toArray,Nat.reduceLeDiff,Int.zero_add,Int.reduceToNat,if_pos,Nat.zero_add,true_and,and_true,hag4,f14,obs7,obs8,rs8,n5V,r4]) | (with_reducible first | refine condK_dec (fun _=> ?_) fun _=> ?_ | refine grd_dec (fun _=> ?_) fun _=> ?_ | refine egrd_dec (fun _=> ?_) fun _=> ?_))
       refine⟨1,by omega, .inr ⟨0,nd,rfl,by omega,rfl,⟨by show K7.nx≤K8.nx;omega,fun b hb hc=>(set_ne' hc).trans (hx8.ob b hb)⟩,by(refine rn0 ?_;all_goals rfl),hs8.mv fun b hb=>⟨hb,set_ne' (by omega)⟩⟩⟩
      ·obtain rfl | rfl:j2=0∨j2=1:=by omega
       ·have f14:fr4 14= .int .i64 1:=by simpa using f14
        refine rn (an @hag4 (an @f14 @obs7)) ?_
        exact⟨0,by omega, .inr ⟨1,nd,rfl,by omega,rfl,hx7,o10,hs7⟩⟩
       ·have f14:fr4 14= .int .i64 2:=by simpa using f14
        refine rn (an @hag4 (an @hag3 (an @hag2 (an @hag (an @f12 (an @f14 @obs7)))))) ?_
        have hn7:=hx7.nx
        have h75 : ∀b,b<K5.nx→b≠re→K7.ob b=K5.ob b:=fun b hb hc=>(hx7.ob b (by omega) hc).trans (hxs.ob b hb)
        refine⟨ns.length-(j+1),by omega,j+1,m2,false,dn++ [.mk 58 pl px po [turn own tl p,e2]],da++ [a],rfl,hjl,rfl,rfl,by omega,fun b h1 h2 h3=>(h75 b (by omega) (by omega)).trans (hfr b h1 h2 h3),?_,by simp[hda],by simp[hdn],by omega,hrest.mv fun b h1 h2=>h75 b (by omega) (by omega),?_,?_⟩
        ·rw[h75 r (by omega) (by omega),o7,←hcs]
         simp
        ·rw[ndsS_app,List.flatten_append,List.flatMap_append]
         refine SVRs.app (hS5.mv fun b hb=>⟨⟨hb.1,by omega,hb.2.2.1,by omega⟩,h75 b hb.2.1 (by omega)⟩) ?_
         have q1:(ndsS [Nd.mk 58 pl px po [turn own tl p,e2]]).flatten=ndS (.mk 58 pl px po [turn own tl p,e2]):=by simp[ndsS]
         have q2 : [a].flatMap n5V=n5V a:=by simp
         rw[q1,q2]
         unfold n5V
         rw[ak,hnd.2.1,hnd.2.2.1,hnd.2.2.2.1,ge]
         refine .cons (.sc rfl) (.cons (.sc rfl) (.cons (.sc rfl) (.cons (.sc rfl) (.cons ?_ .nil))))
         have q3:=SVR.row (K:=K7) (A:=fun b=>K.nx+2≤b∧b<K7.nx∧b≠r∧¬(m2≤b∧b<hi)) (sz:=5) (gs:=ndsS [turn own tl p,e2]) ⟨by simp[ndsS],by rw[ndsS_len,maxLen_eq];show 2≤9223372036854775807;decide⟩ (b:=re) ⟨by omega,by omega,by omega,by omega⟩ o10 r4 ndsS_all (by
          have q4:(ndsS [turn own tl p,e2]).flatten=ndS (turn own tl p)++ndS e2:=by simp[ndsS]
          have q5 : [nd,b0].flatMap n5V=n5V nd++n5V b0:=by simp
          rw[q4,q5]
          exact SVRs.app (hs7.mv fun b hb=>⟨⟨by omega,hb.2,by omega,by omega⟩,rfl⟩) (hse.mv fun b hb=>⟨⟨by omega,by omega,by omega,by omega⟩,h75 b (by omega) (hore b hb.2.2)⟩)) (fun _=>by rfl)
         rw[ndsS_len] at q3
         exact q3
        ·rw[htc,turnC,if_pos ⟨rfl,rfl⟩]
         simp[turnX,turnL]
     ·have hcall:=turn_ok (M:=M+N*(C+2)) hB N (.mk pk pl px po pks) hht hlt hkt hxt K5 (fun b=>m≤b∧b<m2) (n5V a) (fr2 8) own tl hst (fun b hb=>by omega) (by omega) hNL5 hMn (by omega)
      have hfin : ∀(K6:CH) (nd:N5),HExt K5 K6→SVRs K6 (fun b=>K5.nx≤b∧b<K6.nx) (ndS (turn own tl (.mk pk pl px po pks))) (n5V nd)→DtJ K K2 r hi kd' ns acc own tl (ns.length-(j+1)) (.bool fb) (.int .i64 ((j+1:Nat):Int)) (K6.set r (.cells (setCells cs (j*5) (n5V nd)) 26 kd')):=by
       intro K6 nd hx6 hs6
       have hn6:=hx6.nx
       refine⟨j+1,m2,fb,dn++ [turn own tl (.mk pk pl px po pks)],da++ [nd],rfl,hjl,rfl,rfl,by show K2.nx≤K6.nx;omega,fun b h1 h2 h3=>(set_ne' h2).trans ((hx6.ob b (by omega)).trans (hfr b h1 h2 h3)),?_,by simp[hda],by simp[hdn],by omega,hrest.mv fun b h1 h2=>(set_ne' (by omega)).trans (hx6.ob b (by omega)),?_,?_⟩
       ·rw[set_get,if_pos rfl,←hcs,set5 hda]
        simp
       ·rw[ndsS_app,List.flatten_append,List.flatMap_append]
        refine SVRs.app (hS5.mv fun b hb=>⟨⟨hb.1,by show b<K6.nx;omega,hb.2.2.1,by omega⟩,(set_ne' hb.2.2.1).trans (hx6.ob b hb.2.1)⟩) ?_
        have e1:(ndsS [turn own tl (.mk pk pl px po pks)]).flatten=ndS (turn own tl (.mk pk pl px po pks)):=by simp[ndsS]
        have e2 : [nd].flatMap n5V=n5V nd:=by simp
        rw[e1,e2]
        exact hs6.mv fun b hb=>⟨⟨by omega,by show b<K6.nx;omega,by omega,by omega⟩,set_ne' (by omega)⟩
       ·rw[htc,turnC,if_neg hf]
        simp
      by_cases h58:pk=58
      ·have hfb:fb=false:=by
        cases fb
        ·rfl
        ·exact absurd ⟨h58,rfl⟩ hf
       have ak:a.k=58:=by omega
       subst hfb
       refine rn (an @hag3 (an @hag2 (an @hag (an @f3 (an @f11 (an @f12 (an @o3'' (an @o7 (an @q0 (an @ak (an @hgrp @Nat.zero_add))))))))))) ?_
       unfold n5V at hcall
       rw[ak] at hcall
       refine hcall.mono fun v6 K6 ⟨hx6,os6,e6,hs6⟩=> ?_
       subst e6
       obtain⟨nd,rfl⟩:=nd_n5 hs6
       have o8:=(hx6.ob K.nx (by omega)).trans o3''
       have o9:=(hx6.ob r (by omega)).trans o7
       repeat' (first | (simp (disch:=first | omega | (decide +kernel)) only[↓seqK_n,↓blockK_n,↓loopI_n,↓r_reg,↓i_cons,↓eitemK,↓e_nil,↓e_cons,↓drwK,↓chk_nil,↓chk_n,agL,agE,accW_t,accW_f,isW,↓itemK,↓o_p,↓o_l,↓o_w,↓putF_get,↓putF_none,↓evF_t,↓evF_c,optV_some,optW_some,↓wpI_nil,b_add,w_i64,pop,lop,wop,isVal,isCell,Value.cells,↓reduceIte,Nat.reduceEqDiff,Nat.reduceAdd,List.getElem?_cons_zero,List.getElem?_cons_succ,List.length_cons,List.length_nil,List.cons_append,List.nil_append,List.all_cons,List.all_nil,Bool.and_true,List.size_toArray,List.toList_toArray,if_pos,Nat.zero_add,Int.toNat_natCast,true_and,and_true,hag3,hag2,hag,f3,f11,f12,o3'',o8,o9,n5V,Nat.zero_add,g4]) | (with_reducible first | refine condK_dec (fun _=> ?_) fun _=> ?_ | refine grd_dec (fun _=> ?_) fun _=> ?_ | refine egrd_dec (fun _=> ?_) fun _=> ?_))
       exact⟨ns.length-(j+1),by omega,hfin K6 nd hx6 hs6⟩
      ·have ak1:a.k≠58:=by omega
       refine rn (an @hag3 (an @hag2 (an @hag (an @f3 (an @f11 (an @f12 (an @o3'' (an @o7 (an @q0 (an @ak1 (an @hgrp @Nat.zero_add))))))))))) ?_
       unfold n5V at hcall
       refine hcall.mono fun v6 K6 ⟨hx6,os6,e6,hs6⟩=> ?_
       subst e6
       obtain⟨nd,rfl⟩:=nd_n5 hs6
       have o8:=(hx6.ob K.nx (by omega)).trans o3''
       have o9:=(hx6.ob r (by omega)).trans o7
       repeat' (first | (simp (disch:=first | omega | (decide +kernel)) only[↓seqK_n,↓blockK_n,↓loopI_n,↓r_reg,↓i_cons,↓eitemK,↓e_nil,↓e_cons,↓drwK,↓chk_nil,↓chk_n,agL,agE,accW_t,accW_f,isW,↓itemK,↓o_p,↓o_l,↓o_w,↓putF_get,↓putF_none,↓evF_t,↓evF_c,optV_some,optW_some,↓wpI_nil,b_add,w_i64,pop,lop,wop,isVal,isCell,Value.cells,↓reduceIte,Nat.reduceEqDiff,Nat.reduceAdd,List.getElem?_cons_zero,List.getElem?_cons_succ,List.length_cons,List.length_nil,List.cons_append,List.nil_append,List.all_cons,List.all_nil,Bool.and_true,List.size_toArray,List.toList_toArray,if_pos,Nat.zero_add,Int.toNat_natCast,true_and,and_true,hag3,hag2,hag,f3,f11,f12,o3'',o8,o9,n5V,Nat.zero_add,g4]) | (with_reducible first | refine condK_dec (fun _=> ?_) fun _=> ?_ | refine grd_dec (fun _=> ?_) fun _=> ?_ | refine egrd_dec (fun _=> ?_) fun _=> ?_))
       exact⟨ns.length-(j+1),by omega,hfin K6 nd hx6 hs6⟩
    ·have hjl:j=ns.length:=by omega
     subst hjl
     refine rn (an @hag3 (an @hag2 (an @hag (an @f3 (an @f4 (an @f12 (an @o3'' @o4''))))))) ?_
     rw[List.drop_length] at htc
     rw[List.drop_eq_nil_of_le (by omega),List.append_nil] at o7
     have htc:turnC own tl true ns=dn:=by rw[htc,turnC,List.append_nil]
     rw[htc] at hwC
     rw[hwC]
     refine⟨⟨by show K.nx≤K5.nx;omega,fun b hb hc=>(set_ne' (by omega)).trans ((hfr b (by omega) (by omega) (by omega)).trans ((hx2.ob b (by omega)).trans (hx1.ob b hb hc)))⟩,(set_ne' (by omega)).trans ((hfr bc (by omega) (by omega) (by omega)).trans ((hx2.ob bc (by omega)).trans hw1.c)),⟨(tk:Nat),ln,tx x,(o:Nat),some ⟨r,0,none⟩,acc.length,acc.length⟩,rfl,rfl,rfl,rfl,rfl,da,by show da.length=dn.length;omega, .inr ⟨r,kd',by rw[hda,hal],by omega,by show r<K5.nx;omega,(set_ne' (by omega)).trans o7,g4⟩,fun e=> ?_,?_⟩
     ·have e:dn= []:=e
      rw[e] at hdn
      simp at hdn
      omega
     ·exact hS5.mv fun b hb=>⟨⟨by omega,by show b<K5.nx;omega,fun o n c e=>by cases e;exact hb.2.2.1 rfl⟩,set_ne' (by omega)⟩
  ·rw[if_neg hcm] at hnb hc0
   subst hnb hc0
   refine rn (an @hag (an @f3 (an @f4 (an @f5 (an @f7 (an @o3 @o4)))))) ?_
   refine⟨⟨by show K.nx≤K1.nx;omega,fun b hb hc=>(set_ne' (by omega)).trans (hx1.ob b hb hc)⟩,?_,⟨(tk:Nat),ln,tx x,(o:Nat),vq,acc.length,acc.length⟩,rfl,?_⟩
   ·rw[renD_no itT hcm,e1]
    exact(set_ne' (by omega)).trans hw1.c
   ·rw[renD_no itT hcm,e1]
    refine⟨rfl,rfl,rfl,rfl,acc,hal,?_,fun e=> ?_,?_⟩
    ·rcases hG with ⟨g1,g2⟩ | ⟨b',kd',g,g1,g2,g3,g4⟩
     ·exact .inl ⟨g1,g2⟩
     ·exact .inr ⟨b',kd',g,by have:hi≤b':=g1;omega,g2,(set_ne' (by have:hi≤b':=g1;omega)).trans g3,g4⟩
    ·exact hnil1 e
    ·exact(hKd.s hkk).mv fun b hb=>⟨⟨by omega,by show b<K1.nx;omega,hgo b hb.2⟩,set_ne' (by omega)⟩
theorem drn_ok{B M C bc:Nat}(hB:B+16≤4398046511104)(hC:C≤1099511627776) : ∀N,M+N*(C+2)≤2305843009213693952→DrOk B M C bc N
 | 0,_=>fun t h=>by cases t;simp[htN] at h
 | N+1,hM=>drn_step hB hC hM (drn_ok hB hC N (by rw[Nat.succ_mul] at hM;omega))
abbrev ren7(t:Nd):Nd:=(renD itT 0 t).1
theorem ref_rename_wp{B M C:Nat}(hB:B+16≤4398046511104)(hC:C≤1099511627776){t:Nd}(hh:htN t≤1000)(hM:M+1000*(C+2)≤2305843009213693952)(hz:szN t≤C)(hlf:lfN t)(hK:kdN B t)(hT:txB M t){K:CH}{A:Nat→Prop}{os:List Value}(hs:SVRs K A (ndS t) os)(hA : ∀b,A b→b<K.nx)(hp:PowAt K):WpF TRn 11 [.agg os.toArray] K fun v K'=>HExt K K'∧∃os',v= .agg os'.toArray∧SVRs K' (fun b=>K.nx≤b∧b<K'.nx) (ndS (ren7 t)) os':=by
 obtain⟨nt,hnt⟩:=nd_n5 hs
 have hl5:os.length=5:=by rw[hnt];rfl
 have hc5:os.all isCell=true:=by rw[hnt];rfl
 have ht5:List.take 5 os=os:=List.take_of_length_le (by omega)
 refine wpF_rS (by rfl) (by kernel_rfl) ?_;(conv in (rF _ _).body=>reduce);(conv in (rF _ _).res=>reduce)
 refine rn (an @hl5 (an @hc5 @ht5)) ?_
 refine(drn_ok (M:=M) (C:=C) (bc:=K.nx+1+1) hB hC 1000 hM t hh hlf hK hT _ A os 0 (hs.mv fun b hb=>⟨hb,by have:=hA b hb;exact rz0⟩) (fun b hb=>⟨Nat.lt_of_lt_of_le (hA b hb) (by first | omega | (simp only[new_nx,set_nx];omega)),by have:=hA b hb;omega⟩) ⟨by(refine rn0 ?_;all_goals rfl),(by first | omega | (simp only[new_nx,set_nx];omega)),hp.hx (by(repeat (first | assumption | exact HExt.refl _ | (refine HExt.set ?_ (by first | omega | (simp only[new_nx,set_nx];omega)) _) | (refine HExt.new ?_ _))))⟩ (by omega)).mono fun v K2 ⟨hx2,o2,a,ev,hnd⟩=> ?_
 subst ev
 have hn2:K.nx+1+1+1≤K2.nx:=hx2.nx
 have o1:K2.ob (K.nx+1)= .cells [.int .i64 0, .int .i64 0, .string ⟨⟨[]⟩⟩, .int .i64 0, .slice none 0 0] 26 .ex:=(hx2.ob (K.nx+1) (by first | omega | (simp only[new_nx,set_nx];omega)) (by omega)).trans (by(exact rz0;all_goals rfl))
 have hxK:HEx (K.nx+1+1) K K2:=HEx.trans (HExt.ex (by(repeat (first | assumption | exact HExt.refl _ | (refine HExt.set ?_ (by first | omega | (simp only[new_nx,set_nx];omega)) _) | (refine HExt.new ?_ _))))) hx2
 have hkk:(renD itT 0 t).1.kids.length≤2199023255552:=by
  have h1:=nk_ren itT 0 t
  have h2:kdN B (renD itT 0 t).1:=(nk_kd B _).1 (h1▸(nk_kd B _).2 hK)
  cases hr:(renD itT 0 t).1 with
  | mk k l x o ks=>
    rw[hr] at h2
    have:=h2.1
    show ks.length≤_
    omega
 have hs2:=hnd.s hkk
 repeat' (first | (simp (disch:=first | omega | (decide +kernel)) only[↓RD,RU,↓putF_get,↓putF_none,↓evF_t,set_nx,set_get,lop,wop,resL,resV,tupleV,isVal,isCell,Value.cells,↓reduceIte,Nat.reduceEqDiff,Nat.reduceAdd,ρ7,ρ8,ρ15,ρ17,ρ18,ρ21,ρ22,ρ23,Kd.isRo,ρ25,ρ26,n5V,o1]) | (with_reducible first | refine condK_dec (fun _=> ?_) fun _=> ?_ | refine grd_dec (fun _=> ?_) fun _=> ?_ | refine egrd_dec (fun _=> ?_) fun _=> ?_))
 refine⟨(hxK.ext (by omega)).set (by omega) _,n5V a,rfl,hs2.mv fun b hb=> ?_⟩
 have hb1:K.nx+1+1+1≤b:=hb.1
 exact⟨⟨by omega,hb.2⟩,set_ne' (by omega)⟩
end Can
end Go.Proofs.YticlaccbodpkeaaGreatDoor
end
section
namespace Go.Proofs.YticlaccbodpkeaaGreatDoor
namespace Can
mutual
def shN:Nd→Prop
 | .mk k _ x _ ks=>x.length≤20000∧(k=7→ks.length=3)∧shL ks
def shL:List Nd→Prop
 | []=>True
 | n::ks=>shN n∧shL ks
end
end Can
end Go.Proofs.YticlaccbodpkeaaGreatDoor
end
section
namespace Go.Proofs.YticlaccbodpkeaaGreatDoor
namespace Can
set_option linter.unusedSimpArgs false
set_option linter.unusedVariables false
theorem leafK_ne(k:Int):leafK k=7→False:=by
 unfold leafK
 (repeat' split)<;>decide
theorem shL_app : ∀ {a b:List Nd},shL (a++b)↔shL a∧shL b
 | [],b=>by simp[shL]
 | n::a,b=>by simp only[List.cons_append,shL,shL_app,and_assoc]
def TB:PR→Prop
 | some (.ok (l,j))=>shL l
 | _=>True
theorem tb_if{c:Prop}[Decidable c]{a b:PR}(h1:TB a)(h2:TB b):TB (if c then a else b):=by
 split
 ·exact h1
 ·exact h2
theorem tb_wantB{ts:List PT}{s:List UInt8}{i:Nat}{k:Nat→PR}(h:TB (k (i+1))):TB (wantB ts s i k):=tb_if h trivial
theorem tb_wantK{ts:List PT}(hts : ∀i,(nowT ts i).text.length≤20000){kd:Int}{i:Nat}{k:List UInt8→Nat→PR}(h : ∀x,x.length≤20000→TB (k x (i+1))):TB (wantK ts kd i k):=tb_if (h _ (hts i)) trivial
theorem tb_pb{r:PR}{k:List Nd→Nat→PR}(h:TB r)(hk : ∀l j,shL l→TB (k l j)):TB (pb r k):=by
 match r,h with
 | none,_=>exact trivial
 | some (.error e),_=>exact trivial
 | some (.ok (l,j)),h=>exact hk l j h
theorem tb_pb1{r:PR}{k:Nd→Nat→PR}(h:TB r)(hk : ∀n j,shN n→TB (k n j)):TB (pb1 r k):=tb_pb h fun l j h2=>by
 match l,h2 with
 | [],_=>exact trivial
 | _::_::_,_=>exact trivial
 | [n],h2=>exact hk n j h2.1
theorem tb_er{e:Nat}:TB (some (.error e)):=trivial
theorem tb_ok{j:Nat}{l:List Nd}(h2:shL l):TB (some (.ok (l,j))):=h2
theorem tb_pk{j:Nat}{n:Nd}(h2:shN n):TB (pk1 n j):=⟨h2,trivial⟩
def NT.tx:NT→Prop
 | .names k _ acc=>k≠7∧shL acc
 | .params _ _ acc | .row _ acc | .exprsL _ acc | .clauses acc | .dictL _ acc | .placesL _ acc | .asgL _ acc | .blockL acc | .triesL acc | .top acc | .triesF _ acc=>shL acc
 | .cmpL n acc=>shN n∧shL acc
 | .orL n | .andL n | .arithL n | .termL n | .primL n | .index n=>shN n
 | .maybe k _ _=>k≠7
 | _=>True
def TxOk (ts:List PT)(f:Nat):Prop:=∀a i,a.tx→TB (gr ts f a i)
theorem tb_op{ts:List PT}{p:Nat}{A:PR}{B:Nat→Nat→PR}(hA:TB A)(hB : ∀op j,TB (B op j)):TB (match opT ts p with | .error e=>some (.error e) | .ok (0,_)=>A | .ok (op+1,j)=>B op j):=by
 match opT ts p with
 | .error e=>exact trivial
 | .ok (0,_)=>exact hA
 | .ok (op+1,j)=>exact hB op j
set_option maxHeartbeats 4000000 in
theorem gr_tx{ts:List PT}(hts : ∀i,(nowT ts i).text.length≤20000) : ∀f,TxOk ts f:=by
 intro f
 induction f with
 | zero=>intro a i h;exact trivial
 | succ f ih=>
 have hm : ∀(all:Bool) i,TB (gr ts f (if all=true then .exprs else .expr) i):=fun all i=>by
  cases all
  ·exact ih .expr i trivial
  ·exact ih .exprs i trivial
 have h1 : ∀a i,a.tx→TB (gr ts f a i):=ih
 intro a i ha
 cases a
 case asgL l acc=>
  simp only[gr]
  refine tb_if ?_ (tb_pk ⟨Nat.zero_le _,fun h=>absurd h (by decide),ha⟩)
  cases hq:acc.getLast? with
  | none=>exact trivial
  | some n=>exact tb_if (tb_pb1 (ih .value (i+1) trivial) fun v j hv=>ih _ _ (shL_app.2 ⟨ha,hv,trivial⟩)) trivial
 case cmpL n acc=>
  obtain⟨hn,ha1⟩:=ha
  simp only[gr]
  refine tb_op (tb_pk ?_) fun op j=>tb_pb1 (ih .arith j trivial) fun m k hm=>ih _ _ ⟨hn,shL_app.2 ⟨ha1,⟨Nat.zero_le _,fun h=>absurd h (by decide),hm,trivial⟩,trivial⟩⟩
  split
  ·exact hn
  ·exact⟨Nat.zero_le _,fun h=>absurd h (by decide),hn,ha1⟩
 all_goals simp only[NT.tx] at ha
 all_goals simp only[gr]
 all_goals (repeat' first
  | exact tb_er
  | (with_reducible refine tb_if ?_ ?_)
  | (with_reducible refine tb_op ?_ fun op j=> ?_)
  | (with_reducible refine tb_wantB ?_)
  | (with_reducible refine tb_wantK hts fun x hx=> ?_)
  | (with_reducible refine tb_pb1 (hm _ _) fun n j hn=> ?_)
  | (with_reducible refine tb_pb1 (h1 _ _ ?_) fun n j hn=> ?_)
  | (with_reducible refine tb_pb (h1 _ _ ?_) fun l j hl=> ?_)
  | (with_reducible refine tb_pk ?_)
  | (with_reducible refine tb_ok ?_)
  | (with_reducible refine h1 _ _ ?_)
  | (with_reducible assumption)
  | exact True.intro
  | exact Nat.zero_le _
  | decide
  | exact hts _
  | exact leafK_ne _
  | (obtain⟨ha1,ha2⟩:=ha)
  | (simp only[NT.tx,shL,shN,shL_app,and_true,true_and,ne_eq,List.length_nil,Nat.zero_le,List.length_cons,implies_true,Nat.reduceEqDiff,Nat.reduceAdd,reduceCtorEq,not_false_eq_true,false_implies])
  | (refine⟨?_,?_⟩)
  | (intro h7;omega))
end Can
end Go.Proofs.YticlaccbodpkeaaGreatDoor
end
section
namespace Go.Proofs.YticlaccbodpkeaaGreatDoor
namespace Can
set_option linter.unusedSimpArgs false
set_option linter.unusedVariables false
theorem strN_tx{q:Nat} : ∀ {f:Nat} {l s:List UInt8} {n:Nat},strN q f l=some (s,n)→s.length≤n
 | 0,_,_,_,h=>by cases h
 | f+1,l,s,n,h=>by
   simp only[strN] at h
   split at h
   ·cases h;simp
   ·split at h
    ·cases h
    ·split at h
     ·rw[Option.map_eq_some_iff] at h
      obtain⟨⟨y,m⟩,h1,h2⟩:=h
      cases h2
      have:=strN_tx h1
      simp only[List.length_cons];omega
     ·split at h
      ·rw[Option.map_eq_some_iff] at h
       obtain⟨⟨y,m⟩,h1,h2⟩:=h
       cases h2
       have:=strN_tx h1
       simp only[List.length_cons];omega
      ·cases h
theorem tokT_tx{l:List UInt8}{k n:Nat}{x:List UInt8}(h:tokT l=some (k,x,n)):x.length≤l.length:=by
 have hn:=(tokT_len h).2
 unfold tokT at h
 split at h
 ·cases h;rw[List.length_take];omega
 ·split at h
  ·split at h
   ·cases h
   ·cases h;rw[List.length_take];omega
  ·split at h
   ·rw[Option.map_eq_some_iff] at h
    obtain⟨⟨y,m⟩,h1,h2⟩:=h
    cases h2
    have:=strN_tx h1
    simp only at hn⊢
    omega
   ·rw[Option.map_eq_some_iff] at h
    obtain⟨m,h1,h2⟩:=h
    cases h2
    rw[List.length_take];omega
theorem toks_tx{line:Nat} : ∀ {f:Nat} {t:List UInt8} {d d':Nat} {x:List Tok},toks line f t d=some (x,d')→∀y∈x,y.text.length≤t.length
 | 0,_,_,_,_,h=>by cases h
 | f+1,t,d,d',x,h=>by
   simp only[toks] at h
   split at h
   ·cases h
    intro y hy;cases hy
   ·cases ht:tokT (t.drop (blkN t)) with
    | none=>rw[ht] at h;cases h
    | some z=>
      obtain⟨k,y,n⟩:=z
      rw[ht] at h
      simp only at h
      rw[Option.map_eq_some_iff] at h
      obtain⟨⟨w,e⟩,h1,h2⟩:=h
      cases h2
      have h3:=tokT_tx ht
      have h4:=toks_tx h1
      intro v hv
      rcases List.mem_cons.1 hv with rfl | hv
      ·simp only[List.length_drop] at h3⊢;omega
      ·have:=h4 v hv
       simp only[List.length_drop] at this;omega
theorem rowT_tx{line d d':Nat}{t:List UInt8}{st st':List Nat}{x:List Tok}(h:rowT line t d st= .ok (x,d',st')) : ∀y∈x,y.text.length≤t.length:=by
 unfold rowT at h
 split at h
 ·cases h;intro y hy;cases hy
 ·split at h
  ·cases h
  ·split at h
   ·cases h
   ·rename_i ts d1 ht
    cases h
    intro y hy
    simp only[List.mem_append] at hy
    rcases hy with (hy | hy) | hy
    ·split at hy
     ·unfold indT at hy
      split at hy
      ·simp at hy;rw[hy];simp
      ·rw[List.eq_of_mem_replicate hy];simp
     ·cases hy
    ·exact toks_tx ht y hy
    ·split at hy
     ·simp at hy;rw[hy];simp
     ·cases hy
theorem rowsT_tx{B:Nat} : ∀ {ts:List (List UInt8)} {line d:Nat} {st st':List Nat} {x:List Tok},rowsT line ts d st= .ok (x,st')→(∀t∈ts,t.length≤B)→∀y∈x,y.text.length≤B
 | [],line,d,st,st',x,h,_=>by cases h;intro y hy;cases hy
 | t::ts,line,d,st,st',x,h,hB=>by
   rw[rowsT_cons] at h
   cases hr:rowT line t d st with
   | error e=>rw[hr] at h;cases h
   | ok q=>
     obtain⟨x1,d1,st1⟩:=q
     rw[hr] at h
     simp only at h
     cases hq:rowsT (line+1) ts d1 st1 with
     | error e=>rw[hq] at h;cases h
     | ok w=>
       rw[hq] at h
       cases h
       intro y hy
       rcases List.mem_append.1 hy with hy | hy
       ·exact Nat.le_trans (rowT_tx hr y hy) (hB t (by simp))
       ·exact rowsT_tx hq (fun u hu=>hB u (by simp[hu])) y hy
theorem mem_sum{t:List UInt8} : ∀ {ts:List (List UInt8)},t∈ts→t.length+ts.length≤(ts.map List.length).sum+ts.length
 | a::ts,h=>by
   rcases List.mem_cons.1 h with rfl | h
   ·simp only[List.map_cons,List.sum_cons];omega
   ·have:=mem_sum h
    simp only[List.map_cons,List.sum_cons,List.length_cons];omega
theorem lexT_tx{src:List UInt8}{ts:List Tok}(h:lexT src= .ok ts) : ∀y∈ts,y.text.length≤20000:=by
 unfold lexT at h
 split at h
 ·cases h
 ·cases hq:rowsT 1 (splitN src) 0 [0] with
  | error e=>rw[hq] at h;cases h
  | ok w=>
    obtain⟨x,st⟩:=w
    rw[hq] at h
    cases h
    have h2:=splitN_sum (src:=src)
    intro y hy
    rcases List.mem_append.1 hy with hy | hy
    ·refine rowsT_tx hq (fun t ht=> ?_) y hy
     have h3:=mem_sum ht
     have h4:0<(splitN src).length:=List.length_pos_of_mem ht
     omega
    ·unfold endT at hy
     rcases List.mem_append.1 hy with hy | hy
     ·rw[List.eq_of_mem_replicate hy];simp
     ·simp at hy;rw[hy];simp
end Can
end Go.Proofs.YticlaccbodpkeaaGreatDoor
end
section
namespace Go.Proofs.YticlaccbodpkeaaGreatDoor
namespace Can
set_option linter.unusedSimpArgs false
set_option linter.unusedVariables false
theorem now_tx{ts:List PT}(h : ∀t∈ts,t.text.length≤20000)(i:Nat):(nowT ts i).text.length≤20000:=by
 unfold nowT
 split
 ·rename_i t ht
  exact h t (List.mem_of_getElem? ht)
 ·split
  ·exact Nat.zero_le _
  ·exact Nat.zero_le _
mutual
theorem sh_txD : ∀n:Nd,shN n→txD n
 | .mk k l x o ks,h=>⟨Nat.le_trans h.1 (by omega),sh_txDL ks h.2.2⟩
theorem sh_txDL : ∀ks:List Nd,shL ks→txDL ks
 | [],_=>trivial
 | n::ks,h=>⟨sh_txD n h.1,sh_txDL ks h.2⟩
end
def SmN (t:Nd):Prop:=kdN 100000 t∧htN t≤1000∧szN t≤1125899906842624∧txD t
theorem src_small(src:List UInt8):SmN (sourceT src).1:=by
 have hz:SmN zNd:=⟨⟨Nat.zero_le _,trivial⟩,by decide,by decide,⟨Nat.zero_le _,trivial⟩⟩
 unfold sourceT
 cases hL:lexT src with
 | error y=>exact hz
 | ok ts=>
   have hlen:=lexT_len hL
   have htx:=lexT_tx hL
   show SmN (parseT (ts.map ptT)).1
   generalize hts:ts.map ptT=us
   have hul:us.length≤100000:=by rw[←hts,List.length_map];exact hlen
   have hut : ∀t∈us,t.text.length≤20000:=by
    rw[←hts]
    intro t ht
    obtain⟨y,hy,rfl⟩:=List.mem_map.1 ht
    exact htx y hy
   have h1:=gr_tx (now_tx hut) (us.length*64+100) (.top []) 0 trivial
   have h2:=gr_ht (ts:=us) (us.length*64+100) (.top []) 0 (by first | trivial | simp[NT.good]) (Nat.zero_le _) (by simp only[NT.rank];omega)
   have h3:=gr_gd (ts:=us) (us.length*64+100) (.top []) 0 (by first | trivial | simp[NT.good]) (Nat.zero_le _) (by simp only[NT.rank];omega)
   have h4:=gr_kd (ts:=us) (us.length*64+100) (.top []) 0 ⟨trivial,by simp⟩
   unfold parseT
   generalize gr us (us.length*64+100) (.top []) 0=r at h1 h2 h3 h4
   match r,h1,h2,h3,h4 with
   | none,_,_,_,_=>exact hz
   | some (.error e),_,_,_,_=>exact hz
   | some (.ok (l,j)),h1,h2,h3,h4=>
     simp only
     split
     ·exact hz
     ·have h5:szL l+64*0+0≤0+64*j+0:=h2
      have h6:j≤us.length:=h3.2.1
      refine⟨⟨?_,kdL_up h4.2.1 (by omega)⟩,?_,?_,⟨Nat.zero_le _,sh_txDL _ h1⟩⟩
      ·have:=h4.2.2
       omega
      ·show htL l+1≤1000
       omega
      ·show szL l+1≤_
       omega
end Can
end Go.Proofs.YticlaccbodpkeaaGreatDoor
end
section
namespace Go.Proofs.YticlaccbodpkeaaGreatDoor
namespace Can
set_option linter.unusedSimpArgs false
set_option linter.unusedVariables false
theorem eKs_app{a b:List Nd}:eKs (a++b)↔eKs a∧eKs b:=by simp only[eKs,List.mem_append];exact⟨fun h=>⟨fun n hn=>h n (.inl hn),fun n hn=>h n (.inr hn)⟩,fun h n hn=>hn.elim (h.1 n) (h.2 n)⟩
theorem eKs_cons{n:Nd}{b:List Nd}:eKs (n::b)↔eK n∧eKs b:=by simp only[eKs,List.mem_cons,forall_eq_or_imp]
theorem eKs_nil:eKs []:=fun n hn=>by cases hn
theorem cKs_app{a b:List Nd}:cKs (a++b)↔cKs a∧cKs b:=by simp only[cKs,List.mem_append];exact⟨fun h=>⟨fun n hn=>h n (.inl hn),fun n hn=>h n (.inr hn)⟩,fun h n hn=>hn.elim (h.1 n) (h.2 n)⟩
theorem cKs_cons{n:Nd}{b:List Nd}:cKs (n::b)↔(n.kind=58∨n.kind=59)∧cKs b:=by simp only[cKs,List.mem_cons,forall_eq_or_imp]
theorem cKs_nil:cKs []:=fun n hn=>by cases hn
theorem nmKs_app{a b:List Nd}:nmKs (a++b)↔nmKs a∧nmKs b:=by simp only[nmKs,List.mem_append];exact⟨fun h=>⟨fun n hn=>h n (.inl hn),fun n hn=>h n (.inr hn)⟩,fun h n hn=>hn.elim (h.1 n) (h.2 n)⟩
theorem nmKs_cons{n:Nd}{b:List Nd}:nmKs (n::b)↔n.kind=36∧nmKs b:=by simp only[nmKs,List.mem_cons,forall_eq_or_imp]
theorem nmKs_nil:nmKs []:=fun n hn=>by cases hn
theorem placesN_app : ∀ {a b:List Nd},placesN (a++b)=(placesN a&&placesN b)
 | [],b=>by simp[placesN]
 | n::a,b=>by simp only[List.cons_append,placesN,placesN_app,Bool.and_assoc]
theorem wfN_mk{k:Nat}{l:Int}{x:List UInt8}{o:Nat}{ks:List Nd}:wfN (.mk k l x o ks)↔shp k x o ks∧wfL ks:=Iff.rfl
theorem nd_mk{k:Nat}{l:Int}{ks:List Nd}:nd k l ks= .mk k l [] 0 ks:=rfl
theorem eK_mk{k:Nat}{l:Int}{x:List UInt8}{o:Nat}{ks:List Nd}:eK (.mk k l x o ks)↔30≤k∧k≤57∧k≠43∧k≠48:=Iff.rfl
theorem kd_mk{k:Nat}{l:Int}{x:List UInt8}{o:Nat}{ks:List Nd}:(Nd.mk k l x o ks).kind=k:=rfl
def TokOk(ts:List PT):Prop:=∀(i:Nat) (k:Nat),(nowT ts i).kind=k→4≤k→k≤7→tokOK k (nowT ts i).text
theorem xE_1{n:Nd}:xE [n]↔wfN n∧eK n:=⟨fun⟨m,e,h⟩=>by cases e;exact h,fun h=>⟨n,rfl,h⟩⟩
theorem xP_1{n:Nd}:xP [n]↔wfN n∧eK n∧placeN n=true:=⟨fun⟨m,e,h⟩=>by cases e;exact h,fun h=>⟨n,rfl,h⟩⟩
theorem xV_1{n:Nd}:xV [n]↔wfN n∧vK n:=⟨fun⟨m,e,h⟩=>by cases e;exact h,fun h=>⟨n,rfl,h⟩⟩
theorem xS_1{n:Nd}:xS [n]↔wfN n∧sK n:=⟨fun⟨m,e,h⟩=>by cases e;exact h,fun h=>⟨n,rfl,h⟩⟩
theorem xK_1{k:Nat}{n:Nd}:xK k [n]↔wfN n∧n.kind=k:=⟨fun⟨m,e,h⟩=>by cases e;exact h,fun h=>⟨n,rfl,h⟩⟩
theorem sK_mk{k:Nat}{l:Int}{x:List UInt8}{o:Nat}{ks:List Nd}:sK (.mk k l x o ks)↔2≤k∧k≤20:=Iff.rfl
theorem tw_mono{P Q:List Nd→Prop}{r:PR}(h:TW P r)(hq : ∀l,P l→Q l):TW Q r:=by
 match r,h with
 | none,_=>exact trivial
 | some (.error e),_=>exact trivial
 | some (.ok (l,j)),h=>exact hq l h
theorem tw_wantN{ts:List PT}(hts:TokOk ts){i:Nat}{P:List Nd→Prop}{k:List UInt8→Nat→PR}(h : ∀x,tokOK 4 x→TW P (k x (i+1))):TW P (wantK ts 4 i k):=tw_wantK fun hk=>h _ (hts i 4 hk (by omega) (by omega))
theorem augT_le(ts:List PT)(i:Nat):augT ts i≤7:=by
 unfold augT
 (repeat' split)<;>omega
section
variable {ts:List PT} {f:Nat}
set_option maxHeartbeats 4000000 in
theorem wf_plain(hts:TokOk ts)(ih:WfOk ts f)(i:Nat)(h:NT.inp ts i .plain):TW (NT.out ts i .plain) (gr ts (f+1) .plain i):=by
 have h1 : ∀a i,a.inp ts i→TW (a.out ts i) (gr ts f a i):=ih
 simp only[gr]
 refine tw_pb1 (h1 .exprs i trivial) fun n j hn=> ?_
 have hn:=xE_1.1 hn
 refine tw_if (fun hc=>tw_mono (h1 (.asgL n.line [n]) j ⟨⟨hn.1,trivial⟩,⟨[],n,rfl, .inl hn.2,fun m hm=>by cases hm⟩, .inr hc⟩) fun l hl=>hl) fun hc=>tw_if (fun h0=>tw_pk ?_) fun h0=>tw_if (fun hs=>tw_pb1 (h1 .exprs _ trivial) fun m k hm=>tw_pk ?_) fun _=>tw_er
 ·clear h1 ih
  refine xS_1.2 ?_
  simp_all [nd_mk,wfN_mk,wfL,wfL_app,shp,eK_mk,sK_mk,kd_mk,vK,eKs_app,eKs_cons,eKs_nil,placesN,placesN_app,placeN,and_assoc,hdKs,List.mem_append,List.mem_singleton,or_imp,forall_and,forall_eq]
 ·clear h1 ih
  have hm:=xE_1.1 hm
  refine xS_1.2 ?_
  have ha:=augT_le ts j
  have hb:1≤augT ts j:=by omega
  clear h0
  simp_all [nd_mk,wfN_mk,wfL,wfL_app,shp,eK_mk,sK_mk,kd_mk,vK,eKs_app,eKs_cons,eKs_nil,placesN,placesN_app,placeN,and_assoc,hdKs,List.mem_append,List.mem_singleton,or_imp,forall_and,forall_eq]
set_option maxHeartbeats 4000000 in
theorem wf_clauses(hts:TokOk ts)(ih:WfOk ts f)(acc:List Nd)(i:Nat)(h:NT.inp ts i (.clauses acc)):TW (NT.out ts i (.clauses acc)) (gr ts (f+1) (.clauses acc) i):=by
 have h1 : ∀a i,a.inp ts i→TW (a.out ts i) (gr ts f a i):=ih
 rcases acc with _ | ⟨c0,acc⟩
 all_goals simp only[gr]
 all_goals repeat' (first
  | exact tw_er
  | with_reducible refine tw_if (fun hc=> ?_) (fun hc=> ?_)
  | with_reducible refine tw_wantB ?_
  | with_reducible refine tw_wantN hts fun x hx=> ?_
  | with_reducible refine tw_wantK fun hk=> ?_
  | with_reducible refine tw_pb1 (h1 _ _ ?_) fun n j hn=> ?_
  | with_reducible refine tw_pb (h1 _ _ ?_) fun l j hl=> ?_
  | with_reducible refine tw_pk ?_
  | with_reducible refine tw_ok ?_
  | with_reducible refine tw_mono (h1 _ _ ?_) fun l hl=> ?_)
 all_goals clear h1 ih
 all_goals simp only[NT.out,NT.inp,xE_1,xP_1,xV_1,xS_1,xK_1] at *
 all_goals first | assumption | trivial | (simp_all [nd_mk,wfN_mk,wfL,wfL_app,shp,eK_mk,sK_mk,kd_mk,vK,eKs_app,eKs_cons,eKs_nil,cKs_app,cKs_cons,cKs_nil,nmKs_app,nmKs_cons,nmKs_nil,placesN,placesN_app,placeN,and_assoc,sKs,List.mem_append,List.mem_singleton,or_imp,forall_and,forall_eq,hdF,Nd.kind];done) | (simp_all [nd_mk,wfN_mk,wfL,wfL_app,shp,eK_mk,sK_mk,kd_mk,vK,eKs_app,eKs_cons,eKs_nil,cKs_app,cKs_cons,cKs_nil,nmKs_app,nmKs_cons,nmKs_nil,placesN,placesN_app,placeN,hdF,Nd.kind];done) | (obtain⟨n,rfl,g1,g2⟩:=hl;refine⟨n,rfl,g1,?_⟩;first | (show 2≤n.kind∧n.kind≤20;omega) | exact .inl g2 | exact .inr g2) | exact⟨_,[],rfl,⟨hn.1,trivial⟩,hn.2,fun n hn=>(by cases hn),fun n hn=>(by cases hn)⟩ | skip
set_option maxHeartbeats 4000000 in
theorem wf_names(hts:TokOk ts)(ih:WfOk ts f)(k:Nat)(l:Int)(acc:List Nd)(i:Nat)(h:NT.inp ts i (.names k l acc)):TW (NT.out ts i (.names k l acc)) (gr ts (f+1) (.names k l acc) i):=by
 rcases(show k=17∨k=18 from h.1) with rfl | rfl
 all_goals
  have h1 : ∀a i,a.inp ts i→TW (a.out ts i) (gr ts f a i):=ih
  simp only[gr]
  repeat' (first
   | exact tw_er
   | with_reducible refine tw_if (fun hc=> ?_) (fun hc=> ?_)
   | with_reducible refine tw_wantB ?_
   | with_reducible refine tw_wantN hts fun x hx=> ?_
   | with_reducible refine tw_wantK fun hk=> ?_
   | with_reducible refine tw_pb1 (h1 _ _ ?_) fun n j hn=> ?_
   | with_reducible refine tw_pb (h1 _ _ ?_) fun l j hl=> ?_
   | with_reducible refine tw_pk ?_
   | with_reducible refine tw_ok ?_
   | with_reducible refine tw_mono (h1 _ _ ?_) fun l hl=> ?_)
  all_goals clear h1 ih
  all_goals simp only[NT.out,NT.inp,xE_1,xP_1,xV_1,xS_1,xK_1] at *
  all_goals first | assumption | trivial | (simp_all [nd_mk,wfN_mk,wfL,wfL_app,shp,eK_mk,sK_mk,kd_mk,vK,eKs_app,eKs_cons,eKs_nil,cKs_app,cKs_cons,cKs_nil,nmKs_app,nmKs_cons,nmKs_nil,placesN,placesN_app,placeN,and_assoc,sKs,List.mem_append,List.mem_singleton,or_imp,forall_and,forall_eq];done) | (simp_all [nd_mk,wfN_mk,wfL,wfL_app,shp,eK_mk,sK_mk,kd_mk,vK,eKs_app,eKs_cons,eKs_nil,cKs_app,cKs_cons,cKs_nil,nmKs_app,nmKs_cons,nmKs_nil,placesN,placesN_app,placeN];done) | (obtain⟨n,rfl,g1,g2⟩:=hl;refine⟨n,rfl,g1,?_⟩;first | (show 2≤n.kind∧n.kind≤20;omega) | exact .inl g2 | exact .inr g2) | exact⟨_,[],rfl,⟨hn.1,trivial⟩,hn.2,fun n hn=>(by cases hn),fun n hn=>(by cases hn)⟩ | skip
set_option maxHeartbeats 4000000 in
theorem wf_maybe(hts:TokOk ts)(ih:WfOk ts f)(k:Nat)(l:Int)(b:Bool)(i:Nat)(h:NT.inp ts i (.maybe k l b)):TW (NT.out ts i (.maybe k l b)) (gr ts (f+1) (.maybe k l b) i):=by
 have h1 : ∀a i,a.inp ts i→TW (a.out ts i) (gr ts f a i):=ih
 have hm:TW xE (gr ts f (if b=true then .exprs else .expr) i):=by
  cases b
  ·exact h1 .expr i trivial
  ·exact h1 .exprs i trivial
 simp only[gr]
 rcases(show k=60∨k=10∨k=14 from h) with rfl | rfl | rfl
 all_goals
  refine tw_if (fun hc=>tw_pb1 hm fun n j hn=>tw_pk (xK_1.2 ?_)) fun hc=>tw_pk (xK_1.2 ?_)
  ·have hn:=xE_1.1 hn
   clear h1 ih hm
   simp_all [nd_mk,wfN_mk,wfL,wfL_app,shp,eK_mk,sK_mk,kd_mk,vK,eKs_app,eKs_cons,eKs_nil,placesN,placesN_app,placeN,and_assoc,hdKs,List.mem_append,List.mem_singleton,or_imp,forall_and,forall_eq]
  ·clear h1 ih hm
   simp_all [nd_mk,wfN_mk,wfL,wfL_app,shp,eK_mk,sK_mk,kd_mk,vK,eKs_app,eKs_cons,eKs_nil,placesN,placesN_app,placeN,and_assoc,hdKs,List.mem_append,List.mem_singleton,or_imp,forall_and,forall_eq]
set_option maxHeartbeats 4000000 in
theorem wf_cmpL(hts:TokOk ts)(ih:WfOk ts f)(n:Nd)(acc:List Nd)(i:Nat)(h:NT.inp ts i (.cmpL n acc)):TW (NT.out ts i (.cmpL n acc)) (gr ts (f+1) (.cmpL n acc) i):=by
 have h1 : ∀a i,a.inp ts i→TW (a.out ts i) (gr ts f a i):=ih
 obtain⟨g1,g2,g3,g4⟩:=h
 simp only[gr]
 refine tw_op (tw_pk (xE_1.2 ?_)) fun op j ho=>tw_pb1 (h1 .arith j trivial) fun m k hm=>h1 (.cmpL n _) k ⟨g1,g2,?_,?_⟩
 ·clear h1 ih
  cases acc with
  | nil=>exact⟨g1,g2⟩
  | cons a acc=>
    show wfN (nd 42 n.line (n::a::acc))∧eK _
    simp_all [nd_mk,wfN_mk,wfL,wfL_app,shp,eK_mk,sK_mk,kd_mk,vK,eKs_app,eKs_cons,eKs_nil,placesN,placesN_app,placeN,and_assoc,hdKs,List.mem_append,List.mem_singleton,or_imp,forall_and,forall_eq]
 ·have hm:=xE_1.1 hm
  clear h1 ih
  simp_all [nd_mk,wfN_mk,wfL,wfL_app,shp,eK_mk,sK_mk,kd_mk,vK,eKs_app,eKs_cons,eKs_nil,placesN,placesN_app,placeN,and_assoc,hdKs,List.mem_append,List.mem_singleton,or_imp,forall_and,forall_eq]
 ·intro y hy
  rcases List.mem_append.1 hy with hy | hy
  ·exact g4 y hy
  ·rw[List.mem_singleton.1 hy];rfl
set_option maxHeartbeats 4000000 in
theorem wf_asgL(hts:TokOk ts)(ih:WfOk ts f)(l:Int)(acc:List Nd)(i:Nat)(h:NT.inp ts i (.asgL l acc)):TW (NT.out ts i (.asgL l acc)) (gr ts (f+1) (.asgL l acc) i):=by
 have h1 : ∀a i,a.inp ts i→TW (a.out ts i) (gr ts f a i):=ih
 obtain⟨g1,⟨p,v,rfl,g2,g3⟩,g4⟩:=h
 simp only[gr,List.getLast?_append,List.getLast?_singleton,Option.some_or]
 refine tw_if (fun hc=>tw_if (fun hp=>tw_pb1 (h1 .value (i+1) trivial) fun w k hw=>h1 (.asgL l _) k ?_) fun _=>tw_er) fun hc=>tw_pk (xS_1.2 ?_)
 ·have hw:=xV_1.1 hw
  refine⟨wfL_app.2 ⟨g1,hw.1,trivial⟩,⟨p++ [v],w,rfl,hw.2,fun y hy=> ?_⟩, .inl (by simp)⟩
  rcases List.mem_append.1 hy with hy | hy
  ·exact g3 y hy
  ·rw[List.mem_singleton.1 hy]
   refine⟨?_,hp⟩
   rcases g2 with g2 | g2
   ·exact g2
   ·exfalso
    obtain⟨k,ln,x,o,ks⟩:=v
    have g2:k=60:=g2
    subst g2
    exact absurd hp (by simp[placeN])
 ·have hp:p≠ []:=fun e=>by
   subst e
   rcases g4 with g4 | g4
   ·simp at g4
   ·exact hc g4
  refine⟨⟨?_,g1⟩,by simp[sK_mk,nd_mk]⟩
  have:shp 3 [] 0 (p++ [v]):=by
   simp only[shp,Nat.reduceEqDiff,false_and,false_or,or_false,true_and,or_self]
   exact⟨p,v,rfl,hp,g2,g3⟩
  exact this
set_option maxHeartbeats 4000000 in
theorem wf_atom(hts:TokOk ts)(ih:WfOk ts f)(i:Nat)(h:NT.inp ts i .atom):TW (NT.out ts i .atom) (gr ts (f+1) .atom i):=by
 have h1 : ∀a i,a.inp ts i→TW (a.out ts i) (gr ts f a i):=ih
 simp only[gr]
 refine tw_if (fun hc=>tw_pk (xE_1.2 ?_)) fun hc=> ?_
 ·obtain⟨k,hk⟩ : ∃k:Nat,(nowT ts i).kind=k:=⟨(nowT ts i).kind.toNat,by omega⟩
  have ht:=hts i k hk (by omega) (by omega)
  rw[hk]
  clear h1 ih
  obtain rfl | rfl | rfl | rfl:k=4∨k=5∨k=6∨k=7:=by omega
  all_goals
   refine⟨⟨?_,trivial⟩,by simp[eK_mk,leafK]⟩
   simp_all [shp,leafK]
 ·repeat' (first
   | exact tw_er
   | with_reducible refine tw_if (fun hc=> ?_) (fun hc=> ?_)
   | with_reducible refine tw_wantB ?_
   | with_reducible refine tw_pb1 (h1 _ _ ?_) fun n j hn=> ?_
   | with_reducible refine tw_pk ?_)
  all_goals clear h1 ih
  all_goals simp only[NT.out,NT.inp,xE_1] at *
  all_goals first | assumption | trivial | (simp_all [nd_mk,wfN_mk,wfL,wfL_app,shp,eK_mk,sK_mk,kd_mk,vK,eKs_app,eKs_cons,eKs_nil,placesN,placesN_app,placeN,and_assoc,List.mem_append,List.mem_singleton,or_imp,forall_and,forall_eq];done)
set_option maxHeartbeats 4000000 in
theorem wf_triesL(hts:TokOk ts)(ih:WfOk ts f)(acc:List Nd)(i:Nat)(h:NT.inp ts i (.triesL acc)):TW (NT.out ts i (.triesL acc)) (gr ts (f+1) (.triesL acc) i):=by
 have h1 : ∀a i,a.inp ts i→TW (a.out ts i) (gr ts f a i):=ih
 obtain⟨b,h,rfl,g1,g2,g3,g4⟩:=h
 have hdl : ∀n∈h.dropLast,n.kids.length=2:=fun n hn=>g4 n (List.dropLast_subset _ hn)
 have hap : ∀y,y.kind=21→hdKs (h++ [y]):=fun y hy n hn=>by
  rcases List.mem_append.1 hn with hn | hn
  ·exact g3 n hn
  ·rw[List.mem_singleton.1 hn];exact hy
 have hin : ∀y,wfN y→y.kind=21→y.kids.length=2→NT.inp ts 0 (.triesL ((b::h)++ [y])):=fun y hy hk hl=>⟨b,h++ [y],rfl,wfL_app.2 ⟨g1,hy,trivial⟩,g2,hap y hk,fun n hn=>by
  rcases List.mem_append.1 hn with hn | hn
  ·exact g4 n hn
  ·rw[List.mem_singleton.1 hn];exact hl⟩
 simp only[gr]
 refine tw_if (fun hc=>tw_if (fun hb=>tw_pb1 (h1 .block _ trivial) fun n j hn=>tw_ok ?_) fun hb=>tw_pb1 (h1 .expr _ trivial) fun e j he=>tw_if (fun ha=>tw_wantN hts fun x hx=>tw_wantB (tw_pb1 (h1 .block _ trivial) fun n k hn=>h1 _ _ ?_)) fun ha=>tw_wantB (tw_pb1 (h1 .block _ trivial) fun n k hn=>h1 _ _ ?_)) fun hc=>tw_ok ⟨b,h,rfl,g1,g2,g3,hdl⟩
 ·have hn:=xK_1.1 hn
  refine⟨b,h++ [nd 21 (nowT ts i).line [n]],rfl,wfL_app.2 ⟨g1,⟨?_,hn.1,trivial⟩,trivial⟩,g2,hap _ rfl,?_⟩
  ·simp[shp,hn.2]
  ·rw[List.dropLast_concat];exact g4
 ·have hn:=xK_1.1 hn
  have he:=xE_1.1 he
  refine hin _ ⟨?_,he.1,hn.1,trivial⟩ rfl rfl
  simp[shp,hn.2,he.2,hx,and_assoc]
 ·have hn:=xK_1.1 hn
  have he:=xE_1.1 he
  refine hin _ ⟨?_,he.1,hn.1,trivial⟩ rfl rfl
  simp[shp,hn.2,he.2,and_assoc]
set_option maxHeartbeats 4000000 in
theorem wf_triesF(hts:TokOk ts)(ih:WfOk ts f)(l:Int)(acc:List Nd)(i:Nat)(h:NT.inp ts i (.triesF l acc)):TW (NT.out ts i (.triesF l acc)) (gr ts (f+1) (.triesF l acc) i):=by
 have h1 : ∀a i,a.inp ts i→TW (a.out ts i) (gr ts f a i):=ih
 obtain⟨b,h,rfl,g1,g2,g3,g4⟩:=h
 simp only[gr]
 refine tw_if (fun hc=>tw_wantB (tw_pb1 (h1 .block _ trivial) fun n j hn=>tw_pk (xS_1.2 ⟨⟨?_,?_⟩,by simp[sK_mk,nd_mk]⟩))) fun hc=>tw_if (fun _=>tw_er) fun hl=>tw_pk (xS_1.2 ⟨⟨?_,g1⟩,by simp[sK_mk,nd_mk]⟩)
 ·have e:shp 15 [] 0 ((b::h)++ [nd 22 (nowT ts i).line [n]]):=by
   simp only[shp,Nat.reduceEqDiff,false_and,false_or,or_false,true_and,or_self]
   exact⟨b,h++ [nd 22 (nowT ts i).line [n]],rfl,g2,by simp,h,_,rfl,g3,g4, .inr ⟨_,rfl,rfl⟩⟩
  exact e
 ·have hn:=xK_1.1 hn
  refine wfL_app.2 ⟨g1,⟨?_,hn.1,trivial⟩,trivial⟩
  simp[shp,hn.2]
 ·have e:shp 15 [] 0 (b::h):=by
   simp only[shp,Nat.reduceEqDiff,false_and,false_or,or_false,true_and,or_self]
   refine⟨b,h,rfl,g2,fun e=>hl (by rw[e];rfl),h,[],by simp,g3,g4, .inl rfl⟩
  exact e
end
set_option maxHeartbeats 40000000 in
theorem gr_wf{ts:List PT}(hts:TokOk ts) : ∀f,WfOk ts f:=by
 intro f
 induction f with
 | zero=>intro a i h;exact trivial
 | succ f ih=>
   intro a i h
   cases a
   case plain=>exact wf_plain hts ih i h
   case clauses acc=>exact wf_clauses hts ih acc i h
   case names k l acc=>exact wf_names hts ih k l acc i h
   case maybe k l b=>exact wf_maybe hts ih k l b i h
   case cmpL n acc=>exact wf_cmpL hts ih n acc i h
   case asgL l acc=>exact wf_asgL hts ih l acc i h
   case atom=>exact wf_atom hts ih i h
   case triesL acc=>exact wf_triesL hts ih acc i h
   case triesF l acc=>exact wf_triesF hts ih l acc i h
   all_goals
    have h1 : ∀a i,a.inp ts i→TW (a.out ts i) (gr ts f a i):=ih
    simp only[gr]
    repeat' (first
     | exact tw_er
     | with_reducible refine tw_if (fun hc=> ?_) (fun hc=> ?_)
     | with_reducible refine tw_wantB ?_
     | with_reducible refine tw_wantN hts fun x hx=> ?_
     | with_reducible refine tw_wantK fun hk=> ?_
     | with_reducible refine tw_pb1 (h1 _ _ ?_) fun n j hn=> ?_
     | with_reducible refine tw_pb (h1 _ _ ?_) fun l j hl=> ?_
     | with_reducible refine tw_pk ?_
     | with_reducible refine tw_ok ?_
     | with_reducible refine tw_mono (h1 _ _ ?_) fun l hl=> ?_)
    all_goals clear h1 ih
    all_goals simp only[NT.out,NT.inp,xE_1,xP_1,xV_1,xS_1,xK_1] at *
    all_goals first | assumption | trivial | (simp_all [nd_mk,wfN_mk,wfL,wfL_app,shp,eK_mk,sK_mk,kd_mk,vK,eKs_app,eKs_cons,eKs_nil,cKs_app,cKs_cons,cKs_nil,nmKs_app,nmKs_cons,nmKs_nil,placesN,placesN_app,placeN,and_assoc,sKs,List.mem_append,List.mem_singleton,or_imp,forall_and,forall_eq];done) | (simp_all [nd_mk,wfN_mk,wfL,wfL_app,shp,eK_mk,sK_mk,kd_mk,vK,eKs_app,eKs_cons,eKs_nil,cKs_app,cKs_cons,cKs_nil,nmKs_app,nmKs_cons,nmKs_nil,placesN,placesN_app,placeN];done) | (obtain⟨n,rfl,g1,g2⟩:=hl;refine⟨n,rfl,g1,?_⟩;first | (show 2≤n.kind∧n.kind≤20;omega) | exact .inl g2 | exact .inr g2) | exact⟨_,[],rfl,⟨hn.1,trivial⟩,hn.2,fun n hn=>(by cases hn),fun n hn=>(by cases hn)⟩ | skip
end Can
end Go.Proofs.YticlaccbodpkeaaGreatDoor
end
section
namespace Go.Proofs.YticlaccbodpkeaaGreatDoor
namespace Can
set_option linter.unusedSimpArgs false
set_option linter.unusedVariables false
theorem toks_ok{line:Nat} : ∀ {f:Nat} {t:List UInt8} {d d':Nat} {x:List Tok},toks line f t d=some (x,d')→∀y∈x,tokOK y.kind y.text
 | 0,_,_,_,_,h=>by cases h
 | f+1,t,d,d',x,h=>by
   simp only[toks] at h
   split at h
   ·cases h
    intro y hy;cases hy
   ·cases ht:tokT (t.drop (blkN t)) with
    | none=>rw[ht] at h;cases h
    | some z=>
      obtain⟨k,y,n⟩:=z
      rw[ht] at h
      simp only at h
      rw[Option.map_eq_some_iff] at h
      obtain⟨⟨w,e⟩,h1,h2⟩:=h
      cases h2
      have h4:=toks_ok h1
      intro v hv
      rcases List.mem_cons.1 hv with rfl | hv
      ·exact⟨_,_,ht⟩
      ·exact h4 v hv
theorem rowT_okk{line d d':Nat}{t:List UInt8}{st st':List Nat}{x:List Tok}(h:rowT line t d st= .ok (x,d',st')) : ∀y∈x,4≤y.kind→tokOK y.kind y.text:=by
 unfold rowT at h
 split at h
 ·cases h;intro y hy;cases hy
 ·split at h
  ·cases h
  ·split at h
   ·cases h
   ·rename_i ts d1 ht
    cases h
    intro y hy h4
    simp only[List.mem_append] at hy
    rcases hy with (hy | hy) | hy
    ·split at hy
     ·unfold indT at hy
      split at hy
      ·simp at hy;rw[hy] at h4;simp at h4
      ·rw[List.eq_of_mem_replicate hy] at h4;simp at h4
     ·cases hy
    ·exact toks_ok ht y hy
    ·split at hy
     ·simp at hy;rw[hy] at h4;simp at h4
     ·cases hy
theorem rowsT_okk : ∀ {ts:List (List UInt8)} {line d:Nat} {st st':List Nat} {x:List Tok},rowsT line ts d st= .ok (x,st')→∀y∈x,4≤y.kind→tokOK y.kind y.text
 | [],line,d,st,st',x,h=>by cases h;intro y hy;cases hy
 | t::ts,line,d,st,st',x,h=>by
   rw[rowsT_cons] at h
   cases hr:rowT line t d st with
   | error e=>rw[hr] at h;cases h
   | ok q=>
     obtain⟨x1,d1,st1⟩:=q
     rw[hr] at h
     simp only at h
     cases hq:rowsT (line+1) ts d1 st1 with
     | error e=>rw[hq] at h;cases h
     | ok w=>
       rw[hq] at h
       cases h
       intro y hy h4
       rcases List.mem_append.1 hy with hy | hy
       ·exact rowT_okk hr y hy h4
       ·exact rowsT_okk hq y hy h4
theorem lexT_okk{src:List UInt8}{ts:List Tok}(h:lexT src= .ok ts) : ∀y∈ts,4≤y.kind→tokOK y.kind y.text:=by
 unfold lexT at h
 split at h
 ·cases h
 ·cases hq:rowsT 1 (splitN src) 0 [0] with
  | error e=>rw[hq] at h;cases h
  | ok w=>
    obtain⟨x,st⟩:=w
    rw[hq] at h
    cases h
    intro y hy h4
    rcases List.mem_append.1 hy with hy | hy
    ·exact rowsT_okk hq y hy h4
    ·unfold endT at hy
     rcases List.mem_append.1 hy with hy | hy
     ·rw[List.eq_of_mem_replicate hy] at h4;simp at h4
     ·simp at hy;rw[hy] at h4;simp at h4
theorem lex_tokOk{src:List UInt8}{ts:List Tok}(h:lexT src= .ok ts):TokOk (ts.map ptT):=by
 intro i k hk h4 h7
 cases ht:(ts.map ptT)[i]? with
 | some t=>
   have e:nowT (ts.map ptT) i=t:=by unfold nowT;rw[ht]
   rw[e] at hk⊢
   obtain⟨y,hy,rfl⟩:=List.mem_map.1 (List.mem_of_getElem? ht)
   have e:(y.kind:Int)=k:=hk
   have e:y.kind=k:=by omega
   have:=lexT_okk h y hy (by omega)
   rw[e] at this
   exact this
 | none=>
   exfalso
   have e:(nowT (ts.map ptT) i).kind=0:=by
    unfold nowT
    rw[ht]
    simp only
    split<;>rfl
   omega
theorem source_wf{src:List UInt8}(h:(sourceT src).2.2=0) : ∃ln l,(sourceT src).1=nd 1 ln l∧wfL l∧(∀n∈l,sK n)∧htL l+1≤60:=by
 unfold sourceT at h⊢
 cases hL:lexT src with
 | error y=>
   rw[hL] at h
   exfalso
   have h:(y.2:Int)=0:=h
   have:y.2=20∨y.2=21∨y.2=24:=by
    by_cases hl:src.length≤20000
    ·rcases(lexT_err2 hl hL).2 with e | e
     ·exact .inl e
     ·exact .inr (.inl e)
    ·unfold lexT at hL
     rw[if_pos (by omega)] at hL
     cases hL
     exact .inr (.inr rfl)
   omega
 | ok ts=>
   rw[hL] at h
   simp only at h⊢
   have h1:=gr_wf (lex_tokOk hL) ((ts.map ptT).length*64+100) (.top []) 0 ⟨trivial,fun n hn=>by cases hn⟩
   have h3:=gr_gd (ts:=ts.map ptT) ((ts.map ptT).length*64+100) (.top []) 0 trivial (Nat.zero_le _) (by simp only[NT.rank];omega)
   generalize ts.map ptT=us at *
   unfold parseT at h⊢
   generalize gr us (us.length*64+100) (.top []) 0=r at *
   match r,h1,h3 with
   | some (.error e),_,_=>exact absurd (show(22:Int)=0 from h) (by decide)
   | some (.ok (l,j)),h1,h3=>
     simp only at h⊢
     split at h
     ·exact absurd (show(11:Int)=0 from h) (by decide)
     ·rename_i hh
      rw[if_neg hh]
      exact⟨_,l,rfl,h1.1,h1.2,by omega⟩
end Can
end Go.Proofs.YticlaccbodpkeaaGreatDoor
end
section
namespace Go.Proofs.YticlaccbodpkeaaGreatDoor
namespace Can
open Go Go.RowKit
set_option linter.unusedSimpArgs false
set_option linter.unusedVariables false
set_option maxRecDepth 4000
mutual
theorem tx_B : ∀n:Nd,txD n→txB 1099511627776 n
 | .mk k l x o ks,h=>⟨h.1,tx_BL ks h.2⟩
theorem tx_BL : ∀ks:List Nd,txDL ks→txBL 1099511627776 ks
 | [],_=>trivial
 | n::ks,h=>⟨tx_B n h.1,tx_BL ks h.2⟩
end
theorem src_sz(src:List UInt8):szN (sourceT src).1≤10000000:=by
 unfold sourceT
 cases hL:lexT src with
 | error y=>exact(show szN zNd≤_ by decide)
 | ok ts=>
   have hlen:=lexT_len hL
   show szN (parseT (ts.map ptT)).1≤_
   generalize hts:ts.map ptT=us
   have hul:us.length≤100000:=by rw[←hts,List.length_map];exact hlen
   have h2:=gr_ht (ts:=us) (us.length*64+100) (.top []) 0 (by first | trivial | simp[NT.good]) (Nat.zero_le _) (by simp only[NT.rank];omega)
   have h3:=gr_gd (ts:=us) (us.length*64+100) (.top []) 0 (by first | trivial | simp[NT.good]) (Nat.zero_le _) (by simp only[NT.rank];omega)
   unfold parseT
   generalize gr us (us.length*64+100) (.top []) 0=r at h2 h3
   match r,h2,h3 with
   | none,_,_=>exact(show szN zNd≤_ by decide)
   | some (.error e),_,_=>exact(show szN zNd≤_ by decide)
   | some (.ok (l,j)),h2,h3=>
     simp only
     split
     ·show szN zNd≤_;decide
     ·have h5:szL l+64*0+0≤0+64*j+0:=h2
      have h6:j≤us.length:=h3.2.1
      show szL l+1≤_
      omega
theorem src_ren{src:List UInt8}(h:(sourceT src).2.2=0):lfN (sourceT src).1∧ren0 (sourceT src).1=ren7 (sourceT src).1:=by
 obtain⟨ln,l,e,hw,_,_⟩:=source_wf h
 rw[e]
 refine⟨⟨⟨fun e=>(by cases e),fun e=>(by rcases e with e | e | e<;>cases e)⟩,fun e=>(by cases e),wf_lf.wf_lfL l hw⟩,?_⟩
 show(renP itT (fun _=>0) 0 (.mk 1 ln [] 0 l)).1=(renD itT 0 (.mk 1 ln [] 0 l)).1
 have:=(m_all itT (SizeOf.sizeOf l+1)).2.1 l [] 0 (Nat.lt_succ_self _) hw (fun p hp=>by cases hp) (.inl rfl)
 rw[renP,if_neg (by decide),renD_no itT (by decide)]
 show Nd.mk 1 ln (if (1:Nat)=36∧0<0 then []++ [46]++itT 0 else []) 0 (renL itT (if (1:Nat)=8∨(1:Nat)=50 then wo (fun _=>0) (kid0 l).kids else fun _=>0) 0 l).1=_
 rw[if_neg (by decide),if_neg (by decide),show(fun _:Bs=>0)=rhoL [] from rfl,this]
 rfl
def SRn:Spec:=fun f args H v H'=>(f=22∨f=23∨f=9→WpF TL f args H fun u K=>u=v∧K=H')∧(f=10∨f=11→WpF TRn f args H fun u K=>u=v∧K=H')
def LR:List FuncId:= [22,23,9,10,11]
noncomputable abbrev TSr:Tbl:=tblS Tryz.prog LG GG LR SRn
theorem tR_ok{B:Nat}:TblOk Tryz.prog B TSr:=tblS_ok GG_ok
theorem toldR{f:FuncId}{args:List Value}{H:CH}{Q:Value→CH→Prop}(hf:f=22∨f=23∨f=9)(h:WpF TL f args H Q):WpF TSr f args H Q:=by
 obtain⟨n,v,H',h1,h2⟩:=h
 have hx:WpF TL f args H fun u K=>u=v∧K=H':=⟨n,v,H',h1,rfl,rfl⟩
 have hc:callable Tryz.prog f=true:=by rcases hf with rfl | rfl | rfl<;>kernel_rfl
 refine wpF_tell (by rcases hf with rfl | rfl | rfl<;>rfl) ⟨v,H',⟨fun _=>hx,fun e=> ?_⟩,fun B=>⟨hc,fun β w args' hS ha=>callsIn_wide.2 (calls_of_ev tl_ok h1 hS ha hc)⟩⟩ fun v2 H2 hS=> ?_
 ·rcases hf with rfl | rfl | rfl<;>rcases e with e | e<;>cases e
 ·exact(wpF_iff (hS.1 hf)).1 ⟨n,v,H',h1,h2⟩
theorem toldR2{f:FuncId}{args:List Value}{H:CH}{Q:Value→CH→Prop}(hf:f=10∨f=11)(h:WpF TRn f args H Q):WpF TSr f args H Q:=by
 obtain⟨n,v,H',h1,h2⟩:=h
 have hx:WpF TRn f args H fun u K=>u=v∧K=H':=⟨n,v,H',h1,rfl,rfl⟩
 have hc:callable Tryz.prog f=true:=by rcases hf with rfl | rfl<;>kernel_rfl
 refine wpF_tell (by rcases hf with rfl | rfl<;>rfl) ⟨v,H',⟨fun e=> ?_,fun _=>hx⟩,fun B=>⟨hc,fun β w args' hS ha=>callsIn_wide.2 (calls_of_ev tr_ok h1 hS ha hc)⟩⟩ fun v2 H2 hS=> ?_
 ·rcases hf with rfl | rfl<;>rcases e with e | e | e<;>cases e
 ·exact(wpF_iff (hS.2 hf)).1 ⟨n,v,H',h1,h2⟩
theorem knownR_iff{H:CH}{Q:Value→CH→Prop}:WpF TSr 7 [] H Q↔Q (.bool true) H:=wpF_GS (by rfl) (by rfl) (by rfl)
theorem tree_wp{H:CH}{q:Option Addr}{c:Nat}{src:List UInt8}(h:SlAt 1 (CInt .u8) H q c (u8i src)):WpF TSr 8 [.slice q src.length c] H fun v K=>HExt H K∧∃os,v= .tuple #[.agg os.toArray, .bool (decide ((sourceT src).2.2=0))]∧SVRs K (fun b=>H.nx≤b∧b<K.nx) (ndS (sourceT src).1) os:=by
 refine wpF_rS (by rfl) (by kernel_rfl) ?_;(conv in (rF _ _).body=>reduce);(conv in (rF _ _).res=>reduce)
 refine rn0 ?_
 refine(toldR (.inl rfl) (rlexf_wp (SlAt.good (CInt.good _) ((HExt.refl H).new _) h))).mono ?_
 rintro v K1 ⟨hx1,hv⟩
 have hn1:H.nx+1≤K1.nx:=hx1.nx
 have oz:=(hx1.ob H.nx (Nat.lt_succ_self _)).trans new_at
 have hxH:HExt H K1:=((HExt.refl H).new _).trans hx1
 cases hL:lexT src with
 | error y=>
   rw[hL] at hv
   have hv:v= .tuple #[.slice none 0 0, .int .i64 y.1, .int .i64 y.2]:=hv
   subst hv
   have hy : ¬((y.2:Int)=0):=by
    have:y.2=20∨y.2=21∨y.2=24:=by
     by_cases hl:src.length≤20000
     ·rcases(lexT_err2 hl hL).2 with e | e
      ·exact .inl e
      ·exact .inr (.inl e)
     ·unfold lexT at hL
      rw[if_pos (by omega)] at hL
      cases hL
      exact .inr (.inr rfl)
    omega
   have es:sourceT src=(zNd,(y.1:Int),(y.2:Int)):=by unfold sourceT;rw[hL]
   rw[es]
   refine rn (an @hy @oz) ?_
   refine⟨hxH.set (Nat.le_refl _) _,_,rfl, .cons (.sc rfl) (.cons (.sc rfl) (.cons (.sc rfl) (.cons (.sc rfl) (.cons .row0 .nil))))⟩
 | ok ts=>
   rw[hL] at hv
   obtain⟨vt,rfl,hg⟩:=hv
   have hlen:=lexT_len' hL
   obtain⟨q',c',rfl,hs⟩:=grw_tk' (grw_pt hg) (by omega)
   refine rn @oz ?_
   refine(toldR (.inr (.inl rfl)) (rparse_tl (sl:=⟨q',ts.length,c'⟩) hs (List.length_map _).symm (by omega))).mono ?_
   rintro v K2 ⟨hx2,os,rfl,hsw⟩
   obtain⟨g1,g2,g3,g4,gq,gn,gc,rfl⟩:=nd_cells hsw
   have hn2:=hx2.nx
   have o2:=(hx2.ob H.nx (by omega)).trans oz
   have es:sourceT src=parseT (ts.map ptT):=by unfold sourceT;rw[hL]
   rw[es]
   refine rn @o2 ?_
   refine⟨(((hxH.trans hx2).new _).set (by omega) _).set (Nat.le_refl _) _,_,rfl,hsw.mv fun b hb=> ?_⟩
   have h1:K1.nx≤b:=hb.1
   have h2:b<K2.nx:=hb.2
   exact⟨⟨by omega,by omega⟩,by rw[set_ne' (by omega),set_ne' (by omega),new_ne (by omega)]⟩
theorem renames_law{H:CH}(hp:PowAt H){q:Option Addr}{c:Nat}{src:List UInt8}(h:SlAt 1 (CInt .u8) H q c (u8i src)):WpF TSr 3 [.slice q src.length c] H fun v K=>v= .bool true:=by
 refine wpF_rS (by rfl) (by kernel_rfl) ?_;(conv in (rF _ _).body=>reduce);(conv in (rF _ _).res=>reduce)
 refine rn0 ?_
 rw[knownR_iff]
 refine rn0 ?_
 refine(tree_wp h).mono fun v K ⟨hx,os,e,hs⟩=> ?_
 subst e
 obtain⟨n1,rfl⟩:=nd_n5 hs
 by_cases hok:(sourceT src).2.2=0
 ·have hd:decide ((sourceT src).2.2=0)=true:=decide_eq_true hok
  obtain⟨hlf,hren⟩:=src_ren hok
  have ht:=src_small src
  have hsz:=src_sz src
  have hK:HExt K ((K.new (.cells [.int .i64 0, .int .i64 0, .string ⟨⟨[]⟩⟩, .int .i64 0, .slice none 0 0] 26 .ex)).set K.nx (.cells [.int .i64 n1.k, .int .i64 n1.l, .string n1.x, .int .i64 n1.o, .slice n1.a n1.n n1.c] 26 .ex)):=((HExt.refl K).new _).set (Nat.le_refl _) _
  repeat' (first | (simp (disch:=first | omega | (decide +kernel)) only[↓RD,RU,accW_f,isW,↓putF_get,↓putF_none,↓evF_t,new_get,set_get,u_not,pop,lop,aop,wop,akV,isVal,isCell,Value.cells,ρ0,ρ1,ρ2,↓reduceIte,Nat.reduceEqDiff,Nat.reduceAdd,ρ5,ρ6,ρ7,ρ8,ρ15,ρ17,ρ18,ρ21,ρ22,ρ23,Kd.isRo,ρ25,ρ26,n5V]) | (with_reducible first | refine condK_dec (fun _=> ?_) fun _=> ?_ | refine grd_dec (fun _=> ?_) fun _=> ?_ | refine egrd_dec (fun _=> ?_) fun _=> ?_))
  refine(toldR2 (.inl rfl) (rename_wp (B:=100000) (by decide) ht.2.1 ht.2.2.1 ht.1 ht.2.2.2 (A:=fun b=>H.nx≤b∧b<K.nx) (hs.mv fun b hb=>⟨hb,hK.ob b hb.2⟩) (fun b hb=>Nat.lt_succ_of_lt hb.2) ((hp.hx hx).hx hK))).mono fun v K2 ⟨hx2,os2,e,hs2⟩=> ?_
  subst e
  obtain⟨n2,rfl⟩:=nd_n5 hs2
  have hx3:=hK.trans hx2
  have hn3:=hx3.nx
  have hn2:K.nx+1≤K2.nx:=hx2.nx
  have o0:((K.new (.cells [.int .i64 0, .int .i64 0, .string ⟨⟨[]⟩⟩, .int .i64 0, .slice none 0 0] 26 .ex)).set K.nx (.cells [.int .i64 n1.k, .int .i64 n1.l, .string n1.x, .int .i64 n1.o, .slice n1.a n1.n n1.c] 26 .ex)).ob K.nx= .cells [.int .i64 n1.k, .int .i64 n1.l, .string n1.x, .int .i64 n1.o, .slice n1.a n1.n n1.c] 26 .ex:=set_get.trans (if_pos rfl)
  have o1:=(hx2.ob K.nx (Nat.lt_succ_self _)).trans o0
  repeat' (first | (simp (disch:=first | omega | (decide +kernel)) only[↓RD,RU,accW_t,accW_f,isW,↓putF_get,↓evF_t,lop,ρ0,ρ1,↓reduceIte,Nat.reduceEqDiff,Nat.reduceAdd,ρ7,ρ8,ρ15,ρ18,ρ20,n5V,o1]) | (with_reducible first | refine condK_dec (fun _=> ?_) fun _=> ?_ | refine grd_dec (fun _=> ?_) fun _=> ?_ | refine egrd_dec (fun _=> ?_) fun _=> ?_))
  refine(toldR2 (.inr rfl) (ref_rename_wp (B:=100000) (M:=1099511627776) (C:=10000000) (by decide) (by decide) ht.2.1 (by decide) hsz hlf ht.1 (tx_B _ ht.2.2.2) (A:=fun b=>H.nx≤b∧b<K.nx) (hs.mv fun b hb=>⟨hb,hx3.ob b hb.2⟩) (fun b hb=>by have:=hb.2;omega) ((hp.hx hx).hx hx3))).mono fun v K3 ⟨hx4,os4,e,hs4⟩=> ?_
  subst e
  obtain⟨n3,rfl⟩:=nd_n5 hs4
  have hn4:=hx4.nx
  have o2:=(hx4.ob K.nx (by omega)).trans o1
  rw[←hren] at hs4
  repeat' (first | (simp (disch:=first | omega | (decide +kernel)) only[↓RD,accW_t,isW,↓putF_get,↓evF_t,↓evF_c,ρ0,ρ1,↓reduceIte,Nat.reduceEqDiff,ρ19,ρ20,n5V]) | (with_reducible first | refine condK_dec (fun _=> ?_) fun _=> ?_ | refine grd_dec (fun _=> ?_) fun _=> ?_ | refine egrd_dec (fun _=> ?_) fun _=> ?_))
  have hsm:=nsame_wp true (K:=K3) (fun b hb=>by have:b<K2.nx:=hb.2;omega) (fun b hb=>hb.2) (hs2.mv fun b hb=>⟨hb,hx4.ob b hb.2⟩) hs4
  rw[sameN_refl] at hsm
  unfold n5V at hsm
  refine(toldR (.inr (.inr rfl)) hsm).mono fun v K4 ⟨hx5,e⟩=> ?_
  subst e
  have hn5:=hx5.nx
  have o3:=(hx5.ob K.nx (by omega)).trans o2
  repeat' (first | (simp (disch:=first | omega | (decide +kernel)) only[↓RD,RU,accW_t,accW_f,isW,↓putF_get,↓evF_t,set_get,pop,lop,resL,resV,tupleV,↓reduceIte,Nat.reduceEqDiff,Nat.reduceAdd,ρ5,ρ6,ρ7,ρ8,ρ15,ρ18,ρ19,ρ20,o1]) | (with_reducible first | refine condK_dec (fun _=> ?_) fun _=> ?_ | refine grd_dec (fun _=> ?_) fun _=> ?_ | refine egrd_dec (fun _=> ?_) fun _=> ?_))
 ·have hd:decide ((sourceT src).2.2=0)=false:=decide_eq_false hok
  repeat' (first | (simp (disch:=first | omega | (decide +kernel)) only[↓RD,RU,↓putF_get,↓putF_none,↓evF_t,↓evF_c,new_get,u_not,pop,aop,wop,resL,resV,tupleV,akV,isVal,isCell,Value.cells,ρ3,↓reduceIte,Nat.reduceEqDiff,Nat.reduceAdd,ρ5,ρ6,ρ7,ρ8,ρ17,ρ21,ρ22,ρ23,Kd.isRo,ρ25,ρ26,n5V]) | (with_reducible first | refine condK_dec (fun _=> ?_) fun _=> ?_ | refine grd_dec (fun _=> ?_) fun _=> ?_ | refine egrd_dec (fun _=> ?_) fun _=> ?_))
theorem u8_ofR{H:CH}{q:Option Addr}{c:Nat}{xs:List Int}(h:SlAt 1 (CInt .u8) H q c xs) : ∃src,xs=u8i src:=by
 refine⟨xs.map fun x=>x.toNat.toUInt8,?_⟩
 have hw : ∀x∈xs,(Lit.int .u8 x).wf=true:=by
  rcases h with ⟨rfl,_⟩ | ⟨l,o,os,e,kd,_,_,_,_,_,_,hR⟩
  ·intro x hx;cases hx
  ·intro x hx
   obtain⟨i,hi,rfl⟩:=List.getElem_of_mem hx
   exact(hR i hi).2
 clear h
 induction xs with
 | nil=>rfl
 | cons x xs ih=>
   simp only[u8i,List.map_cons]
   rw[u8_wf (hw x (by simp))]
   congr 1
   exact ih fun y hy=>hw y (by simp[hy])
theorem renames_law'{H:CH}(hp:PowAt H){q:Option Addr}{c:Nat}{xs:List Int}(h:SlAt 1 (CInt .u8) H q c xs):WpF TSr 3 [.slice q xs.length c] H fun v _=>v= .bool true:=by
 obtain⟨a,rfl⟩:=u8_ofR h
 rw[u8i_len]
 exact renames_law hp h
end Can
end Go.Proofs.YticlaccbodpkeaaGreatDoor
end
section
namespace Go.Proofs.YticlaccbodpkeaaGreatDoor
namespace Can
open Go Go.RowKit Go.Lib
set_option linter.unusedSimpArgs false
set_option linter.unusedVariables false
theorem pow_of{w:World}{l:List (String×DataW Unit)}(h:laidMetH Tryz.prog l w)(hp:(l.all fun x=>x.2.handleName?.isNone)=true)(hm:("internal/strconv.uint64pow10",(Rows.laid_internal_strconv_uint64pow10:DataW Unit))∈l):PowAt (heap0 w):=by
 have hf:l.filter (fun x=>x.2.handleName?.isSome)= []:=List.filter_eq_nil_iff.2 fun x hx=>by
  have:=List.all_eq_true.1 hp x hx
  cases hq:x.2.handleName? with
  | none=>simp
  | some y=>rw[hq] at this;cases this
 unfold laidMetH at h
 rw[hf] at h
 obtain⟨g,t,cs,fuel,p,hg,hty,hvar,hd⟩:=laidMet.reads h hm
 obtain rfl:=Option.some.inj ((show Tryz.prog.globalNamed "internal/strconv.uint64pow10" = some 0 by kernel_rfl).symm.trans hg)
 obtain rfl:=Option.some.inj ((show(Tryz.prog.globals[0]?).map (·.type)=some 143 by kernel_rfl).symm.trans hty)
 have e:(Rows.laid_internal_strconv_uint64pow10:DataW Unit)=tabData .u64 pow10Tab:=by rfl
 rw[e] at hd
 have hcs:=cells_of_tab Tryz.underlying143 Tryz.underlying132 (by kernel_rfl) (by kernel_rfl) hd
 unfold World.var? at hvar
 rw[hg] at hvar
 simp only[Option.bind_some] at hvar
 cases hb:w.heap[0]? with
 | none=>rw[hb] at hvar;cases hvar
 | some ob=>
   rw[hb] at hvar
   cases ob with
   | cells cs' t' fr=>
     cases hvar
     refine⟨(Array.getElem?_eq_some_iff.1 hb).1,0,?_⟩
     unfold heap0
     simp only[hb,hcs]
     congr 1
     rw[List.map_map]
     exact List.map_congr_left fun z _=>by
      show mask (beta0 w) (.int .u64 z)=_
      unfold mask
      rw[if_pos (show VR (beta0 w) (cz (.int .u64 z)) (.int .u64 z) from .int .u64 z)]
      rfl
   | _=>cases hvar
end Can
end Go.Proofs.YticlaccbodpkeaaGreatDoor
end
