/- ScopeAgain: what is told; renamed. Show: trees without long texts. No program in sight. Parse: no tree has a text that is longer than a token's; a for has three kids. No program in sight. Lex: no token's text is longer than a source. No program in sight. ScopeAgain: sources' trees are small. No program in sight. ScopeAgain: the law. The library's table lies where the card says. -/
import Derived.Test.YticlaccbodpkeaaGreatDoorYg
import Derived.Test.YticlaccbodpkeaaGreatDoorYf
import Derived.Test.YticlaccbodpkeaaGreatDoorYe
import Derived.Test.YticlaccbodpkeaaGreatDoorYd
import Derived.Test.YticlaccbodpkeaaGreatDoorRows
import Derived.Lib.LaidU8
import Derived.LaidSub
section
namespace Go.Proofs.YticlaccbodpkeaaGreatDoor
namespace Can
open Go Go.RowKit
set_option linter.unusedSimpArgs false
set_option linter.unusedVariables false
set_option maxRecDepth 4000
def SAg:Spec:=fun f args H v H'=>(f=17→WpF TL f args H fun u K=>u=v∧K=H')∧(f=10→WpF TRn f args H fun u K=>u=v∧K=H')
def LA:List FuncId:= [17,10]
noncomputable abbrev TA:Tbl:=tblS Tryz.prog LG GG LA SAg
theorem ta_ok{B:Nat}:TblOk Tryz.prog B TA:=tblS_ok GG_ok
theorem told_src{args:List Value}{H:CH}{Q:Value→CH→Prop}(h:WpF TL 17 args H Q):WpF TA 17 args H Q:=by
 obtain⟨n,v,H',h1,h2⟩:=h
 have hx:WpF TL 17 args H fun u K=>u=v∧K=H':=⟨n,v,H',h1,rfl,rfl⟩
 have hc:callable Tryz.prog 17=true:=by kernel_rfl
 refine wpF_tell (by rfl) ⟨v,H',⟨fun _=>hx,fun e=>by cases e⟩,fun B=>⟨hc,fun β w args' hS ha=>callsIn_wide.2 (calls_of_ev tl_ok h1 hS ha hc)⟩⟩ fun v2 H2 hS=> ?_
 exact(wpF_iff (hS.1 rfl)).1 ⟨n,v,H',h1,h2⟩
theorem told_ren{args:List Value}{H:CH}{Q:Value→CH→Prop}(h:WpF TRn 10 args H Q):WpF TA 10 args H Q:=by
 obtain⟨n,v,H',h1,h2⟩:=h
 have hx:WpF TRn 10 args H fun u K=>u=v∧K=H':=⟨n,v,H',h1,rfl,rfl⟩
 have hc:callable Tryz.prog 10=true:=by kernel_rfl
 refine wpF_tell (by rfl) ⟨v,H',⟨fun e=>(by cases e),fun _=>hx⟩,fun B=>⟨hc,fun β w args' hS ha=>callsIn_wide.2 (calls_of_ev tr_ok h1 hS ha hc)⟩⟩ fun v2 H2 hS=> ?_
 exact(wpF_iff (hS.2 rfl)).1 ⟨n,v,H',h1,h2⟩
theorem knownA_iff{H:CH}{Q:Value→CH→Prop}:WpF TA 7 [] H Q↔Q (.bool true) H:=wpF_GS (by rfl) (by rfl) (by rfl)
theorem cut1{T:Tbl}{a t:RCode}{fr:Fr}{H:CH}{Q:CExit→Fr→CH→Prop}(M:CExit→Fr→CH→Prop)(h1:WpR T a fr H M)(h2 : ∀x fr' H',M x fr' H'→SeqK T t Q x fr' H'):WpR T (.seq a t) fr H Q:=by
 rw[r_seq]
 exact h1.mono h2
theorem tx_neq{a b:Bs}:svOf (binOp .neq 0 (.string (tx a)) (.string (tx b)))=some (.bool (!decide (a=b))):=by
 have h:=str_eq (a:=a) (b:=b)
 have e1:svOf (binOp .eql 0 (.string (tx a)) (.string (tx b)))=some (.bool ((tx a).toList==(tx b).toList)):=rfl
 have e2:svOf (binOp .neq 0 (.string (tx a)) (.string (tx b)))=some (.bool (!((tx a).toList==(tx b).toList))):=rfl
 rw[e2]
 have h:some (Value.bool ((tx a).toList==(tx b).toList))=some (Value.bool (decide (a=b))):=e1.symm.trans h
 simp only[Option.some.injEq,Value.bool.injEq] at h
 rw[h]
theorem tx_take{x:Bs}{n:Nat}:(tx x).extract 0 n=tx (x.take n):=by
 apply ba_inj
 show((tx x).extract 0 n).data.toList=x.take n
 simp[ByteArray.data_extract,Array.toList_extract,List.extract]
def AgM (K:CH)(d:Nat)(Kb:CH)(x:CExit)(fr:Fr)(H:CH):Prop:=x= .normal∧fr 2= .int .i64 (d:Nat)∧fr 3=pN K.nx∧fr 4=pN (K.nx+1)∧H=Kb
def AgJ (K0:CH)(n:Nat)(m:Nat)(v:Value)(K1:CH):Prop:=∃i:Nat,m=n-i∧i≤n∧v= .int .i64 (i:Nat)∧HExt K0 K1
theorem rndL_get{d:Nat} : ∀ {ks ks':List Nd} {i:Nat} {a b:Nd},rndL d ks ks'=true→ks[i]? = some a→ks'[i]? = some b→rnd d a b=true
 | n::ks,n'::ks',0,a,b,h,h1,h2=>by
   simp at h1 h2
   subst h1 h2
   rw[rndL,Bool.and_eq_true] at h
   exact h.1
 | n::ks,n'::ks',i+1,a,b,h,h1,h2=>by
   rw[rndL,Bool.and_eq_true] at h
   exact rndL_get h.2 (by simpa using h1) (by simpa using h2)
theorem renamed_wp : ∀(N:Nat) (a b:Nd) (deep:Nat),htN a≤N→rnd deep a b=true→txD a→deep+N≤4611686018427387904→∀(K:CH) (A A':Nat→Prop) (os os':List Value),(∀b,A b→b<K.nx)→(∀b,A' b→b<K.nx)→SVRs K A (ndS a) os→SVRs K A' (ndS b) os'→WpF TA 18 [.agg os.toArray, .agg os'.toArray, .int .i64 (deep:Nat)] K fun v K'=>HExt K K'∧v= .bool true:=by
 intro N
 induction N with
 | zero=>intro t _ _ h;cases t;simp[htN] at h
 | succ N ih=>
 rintro⟨k,l,x,o,ks⟩ ⟨k',l',x',o',ks'⟩ deep hN hrn hT hd K A A' os os' hA hA' hs hs'
 obtain⟨q,rfl,hrow⟩:=ndS_cells hs
 obtain⟨q',rfl,hrow'⟩:=ndS_cells hs'
 obtain⟨_,e,hmx,hnil,hat⟩:=row_at hrow
 cases e
 obtain⟨_,e,hmx',hnil',hat'⟩:=row_at hrow'
 cases e
 rw[maxLen_eq] at hmx
 rw[rnd] at hrn
 simp only[Bool.and_eq_true,decide_eq_true_eq,Bool.or_eq_true] at hrn
 obtain⟨⟨⟨⟨⟨rfl,rfl⟩,rfl⟩,hln⟩,hx⟩,hk⟩:=hrn
 rw[←hln] at hrow' hat'
 have hcd:(if k=55∨k=56∨k=57 then deep+1 else deep)≤deep+1:=by split<;>omega
 have hkl:ks'.length=ks.length:=hln.symm
 obtain⟨dp,hdp⟩ : ∃dp,(if k=55∨k=56∨k=57 then deep+1 else deep)=dp:=⟨_,rfl⟩
 rw[hdp] at hx hk hcd
 refine wpF_rS (by rfl) (by kernel_rfl) ?_;(conv in (rF _ _).body=>reduce);(conv in (rF _ _).res=>reduce)
 refine seq_mid (AgM K deep ((K.new (.cells [.int .i64 (k:Nat), .int .i64 l, .string (tx x), .int .i64 (o:Nat), .slice q ks.length ks.length] 26 .ex)).new (.cells [.int .i64 (k:Nat), .int .i64 l, .string (tx x'), .int .i64 (o:Nat), .slice q' ks.length ks.length] 26 .ex))) ?_ ?_
 ·refine rn @hkl ?_
  exact⟨rfl,by(exact rz0;all_goals rfl),by(exact rz0;all_goals rfl),by(exact rz0;all_goals rfl),rfl⟩
 rintro _ fr _ ⟨rfl,f2,f3,f4,rfl⟩
 refine cut1 (AgM K dp ((K.new (.cells [.int .i64 (k:Nat), .int .i64 l, .string (tx x), .int .i64 (o:Nat), .slice q ks.length ks.length] 26 .ex)).new (.cells [.int .i64 (k:Nat), .int .i64 l, .string (tx x'), .int .i64 (o:Nat), .slice q' ks.length ks.length] 26 .ex))) ?_ ?_
 ·by_cases hc:k=55∨k=56∨k=57
  ·rw[if_pos hc] at hdp
   subst hdp
   rcases hc with rfl | rfl | rfl
   all_goals
    refine rn (an @f2 (an @f3 @f4)) ?_
    exact⟨rfl,by(refine rn @f2 ?_;all_goals rfl),by(exact rz @f3;all_goals rfl),by(exact rz @f4;all_goals rfl),rfl⟩
  ·rw[if_neg hc] at hdp
   subst hdp
   refine rn (an @f2 (an @f3 @f4)) ?_
   exact⟨rfl,by(exact rz @f2;all_goals rfl),by(exact rz @f3;all_goals rfl),by(exact rz @f4;all_goals rfl),rfl⟩
 clear f2 f3 f4 fr
 rintro _ fr _ ⟨rfl,f2,f3,f4,rfl⟩
 refine cut1 (AgM K dp ((K.new (.cells [.int .i64 (k:Nat), .int .i64 l, .string (tx x), .int .i64 (o:Nat), .slice q ks.length ks.length] 26 .ex)).new (.cells [.int .i64 (k:Nat), .int .i64 l, .string (tx x'), .int .i64 (o:Nat), .slice q' ks.length ks.length] 26 .ex))) ?_ ?_
 ·by_cases hxx:x=x'
  ·subst hxx
   refine rn (an @f2 (an @f3 @f4)) ?_
   refine optV_eq tx_neq ?_
   rw[decide_eq_true rfl]
   refine rn (an @f2 (an @f3 @f4)) ?_
   exact⟨rfl,by(exact rz @f2;all_goals rfl),by(exact rz @f3;all_goals rfl),by(exact rz @f4;all_goals rfl),rfl⟩
  ·rcases hx with hx | ⟨⟨⟨⟨h36,h0⟩,h2⟩,h3⟩,h4⟩
   ·exact absurd hx hxx
   have hx1:(tx x).size≤1099511627776:=hT.1
   have hx2:(tx x).size+2≤(tx x').size:=h2
   have hk36:(k:Int)=36:=by omega
   have hex:(tx x').extract 0 (tx x).size=tx x:=by rw[tx_take];exact congrArg _ h3
   refine rn (an @f2 (an @f3 @f4)) ?_
   refine optV_eq tx_neq ?_
   rw[decide_eq_false hxx]
   refine rn (an @f2 (an @f3 (an @f4 (an @hk36 @hex)))) ?_
   refine optV_eq tx_neq ?_
   rw[decide_eq_true rfl]
   refine rn (an @f2 (an @f3 (an @f4 (an @hk36 @hex)))) ?_
   refine optV_eq (o':=some (.int .u8 46)) (by show Option.map _ (str x')[x.length]? = _;rw[str_get,h4];rfl) ?_
   refine rn (an @f2 (an @f3 (an @f4 @hk36))) ?_
   exact⟨rfl,by(exact rz @f2;all_goals rfl),by(exact rz @f3;all_goals rfl),by(exact rz @f4;all_goals rfl),rfl⟩
 clear f2 f3 f4 fr
 rintro _ fr _ ⟨rfl,f2,f3,f4,rfl⟩
 have hKb:HExt K ((K.new (.cells [.int .i64 (k:Nat), .int .i64 l, .string (tx x), .int .i64 (o:Nat), .slice q ks.length ks.length] 26 .ex)).new (.cells [.int .i64 (k:Nat), .int .i64 l, .string (tx x'), .int .i64 (o:Nat), .slice q' ks.length ks.length] 26 .ex)):=((HExt.refl K).new _).new _
 rw[seqK_n]
 refine rn (an @f2 (an @f3 @f4)) ?_
 refine loop_w (fun n fr K1=>AgJ ((K.new (.cells [.int .i64 (k:Nat), .int .i64 l, .string (tx x), .int .i64 (o:Nat), .slice q ks.length ks.length] 26 .ex)).new (.cells [.int .i64 (k:Nat), .int .i64 l, .string (tx x'), .int .i64 (o:Nat), .slice q' ks.length ks.length] 26 .ex)) ks.length n (fr 7) K1) (n:=ks.length) ⟨0,rfl,Nat.zero_le _,by(refine rn0 ?_;all_goals rfl),HExt.refl _⟩ ?_
 rintro n fr1 K1 ⟨i,rfl,hi,f7,hx1⟩ hag
 have hxK:=hKb.trans hx1
 have hn1:=hx1.nx
 have hn1':K.nx+1+1≤K1.nx:=hn1
 have oa:=(hx1.ob K.nx (by show K.nx<K.nx+1+1;omega)).trans ((new_ne (by show K.nx≠K.nx+1;omega)).trans new_at)
 have ob:=(hx1.ob (K.nx+1) (by show K.nx+1<K.nx+1+1;omega)).trans (new_at (K:=K.new _))
 by_cases hil:i<ks.length
 ·obtain⟨t,ht⟩ : ∃t,ks[i]? = some t:=⟨_,List.getElem?_eq_getElem hil⟩
  obtain⟨t',ht'⟩ : ∃t',ks'[i]? = some t':=⟨_,List.getElem?_eq_getElem (by omega)⟩
  obtain⟨b,cs,e,kd,hqq,hb,obb,hkd,hcl,hc5,hst⟩:=hat i t ht
  obtain⟨b',cs',e',kd',hqq',hb',obb',hkd',hcl',hc5',hst'⟩:=hat' i t' ht'
  have ob1:=(hxK.ob b (hA b hb)).trans obb
  have ob1':=(hxK.ob b' (hA' b' hb')).trans obb'
  obtain⟨nc,hnc⟩:=nd_n5 hst
  obtain⟨nc',hnc'⟩:=nd_n5 hst'
  have hcall:=ih t t' dp (Nat.le_trans (ht_mem (List.mem_of_getElem? ht)) (by simp only[htN] at hN;omega)) (rndL_get hk ht ht') (txD_mem hT.2 (List.mem_of_getElem? ht)) (by omega) K1 A A' _ _ (fun b hb=>by have:=hA b hb;omega) (fun b hb=>by have:=hA' b hb;omega) (hst.mv fun b hb=>⟨hb,hxK.ob b (hA b hb)⟩) (hst'.mv fun b hb=>⟨hb,hxK.ob b (hA' b hb)⟩)
  rw[hnc,hnc'] at hcall
  repeat' (first | (simp (disch:=first | omega | (decide +kernel)) only[↓RD,RU,↓putF_get,↓evF_t,pop,lop,ρ0,ρ1,↓reduceIte,Nat.reduceEqDiff,ρ5,ρ6,ρ29,hag,f2,f3,f4,f7,oa,ob,hqq,hqq',ob1,ob1',hnc,hnc',n5V]) | (with_reducible first | refine condK_dec (fun _=> ?_) fun _=> ?_ | refine grd_dec (fun _=> ?_) fun _=> ?_ | refine egrd_dec (fun _=> ?_) fun _=> ?_))
  refine hcall.mono fun v K2 ⟨hx2,e⟩=> ?_
  subst e
  refine rn (an @hag (an @f2 (an @f3 (an @f4 @f7)))) ?_
  exact⟨ks.length-(i+1),by omega,i+1,rfl,hil,rfl,by rw[←hqq,←hqq'];exact hx1.trans hx2⟩
 ·have hil:i=ks.length:=by omega
  subst hil
  refine rn (an @hag (an @f2 (an @f3 (an @f4 (an @f7 (an @oa @ob)))))) ?_
  exact hxK
end Can
end Go.Proofs.YticlaccbodpkeaaGreatDoor
end
section
namespace Go.Proofs.YticlaccbodpkeaaGreatDoor
namespace Can
mutual
def shN:Nd→Prop
 | .mk k _ x _ ks=>x.length≤20000∧(k=7→ks.length=3)∧shL ks
def shL:List Nd→Prop
 | []=>True
 | n::ks=>shN n∧shL ks
end
end Can
end Go.Proofs.YticlaccbodpkeaaGreatDoor
end
section
namespace Go.Proofs.YticlaccbodpkeaaGreatDoor
namespace Can
set_option linter.unusedSimpArgs false
set_option linter.unusedVariables false
theorem leafK_ne(k:Int):leafK k=7→False:=by
 unfold leafK
 (repeat' split)<;>decide
theorem shL_app : ∀ {a b:List Nd},shL (a++b)↔shL a∧shL b
 | [],b=>by simp[shL]
 | n::a,b=>by simp only[List.cons_append,shL,shL_app,and_assoc]
def TB:PR→Prop
 | some (.ok (l,j))=>shL l
 | _=>True
theorem tb_if{c:Prop}[Decidable c]{a b:PR}(h1:TB a)(h2:TB b):TB (if c then a else b):=by
 split
 ·exact h1
 ·exact h2
theorem tb_wantB{ts:List PT}{s:List UInt8}{i:Nat}{k:Nat→PR}(h:TB (k (i+1))):TB (wantB ts s i k):=tb_if h trivial
theorem tb_wantK{ts:List PT}(hts : ∀i,(nowT ts i).text.length≤20000){kd:Int}{i:Nat}{k:List UInt8→Nat→PR}(h : ∀x,x.length≤20000→TB (k x (i+1))):TB (wantK ts kd i k):=tb_if (h _ (hts i)) trivial
theorem tb_pb{r:PR}{k:List Nd→Nat→PR}(h:TB r)(hk : ∀l j,shL l→TB (k l j)):TB (pb r k):=by
 match r,h with
 | none,_=>exact trivial
 | some (.error e),_=>exact trivial
 | some (.ok (l,j)),h=>exact hk l j h
theorem tb_pb1{r:PR}{k:Nd→Nat→PR}(h:TB r)(hk : ∀n j,shN n→TB (k n j)):TB (pb1 r k):=tb_pb h fun l j h2=>by
 match l,h2 with
 | [],_=>exact trivial
 | _::_::_,_=>exact trivial
 | [n],h2=>exact hk n j h2.1
theorem tb_er{e:Nat}:TB (some (.error e)):=trivial
theorem tb_ok{j:Nat}{l:List Nd}(h2:shL l):TB (some (.ok (l,j))):=h2
theorem tb_pk{j:Nat}{n:Nd}(h2:shN n):TB (pk1 n j):=⟨h2,trivial⟩
def NT.tx:NT→Prop
 | .names k _ acc=>k≠7∧shL acc
 | .params _ _ acc | .row _ acc | .exprsL _ acc | .clauses acc | .dictL _ acc | .placesL _ acc | .asgL _ acc | .blockL acc | .triesL acc | .top acc | .triesF _ acc=>shL acc
 | .cmpL n acc=>shN n∧shL acc
 | .orL n | .andL n | .arithL n | .termL n | .primL n | .index n=>shN n
 | .maybe k _ _=>k≠7
 | _=>True
def TxOk (ts:List PT)(f:Nat):Prop:=∀a i,a.tx→TB (gr ts f a i)
theorem tb_op{ts:List PT}{p:Nat}{A:PR}{B:Nat→Nat→PR}(hA:TB A)(hB : ∀op j,TB (B op j)):TB (match opT ts p with | .error e=>some (.error e) | .ok (0,_)=>A | .ok (op+1,j)=>B op j):=by
 match opT ts p with
 | .error e=>exact trivial
 | .ok (0,_)=>exact hA
 | .ok (op+1,j)=>exact hB op j
set_option maxHeartbeats 4000000 in
theorem gr_tx{ts:List PT}(hts : ∀i,(nowT ts i).text.length≤20000) : ∀f,TxOk ts f:=by
 intro f
 induction f with
 | zero=>intro a i h;exact trivial
 | succ f ih=>
 have hm : ∀(all:Bool) i,TB (gr ts f (if all=true then .exprs else .expr) i):=fun all i=>by
  cases all
  ·exact ih .expr i trivial
  ·exact ih .exprs i trivial
 have h1 : ∀a i,a.tx→TB (gr ts f a i):=ih
 intro a i ha
 cases a
 case asgL l acc=>
  simp only[gr]
  refine tb_if ?_ (tb_pk ⟨Nat.zero_le _,fun h=>absurd h (by decide),ha⟩)
  cases hq:acc.getLast? with
  | none=>exact trivial
  | some n=>exact tb_if (tb_pb1 (ih .value (i+1) trivial) fun v j hv=>ih _ _ (shL_app.2 ⟨ha,hv,trivial⟩)) trivial
 case cmpL n acc=>
  obtain⟨hn,ha1⟩:=ha
  simp only[gr]
  refine tb_op (tb_pk ?_) fun op j=>tb_pb1 (ih .arith j trivial) fun m k hm=>ih _ _ ⟨hn,shL_app.2 ⟨ha1,⟨Nat.zero_le _,fun h=>absurd h (by decide),hm,trivial⟩,trivial⟩⟩
  split
  ·exact hn
  ·exact⟨Nat.zero_le _,fun h=>absurd h (by decide),hn,ha1⟩
 all_goals simp only[NT.tx] at ha
 all_goals simp only[gr]
 all_goals (repeat' first
  | exact tb_er
  | (with_reducible refine tb_if ?_ ?_)
  | (with_reducible refine tb_op ?_ fun op j=> ?_)
  | (with_reducible refine tb_wantB ?_)
  | (with_reducible refine tb_wantK hts fun x hx=> ?_)
  | (with_reducible refine tb_pb1 (hm _ _) fun n j hn=> ?_)
  | (with_reducible refine tb_pb1 (h1 _ _ ?_) fun n j hn=> ?_)
  | (with_reducible refine tb_pb (h1 _ _ ?_) fun l j hl=> ?_)
  | (with_reducible refine tb_pk ?_)
  | (with_reducible refine tb_ok ?_)
  | (with_reducible refine h1 _ _ ?_)
  | (with_reducible assumption)
  | exact True.intro
  | exact Nat.zero_le _
  | decide
  | exact hts _
  | exact leafK_ne _
  | (obtain⟨ha1,ha2⟩:=ha)
  | (simp only[NT.tx,shL,shN,shL_app,and_true,true_and,ne_eq,List.length_nil,Nat.zero_le,List.length_cons,implies_true,Nat.reduceEqDiff,Nat.reduceAdd,reduceCtorEq,not_false_eq_true,false_implies])
  | (refine⟨?_,?_⟩)
  | (intro h7;omega))
end Can
end Go.Proofs.YticlaccbodpkeaaGreatDoor
end
section
namespace Go.Proofs.YticlaccbodpkeaaGreatDoor
namespace Can
set_option linter.unusedSimpArgs false
set_option linter.unusedVariables false
theorem strN_tx{q:Nat} : ∀ {f:Nat} {l s:List UInt8} {n:Nat},strN q f l=some (s,n)→s.length≤n
 | 0,_,_,_,h=>by cases h
 | f+1,l,s,n,h=>by
   simp only[strN] at h
   split at h
   ·cases h;simp
   ·split at h
    ·cases h
    ·split at h
     ·rw[Option.map_eq_some_iff] at h
      obtain⟨⟨y,m⟩,h1,h2⟩:=h
      cases h2
      have:=strN_tx h1
      simp only[List.length_cons];omega
     ·split at h
      ·rw[Option.map_eq_some_iff] at h
       obtain⟨⟨y,m⟩,h1,h2⟩:=h
       cases h2
       have:=strN_tx h1
       simp only[List.length_cons];omega
      ·cases h
theorem tokT_tx{l:List UInt8}{k n:Nat}{x:List UInt8}(h:tokT l=some (k,x,n)):x.length≤l.length:=by
 have hn:=(tokT_len h).2
 unfold tokT at h
 split at h
 ·cases h;rw[List.length_take];omega
 ·split at h
  ·split at h
   ·cases h
   ·cases h;rw[List.length_take];omega
  ·split at h
   ·rw[Option.map_eq_some_iff] at h
    obtain⟨⟨y,m⟩,h1,h2⟩:=h
    cases h2
    have:=strN_tx h1
    simp only at hn⊢
    omega
   ·rw[Option.map_eq_some_iff] at h
    obtain⟨m,h1,h2⟩:=h
    cases h2
    rw[List.length_take];omega
theorem toks_tx{line:Nat} : ∀ {f:Nat} {t:List UInt8} {d d':Nat} {x:List Tok},toks line f t d=some (x,d')→∀y∈x,y.text.length≤t.length
 | 0,_,_,_,_,h=>by cases h
 | f+1,t,d,d',x,h=>by
   simp only[toks] at h
   split at h
   ·cases h
    intro y hy;cases hy
   ·cases ht:tokT (t.drop (blkN t)) with
    | none=>rw[ht] at h;cases h
    | some z=>
      obtain⟨k,y,n⟩:=z
      rw[ht] at h
      simp only at h
      rw[Option.map_eq_some_iff] at h
      obtain⟨⟨w,e⟩,h1,h2⟩:=h
      cases h2
      have h3:=tokT_tx ht
      have h4:=toks_tx h1
      intro v hv
      rcases List.mem_cons.1 hv with rfl | hv
      ·simp only[List.length_drop] at h3⊢;omega
      ·have:=h4 v hv
       simp only[List.length_drop] at this;omega
theorem rowT_tx{line d d':Nat}{t:List UInt8}{st st':List Nat}{x:List Tok}(h:rowT line t d st= .ok (x,d',st')) : ∀y∈x,y.text.length≤t.length:=by
 unfold rowT at h
 split at h
 ·cases h;intro y hy;cases hy
 ·split at h
  ·cases h
  ·split at h
   ·cases h
   ·rename_i ts d1 ht
    cases h
    intro y hy
    simp only[List.mem_append] at hy
    rcases hy with (hy | hy) | hy
    ·split at hy
     ·unfold indT at hy
      split at hy
      ·simp at hy;rw[hy];simp
      ·rw[List.eq_of_mem_replicate hy];simp
     ·cases hy
    ·exact toks_tx ht y hy
    ·split at hy
     ·simp at hy;rw[hy];simp
     ·cases hy
theorem rowsT_tx{B:Nat} : ∀ {ts:List (List UInt8)} {line d:Nat} {st st':List Nat} {x:List Tok},rowsT line ts d st= .ok (x,st')→(∀t∈ts,t.length≤B)→∀y∈x,y.text.length≤B
 | [],line,d,st,st',x,h,_=>by cases h;intro y hy;cases hy
 | t::ts,line,d,st,st',x,h,hB=>by
   rw[rowsT_cons] at h
   cases hr:rowT line t d st with
   | error e=>rw[hr] at h;cases h
   | ok q=>
     obtain⟨x1,d1,st1⟩:=q
     rw[hr] at h
     simp only at h
     cases hq:rowsT (line+1) ts d1 st1 with
     | error e=>rw[hq] at h;cases h
     | ok w=>
       rw[hq] at h
       cases h
       intro y hy
       rcases List.mem_append.1 hy with hy | hy
       ·exact Nat.le_trans (rowT_tx hr y hy) (hB t (by simp))
       ·exact rowsT_tx hq (fun u hu=>hB u (by simp[hu])) y hy
theorem mem_sum{t:List UInt8} : ∀ {ts:List (List UInt8)},t∈ts→t.length+ts.length≤(ts.map List.length).sum+ts.length
 | a::ts,h=>by
   rcases List.mem_cons.1 h with rfl | h
   ·simp only[List.map_cons,List.sum_cons];omega
   ·have:=mem_sum h
    simp only[List.map_cons,List.sum_cons,List.length_cons];omega
theorem lexT_tx{src:List UInt8}{ts:List Tok}(h:lexT src= .ok ts) : ∀y∈ts,y.text.length≤20000:=by
 unfold lexT at h
 split at h
 ·cases h
 ·cases hq:rowsT 1 (splitN src) 0 [0] with
  | error e=>rw[hq] at h;cases h
  | ok w=>
    obtain⟨x,st⟩:=w
    rw[hq] at h
    cases h
    have h2:=splitN_sum (src:=src)
    intro y hy
    rcases List.mem_append.1 hy with hy | hy
    ·refine rowsT_tx hq (fun t ht=> ?_) y hy
     have h3:=mem_sum ht
     have h4:0<(splitN src).length:=List.length_pos_of_mem ht
     omega
    ·unfold endT at hy
     rcases List.mem_append.1 hy with hy | hy
     ·rw[List.eq_of_mem_replicate hy];simp
     ·simp at hy;rw[hy];simp
end Can
end Go.Proofs.YticlaccbodpkeaaGreatDoor
end
section
namespace Go.Proofs.YticlaccbodpkeaaGreatDoor
namespace Can
set_option linter.unusedSimpArgs false
set_option linter.unusedVariables false
theorem now_tx{ts:List PT}(h : ∀t∈ts,t.text.length≤20000)(i:Nat):(nowT ts i).text.length≤20000:=by
 unfold nowT
 split
 ·rename_i t ht
  exact h t (List.mem_of_getElem? ht)
 ·split
  ·exact Nat.zero_le _
  ·exact Nat.zero_le _
mutual
theorem sh_txD : ∀n:Nd,shN n→txD n
 | .mk k l x o ks,h=>⟨Nat.le_trans h.1 (by omega),sh_txDL ks h.2.2⟩
theorem sh_txDL : ∀ks:List Nd,shL ks→txDL ks
 | [],_=>trivial
 | n::ks,h=>⟨sh_txD n h.1,sh_txDL ks h.2⟩
end
def SmN (t:Nd):Prop:=kdN 100000 t∧htN t≤1000∧szN t≤1125899906842624∧txD t
theorem src_small(src:List UInt8):SmN (sourceT src).1:=by
 have hz:SmN zNd:=⟨⟨Nat.zero_le _,trivial⟩,by decide,by decide,⟨Nat.zero_le _,trivial⟩⟩
 unfold sourceT
 cases hL:lexT src with
 | error y=>exact hz
 | ok ts=>
   have hlen:=lexT_len hL
   have htx:=lexT_tx hL
   show SmN (parseT (ts.map ptT)).1
   generalize hts:ts.map ptT=us
   have hul:us.length≤100000:=by rw[←hts,List.length_map];exact hlen
   have hut : ∀t∈us,t.text.length≤20000:=by
    rw[←hts]
    intro t ht
    obtain⟨y,hy,rfl⟩:=List.mem_map.1 ht
    exact htx y hy
   have h1:=gr_tx (now_tx hut) (us.length*64+100) (.top []) 0 trivial
   have h2:=gr_ht (ts:=us) (us.length*64+100) (.top []) 0 (by first | trivial | simp[NT.good]) (Nat.zero_le _) (by simp only[NT.rank];omega)
   have h3:=gr_gd (ts:=us) (us.length*64+100) (.top []) 0 (by first | trivial | simp[NT.good]) (Nat.zero_le _) (by simp only[NT.rank];omega)
   have h4:=gr_kd (ts:=us) (us.length*64+100) (.top []) 0 ⟨trivial,by simp⟩
   unfold parseT
   generalize gr us (us.length*64+100) (.top []) 0=r at h1 h2 h3 h4
   match r,h1,h2,h3,h4 with
   | none,_,_,_,_=>exact hz
   | some (.error e),_,_,_,_=>exact hz
   | some (.ok (l,j)),h1,h2,h3,h4=>
     simp only
     split
     ·exact hz
     ·have h5:szL l+64*0+0≤0+64*j+0:=h2
      have h6:j≤us.length:=h3.2.1
      refine⟨⟨?_,kdL_up h4.2.1 (by omega)⟩,?_,?_,⟨Nat.zero_le _,sh_txDL _ h1⟩⟩
      ·have:=h4.2.2
       omega
      ·show htL l+1≤1000
       omega
      ·show szL l+1≤_
       omega
end Can
end Go.Proofs.YticlaccbodpkeaaGreatDoor
end
section
namespace Go.Proofs.YticlaccbodpkeaaGreatDoor
namespace Can
open Go Go.RowKit
set_option linter.unusedSimpArgs false
set_option linter.unusedVariables false
set_option maxRecDepth 4000
theorem again_law{H:CH}(hp:PowAt H){q:Option Addr}{c:Nat}{src:List UInt8}(h:SlAt 1 (CInt .u8) H q c (u8i src)):WpF TA 5 [.slice q src.length c] H fun v K=>v= .bool true:=by
 refine wpF_rS (by rfl) (by kernel_rfl) ?_;(conv in (rF _ _).body=>reduce);(conv in (rF _ _).res=>reduce)
 refine rn0 ?_
 rw[knownA_iff]
 refine rn0 ?_
 refine(told_src (source_wp h)).mono fun v K ⟨vs,e,hx,os,e2,hs⟩=> ?_
 subst e e2
 obtain⟨n1,rfl⟩:=nd_n5 hs
 have ht:=src_small src
 repeat' (first | (simp (disch:=first | omega | (decide +kernel)) only[↓RD,RU,accW_f,isW,↓putF_get,↓putF_none,↓evF_t,↓evF_c,new_get,set_get,pop,lop,aop,wop,resL,resV,tupleV,akV,isVal,isCell,Value.cells,ρ0,ρ1,↓reduceIte,Nat.reduceEqDiff,Nat.reduceAdd,ρ5,ρ6,ρ7,ρ8,ρ15,ρ17,ρ18,ρ21,ρ22,ρ23,Kd.isRo,ρ25,ρ26,n5V]) | (with_reducible first | refine condK_dec (fun _=> ?_) fun _=> ?_ | refine grd_dec (fun _=> ?_) fun _=> ?_ | refine egrd_dec (fun _=> ?_) fun _=> ?_))
 have hK:HExt K ((K.new (.cells [.int .i64 0, .int .i64 0, .string ⟨⟨[]⟩⟩, .int .i64 0, .slice none 0 0] 26 .ex)).set K.nx (.cells [.int .i64 n1.k, .int .i64 n1.l, .string n1.x, .int .i64 n1.o, .slice n1.a n1.n n1.c] 26 .ex)):=((HExt.refl K).new _).set (Nat.le_refl _) _
 refine(told_ren (rename_wp (B:=100000) (by decide) ht.2.1 ht.2.2.1 ht.1 ht.2.2.2 (A:=fun b=>H.nx≤b∧b<K.nx) (hs.mv fun b hb=>⟨hb,hK.ob b hb.2⟩) (fun b hb=>Nat.lt_succ_of_lt hb.2) ((hp.hx hx).hx hK))).mono fun v K2 ⟨hx2,os2,e,hs2⟩=> ?_
 subst e
 obtain⟨n2,rfl⟩:=nd_n5 hs2
 have hx3:=hK.trans hx2
 have hn3:=hx3.nx
 have hn2:K.nx+1≤K2.nx:=hx2.nx
 have o1:=(hx2.ob K.nx (Nat.lt_succ_self _)).trans (set_get.trans (if_pos rfl))
 have hag:=renamed_wp 1000 (sourceT src).1 (ren0 (sourceT src).1) 0 ht.2.1 (rnd_ok itT itT_pos _) ht.2.2.2 (by decide) K2 (fun b=>H.nx≤b∧b<K.nx) _ (n5V n1) (n5V n2) (fun b hb=>by have:=hb.2;omega) (fun b hb=>hb.2) (hs.mv fun b hb=>⟨hb,hx3.ob b hb.2⟩) hs2
 repeat' (first | (simp (disch:=first | omega | (decide +kernel)) only[↓RD,RU,accW_t,accW_f,isW,↓putF_get,↓evF_t,↓evF_c,lop,ρ0,ρ1,↓reduceIte,Nat.reduceEqDiff,Nat.reduceAdd,ρ7,ρ8,ρ15,ρ18,ρ20,n5V,o1]) | (with_reducible first | refine condK_dec (fun _=> ?_) fun _=> ?_ | refine grd_dec (fun _=> ?_) fun _=> ?_ | refine egrd_dec (fun _=> ?_) fun _=> ?_))
 refine hag.mono fun v K3 ⟨hx4,e⟩=> ?_
 subst e
 have o2:=(hx4.ob K.nx (by omega)).trans o1
 repeat' (first | (simp (disch:=first | omega | (decide +kernel)) only[↓RD,RU,accW_t,accW_f,isW,↓putF_get,↓evF_t,set_get,pop,lop,resL,resV,tupleV,↓reduceIte,Nat.reduceEqDiff,Nat.reduceAdd,ρ5,ρ6,ρ7,ρ8,ρ15,ρ18,ρ19,ρ20,o1]) | (with_reducible first | refine condK_dec (fun _=> ?_) fun _=> ?_ | refine grd_dec (fun _=> ?_) fun _=> ?_ | refine egrd_dec (fun _=> ?_) fun _=> ?_))
theorem u8_of'{H:CH}{q:Option Addr}{c:Nat}{xs:List Int}(h:SlAt 1 (CInt .u8) H q c xs) : ∃src,xs=u8i src:=by
 refine⟨xs.map fun x=>x.toNat.toUInt8,?_⟩
 have hw : ∀x∈xs,(Lit.int .u8 x).wf=true:=by
  rcases h with ⟨rfl,_⟩ | ⟨l,o,os,e,kd,_,_,_,_,_,_,hR⟩
  ·intro x hx;cases hx
  ·intro x hx
   obtain⟨i,hi,rfl⟩:=List.getElem_of_mem hx
   exact(hR i hi).2
 clear h
 induction xs with
 | nil=>rfl
 | cons x xs ih=>
   simp only[u8i,List.map_cons]
   rw[u8_wf (hw x (by simp))]
   congr 1
   exact ih fun y hy=>hw y (by simp[hy])
theorem again_law'{H:CH}(hp:PowAt H){q:Option Addr}{c:Nat}{xs:List Int}(h:SlAt 1 (CInt .u8) H q c xs):WpF TA 5 [.slice q xs.length c] H fun v _=>v= .bool true:=by
 obtain⟨a,rfl⟩:=u8_of' h
 rw[u8i_len]
 exact again_law hp h
end Can
end Go.Proofs.YticlaccbodpkeaaGreatDoor
end
section
namespace Go.Proofs.YticlaccbodpkeaaGreatDoor
namespace Can
open Go Go.RowKit Go.Lib
set_option linter.unusedSimpArgs false
set_option linter.unusedVariables false
theorem pow_of{w:World}{l:List (String×DataW Unit)}(h:laidMetH Tryz.prog l w)(hp:(l.all fun x=>x.2.handleName?.isNone)=true)(hm:("internal/strconv.uint64pow10",(Rows.laid_internal_strconv_uint64pow10:DataW Unit))∈l):PowAt (heap0 w):=by
 have hf:l.filter (fun x=>x.2.handleName?.isSome)= []:=List.filter_eq_nil_iff.2 fun x hx=>by
  have:=List.all_eq_true.1 hp x hx
  cases hq:x.2.handleName? with
  | none=>simp
  | some y=>rw[hq] at this;cases this
 unfold laidMetH at h
 rw[hf] at h
 obtain⟨g,t,cs,fuel,p,hg,hty,hvar,hd⟩:=laidMet.reads h hm
 obtain rfl:=Option.some.inj ((show Tryz.prog.globalNamed "internal/strconv.uint64pow10" = some 0 by kernel_rfl).symm.trans hg)
 obtain rfl:=Option.some.inj ((show(Tryz.prog.globals[0]?).map (·.type)=some 143 by kernel_rfl).symm.trans hty)
 have e:(Rows.laid_internal_strconv_uint64pow10:DataW Unit)=tabData .u64 pow10Tab:=by rfl
 rw[e] at hd
 have hcs:=cells_of_tab Tryz.underlying143 Tryz.underlying132 (by kernel_rfl) (by kernel_rfl) hd
 unfold World.var? at hvar
 rw[hg] at hvar
 simp only[Option.bind_some] at hvar
 cases hb:w.heap[0]? with
 | none=>rw[hb] at hvar;cases hvar
 | some ob=>
   rw[hb] at hvar
   cases ob with
   | cells cs' t' fr=>
     cases hvar
     refine⟨(Array.getElem?_eq_some_iff.1 hb).1,0,?_⟩
     unfold heap0
     simp only[hb,hcs]
     congr 1
     rw[List.map_map]
     exact List.map_congr_left fun z _=>by
      show mask (beta0 w) (.int .u64 z)=_
      unfold mask
      rw[if_pos (show VR (beta0 w) (cz (.int .u64 z)) (.int .u64 z) from .int .u64 z)]
      rfl
   | _=>cases hvar
end Can
end Go.Proofs.YticlaccbodpkeaaGreatDoor
end
