/- Parse, its laws: Source; the example holds. Parse, its laws: the example holds. Parse, its laws: tokens that grow; Same of two trees. Parse, its laws: ParseSources walked. -/
import Derived.Test.YtnankhlanilbbaaGreatZr
section
namespace Go.Proofs.YtnankhlanilbbaaGreat
namespace Can
open Go Go.RowKit
set_option linter.unusedSimpArgs false
set_option linter.unusedVariables false
set_option maxRecDepth 4000
def tree1:Nd:=nd 1 1 [nd 3 1 [.mk 36 1 [97] 0 [],nd 52 1 [.mk 36 1 [98] 0 [], .mk 30 1 [49] 0 []]]]
theorem parse1:parseT toks1=(tree1,0,0):=by kernel_rfl
theorem parse2:parseT toks2=(zNd,2,22):=by kernel_rfl
theorem slat_row{K:CH}{b:Nat}{ts:List PT}{e:TypeId}{k:Kd}(hb:b<K.nx)(ho:K.ob b= .cells ((ts.map tokV).flatten) e k)(hl:ts.length≤maxLen):SlAt 3 CTk K (some ⟨b,0,none⟩) ts.length ts:=by
 have hfl:((ts.map tokV).flatten).length=ts.length*3:=by
  rw[flat_len' (sz:=3) (fun g hg=>by obtain⟨t,_,rfl⟩:=List.mem_map.1 hg;rfl),List.length_map]
 refine .inr ⟨b,0,_,e,k,rfl,hb,Nat.le_refl _,hl,ho,by omega,fun i h=> ?_⟩
 have hg:(ts.map tokV)[i]? = some (tokV ts[i]):=by simp[h]
 have:=(flat_grp (sz:=3) (gs:=ts.map tokV) (fun g hg=>by obtain⟨t,_,rfl⟩:=List.mem_map.1 hg;rfl) hg).1
 show((((ts.map tokV).flatten).drop (0+i*3)).take 3)=tokV ts[i]
 rw[Nat.zero_add]
 exact this
theorem nd_cells{K:CH}{A:Nat→Prop}{t:Nd}{os:List Value}(h:SVRs K A (ndS t) os) : ∃k l x o wa wn wc,os= [.int .i64 k, .int .i64 l, .string x, .int .i64 o, .slice wa wn wc]:=by
 cases t
 cases h with | cons a1 h=>
 cases h with | cons a2 h=>
 cases h with | cons a3 h=>
 cases h with | cons a4 h=>
 cases h with | cons a5 h=>
 cases h
 cases a1
 cases a2
 cases a3
 cases a4
 obtain⟨wa,wn,wc,rfl⟩:=row_slc a5
 exact⟨_,_,_,_,_,_,_,rfl⟩
def SrQ (H:CH)(src:List UInt8)(v:Value)(K:CH):Prop:=∃vs,v=tupleV vs∧PrO H (sourceT src).1 (sourceT src).2.1 (sourceT src).2.2 vs K
theorem lexT_len'{src:List UInt8}{ts:List Tok}(h:lexT src= .ok ts):(ts.map ptT).length≤100000:=by
 rw[List.length_map];exact lexT_len h
theorem grw_tk'{A K:CH}{v:Value}{ts:List PT}(h:Grw A 50 3 tokV K v ts)(hm:ts.length≤9223372036854775807) : ∃q c,v= .slice q ts.length c∧SlAt 3 CTk K q c ts:=by
 rcases h with ⟨rfl,rfl⟩ | ⟨b,kd,rfl,h1,h2,h3,h4⟩
 ·exact⟨none,0,rfl, .inl ⟨rfl,rfl, .inl rfl⟩⟩
 ·refine⟨_,_,rfl,?_⟩
  have e:ts.flatMap tokV=(ts.map tokV).flatten:=by rw[List.flatMap_def]
  rw[e] at h3
  exact slat_row h2 h3 (by rw[maxLen_eq];exact hm)
theorem source_wp{H:CH}{q:Option Addr}{c:Nat}{src:List UInt8}(h:SlAt 1 (CInt .u8) H q c (u8i src)) :
 WpF TL 13 [.slice q src.length c] H fun v K=>SrQ H src v K:=by
 refine wpF_rS (by rfl) (by kernel_rfl) ?_
 conv in (rF _ _).body=>reduce
 conv in (rF _ _).res=>reduce
 repeat' (first | (simp (disch:=first | omega | (decide +kernel)) only[↓RD,RU,↓putF_get,↓evF_t,↓evF_c,getD_zero,pop,aop,akV,ρ0,ρ1,↓reduceIte,Int.reduceOfNat,reduceCtorEq]) | (with_reducible first | refine condK_dec (fun _=> ?_) fun _=> ?_ | refine grd_dec (fun _=> ?_) fun _=> ?_ | refine egrd_dec (fun _=> ?_) fun _=> ?_))
 refine(lexf_wp (SlAt.good (CInt.good _) ((HExt.refl H).new _) h)).mono ?_
 rintro v K ⟨hx,hv⟩
 cases hL:lexT src with
 | error y=>
   rw[hL] at hv
   have hv:v= .tuple #[.slice none 0 0, .int .i64 y.1, .int .i64 y.2]:=hv
   subst hv
   have hy : ¬((y.2:Int)=0):=by
    have:y.2=20∨y.2=21∨y.2=24:=by
     by_cases hl:src.length≤20000
     ·rcases(lexT_err2 hl hL).2 with e | e
      ·exact .inl e
      ·exact .inr (.inl e)
     ·unfold lexT at hL
      rw[if_pos (by omega)] at hL
      cases hL
      exact .inr (.inr rfl)
    omega
   have hr:K.ob H.nx= .cells [.int .i64 0, .int .i64 0, .string ⟨⟨[]⟩⟩, .int .i64 0, .slice none 0 0] 26 .ex:=by
    rw[hx.ob H.nx (Nat.lt_succ_self _)]
    exact new_get.trans (if_pos rfl)
   have hn:H.nx<K.nx:=hx.nx
   repeat' (first | (simp (disch:=first | omega | (decide +kernel)) only[↓RD,RU,↓putF_get,↓putF_none,↓evF_t,↓evF_c,set_get,pop,lop,wop,resL,resV,tupleV,isVal,isCell,Value.cells,ρ1,ρ4,↓reduceIte,Nat.reduceEqDiff,Nat.reduceAdd,ρ5,ρ6,ρ7,ρ8,ρ15,ρ17,ρ18,ρ21,ρ22,ρ23,Kd.isRo,ρ25,ρ26,bldV,hr]) | (with_reducible first | refine condK_dec (fun _=> ?_) fun _=> ?_ | refine grd_dec (fun _=> ?_) fun _=> ?_ | refine egrd_dec (fun _=> ?_) fun _=> ?_))
   have es:sourceT src=(zNd,(y.1:Int),(y.2:Int)):=by unfold sourceT;rw[hL]
   rw[SrQ,es]
   exact⟨[_,_,_],rfl,(((HExt.refl H).new _).trans hx).set (Nat.le_refl _) _,[_,_,_,_,_],rfl, .cons (.sc rfl) (.cons (.sc rfl) (.cons (.sc rfl) (.cons (.sc rfl) (.cons .row0 .nil))))⟩
 | ok ts=>
   rw[hL] at hv
   obtain⟨vt,rfl,hg⟩:=hv
   repeat' (first | (simp (disch:=first | omega | (decide +kernel)) only[↓RD,RU,↓putF_get,↓evF_t,↓evF_c,pop,ρ0,ρ1,↓reduceIte,Nat.reduceEqDiff,ρ5,ρ6]) | (with_reducible first | refine condK_dec (fun _=> ?_) fun _=> ?_ | refine grd_dec (fun _=> ?_) fun _=> ?_ | refine egrd_dec (fun _=> ?_) fun _=> ?_))
   have hlen:=lexT_len' hL
   obtain⟨q',c',rfl,hs⟩:=grw_tk' (grw_pt hg) (by omega)
   refine(parse_wp (sl:=⟨q',_,c'⟩) hs rfl (by omega)).mono ?_
   rintro v K2 ⟨vs,rfl,hx2,os,rfl,hs2⟩
   obtain⟨k,l,x,o,wa,wn,wc,rfl⟩:=nd_cells hs2
   have hn:H.nx+1≤K.nx:=hx.nx
   have hn2:=hx2.nx
   have hr:K2.ob H.nx= .cells [.int .i64 0, .int .i64 0, .string ⟨⟨[]⟩⟩, .int .i64 0, .slice none 0 0] 26 .ex:=by
    rw[hx2.ob H.nx (by omega),hx.ob H.nx (Nat.lt_succ_self _)]
    exact new_get.trans (if_pos rfl)
   repeat' (first | (simp (disch:=first | omega | (decide +kernel)) only[↓RD,RU,↓putF_get,↓putF_none,↓evF_t,set_get,pop,lop,wop,resL,resV,tupleV,isVal,isCell,Value.cells,↓reduceIte,Nat.reduceEqDiff,Nat.reduceAdd,ρ5,ρ6,ρ7,ρ8,ρ15,ρ17,ρ18,ρ21,ρ22,ρ23,Kd.isRo,ρ25,ρ26,hr]) | (with_reducible first | refine condK_dec (fun _=> ?_) fun _=> ?_ | refine grd_dec (fun _=> ?_) fun _=> ?_ | refine egrd_dec (fun _=> ?_) fun _=> ?_))
   have es:sourceT src=parseT (ts.map ptT):=by unfold sourceT;rw[hL]
   rw[SrQ,es]
   refine⟨[_,_,_],rfl,((((HExt.refl H).new _).trans hx).trans hx2).set (Nat.le_refl _) _,[_,_,_,_,_],rfl,hs2.mv fun b hb=> ?_⟩
   obtain⟨h1,h2⟩:=hb
   exact⟨⟨by omega,h2⟩,set_ne (by omega)⟩
theorem lex_1:lexT src1= .ok [⟨4,1,[97]⟩,⟨9,1,[61]⟩,⟨4,1,[98]⟩,⟨9,1,[44]⟩,⟨5,1,[49]⟩,⟨1,1,[]⟩,⟨0,1,[]⟩]:=by kernel_rfl
theorem lex_2:lexT src2= .ok [⟨4,1,[98]⟩,⟨1,1,[]⟩,⟨5,2,[49]⟩,⟨9,2,[61]⟩,⟨4,2,[97]⟩,⟨1,2,[]⟩,⟨0,2,[]⟩]:=by kernel_rfl
theorem src1_wp{H:CH}{p:Nat}(hp:p<H.nx)(ho:H.ob p= .cells (bsV src1) 5 .ex):WpF TL 13 [.slice (some ⟨p,0,none⟩) 8 8] H fun v K=>PrQ H toks1 v K:=by
 refine(source_wp (slat_bs hp ho (by rw[maxLen_eq];decide))).mono fun v K h=> ?_
 have e:sourceT src1=parseT toks1:=by unfold sourceT;rw[lex_1];rfl
 unfold SrQ at h
 rw[e] at h
 exact h
theorem src2_wp{H:CH}{p:Nat}(hp:p<H.nx)(ho:H.ob p= .cells (bsV src2) 5 .ex):WpF TL 13 [.slice (some ⟨p,0,none⟩) 7 7] H fun v K=>PrQ H toks2 v K:=by
 refine(source_wp (slat_bs hp ho (by rw[maxLen_eq];decide))).mono fun v K h=> ?_
 have e:sourceT src2=parseT toks2:=by unfold sourceT;rw[lex_2];rfl
 unfold SrQ at h
 rw[e] at h
 exact h
end Can
end Go.Proofs.YtnankhlanilbbaaGreat
end
section
namespace Go.Proofs.YtnankhlanilbbaaGreat
namespace Can
open Go Go.RowKit
set_option linter.unusedSimpArgs false
set_option linter.unusedVariables false
set_option maxRecDepth 4000
noncomputable def knP:RCode×RCode×RCode×RCode×RCode×RCode:=match (rF Tryz.prog 8).body with
 | .seq a (.seq b (.seq c (.seq d (.seq e f))))=>(a,b,c,d,e,f)
 | _=>(.skip, .skip, .skip, .skip, .skip, .skip)
theorem kn_body:(rF Tryz.prog 8).body= .seq knP.1 (.seq knP.2.1 (.seq knP.2.2.1 (.seq knP.2.2.2.1 (.seq knP.2.2.2.2.1 knP.2.2.2.2.2)))):=by kernel_rfl
theorem row_inv{K:CH}{A:Nat→Prop}{n:Nd}{ks:List Nd}{w:Value}(h:SVR K A (.row 5 (ndsS (n::ks))) w) : ∃b os e kd,w= .slice (some ⟨b,0,none⟩) (ks.length+1) (ks.length+1)∧A b∧K.ob b= .cells os e kd∧kd.isRo=false∧SVRs K A (ndsS (n::ks)).flatten os:=by
 have hl:(ndsS (n::ks)).length=ks.length+1:=ndsS_len
 generalize hg:ndsS (n::ks)=gs at h hl
 cases h with
 | row0=>simp at hl
 | row hne hb ho hk hg hs=>rw[hl];exact⟨_,_,_,_,rfl,hb,ho,hk,hs⟩
theorem nd_inv{K:CH}{A:Nat→Prop}{k:Nat}{l:Int}{x:List UInt8}{o:Nat}{ks:List Nd}{rest:List SV}{os:List Value}(h:SVRs K A (ndS (.mk k l x o ks)++rest) os) : ∃w os',os= .int .i64 (k:Nat):: .int .i64 l:: .string ⟨⟨x⟩⟩:: .int .i64 (o:Nat)::w::os'∧SVR K A (.row 5 (ndsS ks)) w∧SVRs K A rest os':=by
 cases h with | cons a1 h=>
 cases h with | cons a2 h=>
 cases h with | cons a3 h=>
 cases h with | cons a4 h=>
 cases h with | cons a5 h=>
 cases a1
 cases a2
 cases a3
 cases a4
 exact⟨_,_,rfl,a5,h⟩
theorem known_wp{H:CH}:WpF TL 8 [] H fun v K=>HExt H K∧v= .bool true:=by
 refine wpF_rS (by rfl) (by kernel_rfl) ?_
 rw[kn_body]
 conv in (rF _ _).res=>reduce
 have e:knP.1=_:=rfl
 conv at e=>rhs;reduce
 rw[e]
 clear e
 have e:knP.2.1=_:=rfl
 conv at e=>rhs;reduce
 rw[e]
 clear e
 repeat' (first | (simp (maxSteps:=2000000) (disch:=first | omega | (decide +kernel)) only[↓RD,RU,↓putF_get,↓evF_t,↓evF_c,new_get,pop,aop,wop,akV,isVal,Value.cells,ρ0,ρ1,ρ4,↓reduceIte,Nat.reduceAdd,Int.reduceOfNat,ρ7,ρ8,ρ19,ρ20,Kd.isRo,ρ25,ρ26,bldV,Nat.reduceLeDiff,frzV]) | (with_reducible first | refine condK_dec (fun _=> ?_) fun _=> ?_ | refine grd_dec (fun _=> ?_) fun _=> ?_ | refine egrd_dec (fun _=> ?_) fun _=> ?_))
 refine(src1_wp (p:=H.nx) (Nat.lt_succ_self _) ((new_get.trans (if_pos rfl)).trans rfl)).mono ?_
 rintro v K ⟨vs,rfl,hE,os,rfl,hs⟩
 rw[parse1] at hs⊢
 have hK:HExt H K:=((HExt.refl H).new _).trans hE
 clear hE
 obtain⟨w,os',rfl,hw,hn⟩:=nd_inv (rest:= []) (k:=1) (l:=1) (x:= []) (o:=0) (ks:= [nd 3 1 [.mk 36 1 [97] 0 [],nd 52 1 [.mk 36 1 [98] 0 [], .mk 30 1 [49] 0 []]]]) hs
 cases hn
 obtain⟨b1,os1,e1,kd1,rfl,hb1,ob1,kk1,hs1⟩:=row_inv hw
 obtain⟨w1,os',rfl,hw1,hn⟩:=nd_inv (rest:= []) (k:=3) (l:=1) (x:= []) (o:=0) (ks:= [.mk 36 1 [97] 0 [],nd 52 1 [.mk 36 1 [98] 0 [], .mk 30 1 [49] 0 []]]) hs1
 cases hn
 obtain⟨b2,os2,e2,kd2,rfl,hb2,ob2,kk2,hs2⟩:=row_inv hw1
 obtain⟨w2,os',rfl,hw2,hn⟩:=nd_inv (rest:=ndS (nd 52 1 [.mk 36 1 [98] 0 [], .mk 30 1 [49] 0 []])++ []) (k:=36) (l:=1) (x:= [97]) (o:=0) (ks:= []) hs2
 obtain⟨w3,os',rfl,hw3,hn⟩:=nd_inv (rest:= []) (k:=52) (l:=1) (x:= []) (o:=0) (ks:= [.mk 36 1 [98] 0 [], .mk 30 1 [49] 0 []]) hn
 cases hn
 obtain⟨b3,os3,e3,kd3,rfl,hb3,ob3,kk3,hs3⟩:=row_inv hw3
 obtain⟨w4,os',rfl,hw4,hn⟩:=nd_inv (rest:=ndS (.mk 30 1 [49] 0 [])++ []) (k:=36) (l:=1) (x:= [98]) (o:=0) (ks:= []) hs3
 obtain⟨w5,os',rfl,hw5,hn⟩:=nd_inv (rest:= []) (k:=30) (l:=1) (x:= [49]) (o:=0) (ks:= []) hn
 cases hn
 obtain⟨_,_,_,rfl⟩:=row_slc hw2
 have l1:b1<K.nx:=hb1.2
 have l2:b2<K.nx:=hb2.2
 have l3:b3<K.nx:=hb3.2
 have n1:b1≠K.nx:=Nat.ne_of_lt l1
 have n2:b2≠K.nx:=Nat.ne_of_lt l2
 have n3:b3≠K.nx:=Nat.ne_of_lt l3
 have n1':b1≠K.nx+1:=by omega
 have n2':b2≠K.nx+1:=by omega
 have n3':b3≠K.nx+1:=by omega
 repeat' (first | (simp (maxSteps:=2000000) (disch:=first | omega | (decide +kernel)) only[↓RD,RU,↓putF_get,↓putF_none,↓evF_t,new_get,pop,aop,wop,tupleV,akV,isVal,isCell,Value.cells,↓reduceIte,Nat.reduceEqDiff,Nat.reduceAdd,ρ5,ρ6,ρ7,ρ8,ρ17,ρ21,ρ22,ρ23,Kd.isRo,ρ25,ρ26]) | (with_reducible first | refine condK_dec (fun _=> ?_) fun _=> ?_ | refine grd_dec (fun _=> ?_) fun _=> ?_ | refine egrd_dec (fun _=> ?_) fun _=> ?_))
 have e:knP.2.2.1=_:=rfl
 conv at e=>rhs;reduce
 rw[e]
 clear e
 repeat' (first | (simp (maxSteps:=2000000) (disch:=first | omega | (decide +kernel)) only[↓RD,RU,↓putF_get,↓evF_t,↓evF_c,new_get,set_get,pop,lop,↓reduceIte,Nat.reduceEqDiff,Nat.reduceAdd,Int.reduceOfNat,reduceCtorEq,ρ5,ρ6,ρ7,ρ8,Int.reduceToNat,ρ28,Nat.zero_mul,ob1,n1]) | (with_reducible first | refine condK_dec (fun _=> ?_) fun _=> ?_ | refine grd_dec (fun _=> ?_) fun _=> ?_ | refine egrd_dec (fun _=> ?_) fun _=> ?_))
 have e:knP.2.2.2.1=_:=rfl
 conv at e=>rhs;reduce
 rw[e]
 clear e
 repeat' (first | (simp (maxSteps:=2000000) (disch:=first | omega | (decide +kernel)) only[↓RD,RU,↓putF_get,↓putF_none,↓evF_t,↓evF_c,new_nx,set_nx,new_get,set_get,pop,lop,aop,wop,akV,isVal,isCell,Value.cells,↓reduceIte,Nat.reduceEqDiff,Nat.reduceAdd,Int.reduceOfNat,ρ5,ρ6,ρ7,ρ8,ρ15,ρ17,ρ18,ρ21,ρ22,ρ23,Kd.isRo,ρ25,ρ26,Int.reduceToNat,ρ28,Nat.zero_mul,ob1,ob2,n1,n2]) | (with_reducible first | refine condK_dec (fun _=> ?_) fun _=> ?_ | refine grd_dec (fun _=> ?_) fun _=> ?_ | refine egrd_dec (fun _=> ?_) fun _=> ?_))
 have e:knP.2.2.2.2.1=_:=rfl
 conv at e=>rhs;reduce
 rw[e]
 clear e
 repeat' (first | (simp (maxSteps:=2000000) (disch:=first | omega | (decide +kernel)) only[↓RD,RU,↓putF_get,↓evF_t,↓evF_c,new_nx,set_nx,new_get,aop,wop,akV,isVal,Value.cells,ρ0,ρ1,ρ4,↓reduceIte,Nat.reduceAdd,Int.reduceOfNat,ρ7,ρ8,ρ19,ρ20,Kd.isRo,ρ25,ρ26,bldV,Nat.reduceLeDiff,frzV]) | (with_reducible first | refine condK_dec (fun _=> ?_) fun _=> ?_ | refine grd_dec (fun _=> ?_) fun _=> ?_ | refine egrd_dec (fun _=> ?_) fun _=> ?_))
 refine(src2_wp (p:=K.nx+1+1) (Nat.lt_succ_self _) ((new_get.trans (if_pos rfl)).trans rfl)).mono ?_
 rintro v K2 ⟨vs,rfl,hE2,os,rfl,hsz⟩
 rw[parse2] at hsz⊢
 have hx2:=hE2.ob
 have m4:=hx2 (K.nx+1) (by show K.nx+1<K.nx+1+1+1;omega)
 have m3:=hx2 b3 (by show b3<K.nx+1+1+1;omega)
 simp only[new_get,set_get,new_nx,set_nx,n3,n3',show ¬(b3=K.nx+1+1) by omega,show ¬(K.nx+1=K.nx+1+1) by omega,if_false,if_true,↓reduceIte,ob3] at m4 m3
 have e:knP.2.2.2.2.2=_:=rfl
 conv at e=>rhs;reduce
 rw[e]
 clear e
 repeat' (first | (simp (maxSteps:=2000000) (disch:=first | omega | (decide +kernel)) only[↓RD,RU,↓putF_get,↓evF_t,↓evF_c,pop,lop,tupleV,↓reduceIte,Nat.reduceEqDiff,Int.reduceOfNat,ρ5,ρ6,Int.reduceToNat,ρ28,Nat.zero_mul,m3,m4]) | (with_reducible first | refine condK_dec (fun _=> ?_) fun _=> ?_ | refine grd_dec (fun _=> ?_) fun _=> ?_ | refine egrd_dec (fun _=> ?_) fun _=> ?_))
 rw[pstr_eq,decide_eq_true (by rfl)]
 repeat' (first | (simp (maxSteps:=2000000) (disch:=first | omega | (decide +kernel)) only[↓RD,RU,↓putF_get,↓evF_t,↓evF_c,pop,resL,resV,tupleV,↓reduceIte,Nat.reduceEqDiff]) | (with_reducible first | refine condK_dec (fun _=> ?_) fun _=> ?_ | refine grd_dec (fun _=> ?_) fun _=> ?_ | refine egrd_dec (fun _=> ?_) fun _=> ?_))
 exact(((((hK.new _).set (by have:=hK.nx;omega) _).new _).set (by have:=hK.nx;omega) _).new _).trans hE2
end Can
end Go.Proofs.YtnankhlanilbbaaGreat
end
section
namespace Go.Proofs.YtnankhlanilbbaaGreat
namespace Can
open Go Go.RowKit
set_option linter.unusedSimpArgs false
set_option linter.unusedVariables false
set_option maxRecDepth 4000
theorem slat_ext{K K':CH}{q:Option Addr}{c:Nat}{ts:List PT}(h:SlAt 3 CTk K q c ts)(hx:HExt K K'):SlAt 3 CTk K' q c ts:=by
 rcases h with h | ⟨l,o,os,e,k,h0,h1,h2,h3,h4,h5,h6⟩
 ·exact .inl h
 ·exact .inr ⟨l,o,os,e,k,h0,Nat.lt_of_lt_of_le h1 hx.nx,h2,h3,(hx.ob l h1).trans h4,h5,h6⟩
theorem nsame_wp(ln:Bool){K:CH}{A B:Nat→Prop}(hA : ∀b,A b→b<K.nx)(hB : ∀b,B b→b<K.nx){a b:Nd}{os os':List Value}(h:SVRs K A (ndS a) os)(h':SVRs K B (ndS b) os'):WpF TL 11 [.agg os.toArray, .agg os'.toArray, .bool ln] K fun v K'=>HExt K K'∧v= .bool (sameN ln a b):=by
 obtain⟨k,l,x,o,ks⟩:=a
 obtain⟨k',l',x',o',ks'⟩:=b
 obtain⟨w,_,rfl,hw,hn⟩:=nd_inv (rest:= []) (by simpa using h)
 cases hn
 obtain⟨w',_,rfl,hw',hn⟩:=nd_inv (rest:= []) (by simpa using h')
 cases hn
 have r1:=nd_rel hA (k:=k) (l:=l) (x:=x) (o:=o) hw
 have r2:=nd_rel hB (k:=k') (l:=l') (x:=x') (o:=o') hw'
 refine(tc_wp (X:=pX) (same_tc ln (nsz (.mk k l x o ks)+1) k l x o ks k' l' x' o' ks' (Nat.lt_succ_self _) (fun a _=>a=rS (.bool (sameN ln (.mk k l x o ks) (.mk k' l' x' o' ks')))) _ rfl) ?_).mono fun v K' ⟨h1,a,s',h2,h3⟩=>⟨h1,by subst h3;exact raw_rel h2 rfl⟩
 cases r1 with | cons r1 _=>
 cases r2 with | cons r2 _=>
 exact .cons r1 (.cons r2 (.cons (rS_rel rfl) .nil))
mutual
theorem sameN_refl{ln:Bool} : ∀t:Nd,sameN ln t t=true
 | .mk k l x o ks=>by
   simp only[sameN,sameL_refl ks,decide_true,Bool.or_true,Bool.and_true]
theorem sameL_refl{ln:Bool} : ∀ks:List Nd,sameL ln ks ks=true
 | []=>rfl
 | n::ks=>by
   show(sameN ln n n&&sameL ln ks ks)=true
   rw[sameN_refl n,sameL_refl ks];rfl
end
end Can
end Go.Proofs.YtnankhlanilbbaaGreat
end
section
namespace Go.Proofs.YtnankhlanilbbaaGreat
namespace Can
open Go Go.RowKit
set_option linter.unusedSimpArgs false
set_option linter.unusedVariables false
set_option maxRecDepth 4000
theorem sources_law{H:CH}{q:Option Addr}{c:Nat}{src:List UInt8}(h:SlAt 1 (CInt .u8) H q c (u8i src)):WpF TL 4 [.slice q src.length c] H fun v _=>v= .bool true:=by
 refine wpF_rS (by rfl) (by kernel_rfl) ?_
 conv in (rF _ _).body=>reduce
 conv in (rF _ _).res=>reduce
 repeat' (first | (simp (disch:=first | omega | (decide +kernel)) only[↓RD,RU,↓evF_c,pop,ρ1,Int.reduceOfNat]) | (with_reducible first | refine condK_dec (fun _=> ?_) fun _=> ?_ | refine grd_dec (fun _=> ?_) fun _=> ?_ | refine egrd_dec (fun _=> ?_) fun _=> ?_))
 refine known_wp.mono ?_
 rintro v K ⟨hK,rfl⟩
 repeat' (first | (simp (disch:=first | omega | (decide +kernel)) only[↓RD,RU,↓putF_get,↓evF_t,getD_zero,u_not,pop,ρ0,ρ1,ρ2,↓reduceIte,reduceCtorEq]) | (with_reducible first | refine condK_dec (fun _=> ?_) fun _=> ?_ | refine grd_dec (fun _=> ?_) fun _=> ?_ | refine egrd_dec (fun _=> ?_) fun _=> ?_))
 refine(rlexf_wp (SlAt.good (CInt.good _) hK h)).mono ?_
 rintro v K1 ⟨hx1,hv⟩
 have hA:=SlAt.good (CInt.good _) (hK.trans hx1) h
 cases hL:lexT src with
 | error y=>
   rw[hL] at hv
   have hv:v= .tuple #[.slice none 0 0, .int .i64 y.1, .int .i64 y.2]:=hv
   subst hv
   have hy : ¬((y.2:Int)=0):=by
    have:y.2=20∨y.2=21∨y.2=24:=by
     by_cases hl:src.length≤20000
     ·rcases(lexT_err2 hl hL).2 with e | e
      ·exact .inl e
      ·exact .inr (.inl e)
     ·unfold lexT at hL
      rw[if_pos (by omega)] at hL
      cases hL
      exact .inr (.inr rfl)
    omega
   repeat' (first | (simp (disch:=first | omega | (decide +kernel)) only[↓RD,RU,↓putF_get,↓evF_t,↓evF_c,getD_zero,pop,aop,akV,ρ0,ρ1,↓reduceIte,Nat.reduceEqDiff,reduceCtorEq,ρ5,ρ6,hy]) | (with_reducible first | refine condK_dec (fun _=> ?_) fun _=> ?_ | refine grd_dec (fun _=> ?_) fun _=> ?_ | refine egrd_dec (fun _=> ?_) fun _=> ?_))
   have es:sourceT src=(zNd,(y.1:Int),(y.2:Int)):=by unfold sourceT;rw[hL]
   refine(source_wp (SlAt.good (CInt.good _) ((HExt.refl K1).new _) hA)).mono ?_
   rintro v K3 ⟨vs,rfl,hx3,os,rfl,hs3⟩
   rw[es] at hs3⊢
   have hn3:K1.nx+1≤K3.nx:=hx3.nx
   have o1:=hx3.ob K1.nx (Nat.lt_succ_self _)
   rw[new_get,if_pos rfl] at o1
   have hold : ∀b,b<K1.nx→K3.ob b=K1.ob b:=fun b hb=>by rw[hx3.ob b (by show b<K1.nx+1;omega),new_ne (by omega)]
   have hwant:SVRs K1 (fun b=>b<K1.nx) (ndS zNd) [.int .i64 0, .int .i64 0, .string ⟨⟨[]⟩⟩, .int .i64 0, .slice none 0 0]:= .cons (.sc rfl) (.cons (.sc rfl) (.cons (.sc rfl) (.cons (.sc rfl) (.cons .row0 .nil))))
   simp only at hs3⊢
   generalize (y.1:Int)=ln
   generalize (y.2:Int)=er
   obtain⟨i1,i2,i3,i4,iq,jn,jc,rfl⟩:=nd_cells hs3
   have t2:SVRs ((K3.new (.cells [.int .i64 0, .int .i64 0, .string ⟨⟨[]⟩⟩, .int .i64 0, .slice none 0 0] 26 .ex)).set K3.nx (.cells [.int .i64 i1, .int .i64 i2, .string i3, .int .i64 i4, .slice iq jn jc] 26 .ex)) (fun b=>b<K3.nx) (ndS zNd) [.int .i64 i1, .int .i64 i2, .string i3, .int .i64 i4, .slice iq jn jc]:=hs3.mv fun b hb=>⟨hb.2,by
    have:=hb.2
    rw[set_get,if_neg (by omega),new_ne (by omega)]⟩
   have t1:SVRs ((K3.new (.cells [.int .i64 0, .int .i64 0, .string ⟨⟨[]⟩⟩, .int .i64 0, .slice none 0 0] 26 .ex)).set K3.nx (.cells [.int .i64 i1, .int .i64 i2, .string i3, .int .i64 i4, .slice iq jn jc] 26 .ex)) (fun b=>b<K3.nx) (ndS zNd) [.int .i64 0, .int .i64 0, .string ⟨⟨[]⟩⟩, .int .i64 0, .slice none 0 0]:=hwant.mv fun b hb=>⟨by omega,by
    rw[set_get,if_neg (by omega),new_ne (by omega),hold b hb]⟩
   have hsm:=nsame_wp true (fun b hb=>by simp only[set_nx,new_nx];omega) (fun b hb=>by simp only[set_nx,new_nx];omega) t2 t1
   rw[sameN_refl] at hsm
   have hne:K1.nx≠K3.nx:=by omega
   repeat' (first | (simp (disch:=first | omega | (decide +kernel)) only[↓RD,RU,↓putF_get,↓putF_none,↓evF_t,↓evF_c,new_get,set_get,pop,lop,aop,wop,tupleV,akV,isVal,isCell,Value.cells,ρ0,ρ1,↓reduceIte,Nat.reduceEqDiff,Nat.reduceAdd,ρ5,ρ6,ρ7,ρ8,ρ15,ρ17,ρ18,ρ21,ρ22,ρ23,Kd.isRo,ρ25,ρ26,o1,hne]) | (with_reducible first | refine condK_dec (fun _=> ?_) fun _=> ?_ | refine grd_dec (fun _=> ?_) fun _=> ?_ | refine egrd_dec (fun _=> ?_) fun _=> ?_))
   refine hsm.mono ?_
   rintro v K4 ⟨hx4,rfl⟩
   repeat' (first | (simp (disch:=first | omega | (decide +kernel)) only[↓RD,RU,↓putF_get,↓evF_t,pop,resL,resV,tupleV,↓reduceIte,Nat.reduceEqDiff]) | (with_reducible first | refine condK_dec (fun _=> ?_) fun _=> ?_ | refine grd_dec (fun _=> ?_) fun _=> ?_ | refine egrd_dec (fun _=> ?_) fun _=> ?_))
 | ok ts=>
   rw[hL] at hv
   obtain⟨vt,rfl,hg⟩:=hv
   have hlen:=lexT_len' hL
   obtain⟨q',c',rfl,hs⟩:=grw_tk' (grw_pt hg) (by omega)
   repeat' (first | (simp (disch:=first | omega | (decide +kernel)) only[↓RD,RU,↓putF_get,↓evF_t,↓evF_c,pop,aop,akV,ρ0,ρ1,↓reduceIte,Nat.reduceEqDiff,ρ5,ρ6]) | (with_reducible first | refine condK_dec (fun _=> ?_) fun _=> ?_ | refine grd_dec (fun _=> ?_) fun _=> ?_ | refine egrd_dec (fun _=> ?_) fun _=> ?_))
   refine(rparse_tl (sl:=⟨q',ts.length,c'⟩) (slat_ext hs ((HExt.refl K1).new _)) (List.length_map _).symm (by omega)).mono ?_
   rintro v K2 ⟨hx2,os,rfl,hsw⟩
   obtain⟨g1,g2,g3,g4,gq,gn,gc,rfl⟩:=nd_cells hsw
   have hn2:K1.nx+1≤K2.nx:=hx2.nx
   have o2:=hx2.ob K1.nx (Nat.lt_succ_self _)
   rw[new_get,if_pos rfl] at o2
   have es:sourceT src=parseT (ts.map ptT):=by unfold sourceT;rw[hL]
   repeat' (first | (simp (disch:=first | omega | (decide +kernel)) only[↓RD,RU,↓putF_get,↓putF_none,↓evF_t,getD_zero,pop,wop,isVal,isCell,Value.cells,ρ0,ρ1,↓reduceIte,Nat.reduceEqDiff,Nat.reduceAdd,reduceCtorEq,ρ5,ρ6,ρ7,ρ8,ρ17,ρ21,ρ22,ρ23,Kd.isRo,ρ25,ρ26,o2]) | (with_reducible first | refine condK_dec (fun _=> ?_) fun _=> ?_ | refine grd_dec (fun _=> ?_) fun _=> ?_ | refine egrd_dec (fun _=> ?_) fun _=> ?_))
   refine(source_wp (SlAt.good (CInt.good _) ((((HExt.refl K1).new _).trans hx2).set (Nat.le_refl _) _) hA)).mono ?_
   rintro v K3 ⟨vs,rfl,hx3,os,rfl,hs3⟩
   rw[es] at hs3⊢
   have hn3:K2.nx≤K3.nx:=hx3.nx
   have o1:=hx3.ob K1.nx (by show K1.nx<K2.nx;omega)
   rw[set_get,if_pos rfl] at o1
   have hold : ∀b,b<K2.nx→b≠K1.nx→K3.ob b=K2.ob b:=fun b hb hne=>by rw[hx3.ob b hb,set_get,if_neg hne]
   generalize (parseT (ts.map ptT)).2.1=ln
   generalize (parseT (ts.map ptT)).2.2=er
   obtain⟨i1,i2,i3,i4,iq,jn,jc,rfl⟩:=nd_cells hs3
   have t2:SVRs ((K3.new (.cells [.int .i64 0, .int .i64 0, .string ⟨⟨[]⟩⟩, .int .i64 0, .slice none 0 0] 26 .ex)).set K3.nx (.cells [.int .i64 i1, .int .i64 i2, .string i3, .int .i64 i4, .slice iq jn jc] 26 .ex)) (fun b=>b<K3.nx) (ndS (parseT (ts.map ptT)).1) [.int .i64 i1, .int .i64 i2, .string i3, .int .i64 i4, .slice iq jn jc]:=hs3.mv fun b hb=>⟨hb.2,by
    have:=hb.2
    rw[set_get,if_neg (by omega),new_ne (by omega)]⟩
   have t1:SVRs ((K3.new (.cells [.int .i64 0, .int .i64 0, .string ⟨⟨[]⟩⟩, .int .i64 0, .slice none 0 0] 26 .ex)).set K3.nx (.cells [.int .i64 i1, .int .i64 i2, .string i3, .int .i64 i4, .slice iq jn jc] 26 .ex)) (fun b=>b<K3.nx) (ndS (parseT (ts.map ptT)).1) [.int .i64 g1, .int .i64 g2, .string g3, .int .i64 g4, .slice gq gn gc]:=hsw.mv fun b hb=>by
    have h1:K1.nx+1≤b:=hb.1
    have h2:=hb.2
    exact⟨by omega,by rw[set_get,if_neg (by omega),new_ne (by omega),hold b h2 (by omega)]⟩
   have hsm:=nsame_wp true (fun b hb=>by simp only[set_nx,new_nx];omega) (fun b hb=>by simp only[set_nx,new_nx];omega) t2 t1
   rw[sameN_refl] at hsm
   have hne:K1.nx≠K3.nx:=by omega
   repeat' (first | (simp (disch:=first | omega | (decide +kernel)) only[↓RD,RU,↓putF_get,↓putF_none,↓evF_t,↓evF_c,new_get,set_get,pop,lop,aop,wop,tupleV,akV,isVal,isCell,Value.cells,ρ0,ρ1,↓reduceIte,Nat.reduceEqDiff,Nat.reduceAdd,ρ5,ρ6,ρ7,ρ8,ρ15,ρ17,ρ18,ρ21,ρ22,ρ23,Kd.isRo,ρ25,ρ26,o1,hne]) | (with_reducible first | refine condK_dec (fun _=> ?_) fun _=> ?_ | refine grd_dec (fun _=> ?_) fun _=> ?_ | refine egrd_dec (fun _=> ?_) fun _=> ?_))
   refine hsm.mono ?_
   rintro v K4 ⟨hx4,rfl⟩
   repeat' (first | (simp (disch:=first | omega | (decide +kernel)) only[↓RD,RU,↓putF_get,↓evF_t,pop,resL,resV,tupleV,↓reduceIte,Nat.reduceEqDiff]) | (with_reducible first | refine condK_dec (fun _=> ?_) fun _=> ?_ | refine grd_dec (fun _=> ?_) fun _=> ?_ | refine egrd_dec (fun _=> ?_) fun _=> ?_))
theorem sources_law'{H:CH}{q:Option Addr}{c:Nat}{xs:List Int}(h:SlAt 1 (CInt .u8) H q c xs):WpF TL 4 [.slice q xs.length c] H fun v _=>v= .bool true:=by
 obtain⟨src,rfl⟩:=u8_of h
 rw[u8i_len]
 exact sources_law h
end Can
end Go.Proofs.YtnankhlanilbbaaGreat
end
