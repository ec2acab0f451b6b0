/- Lex, the document: Lex. Parse, the document: the reader in memory; its looks at a token. (Printed by tools/gendoc.py.). Parse, the document: the reader as the one object of runs over trees; nodes of any content. -/
import Derived.Test.YtnankhlanilbbaaGreatZo
import Derived.Test.YtnankhlanilbbaaGreatZi
import Derived.Test.YtnankhlanilbbaaGreatZl
section
namespace Go.Proofs.YtnankhlanilbbaaGreat
namespace Can
open Go Go.RowKit
set_option linter.unusedSimpArgs false
set_option linter.unusedVariables false
set_option maxRecDepth 4000
theorem flat_str : ∀ {R:List (List UInt8)},R.flatMap strC=R.map fun r=>Value.string (str r)
 | []=>rfl
 | a::r=>by rw[List.flatMap_cons,flat_str];rfl
theorem splitN_no : ∀ {src:List UInt8},∀t∈splitN src,∀x∈t,x.toNat≠10
 | [],t,h,x,hx=>by simp[splitN] at h;subst h;cases hx
 | c::r,t,h,x,hx=>by
   have ih:=fun t h=>splitN_no (src:=r) t h
   simp only[splitN] at h
   split at h
   ·rcases List.mem_cons.1 h with rfl | h
    ·cases hx
    ·exact ih t h x hx
   ·rename_i hc
    split at h
    ·rename_i a b hq
     rcases List.mem_cons.1 h with rfl | h
     ·rcases List.mem_cons.1 hx with rfl | hx
      ·exact hc
      ·exact ih a (by rw[hq];simp) x hx
     ·exact ih t (by rw[hq];simp[h]) x hx
    ·simp at h;subst h;simp at hx;subst hx;exact hc
theorem zz3{a b c:Value}:setCells (zeros [.int .i64 0, .int .i64 0, .string ⟨⟨[]⟩⟩] 3) (0*3) [a,b,c]= [a,b,c]:=rfl
theorem DcAt.pop1{A K:CH}{vt:Value}{b c m:Nat}{st:List Nat}{out:List Tok}(h:DcAt A K (.slice (some ⟨b,0,none⟩) (st.length-m) c) vt (st.drop m).reverse out)(hm:m<st.length):DcAt A K (.slice (some ⟨b,0,none⟩) (st.length-(m+1)) c) vt (st.drop (m+1)).reverse out:=by
 have e:(st.drop m).reverse.length=st.length-m:=by simp
 rw[←e] at h
 have h2:=h.pop (m:=st.length-(m+1)) (by simp;omega)
 rw[List.take_reverse,List.length_drop,List.drop_drop] at h2
 have e2:m+(st.length-m-(st.length-(m+1)))=m+1:=by omega
 rw[e2] at h2
 exact h2
theorem DcAt.top{A K:CH}{vt:Value}{b c m:Nat}{st:List Nat}{out:List Tok}(h:DcAt A K (.slice (some ⟨b,0,none⟩) (st.length-m) c) vt (st.drop m).reverse out)(hm:m<st.length) : ∃kd os,K.ob b= .cells os 3 kd∧st.length-m≤c∧st.length-m≤os.length∧os[st.length-m-1]? = some (.int .i64 (st.getD m 0:Nat)):=by
 have el:(st.drop m).reverse.length=st.length-m:=by simp
 rw[←el] at h
 obtain⟨b',kd,c',os,e,h1,h2,h3,h4⟩:=h.last
 cases e
 rw[el] at h2 h3 h4
 refine⟨kd,os,h1,h2,h3,(h4 _ (by omega)).trans ?_⟩
 congr 3
 simp only[List.getD_eq_getElem?_getD]
 rw[List.getElem?_reverse (by simp;omega),List.length_drop,List.getElem?_drop]
 congr 2;omega
theorem sl_pop{b n c j:Nat}(h2:j≤c)(h3:0<j):sliceV 1 (.slice (some ⟨b,0,none⟩) n c) ((0:Nat):Int) (j:Int) (c:Int) false=some (.slice (some ⟨b,0,none⟩) j c):=by
 obtain⟨i,rfl⟩ : ∃i,j=i+1:=⟨j-1,by omega⟩
 exact sl_open h2
def PoJ (A:CH)(b c k line:Nat)(st:List Nat)(out:List Tok)(q:Nat)(v6 v8:Value)(K:CH):Prop:=∃m,q=k-m∧m≤k∧v6= .slice (some ⟨b,0,none⟩) (st.length-m) c∧DcAt A K (.slice (some ⟨b,0,none⟩) (st.length-m) c) v8 (st.drop m).reverse (out++List.replicate m ⟨3,line,[]⟩)
theorem PoJ.init{A K:CH}{b c k line:Nat}{st:List Nat}{out:List Tok}{vt:Value}(h:DcAt A K (.slice (some ⟨b,0,none⟩) st.length c) vt st.reverse out):PoJ A b c k line st out k (.slice (some ⟨b,0,none⟩) st.length c) vt K:=⟨0,rfl,Nat.zero_le _,rfl,by simpa using h⟩
def dpA (d k:Nat)(x:List UInt8):Nat:=if k=9∧x∈ [[UInt8.ofNat 40],[UInt8.ofNat 91],[UInt8.ofNat 123]] then d+1 else d
def dpB (d k:Nat)(x:List UInt8):Nat:=if k=9∧x∈ [[UInt8.ofNat 41],[UInt8.ofNat 93],[UInt8.ofNat 125]]∧0<d then d-1 else d
theorem dp_eq{d k:Nat}{x:List UInt8}:dpB (dpA d k x) k x=depT d k x:=by
 have hne:x∈ [[UInt8.ofNat 40],[UInt8.ofNat 91],[UInt8.ofNat 123]]→x ∉ [[UInt8.ofNat 41],[UInt8.ofNat 93],[UInt8.ofNat 125]]:=fun h=>by revert x;decide
 show _=if k=9∧x∈ [[UInt8.ofNat 40],[UInt8.ofNat 91],[UInt8.ofNat 123]] then d+1 else if k=9∧x∈ [[UInt8.ofNat 41],[UInt8.ofNat 93],[UInt8.ofNat 125]]∧0<d then d-1 else d
 unfold dpB dpA
 by_cases h:k=9∧x∈ [[UInt8.ofNat 40],[UInt8.ofNat 91],[UInt8.ofNat 123]]
 ·rw[if_pos h,if_pos h,if_neg (fun g=>hne h.2 g.2.1)]
 ·rw[if_neg h,if_neg h]
theorem mem3{x a b c:List UInt8}:x∈ [a,b,c]↔(decide (x=a)||decide (x=b)||decide (x=c))=true:=by simp[or_assoc]
def PcJ (A:CH)(line d:Nat)(t:List UInt8)(op:List Nat)(o2:List Tok)(vo:Value)(q:Nat)(v6 v7 v8 v11:Value)(K:CH):Prop:=∃(j dd:Nat) (ts:List Tok),RwB ⟨0,line,d,[],[],0,0⟩ t j q dd ts∧v11= .int .i64 (j+blkN (t.drop j):Nat)∧v7= .int .i64 (dd:Nat)∧v6=vo∧DcAt A K vo v8 op.reverse (o2++ts)
theorem RwB.init0{line d:Nat}{t:List UInt8}:RwB ⟨0,line,d,[],[],0,0⟩ t 0 (t.length+1) d []:=by
 refine⟨?_,by omega,by omega,by omega,by show d≤d+0;omega,by simp⟩
 show toks line (t.length+1) t d=_
 rw[List.drop_zero]
 cases toks line (t.length+1) t d<;>simp
def OtJ (A:CH)(vo:Value)(opn:List Nat)(out:List Tok)(rows m n:Nat)(v8 v13:Value)(K:CH):Prop:=∃k:Nat,n=m-k∧k≤m∧v13= .int .i64 (1+k:Nat)∧DcAt A K vo v8 opn (out++List.replicate k ⟨3,rows,[]⟩)
def OuJ (A:CH)(R:List (List UInt8))(B n:Nat)(v5 v6 v7 v8 v9:Value)(K:CH):Prop:=∃(i d:Nat) (st:List Nat) (out:List Tok),n=R.length-i∧v9= .int .i64 (i:Nat)∧v7= .int .i64 (d:Nat)∧RwK R B i d st out∧DcAt A K v6 v8 st.reverse out∧HExt A K
set_option maxHeartbeats 2000000 in
theorem rlex_wp(H:CH){q:Option Addr}{c:Nat}{src:List UInt8}(h:SlAt 1 (CInt .u8) H q c (u8i src)) :
 WpF (tblG Tryz.prog LG GG) 12 [.slice q src.length c] H fun v K=>HExt H K∧LexOut H K v (lexT src):=by
 refine wpF_rG (by rfl) (by kernel_rfl) ?_;(conv in (rF _ _).body=>reduce);(conv in (rF _ _).res=>reduce)
 by_cases hl:20000<src.length
 ·have e:lexT src= .error (0,24):=by unfold lexT;rw[if_pos hl]
  rw[e]
  repeat' (first | (simp (disch:=first | omega | (decide +kernel)) only[↓RD,RU,↓putF_get,↓evF_t,↓evF_c,getD_zero,pop,resL,resV,tupleV,↓reduceIte,Nat.reduceEqDiff,Int.reduceOfNat,reduceCtorEq]) | (with_reducible first | refine condK_dec (fun _=> ?_) fun _=> ?_ | refine grd_dec (fun _=> ?_) fun _=> ?_ | refine egrd_dec (fun _=> ?_) fun _=> ?_))
  all_goals exact⟨HExt.refl _,rfl⟩
 ·have hb:=b2s_ok h
  obtain⟨vl,K1,hx1,hG1,hli⟩:=lines_iff (A:=H) (src:=src) (by omega)
  repeat' (first | (simp (disch:=first | omega | (decide +kernel)) only[↓r_seq,↓r_block,↓seqK_n,↓r_reg,↓r_cond,↓condK_f,↓i_cons,↓itemK,↓o_p,↓o_l,↓o_a,↓o_call,↓putF_get,↓evF_t,↓evF_c,optV_some,optA_some,↓wpI_nil,↓wpR_skip,getD_zero,b_gtr,pop,aop,akV,isVal,Value.cells,List.map_cons,List.map_nil,Option.map_some,↓reduceIte,Int.reduceOfNat,reduceCtorEq,List.length_cons,List.length_nil,setc_0,List.drop_succ_cons,List.append_nil,List.drop_nil,List.size_toArray,List.toList_toArray,bldV,Nat.reduceLeDiff,Nat.le_refl,zeros_one,dec_f,Nat.mul_one,Nat.zero_add,and_true,lop_b2s,hb,hli]) | (with_reducible first | refine condK_dec (fun _=> ?_) fun _=> ?_ | refine grd_dec (fun _=> ?_) fun _=> ?_ | refine egrd_dec (fun _=> ?_) fun _=> ?_))
  have hx01:HExt H (K1.new (.cells [.int .i64 0] 3 .ex)):=hx1.new _
  have hsum:=splitN_sum (src:=src)
  obtain⟨R,hR⟩ : ∃R,splitN src=R:=⟨_,rfl⟩
  have hmem : ∀t∈R,t.length≤src.length:=fun t ht=>splitN_mem t (by rw[hR];exact ht)
  have hnl : ∀t∈R,∀x∈t,x.toNat≠10:=fun t ht=>splitN_no t (by rw[hR];exact ht)
  rw[hR] at hG1 hsum
  have hlt:lexT src=match rowsT 1 R 0 [0] with
   | .error e=> .error e
   | .ok (x,st)=> .ok (x++endT R.length st):=by unfold lexT;rw[if_neg hl,hR];cases rowsT 1 R 0 [0]<;>rfl
  obtain⟨A,hA⟩ : ∃A,K1.new (.cells [.int .i64 0] 3 .ex)=A:=⟨_,rfl⟩
  have hGA:Grw H 9 1 strC A vl R:=by rw[←hA];exact hG1.ext ((HExt.refl _).new _)
  obtain⟨B,hB⟩ : ∃B,1+(R.map List.length).sum+3*R.length=B:=⟨_,rfl⟩
  have hB':B≤80005:=by omega
  refine loop_w (fun n fr K=>OuJ K1 R B n (fr 5) (fr 6) (fr 7) (fr 8) (fr 9) K) (n:=R.length) ⟨0,0,[0],[],rfl,by(repeat' (first | (simp (disch:=first | omega | (decide +kernel)) only[↓putF_get,↓reduceIte]) | (with_reducible first | refine condK_dec (fun _=> ?_) fun _=> ?_ | refine grd_dec (fun _=> ?_) fun _=> ?_ | refine egrd_dec (fun _=> ?_) fun _=> ?_));all_goals rfl),by(repeat' (first | (simp (disch:=first | omega | (decide +kernel)) only[↓putF_get,↓reduceIte,Nat.reduceEqDiff]) | (with_reducible first | refine condK_dec (fun _=> ?_) fun _=> ?_ | refine grd_dec (fun _=> ?_) fun _=> ?_ | refine egrd_dec (fun _=> ?_) fun _=> ?_));all_goals rfl),RwK.init (by omega),⟨?_,?_,?_⟩,?_⟩ ?_
  ·repeat' (first | (simp (disch:=first | omega | (decide +kernel)) only[↓putF_get,↓reduceIte,Nat.reduceEqDiff]) | (with_reducible first | refine condK_dec (fun _=> ?_) fun _=> ?_ | refine grd_dec (fun _=> ?_) fun _=> ?_ | refine egrd_dec (fun _=> ?_) fun _=> ?_))
   all_goals exact⟨K1.nx, .ex,1,[.int .i64 0],rfl,Nat.le_refl _,Nat.lt_succ_self _,new_get.trans (if_pos rfl),rfl,by decide,by decide,by decide,fun i hi=>by
    have:i=0:=by simpa using hi
    subst this;rfl⟩
  ·repeat' (first | (simp (disch:=first | omega | (decide +kernel)) only[↓putF_get,↓reduceIte,Nat.reduceEqDiff]) | (with_reducible first | refine condK_dec (fun _=> ?_) fun _=> ?_ | refine grd_dec (fun _=> ?_) fun _=> ?_ | refine egrd_dec (fun _=> ?_) fun _=> ?_))
   all_goals exact .inl ⟨rfl,rfl⟩
  ·exact(HExt.refl _).new _
  ·exact(HExt.refl _).new _
  rintro n fr K ⟨i,d,st,out,rfl,f9,f7,hW,hD,hxK⟩ hag
  obtain⟨vo,f6⟩ : ∃v,fr 6=v:=⟨_,rfl⟩
  obtain⟨vt,f8⟩ : ∃v,fr 8=v:=⟨_,rfl⟩
  rw[f6,f8] at hD
  have f5:fr 5=vl:=by repeat' (first | (simp (disch:=first | omega | (decide +kernel)) only[↓putF_get,↓reduceIte,Nat.reduceEqDiff,hag]) | (with_reducible first | refine condK_dec (fun _=> ?_) fun _=> ?_ | refine grd_dec (fun _=> ?_) fun _=> ?_ | refine egrd_dec (fun _=> ?_) fun _=> ?_))
  have hGK:=hG1.ext hxK
  have hbo:=hW.bo
  have hRlen : ∃qv cv,vl= .slice qv R.length cv:=by
   rcases hGA with ⟨e1,e2⟩ | ⟨b,kd,e2,_⟩
   ·exact⟨_,_,by rw[e2,e1];rfl⟩
   ·exact⟨_,_,e2⟩
  by_cases hil:i<R.length
  ·rcases hGK with ⟨e1,_⟩ | ⟨b,kd,rfl,g1,g2,g3,g4⟩
   ·rw[e1] at hil;cases hil
   have hgi:(R.flatMap strC)[i]? = some (.string (str R[i])):=by
    rw[flat_str,List.getElem?_map,List.getElem?_eq_getElem hil];rfl
   obtain⟨t,ht⟩ : ∃t,R[i]=t:=⟨_,rfl⟩
   rw[ht] at hgi
   have htl:=hmem t (by rw[←ht];exact List.getElem_mem hil)
   have hno : ∀x∈t,x.toNat≠10:=hnl t (by rw[←ht];exact List.getElem_mem hil)
   have hbk:=fun(K:CH) (j:Nat) (hj:j≤t.length) (Q:Value→CH→Prop)=> @blanks_iff K t j hj (by omega) hno Q
   have hbk0:=fun(K:CH) (Q:Value→CH→Prop)=>hbk K 0 (Nat.zero_le _) Q
   simp only[List.drop_zero,Nat.zero_add] at hbk0
   have hbk0' : ∀(K:CH) (Q:Value→CH→Prop),WpF (tblG Tryz.prog LG GG) 27 [.string ⟨⟨t⟩⟩, .int .i64 0] K Q↔Q (.int .i64 (blkN t:Nat)) K:=hbk0
   have hble:=blkN_len (t:=t)
   by_cases hbl:blkN t=t.length
   ·have hr:rowT (i+1) R[i] d st= .ok ([],d,st):=by rw[ht];unfold rowT;rw[if_pos (by omega)]
    have hW2:=hW.step hil hr
    rw[List.append_nil] at hW2
    repeat' (first | (simp (disch:=first | omega | (decide +kernel)) only[↓RD,RU,↓putF_get,↓evF_t,↓evF_c,pop,lop,ρ0,ρ1,↓reduceIte,Nat.reduceEqDiff,ρ29,hag,f6,f7,f8,f9,g3,hgi,hbk0',str_size]) | (with_reducible first | refine condK_dec (fun _=> ?_) fun _=> ?_ | refine grd_dec (fun _=> ?_) fun _=> ?_ | refine egrd_dec (fun _=> ?_) fun _=> ?_))
    all_goals exact⟨R.length-(i+1),by omega,i+1,d,st,out,rfl,congrArg (Value.int .i64) (by omega),by first | exact f7 | rfl,hW2,by first | (rw[f6,f8];exact hD) | exact hD,hxK⟩
   ·refine seq_cut (fun fr' K'=>K'=K) (by repeat' (first | (simp (disch:=first | omega | (decide +kernel)) only[↓RD,RU,↓putF_get,↓evF_t,pop,↓reduceIte,Nat.reduceEqDiff,hag,f9]) | (with_reducible first | refine condK_dec (fun _=> ?_) fun _=> ?_ | refine grd_dec (fun _=> ?_) fun _=> ?_ | refine egrd_dec (fun _=> ?_) fun _=> ?_))) ?_
    rintro fr1 K' rfl ha1
    refine r_seq.2 (r_block.2 ?_)
    refine seq_cut (fun fr' K''=>fr' 10= .string (str t)∧K''=K') (by repeat' (first | (simp (disch:=first | omega | (decide +kernel)) only[↓RD,RU,↓putF_get,↓evF_t,pop,lop,↓reduceIte,Nat.reduceEqDiff,ρ29,hag,ha1,f9,g3,hgi]) | (with_reducible first | refine condK_dec (fun _=> ?_) fun _=> ?_ | refine grd_dec (fun _=> ?_) fun _=> ?_ | refine egrd_dec (fun _=> ?_) fun _=> ?_))) ?_
    rintro fr2 K'' ⟨f10,rfl⟩ ha2
    refine seq_cut (fun fr' K'=>fr' 11= .int .i64 (blkN t:Nat)∧K'=K'') (by repeat' (first | (simp (disch:=first | omega | (decide +kernel)) only[↓RD,RU,↓putF_get,↓evF_t,↓evF_c,pop,ρ0,ρ1,↓reduceIte,f10,hbk0']) | (with_reducible first | refine condK_dec (fun _=> ?_) fun _=> ?_ | refine grd_dec (fun _=> ?_) fun _=> ?_ | refine egrd_dec (fun _=> ?_) fun _=> ?_))) ?_
    rintro fr3 K' ⟨f11,rfl⟩ ha3
    refine seq_cut (fun fr' K''=>K''=K') (by repeat' (first | (simp (disch:=first | omega | (decide +kernel)) only[↓RD,RU,↓putF_get,↓evF_t,pop,↓reduceIte,Nat.reduceEqDiff,ha3,f10,f11,str_size]) | (with_reducible first | refine condK_dec (fun _=> ?_) fun _=> ?_ | refine grd_dec (fun _=> ?_) fun _=> ?_ | refine egrd_dec (fun _=> ?_) fun _=> ?_))) ?_
    rintro fr4 K'' rfl ha4
    have ha : ∀k,k=5∨k=6∨k=7∨k=8∨k=9→fr4 k=fr k:=fun k hk=>by
     rcases hk with rfl | rfl | rfl | rfl | rfl<;>(rw[ha4 _ (by decide +kernel),ha3 _ (by decide +kernel),ha2 _ (by decide +kernel),ha1 _ (by decide +kernel)])
    have b5:=(ha 5 (by omega)).trans f5
    have b6:=(ha 6 (by omega)).trans f6
    have b7:=(ha 7 (by omega)).trans f7
    have b8:=(ha 8 (by omega)).trans f8
    have b9:=(ha 9 (by omega)).trans f9
    have b10:fr4 10= .string (str t):=(ha4 10 (by decide +kernel)).trans ((ha3 10 (by decide +kernel)).trans f10)
    have b11:fr4 11= .int .i64 (blkN t:Nat):=(ha4 11 (by decide +kernel)).trans f11
    by_cases herr:d=0∧(indT (i+1) st (blkN t)).2.headD 0≠blkN t
    ·have hd0:=herr.1
     have hlt2 : ¬st.headD 0<blkN t:=fun g=>herr.2 (by unfold indT;rw[if_pos g];rfl)
     have hr:rowT (i+1) R[i] d st= .error 21:=by rw[ht];unfold rowT;rw[if_neg (by omega),if_pos herr]
     have hst0:0<st.length:=by
      have:=hW.z
      cases st with
      | nil=>cases this
      | cons a l=>simp
     have hrl:st.reverse.length=st.length:=by simp
     obtain⟨b2,kd2,c2,os2,rfl,q1,q2,q3,q4⟩:=hD.last
     have hg0:os2[st.length-1]? = some (.int .i64 (st.headD 0:Nat)):=by
      rw[q4 _ (by omega)]
      congr 3
      cases st with
      | nil=>cases hst0
      | cons a l=>simp[List.getD_eq_getElem?_getD]
     have hsub:((st.length:Nat):Int)-1=((st.length-1:Nat):Int):=by omega
     rw[hrl] at b6 hD q3
     obtain⟨k,hk1,hk2,hk3,hk4,hk5⟩:=tw_spec (n:=blkN t) hW.z
     have hind:indT (i+1) st (blkN t)=(List.replicate k ⟨3,i+1,[]⟩,st.drop k):=by unfold indT;rw[if_neg hlt2,hk1,hk5]
     have hhd:(st.drop k).headD 0=st.getD k 0:=by
      rw[List.drop_eq_getElem_cons hk2]
      simp[List.getD,List.getElem?_eq_getElem hk2]
     have hen : ¬blkN t=st.getD k 0:=fun g=>herr.2 (by rw[hind];show(st.drop k).headD 0=_;rw[hhd,g])
     repeat' (first | (simp (disch:=first | omega | (decide +kernel)) only[↓r_seq,↓r_block,↓seqK_n,↓r_reg,↓r_cond,↓condK_t,↓condK_f,↓i_cons,↓itemK,↓o_p,↓o_l,↓putF_get,↓evF_t,↓evF_c,optV_some,↓wpI_nil,↓wpR_skip,b_sub,b_eql,b_gtr,w_i64,pop,lop,↓reduceIte,Nat.reduceEqDiff,dec_t,dec_f,if_pos,Nat.mul_one,Nat.zero_add,Int.toNat_natCast,b7,b6,b11,hd0,q1,hg0,hsub]) | (with_reducible first | refine condK_dec (fun _=> ?_) fun _=> ?_ | refine grd_dec (fun _=> ?_) fun _=> ?_ | refine egrd_dec (fun _=> ?_) fun _=> ?_))
     refine loop_w (fun q fr K=>PoJ K1 b2 c2 k (i+1) st out q (fr 6) (fr 8) K) (n:=k) (by
      have:PoJ K1 b2 c2 k (i+1) st out k (.slice (some ⟨b2,0,none⟩) st.length c2) vt K'':= .init hD
      first | exact this | (repeat' (first | (simp (disch:=first | omega | (decide +kernel)) only[↓putF_get,↓reduceIte,Nat.reduceEqDiff,b6,b8]) | (with_reducible first | refine condK_dec (fun _=> ?_) fun _=> ?_ | refine grd_dec (fun _=> ?_) fun _=> ?_ | refine egrd_dec (fun _=> ?_) fun _=> ?_));all_goals exact this)) ?_
     rintro q fr9 K9 ⟨m,rfl,hm,u6,hDm⟩ hag9
     obtain⟨vt9,u8⟩ : ∃v,fr9 8=v:=⟨_,rfl⟩
     rw[u8] at hDm
     obtain⟨kd9,os9,s1,s2,s3,s4⟩:=hDm.top (by omega)
     have hsub9:((st.length-m:Nat):Int)-1=((st.length-m-1:Nat):Int):=by omega
     by_cases hmk:m<k
     ·have hgt:=hk3 m hmk
      have hsv:= @sl_pop b2 (st.length-m) c2 (st.length-m-1) (by omega) (by omega)
      have hok:=okSl_of (o:=0) (n:=st.length-m) (c:=c2) s1
      repeat' (first | (simp (disch:=first | omega | (decide +kernel)) only[↓r_seq,↓r_block,↓seqK_n,↓r_reg,↓r_cond,↓condK_t,↓i_cons,↓itemK,↓o_p,↓o_l,↓o_a,↓o_w,↓putF_get,↓evF_t,↓evF_c,new_get,optV_some,optA_some,↓wpI_nil,↓wpR_skip,b_add,b_sub,b_lss,w_i64,pop,lop,aop,akV,isVal,Value.cells,List.map_cons,List.map_nil,Option.map_some,↓reduceIte,Nat.reduceEqDiff,Nat.reduceAdd,reduceCtorEq,List.length_cons,List.length_nil,setc_0,setc_s,srcR_c,src_r,bnd,capV,Option.isSome_none,Option.isNone_none,Option.isSome_some,Bool.or_true,List.take_succ_cons,List.drop_succ_cons,List.drop_zero,List.cons_append,List.nil_append,List.take_nil,Bool.and_true,List.size_toArray,List.toList_toArray,bldV,Nat.reduceLeDiff,Nat.le_refl,dec_t,↓w_app,appS_some,if_pos,Nat.mul_one,Nat.one_mul,Nat.zero_add,Int.toNat_natCast,true_and,and_true,hag9,b9,b11,u6,u8,s1,s4,hsub9,hsv,hok,zz3]) | (with_reducible first | refine condK_dec (fun _=> ?_) fun _=> ?_ | refine grd_dec (fun _=> ?_) fun _=> ?_ | refine egrd_dec (fun _=> ?_) fun _=> ?_))
      refine((hDm.pop1 (by omega)).mv (by(repeat (first | assumption | exact HExt.refl _ | (refine HExt.set ?_ (by first | omega | (simp only[new_nx,set_nx];omega)) _) | (refine HExt.new ?_ _))))).put ⟨3,i+1,[]⟩ (by simp;omega) rfl fun vt5 K5 h5 hn5 hk5=> ?_
      repeat' (first | (simp (disch:=first | omega | (decide +kernel)) only[↓RD,RU,↓putF_get,↓evF_t,pop,↓reduceIte,Nat.reduceEqDiff]) | (with_reducible first | refine condK_dec (fun _=> ?_) fun _=> ?_ | refine grd_dec (fun _=> ?_) fun _=> ?_ | refine egrd_dec (fun _=> ?_) fun _=> ?_))
      all_goals exact⟨k-(m+1),by omega,m+1,rfl,by omega,rfl,by
       have e:out++List.replicate (m+1) (⟨3,i+1,[]⟩:Tok)=out++List.replicate m ⟨3,i+1,[]⟩++ [⟨3,i+1,[]⟩]:=by rw[List.replicate_succ',List.append_assoc]
       rw[e];exact h5⟩
     ·have hmk':m=k:=by omega
      subst hmk'
      repeat' (first | (simp (disch:=first | omega | (decide +kernel)) only[↓RD,RU,↓putF_get,↓evF_t,↓evF_c,pop,lop,resL,resV,tupleV,↓reduceIte,Nat.reduceEqDiff,ρ29,hag9,b9,b11,u6,s1,s4,hsub9]) | (with_reducible first | refine condK_dec (fun _=> ?_) fun _=> ?_ | refine grd_dec (fun _=> ?_) fun _=> ?_ | refine egrd_dec (fun _=> ?_) fun _=> ?_))
      all_goals exact⟨hx1.trans hDm.2.2,by rw[hlt,hW.err hil hr];rfl⟩
    ·refine seq_cut (fun fr' K'=>DcAt K1 K' (fr' 6) (fr' 8) (if d=0 then (indT (i+1) st (blkN t)).2 else st).reverse (out++(if d=0 then (indT (i+1) st (blkN t)).1 else []))∧HExt K1 K') ?_ ?_
     ·by_cases hd0:d=0
      ·rw[if_pos hd0,if_pos hd0]
       have hst0:0<st.length:=by
        have:=hW.z
        cases st with
        | nil=>cases this
        | cons a l=>simp
       have hrl:st.reverse.length=st.length:=by simp
       obtain⟨b2,kd2,c2,os2,rfl,q1,q2,q3,q4⟩:=hD.last
       have hg0:os2[st.length-1]? = some (.int .i64 (st.headD 0:Nat)):=by
        rw[q4 _ (by omega)]
        congr 3
        cases st with
        | nil=>cases hst0
        | cons a l=>simp[List.getD_eq_getElem?_getD]
       have hsub:((st.length:Nat):Int)-1=((st.length-1:Nat):Int):=by omega
       rw[hrl] at b6 hD q3
       by_cases hlt2:st.headD 0<blkN t
       ·have hind:indT (i+1) st (blkN t)=([⟨2,i+1,[]⟩],blkN t::st):=by unfold indT;rw[if_pos hlt2]
        repeat' (first | (simp (disch:=first | omega | (decide +kernel)) only[↓r_seq,↓seqK_n,↓r_reg,↓r_cond,↓condK_t,↓i_cons,↓itemK,↓o_p,↓o_l,↓o_a,↓o_w,↓putF_get,↓evF_t,↓evF_c,new_get,optV_some,optA_some,↓wpI_nil,b_sub,b_eql,b_gtr,w_i64,pop,lop,aop,akV,isVal,Value.cells,List.map_cons,List.map_nil,Option.map_some,↓reduceIte,Nat.reduceEqDiff,reduceCtorEq,List.length_cons,List.length_nil,setc_0,srcR_c,src_r,List.take_succ_cons,List.drop_succ_cons,List.drop_zero,List.append_nil,List.take_nil,List.drop_nil,List.size_toArray,List.toList_toArray,bldV,Nat.reduceLeDiff,Nat.le_refl,zeros_one,dec_t,↓w_app,appS_some,if_pos,Nat.mul_one,Nat.zero_add,Int.toNat_natCast,and_true,b7,b6,b11,hd0,q1,hg0,hsub]) | (with_reducible first | refine condK_dec (fun _=> ?_) fun _=> ?_ | refine grd_dec (fun _=> ?_) fun _=> ?_ | refine egrd_dec (fun _=> ?_) fun _=> ?_))
        refine(hD.mv (by(repeat (first | assumption | exact HExt.refl _ | (refine HExt.set ?_ (by first | omega | (simp only[new_nx,set_nx];omega)) _) | (refine HExt.new ?_ _))))).push (blkN t) (by simp;omega) fun vo2 K4 h4 hn4 hk4=> ?_
        have hl4:(st.reverse++ [blkN t]).length=st.length+1:=by simp
        have h4':=h4.last
        obtain⟨b3,kd3,c3,os3,rfl,r1,r2,r3,r4⟩:=h4'
        rw[hl4] at h4
        repeat' (first | (simp (disch:=first | omega | (decide +kernel)) only[↓seqK_n,↓r_reg,↓i_cons,↓itemK,↓o_p,↓o_a,↓o_w,↓putF_get,↓evF_t,↓evF_c,new_get,optV_some,optA_some,↓wpI_nil,b_add,w_i64,pop,aop,akV,isVal,Value.cells,List.map_cons,List.map_nil,Option.map_some,↓reduceIte,Nat.reduceEqDiff,Nat.reduceAdd,reduceCtorEq,List.length_cons,List.length_nil,setc_0,setc_s,srcR_c,src_r,List.take_succ_cons,List.drop_succ_cons,List.drop_zero,List.cons_append,List.nil_append,List.take_nil,List.size_toArray,List.toList_toArray,bldV,Nat.reduceLeDiff,Nat.le_refl,List.length_append,↓w_app,appS_some,if_pos,Nat.one_mul,Nat.zero_add,true_and,and_true,b8,b9,zz3]) | (with_reducible first | refine condK_dec (fun _=> ?_) fun _=> ?_ | refine grd_dec (fun _=> ?_) fun _=> ?_ | refine egrd_dec (fun _=> ?_) fun _=> ?_))
        refine(h4.mv (by(repeat (first | assumption | exact HExt.refl _ | (refine HExt.set ?_ (by first | omega | (simp only[new_nx,set_nx];omega)) _) | (refine HExt.new ?_ _))))).put ⟨2,i+1,[]⟩ (by omega) rfl fun vt5 K5 h5 hn5 hk5=> ?_
        repeat' (first | (simp (disch:=first | omega | (decide +kernel)) only[↓r_seq,↓r_block,↓seqK_n,↓i_cons,↓itemK,↓o_p,↓putF_get,↓evF_t,optV_some,↓wpI_nil,pop,↓reduceIte]) | (with_reducible first | refine condK_dec (fun _=> ?_) fun _=> ?_ | refine grd_dec (fun _=> ?_) fun _=> ?_ | refine egrd_dec (fun _=> ?_) fun _=> ?_))
        have h5':=h5.last
        rw[hl4] at h5'
        obtain⟨b4,kd4,c4,os4,e4,s1,s2,s3,s4⟩:=h5'
        cases e4
        have g5:os4[st.length]? = some (.int .i64 (blkN t:Nat)):=by
         rw[s4 _ (by omega)]
         simp[List.getD_eq_getElem?_getD,List.getElem?_append_right]
        have hsub5:((st.length+1:Nat):Int)-1=((st.length:Nat):Int):=by omega
        refine loop_w (fun n fr K=>fr 6= .slice (some ⟨b3,0,none⟩) (st.length+1) c3∧fr 8=vt5∧K=K5) (n:=0) ⟨by simp only[putF_get,putF_none,Nat.reduceEqDiff,↓reduceIte,hl4,hrl,List.length_append,List.length_singleton],by(repeat' (first | (simp (disch:=first | omega | (decide +kernel)) only[↓putF_get,↓reduceIte]) | (with_reducible first | refine condK_dec (fun _=> ?_) fun _=> ?_ | refine grd_dec (fun _=> ?_) fun _=> ?_ | refine egrd_dec (fun _=> ?_) fun _=> ?_));all_goals rfl),rfl⟩ ?_
        rintro n fr9 K9 ⟨u6,u8,rfl⟩ hag9
        repeat' (first | (simp (disch:=first | omega | (decide +kernel)) only[↓RD,RU,↓putF_get,↓evF_t,↓evF_c,pop,lop,↓reduceIte,Nat.reduceEqDiff,ρ29,hag9,b11,u6,u8,s1,g5,hsub5]) | (with_reducible first | refine condK_dec (fun _=> ?_) fun _=> ?_ | refine grd_dec (fun _=> ?_) fun _=> ?_ | refine egrd_dec (fun _=> ?_) fun _=> ?_))
        all_goals exact⟨by rw[hind,List.reverse_cons];exact h5,h5.2.2⟩
       ·obtain⟨k,hk1,hk2,hk3,hk4,hk5⟩:=tw_spec (n:=blkN t) hW.z
        have hind:indT (i+1) st (blkN t)=(List.replicate k ⟨3,i+1,[]⟩,st.drop k):=by unfold indT;rw[if_neg hlt2,hk1,hk5]
        have hhd:(st.drop k).headD 0=st.getD k 0:=by
         rw[List.drop_eq_getElem_cons hk2]
         simp[List.getD,List.getElem?_eq_getElem hk2]
        have hen:st.getD k 0=blkN t:=Classical.byContradiction fun g=>herr ⟨hd0,by rw[hind];show(st.drop k).headD 0≠_;rwa [hhd]⟩
        repeat' (first | (simp (disch:=first | omega | (decide +kernel)) only[↓r_seq,↓r_block,↓seqK_n,↓r_reg,↓r_cond,↓condK_t,↓condK_f,↓i_cons,↓itemK,↓o_p,↓o_l,↓putF_get,↓evF_t,↓evF_c,optV_some,↓wpI_nil,↓wpR_skip,b_sub,b_eql,b_gtr,w_i64,pop,lop,↓reduceIte,Nat.reduceEqDiff,dec_t,dec_f,if_pos,Nat.mul_one,Nat.zero_add,Int.toNat_natCast,b7,b6,b11,hd0,q1,hg0,hsub]) | (with_reducible first | refine condK_dec (fun _=> ?_) fun _=> ?_ | refine grd_dec (fun _=> ?_) fun _=> ?_ | refine egrd_dec (fun _=> ?_) fun _=> ?_))
        refine loop_w (fun q fr K=>PoJ K1 b2 c2 k (i+1) st out q (fr 6) (fr 8) K) (n:=k) (by
         have:PoJ K1 b2 c2 k (i+1) st out k (.slice (some ⟨b2,0,none⟩) st.length c2) vt K'':= .init hD
         first | exact this | (repeat' (first | (simp (disch:=first | omega | (decide +kernel)) only[↓putF_get,↓reduceIte,Nat.reduceEqDiff,b6,b8]) | (with_reducible first | refine condK_dec (fun _=> ?_) fun _=> ?_ | refine grd_dec (fun _=> ?_) fun _=> ?_ | refine egrd_dec (fun _=> ?_) fun _=> ?_));all_goals exact this)) ?_
        rintro q fr9 K9 ⟨m,rfl,hm,u6,hDm⟩ hag9
        obtain⟨vt9,u8⟩ : ∃v,fr9 8=v:=⟨_,rfl⟩
        rw[u8] at hDm
        obtain⟨kd9,os9,s1,s2,s3,s4⟩:=hDm.top (by omega)
        have hsub9:((st.length-m:Nat):Int)-1=((st.length-m-1:Nat):Int):=by omega
        by_cases hmk:m<k
        ·have hgt:=hk3 m hmk
         have hsv:= @sl_pop b2 (st.length-m) c2 (st.length-m-1) (by omega) (by omega)
         have hok:=okSl_of (o:=0) (n:=st.length-m) (c:=c2) s1
         repeat' (first | (simp (disch:=first | omega | (decide +kernel)) only[↓r_seq,↓r_block,↓seqK_n,↓r_reg,↓r_cond,↓condK_t,↓i_cons,↓itemK,↓o_p,↓o_l,↓o_a,↓o_w,↓putF_get,↓evF_t,↓evF_c,new_get,optV_some,optA_some,↓wpI_nil,↓wpR_skip,b_add,b_sub,b_lss,w_i64,pop,lop,aop,akV,isVal,Value.cells,List.map_cons,List.map_nil,Option.map_some,↓reduceIte,Nat.reduceEqDiff,Nat.reduceAdd,reduceCtorEq,List.length_cons,List.length_nil,setc_0,setc_s,srcR_c,src_r,bnd,capV,Option.isSome_none,Option.isNone_none,Option.isSome_some,Bool.or_true,List.take_succ_cons,List.drop_succ_cons,List.drop_zero,List.cons_append,List.nil_append,List.take_nil,Bool.and_true,List.size_toArray,List.toList_toArray,bldV,Nat.reduceLeDiff,Nat.le_refl,dec_t,↓w_app,appS_some,if_pos,Nat.mul_one,Nat.one_mul,Nat.zero_add,Int.toNat_natCast,true_and,and_true,hag9,b9,b11,u6,u8,s1,s4,hsub9,hsv,hok,zz3]) | (with_reducible first | refine condK_dec (fun _=> ?_) fun _=> ?_ | refine grd_dec (fun _=> ?_) fun _=> ?_ | refine egrd_dec (fun _=> ?_) fun _=> ?_))
         refine((hDm.pop1 (by omega)).mv (by(repeat (first | assumption | exact HExt.refl _ | (refine HExt.set ?_ (by first | omega | (simp only[new_nx,set_nx];omega)) _) | (refine HExt.new ?_ _))))).put ⟨3,i+1,[]⟩ (by simp;omega) rfl fun vt5 K5 h5 hn5 hk5=> ?_
         repeat' (first | (simp (disch:=first | omega | (decide +kernel)) only[↓RD,RU,↓putF_get,↓evF_t,pop,↓reduceIte,Nat.reduceEqDiff]) | (with_reducible first | refine condK_dec (fun _=> ?_) fun _=> ?_ | refine grd_dec (fun _=> ?_) fun _=> ?_ | refine egrd_dec (fun _=> ?_) fun _=> ?_))
         all_goals exact⟨k-(m+1),by omega,m+1,rfl,by omega,rfl,by
          have e:out++List.replicate (m+1) (⟨3,i+1,[]⟩:Tok)=out++List.replicate m ⟨3,i+1,[]⟩++ [⟨3,i+1,[]⟩]:=by rw[List.replicate_succ',List.append_assoc]
          rw[e];exact h5⟩
        ·have hmk':m=k:=by omega
         subst hmk'
         repeat' (first | (simp (disch:=first | omega | (decide +kernel)) only[↓RD,RU,↓putF_get,↓evF_t,↓evF_c,pop,lop,↓reduceIte,Nat.reduceEqDiff,ρ29,hag9,b11,u6,u8,s1,s4,hsub9,hen]) | (with_reducible first | refine condK_dec (fun _=> ?_) fun _=> ?_ | refine grd_dec (fun _=> ?_) fun _=> ?_ | refine egrd_dec (fun _=> ?_) fun _=> ?_))
         all_goals exact⟨by rw[hind];exact hDm,hDm.2.2⟩
      ·rw[if_neg hd0,if_neg hd0,List.append_nil]
       repeat' (first | (simp (disch:=first | omega | (decide +kernel)) only[↓RD,RU,↓putF_get,↓evF_t,↓evF_c,pop,↓reduceIte,Nat.reduceEqDiff,b7,b6,b8]) | (with_reducible first | refine condK_dec (fun _=> ?_) fun _=> ?_ | refine grd_dec (fun _=> ?_) fun _=> ?_ | refine egrd_dec (fun _=> ?_) fun _=> ?_))
       all_goals first | exact⟨hD,hxK⟩ | skip
     ·rintro fr5 K3 ⟨hD3,hxA3⟩ ha5
      obtain⟨vo3,g6⟩ : ∃v,fr5 6=v:=⟨_,rfl⟩
      obtain⟨vt3,g8⟩ : ∃v,fr5 8=v:=⟨_,rfl⟩
      rw[g6,g8] at hD3
      have g7:=(ha5 7 (by decide +kernel)).trans b7
      have g9:=(ha5 9 (by decide +kernel)).trans b9
      have g10:=(ha5 10 (by decide +kernel)).trans b10
      have g11:=(ha5 11 (by decide +kernel)).trans b11
      have hil2:= @indT_len (i+1) (blkN t) st
      have hlen:(if d=0 then (indT (i+1) st (blkN t)).1 else []).length+(if d=0 then (indT (i+1) st (blkN t)).2 else st).length≤st.length+2:=by
       by_cases h:d=0
       ·rw[if_pos h,if_pos h];exact hil2
       ·rw[if_neg h,if_neg h];simp
      have hrow:rowT (i+1) R[i] d st=match toks (i+1) (t.length+1) t d with
       | none=> .error 20
       | some (ts,d')=> .ok ((if d=0 then (indT (i+1) st (blkN t)).1 else [])++ts++(if d'=0 then [⟨1,i+1,[]⟩] else []),d',if d=0 then (indT (i+1) st (blkN t)).2 else st):=by
       rw[ht];unfold rowT;rw[if_neg (by omega),if_neg herr];rfl
      obtain⟨op,hop⟩ : ∃o,(if d=0 then (indT (i+1) st (blkN t)).2 else st)=o:=⟨_,rfl⟩
      obtain⟨ins,hins⟩ : ∃o,(if d=0 then (indT (i+1) st (blkN t)).1 else [])=o:=⟨_,rfl⟩
      rw[hop,hins] at hD3 hlen hrow
      have hdp:d≤B:=by have:=hW.bd;omega
      have hbi:out.length+st.length+t.length+3≤B:=by
       have e:R.drop i=R[i]::R.drop (i+1):=List.drop_eq_getElem_cons hil
       rw[e,ht] at hbo
       simp only[List.map_cons,List.sum_cons] at hbo
       omega
      repeat' (first | (simp (disch:=first | omega | (decide +kernel)) only[↓RD]) | (with_reducible first | refine condK_dec (fun _=> ?_) fun _=> ?_ | refine grd_dec (fun _=> ?_) fun _=> ?_ | refine egrd_dec (fun _=> ?_) fun _=> ?_))
      refine loop_w (fun q fr K=>PcJ K1 (i+1) d t op (out++ins) vo3 q (fr 6) (fr 7) (fr 8) (fr 11) K) (n:=t.length+1) ⟨0,d,[], .init0,by rw[g11];simp,g7,g6,by rw[g8,List.append_nil];exact hD3⟩ ?_
      rintro q fr6 K4 ⟨j,dd,ts,hB,u11,u7,u6,hD4⟩ hag6
      obtain⟨vt4,u8⟩ : ∃v,fr6 8=v:=⟨_,rfl⟩
      rw[u8] at hD4
      have hjl:=hB.jl
      have htl2:=hB.tl
      have hdl:dd≤d+j:=hB.dl
      have hblj:=blkN_len (t:=t.drop j)
      by_cases hat:j+blkN (t.drop j)<t.length
      ·obtain⟨at',hat'⟩ : ∃a,j+blkN (t.drop j)=a:=⟨_,rfl⟩
       have hnr:=fun(K:CH)=> @next_r K t at' (by omega) (by omega)
       have hlt' : ¬(t.drop j).length≤blkN (t.drop j):=by simp;omega
       have hstep:=fun k n x=> @RwB.step _ _ _ _ _ _ hB hlt' k n x
       have hbad:=hB.bad hlt'
       have htlen:=fun k x n=> @tokT_len (t.drop at') k x n
       rw[hat'] at u11 hat hstep hbad
       refine seq_cut (fun fr' K'=>K'=K4) (by repeat' (first | (simp (disch:=first | omega | (decide +kernel)) only[↓RD,RU,↓putF_get,↓evF_t,pop,↓reduceIte,Nat.reduceEqDiff,hag6,g10,u11,str_size]) | (with_reducible first | refine condK_dec (fun _=> ?_) fun _=> ?_ | refine grd_dec (fun _=> ?_) fun _=> ?_ | refine egrd_dec (fun _=> ?_) fun _=> ?_))) ?_
       rintro fr7 K5 rfl ha7
       refine r_block.2 ?_
       cases hr:tokT (t.drop at') with
       | none=>
         have hn2:=fun K=>(hnr K).mono (Q':=fun v K'=>HExt K K'∧v= .agg #[.int .i64 (-1), .string ⟨⟨[]⟩⟩, .int .i64 0]) fun v K' ⟨h1,h2⟩=>⟨h1,by rw[h2,hr];rfl⟩
         have hT:toks (i+1) (t.length+1) t d=none:=hbad hr
         rw[hT] at hrow
         repeat' (first | (simp (disch:=first | omega | (decide +kernel)) only[↓RD,RU,↓putF_get,↓evF_t,pop,ρ0,ρ1,↓reduceIte,Nat.reduceEqDiff,hag6,ha7,g10,u11]) | (with_reducible first | refine condK_dec (fun _=> ?_) fun _=> ?_ | refine grd_dec (fun _=> ?_) fun _=> ?_ | refine egrd_dec (fun _=> ?_) fun _=> ?_))
         refine(hn2 _).mono fun v K6 ⟨hx6,hv⟩=> ?_
         subst hv
         repeat' (first | (simp (disch:=first | omega | (decide +kernel)) only[↓RD,RU,↓putF_get,↓putF_none,↓evF_t,↓evF_c,new_get,set_get,pop,lop,aop,wop,resL,resV,tupleV,akV,isVal,isCell,Value.cells,↓reduceIte,Nat.reduceEqDiff,Nat.reduceAdd,ρ5,ρ7,ρ8,ρ17,ρ21,ρ22,ρ23,Kd.isRo,ρ25,ρ26,ρ28,hag6,ha7,g9]) | (with_reducible first | refine condK_dec (fun _=> ?_) fun _=> ?_ | refine grd_dec (fun _=> ?_) fun _=> ?_ | refine egrd_dec (fun _=> ?_) fun _=> ?_))
         all_goals exact⟨hx1.trans (hD4.2.2.trans ((hx6.new _).set hx6.nx _)),by rw[hlt,hW.err hil hrow];rfl⟩
       | some z=>
         obtain⟨k,x,n⟩:=z
         obtain⟨q',hq',hB'⟩:=hstep k n x hr
         have htn:=tokT_len hr
         have hn2:=fun K=>(hnr K).mono (Q':=fun v K'=>HExt K K'∧v= .agg #[.int .i64 k, .string (str x), .int .i64 (at'+n:Nat)]) fun v K' ⟨h1,h2⟩=>⟨h1,by rw[h2,hr];rfl⟩
         refine seq_cut (fun fr' K'=>∃p,fr' 12= .pointer (some ⟨p,0,none⟩)∧K'.ob p= .cells [.int .i64 k, .string (str x), .int .i64 (at'+n:Nat)] 64 .ex∧p<K'.nx∧HExt K5 K') (by
          repeat' (first | (simp (disch:=first | omega | (decide +kernel)) only[↓RD,RU,↓putF_get,↓evF_t,pop,ρ0,ρ1,↓reduceIte,Nat.reduceEqDiff,hag6,ha7,g10,u11]) | (with_reducible first | refine condK_dec (fun _=> ?_) fun _=> ?_ | refine grd_dec (fun _=> ?_) fun _=> ?_ | refine egrd_dec (fun _=> ?_) fun _=> ?_))
          refine(hn2 _).mono fun v K6 ⟨hx6,hv⟩=> ?_
          subst hv
          repeat' (first | (simp (disch:=first | omega | (decide +kernel)) only[↓RD,RU,↓putF_get,↓putF_none,↓evF_t,new_nx,set_nx,new_get,set_get,aop,wop,akV,isVal,isCell,Value.cells,↓reduceIte,Nat.reduceEqDiff,Nat.reduceAdd,ρ7,ρ8,ρ17,ρ21,ρ22,ρ23,Kd.isRo,ρ25,ρ26]) | (with_reducible first | refine condK_dec (fun _=> ?_) fun _=> ?_ | refine grd_dec (fun _=> ?_) fun _=> ?_ | refine egrd_dec (fun _=> ?_) fun _=> ?_))
          all_goals exact⟨_,rfl,by repeat' (first | (simp (disch:=first | omega | (decide +kernel)) only[↓reduceIte]) | (with_reducible first | refine condK_dec (fun _=> ?_) fun _=> ?_ | refine grd_dec (fun _=> ?_) fun _=> ?_ | refine egrd_dec (fun _=> ?_) fun _=> ?_)),Nat.lt_succ_self _,(hx6.new _).set hx6.nx _⟩) ?_
         rintro fr8 K6 ⟨p,w12,hob,hp2,hx6⟩ ha8
         refine seq_cut (fun fr' K'=>K'=K6) (by repeat' (first | (simp (disch:=first | omega | (decide +kernel)) only[↓RD,RU,↓putF_get,↓evF_t,↓evF_c,pop,lop,↓reduceIte,ρ5,ρ28,w12,hob]) | (with_reducible first | refine condK_dec (fun _=> ?_) fun _=> ?_ | refine grd_dec (fun _=> ?_) fun _=> ?_ | refine egrd_dec (fun _=> ?_) fun _=> ?_))) ?_
         rintro fr9 K7 rfl ha9
         have hgn : ∀o,(K7.new o).ob p= .cells [.int .i64 k, .string (str x), .int .i64 (at'+n:Nat)] 64 .ex:=fun o=>by rw[new_get,if_neg (by omega)];exact hob
         refine seq_cut (fun fr' K'=>DcAt K1 K' vo3 (fr' 8) op.reverse (out++ins++(ts++ [⟨k,i+1,x⟩]))∧K'.ob p= .cells [.int .i64 k, .string (str x), .int .i64 (at'+n:Nat)] 64 .ex) (by
          repeat' (first | (simp (disch:=first | omega | (decide +kernel)) only[↓r_reg,↓i_cons,↓itemK,↓o_p,↓o_l,↓o_a,↓o_w,↓putF_get,↓evF_t,↓evF_c,new_get,optV_some,optA_some,b_add,w_i64,pop,lop,aop,akV,isVal,Value.cells,List.map_cons,List.map_nil,Option.map_some,↓reduceIte,Nat.reduceEqDiff,Nat.reduceAdd,reduceCtorEq,List.getElem?_cons_zero,List.getElem?_cons_succ,List.length_cons,List.length_nil,setc_0,setc_s,srcR_c,src_r,List.take_succ_cons,List.drop_succ_cons,List.drop_zero,List.cons_append,List.nil_append,List.append_nil,List.take_nil,List.drop_nil,List.size_toArray,List.toList_toArray,bldV,Nat.reduceLeDiff,Nat.le_refl,↓w_app,appS_some,if_pos,Nat.one_mul,Nat.zero_add,Nat.add_zero,true_and,and_true,hag6,ha7,ha8,ha9,w12,hob,g9,u8,zz3]) | (with_reducible first | refine condK_dec (fun _=> ?_) fun _=> ?_ | refine grd_dec (fun _=> ?_) fun _=> ?_ | refine egrd_dec (fun _=> ?_) fun _=> ?_))
          refine(hD4.mv (hx6.trans (by(repeat (first | assumption | exact HExt.refl _ | (refine HExt.set ?_ (by first | omega | (simp only[new_nx,set_nx];omega)) _) | (refine HExt.new ?_ _)))))).put ⟨k,i+1,x⟩ (by simp;omega) rfl fun vt5 K8 h5 hn5 hk5=> ?_
          repeat' (first | (simp (disch:=first | omega | (decide +kernel)) only[↓RD,RU,↓putF_get,↓evF_t,pop,↓reduceIte]) | (with_reducible first | refine condK_dec (fun _=> ?_) fun _=> ?_ | refine grd_dec (fun _=> ?_) fun _=> ?_ | refine egrd_dec (fun _=> ?_) fun _=> ?_))
          all_goals exact⟨by rw[←List.append_assoc];exact h5,(hk5 p _ _ _ (Nat.lt_succ_of_lt hp2) (hgn _) (by decide)).trans (hgn _)⟩) ?_
         rintro fr10 K8 ⟨hD8,hob8⟩ ha10
         refine seq_cut (fun fr' K'=>fr' 7= .int .i64 (dpA dd k x:Nat)∧K'=K8) ?_ ?_
         ·obtain⟨c1,e1⟩ : ∃b,decide (x= [UInt8.ofNat 40])=b:=⟨_,rfl⟩
          obtain⟨c2,e2⟩ : ∃b,decide (x= [UInt8.ofNat 91])=b:=⟨_,rfl⟩
          obtain⟨c3,e3⟩ : ∃b,decide (x= [UInt8.ofNat 123])=b:=⟨_,rfl⟩
          by_cases hk9:k=9
          ·subst hk9
           unfold dpA
           simp only[mem3,e1,e2,e3,true_and]
           cases c1<;>cases c2<;>cases c3
           all_goals
            repeat' (first | (simp (disch:=first | omega | (decide +kernel)) only[↓RD,RU,↓putF_get,↓evF_t,↓evF_c,pop,lop,↓reduceIte,Nat.reduceEqDiff,reduceCtorEq,ρ5,ρ6,ρ28,ha7,ha8,ha9,ha10,u7,w12,hob8,str_eq,u8k,e1,e2,e3]) | (with_reducible first | refine condK_dec (fun _=> ?_) fun _=> ?_ | refine grd_dec (fun _=> ?_) fun _=> ?_ | refine egrd_dec (fun _=> ?_) fun _=> ?_))
            all_goals rfl
          ·rw[show dpA dd k x=dd from if_neg fun g=>hk9 g.1]
           repeat' (first | (simp (disch:=first | omega | (decide +kernel)) only[↓RD,RU,↓putF_get,↓evF_t,↓evF_c,pop,lop,↓reduceIte,Nat.reduceEqDiff,reduceCtorEq,ρ5,ρ28,ha7,ha8,ha9,ha10,u7,w12,hob8]) | (with_reducible first | refine condK_dec (fun _=> ?_) fun _=> ?_ | refine grd_dec (fun _=> ?_) fun _=> ?_ | refine egrd_dec (fun _=> ?_) fun _=> ?_))
           all_goals rfl
         rintro fr11 K9 ⟨x7,rfl⟩ ha11
         refine seq_cut (fun fr' K'=>fr' 7= .int .i64 (dpB (dpA dd k x) k x:Nat)∧K'=K9) ?_ ?_
         ·obtain⟨c1,e1⟩ : ∃b,decide (x= [UInt8.ofNat 41])=b:=⟨_,rfl⟩
          obtain⟨c2,e2⟩ : ∃b,decide (x= [UInt8.ofNat 93])=b:=⟨_,rfl⟩
          obtain⟨c3,e3⟩ : ∃b,decide (x= [UInt8.ofNat 125])=b:=⟨_,rfl⟩
          obtain⟨e,he⟩ : ∃e,dpA dd k x=e:=⟨_,rfl⟩
          have heb:e≤dd+1:=by rw[←he];unfold dpA;split<;>omega
          have hsubE:0<e→((e:Nat):Int)-1=((e-1:Nat):Int):=fun _=>by omega
          rw[he] at x7⊢
          by_cases hk9:k=9
          ·subst hk9
           unfold dpB
           simp only[mem3,e1,e2,e3,true_and]
           by_cases h0:0<e
           all_goals cases c1<;>cases c2<;>cases c3
           all_goals
            repeat' (first | (simp (disch:=first | omega | (decide +kernel)) only[↓RD,RU,↓putF_get,↓evF_t,↓evF_c,pop,lop,↓reduceIte,Nat.reduceEqDiff,reduceCtorEq,ρ5,ρ6,ρ28,ha9,ha10,ha11,x7,w12,hob8,str_eq,u8k,e1,e2,e3,h0,hsubE]) | (with_reducible first | refine condK_dec (fun _=> ?_) fun _=> ?_ | refine grd_dec (fun _=> ?_) fun _=> ?_ | refine egrd_dec (fun _=> ?_) fun _=> ?_))
            all_goals rfl
          ·rw[show dpB e k x=e from if_neg fun g=>hk9 g.1]
           repeat' (first | (simp (disch:=first | omega | (decide +kernel)) only[↓RD,RU,↓putF_get,↓evF_t,↓evF_c,pop,lop,↓reduceIte,Nat.reduceEqDiff,reduceCtorEq,ρ5,ρ28,ha9,ha10,ha11,x7,w12,hob8]) | (with_reducible first | refine condK_dec (fun _=> ?_) fun _=> ?_ | refine grd_dec (fun _=> ?_) fun _=> ?_ | refine egrd_dec (fun _=> ?_) fun _=> ?_))
           all_goals rfl
         rintro fr12 K10 ⟨y7,rfl⟩ ha12
         rw[dp_eq] at y7
         have hbn:=fun(K:CH) (Q:Value→CH→Prop)=>hbk K (at'+n) (by simp at htn;omega) Q
         repeat' (first | (simp (disch:=first | omega | (decide +kernel)) only[↓RD,RU,↓putF_get,↓evF_t,pop,lop,ρ0,ρ1,↓reduceIte,Nat.reduceEqDiff,ρ5,ρ6,hag6,ha7,ha8,ha9,ha10,ha11,ha12,g10,w12,hob8,y7,hbn]) | (with_reducible first | refine condK_dec (fun _=> ?_) fun _=> ?_ | refine grd_dec (fun _=> ?_) fun _=> ?_ | refine egrd_dec (fun _=> ?_) fun _=> ?_))
         all_goals exact⟨q',hq',at'+n,depT dd k x,ts++ [⟨k,i+1,x⟩],hB',rfl,rfl,g6,hD8⟩
      ·have hT:toks (i+1) (t.length+1) t d=some (ts,dd):=hB.fin (by simp;omega)
       rw[hT] at hrow
       have hW2:=hW.step hil hrow
       have fin : ∀(K':CH) (v5 v6 v7 v8:Value),v6=vo3→v7= .int .i64 (dd:Nat)→DcAt K1 K' vo3 v8 op.reverse (out++(ins++ts++(if dd=0 then [⟨1,i+1,[]⟩] else [])))→OuJ K1 R B (R.length-(i+1)) v5 v6 v7 v8 (.int .i64 ((i:Nat)+1:Int)) K':=fun K' v5 v6 v7 v8 e6 e7 g=>by
        subst e6 e7
        exact⟨i+1,dd,op,_,rfl,rfl,rfl,hW2,g,g.2.2⟩
       by_cases hdd:dd=0
       ·repeat' (first | (simp (disch:=first | omega | (decide +kernel)) only[↓r_seq,↓seqK_n,↓seqK_e,↓blockK_e,↓loopI_e,↓r_reg,↓r_cond,↓condK_t,↓condK_f,↓i_cons,↓itemK,↓o_p,↓o_a,↓o_w,↓putF_get,↓evF_t,↓evF_c,new_get,optV_some,optA_some,↓wpI_nil,↓wpR_exit,b_add,b_eql,b_lss,w_i64,pop,aop,akV,isVal,Value.cells,List.map_cons,List.map_nil,Option.map_some,↓reduceIte,Nat.reduceEqDiff,Nat.reduceAdd,reduceCtorEq,List.length_cons,List.length_nil,setc_0,setc_s,srcR_c,src_r,List.take_succ_cons,List.drop_succ_cons,List.drop_zero,List.cons_append,List.nil_append,List.take_nil,List.size_toArray,List.toList_toArray,bldV,Nat.reduceLeDiff,Nat.le_refl,dec_t,dec_f,↓w_app,appS_some,if_pos,Nat.one_mul,Nat.zero_add,true_and,and_true,hag6,g10,u11,u7,u8,g9,zz3,hdd,str_size]) | (with_reducible first | refine condK_dec (fun _=> ?_) fun _=> ?_ | refine grd_dec (fun _=> ?_) fun _=> ?_ | refine egrd_dec (fun _=> ?_) fun _=> ?_))
        refine(hD4.mv (by(repeat (first | assumption | exact HExt.refl _ | (refine HExt.set ?_ (by first | omega | (simp only[new_nx,set_nx];omega)) _) | (refine HExt.new ?_ _))))).put ⟨1,i+1,[]⟩ (by simp;omega) rfl fun vt5 K5 h5 hn5 hk5=> ?_
        repeat' (first | (simp (disch:=first | omega | (decide +kernel)) only[↓RD,RU,↓putF_get,↓evF_t,↓evF_c,pop,↓reduceIte,Nat.reduceEqDiff,hag6,g9]) | (with_reducible first | refine condK_dec (fun _=> ?_) fun _=> ?_ | refine grd_dec (fun _=> ?_) fun _=> ?_ | refine egrd_dec (fun _=> ?_) fun _=> ?_))
        all_goals exact⟨R.length-(i+1),by omega,fin _ _ _ _ _ g6 (by first | rfl | exact u7) (by rw[if_pos hdd];simpa only[List.append_assoc] using h5)⟩
       ·repeat' (first | (simp (disch:=first | omega | (decide +kernel)) only[↓RD,RU,↓putF_get,↓evF_t,↓evF_c,pop,↓reduceIte,Nat.reduceEqDiff,hag6,g10,u11,u7,u8,g9,str_size]) | (with_reducible first | refine condK_dec (fun _=> ?_) fun _=> ?_ | refine grd_dec (fun _=> ?_) fun _=> ?_ | refine egrd_dec (fun _=> ?_) fun _=> ?_))
        all_goals exact⟨R.length-(i+1),by omega,fin _ _ _ _ _ g6 (by first | rfl | exact u7) (by rw[if_neg hdd,List.append_nil,←List.append_assoc];exact hD4)⟩
  ·obtain⟨qv,cv,rfl⟩:=hRlen
   have hie:i=R.length:=by have:=hW.il;omega
   subst hie
   have hfin:=hW.fin
   rw[hlt,hfin]
   have hD':=hD
   obtain⟨b,kd,c6,os,rfl,o1,o2,o3,o4⟩:=hD.last
   have hst0:0<st.length:=by
    have:=hW.z
    cases st with
    | nil=>cases this
    | cons a l=>simp
   have hrl:st.reverse.length=st.length:=by simp
   rw[hrl] at f6 hD
   repeat' (first | (simp (disch:=first | omega | (decide +kernel)) only[↓RD,RU,↓putF_get,↓evF_t,↓evF_c,pop,↓reduceIte,Nat.reduceEqDiff,hag,f9]) | (with_reducible first | refine condK_dec (fun _=> ?_) fun _=> ?_ | refine grd_dec (fun _=> ?_) fun _=> ?_ | refine egrd_dec (fun _=> ?_) fun _=> ?_))
   refine loop_w (fun n fr K=>OtJ K1 (.slice (some ⟨b,0,none⟩) st.length c6) st.reverse out R.length (st.length-1) n (fr 8) (fr 13) K) (n:=st.length-1) ⟨0,rfl,by omega,by(repeat' (first | (simp (disch:=first | omega | (decide +kernel)) only[↓putF_get,↓reduceIte,ρ28]) | (with_reducible first | refine condK_dec (fun _=> ?_) fun _=> ?_ | refine grd_dec (fun _=> ?_) fun _=> ?_ | refine egrd_dec (fun _=> ?_) fun _=> ?_));all_goals rfl),by
    have:DcAt K1 K (.slice (some ⟨b,0,none⟩) st.length c6) (fr 8) st.reverse (out++List.replicate 0 ⟨3,R.length,[]⟩):=by rw[f8];simpa using hD
    first | exact this | (skip;all_goals exact this)⟩ ?_
   rintro n fr2 K2 ⟨k,rfl,hk,f13,hD2⟩ hag2
   obtain⟨vt2,f82⟩ : ∃v,fr2 8=v:=⟨_,rfl⟩
   rw[f82] at hD2
   by_cases hkl:k<st.length-1
   ·repeat' (first | (simp (disch:=first | omega | (decide +kernel)) only[↓RD,RU,↓putF_get,↓evF_t,↓evF_c,new_get,pop,aop,akV,isVal,Value.cells,ρ0,ρ1,ρ4,↓reduceIte,Nat.reduceEqDiff,Nat.reduceAdd,reduceCtorEq,ρ7,ρ8,srcR_c,ρ15,ρ17,ρ18,ρ19,ρ20,ρ25,ρ26,bldV,Nat.reduceLeDiff,appS_some,hag,hag2,f6,f82,f13,zz3]) | (with_reducible first | refine condK_dec (fun _=> ?_) fun _=> ?_ | refine grd_dec (fun _=> ?_) fun _=> ?_ | refine egrd_dec (fun _=> ?_) fun _=> ?_))
    refine(hD2.mv (by(repeat (first | assumption | exact HExt.refl _ | (refine HExt.set ?_ (by first | omega | (simp only[new_nx,set_nx];omega)) _) | (refine HExt.new ?_ _))))).put ⟨3,R.length,[]⟩ (by simp;omega) rfl fun vt3 K3 h3 hn3 _=> ?_
    repeat' (first | (simp (disch:=first | omega | (decide +kernel)) only[↓RD,RU,↓putF_get,↓evF_t,↓evF_c,pop,↓reduceIte,Nat.reduceEqDiff,f13]) | (with_reducible first | refine condK_dec (fun _=> ?_) fun _=> ?_ | refine grd_dec (fun _=> ?_) fun _=> ?_ | refine egrd_dec (fun _=> ?_) fun _=> ?_))
    all_goals exact⟨st.length-1-(k+1),by omega,k+1,rfl,by omega,congrArg (Value.int .i64) (by omega),by
     have e:out++List.replicate (k+1) (⟨3,R.length,[]⟩:Tok)=out++List.replicate k ⟨3,R.length,[]⟩++ [⟨3,R.length,[]⟩]:=by rw[List.replicate_succ',List.append_assoc]
     rw[e];exact h3⟩
   ·repeat' (first | (simp (disch:=first | omega | (decide +kernel)) only[↓RD,RU,↓putF_get,↓evF_t,↓evF_c,new_get,pop,aop,akV,isVal,Value.cells,ρ0,ρ1,ρ4,↓reduceIte,Nat.reduceEqDiff,Nat.reduceAdd,reduceCtorEq,ρ7,ρ8,srcR_c,ρ15,ρ17,ρ18,ρ19,ρ20,ρ25,ρ26,bldV,Nat.reduceLeDiff,appS_some,hag,hag2,f6,f82,f13,zz3]) | (with_reducible first | refine condK_dec (fun _=> ?_) fun _=> ?_ | refine grd_dec (fun _=> ?_) fun _=> ?_ | refine egrd_dec (fun _=> ?_) fun _=> ?_))
    refine(hD2.mv (by(repeat (first | assumption | exact HExt.refl _ | (refine HExt.set ?_ (by first | omega | (simp only[new_nx,set_nx];omega)) _) | (refine HExt.new ?_ _))))).put ⟨0,R.length,[]⟩ (by simp;omega) rfl fun vt3 K3 h3 hn3 _=> ?_
    repeat' (first | (simp (disch:=first | omega | (decide +kernel)) only[↓RD,RU,↓putF_get,↓evF_t,↓evF_c,pop,resL,resV,tupleV,↓reduceIte,Nat.reduceEqDiff]) | (with_reducible first | refine condK_dec (fun _=> ?_) fun _=> ?_ | refine grd_dec (fun _=> ?_) fun _=> ?_ | refine egrd_dec (fun _=> ?_) fun _=> ?_))
    all_goals
     have ek:k=st.length-1:=by omega
     subst ek
     exact⟨hx1.trans h3.2.2,vt3,rfl,by
      have e:out++endT R.length st=out++List.replicate (st.length-1) (⟨3,R.length,[]⟩:Tok)++ [⟨0,R.length,[]⟩]:=by unfold endT;rw[List.append_assoc]
      rw[e];exact h3.2.1.low hx1.nx⟩
end Can
end Go.Proofs.YtnankhlanilbbaaGreat
end
section
namespace Go.Proofs.YtnankhlanilbbaaGreat
namespace Can
open Go Go.RowKit
set_option linter.unusedSimpArgs false
set_option linter.unusedVariables false
set_option maxRecDepth 4000
def rdC (sl:Sl)(i:Nat)(b:Bool):CObj:= .cells [.slice sl.q sl.n sl.c, .int .i64 (i:Nat), .bool b] 47 .ex
structure RdD(K:CH)(p:Nat)(sl:Sl)(ts:List PT)(i:Nat)(b:Bool):Prop where
 ob:K.ob p=rdC sl i b
 pl:p<K.nx
 il:i≤ts.length
 n:sl.n=ts.length
 tk:SlAt 3 CTk K sl.q sl.c ts
theorem RdD.len{K:CH}{p:Nat}{sl:Sl}{ts:List PT}{i:Nat}{b:Bool}(h:RdD K p sl ts i b):ts.length≤9223372036854775807:=by
 rcases h.tk with ⟨rfl,_⟩ | ⟨l,o,os,e,kd,_,_,h2,h3,_⟩
 ·simp
 ·rw[maxLen_eq] at h3;omega
theorem dnow_wp{K:CH}{p:Nat}{sl:Sl}{ts:List PT}{i:Nat}{b:Bool}(h:RdD K p sl ts i b):WpF (tblG Tryz.prog LG GG) 19 [.pointer (some ⟨p,0,none⟩)] K fun v K'=>v= .agg (tokV (nowT ts i)).toArray∧K'=K.new (tkC (nowT ts i)):=by
 have hob:=h.ob
 have hpl:=h.pl
 have hln:=h.len
 have hil:=h.il
 unfold rdC at hob
 rw[h.n] at hob
 refine wpF_rG (by rfl) (by kernel_rfl) ?_;(conv in (rF _ _).body=>reduce);(conv in (rF _ _).res=>reduce)
 by_cases hi:i<ts.length
 ·obtain⟨l,o,os,e,kd,hq,g1,g2,g3,g4,g5⟩:=tk_get h.tk hi
  have hn:nowT ts i=ts[i]:=by unfold nowT;rw[List.getElem?_eq_getElem hi]
  rw[hn]
  rw[hq] at hob
  unfold tokV at g4⊢
  repeat' (first | (simp (disch:=first | omega | (decide +kernel)) only[↓RD,RU,↓putF_get,↓putF_none,↓evF_t,new_get,set_get,getD_zero,pop,lop,aop,wop,resL,resV,tupleV,akV,isVal,isCell,Value.cells,↓reduceIte,Nat.reduceEqDiff,Nat.reduceAdd,Int.reduceOfNat,reduceCtorEq,ρ5,ρ6,ρ7,ρ8,ρ15,ρ17,ρ18,ρ21,ρ22,ρ23,Kd.isRo,ρ25,ρ26,ρ28,ρ29,hob,g1,g3,g4]) | (with_reducible first | refine condK_dec (fun _=> ?_) fun _=> ?_ | refine grd_dec (fun _=> ?_) fun _=> ?_ | refine egrd_dec (fun _=> ?_) fun _=> ?_))
  all_goals exact new_set
 ·by_cases h0:0<ts.length
  ·obtain⟨l,o,os,e,kd,hq,g1,g2,g3,g4,g5⟩:=tk_get h.tk (i:=ts.length-1) (by omega)
   have hn:nowT ts i=⟨0,ts[ts.length-1].line,[]⟩:=by
    unfold nowT
    rw[List.getElem?_eq_none (by omega),List.getLast?_eq_getElem?,List.getElem?_eq_getElem (by omega)]
   rw[hn]
   rw[hq] at hob
   have hsub:((ts.length:Nat):Int)-1=((ts.length-1:Nat):Int):=by omega
   unfold tokV
   repeat' (first | (simp (disch:=first | omega | (decide +kernel)) only[↓RD,RU,↓putF_get,↓putF_none,↓evF_t,↓evF_c,new_get,set_get,getD_zero,pop,lop,aop,wop,resL,resV,tupleV,akV,isVal,isCell,Value.cells,ρ0,ρ1,ρ4,↓reduceIte,Nat.reduceEqDiff,Nat.reduceAdd,Int.reduceOfNat,reduceCtorEq,ρ5,ρ6,ρ7,ρ8,ρ15,ρ17,ρ18,ρ19,ρ20,ρ21,ρ22,ρ23,Kd.isRo,ρ25,ρ26,bldV,Nat.reduceLeDiff,ρ28,ρ29,hob,g1,g5,hsub]) | (with_reducible first | refine condK_dec (fun _=> ?_) fun _=> ?_ | refine grd_dec (fun _=> ?_) fun _=> ?_ | refine egrd_dec (fun _=> ?_) fun _=> ?_))
   all_goals exact new_set
  ·have hts:ts= []:=List.length_eq_zero_iff.1 (by omega)
   have hn:nowT ts i=⟨0,0,[]⟩:=by subst hts;rfl
   rw[hn]
   unfold tokV
   repeat' (first | (simp (disch:=first | omega | (decide +kernel)) only[↓RD,RU,↓putF_get,↓putF_none,↓evF_t,↓evF_c,new_get,set_get,getD_zero,pop,lop,aop,wop,resL,resV,tupleV,akV,isVal,isCell,Value.cells,ρ0,ρ1,ρ4,↓reduceIte,Nat.reduceEqDiff,Nat.reduceAdd,Int.reduceOfNat,reduceCtorEq,ρ5,ρ6,ρ7,ρ8,ρ15,ρ17,ρ18,ρ19,ρ20,ρ21,ρ22,ρ23,Kd.isRo,ρ25,ρ26,bldV,Nat.reduceLeDiff,ρ28,hob]) | (with_reducible first | refine condK_dec (fun _=> ?_) fun _=> ?_ | refine grd_dec (fun _=> ?_) fun _=> ?_ | refine egrd_dec (fun _=> ?_) fun _=> ?_))
   all_goals exact new_set
theorem dnow_iff{K:CH}{p:Nat}{sl:Sl}{ts:List PT}{i:Nat}{b:Bool}(h:RdD K p sl ts i b){Q:Value→CH→Prop}:WpF (tblG Tryz.prog LG GG) 19 [.pointer (some ⟨p,0,none⟩)] K Q↔Q (.agg (tokV (nowT ts i)).toArray) (K.new (tkC (nowT ts i))):=wpF_iff (dnow_wp h)
theorem disWord_wp(K:CH){c:UInt8}{s:List UInt8}:WpF (tblG Tryz.prog LG GG) 115 [.string ⟨⟨c::s⟩⟩] K fun v K'=>v= .bool (isWd (c::s))∧K'=K:=by
 have hg:((c::s)[0]?).map (fun b=>Value.int .u8 (b.toNat:Int))=some (.int .u8 (c.toNat:Int)):=rfl
 have hc:=c.toNat_lt
 have e:isWd (c::s)=decide ((65≤c.toNat∧c.toNat≤90)∨(97≤c.toNat∧c.toNat≤122)):=rfl
 rw[e]
 obtain⟨n,hn⟩ : ∃n,c.toNat=n:=⟨_,rfl⟩
 rw[hn] at hg hc⊢
 refine wpF_rG (by rfl) (by kernel_rfl) ?_;(conv in (rF _ _).body=>reduce);(conv in (rF _ _).res=>reduce)
 by_cases h1:65≤n
 ·by_cases h2:n≤90
  ·rw[decide_eq_true (by omega)]
   repeat' (first | (simp (disch:=first | omega | (decide +kernel)) only[↓RD,RU,↓putF_get,↓evF_t,↓evF_c,getD_zero,pop,resL,resV,tupleV,ρ4,↓reduceIte,Nat.reduceEqDiff,Int.reduceOfNat,reduceCtorEq,ρ5,Int.reduceToNat,pstr_get]) | (with_reducible first | refine condK_dec (fun _=> ?_) fun _=> ?_ | refine grd_dec (fun _=> ?_) fun _=> ?_ | refine egrd_dec (fun _=> ?_) fun _=> ?_))
  ·by_cases h3:97≤n
   ·by_cases h4:n≤122
    ·rw[decide_eq_true (by omega)]
     repeat' (first | (simp (disch:=first | omega | (decide +kernel)) only[↓RD,RU,↓putF_get,↓evF_t,↓evF_c,getD_zero,pop,resL,resV,tupleV,ρ4,↓reduceIte,Nat.reduceEqDiff,Int.reduceOfNat,reduceCtorEq,ρ5,Int.reduceToNat,pstr_get]) | (with_reducible first | refine condK_dec (fun _=> ?_) fun _=> ?_ | refine grd_dec (fun _=> ?_) fun _=> ?_ | refine egrd_dec (fun _=> ?_) fun _=> ?_))
    ·rw[decide_eq_false (by omega)]
     repeat' (first | (simp (disch:=first | omega | (decide +kernel)) only[↓RD,RU,↓putF_get,↓evF_t,↓evF_c,getD_zero,pop,resL,resV,tupleV,ρ4,↓reduceIte,Nat.reduceEqDiff,Int.reduceOfNat,reduceCtorEq,ρ5,Int.reduceToNat,pstr_get]) | (with_reducible first | refine condK_dec (fun _=> ?_) fun _=> ?_ | refine grd_dec (fun _=> ?_) fun _=> ?_ | refine egrd_dec (fun _=> ?_) fun _=> ?_))
   ·rw[decide_eq_false (by omega)]
    repeat' (first | (simp (disch:=first | omega | (decide +kernel)) only[↓RD,RU,↓putF_get,↓evF_t,↓evF_c,getD_zero,pop,resL,resV,tupleV,ρ4,↓reduceIte,Nat.reduceEqDiff,Int.reduceOfNat,reduceCtorEq,ρ5,Int.reduceToNat,pstr_get]) | (with_reducible first | refine condK_dec (fun _=> ?_) fun _=> ?_ | refine grd_dec (fun _=> ?_) fun _=> ?_ | refine egrd_dec (fun _=> ?_) fun _=> ?_))
 ·rw[decide_eq_false (by omega)]
  have h3 : ¬ 97≤n:=by omega
  repeat' (first | (simp (disch:=first | omega | (decide +kernel)) only[↓RD,RU,↓putF_get,↓evF_t,↓evF_c,getD_zero,pop,resL,resV,tupleV,ρ4,↓reduceIte,Nat.reduceEqDiff,Int.reduceOfNat,reduceCtorEq,ρ5,Int.reduceToNat,pstr_get]) | (with_reducible first | refine condK_dec (fun _=> ?_) fun _=> ?_ | refine grd_dec (fun _=> ?_) fun _=> ?_ | refine egrd_dec (fun _=> ?_) fun _=> ?_))
theorem disWord_iff{K:CH}{c:UInt8}{s:List UInt8}{Q:Value→CH→Prop}:WpF (tblG Tryz.prog LG GG) 115 [.string ⟨⟨c::s⟩⟩] K Q↔Q (.bool (isWd (c::s))) K:=wpF_iff (disWord_wp K)
theorem dis_wp{K:CH}{p:Nat}{sl:Sl}{ts:List PT}{i:Nat}(h:RdD K p sl ts i false){c1:UInt8}{s:List UInt8}:WpF (tblG Tryz.prog LG GG) 75 [.pointer (some ⟨p,0,none⟩), .string ⟨⟨c1::s⟩⟩] K fun v K'=>v= .bool (isT ts i (c1::s))∧K'=(K.new (tkC (nowT ts i))).new (tkC (nowT ts i)):=by
 have hob:=h.ob
 have hpl:=h.pl
 have hnow:=fun Q=> @dnow_iff K p sl ts i _ h Q
 obtain⟨t,ht⟩ : ∃t,nowT ts i=t:=⟨_,rfl⟩
 unfold rdC at hob
 rw[ht] at hnow
 unfold isT
 rw[ht]
 obtain⟨kd,ln,tx⟩:=t
 obtain⟨G,hG⟩ : ∃G,K.new (tkC ⟨kd,ln,tx⟩)=G:=⟨_,rfl⟩
 rw[hG] at hnow⊢
 unfold tokV at hnow
 have hobG:G.ob p= .cells [.slice sl.q sl.n sl.c, .int .i64 (i:Nat), .bool false] 47 .ex:=by rw[←hG,new_ne (by omega)];exact hob
 have hpG:p≠G.nx:=by rw[←hG,new_nx];omega
 have fin:G.new (.cells [.int .i64 kd, .int .i64 ln, .string ⟨⟨tx⟩⟩] 50 .ex)=G.new (tkC ⟨kd,ln,tx⟩):=rfl
 refine wpF_rG (by rfl) (by kernel_rfl) ?_;(conv in (rF _ _).body=>reduce);(conv in (rF _ _).res=>reduce)
 by_cases k8:kd=8
 ·subst k8
  by_cases e:tx=c1::s
  ·have hd:=decide_eq_true e
   have hw:=fun K Q=> @disWord_iff K c1 s Q
   cases hW:isWd (c1::s) with
   | true=>
     rw[hW] at hw
     rw[decide_eq_true ⟨.inl rfl,e,rfl⟩]
     repeat' (first | (simp (disch:=first | omega | (decide +kernel)) only[↓RD,RU,accW_t,accW_f,isW,↓putF_get,↓putF_none,↓evF_t,↓evF_c,new_get,getD_zero,getD_succ,u_not,pop,lop,aop,wop,resL,resV,tupleV,akV,isVal,isCell,Value.cells,ρ0,ρ1,ρ3,↓reduceIte,Nat.reduceEqDiff,Nat.reduceAdd,Int.reduceOfNat,reduceCtorEq,ρ5,ρ6,ρ7,ρ8,ρ17,ρ20,ρ21,ρ22,ρ23,Kd.isRo,ρ25,ρ26,ρ28,hnow,hobG,hpG,new_set,pstr_eq,hw]) | (with_reducible first | refine condK_dec (fun _=> ?_) fun _=> ?_ | refine grd_dec (fun _=> ?_) fun _=> ?_ | refine egrd_dec (fun _=> ?_) fun _=> ?_))
     all_goals exact fin
   | false=>
     rw[hW] at hw
     rw[decide_eq_false (by simp)]
     repeat' (first | (simp (disch:=first | omega | (decide +kernel)) only[↓RD,RU,accW_t,accW_f,isW,↓putF_get,↓putF_none,↓evF_t,↓evF_c,new_get,getD_zero,getD_succ,u_not,pop,lop,aop,wop,resL,resV,tupleV,akV,isVal,isCell,Value.cells,ρ0,ρ1,ρ3,↓reduceIte,Nat.reduceEqDiff,Nat.reduceAdd,Int.reduceOfNat,reduceCtorEq,ρ5,ρ6,ρ7,ρ8,ρ17,ρ20,ρ21,ρ22,ρ23,Kd.isRo,ρ25,ρ26,ρ28,hnow,hobG,hpG,new_set,pstr_eq,hw]) | (with_reducible first | refine condK_dec (fun _=> ?_) fun _=> ?_ | refine grd_dec (fun _=> ?_) fun _=> ?_ | refine egrd_dec (fun _=> ?_) fun _=> ?_))
     all_goals exact fin
  ·have hd:=decide_eq_false e
   rw[decide_eq_false (fun g=>e g.2.1)]
   repeat' (first | (simp (disch:=first | omega | (decide +kernel)) only[↓RD,RU,accW_t,accW_f,isW,↓putF_get,↓putF_none,↓evF_t,↓evF_c,new_get,getD_zero,getD_succ,u_not,pop,lop,aop,wop,resL,resV,tupleV,akV,isVal,isCell,Value.cells,ρ0,ρ1,ρ3,↓reduceIte,Nat.reduceEqDiff,Nat.reduceAdd,Int.reduceOfNat,reduceCtorEq,ρ5,ρ6,ρ7,ρ8,ρ17,ρ20,ρ21,ρ22,ρ23,Kd.isRo,ρ25,ρ26,ρ28,hnow,hobG,hpG,new_set,pstr_eq]) | (with_reducible first | refine condK_dec (fun _=> ?_) fun _=> ?_ | refine grd_dec (fun _=> ?_) fun _=> ?_ | refine egrd_dec (fun _=> ?_) fun _=> ?_))
   all_goals exact fin
 ·by_cases k9:kd=9
  ·subst k9
   by_cases e:tx=c1::s
   ·have hd:=decide_eq_true e
    have hw:=fun K Q=> @disWord_iff K c1 s Q
    cases hW:isWd (c1::s) with
    | true=>
      rw[hW] at hw
      rw[decide_eq_false (by simp)]
      repeat' (first | (simp (disch:=first | omega | (decide +kernel)) only[↓RD,RU,accW_t,accW_f,isW,↓putF_get,↓putF_none,↓evF_t,↓evF_c,new_get,getD_zero,getD_succ,u_not,pop,lop,aop,wop,resL,resV,tupleV,akV,isVal,isCell,Value.cells,ρ0,ρ1,ρ2,ρ3,↓reduceIte,Nat.reduceEqDiff,Nat.reduceAdd,Int.reduceOfNat,reduceCtorEq,ρ5,ρ6,ρ7,ρ8,ρ17,ρ20,ρ21,ρ22,ρ23,Kd.isRo,ρ25,ρ26,ρ28,hnow,hobG,hpG,new_set,pstr_eq,hw]) | (with_reducible first | refine condK_dec (fun _=> ?_) fun _=> ?_ | refine grd_dec (fun _=> ?_) fun _=> ?_ | refine egrd_dec (fun _=> ?_) fun _=> ?_))
      all_goals exact fin
    | false=>
      rw[hW] at hw
      rw[decide_eq_true ⟨.inr rfl,e,by simp⟩]
      repeat' (first | (simp (disch:=first | omega | (decide +kernel)) only[↓RD,RU,accW_t,accW_f,isW,↓putF_get,↓putF_none,↓evF_t,↓evF_c,new_get,getD_zero,getD_succ,u_not,pop,lop,aop,wop,resL,resV,tupleV,akV,isVal,isCell,Value.cells,ρ0,ρ1,ρ3,↓reduceIte,Nat.reduceEqDiff,Nat.reduceAdd,Int.reduceOfNat,reduceCtorEq,ρ5,ρ6,ρ7,ρ8,ρ17,ρ20,ρ21,ρ22,ρ23,Kd.isRo,ρ25,ρ26,ρ28,hnow,hobG,hpG,new_set,pstr_eq,hw]) | (with_reducible first | refine condK_dec (fun _=> ?_) fun _=> ?_ | refine grd_dec (fun _=> ?_) fun _=> ?_ | refine egrd_dec (fun _=> ?_) fun _=> ?_))
      all_goals exact fin
   ·have hd:=decide_eq_false e
    rw[decide_eq_false (fun g=>e g.2.1)]
    repeat' (first | (simp (disch:=first | omega | (decide +kernel)) only[↓RD,RU,accW_t,accW_f,isW,↓putF_get,↓putF_none,↓evF_t,↓evF_c,new_get,getD_zero,getD_succ,u_not,pop,lop,aop,wop,resL,resV,tupleV,akV,isVal,isCell,Value.cells,ρ0,ρ1,ρ3,↓reduceIte,Nat.reduceEqDiff,Nat.reduceAdd,Int.reduceOfNat,reduceCtorEq,ρ5,ρ6,ρ7,ρ8,ρ17,ρ20,ρ21,ρ22,ρ23,Kd.isRo,ρ25,ρ26,ρ28,hnow,hobG,hpG,new_set,pstr_eq]) | (with_reducible first | refine condK_dec (fun _=> ?_) fun _=> ?_ | refine grd_dec (fun _=> ?_) fun _=> ?_ | refine egrd_dec (fun _=> ?_) fun _=> ?_))
    all_goals exact fin
  ·rw[decide_eq_false (fun g=>g.1.elim k8 k9)]
   repeat' (first | (simp (disch:=first | omega | (decide +kernel)) only[↓RD,RU,accW_t,accW_f,isW,↓putF_get,↓putF_none,↓evF_t,↓evF_c,new_get,getD_zero,u_not,pop,lop,aop,wop,resL,resV,tupleV,akV,isVal,isCell,Value.cells,ρ0,ρ1,ρ3,↓reduceIte,Nat.reduceEqDiff,Nat.reduceAdd,Int.reduceOfNat,reduceCtorEq,ρ5,ρ6,ρ7,ρ8,ρ17,ρ20,ρ21,ρ22,ρ23,Kd.isRo,ρ25,ρ26,ρ28,hnow,hobG,hpG,new_set,k8,k9]) | (with_reducible first | refine condK_dec (fun _=> ?_) fun _=> ?_ | refine grd_dec (fun _=> ?_) fun _=> ?_ | refine egrd_dec (fun _=> ?_) fun _=> ?_))
   all_goals exact fin
theorem dis_bad{K:CH}{p:Nat}{sl:Sl}{ts:List PT}{i:Nat}(h:RdD K p sl ts i true){s:ByteArray}:WpF (tblG Tryz.prog LG GG) 75 [.pointer (some ⟨p,0,none⟩), .string s] K fun v K'=>v= .bool false∧K'=(K.new (tkC (nowT ts i))).new (tkC (nowT ts i)):=by
 have hob:=h.ob
 have hpl:=h.pl
 have hnow:=fun Q=> @dnow_iff K p sl ts i _ h Q
 obtain⟨t,ht⟩ : ∃t,nowT ts i=t:=⟨_,rfl⟩
 unfold rdC at hob
 rw[ht] at hnow⊢
 obtain⟨kd,ln,tx⟩:=t
 obtain⟨G,hG⟩ : ∃G,K.new (tkC ⟨kd,ln,tx⟩)=G:=⟨_,rfl⟩
 rw[hG] at hnow⊢
 unfold tokV at hnow
 have hobG:G.ob p= .cells [.slice sl.q sl.n sl.c, .int .i64 (i:Nat), .bool true] 47 .ex:=by rw[←hG,new_ne (by omega)];exact hob
 have hpG:p≠G.nx:=by rw[←hG,new_nx];omega
 refine wpF_rG (by rfl) (by kernel_rfl) ?_;(conv in (rF _ _).body=>reduce);(conv in (rF _ _).res=>reduce)
 repeat' (first | (simp (disch:=first | omega | (decide +kernel)) only[↓RD,RU,accW_t,accW_f,isW,↓putF_get,↓putF_none,↓evF_t,↓evF_c,new_get,getD_zero,u_not,pop,lop,aop,wop,resL,resV,tupleV,akV,isVal,isCell,Value.cells,ρ0,ρ1,ρ2,↓reduceIte,Nat.reduceEqDiff,Nat.reduceAdd,Int.reduceOfNat,reduceCtorEq,ρ5,ρ6,ρ7,ρ8,ρ17,ρ20,ρ21,ρ22,ρ23,Kd.isRo,ρ25,ρ26,hnow,hobG,hpG,new_set]) | (with_reducible first | refine condK_dec (fun _=> ?_) fun _=> ?_ | refine grd_dec (fun _=> ?_) fun _=> ?_ | refine egrd_dec (fun _=> ?_) fun _=> ?_))
 all_goals rfl
theorem dkind_wp{K:CH}{p:Nat}{sl:Sl}{ts:List PT}{i:Nat}(h:RdD K p sl ts i false){k:Int}:WpF (tblG Tryz.prog LG GG) 77 [.pointer (some ⟨p,0,none⟩), .int .i64 k] K fun v K'=>v= .bool (decide ((nowT ts i).kind=k))∧K'=K.new (tkC (nowT ts i)):=by
 have hob:=h.ob
 have hpl:=h.pl
 have hnow:=fun Q=> @dnow_iff K p sl ts i _ h Q
 obtain⟨t,ht⟩ : ∃t,nowT ts i=t:=⟨_,rfl⟩
 unfold rdC at hob
 rw[ht] at hnow⊢
 obtain⟨kd,ln,tx⟩:=t
 unfold tokV at hnow
 refine wpF_rG (by rfl) (by kernel_rfl) ?_;(conv in (rF _ _).body=>reduce);(conv in (rF _ _).res=>reduce)
 by_cases hk:kd=k
 ·rw[decide_eq_true hk]
  subst hk
  repeat' (first | (simp (disch:=first | omega | (decide +kernel)) only[↓RD,RU,↓putF_get,↓evF_t,↓evF_c,getD_zero,getD_succ,u_not,pop,lop,resL,resV,tupleV,ρ0,ρ1,ρ3,↓reduceIte,Nat.reduceEqDiff,reduceCtorEq,ρ5,ρ6,partV,hob,hnow]) | (with_reducible first | refine condK_dec (fun _=> ?_) fun _=> ?_ | refine grd_dec (fun _=> ?_) fun _=> ?_ | refine egrd_dec (fun _=> ?_) fun _=> ?_))
  all_goals rfl
 ·rw[decide_eq_false hk]
  repeat' (first | (simp (disch:=first | omega | (decide +kernel)) only[↓RD,RU,↓putF_get,↓evF_t,↓evF_c,getD_zero,getD_succ,u_not,pop,lop,resL,resV,tupleV,ρ0,ρ1,ρ3,↓reduceIte,Nat.reduceEqDiff,reduceCtorEq,ρ5,ρ6,partV,hob,hnow,hk]) | (with_reducible first | refine condK_dec (fun _=> ?_) fun _=> ?_ | refine grd_dec (fun _=> ?_) fun _=> ?_ | refine egrd_dec (fun _=> ?_) fun _=> ?_))
  all_goals rfl
theorem dkind_bad{K:CH}{p:Nat}{sl:Sl}{ts:List PT}{i:Nat}(h:RdD K p sl ts i true){k:Int}:WpF (tblG Tryz.prog LG GG) 77 [.pointer (some ⟨p,0,none⟩), .int .i64 k] K fun v K'=>v= .bool false∧K'=K:=by
 have hob:=h.ob
 have hpl:=h.pl
 unfold rdC at hob
 refine wpF_rG (by rfl) (by kernel_rfl) ?_;(conv in (rF _ _).body=>reduce);(conv in (rF _ _).res=>reduce)
 repeat' (first | (simp (disch:=first | omega | (decide +kernel)) only[↓RD,RU,↓putF_get,↓evF_t,↓evF_c,getD_zero,u_not,pop,lop,resL,resV,tupleV,ρ2,↓reduceIte,Nat.reduceEqDiff,reduceCtorEq,ρ5,ρ6,hob]) | (with_reducible first | refine condK_dec (fun _=> ?_) fun _=> ?_ | refine grd_dec (fun _=> ?_) fun _=> ?_ | refine egrd_dec (fun _=> ?_) fun _=> ?_))
theorem dnode_wp{K:CH}{k l:Int}{a:Option Addr}{n c:Nat}:WpF (tblG Tryz.prog LG GG) 18 [.int .i64 k, .int .i64 l, .slice a n c] K fun v K'=>v= .agg #[.int .i64 k, .int .i64 l, .string ⟨⟨[]⟩⟩, .int .i64 0, .slice a n c]∧∃o,K'=K.new o:=by
 refine wpF_rG (by rfl) (by kernel_rfl) ?_;(conv in (rF _ _).body=>reduce);(conv in (rF _ _).res=>reduce)
 repeat' (first | (simp (disch:=first | omega | (decide +kernel)) only[↓RD,RU,↓putF_get,↓putF_none,↓evF_t,new_get,getD_zero,getD_succ,pop,lop,aop,wop,resL,resV,tupleV,akV,isVal,isCell,Value.cells,ρ0,ρ1,ρ4,↓reduceIte,Nat.reduceEqDiff,Nat.reduceAdd,Int.reduceOfNat,reduceCtorEq,ρ7,ρ8,ρ15,ρ17,ρ18,ρ19,ρ20,ρ21,ρ22,ρ23,Kd.isRo,ρ25,ρ26,bldV,Nat.reduceLeDiff,new_set]) | (with_reducible first | refine condK_dec (fun _=> ?_) fun _=> ?_ | refine grd_dec (fun _=> ?_) fun _=> ?_ | refine egrd_dec (fun _=> ?_) fun _=> ?_))
 all_goals exact⟨_,rfl⟩
end Can
end Go.Proofs.YtnankhlanilbbaaGreat
end
section
namespace Go.Proofs.YtnankhlanilbbaaGreat
namespace Can
open Go Go.RowKit
set_option linter.unusedSimpArgs false
set_option linter.unusedVariables false
set_option maxRecDepth 4000
inductive NdG:List SV→Prop
 | mk {k l:Int} {x:ByteArray} {o:Int} {gs:List (List SV)} (h : ∀g∈gs,NdG g):NdG [.sc (.int .i64 k), .sc (.int .i64 l), .sc (.string x), .sc (.int .i64 o), .row 5 gs]
mutual
theorem ndG_nd : ∀t:Nd,NdG (ndS t)
 | .mk _ _ _ _ ks=> .mk (ndG_nds ks)
theorem ndG_nds : ∀ks:List Nd,∀g∈ndsS ks,NdG g
 | [],g,h=>by cases h
 | n::ks,g,h=>by
   rcases List.mem_cons.1 h with rfl | h
   ·exact ndG_nd n
   ·exact ndG_nds ks g h
end
abbrev gA(k l:Int)(x:ByteArray)(o:Int)(gs:List (List SV)):AV:= .r (.agg [cS (.int .i64 k),cS (.int .i64 l),cS (.string x),cS (.int .i64 o), .s (.row 5 gs)])
def rdSb (sl:Sl)(i:Nat)(b:Bool):List SV:= [.sc (.slice sl.q sl.n sl.c), .sc (.int .i64 (i:Nat)), .sc (.bool b)]
abbrev rdD(sl:Sl)(i:Nat)(b:Bool):Self:=some (47,rdSb sl i b)
theorem dself_inv{K:CH}{E:TE}{sp:Option Nat}{sl:Sl}{i:Nat}{b:Bool}(h:SelfR K E sp (rdD sl i b)) : ∃p,sp=some p∧p<K.nx∧K.ob p=rdC sl i b:=by
 obtain⟨p,os,h1,h2,h3,h4⟩:=h
 refine⟨p,h1,h2,?_⟩
 rw[h3]
 cases h4 with
 | cons a h4=>cases h4 with
   | cons b h4=>cases h4 with
     | cons c h4=>cases h4;cases a;cases b;cases c;rfl
theorem dself_mk{K:CH}{E:TE}{p:Nat}{sl:Sl}{i:Nat}{b:Bool}(h:p<K.nx)(ho:K.ob p=rdC sl i b):SelfR K E (some p) (rdD sl i b):=⟨p,_,rfl,h,ho, .cons (.sc rfl) (.cons (.sc rfl) (.cons (.sc rfl) .nil))⟩
theorem tc_rdd{Z:TP}{X:Pan}{sl:Sl}{ts:List PT}(hZ:TkZ Z sl ts){f:FuncId}{L:List Value}{i j:Nat}{b b':Bool}{a:AV}{V:Value}{Q:AV→List SV→Prop}{R:Value→Prop}(hi:i≤ts.length)(hV : ∀K E,AVR K E a V)(hc:a.clean)
 (h : ∀K p,RdD K p sl ts i b→WpF (tblG Tryz.prog LG GG) f (.pointer (some ⟨p,0,none⟩)::L) K fun v K'=>v=V∧K.nx≤K'.nx∧(∀x,x<K.nx→x≠p→K'.ob x=K.ob x)∧K'.ob p=rdC sl j b') (hQ:Q a (rdSb sl j b')):TC Z (tblG Tryz.prog LG GG) X f (.ptr 0 0::L.map rS) (rdD sl i b) Q R:=by
 intro K sp hid vs h1 h2 h3 h4
 obtain⟨p,rfl,hp,ho⟩:=dself_inv h4
 have hvs:vs= .pointer (some ⟨p,0,none⟩)::L:=by
  cases h3 with
  | cons g1 g2=>
    obtain⟨l,q1,q2⟩:=g1.ptr_inv
    have q1:some p=some l:=q1
    cases q1
    rw[q2,r2_rS g2]
 subst hvs
 left
 refine(h K p ⟨ho,hp,hi,hZ.n,hZ.tk K fun x hx=>⟨(h2 x hx).1,(h2 x hx).2.2⟩⟩).mono fun v K' ⟨e1,e2,e3,e4⟩=> ?_
 subst e1
 exact⟨e2,fun x hx hs=>e3 x hx fun e=>hs (by rw[e]),a,rdSb sl j b',hV _ _,hc,dself_mk (Nat.lt_of_lt_of_le hp e2) e4,hQ⟩
structure DCtx(Z:TP)(ts:List PT)(sl:Sl):Prop where
 tkz:TkZ Z sl ts
 len:ts.length≤4398046510976
def DTd:TD:=⟨[18]⟩
theorem dtd_ok:TDOk (tblG Tryz.prog LG GG) DTd:=⟨fun f hf K k l a n c=>by
 have:f=18:=by
  simp only[DTd,List.elem_cons,List.elem_nil] at hf
  split at hf
  ·rename_i h;exact eq_of_beq h
  ·cases hf
 subst this
 exact dnode_wp⟩
section
variable {Z:TP} {X:Pan} {ts:List PT} {sl:Sl} {R:Value→Prop} {Q:AV→List SV→Prop} {i:Nat} {b:Bool}
theorem dnow_tc(C:DCtx Z ts sl)(hi:i≤ts.length)(hQ:Q (tokA (nowT ts i)) (rdSb sl i b)):TC Z (tblG Tryz.prog LG GG) X 19 [.ptr 0 0] (rdD sl i b) Q R:=
 tc_rdd C.tkz (L:= []) hi (fun _ _=>tokA_rel) trivial (fun K p h=>(dnow_wp h).mono fun v K' ⟨e1,e2⟩=>by
  subst e2
  exact⟨e1,Nat.le_succ _,fun b hb _=>new_ne (by omega),(new_ne (by have:=h.pl;omega)).trans h.ob⟩) hQ
theorem dis_tc(C:DCtx Z ts sl){s:List UInt8}(hs:s≠ [])(hi:i≤ts.length)(hQ:Q (rS (.bool (isT ts i s))) (rdSb sl i false)):TC Z (tblG Tryz.prog LG GG) X 75 [.ptr 0 0,rS (.string ⟨⟨s⟩⟩)] (rdD sl i false) Q R:=by
 obtain⟨c1,s,rfl⟩ : ∃c1 s',s=c1::s':=by cases s;exact absurd rfl hs;exact⟨_,_,rfl⟩
 exact tc_rdd C.tkz (L:= [.string ⟨⟨c1::s⟩⟩]) hi (fun _ _=>rS_rel rfl) trivial (fun K p h=>(dis_wp h).mono fun v K' ⟨e1,e2⟩=>by
  subst e2
  have:=h.pl
  refine⟨e1,by simp only[new_nx];omega,fun b hb _=> ?_,?_⟩
  ·rw[new_ne (by simp only[new_nx];omega),new_ne (by omega)]
  ·rw[new_ne (by simp only[new_nx];omega),new_ne (by omega)];exact h.ob) hQ
theorem dis_tb(C:DCtx Z ts sl){s:ByteArray}(hi:i≤ts.length)(hQ:Q (rS (.bool false)) (rdSb sl i true)):TC Z (tblG Tryz.prog LG GG) X 75 [.ptr 0 0,rS (.string s)] (rdD sl i true) Q R:=
 tc_rdd C.tkz (L:= [.string s]) hi (fun _ _=>rS_rel rfl) trivial (fun K p h=>(dis_bad h).mono fun v K' ⟨e1,e2⟩=>by
  subst e2
  have:=h.pl
  refine⟨e1,by simp only[new_nx];omega,fun b hb _=> ?_,?_⟩
  ·rw[new_ne (by simp only[new_nx];omega),new_ne (by omega)]
  ·rw[new_ne (by simp only[new_nx];omega),new_ne (by omega)];exact h.ob) hQ
theorem dkind_tc(C:DCtx Z ts sl){k:Int}(hi:i≤ts.length)(hQ:Q (rS (.bool (decide ((nowT ts i).kind=k)))) (rdSb sl i false)):TC Z (tblG Tryz.prog LG GG) X 77 [.ptr 0 0,rS (.int .i64 k)] (rdD sl i false) Q R:=
 tc_rdd C.tkz (L:= [.int .i64 k]) hi (fun _ _=>rS_rel rfl) trivial (fun K p h=>(dkind_wp h).mono fun v K' ⟨e1,e2⟩=>by
  subst e2
  exact⟨e1,Nat.le_succ _,fun b hb _=>new_ne (by omega),(new_ne (by have:=h.pl;omega)).trans h.ob⟩) hQ
theorem dkind_tb(C:DCtx Z ts sl){k:Int}(hi:i≤ts.length)(hQ:Q (rS (.bool false)) (rdSb sl i true)):TC Z (tblG Tryz.prog LG GG) X 77 [.ptr 0 0,rS (.int .i64 k)] (rdD sl i true) Q R:=
 tc_rdd C.tkz (L:= [.int .i64 k]) hi (fun _ _=>rS_rel rfl) trivial (fun K p h=>(dkind_bad h).mono fun v K' ⟨e1,e2⟩=>by
  subst e2
  exact⟨e1,Nat.le_refl _,fun b _ _=>rfl,h.ob⟩) hQ
end
end Can
end Go.Proofs.YtnankhlanilbbaaGreat
end
