/- Lex: one token; the indentation. Lex: what stands behind a row's end turns nothing in it. No program in sight. Lex: a row. Lex: the words; the program's Lex. Lex: plain laws of the rows. -/
import Derived.Test.YtdfgkcoenagaaaaGreatZf
import Derived.Test.YtdfgkcoenagaaaaGreatZg
import Derived.Test.YtdfgkcoenagaaaaGreatZa
section
namespace Go.Proofs.YtdfgkcoenagaaaaGreat
namespace Can
open Go Go.RowKit
set_option linter.unusedSimpArgs false
set_option linter.unusedVariables false
set_option maxRecDepth 4000
def TokOut(A K:CH)(p:Nat)(src:List UInt8)(s:RS)(vo:Value)(m:Nat)(r:Option (Nat×List UInt8×Nat)):Prop:=match r with
 | some (k,x,n)=>∃vt',RdAt A K p src (putS { atS s n with dep:=depT s.dep k x } k s.line x) vo vt' m
 | none=>BadAt A K p src s vo m
theorem fracN_le{l:List UInt8}:fracN l≤l.length:=by
 unfold fracN
 split
 ·rename_i g
  have h1:=dig_lt g.2
  have:=digN_le (l:=l.drop 1)
  simp only[List.length_drop] at this;omega
 ·omega
theorem expN_le{l:List UInt8}:expN l≤l.length:=by
 unfold expN
 have h1:=digN_le (l:=l.drop 1)
 have h2:=digN_le (l:=l.drop 2)
 simp only[List.length_drop] at h1 h2
 split
 ·split
  ·rename_i g;have:=dig_lt g;omega
  ·split
   ·rename_i g;have:=dig_lt g.2;omega
   ·omega
 ·omega
theorem numN_le{l:List UInt8}:numN l≤l.length:=by
 have h1:=digN_le (l:=l)
 have h2:=fracN_le (l:=l.drop (digN l))
 have h3:=expN_le (l:=l.drop (numA l))
 simp only[List.length_drop] at h2 h3
 have h4:numA l=digN l+fracN (l.drop (digN l)):=rfl
 unfold numN
 omega
theorem dep_no{d k:Nat}{x:List UInt8}(h:k≠9):depT d k x=d:=by
 unfold depT
 rw[if_neg (fun g=>h g.1),if_neg (fun g=>h g.1)]
theorem token_wp{A K:CH}{p:Nat}{src:List UInt8}{s:RS}{vo vt:Value}{m:Nat}(h:RdAt A K p src s vo vt m)(hp:s.pos<src.length)(h0:s.err=0)(hb:s.out.length+s.opn.length<1000000)(hdp:s.dep<100000) :
 WpF (tblG Tryz.prog LG GG) 32 [.pointer (some ⟨p,0,none⟩)] K fun v K'=>TokOut A K' p src s vo m (tokT (src.drop s.pos)):=by
 have hsl:=h.sl
 have hob:=h.ob
 have hpl:=h.pl
 have hg:=get_pos hp
 obtain⟨c,hc⟩ : ∃c,src[s.pos]=c:=⟨_,rfl⟩
 have hhd:hd (src.drop s.pos)=c.toNat:=by rw[hd_drop hp,hc]
 rw[hc] at hg
 refine wpF_rG (by rfl) (by kernel_rfl) ?_;(conv in (rF _ _).body=>reduce);(conv in (rF _ _).res=>reduce)
 cases hL:isLetN c.toNat with
 | true=>
   have ht:tokT (src.drop s.pos)=some (if (src.drop s.pos).take (nW isAlN (src.drop s.pos))∈wordsL then 8 else 4,(src.drop s.pos).take (nW isAlN (src.drop s.pos)),nW isAlN (src.drop s.pos)):=by
    unfold tokT;rw[hhd,if_pos hL]
   rw[ht]
   repeat' (first | (simp (disch:=first | omega | (decide +kernel)) only[↓RD,RU,↓putF_get,↓evF_t,getD_zero,pop,lop,ρ0,ρ1,ρ4,↓reduceIte,Nat.reduceEqDiff,Int.reduceOfNat,reduceCtorEq,ρ5,ρ6,ρ28,ρ29,hob,str_get,hg,letter_iff,hL]) | (with_reducible first | refine condK_dec (fun _=> ?_) fun _=> ?_ | refine grd_dec (fun _=> ?_) fun _=> ?_ | refine egrd_dec (fun _=> ?_) fun _=> ?_))
   refine(name_wp h hp hb).mono fun v1 K1 ⟨vt1,h1⟩=> ?_
   repeat' (first | (simp (disch:=first | omega | (decide +kernel)) only[↓RD,RU,resL]) | (with_reducible first | refine condK_dec (fun _=> ?_) fun _=> ?_ | refine grd_dec (fun _=> ?_) fun _=> ?_ | refine egrd_dec (fun _=> ?_) fun _=> ?_))
   all_goals exact⟨vt1,by rw[dep_no (by split<;>decide)];exact h1⟩
 | false=>
   cases hD:isDigN c.toNat with
   | true=>
     repeat' (first | (simp (disch:=first | omega | (decide +kernel)) only[↓RD,RU,↓putF_get,↓evF_t,getD_zero,pop,lop,ρ0,ρ1,ρ4,↓reduceIte,Nat.reduceEqDiff,Int.reduceOfNat,reduceCtorEq,ρ5,ρ6,ρ28,ρ29,hob,str_get,hg,letter_iff,hL,digit_iff,hD]) | (with_reducible first | refine condK_dec (fun _=> ?_) fun _=> ?_ | refine grd_dec (fun _=> ?_) fun _=> ?_ | refine egrd_dec (fun _=> ?_) fun _=> ?_))
     refine(number_wp h hp (by rw[hhd];exact hD) hb).mono fun v1 K1 ⟨vt1,h1⟩=> ?_
     have hk9:numK (src.drop s.pos)≠9:=by unfold numK;split<;>decide
     cases hbd:numBad (src.drop s.pos) with
     | true=>
       have ht:tokT (src.drop s.pos)=none:=by
        unfold tokT;rw[hhd,if_neg (by simp[hL]),if_pos hD,if_pos hbd]
       rw[ht]
       unfold numS at h1
       rw[if_pos hbd,failS_0 (show(atS s _).err=0 from h0)] at h1
       have hnp:0<numN (src.drop s.pos):=by
        have:=nW_yes (p:=isDigN) hp (by rw[hhd];exact hD)
        unfold numN numA digN
        omega
       have hnb:s.pos+numN (src.drop s.pos)≤src.length+4:=by
        have:=numN_le (l:=src.drop s.pos)
        simp at this;omega
       repeat' (first | (simp (disch:=first | omega | (decide +kernel)) only[↓RD,RU,resL]) | (with_reducible first | refine condK_dec (fun _=> ?_) fun _=> ?_ | refine grd_dec (fun _=> ?_) fun _=> ?_ | refine egrd_dec (fun _=> ?_) fun _=> ?_))
       all_goals exact⟨vt1,_,h1,rfl,rfl,rfl,rfl,by simp[putS,atS],by show s.pos<s.pos+numN _;omega,hnb,rfl⟩
     | false=>
       have ht:tokT (src.drop s.pos)=some (numK (src.drop s.pos),(src.drop s.pos).take (numN (src.drop s.pos)),numN (src.drop s.pos)):=by
        unfold tokT;rw[hhd,if_neg (by simp[hL]),if_pos hD,if_neg (by simp[hbd])]
       rw[ht]
       unfold numS at h1
       rw[if_neg (by simp[hbd])] at h1
       repeat' (first | (simp (disch:=first | omega | (decide +kernel)) only[↓RD,RU,resL]) | (with_reducible first | refine condK_dec (fun _=> ?_) fun _=> ?_ | refine grd_dec (fun _=> ?_) fun _=> ?_ | refine egrd_dec (fun _=> ?_) fun _=> ?_))
       all_goals exact⟨vt1,by rw[dep_no hk9];exact h1⟩
   | false=>
     by_cases hq:c.toNat=39∨c.toNat=34
     ·have ht:tokT (src.drop s.pos)=(strT (hd (src.drop s.pos)) (src.drop (s.pos+1))).map fun x=>(7,x.1,x.2+1):=by
       unfold tokT;rw[hhd,if_neg (by simp[hL]),if_neg (by simp[hD]),if_pos hq,List.drop_drop]
      rw[ht]
      have fin : ∀K',TxtOut A K' p src s vo m (strT (hd (src.drop s.pos)) (src.drop (s.pos+1)))→TokOut A K' p src s vo m ((strT (hd (src.drop s.pos)) (src.drop (s.pos+1))).map fun x=>(7,x.1,x.2+1)):=fun K' g=>by
       cases hs:strT (hd (src.drop s.pos)) (src.drop (s.pos+1)) with
       | none=>rw[hs] at g;exact g
       | some x=>rw[hs] at g;obtain⟨vt2,g⟩:=g;exact⟨vt2,by rw[dep_no (by decide)];exact g⟩
      have hqr:32≤hd (src.drop s.pos)∧hd (src.drop s.pos)≠92:=by rw[hhd];omega
      repeat' (first | (simp (disch:=first | omega | (decide +kernel)) only[↓RD,RU,↓putF_get,↓evF_t,↓evF_c,getD_zero,pop,lop,ρ0,ρ1,ρ4,↓reduceIte,Nat.reduceEqDiff,Int.reduceOfNat,reduceCtorEq,ρ5,ρ6,ρ28,ρ29,hob,str_get,hg,letter_iff,hL,digit_iff,hD]) | (with_reducible first | refine condK_dec (fun _=> ?_) fun _=> ?_ | refine grd_dec (fun _=> ?_) fun _=> ?_ | refine egrd_dec (fun _=> ?_) fun _=> ?_))
      all_goals
       refine(text_wp h hp h0 hqr hb).mono fun v1 K1 h1=> ?_
       repeat' (first | (simp (disch:=first | omega | (decide +kernel)) only[↓RD,RU,resL]) | (with_reducible first | refine condK_dec (fun _=> ?_) fun _=> ?_ | refine grd_dec (fun _=> ?_) fun _=> ?_ | refine egrd_dec (fun _=> ?_) fun _=> ?_))
       all_goals exact fin _ h1
     ·have ht:tokT (src.drop s.pos)=(symN (src.drop s.pos)).map fun n=>(9,(src.drop s.pos).take n,n):=by
       unfold tokT;rw[hhd,if_neg (by simp[hL]),if_neg (by simp[hD]),if_neg hq]
      rw[ht]
      repeat' (first | (simp (disch:=first | omega | (decide +kernel)) only[↓RD,RU,↓putF_get,↓evF_t,↓evF_c,getD_zero,pop,lop,ρ0,ρ1,ρ4,↓reduceIte,Nat.reduceEqDiff,Int.reduceOfNat,reduceCtorEq,ρ5,ρ6,ρ28,ρ29,hob,str_get,hg,letter_iff,hL,digit_iff,hD]) | (with_reducible first | refine condK_dec (fun _=> ?_) fun _=> ?_ | refine grd_dec (fun _=> ?_) fun _=> ?_ | refine egrd_dec (fun _=> ?_) fun _=> ?_))
      all_goals
       refine(symbol_wp h hp h0 hb hdp).mono fun v1 K1 h1=> ?_
       repeat' (first | (simp (disch:=first | omega | (decide +kernel)) only[↓RD,RU,resL]) | (with_reducible first | refine condK_dec (fun _=> ?_) fun _=> ?_ | refine grd_dec (fun _=> ?_) fun _=> ?_ | refine egrd_dec (fun _=> ?_) fun _=> ?_))
       all_goals
        unfold SymOut at h1
        cases hs:symN (src.drop s.pos) with
        | none=>rw[hs] at h1;exact h1
        | some x=>rw[hs] at h1;exact h1
theorem opn_app{A K:CH}{v:Value}{ns:List Nat}{n:Nat}(h:OpnAt A K v ns)(hA:HExt A K)(hl:ns.length<1000000){Q:Value→CH→Prop}(k : ∀v' K',OpnAt A K' v' (ns++ [n])→HExt A K'→K.nx≤K'.nx→(∀l,l<K.nx→(∀o n c,v≠ .slice (some ⟨l,o,none⟩) n c)→K'.ob l=K.ob l)→Q v' K') :
 optW (appV 3 1 8 v [.int .i64 n] 1 K) Q:=by
 obtain⟨b,kd,c,os,rfl,h1,h2,h3,h4,h5,h6,h7,h8⟩:=h
 rw[appV_r,h3,appR_c,if_neg (by decide),if_pos ⟨rfl,rfl,h4,by omega,rfl,by omega,by rw[maxLen_eq];omega⟩,optW_some]
 have hnew : ∀H:CH,H.nx=K.nx→(H.new (.cells (os.take (ns.length*1)++ [.int .i64 (n:Int)]) 3 .gr)).ob K.nx= .cells (os.take (ns.length*1)++ [.int .i64 (n:Int)]) 3 .gr:=fun H hH=>by rw[new_get,if_pos hH.symm]
 have hcells : ∀i,i<(ns++ [n]).length→(os.take (ns.length*1)++ [.int .i64 (n:Int)])[i]? = some (.int .i64 ((ns++ [n]).getD i 0:Nat)):=fun i hi=>by
  simp only[List.length_append,List.length_singleton] at hi
  by_cases hlt:i<ns.length
  ·rw[List.getElem?_append_left (by simp;omega),List.getElem?_take,if_pos (by omega),h8 i hlt]
   simp[List.getD,List.getElem?_append_left hlt]
  ·have:i=ns.length:=by omega
   subst this
   rw[List.getElem?_append_right (by simp;omega)]
   simp[List.getD,h7]
 have hop : ∀K':CH,K'.nx=K.nx+1→K'.ob K.nx= .cells (os.take (ns.length*1)++ [.int .i64 (n:Int)]) 3 .gr→OpnAt A K' (.slice (some ⟨K.nx,0,none⟩) (ns.length+1) (ns.length+1)) (ns++ [n]):=fun K' g1 g2=>
  ⟨K.nx, .gr,ns.length+1,_,by simp,hA.nx,by omega,g2,rfl,by simp,by omega,by simp;omega,hcells⟩
 unfold appH
 split
 ·exact k _ _ (hop _ rfl (hnew K rfl)) (hA.new _) (Nat.le_succ _) fun l hl _=>by rw[new_get,if_neg (by omega)]
 ·refine k _ _ (hop _ rfl (hnew (K.set b .dead) rfl)) ((hA.set h1 _).new _) (Nat.le_succ _) fun l hl hne=> ?_
  rw[new_get,if_neg (by show ¬l=K.nx;omega),set_get,if_neg]
  rintro rfl
  exact hne _ _ _ rfl
theorem RdAt.opnv{A K K':CH}{p:Nat}{src:List UInt8}{s:RS}{vo vo' vt:Value}{m:Nat}{ns:List Nat}(h:RdAt A K p src s vo vt m)(hb:s.out.length+ns.length≤1000000)(hx:HExt A K')(hn:K.nx≤K'.nx)(hg:OpnAt A K' vo' ns)(hk : ∀l,l<K.nx→(∀o n c,vo≠ .slice (some ⟨l,o,none⟩) n c)→K'.ob l=K.ob l) :
 RdAt A (K'.set p (.cells [.string (str src), .int .i64 s.pos, .int .i64 s.line, .int .i64 s.dep,vo',vt, .map (some m), .int .i64 s.err, .int .i64 s.wh] 55 .ex)) p src { s with opn:=ns } vo' vt m∧K'.ob p=K.ob p:=by
 have hob:=h.ob
 obtain⟨b,kd,c,os,h1,h2,h3,h4,h5⟩:=h.opn
 have hne : ∀l,l≠b→∀o n c,vo≠ .slice (some ⟨l,o,none⟩) n c:=fun l hl o n c hv=>by
  rw[h1] at hv;cases hv;exact hl rfl
 have hpb:p≠b:=fun e=>by
  rw[←e,hob] at h4
  have:=(CObj.cells.inj h4).2.1
  revert this;decide
 have hmb:m≠b:=fun e=>by rw[←e,h.mp] at h4;cases h4
 have hp:=(hk p h.pl (hne p hpb)).trans hob
 have hm':=(hk m h.ml (hne m hmb)).trans h.mp
 obtain⟨b2,kd2,c2,os2,g1,g2,g3,g4,g5⟩:=hg
 have hb2p:b2≠p:=fun e=>by
  rw[e,hp] at g4
  have:=(CObj.cells.inj g4).2.1
  revert this;decide
 have hmp:m≠p:=fun e=>by rw[e,hp] at hm';cases hm'
 refine⟨⟨by rw[set_get,if_pos rfl],Nat.lt_of_lt_of_le h.pl hn,h.pa,⟨b2,kd2,c2,os2,g1,g2,g3,by rw[set_get,if_neg hb2p];exact g4,g5⟩,?_,by rw[set_get,if_neg hmp];exact hm',Nat.lt_of_lt_of_le h.ml hn,h.ma,hx.set h.pa _,⟨h.bd.pos,h.bd.line,h.bd.dep,h.bd.err,h.bd.wh,hb⟩,h.sl⟩,hk p h.pl (hne p hpb)⟩
 rcases h.out with g | ⟨b3,kd3,e3,q1,q2,q3,q4⟩
 ·exact .inl g
 ·have hb3b:b3≠b:=fun e=>by
   rw[e,h4] at q3
   have:=(CObj.cells.inj q3).2.1
   revert this;decide
  have hb3p:b3≠p:=fun e=>by
   rw[e,hob] at q3
   have:=(CObj.cells.inj q3).2.1
   revert this;decide
  exact .inr ⟨b3,kd3,e3,q1,Nat.lt_of_lt_of_le q2 hn,by rw[set_get,if_neg hb3p];exact(hk b3 q2 (hne b3 hb3b)).trans q3,q4⟩
theorem tw_spec{n:Nat} : ∀ {st:List Nat},st.getLast? = some 0→∃k,(st.takeWhile fun x=>decide (n<x)).length=k∧k<st.length∧(∀i,i<k→n<st.getD i 0)∧¬n<st.getD k 0∧(st.dropWhile fun x=>decide (n<x))=st.drop k
 | [],h=>by cases h
 | a::r,h=>by
   by_cases ha:n<a
   ·cases r with
    | nil=>simp at h;omega
    | cons b r=>
      obtain⟨k,h1,h2,h3,h4,h5⟩:=tw_spec (n:=n) (st:=b::r) (by simpa using h)
      refine⟨k+1,by rw[List.takeWhile_cons_of_pos (by simpa using ha)];simp[h1],by simp at h2⊢;omega,fun i hi=> ?_,by simpa using h4,by rw[List.dropWhile_cons_of_pos (by simpa using ha),h5];rfl⟩
      cases i with
      | zero=>exact ha
      | succ i=>simpa using h3 i (by omega)
   ·exact⟨0,by rw[List.takeWhile_cons_of_neg (by simpa using ha)];rfl,by simp,fun i hi=>absurd hi (by omega),by simpa using ha,by rw[List.dropWhile_cons_of_neg (by simpa using ha)];rfl⟩
theorem sl_open{b n c j:Nat}(h2:j+1≤c):sliceV 1 (.slice (some ⟨b,0,none⟩) n c) ((0:Nat):Int) ((j:Nat)+1:Int) (c:Int) false=some (.slice (some ⟨b,0,none⟩) (j+1) c):=by
 unfold sliceV
 simp only[Bool.false_eq_true,if_false]
 rw[if_pos (by omega),if_neg (by omega)]
 have e1:(((j:Nat):Int)+1-((0:Nat):Int)).toNat=j+1:=by omega
 have e2:((c:Int)-((0:Nat):Int)).toNat=c:=by omega
 rw[e1,e2]
 rfl
theorem okSl_of{K:CH}{b o n c e:Nat}{os:List Value}{kd:Kd}(h:K.ob b= .cells os e kd):okSl K e (.slice (some ⟨b,o,none⟩) n c)=true:=by
 simp only[okSl,h]
 cases kd<;>simp
def indS (s:RS)(st:List Nat)(n:Nat):RS:=if (indT s.line st n).2.headD 0=n then { s with out:=s.out++(indT s.line st n).1,opn:=(indT s.line st n).2.reverse } else { s with out:=s.out++(indT s.line st n).1,opn:=(indT s.line st n).2.reverse,err:=21,wh:=s.line }
theorem indent_wp{A K:CH}{p:Nat}{src:List UInt8}{s:RS}{vo vt:Value}{m:Nat}(h:RdAt A K p src s vo vt m){st:List Nat}(hst:s.opn=st.reverse)(hz:st.getLast? = some 0)(n:Nat)(hn:n≤100000)(h0:s.err=0)(hb:s.out.length+s.opn.length<400000) :
 WpF (tblG Tryz.prog LG GG) 31 [.pointer (some ⟨p,0,none⟩), .int .i64 n] K fun v K'=>∃vo' vt',RdAt A K' p src (indS s st n) vo' vt' m:=by
 have hsl:=h.sl
 have hob:=h.ob
 have hpl:=h.pl
 have hln:=h.bd.line
 have hlen:s.opn.length=st.length:=by rw[hst];simp
 have hst0:0<st.length:=by cases st with
  | nil=>cases hz
  | cons a r=>simp
 obtain⟨b,kd,c,os,hvo,o1,o2,o3,o4,o5,o6,o7,o8⟩:=h.opn
 have hget : ∀i,i<st.length→os[st.length-1-i]? = some (.int .i64 (st.getD i 0:Nat)):=fun i hi=>by
  rw[o8 _ (by omega),hst]
  congr 3
  simp only[List.getD_eq_getElem?_getD]
  rw[List.getElem?_reverse (by omega)]
  congr 2;omega
 subst hvo
 refine wpF_rG (by rfl) (by kernel_rfl) ?_;(conv in (rF _ _).body=>reduce);(conv in (rF _ _).res=>reduce)
 have hg0:=hget 0 hst0
 have hsub:((s.opn.length:Nat):Int)-1=((st.length-1-0:Nat):Int):=by omega
 by_cases hlt:st.headD 0<n
 ·have hlt':st.getD 0 0<n:=by cases st with
   | nil=>exact hlt
   | cons a r=>exact hlt
  have hind:indT s.line st n=([⟨2,s.line,[]⟩],n::st):=by unfold indT;rw[if_pos hlt]
  have hx1:HExt K (K.new (.cells [.int .i64 (n:Int)] 3 .ex)):=by(repeat (first | assumption | exact HExt.refl _ | (refine HExt.set ?_ (by first | omega | (simp only[new_nx,set_nx];omega)) _) | (refine HExt.new ?_ _)))
  have ho1:=(h.mv hx1).opn
  repeat' (first | (simp (disch:=first | omega | (decide +kernel)) only[↓r_seq,↓seqK_n,↓r_reg,↓r_cond,↓condK_t,↓i_cons,↓itemK,↓o_p,↓o_l,↓o_a,↓o_w,↓putF_get,↓evF_t,↓evF_c,new_get,optV_some,optA_some,↓wpI_nil,getD_zero,getD_succ,b_sub,b_gtr,w_i64,pop,lop,aop,akV,isVal,Value.cells,List.map_cons,List.map_nil,Option.map_some,↓reduceIte,Nat.reduceEqDiff,Int.reduceOfNat,reduceCtorEq,List.getElem?_cons_zero,List.getElem?_cons_succ,List.length_cons,List.length_nil,setc_0,srcR_c,src_r,List.take_succ_cons,List.drop_succ_cons,List.drop_zero,List.append_nil,List.take_nil,List.drop_nil,List.size_toArray,List.toList_toArray,bldV,Nat.reduceLeDiff,Nat.le_refl,zeros_one,dec_t,↓w_app,appS_some,if_pos,Nat.mul_one,Nat.zero_add,Int.toNat_natCast,and_true,hob,o3,hsub,hg0]) | (with_reducible first | refine condK_dec (fun _=> ?_) fun _=> ?_ | refine grd_dec (fun _=> ?_) fun _=> ?_ | refine egrd_dec (fun _=> ?_) fun _=> ?_))
  refine opn_app ho1 (h.E.trans hx1) (by omega) fun vo' K2 j1 j2 j3 j4=> ?_
  obtain⟨h2,e2⟩:=(h.mv hx1).opnv (by simp;omega) j2 j3 j1 j4
  have hob2:=e2.trans ((hx1.ob p hpl).trans hob)
  have j1':=j1
  obtain⟨b2,kd2,c2,os2,rfl,_⟩:=j1'
  have hll:(s.opn++ [n]).length=s.opn.length+1:=by simp
  rw[hll] at h2
  repeat' (first | (simp (disch:=first | omega | (decide +kernel)) only[↓RD,RU,↓putF_get,↓putF_none,↓evF_t,↓evF_c,set_get,getD_zero,pop,lop,wop,isVal,isCell,Value.cells,ρ0,ρ1,↓reduceIte,Nat.reduceEqDiff,Nat.reduceAdd,reduceCtorEq,ρ5,ρ6,ρ7,ρ8,ρ17,ρ18,ρ19,ρ20,ρ22,ρ23,Kd.isRo,ρ25,ρ26,Nat.reduceLeDiff,hob2]) | (with_reducible first | refine condK_dec (fun _=> ?_) fun _=> ?_ | refine grd_dec (fun _=> ?_) fun _=> ?_ | refine egrd_dec (fun _=> ?_) fun _=> ?_))
  refine(put_wp h2 2 s.line [] (by simp;omega)).mono fun v3 K3 ⟨vt3,h3⟩=> ?_
  repeat' (first | (simp (disch:=first | omega | (decide +kernel)) only[↓RD,RU,resL]) | (with_reducible first | refine condK_dec (fun _=> ?_) fun _=> ?_ | refine grd_dec (fun _=> ?_) fun _=> ?_ | refine egrd_dec (fun _=> ?_) fun _=> ?_))
  all_goals
   have hI:indS s st n=putS { s with opn:=s.opn++ [n] } 2 s.line []:=by
    unfold indS
    rw[hind]
    show(if n=n then _ else _)=_
    rw[if_pos rfl]
    simp only[List.reverse_cons,←hst]
    rfl
   exact⟨.slice (some ⟨b2,0,none⟩) (s.opn.length+1) c2,vt3,by rw[hI];exact h3⟩
 ·obtain⟨k,hk1,hk2,hk3,hk4,hk5⟩:=tw_spec (n:=n) hz
  have hind:indT s.line st n=(List.replicate k ⟨3,s.line,[]⟩,st.drop k):=by unfold indT;rw[if_neg hlt,hk1,hk5]
  have hlt' : ¬st.getD 0 0<n:=by cases st with
   | nil=>exact absurd hst0 (by simp)
   | cons a r=>exact fun g=>hlt (by simpa using g)
  have hk0:k=0∨0<k:=by omega
  repeat' (first | (simp (disch:=first | omega | (decide +kernel)) only[↓RD,RU,↓putF_get,↓evF_t,↓evF_c,getD_zero,getD_succ,pop,lop,↓reduceIte,Nat.reduceEqDiff,Int.reduceOfNat,reduceCtorEq,ρ5,ρ6,ρ29,hob,o3,hsub,hg0]) | (with_reducible first | refine condK_dec (fun _=> ?_) fun _=> ?_ | refine grd_dec (fun _=> ?_) fun _=> ?_ | refine egrd_dec (fun _=> ?_) fun _=> ?_))
  refine loop_w (fun q fr K1=>∃i vt1,q=k-i∧i≤k∧fr 4= .int .i64 ((st.length-1-i:Nat):Int)∧RdAt A K1 p src { s with out:=s.out++List.replicate i ⟨3,s.line,[]⟩ } (.slice (some ⟨b,0,none⟩) s.opn.length c) vt1 m) (n:=k) ⟨0,vt,rfl,by omega,by repeat' (first | (simp (disch:=first | omega | (decide +kernel)) only[↓putF_get,↓reduceIte,Nat.reduceEqDiff]) | (with_reducible first | refine condK_dec (fun _=> ?_) fun _=> ?_ | refine grd_dec (fun _=> ?_) fun _=> ?_ | refine egrd_dec (fun _=> ?_) fun _=> ?_)),by simpa using h⟩ ?_
  rintro q fr K1 ⟨i,vt1,rfl,hi,f4,h1⟩ hag
  have hob1:=h1.ob
  have hpl1:=h1.pl
  obtain⟨b',kd',c',os',e',q1,q2,q3,q4,q5,q6,q7,q8⟩:=h1.opn
  cases e'
  have q7':s.opn.length≤os'.length:=q7
  have q5':s.opn.length≤c:=q5
  have hbp:b≠p:=fun e=>by
   rw[e,hob1] at q3
   have:=(CObj.cells.inj q3).2.1
   revert this;decide
  have hgi:os'[st.length-1-i]? = some (.int .i64 (st.getD i 0:Nat)):=by
   rw[q8 _ (by show _<s.opn.length;omega)]
   show some (Value.int .i64 ((s.opn.getD (st.length-1-i) 0:Nat):Int))=_
   rw[hst]
   congr 3
   simp only[List.getD_eq_getElem?_getD]
   rw[List.getElem?_reverse (by omega)]
   congr 2;omega
  by_cases hik:i<k
  ·have hgt:=hk3 i hik
   repeat' (first | (simp (disch:=first | omega | (decide +kernel)) only[↓RD,RU,↓putF_get,↓evF_t,↓evF_c,getD_zero,getD_succ,pop,lop,ρ0,ρ1,↓reduceIte,Nat.reduceEqDiff,reduceCtorEq,ρ5,ρ6,ρ29,hag,hob1,q3,f4,hgi]) | (with_reducible first | refine condK_dec (fun _=> ?_) fun _=> ?_ | refine grd_dec (fun _=> ?_) fun _=> ?_ | refine egrd_dec (fun _=> ?_) fun _=> ?_))
   refine(put_wp h1 3 s.line [] (by simp;omega)).mono fun v2 K2 ⟨vt2,h2⟩=> ?_
   have hsub1:((st.length-1-i:Nat):Int)-1=((st.length-1-(i+1):Nat):Int):=by omega
   repeat' (first | (simp (disch:=first | omega | (decide +kernel)) only[↓RD,RU,↓putF_get,↓evF_t,↓evF_c,pop,↓reduceIte,Nat.reduceEqDiff,f4,hsub1]) | (with_reducible first | refine condK_dec (fun _=> ?_) fun _=> ?_ | refine grd_dec (fun _=> ?_) fun _=> ?_ | refine egrd_dec (fun _=> ?_) fun _=> ?_))
   all_goals exact⟨_,by omega,i+1,vt2,rfl,by omega,rfl,by
    have e:s.out++List.replicate (i+1) (⟨3,s.line,[]⟩:Tok)=(s.out++List.replicate i ⟨3,s.line,[]⟩)++ [⟨3,s.line,[]⟩]:=by rw[List.replicate_succ',List.append_assoc]
    rw[e];exact h2⟩
  ·have hik':i=k:=by omega
   subst hik'
   have hsv:= @sl_open b s.opn.length c (st.length-1-i) (by omega)
   have hok:=okSl_of (o:=0) (n:=s.opn.length) (c:=c) q3
   have hlen2:(st.drop i).reverse.length=st.length-1-i+1:=by simp;omega
   have hopn2:OpnAt A K1 (.slice (some ⟨b,0,none⟩) (st.length-1-i+1) c) (st.drop i).reverse:=⟨b,kd',c,os',by rw[hlen2],q1,q2,q3,q4,by omega,q6,by omega,fun j hj=>by
    rw[q8 j (by show j<s.opn.length;omega)]
    show some (Value.int .i64 ((s.opn.getD j 0:Nat):Int))=_
    rw[hst]
    congr 3
    simp only[List.getD_eq_getElem?_getD]
    rw[List.getElem?_reverse (by omega),List.getElem?_reverse (by simp;omega),List.getElem?_drop]
    congr 2
    simp;omega⟩
   obtain⟨h2,_⟩:=h1.opnv (ns:=(st.drop i).reverse) (by simp;omega) h1.E (Nat.le_refl _) hopn2 (fun _ _ _=>rfl)
   have hhd:(st.drop i).headD 0=st.getD i 0:=by
    rw[List.drop_eq_getElem_cons hk2]
    simp[List.getD,List.getElem?_eq_getElem hk2]
   by_cases hen:st.getD i 0=n
   ·have hI:indS s st n= { s with out:=s.out++List.replicate i ⟨3,s.line,[]⟩,opn:=(st.drop i).reverse }:=by
     unfold indS
     rw[hind]
     show(if (st.drop i).headD 0=n then _ else _)=_
     rw[if_pos (by rw[hhd];exact hen)]
    rw[hI]
    repeat' (first | (simp (disch:=first | omega | (decide +kernel)) only[↓RD,RU,↓putF_get,↓putF_none,↓evF_t,↓evF_c,set_get,getD_zero,getD_succ,pop,lop,wop,resL,isVal,isCell,Value.cells,↓reduceIte,Nat.reduceEqDiff,Nat.reduceAdd,reduceCtorEq,ρ5,ρ6,ρ7,ρ8,bnd,capV,ρ9,ρ10,ρ11,ρ17,ρ18,ρ19,ρ20,ρ22,ρ23,Kd.isRo,ρ25,ρ26,Nat.reduceLeDiff,ρ29,hag,hob1,q3,f4,hgi,hsv,hok,hbp]) | (with_reducible first | refine condK_dec (fun _=> ?_) fun _=> ?_ | refine grd_dec (fun _=> ?_) fun _=> ?_ | refine egrd_dec (fun _=> ?_) fun _=> ?_))
    all_goals exact⟨_,_,h2⟩
   ·have hI:indS s st n= { s with out:=s.out++List.replicate i ⟨3,s.line,[]⟩,opn:=(st.drop i).reverse,err:=21,wh:=s.line }:=by
     unfold indS
     rw[hind]
     show(if (st.drop i).headD 0=n then _ else _)=_
     rw[if_neg (by rw[hhd];exact hen)]
    rw[hI]
    repeat' (first | (simp (disch:=first | omega | (decide +kernel)) only[↓RD,RU,↓putF_get,↓putF_none,↓evF_t,↓evF_c,set_get,getD_zero,getD_succ,pop,lop,wop,isVal,isCell,Value.cells,ρ0,ρ1,↓reduceIte,Nat.reduceEqDiff,Nat.reduceAdd,reduceCtorEq,ρ5,ρ6,ρ7,ρ8,bnd,capV,ρ9,ρ10,ρ11,ρ17,ρ18,ρ19,ρ20,ρ22,ρ23,Kd.isRo,ρ25,ρ26,Nat.reduceLeDiff,ρ29,hag,hob1,q3,f4,hgi,hsv,hok,hbp]) | (with_reducible first | refine condK_dec (fun _=> ?_) fun _=> ?_ | refine grd_dec (fun _=> ?_) fun _=> ?_ | refine egrd_dec (fun _=> ?_) fun _=> ?_))
    all_goals
     refine(fail_wp0 h2 s.line 21 hln (by decide) h0).mono fun v3 K3 ⟨h3,_⟩=> ?_
     repeat' (first | (simp (disch:=first | omega | (decide +kernel)) only[↓RD,RU,resL]) | (with_reducible first | refine condK_dec (fun _=> ?_) fun _=> ?_ | refine grd_dec (fun _=> ?_) fun _=> ?_ | refine egrd_dec (fun _=> ?_) fun _=> ?_))
     all_goals exact⟨_,_,h3⟩
end Can
end Go.Proofs.YtdfgkcoenagaaaaGreat
end
section
namespace Go.Proofs.YtdfgkcoenagaaaaGreat
namespace Can
set_option linter.unusedSimpArgs false
set_option linter.unusedVariables false
def Nl (u:List UInt8):Prop:=u= []∨∃r,u=10::r
theorem Nl.hd{u:List UInt8}(h:Nl u):hd u=0∨hd u=10:=by
 rcases h with rfl | ⟨r,rfl⟩
 ·exact .inl rfl
 ·exact .inr rfl
theorem hd_app{t u:List UInt8}(h:Nl u):hd (t++u)=hd t∨(t= []∧hd (t++u)=10):=by
 cases t with
 | nil=>
   rcases h.hd with g | g
   ·exact .inl g
   ·exact .inr ⟨rfl,g⟩
 | cons c r=>exact .inl rfl
theorem p_app{α:Type}{p:Nat→α}{t u:List UInt8}(h:Nl u)(hp:p 10=p 0):p (hd (t++u))=p (hd t):=by
 rcases hd_app (t:=t) h with g | ⟨rfl,g⟩
 ·rw[g]
 ·rw[g,hp];rfl
theorem nW_app{p:Nat→Bool}(hp:p 10=false) : ∀ {t u:List UInt8},Nl u→nW p (t++u)=nW p t
 | [],u,h=>by
   rcases h with rfl | ⟨r,rfl⟩
   ·rfl
   ·show nW p (10::r)=0
    rw[nW,if_neg (by show ¬p 10=true;simp[hp])]
 | c::t,u,h=>by
   simp only[List.cons_append,nW]
   rw[nW_app hp h]
theorem drop_app{t u:List UInt8}{j:Nat}(h:j≤t.length):(t++u).drop j=t.drop j++u:=List.drop_append_of_le_length h
theorem digN_app{t u:List UInt8}(h:Nl u):digN (t++u)=digN t:=nW_app (by decide) h
theorem digN_len{t:List UInt8}:digN t≤t.length:=nW_le
theorem hd_ne{t:List UInt8}(h:hd t≠0):1≤t.length:=hd_pos h
theorem dig_len{t:List UInt8}{j:Nat}(h:isDigN (hd (t.drop j))=true):j+1≤t.length:=by
 have:hd (t.drop j)≠0:=fun e=>by rw[e] at h;cases h
 have:=hd_pos this
 simp at this;omega
theorem fracN_app{t u:List UInt8}(h:Nl u):fracN (t++u)=fracN t:=by
 unfold fracN
 by_cases c:hd t=46
 ·have hl:=hd_ne (t:=t) (by omega)
  have e1:hd (t++u)=46:=by
   rcases hd_app (t:=t) h with g | ⟨rfl,g⟩
   ·rw[g,c]
   ·cases c
  rw[drop_app hl,p_app (p:=isDigN) h (by decide),digN_app h,e1,c]
 ·have e1:hd (t++u)≠46:=by
   rcases hd_app (t:=t) h with g | ⟨rfl,g⟩
   ·rw[g];exact c
   ·rw[g];decide
  rw[if_neg (fun g=>e1 g.1),if_neg (fun g=>c g.1)]
theorem expN_app{t u:List UInt8}(h:Nl u):expN (t++u)=expN t:=by
 unfold expN
 by_cases c:hd t=101
 ·have hl:=hd_ne (t:=t) (by omega)
  have e1:hd (t++u)=101:=by
   rcases hd_app (t:=t) h with g | ⟨rfl,g⟩
   ·rw[g,c]
   ·cases c
  rw[if_pos e1,if_pos c,drop_app hl,p_app (p:=isDigN) h (by decide),digN_app h]
  have e2:(hd (t.drop 1++u)=43∨hd (t.drop 1++u)=45)↔(hd (t.drop 1)=43∨hd (t.drop 1)=45):=by
   exact decide_eq_decide.1 (p_app (p:=fun n=>decide (n=43∨n=45)) (t:=t.drop 1) h (by decide))
  by_cases c2:hd (t.drop 1)=43∨hd (t.drop 1)=45
  ·have hl2:2≤t.length:=by
    have:=hd_ne (t:=t.drop 1) (by omega)
    simp at this;omega
   rw[drop_app hl2,p_app (p:=isDigN) h (by decide),digN_app h]
   simp only[e2]
  ·by_cases cd:isDigN (hd (t.drop 1))=true
   ·rw[if_pos cd,if_pos cd]
   ·rw[if_neg cd,if_neg cd,if_neg (fun g=>c2 (e2.1 g.1)),if_neg (fun g=>c2 g.1)]
 ·have e1:hd (t++u)≠101:=by
   rcases hd_app (t:=t) h with g | ⟨rfl,g⟩
   ·rw[g];exact c
   ·rw[g];decide
  rw[if_neg e1,if_neg c]
theorem fracN_len{l:List UInt8}:fracN l≤l.length:=by
 unfold fracN
 split
 ·rename_i g
  have h1:=dig_len g.2
  have:=digN_len (t:=l.drop 1)
  simp only[List.length_drop] at this;omega
 ·omega
theorem expN_len{l:List UInt8}:expN l≤l.length:=by
 unfold expN
 have h1:=digN_len (t:=l.drop 1)
 have h2:=digN_len (t:=l.drop 2)
 simp only[List.length_drop] at h1 h2
 split
 ·split
  ·rename_i g;have:=dig_len g;omega
  ·split
   ·rename_i g;have:=dig_len g.2;omega
   ·omega
 ·omega
theorem numA_len{l:List UInt8}:numA l≤l.length:=by
 have h1:=digN_len (t:=l)
 have h2:=fracN_len (l:=l.drop (digN l))
 simp only[List.length_drop] at h2
 unfold numA;omega
theorem numN_len{l:List UInt8}:numN l≤l.length:=by
 have h1:=numA_len (l:=l)
 have h3:=expN_len (l:=l.drop (numA l))
 simp only[List.length_drop] at h3
 unfold numN;omega
theorem numA_app{t u:List UInt8}(h:Nl u):numA (t++u)=numA t:=by
 unfold numA
 rw[digN_app h,drop_app digN_len,fracN_app h]
theorem numN_app{t u:List UInt8}(h:Nl u):numN (t++u)=numN t:=by
 unfold numN
 rw[numA_app h,drop_app numA_len,expN_app h]
theorem numK_app{t u:List UInt8}(h:Nl u):numK (t++u)=numK t:=by
 unfold numK
 rw[digN_app h,numA_app h,drop_app digN_len,drop_app numA_len,fracN_app h,expN_app h]
theorem numBad_app{t u:List UInt8}(h:Nl u)(ht:0<t.length):numBad (t++u)=numBad t:=by
 unfold numBad
 rw[numN_app h,numK_app h,drop_app numN_len,p_app (p:=isLetN) h (by decide),p_app (p:=fun n=>decide (n=46)) h (by decide)]
 have:hd (t++u)=hd t:=by
  rcases hd_app (t:=t) h with g | ⟨rfl,_⟩
  ·exact g
  ·simp at ht
 rw[this]
theorem escN_app{t u:List UInt8}(h:Nl u):escN (t++u)=escN t:=by
 unfold escN
 by_cases c:hd t=120
 ·have hl:=hd_ne (t:=t) (by omega)
  have e1:hd (t++u)=120:=by
   rcases hd_app (t:=t) h with g | ⟨rfl,g⟩
   ·rw[g,c]
   ·cases c
  rw[if_pos e1,if_pos c,drop_app hl,p_app (p:=hexN) h (by decide)]
  by_cases c2:hexN (hd (t.drop 1))<16
  ·have hl2:2≤t.length:=by
    have:hd (t.drop 1)≠0:=fun e=>by rw[e] at c2;exact absurd c2 (by decide)
    have:=hd_ne this
    simp at this;omega
   rw[drop_app hl2,p_app (p:=hexN) h (by decide)]
  ·rw[if_neg (fun g=>c2 g.1),if_neg (fun g=>c2 g.1)]
 ·have e1:hd (t++u)≠120:=by
   rcases hd_app (t:=t) h with g | ⟨rfl,g⟩
   ·rw[g];exact c
   ·rw[g];decide
  rw[if_neg e1,if_neg c,p_app (p:=stdN) h (by decide)]
theorem escN_len{l:List UInt8}{b n:Nat}(h:escN l=some (b,n)):n≤l.length:=by
 unfold escN at h
 split at h
 ·split at h
  ·rename_i g
   cases h
   have h2:hd (l.drop 2)≠0:=fun e=>by have:=g.2;rw[e] at this;exact absurd this (by decide)
   have:=hd_pos h2
   simp at this;omega
  ·cases h
 ·split at h
  ·rename_i g1 g
   cases h
   have h0:hd l≠0:=fun e=>g (by rw[e];decide)
   exact hd_pos h0
  ·cases h
theorem strN_app{q:Nat}(hq:32≤q) : ∀ {f:Nat} {t u:List UInt8},Nl u→strN q f (t++u)=strN q f t
 | 0,_,_,_=>rfl
 | f+1,t,u,h=>by
   by_cases ht:t= []
   ·subst ht
    have:hd u=0∨hd u=10:=h.hd
    simp only[List.nil_append,strN]
    rw[if_neg (by omega),if_pos (by omega),if_neg (by show ¬(0=q);omega),if_pos (by show 0<32;decide)]
   ·have hl:1≤t.length:=by
     cases t with
     | nil=>exact absurd rfl ht
     | cons c r=>simp
    have he:hd (t++u)=hd t:=by
     rcases hd_app (t:=t) h with g | ⟨rfl,_⟩
     ·exact g
     ·exact absurd rfl ht
    simp only[strN]
    rw[he,drop_app hl,strN_app hq h,escN_app h]
    cases hes:escN (t.drop 1) with
    | none=>rfl
    | some x=>
      have:=escN_len hes
      simp only[List.length_drop] at this
      simp only
      rw[drop_app (by omega),strN_app hq h]
theorem strN_fuel'{q:Nat} : ∀ {f g:Nat} {l:List UInt8},l.length<f→l.length<g→strN q f l=strN q g l
 | 0,_,_,h,_=>absurd h (by omega)
 | _,0,_,_,h=>absurd h (by omega)
 | f+1,g+1,l,hf,hg=>by
   unfold strN
   by_cases c1:hd l=q
   ·rw[if_pos c1,if_pos c1]
   rw[if_neg c1,if_neg c1]
   by_cases c2:hd l<32
   ·rw[if_pos c2,if_pos c2]
   rw[if_neg c2,if_neg c2]
   have hl:0<l.length:=hd_pos (by omega)
   by_cases c3:hd l=92
   ·rw[if_neg (by simpa using c3),if_neg (by simpa using c3)]
    cases escN (l.drop 1) with
    | none=>rfl
    | some x=>
      simp only
      rw[strN_fuel' (f:=f) (g:=g) (by simp;omega) (by simp;omega)]
   ·rw[if_pos c3,if_pos c3,strN_fuel' (f:=f) (g:=g) (by simp;omega) (by simp;omega)]
theorem strT_app{q:Nat}(hq:32≤q){t u:List UInt8}(h:Nl u):strT q (t++u)=strT q t:=by
 unfold strT
 rw[strN_app hq h]
 exact strN_fuel' (by simp;omega) (by omega)
theorem take_app{t u:List UInt8}{n:Nat}(h:n≤t.length):(t++u).take n=t.take n:=List.take_append_of_le_length h
theorem take_mem{t u:List UInt8}(h:Nl u){n:Nat}{S:List (List UInt8)}(hS : ∀x∈S,x.length=n∧(10:UInt8)∉x):(t++u).take n∈S↔t.take n∈S:=by
 by_cases hl:n≤t.length
 ·rw[take_app hl]
 ·have e2:t.take n=t:=List.take_of_length_le (by omega)
  constructor
  ·intro hm
   obtain⟨h1,h2⟩:=hS _ hm
   rcases h with rfl | ⟨r,rfl⟩
   ·simp at h1;omega
   ·exact absurd (by
     rw[List.take_append,e2]
     refine List.mem_append_right _ ?_
     obtain⟨k,hk⟩ : ∃k,n-t.length=k+1:=⟨n-t.length-1,by omega⟩
     rw[hk];simp) h2
  ·intro hm
   have:=(hS _ hm).1
   simp at this;omega
theorem symN_app{t u:List UInt8}(h:Nl u):symN (t++u)=symN t:=by
 have h3 : ∀x∈S3,x.length=3∧(10:UInt8)∉x:=by decide
 have h2 : ∀x∈S2,x.length=2∧(10:UInt8)∉x:=by decide
 have h1:=p_app (p:=fun n=>decide (n∈S1.map UInt8.toNat)) (t:=t) h (by decide)
 have h1':=decide_eq_decide.1 h1
 unfold symN
 simp only[take_mem h h3,take_mem h h2,h1']
theorem symN_len{l:List UInt8}{n:Nat}(h:symN l=some n):n≤l.length∧0<n:=by
 have h3 : ∀x∈S3,x.length=3:=by decide
 have h2 : ∀x∈S2,x.length=2:=by decide
 unfold symN at h
 split at h
 ·rename_i g;cases h
  have:=h3 _ g
  simp at this;omega
 ·split at h
  ·rename_i g;cases h
   have:=h2 _ g
   simp at this;omega
  ·split at h
   ·rename_i g;cases h
    have:hd l≠0:=fun e=>by rw[e] at g;revert g;decide
    have:=hd_pos this
    omega
   ·cases h
theorem strN_len{q:Nat} : ∀ {f:Nat} {l x:List UInt8} {n:Nat},32≤q→strN q f l=some (x,n)→n≤l.length
 | 0,_,_,_,_,h=>by cases h
 | f+1,l,x,n,hq,h=>by
   simp only[strN] at h
   split at h
   ·rename_i c;cases h;exact hd_pos (by omega)
   ·split at h
    ·cases h
    ·rename_i c1 c2
     have hl:0<l.length:=hd_pos (by omega)
     split at h
     ·rw[Option.map_eq_some_iff] at h
      obtain⟨⟨y,k⟩,h1,h2⟩:=h
      cases h2
      have:=strN_len hq h1
      simp only[List.length_drop] at this
      show k+1≤_
      omega
     ·cases hes:escN (l.drop 1) with
      | none=>rw[hes] at h;cases h
      | some z=>
        obtain⟨b,e⟩:=z
        rw[hes] at h
        simp only at h
        rw[Option.map_eq_some_iff] at h
        obtain⟨⟨y,k⟩,h1,h2⟩:=h
        cases h2
        have h3:=strN_len hq h1
        have h4:=escN_len hes
        simp only[List.length_drop] at h3 h4
        show k+(1+e)≤_
        omega
theorem nWal_app{t u:List UInt8}(h:Nl u):nW isAlN (t++u)=nW isAlN t:=nW_app (by decide) h
theorem tokT_app{t u:List UInt8}(h:Nl u)(ht:0<t.length):tokT (t++u)=tokT t:=by
 have he:hd (t++u)=hd t:=by
  rcases hd_app (t:=t) h with g | ⟨rfl,_⟩
  ·exact g
  ·simp at ht
 unfold tokT
 rw[he,nWal_app h,take_app nW_le,numBad_app h ht,numK_app h,numN_app h,take_app numN_len,symN_app h,drop_app ht]
 by_cases c:hd t=39∨hd t=34
 ·rw[if_pos c,if_pos c,strT_app (by omega) h]
 ·rw[if_neg c,if_neg c]
  cases hs:symN t with
  | none=>rfl
  | some n=>
    simp only[Option.map_some]
    rw[take_app (symN_len hs).1]
theorem tokT_len{l:List UInt8}{k n:Nat}{x:List UInt8}(h:tokT l=some (k,x,n)):0<n∧n≤l.length:=by
 unfold tokT at h
 split at h
 ·rename_i g
  cases h
  have hl:0<l.length:=hd_pos fun e=>by rw[e] at g;cases g
  have:=nW_yes (p:=isAlN) (l:=l) (j:=0) hl (by simp[isAlN,g])
  simp only[List.drop_zero] at this
  exact⟨by omega,nW_le⟩
 ·split at h
  ·rename_i g
   split at h
   ·cases h
   ·cases h
    have hl:0<l.length:=hd_pos fun e=>by rw[e] at g;cases g
    have:=nW_yes (p:=isDigN) (l:=l) (j:=0) hl (by simpa using g)
    simp only[List.drop_zero] at this
    refine⟨?_,numN_len⟩
    unfold numN numA digN
    omega
  ·split at h
   ·rename_i g
    rw[Option.map_eq_some_iff] at h
    obtain⟨⟨y,m⟩,h1,h2⟩:=h
    cases h2
    have hl:0<l.length:=hd_pos (by omega)
    have:=strN_len (by omega) h1
    simp only[List.length_drop] at this
    show 0<m+1∧m+1≤_
    omega
   ·rw[Option.map_eq_some_iff] at h
    obtain⟨m,h1,h2⟩:=h
    cases h2
    have:=symN_len h1
    omega
theorem blkN_app{t u:List UInt8}(h:Nl u):blkN (t++u)=blkN t:=by
 unfold blkN
 rw[nW_app (by decide) h,drop_app nW_le,nW_app (p:=fun n=>decide (n≠10)) (by decide) h]
 have:=p_app (p:=fun n=>decide (n=35)) (t:=t.drop (nW (fun n=>decide (n=32)) t)) h (by decide)
 simp only[decide_eq_decide.1 this]
theorem blkN_len{t:List UInt8}:blkN t≤t.length:=by
 have h1:=nW_le (p:=fun n=>decide (n=32)) (l:=t)
 unfold blkN
 split
 ·have:=nW_le (p:=fun n=>decide (n≠10)) (l:=t.drop (nW (fun n=>decide (n=32)) t))
  simp only[List.length_drop] at this
  omega
 ·exact h1
end Can
end Go.Proofs.YtdfgkcoenagaaaaGreat
end
section
namespace Go.Proofs.YtdfgkcoenagaaaaGreat
namespace Can
open Go Go.RowKit
set_option linter.unusedSimpArgs false
set_option linter.unusedVariables false
set_option maxRecDepth 4000
theorem depT_le{d k:Nat}{x:List UInt8}:depT d k x≤d+1:=by
 unfold depT
 (repeat' split)<;>omega
theorem toks_len{line:Nat} : ∀ {f:Nat} {t:List UInt8} {d d':Nat} {x:List Tok},toks line f t d=some (x,d')→x.length≤t.length∧d'≤d+t.length
 | 0,_,_,_,_,h=>by cases h
 | f+1,t,d,d',x,h=>by
   simp only[toks] at h
   split at h
   ·cases h;simp
   ·rename_i hb
    cases ht:tokT (t.drop (blkN t)) with
    | none=>rw[ht] at h;cases h
    | some z=>
      obtain⟨k,y,n⟩:=z
      rw[ht] at h
      simp only at h
      rw[Option.map_eq_some_iff] at h
      obtain⟨⟨xs,e⟩,h1,h2⟩:=h
      cases h2
      obtain⟨g1,g2⟩:=toks_len h1
      have g3:=tokT_len ht
      have g4:= @depT_le d k y
      simp only[List.length_drop] at g1 g2 g3
      simp only[List.length_cons]
      omega
theorem indT_len{line n:Nat}{st:List Nat}:(indT line st n).1.length+(indT line st n).2.length≤st.length+2:=by
 unfold indT
 split
 ·simp;omega
 ·have h1:(st.takeWhile fun x=>decide (n<x)).length+(st.dropWhile fun x=>decide (n<x)).length=st.length:=by
   rw[←List.length_append,List.takeWhile_append_dropWhile]
  simp only[List.length_replicate]
  omega
def RowOut(A K:CH)(p:Nat)(src:List UInt8)(s:RS)(m:Nat)(t:List UInt8)(r:Except Nat (List Tok×Nat×List Nat)):Prop:=match r with
 | .ok (x,d',st')=>∃vo' vt',RdAt A K p src { s with pos:=s.pos+t.length,dep:=d',opn:=st'.reverse,out:=s.out++x } vo' vt' m
 | .error e=>∃vo' vt' s',RdAt A K p src s' vo' vt' m∧s'.err=e∧s'.wh=s.line
structure RwB(s:RS)(t:List UInt8)(j f d:Nat)(ts:List Tok):Prop where
 tk:toks s.line (t.length+1) t s.dep=(toks s.line f (t.drop j) d).map fun y=>(ts++y.1,y.2)
 fu:t.length-j<f
 fl:f≤t.length+1
 jl:j≤t.length
 dl:d≤s.dep+j
 tl:ts.length≤j
def rwS (s:RS)(ins:List Tok)(op1:List Nat)(j d:Nat)(ts:List Tok):RS:= { s with pos:=s.pos+j,dep:=d,opn:=op1,out:=s.out++ins++ts }
theorem RwB.step{s:RS}{t:List UInt8}{j f d:Nat}{ts:List Tok}(h:RwB s t j f d ts)(hlt : ¬(t.drop j).length≤blkN (t.drop j)){k n:Nat}{x:List UInt8}(ht:tokT (t.drop (j+blkN (t.drop j)))=some (k,x,n)) :
 ∃f',f'<f∧RwB s t (j+blkN (t.drop j)+n) f' (depT d k x) (ts++ [⟨k,s.line,x⟩]):=by
 obtain⟨f',rfl⟩ : ∃f',f=f'+1:=⟨f-1,by have:=h.fu;omega⟩
 have g3:=tokT_len ht
 simp only[List.length_drop] at g3 hlt
 have hjl:=h.jl
 have hfu:=h.fu
 have hfl:=h.fl
 have hdl:=h.dl
 have htl:=h.tl
 have hd:= @depT_le d k x
 refine⟨f',Nat.lt_succ_self _,⟨?_,by omega,by omega,by omega,by omega,by simp;omega⟩⟩
 rw[h.tk]
 simp only[toks]
 rw[if_neg (by simp;omega),List.drop_drop,ht]
 simp only[List.drop_drop,←Nat.add_assoc]
 cases toks s.line f' (t.drop (j+blkN (t.drop j)+n)) (depT d k x) with
 | none=>rfl
 | some y=>simp
theorem RwB.bad{s:RS}{t:List UInt8}{j f d:Nat}{ts:List Tok}(h:RwB s t j f d ts)(hlt : ¬(t.drop j).length≤blkN (t.drop j))(ht:tokT (t.drop (j+blkN (t.drop j)))=none):toks s.line (t.length+1) t s.dep=none:=by
 obtain⟨f',rfl⟩ : ∃f',f=f'+1:=⟨f-1,by have:=h.fu;omega⟩
 rw[h.tk]
 simp only[toks]
 rw[if_neg hlt,List.drop_drop,ht]
 rfl
theorem RwB.fin{s:RS}{t:List UInt8}{j f d:Nat}{ts:List Tok}(h:RwB s t j f d ts)(hlt:(t.drop j).length≤blkN (t.drop j)):toks s.line (t.length+1) t s.dep=some (ts,d):=by
 obtain⟨f',rfl⟩ : ∃f',f=f'+1:=⟨f-1,by have:=h.fu;omega⟩
 rw[h.tk]
 simp only[toks]
 rw[if_pos hlt]
 simp
def insT (s:RS)(st:List Nat)(t:List UInt8):List Tok:=if s.dep=0 then (indT s.line st (blkN t)).1 else []
def lopT (s:RS)(st:List Nat)(t:List UInt8):List Nat:=if s.dep=0 then (indT s.line st (blkN t)).2 else st
theorem rw_step{s:RS}{ins:List Tok}{op1:List Nat}{j a n d:Nat}{ts:List Tok}{k:Nat}{x:List UInt8}:putS { atS (rwS s ins op1 (j+a) d ts) n with dep:=depT d k x } k s.line x=rwS s ins op1 (j+a+n) (depT d k x) (ts++ [⟨k,s.line,x⟩]):=by
 simp only[putS,atS,rwS,RS.mk.injEq,List.append_assoc,and_true,true_and]
 omega
def RwI (A:CH)(p:Nat)(src:List UInt8)(s:RS)(m:Nat)(st:List Nat)(t:List UInt8)(n:Nat)(v4:Value)(K1:CH):Prop:=(n=t.length+3∧v4= .bool false∧∃vo vt,RdAt A K1 p src s vo vt m)∨
    (¬t.length≤blkN t∧¬(s.dep=0∧(indT s.line st (blkN t)).2.headD 0≠blkN t)∧v4= .bool true∧
      ((∃j f d ts vo1 vt1,n=f+1∧RwB s t j f d ts∧RdAt A K1 p src (rwS s (insT s st t) (lopT s st t).reverse j d ts) vo1 vt1 m)∨
       (∃s' vo1 vt1,n=0∧toks s.line (t.length+1) t s.dep=none∧RdAt A K1 p src s' vo1 vt1 m∧s'.err=20∧s'.wh=s.line∧s'.out.length+s'.opn.length<400000∧s'.line≤100000)))
theorem rwI_tok{A K:CH}{p:Nat}{src:List UInt8}{s:RS}{m:Nat}{st:List Nat}{t:List UInt8}{j f d:Nat}{ts:List Tok}{vo:Value}(hne : ¬t.length≤blkN t)(hok : ¬(s.dep=0∧(indT s.line st (blkN t)).2.headD 0≠blkN t))(hB:RwB s t j f d ts)(hlt:j+blkN (t.drop j)<t.length)(hln:s.line≤100000)(hsl:src.length≤20000)(hb:s.out.length+s.opn.length<200000)(hins:(insT s st t).length+(lopT s st t).length≤s.opn.length+2)(hjt:t.length≤20000)
 (h:TokOut A K p src (rwS s (insT s st t) (lopT s st t).reverse (j+blkN (t.drop j)) d ts) vo m (tokT (t.drop (j+blkN (t.drop j))))) : ∃n,n<f+1∧RwI A p src s m st t n (.bool true) K:=by
 have hlt' : ¬(t.drop j).length≤blkN (t.drop j):=by simp;omega
 have htl:=hB.tl
 have hjl:=hB.jl
 cases htk:tokT (t.drop (j+blkN (t.drop j))) with
 | none=>
   rw[htk] at h
   obtain⟨vt',s',h1,h2,h3,h4,h5,h6,h7,h8,h9⟩:=h
   refine⟨0,by omega, .inr ⟨hne,hok,rfl, .inr ⟨s',vo,vt',rfl,hB.bad hlt' htk,h1,h2,h3,?_,by rw[h9];exact hln⟩⟩⟩
   rw[h5]
   simp only[rwS,List.length_append,List.length_reverse] at h6⊢
   omega
 | some z=>
   obtain⟨k,x,n⟩:=z
   rw[htk] at h
   obtain⟨vt',h1⟩:=h
   obtain⟨f',hf,hB'⟩:=hB.step hlt' htk
   have h2:RdAt A K p src (rwS s (insT s st t) (lopT s st t).reverse (j+blkN (t.drop j)+n) (depT d k x) (ts++ [⟨k,s.line,x⟩])) vo vt' m:=by
    rw[←rw_step];exact h1
   exact⟨f'+1,by omega, .inr ⟨hne,hok,rfl, .inl ⟨_,f',_,_,vo,vt',rfl,hB',h2⟩⟩⟩
set_option maxHeartbeats 1000000 in
theorem row_wp{A K:CH}{p:Nat}{src:List UInt8}{s:RS}{vo vt:Value}{m:Nat}(h:RdAt A K p src s vo vt m){st:List Nat}(hst:s.opn=st.reverse)(hz:st.getLast? = some 0)(h0:s.err=0){t u:List UInt8}(htu:src.drop s.pos=t++u)(hu:Nl u)(hnt : ∀x∈t,x.toNat≠10)(hps:s.pos≤src.length)(hb:s.out.length+s.opn.length<200000)(hdp:s.dep<50000) :
 WpF (tblG Tryz.prog LG GG) 18 [.pointer (some ⟨p,0,none⟩)] K fun v K'=>RowOut A K' p src s m t (rowT s.line t s.dep st):=by
 have hsl:=h.sl
 have hob:=h.ob
 have hpl:=h.pl
 have hln:=h.bd.line
 have hlen:src.length=s.pos+t.length+u.length:=by
  have:=congrArg List.length htu
  simp at this;omega
 have hdr : ∀q,q≤t.length→src.drop (s.pos+q)=t.drop q++u:=fun q hq=>by rw[←List.drop_drop,htu,drop_app hq]
 have hin : ∀q,q<t.length→∃c,src[s.pos+q]? = some c∧c.toNat≠10:=fun q hq=>by
  refine⟨t[q],?_,hnt _ (List.getElem_mem hq)⟩
  have:=congrArg (·[q]?) htu
  simp only[List.getElem?_drop] at this
  rw[this,List.getElem?_append_left hq,List.getElem?_eq_getElem hq]
 have hout:src.length≤s.pos+t.length∨src[s.pos+t.length]? = some 10:=by
  rcases hu with rfl | ⟨r,rfl⟩
  ·left;simp at hlen;omega
  ·right
   have:=congrArg (·[t.length]?) htu
   simp only[List.getElem?_drop] at this
   rw[this,List.getElem?_append_right (Nat.le_refl _)];simp
 have hil:= @indT_len s.line (blkN t) st
 have hstl:s.opn.length=st.length:=by rw[hst];simp
 have hins:(insT s st t).length+(lopT s st t).length≤st.length+2:=by
  unfold insT lopT
  split
  ·exact hil
  ·simp
 refine wpF_rG (by rfl) (by kernel_rfl) ?_;(conv in (rF _ _).body=>reduce);(conv in (rF _ _).res=>reduce)
 repeat' (first | (simp (disch:=first | omega | (decide +kernel)) only[↓RD,RU,↓putF_get,↓evF_t,↓evF_c,getD_zero,pop,lop,↓reduceIte,Int.reduceOfNat,reduceCtorEq,ρ5,ρ6,hob]) | (with_reducible first | refine condK_dec (fun _=> ?_) fun _=> ?_ | refine grd_dec (fun _=> ?_) fun _=> ?_ | refine egrd_dec (fun _=> ?_) fun _=> ?_))
 refine loop_w (fun n fr K1=>RwI A p src s m st t n (fr 4) K1) (n:=t.length+3) (.inl ⟨rfl,by repeat' (first | (simp (disch:=first | omega | (decide +kernel)) only[↓putF_get,↓reduceIte]) | (with_reducible first | refine condK_dec (fun _=> ?_) fun _=> ?_ | refine grd_dec (fun _=> ?_) fun _=> ?_ | refine egrd_dec (fun _=> ?_) fun _=> ?_)),vo,vt,h⟩) ?_
 rintro n fr K1 hI hag
 obtain⟨v4,f4⟩ : ∃v,fr 4=v:=⟨_,rfl⟩
 rw[f4] at hI
 rcases hI with ⟨rfl,rfl,vo1,vt1,h1⟩ | ⟨hne,hok,rfl,(⟨j,f,d,ts,vo1,vt1,rfl,hB,h1⟩ | ⟨s',vo1,vt1,rfl,hno,h1,he',hw',hb',hl'⟩)⟩
 ·have hob1:=h1.ob
  have hpl1:=h1.pl
  repeat' (first | (simp (disch:=first | omega | (decide +kernel)) only[↓RD,RU,↓putF_get,↓evF_t,↓evF_c,getD_zero,pop,lop,ρ0,ρ1,↓reduceIte,reduceCtorEq,ρ5,ρ6,hag,hob1,h0]) | (with_reducible first | refine condK_dec (fun _=> ?_) fun _=> ?_ | refine grd_dec (fun _=> ?_) fun _=> ?_ | refine egrd_dec (fun _=> ?_) fun _=> ?_))
  refine(blank_wp h1 (by omega)).mono fun v2 K2 h2=> ?_
  have hd0:=hdr 0 (by omega)
  simp only[Nat.add_zero,List.drop_zero] at hd0
  rw[hd0,blkN_app hu] at h2
  obtain⟨a,ha⟩ : ∃a,blkN t=a:=⟨_,rfl⟩
  have hal:=blkN_len (t:=t)
  rw[ha] at h2 hal
  have hob2:=h2.ob
  have hpl2:=h2.pl
  have hpd2:(atS s a).pos=s.pos+a:=rfl
  have hdd2:(atS s a).dep=s.dep:=rfl
  by_cases hle:t.length≤a
  ·have hae:a=t.length:=by omega
   subst hae
   have hr:rowT s.line t s.dep st= .ok ([],s.dep,st):=by unfold rowT;rw[if_pos (by omega)]
   have hfin:RowOut A K2 p src s m t (rowT s.line t s.dep st):=by
    rw[hr]
    refine⟨vo1,vt1,?_⟩
    rw[←hst,List.append_nil]
    exact h2
   rcases hout with g | g
   ·repeat' (first | (simp (disch:=first | omega | (decide +kernel)) only[↓RD,RU,↓putF_get,↓evF_t,↓evF_c,getD_zero,pop,lop,resL,↓reduceIte,Nat.reduceEqDiff,reduceCtorEq,ρ5,ρ6,ρ28,hag,hob2,hpd2,hdd2,str_size,f4]) | (with_reducible first | refine condK_dec (fun _=> ?_) fun _=> ?_ | refine grd_dec (fun _=> ?_) fun _=> ?_ | refine egrd_dec (fun _=> ?_) fun _=> ?_))
    all_goals exact hfin
   ·repeat' (first | (simp (disch:=first | omega | (decide +kernel)) only[↓RD,RU,↓putF_get,↓evF_t,↓evF_c,getD_zero,pop,lop,resL,ρ4,↓reduceIte,Nat.reduceEqDiff,reduceCtorEq,ρ5,ρ6,ρ28,ρ29,hag,hob2,hpd2,hdd2,str_size,str_get,g,f4]) | (with_reducible first | refine condK_dec (fun _=> ?_) fun _=> ?_ | refine grd_dec (fun _=> ?_) fun _=> ?_ | refine egrd_dec (fun _=> ?_) fun _=> ?_))
    all_goals exact hfin
  ·obtain⟨c,hc,hc10⟩:=hin a (by omega)
   have hle' : ¬t.length≤blkN t:=by rw[ha];exact hle
   have hB0:RwB s t 0 (t.length+1) s.dep []:=⟨by
    simp only[List.drop_zero,List.nil_append]
    cases toks s.line (t.length+1) t s.dep<;>rfl,by omega,by omega,by omega,by omega,by simp⟩
   have hb0:blkN (t.drop 0)=a:=by simpa using ha
   have hsubp:((s.pos+a:Nat):Int)-(s.pos:Int)=(a:Int):=by omega
   by_cases hdz:s.dep=0
   ·repeat' (first | (simp (disch:=first | omega | (decide +kernel)) only[↓RD,RU,↓putF_get,↓evF_t,↓evF_c,getD_zero,u_not,pop,lop,ρ0,ρ1,ρ3,ρ4,↓reduceIte,Nat.reduceEqDiff,reduceCtorEq,ρ5,ρ6,ρ28,ρ29,hag,hob2,hpd2,str_size,str_get,hc,f4,hsubp]) | (with_reducible first | refine condK_dec (fun _=> ?_) fun _=> ?_ | refine grd_dec (fun _=> ?_) fun _=> ?_ | refine egrd_dec (fun _=> ?_) fun _=> ?_))
    refine(indent_wp (s:=atS s a) h2 (st:=st) hst hz a (by omega) h0 (by show s.out.length+s.opn.length<_;omega)).mono fun v3 K3 ⟨vo3,vt3,h3⟩=> ?_
    have hei:insT s st t=(indT s.line st a).1:=by unfold insT;rw[if_pos hdz,ha]
    have heo:lopT s st t=(indT s.line st a).2:=by unfold lopT;rw[if_pos hdz,ha]
    by_cases hhead:(indT s.line st a).2.headD 0=a
    ·have e:indS (atS s a) st a=rwS s (insT s st t) (lopT s st t).reverse a s.dep []:=by
      unfold indS
      rw[if_pos (show(indT (atS s a).line st a).2.headD 0=a from hhead),hei,heo]
      simp[rwS,atS]
     rw[e] at h3
     have hob3:=h3.ob
     have hpl3:=h3.pl
     have he3:(rwS s (insT s st t) (lopT s st t).reverse a s.dep []).err=0:=h0
     repeat' (first | (simp (disch:=first | omega | (decide +kernel)) only[↓RD,RU,↓putF_get,↓evF_t,↓evF_c,getD_zero,pop,lop,ρ0,ρ1,↓reduceIte,reduceCtorEq,ρ5,ρ6,hag,hob3,he3]) | (with_reducible first | refine condK_dec (fun _=> ?_) fun _=> ?_ | refine grd_dec (fun _=> ?_) fun _=> ?_ | refine egrd_dec (fun _=> ?_) fun _=> ?_))
     refine(token_wp h3 (by show s.pos+a<_;omega) h0 (by simp only[rwS,List.length_append,List.length_reverse,List.length_nil];omega) (by show s.dep<100000;omega)).mono fun v5 K5 h5=> ?_
     have hdt:src.drop (rwS s (insT s st t) (lopT s st t).reverse a s.dep []).pos=t.drop (a)++u:=hdr _ (by omega)
     rw[hdt,tokT_app hu (by simp;omega)] at h5
     repeat' (first | (simp (disch:=first | omega | (decide +kernel)) only[↓RD,↓putF_get,↓reduceIte,Nat.reduceEqDiff]) | (with_reducible first | refine condK_dec (fun _=> ?_) fun _=> ?_ | refine grd_dec (fun _=> ?_) fun _=> ?_ | refine egrd_dec (fun _=> ?_) fun _=> ?_))
     all_goals
      have hq:=rwI_tok (A:=A) (K:=K5) (p:=p) (src:=src) (m:=m) (st:=st) (vo:=vo3) hle' (fun g=>g.2 (by rw[ha];exact hhead)) hB0 (by rw[hb0];omega) hln hsl hb (by omega) (by omega) (by rw[show 0+blkN (t.drop 0)=a by omega];exact h5)
      obtain⟨q,hq1,hq2⟩:=hq
      exact⟨q,by omega,hq2⟩
    ·have e:indS (atS s a) st a= { atS s a with out:=s.out++(indT s.line st a).1,opn:=(indT s.line st a).2.reverse,err:=21,wh:=s.line }:=by
      unfold indS
      rw[if_neg (show ¬(indT (atS s a).line st a).2.headD 0=a from hhead)]
      rfl
     rw[e] at h3
     have hob3:=h3.ob
     have hpl3:=h3.pl
     have hr:rowT s.line t s.dep st= .error 21:=by
      unfold rowT
      rw[if_neg hle',if_pos ⟨hdz,by rw[ha];exact hhead⟩]
     rw[hr]
     repeat' (first | (simp (disch:=first | omega | (decide +kernel)) only[↓RD,RU,↓putF_get,↓evF_t,↓evF_c,getD_zero,pop,lop,resL,↓reduceIte,reduceCtorEq,ρ5,ρ6,hag,hob3]) | (with_reducible first | refine condK_dec (fun _=> ?_) fun _=> ?_ | refine grd_dec (fun _=> ?_) fun _=> ?_ | refine egrd_dec (fun _=> ?_) fun _=> ?_))
     all_goals exact⟨vo3,vt3,_,h3,rfl,rfl⟩
   ·have e:atS s a=rwS s (insT s st t) (lopT s st t).reverse a s.dep []:=by
     unfold insT lopT
     rw[if_neg hdz,if_neg hdz,←hst]
     simp[rwS,atS]
    rw[e] at h2
    repeat' (first | (simp (disch:=first | omega | (decide +kernel)) only[↓RD,RU,↓putF_get,↓evF_t,↓evF_c,getD_zero,u_not,pop,lop,ρ0,ρ1,ρ2,ρ3,ρ4,↓reduceIte,Nat.reduceEqDiff,reduceCtorEq,ρ5,ρ6,ρ28,ρ29,hag,hob2,hpd2,str_size,str_get,hc,f4]) | (with_reducible first | refine condK_dec (fun _=> ?_) fun _=> ?_ | refine grd_dec (fun _=> ?_) fun _=> ?_ | refine egrd_dec (fun _=> ?_) fun _=> ?_))
    refine(token_wp h2 (by show s.pos+a<_;omega) h0 (by simp only[rwS,List.length_append,List.length_reverse,List.length_nil];omega) (by show s.dep<100000;omega)).mono fun v5 K5 h5=> ?_
    have hdt:src.drop (rwS s (insT s st t) (lopT s st t).reverse a s.dep []).pos=t.drop (a)++u:=hdr _ (by omega)
    rw[hdt,tokT_app hu (by simp;omega)] at h5
    repeat' (first | (simp (disch:=first | omega | (decide +kernel)) only[↓RD,↓putF_get,↓reduceIte,Nat.reduceEqDiff]) | (with_reducible first | refine condK_dec (fun _=> ?_) fun _=> ?_ | refine grd_dec (fun _=> ?_) fun _=> ?_ | refine egrd_dec (fun _=> ?_) fun _=> ?_))
    all_goals
     have hq:=rwI_tok (A:=A) (K:=K5) (p:=p) (src:=src) (m:=m) (st:=st) (vo:=vo1) hle' (fun g=>hdz g.1) hB0 (by rw[hb0];omega) hln hsl hb (by omega) (by omega) (by rw[show 0+blkN (t.drop 0)=a by omega];exact h5)
     obtain⟨q,hq1,hq2⟩:=hq
     exact⟨q,by omega,hq2⟩
 ·have hob1:=h1.ob
  have hpl1:=h1.pl
  have he1:(rwS s (insT s st t) (lopT s st t).reverse j d ts).err=0:=h0
  have hjl:=hB.jl
  have hdl:=hB.dl
  have htl:=hB.tl
  repeat' (first | (simp (disch:=first | omega | (decide +kernel)) only[↓RD,RU,↓putF_get,↓evF_t,↓evF_c,getD_zero,pop,lop,ρ0,ρ1,↓reduceIte,reduceCtorEq,ρ5,ρ6,hag,hob1,he1]) | (with_reducible first | refine condK_dec (fun _=> ?_) fun _=> ?_ | refine grd_dec (fun _=> ?_) fun _=> ?_ | refine egrd_dec (fun _=> ?_) fun _=> ?_))
  refine(blank_wp h1 (by show s.pos+j≤_;omega)).mono fun v2 K2 h2=> ?_
  have hd0:src.drop (rwS s (insT s st t) (lopT s st t).reverse j d ts).pos=t.drop j++u:=hdr j hjl
  rw[hd0,blkN_app hu] at h2
  obtain⟨a,ha⟩ : ∃a,blkN (t.drop j)=a:=⟨_,rfl⟩
  have hal:=blkN_len (t:=t.drop j)
  simp only[List.length_drop] at hal
  rw[ha] at h2 hal
  have e:atS (rwS s (insT s st t) (lopT s st t).reverse j d ts) a=rwS s (insT s st t) (lopT s st t).reverse (j+a) d ts:=by
   simp only[atS,rwS,RS.mk.injEq,and_true,true_and];omega
  rw[e] at h2
  have hob2:=h2.ob
  have hpl2:=h2.pl
  have hpd2:(rwS s (insT s st t) (lopT s st t).reverse (j+a) d ts).pos=s.pos+(j+a):=rfl
  have hdd2:(rwS s (insT s st t) (lopT s st t).reverse (j+a) d ts).dep=d:=rfl
  have hll2:(rwS s (insT s st t) (lopT s st t).reverse (j+a) d ts).line=s.line:=rfl
  by_cases hle:t.length≤j+a
  ·have hae:j+a=t.length:=by omega
   have htoks:=hB.fin (by rw[ha];simp;omega)
   have hr:rowT s.line t s.dep st= .ok (insT s st t++ts++(if d=0 then [⟨1,s.line,[]⟩] else []),d,lopT s st t):=by
    unfold rowT
    rw[if_neg hne,if_neg hok,htoks]
    rfl
   rw[hr]
   rw[hae] at h2 hob2 hpd2 hdd2 hll2
   by_cases hdz:d=0
   ·have hfin : ∀K3 vt3,RdAt A K3 p src (putS (rwS s (insT s st t) (lopT s st t).reverse t.length d ts) 1 s.line []) vo1 vt3 m→RowOut A K3 p src s m t (.ok (insT s st t++ts++ [⟨1,s.line,[]⟩],d,lopT s st t)):=fun K3 vt3 g=>by
     refine⟨vo1,vt3,?_⟩
     have:(putS (rwS s (insT s st t) (lopT s st t).reverse t.length d ts) 1 s.line [])= { s with pos:=s.pos+t.length,dep:=d,opn:=(lopT s st t).reverse,out:=s.out++(insT s st t++ts++ [⟨1,s.line,[]⟩]) }:=by simp[putS,rwS]
     rw[←this];exact g
    rw[if_pos hdz]
    rcases hout with g | g
    ·repeat' (first | (simp (disch:=first | omega | (decide +kernel)) only[↓RD,RU,↓putF_get,↓evF_t,↓evF_c,getD_zero,pop,lop,ρ0,ρ1,↓reduceIte,Nat.reduceEqDiff,reduceCtorEq,ρ5,ρ6,ρ28,hag,hob2,hpd2,hdd2,hll2,str_size,f4]) | (with_reducible first | refine condK_dec (fun _=> ?_) fun _=> ?_ | refine grd_dec (fun _=> ?_) fun _=> ?_ | refine egrd_dec (fun _=> ?_) fun _=> ?_))
     all_goals
      refine(put_wp h2 1 s.line [] (by simp only[rwS,List.length_append,List.length_reverse,List.length_nil];omega)).mono fun v5 K5 ⟨vt5,h5⟩=> ?_
      repeat' (first | (simp (disch:=first | omega | (decide +kernel)) only[↓RD,RU,resL]) | (with_reducible first | refine condK_dec (fun _=> ?_) fun _=> ?_ | refine grd_dec (fun _=> ?_) fun _=> ?_ | refine egrd_dec (fun _=> ?_) fun _=> ?_))
      all_goals exact hfin _ _ h5
    ·repeat' (first | (simp (disch:=first | omega | (decide +kernel)) only[↓RD,RU,↓putF_get,↓evF_t,↓evF_c,getD_zero,pop,lop,ρ0,ρ1,ρ4,↓reduceIte,Nat.reduceEqDiff,reduceCtorEq,ρ5,ρ6,ρ28,ρ29,hag,hob2,hpd2,hdd2,hll2,str_size,str_get,g,f4]) | (with_reducible first | refine condK_dec (fun _=> ?_) fun _=> ?_ | refine grd_dec (fun _=> ?_) fun _=> ?_ | refine egrd_dec (fun _=> ?_) fun _=> ?_))
     all_goals
      refine(put_wp h2 1 s.line [] (by simp only[rwS,List.length_append,List.length_reverse,List.length_nil];omega)).mono fun v5 K5 ⟨vt5,h5⟩=> ?_
      repeat' (first | (simp (disch:=first | omega | (decide +kernel)) only[↓RD,RU,resL]) | (with_reducible first | refine condK_dec (fun _=> ?_) fun _=> ?_ | refine grd_dec (fun _=> ?_) fun _=> ?_ | refine egrd_dec (fun _=> ?_) fun _=> ?_))
      all_goals exact hfin _ _ h5
   ·rw[if_neg hdz,List.append_nil]
    have hfin:RowOut A K2 p src s m t (.ok (insT s st t++ts,d,lopT s st t)):=by
     refine⟨vo1,vt1,?_⟩
     rw[←List.append_assoc]
     exact h2
    rcases hout with g | g
    ·repeat' (first | (simp (disch:=first | omega | (decide +kernel)) only[↓RD,RU,↓putF_get,↓evF_t,↓evF_c,getD_zero,pop,lop,resL,↓reduceIte,Nat.reduceEqDiff,reduceCtorEq,ρ5,ρ6,ρ28,hag,hob2,hpd2,hdd2,str_size]) | (with_reducible first | refine condK_dec (fun _=> ?_) fun _=> ?_ | refine grd_dec (fun _=> ?_) fun _=> ?_ | refine egrd_dec (fun _=> ?_) fun _=> ?_))
     all_goals exact hfin
    ·repeat' (first | (simp (disch:=first | omega | (decide +kernel)) only[↓RD,RU,↓putF_get,↓evF_t,↓evF_c,getD_zero,pop,lop,resL,ρ4,↓reduceIte,Nat.reduceEqDiff,reduceCtorEq,ρ5,ρ6,ρ28,ρ29,hag,hob2,hpd2,hdd2,str_size,str_get,g]) | (with_reducible first | refine condK_dec (fun _=> ?_) fun _=> ?_ | refine grd_dec (fun _=> ?_) fun _=> ?_ | refine egrd_dec (fun _=> ?_) fun _=> ?_))
     all_goals exact hfin
  ·obtain⟨c,hc,hc10⟩:=hin (j+a) (by omega)
   repeat' (first | (simp (disch:=first | omega | (decide +kernel)) only[↓RD,RU,↓putF_get,↓evF_t,↓evF_c,getD_zero,u_not,pop,lop,ρ0,ρ1,ρ2,ρ4,↓reduceIte,Nat.reduceEqDiff,reduceCtorEq,ρ5,ρ6,ρ28,ρ29,hag,hob2,hpd2,str_size,str_get,hc,f4]) | (with_reducible first | refine condK_dec (fun _=> ?_) fun _=> ?_ | refine grd_dec (fun _=> ?_) fun _=> ?_ | refine egrd_dec (fun _=> ?_) fun _=> ?_))
   refine(token_wp h2 (by show s.pos+(j+a)<_;omega) h0 (by simp only[rwS,List.length_append,List.length_reverse,List.length_nil];omega) (by show d<100000;omega)).mono fun v5 K5 h5=> ?_
   have hdt:src.drop (rwS s (insT s st t) (lopT s st t).reverse (j+a) d ts).pos=t.drop (j+a)++u:=hdr _ (by omega)
   rw[hdt,tokT_app hu (by simp;omega)] at h5
   repeat' (first | (simp (disch:=first | omega | (decide +kernel)) only[↓RD,↓putF_get,↓reduceIte,Nat.reduceEqDiff]) | (with_reducible first | refine condK_dec (fun _=> ?_) fun _=> ?_ | refine grd_dec (fun _=> ?_) fun _=> ?_ | refine egrd_dec (fun _=> ?_) fun _=> ?_))
   all_goals
    have hq:=rwI_tok (A:=A) (K:=K5) (p:=p) (src:=src) (m:=m) (st:=st) (vo:=vo1) hne hok hB (by rw[ha];omega) hln hsl hb (by omega) (by omega) (by rw[ha];exact h5)
    obtain⟨q,hq1,hq2⟩:=hq
    exact⟨q,by omega,hq2⟩
 ·have hob1:=h1.ob
  have hpl1:=h1.pl
  have hr:rowT s.line t s.dep st= .error 20:=by
   unfold rowT
   rw[if_neg hne,if_neg hok,hno]
  rw[hr]
  by_cases hdz:s'.dep=0
  ·repeat' (first | (simp (disch:=first | omega | (decide +kernel)) only[↓RD,RU,↓putF_get,↓evF_t,↓evF_c,getD_zero,pop,lop,ρ0,ρ1,↓reduceIte,Nat.reduceEqDiff,reduceCtorEq,ρ5,ρ6,hag,hob1,he',f4]) | (with_reducible first | refine condK_dec (fun _=> ?_) fun _=> ?_ | refine grd_dec (fun _=> ?_) fun _=> ?_ | refine egrd_dec (fun _=> ?_) fun _=> ?_))
   all_goals
    refine(put_wp h1 1 s'.line [] (by omega)).mono fun v5 K5 ⟨vt5,h5⟩=> ?_
    repeat' (first | (simp (disch:=first | omega | (decide +kernel)) only[↓RD,RU,resL]) | (with_reducible first | refine condK_dec (fun _=> ?_) fun _=> ?_ | refine grd_dec (fun _=> ?_) fun _=> ?_ | refine egrd_dec (fun _=> ?_) fun _=> ?_))
    all_goals exact⟨vo1,vt5,_,h5,he',hw'⟩
  ·repeat' (first | (simp (disch:=first | omega | (decide +kernel)) only[↓RD,RU,↓putF_get,↓evF_t,↓evF_c,getD_zero,pop,lop,resL,↓reduceIte,Nat.reduceEqDiff,reduceCtorEq,ρ5,ρ6,hag,hob1,he']) | (with_reducible first | refine condK_dec (fun _=> ?_) fun _=> ?_ | refine grd_dec (fun _=> ?_) fun _=> ?_ | refine egrd_dec (fun _=> ?_) fun _=> ?_))
   all_goals exact⟨vo1,vt1,_,h1,he',hw'⟩
end Can
end Go.Proofs.YtdfgkcoenagaaaaGreat
end
section
namespace Go.Proofs.YtdfgkcoenagaaaaGreat
namespace Can
open Go Go.RowKit
set_option linter.unusedSimpArgs false
set_option linter.unusedVariables false
set_option maxRecDepth 4000
def wE (ws:List (List UInt8)):Array MapEntry:=((ws.zipIdx).map fun x=>({ key:= .string (str x.1),val:= .int .i64 1,born:=x.2 }:MapEntry)).toArray
theorem mup_w{l n:Nat}{k:List UInt8}{ws:List (List UInt8)}{H:CH}(h1:n=ws.length)(h2:ws.contains k=false):mupV 1 l (.string ⟨⟨k⟩⟩) (.int .i64 1) H (.map (wE ws) n)=some (undef,H.set l (.map (wE (ws++ [k])) (n+1))):=by
 subst h1
 have hk:k∉ws:=by simpa using h2
 have hf:findK 1 (.string (str k)) (wE ws).toList 0=some none:=(findK_words (x:=k) (ws:=ws) (n:=0) (i:=0)).2 hk
 have hp:(wE ws).push { key:= .string (str k),val:= .int .i64 1,born:=ws.length }=wE (ws++ [k]):=by
  apply Array.ext'
  simp[wE,List.zipIdx_append]
 simp only[mupV,isKey,isVal,and_self,if_true]
 rw[show(Value.string ⟨⟨k⟩⟩)= .string (str k) from rfl,hf,←hp]
theorem mup_0{l:Nat}{k:List UInt8}{H:CH}:mupV 1 l (.string ⟨⟨k⟩⟩) (.int .i64 1) H (.map #[] 0)=some (undef,H.set l (.map (wE [k]) 1)):=mup_w (ws:= []) rfl rfl
set_option maxHeartbeats 2000000 in
theorem words_wp(H:CH):WpF (tblG Tryz.prog LG GG) 17 [] H fun v K=>v= .map (some H.nx)∧K.ob H.nx= .map wordsM 31∧K.nx=H.nx+1∧∀l,l<H.nx→K.ob l=H.ob l:=by
 refine wpF_rG (by rfl) (by kernel_rfl) ?_;(conv in (rF _ _).body=>reduce);(conv in (rF _ _).res=>reduce)
 repeat' (first | (simp (disch:=first | omega | (decide +kernel)) only[↓r_seq,↓seqK_n,↓funK_r,↓r_reg,↓i_cons,↓itemK,↓o_p,↓o_w,↓putF_get,↓putF_none,↓evF_t,↓evF_c,new_nx,set_nx,new_get,set_get,optV_some,optW_some,finK_some,↓wpI_nil,↓wpR_ret,pop,wop,resL,resV,tupleV,↓reduceIte,Nat.reduceAdd,Int.reduceOfNat,List.cons_append,List.nil_append,if_neg,true_and,mup_0,mup_w,CH.set_set]) | (with_reducible first | refine condK_dec (fun _=> ?_) fun _=> ?_ | refine grd_dec (fun _=> ?_) fun _=> ?_ | refine egrd_dec (fun _=> ?_) fun _=> ?_))
 exact⟨rfl,fun l hl=>by rw[if_neg (by omega)]⟩
end Can
end Go.Proofs.YtdfgkcoenagaaaaGreat
end
section
namespace Go.Proofs.YtdfgkcoenagaaaaGreat
namespace Can
open Go Go.RowKit
set_option linter.unusedSimpArgs false
set_option linter.unusedVariables false
theorem splitN_ne : ∀ {l:List UInt8},splitN l≠ []
 | []=>by simp[splitN]
 | c::r=>by
   simp only[splitN]
   split
   ·simp
   ·split<;>simp
theorem splitN_row{u:List UInt8}(hu:Nl u) : ∀ {t:List UInt8},(∀x∈t,x.toNat≠10)→splitN (t++u)=t::(match u with | []=> [] | _::r=>splitN r)
 | [],_=>by
   rcases hu with rfl | ⟨r,rfl⟩
   ·rfl
   ·simp only[List.nil_append,splitN]
    rw[if_pos (by decide)]
 | c::t,h=>by
   simp only[List.cons_append,splitN]
   rw[if_neg (h c (by simp)),splitN_row hu (fun x hx=>h x (by simp[hx]))]
def rowN (l:List UInt8):List UInt8:=l.takeWhile fun x=>decide (x.toNat≠10)
def rowU (l:List UInt8):List UInt8:=l.dropWhile fun x=>decide (x.toNat≠10)
theorem rowN_app{l:List UInt8}:l=rowN l++rowU l:=(List.takeWhile_append_dropWhile).symm
theorem rowN_no : ∀ {l:List UInt8},∀x∈rowN l,x.toNat≠10
 | [],x,h=>by cases h
 | c::r,x,h=>by
   unfold rowN at h
   rw[List.takeWhile_cons] at h
   split at h
   ·rename_i hc
    rcases List.mem_cons.1 h with rfl | h
    ·simpa using hc
    ·exact rowN_no x h
   ·cases h
theorem rowU_nl : ∀ {l:List UInt8},Nl (rowU l)
 | []=> .inl rfl
 | c::r=>by
   unfold rowU
   rw[List.dropWhile_cons]
   split
   ·exact rowU_nl
   ·rename_i hc
    refine .inr ⟨r,?_⟩
    have:c.toNat=10:=by simpa using hc
    rw[show c=10 from UInt8.toNat_inj.1 this]
theorem last_drop{p:Nat→Bool}{a:Nat}(hp:p a=false) : ∀ {l:List Nat},l.getLast? = some a→(l.dropWhile p).getLast? = some a
 | [],h=>by cases h
 | [b],h=>by
   simp at h;subst h
   simp[List.dropWhile_cons,hp]
 | b::c::l,h=>by
   rw[List.dropWhile_cons]
   split
   ·exact last_drop hp (by simpa[List.getLast?_cons_cons] using h)
   ·exact h
theorem indT_last{line n:Nat}{st:List Nat}(h:st.getLast? = some 0):(indT line st n).2.getLast? = some 0:=by
 unfold indT
 split
 ·cases st with
  | nil=>cases h
  | cons a st=>simpa[List.getLast?_cons_cons] using h
 ·exact last_drop (by simp) h
theorem rowT_ok{line d d':Nat}{t:List UInt8}{st st':List Nat}{x:List Tok}(h:rowT line t d st= .ok (x,d',st'))(hz:st.getLast? = some 0):x.length+st'.length≤st.length+t.length+3∧d'≤d+t.length∧st'.getLast? = some 0:=by
 unfold rowT at h
 split at h
 ·cases h;refine⟨by simp;omega,by omega,hz⟩
 ·split at h
  ·cases h
  ·split at h
   ·cases h
   ·rename_i ts d1 ht
    obtain⟨g1,g2⟩:=toks_len ht
    have g3:= @indT_len line (blkN t) st
    cases h
    refine⟨?_,g2,?_⟩
    ·simp only[List.length_append]
     split<;>split<;>simp only[List.length_nil,List.length_cons]<;>omega
    ·split
     ·exact indT_last hz
     ·exact hz
def mp2 (o:List Tok):Except (Nat×Nat) (List Tok×List Nat)→Except (Nat×Nat) (List Tok×List Nat)
 | .ok y=> .ok (o++y.1,y.2)
 | .error e=> .error e
theorem mp2_mp2{a b:List Tok}{r:Except (Nat×Nat) (List Tok×List Nat)}:mp2 a (mp2 b r)=mp2 (a++b) r:=by
 cases r<;>simp[mp2]
theorem rowsT_cons{line d:Nat}{t:List UInt8}{ts:List (List UInt8)}{st:List Nat}:rowsT line (t::ts) d st=match rowT line t d st with | .error e=> .error (line,e) | .ok (x,d',st')=>mp2 x (rowsT (line+1) ts d' st'):=by
 simp only[rowsT]
 cases rowT line t d st with
 | error e=>rfl
 | ok y=>
   obtain⟨x,d',st'⟩:=y
   simp only
   cases rowsT (line+1) ts d' st'<;>rfl
structure LxI(src:List UInt8)(s:RS)(st:List Nat):Prop where
 op:s.opn=st.reverse
 z:st.getLast? = some 0
 e:s.err=0
 pl:s.pos≤src.length
 bo:s.out.length+s.opn.length≤s.pos+3*s.line+1
 bd:s.dep≤s.pos
 bl:s.line≤s.pos+1
 rows:rowsT 1 (splitN src) 0 [0]=mp2 s.out (rowsT s.line (splitN (src.drop s.pos)) s.dep st)
 cnt:(splitN src).length+1=s.line+(splitN (src.drop s.pos)).length
theorem LxI.init{src:List UInt8}:LxI src ⟨0,1,0,[0],[],0,0⟩ [0]:=by
 refine⟨rfl,rfl,rfl,by simp,by simp,by simp,by simp,?_,by simp[Nat.add_comm]⟩
 simp only[List.drop_zero]
 cases rowsT 1 (splitN src) 0 [0]<;>rfl
theorem LxI.row{src:List UInt8}{s:RS}{st:List Nat}(h:LxI src s st) : ∃t u,src.drop s.pos=t++u∧Nl u∧(∀x∈t,x.toNat≠10)∧src.length=s.pos+t.length+u.length:=
 ⟨rowN (src.drop s.pos),rowU (src.drop s.pos),rowN_app,rowU_nl,rowN_no,by
   have h1:=congrArg List.length (rowN_app (l:=src.drop s.pos))
   have h2:=h.pl
   simp only[List.length_drop,List.length_append] at h1
   omega⟩
theorem LxI.err{src:List UInt8}{s:RS}{st:List Nat}(h:LxI src s st)(hl:src.length≤20000){t u:List UInt8}(htu:src.drop s.pos=t++u)(hu:Nl u)(hn : ∀x∈t,x.toNat≠10){e:Nat}(hr:rowT s.line t s.dep st= .error e):lexT src= .error (s.line,e):=by
 unfold lexT
 rw[if_neg (by omega),h.rows,htu,splitN_row hu hn,rowsT_cons,hr]
 rfl
theorem LxI.fin{src:List UInt8}{s:RS}{st:List Nat}(h:LxI src s st)(hl:src.length≤20000){t:List UInt8}(htu:src.drop s.pos=t++ [])(hn : ∀x∈t,x.toNat≠10){x:List Tok}{d':Nat}{st':List Nat}(hr:rowT s.line t s.dep st= .ok (x,d',st')):lexT src= .ok (s.out++x++endT s.line st'):=by
 have hc:=h.cnt
 rw[htu,splitN_row (.inl rfl) hn] at hc
 simp only[List.length_cons,List.length_nil] at hc
 unfold lexT
 rw[if_neg (by omega),h.rows,htu,splitN_row (.inl rfl) hn,rowsT_cons,hr,show(splitN src).length=s.line by omega]
 simp[rowsT,mp2]
theorem LxI.step{src:List UInt8}{s:RS}{st:List Nat}(h:LxI src s st){t r:List UInt8}(htu:src.drop s.pos=t++10::r)(hn : ∀x∈t,x.toNat≠10)(hlen:src.length=s.pos+t.length+(r.length+1)){x:List Tok}{d':Nat}{st':List Nat}(hr:rowT s.line t s.dep st= .ok (x,d',st')) :
 LxI src { s with pos:=s.pos+t.length+1,line:=s.line+1,dep:=d',opn:=st'.reverse,out:=s.out++x } st':=by
 obtain⟨g1,g2,g3⟩:=rowT_ok hr h.z
 have hop:=congrArg List.length h.op
 have hbo:=h.bo
 have hbd:=h.bd
 have hbl:=h.bl
 have hc:=h.cnt
 have hd:src.drop (s.pos+t.length+1)=r:=by
  rw[Nat.add_assoc,←List.drop_drop,htu]
  simp
 simp only[List.length_reverse] at hop
 rw[htu,splitN_row (.inr ⟨r,rfl⟩) hn] at hc
 simp only[List.length_cons] at hc
 refine⟨rfl,g3,h.e,by show s.pos+t.length+1≤_;omega,by simp only[List.length_append,List.length_reverse];omega,by show d'≤s.pos+t.length+1;omega,by show s.line+1≤s.pos+t.length+1+1;omega,?_,?_⟩
 ·show _=mp2 (s.out++x) (rowsT (s.line+1) (splitN (src.drop (s.pos+t.length+1))) d' st')
  rw[hd,h.rows,htu,splitN_row (.inr ⟨r,rfl⟩) hn,rowsT_cons,hr,←mp2_mp2]
 ·show _=s.line+1+(splitN (src.drop (s.pos+t.length+1))).length
  rw[hd];omega
def u8i (src:List UInt8):List Int:=src.map fun c=>(c.toNat:Int)
def b2sV (H:CH):Value→Option Value
 | .slice none 0 0=>some (.string .empty)
 | .slice (some ⟨l,o,none⟩) n _=>match H.ob l with
   | .cells cs _ _=>if o+n≤cs.length then (byteList ((cs.drop o).take n)).map fun bs=> .string ⟨bs.toArray⟩ else none
   | _=>none
 | .slice (some ⟨_,_,some _⟩) 0 _=>some (.string .empty)
 | _=>none
theorem lop_b2s{H:CH}{ev:Operand→Value}{x:Operand}:lop H ev (.b2s x)=b2sV H (ev x):=rfl
theorem byteList_ints : ∀ {src:List UInt8},byteList (src.map fun c=>Value.int .u8 (c.toNat:Int))=some src
 | []=>rfl
 | c::r=>by
   rw[List.map_cons]
   simp only[byteList]
   rw[byteList_ints]
   simp
theorem b2s_ok{H:CH}{q:Option Addr}{c:Nat}{src:List UInt8}(h:SlAt 1 (CInt .u8) H q c (u8i src)):b2sV H (.slice q src.length c)=some (.string (str src)):=by
 rcases h with ⟨h,rfl,rfl | rfl | rfl⟩ | ⟨l,o,os,e,kd,rfl,hl,hc,hm,hob,hol,hR⟩
 ·have:src= []:=by simpa[u8i] using h
  subst this;rfl
 ·have:src= []:=by simpa[u8i] using h
  subst this;rfl
 ·have:src= []:=by simpa[u8i] using h
  subst this;rfl
 ·simp only[u8i,List.length_map,Nat.mul_one] at hol hR
  simp only[b2sV,hob]
  rw[if_pos hol]
  have:(os.drop o).take src.length=src.map fun c=>Value.int .u8 (c.toNat:Int):=by
   apply List.ext_getElem
   ·simp;omega
   ·intro i h1 h2
    have h3:=(hR i (by simpa using h2)).1
    simp only[List.length_map] at h2
    have h7:((os.drop (o+i)).take 1)[0]? = some (.int .u8 (src[i].toNat:Int)):=by rw[h3];simp
    rw[List.getElem?_take_of_lt (by omega),List.getElem?_drop,Nat.add_zero] at h7
    simp only[List.getElem_take,List.getElem_drop,List.getElem_map]
    exact(List.getElem?_eq_some_iff.1 h7).2
  rw[this,byteList_ints]
  rfl
end Can
end Go.Proofs.YtdfgkcoenagaaaaGreat
end
