/- Lex: the reader's loops over bytes. Lex: escapes, strings. -/
import Derived.Test.YtdfgkcoenagaaaaGreatZd
section
namespace Go.Proofs.YtdfgkcoenagaaaaGreat
namespace Can
open Go Go.RowKit
set_option linter.unusedSimpArgs false
set_option linter.unusedVariables false
set_option maxRecDepth 4000
theorem peek0{A K:CH}{p:Nat}{src:List UInt8}{s:RS}{vo vt:Value}{m:Nat}(h:RdAt A K p src s vo vt m){Q:Value→CH→Prop}:WpF (tblG Tryz.prog LG GG) 53 [.pointer (some ⟨p,0,none⟩), .int .i64 0] K Q↔Q (.int .u8 (hd (src.drop s.pos):Nat)) K:=wpF_iff (peek_wp h 0 (by decide))
theorem peek1{A K:CH}{p:Nat}{src:List UInt8}{s:RS}{vo vt:Value}{m:Nat}(h:RdAt A K p src s vo vt m){Q:Value→CH→Prop}:WpF (tblG Tryz.prog LG GG) 53 [.pointer (some ⟨p,0,none⟩), .int .i64 1] K Q↔Q (.int .u8 (hd (src.drop (s.pos+1)):Nat)) K:=wpF_iff (peek_wp h 1 (by decide))
theorem peek2{A K:CH}{p:Nat}{src:List UInt8}{s:RS}{vo vt:Value}{m:Nat}(h:RdAt A K p src s vo vt m){Q:Value→CH→Prop}:WpF (tblG Tryz.prog LG GG) 53 [.pointer (some ⟨p,0,none⟩), .int .i64 2] K Q↔Q (.int .u8 (hd (src.drop (s.pos+2)):Nat)) K:=wpF_iff (peek_wp h 2 (by decide))
theorem drop_len{l:List UInt8}{j:Nat}(h:0<(l.drop j).length):j<l.length:=by simp at h;omega
def atS (s:RS)(j:Nat):RS:= { s with pos:=s.pos+j }
theorem atS_bd{s:RS}{j:Nat}(h:s.Bd)(hj:s.pos+j≤100000):(atS s j).Bd:=⟨hj,h.line,h.dep,h.err,h.wh,h.out⟩
theorem run_wp{A K:CH}{p:Nat}{src:List UInt8}{s:RS}{vo vt:Value}{m:Nat}(h:RdAt A K p src s vo vt m)(hp:s.pos≤50000) :
 WpF (tblG Tryz.prog LG GG) 75 [.pointer (some ⟨p,0,none⟩)] K fun v K'=>RdAt A K' p src (atS s (digN (src.drop s.pos))) vo vt m:=by
 have hsl:=h.sl
 refine wpF_rG (by rfl) (by kernel_rfl) ?_;(conv in (rF _ _).body=>reduce);(conv in (rF _ _).res=>reduce)
 simp only[↓RD]
 have hle:=nW_le (p:=isDigN) (l:=src.drop s.pos)
 simp only[List.length_drop] at hle
 refine loop_w (fun n fr K1=>∃j,n=digN (src.drop s.pos)-j∧j+nW isDigN (src.drop (s.pos+j))=digN (src.drop s.pos)∧RdAt A K1 p src (atS s j) vo vt m) (n:=digN (src.drop s.pos)) ⟨0,rfl,by simp[digN],h⟩ ?_
 rintro n fr K1 ⟨j,rfl,hj,h1⟩ hag
 have hp1:= @peek0 _ _ _ _ _ _ _ _ h1
 have hpd:(atS s j).pos=s.pos+j:=rfl
 rw[hpd] at hp1
 have hob:=h1.ob
 have hpl:=h1.pl
 have hdb:digN (src.drop s.pos)≤src.length-s.pos:=hle
 cases hd1:isDigN (hd (src.drop (s.pos+j))) with
 | true=>
   have hpos:0<(src.drop (s.pos+j)).length:=by
    cases hq:src.drop (s.pos+j) with
    | nil=>rw[hq] at hd1;cases hd1
    | cons c r=>simp
   have hlt:=drop_len hpos
   have hyes:=nW_yes hlt hd1
   repeat' (first | (simp (disch:=first | omega | (decide +kernel)) only[↓RD,RU,↓putF_get,↓evF_t,↓evF_c,getD_zero,pop,lop,wop,isVal,isCell,Value.cells,ρ0,ρ1,↓reduceIte,Nat.reduceEqDiff,Nat.reduceAdd,Int.reduceOfNat,reduceCtorEq,ρ5,ρ6,ρ7,ρ8,ρ17,ρ18,ρ19,ρ20,ρ22,ρ23,Kd.isRo,ρ25,ρ26,Nat.reduceLeDiff,hag,hp1,digit_iff,hd1,hob,hpd,n1]) | (with_reducible first | refine condK_dec (fun _=> ?_) fun _=> ?_ | refine grd_dec (fun _=> ?_) fun _=> ?_ | refine egrd_dec (fun _=> ?_) fun _=> ?_))
   exact⟨_,by simp only[digN] at *;omega,j+1,rfl,by simp only[←Nat.add_assoc];omega,h1.set (s':=atS s (j+1)) rfl rfl (atS_bd h.bd (by omega))⟩
 | false=>
   have hno:=nW_no (p:=isDigN) (.inr hd1)
   repeat' (first | (simp (disch:=first | omega | (decide +kernel)) only[↓RD,RU,↓putF_get,↓evF_t,↓evF_c,getD_zero,pop,resL,ρ0,ρ1,↓reduceIte,Int.reduceOfNat,hag,hp1,digit_iff,hd1]) | (with_reducible first | refine condK_dec (fun _=> ?_) fun _=> ?_ | refine grd_dec (fun _=> ?_) fun _=> ?_ | refine egrd_dec (fun _=> ?_) fun _=> ?_))
   all_goals
    have e:digN (src.drop s.pos)=j:=by omega
    rw[e]
    exact h1
def n32 (n:Nat):Bool:=decide (n=32)
def n10 (n:Nat):Bool:=decide (n≠10)
theorem blank_wp{A K:CH}{p:Nat}{src:List UInt8}{s:RS}{vo vt:Value}{m:Nat}(h:RdAt A K p src s vo vt m)(hp:s.pos≤50000) :
 WpF (tblG Tryz.prog LG GG) 30 [.pointer (some ⟨p,0,none⟩)] K fun v K'=>RdAt A K' p src (atS s (blkN (src.drop s.pos))) vo vt m:=by
 have hsl:=h.sl
 refine wpF_rG (by rfl) (by kernel_rfl) ?_;(conv in (rF _ _).body=>reduce);(conv in (rF _ _).res=>reduce)
 simp only[↓RD]
 obtain⟨N,hN⟩ : ∃N,nW (fun n=>decide (n=32)) (src.drop s.pos)=N:=⟨_,rfl⟩
 have hle:=nW_le (p:=fun n=>decide (n=32)) (l:=src.drop s.pos)
 simp only[List.length_drop] at hle
 rw[hN] at hle
 refine loop_w (fun n fr K1=>∃j,n=N-j∧j+nW (fun n=>decide (n=32)) (src.drop (s.pos+j))=N∧RdAt A K1 p src (atS s j) vo vt m) (n:=N) ⟨0,rfl,by simpa using hN,h⟩ ?_
 rintro n fr K1 ⟨j,rfl,hj,h1⟩ hag
 have hp1:= @peek0 _ _ _ _ _ _ _ _ h1
 have hpd:(atS s j).pos=s.pos+j:=rfl
 rw[hpd] at hp1
 have hob:=h1.ob
 have hpl:=h1.pl
 by_cases hd1:hd (src.drop (s.pos+j))=32
 ·have hpos:0<(src.drop (s.pos+j)).length:=hd_pos (by omega)
  have hlt:=drop_len hpos
  have hyes:=nW_yes (p:=fun n=>decide (n=32)) hlt (by simp[hd1])
  repeat' (first | (simp (disch:=first | omega | (decide +kernel)) only[↓RD,RU,↓putF_get,↓evF_t,↓evF_c,getD_zero,pop,lop,wop,isVal,isCell,Value.cells,ρ0,ρ1,↓reduceIte,Nat.reduceEqDiff,Nat.reduceAdd,Int.reduceOfNat,reduceCtorEq,ρ5,ρ6,ρ7,ρ8,ρ17,ρ18,ρ19,ρ20,ρ22,ρ23,Kd.isRo,ρ25,ρ26,Nat.reduceLeDiff,ρ28,hag,hp1,hd1,hob,hpd,n1,str_size]) | (with_reducible first | refine condK_dec (fun _=> ?_) fun _=> ?_ | refine grd_dec (fun _=> ?_) fun _=> ?_ | refine egrd_dec (fun _=> ?_) fun _=> ?_))
  all_goals exact⟨_,by omega,j+1,rfl,by simp only[←Nat.add_assoc];omega,h1.set (s':=atS s (j+1)) rfl rfl (atS_bd h.bd (by omega))⟩
 ·have hno:=nW_no (p:=fun n=>decide (n=32)) (l:=src.drop (s.pos+j)) (.inr (by simp[hd1]))
  have e:j=N:=by omega
  subst e
  by_cases hc:hd (src.drop (s.pos+j))=35
  ·have hb:blkN (src.drop s.pos)=j+nW (fun n=>decide (n≠10)) (src.drop (s.pos+j)):=by
    unfold blkN
    rw[hN,List.drop_drop,if_pos hc]
   rw[hb]
   repeat' (first | (simp (disch:=first | omega | (decide +kernel)) only[↓RD,RU,↓putF_get,↓evF_t,↓evF_c,getD_zero,pop,ρ0,ρ1,↓reduceIte,Nat.reduceEqDiff,Int.reduceOfNat,reduceCtorEq,hag,hp1,hc]) | (with_reducible first | refine condK_dec (fun _=> ?_) fun _=> ?_ | refine grd_dec (fun _=> ?_) fun _=> ?_ | refine egrd_dec (fun _=> ?_) fun _=> ?_))
   obtain⟨M,hM⟩ : ∃M,nW (fun n=>decide (n≠10)) (src.drop (s.pos+j))=M:=⟨_,rfl⟩
   have hle2:=nW_le (p:=fun n=>decide (n≠10)) (l:=src.drop (s.pos+j))
   simp only[List.length_drop] at hle2
   rw[hM] at hle2⊢
   refine loop_w (fun n fr K2=>∃i,n=M-i∧i+nW (fun n=>decide (n≠10)) (src.drop (s.pos+j+i))=M∧RdAt A K2 p src (atS s (j+i)) vo vt m) (n:=M) ⟨0,rfl,by simpa using hM,h1⟩ ?_
   rintro n fr2 K2 ⟨i,rfl,hi,h2⟩ hag2
   have hpd2:(atS s (j+i)).pos=s.pos+j+i:=by show s.pos+(j+i)=_;omega
   have hob2:=h2.ob
   have hpl2:=h2.pl
   by_cases hlt2:s.pos+j+i<src.length
   ·have hg:=get_pos hlt2
    have hh:=hd_drop hlt2
    by_cases h10:src[s.pos+j+i].toNat=10
    ·have hno2:=nW_no (p:=fun n=>decide (n≠10)) (l:=src.drop (s.pos+j+i)) (.inr (by simp[hh,h10]))
     have e2:i=M:=by omega
     subst e2
     repeat' (first | (simp (disch:=first | omega | (decide +kernel)) only[↓RD,RU,↓putF_get,↓evF_t,↓evF_c,getD_zero,pop,lop,resL,ρ4,↓reduceIte,Nat.reduceEqDiff,reduceCtorEq,ρ5,ρ6,ρ28,ρ29,hag2,hag,hob2,hpd2,str_size,str_get,hg,h10]) | (with_reducible first | refine condK_dec (fun _=> ?_) fun _=> ?_ | refine grd_dec (fun _=> ?_) fun _=> ?_ | refine egrd_dec (fun _=> ?_) fun _=> ?_))
     all_goals exact h2
    ·have hyes2:=nW_yes (p:=fun n=>decide (n≠10)) hlt2 (by simp[hh,h10])
     repeat' (first | (simp (disch:=first | omega | (decide +kernel)) only[↓RD,RU,↓putF_get,↓evF_t,↓evF_c,getD_zero,pop,lop,wop,isVal,isCell,Value.cells,ρ4,↓reduceIte,Nat.reduceEqDiff,Nat.reduceAdd,reduceCtorEq,ρ5,ρ6,ρ7,ρ8,ρ17,ρ18,ρ19,ρ20,ρ22,ρ23,Kd.isRo,ρ25,ρ26,Nat.reduceLeDiff,ρ28,ρ29,hag2,hag,hob2,hpd2,str_size,str_get,hg,n1]) | (with_reducible first | refine condK_dec (fun _=> ?_) fun _=> ?_ | refine grd_dec (fun _=> ?_) fun _=> ?_ | refine egrd_dec (fun _=> ?_) fun _=> ?_))
     all_goals
      refine⟨_,by omega,i+1,rfl,by simp only[←Nat.add_assoc];omega,?_⟩
      have e:s.pos+j+i+1=s.pos+(j+(i+1)):=by omega
      rw[e]
      exact h2.set (s':=atS s (j+(i+1))) rfl rfl (atS_bd h.bd (by omega))
   ·have hno2:=nW_no (p:=fun n=>decide (n≠10)) (l:=src.drop (s.pos+j+i)) (.inl (List.drop_eq_nil_of_le (by omega)))
    have e2:i=M:=by omega
    subst e2
    repeat' (first | (simp (disch:=first | omega | (decide +kernel)) only[↓RD,RU,↓putF_get,↓evF_t,↓evF_c,getD_zero,pop,lop,resL,↓reduceIte,Nat.reduceEqDiff,reduceCtorEq,ρ5,ρ6,ρ28,hag2,hag,hob2,hpd2,str_size]) | (with_reducible first | refine condK_dec (fun _=> ?_) fun _=> ?_ | refine grd_dec (fun _=> ?_) fun _=> ?_ | refine egrd_dec (fun _=> ?_) fun _=> ?_))
    all_goals exact h2
  ·have hb:blkN (src.drop s.pos)=j:=by
    unfold blkN
    rw[hN,List.drop_drop,if_neg hc]
   rw[hb]
   repeat' (first | (simp (disch:=first | omega | (decide +kernel)) only[↓RD,RU,↓putF_get,↓evF_t,↓evF_c,getD_zero,pop,resL,ρ0,ρ1,↓reduceIte,Nat.reduceEqDiff,Int.reduceOfNat,reduceCtorEq,hag,hp1]) | (with_reducible first | refine condK_dec (fun _=> ?_) fun _=> ?_ | refine grd_dec (fun _=> ?_) fun _=> ?_ | refine egrd_dec (fun _=> ?_) fun _=> ?_))
   all_goals exact h1
theorem RdAt.iter{A K:CH}{p:Nat}{src:List UInt8}{s:RS}{vo vt:Value}{m l:Nat}(h:RdAt A K p src s vo vt m){a a':ByteArray}{b b':Nat}(hl:K.ob l= .siter a b)(hla:A.nx≤l):RdAt A (K.set l (.siter a' b')) p src s vo vt m:=by
 obtain⟨bo,kd,c,os,h1,h2,h3,h4,h5⟩:=h.opn
 have hpl:p≠l:=fun e=>by have:=h.ob;rw[e,hl] at this;cases this
 have hml:m≠l:=fun e=>by have:=h.mp;rw[e,hl] at this;cases this
 have hbl:bo≠l:=fun e=>by rw[e,hl] at h4;cases h4
 refine⟨by rw[set_get,if_neg hpl];exact h.ob,h.pl,h.pa,⟨bo,kd,c,os,h1,h2,h3,by rw[set_get,if_neg hbl];exact h4,h5⟩,?_,by rw[set_get,if_neg hml];exact h.mp,h.ml,h.ma,h.E.set hla _,h.bd,h.sl⟩
 rcases h.out with g | ⟨b2,kd2,e2,g1,g2,g3,g4⟩
 ·exact .inl g
 ·refine .inr ⟨b2,kd2,e2,g1,g2,?_,g4⟩
  rw[set_get,if_neg]
  ·exact g3
  ·intro e
   rw[e,hl] at g3;cases g3
theorem str_beq{a b:List UInt8}:(str a==str b)=decide (a=b):=by
 cases h:(str a==str b) with
 | true=>
   have:=(Go.MapKept.bytes_beq _ _).1 h
   rw[decide_eq_true (by exact Array.mk.inj (ByteArray.mk.inj this))]
 | false=>
   rw[decide_eq_false fun e=>by rw[e,(Go.MapKept.bytes_beq _ _).2 rfl] at h;cases h]
theorem findK_words{x:List UInt8} : ∀ {ws:List (List UInt8)} {n i:Nat},
 (x∈ws→∃j,findK 1 (.string (str x)) ((ws.zipIdx n).map fun x=>({ key:= .string (str x.1),val:= .int .i64 1,born:=x.2 }:MapEntry)) i=some (some (j, .int .i64 1)))∧
 (x∉ws→findK 1 (.string (str x)) ((ws.zipIdx n).map fun x=>({ key:= .string (str x.1),val:= .int .i64 1,born:=x.2 }:MapEntry)) i=some none)
 | [],n,i=>⟨fun h=>(by cases h),fun _=>rfl⟩
 | w::ws,n,i=>by
   obtain⟨h1,h2⟩:=findK_words (x:=x) (ws:=ws) (n:=n+1) (i:=i+1)
   simp only[List.zipIdx_cons,List.map_cons,findK,sameK,str_beq]
   by_cases e:x=w
   ·subst e
    simp only[decide_true]
    exact⟨fun _=>⟨i,rfl⟩,fun h=>absurd (List.mem_cons_self ..) h⟩
   ·simp only[decide_eq_false e]
    refine⟨fun h=>h1 ?_,fun h=>h2 fun h'=>h (List.mem_cons_of_mem _ h')⟩
    rcases List.mem_cons.1 h with g | g
    ·exact absurd g e
    ·exact g
theorem dec_lo{r:List UInt8}{j:Nat}(h:j<r.length)(hb:r[j].toNat<128):Utf8.decode (str r) j=(r[j].toNat,1):=decode_ascii (str r) j h hb
theorem dec_hi{r:List UInt8}{j:Nat}(h:j<r.length)(hb:128≤r[j].toNat):127<(Utf8.decode (str r) j).1:=by
 have e:((str r).get! (j+0))=r[j]:=by
  have h':j<(str r).size:=h
  show(str r).get! j=_
  simp[ByteArray.get!,getElem!_pos,h]
 unfold Utf8.decode
 simp only[e]
 rw[if_neg (by omega)]
 (repeat' split)<;>simp only[Utf8.runeError,Bool.and_eq_true,decide_eq_true_eq,ge_iff_le] at *<;>omega
theorem name_wp{A K:CH}{p:Nat}{src:List UInt8}{s:RS}{vo vt:Value}{m:Nat}(h:RdAt A K p src s vo vt m)(hp:s.pos<src.length)(hb:s.out.length+s.opn.length<1000000) :
 WpF (tblG Tryz.prog LG GG) 56 [.pointer (some ⟨p,0,none⟩)] K fun v K'=>∃vt',RdAt A K' p src (putS (atS s (nW isAlN (src.drop s.pos))) (if (src.drop s.pos).take (nW isAlN (src.drop s.pos))∈wordsL then 8 else 4) s.line ((src.drop s.pos).take (nW isAlN (src.drop s.pos)))) vo vt' m:=by
 have hsl:=h.sl
 have hob:=h.ob
 have hpl:=h.pl
 have hpa:=h.pa
 obtain⟨N,hN⟩ : ∃N,nW isAlN (src.drop s.pos)=N:=⟨_,rfl⟩
 have hle:=nW_le (p:=isAlN) (l:=src.drop s.pos)
 simp only[List.length_drop] at hle
 rw[hN] at hle⊢
 refine wpF_rG (by rfl) (by kernel_rfl) ?_;(conv in (rF _ _).body=>reduce);(conv in (rF _ _).res=>reduce)
 have htk:(src.drop s.pos).take (src.length-s.pos)=src.drop s.pos:=List.take_of_length_le (by simp)
 repeat' (first | (simp (disch:=first | omega | (decide +kernel)) only[↓RD,RU,↓putF_get,↓evF_t,getD_zero,pop,lop,wop,↓reduceIte,Nat.reduceEqDiff,Int.reduceOfNat,reduceCtorEq,ρ5,ρ6,bnd,lenV,ρ28,ρ29,hob,str_size,str_ext,htk]) | (with_reducible first | refine condK_dec (fun _=> ?_) fun _=> ?_ | refine grd_dec (fun _=> ?_) fun _=> ?_ | refine egrd_dec (fun _=> ?_) fun _=> ?_))
 have hxi:HExt K (K.new (.siter (str (src.drop s.pos)) 0)):=by(repeat (first | assumption | exact HExt.refl _ | (refine HExt.set ?_ (by first | omega | (simp only[new_nx,set_nx];omega)) _) | (refine HExt.new ?_ _)))
 refine loop_w (fun n fr K1=>∃j,n=N-j∧j+nW isAlN (src.drop (s.pos+j))=N∧RdAt A K1 p src (atS s j) vo vt m∧K1.ob K.nx= .siter (str (src.drop s.pos)) j∧K.nx<K1.nx) (n:=N) ⟨0,rfl,by simpa using hN,h.mv hxi,by repeat' (first | (simp (disch:=first | omega | (decide +kernel)) only[new_get,↓reduceIte]) | (with_reducible first | refine condK_dec (fun _=> ?_) fun _=> ?_ | refine grd_dec (fun _=> ?_) fun _=> ?_ | refine egrd_dec (fun _=> ?_) fun _=> ?_)),Nat.lt_succ_self _⟩ ?_
 rintro n fr K1 ⟨j,rfl,hj,h1,hit,hil⟩ hag
 have hob1:=h1.ob
 have hpl1:=h1.pl
 have hpd:(atS s j).pos=s.pos+j:=rfl
 have hnx:=h.E.nx
 have hdl:(src.drop s.pos).length=src.length-s.pos:=by simp
 by_cases hlt:s.pos+j<src.length
 ·have hj2:j<(src.drop s.pos).length:=by omega
  have hget:(src.drop s.pos)[j]=src[s.pos+j]:=by rw[List.getElem_drop]
  have hh:=hd_drop hlt
  by_cases hal:isAlN (src[s.pos+j].toNat)=true
  ·have hlow:src[s.pos+j].toNat<128:=by
    have:=hal
    simp only[isAlN,isLetN,isDigN,Bool.or_eq_true,decide_eq_true_eq] at this
    omega
   have hdec:=dec_lo hj2 (by rw[hget];exact hlow)
   rw[hget] at hdec
   have hyes:=nW_yes hlt (by rw[hh];exact hal)
   cases hL:isLetN (src[s.pos+j].toNat) with
   | true=>
     repeat' (first | (simp (disch:=first | omega | (decide +kernel)) only[↓RD,RU,↓putF_get,↓evF_t,↓evF_c,set_nx,set_get,getD_zero,u_not,pop,lop,wop,isVal,isCell,Value.cells,ρ0,ρ1,ρ2,↓reduceIte,Nat.reduceEqDiff,Nat.reduceAdd,reduceCtorEq,ρ5,ρ6,ρ7,ρ8,ρ17,ρ18,ρ19,ρ20,ρ22,ρ23,Kd.isRo,ρ25,ρ26,Nat.reduceLeDiff,nxtV,hag,hit,str_size,hdl,hdec,letter_iff,hL,hob1,hpd,n1]) | (with_reducible first | refine condK_dec (fun _=> ?_) fun _=> ?_ | refine grd_dec (fun _=> ?_) fun _=> ?_ | refine egrd_dec (fun _=> ?_) fun _=> ?_))
     all_goals exact⟨_,by omega,j+1,rfl,by simp only[←Nat.add_assoc];omega,(h1.iter hit (by omega)).set (s':=atS s (j+1)) rfl rfl (atS_bd h.bd (by omega)),rfl,hil⟩
   | false=>
     have hD:isDigN (src[s.pos+j].toNat)=true:=by
      unfold isAlN at hal
      rw[hL] at hal;simpa using hal
     repeat' (first | (simp (disch:=first | omega | (decide +kernel)) only[↓RD,RU,↓putF_get,↓evF_t,↓evF_c,set_nx,set_get,getD_zero,u_not,pop,lop,wop,isVal,isCell,Value.cells,ρ0,ρ1,ρ2,ρ3,↓reduceIte,Nat.reduceEqDiff,Nat.reduceAdd,reduceCtorEq,ρ5,ρ6,ρ7,ρ8,ρ17,ρ18,ρ19,ρ20,ρ22,ρ23,Kd.isRo,ρ25,ρ26,Nat.reduceLeDiff,nxtV,hag,hit,str_size,hdl,hdec,letter_iff,digit_iff,hL,hD,hob1,hpd,n1]) | (with_reducible first | refine condK_dec (fun _=> ?_) fun _=> ?_ | refine grd_dec (fun _=> ?_) fun _=> ?_ | refine egrd_dec (fun _=> ?_) fun _=> ?_))
     all_goals exact⟨_,by omega,j+1,rfl,by simp only[←Nat.add_assoc];omega,(h1.iter hit (by omega)).set (s':=atS s (j+1)) rfl rfl (atS_bd h.bd (by omega)),rfl,hil⟩
  ·have hno:=nW_no (p:=isAlN) (l:=src.drop (s.pos+j)) (.inr (by rw[hh];simpa using hal))
   have e:j=N:=by omega
   subst e
   have hmap:=h1.mp
   have hml:=h1.ml
   have hmn:m≠K.nx:=fun e=>by rw[e,hit] at hmap;cases hmap
   have hal':isAlN (src[s.pos+j].toNat)=false:=by simpa using hal
   simp only[isAlN,Bool.or_eq_false_iff] at hal'
   obtain⟨hL,hD⟩:=hal'
   by_cases hlow:src[s.pos+j].toNat<128
   ·have hdec:=dec_lo hj2 (by rw[hget];exact hlow)
    rw[hget] at hdec
    by_cases hw:(src.drop s.pos).take j∈wordsL
    ·obtain⟨q,hq⟩:=(findK_words (x:=(src.drop s.pos).take j) (ws:=wordsL) (n:=0) (i:=0)).1 hw
     have hq:findK 1 (.string (str ((src.drop s.pos).take j))) wordsM.toList 0=some (some (q, .int .i64 1)):=hq
     rw[if_pos hw]
     repeat' (first | (simp (disch:=first | omega | (decide +kernel)) only[↓RD,RU,↓putF_get,↓evF_t,↓evF_c,set_get,getD_zero,u_not,pop,lop,wop,ρ0,ρ1,ρ3,↓reduceIte,Nat.reduceEqDiff,reduceCtorEq,ρ5,ρ6,bnd,lkV,lkR,isKey,nxtV,ρ28,ρ29,hag,hit,str_size,hdl,hdec,letter_iff,digit_iff,hL,hD,hob1,hpd,str_ext,Nat.add_sub_cancel_left,hq,hmap]) | (with_reducible first | refine condK_dec (fun _=> ?_) fun _=> ?_ | refine grd_dec (fun _=> ?_) fun _=> ?_ | refine egrd_dec (fun _=> ?_) fun _=> ?_))
     refine(put_wp (s:=atS s j) (h1.iter hit (by omega)) 8 s.line ((src.drop s.pos).take j) hb).mono fun v2 K2 ⟨vt2,h2⟩=> ?_
     repeat' (first | (simp (disch:=first | omega | (decide +kernel)) only[↓RD,RU,resL]) | (with_reducible first | refine condK_dec (fun _=> ?_) fun _=> ?_ | refine grd_dec (fun _=> ?_) fun _=> ?_ | refine egrd_dec (fun _=> ?_) fun _=> ?_))
     all_goals exact⟨vt2,h2⟩
    ·have hq:findK 1 (.string (str ((src.drop s.pos).take j))) wordsM.toList 0=some none:=(findK_words (x:=(src.drop s.pos).take j) (ws:=wordsL) (n:=0) (i:=0)).2 hw
     rw[if_neg hw]
     repeat' (first | (simp (disch:=first | omega | (decide +kernel)) only[↓RD,RU,↓putF_get,↓evF_t,↓evF_c,set_get,getD_zero,u_not,pop,lop,wop,ρ0,ρ1,ρ3,↓reduceIte,Nat.reduceEqDiff,reduceCtorEq,ρ5,ρ6,bnd,lkV,lkR,isKey,nxtV,ρ28,ρ29,hag,hit,str_size,hdl,hdec,letter_iff,digit_iff,hL,hD,hob1,hpd,str_ext,Nat.add_sub_cancel_left,hq,hmap]) | (with_reducible first | refine condK_dec (fun _=> ?_) fun _=> ?_ | refine grd_dec (fun _=> ?_) fun _=> ?_ | refine egrd_dec (fun _=> ?_) fun _=> ?_))
     refine(put_wp (s:=atS s j) (h1.iter hit (by omega)) 4 s.line ((src.drop s.pos).take j) hb).mono fun v2 K2 ⟨vt2,h2⟩=> ?_
     repeat' (first | (simp (disch:=first | omega | (decide +kernel)) only[↓RD,RU,resL]) | (with_reducible first | refine condK_dec (fun _=> ?_) fun _=> ?_ | refine grd_dec (fun _=> ?_) fun _=> ?_ | refine egrd_dec (fun _=> ?_) fun _=> ?_))
     all_goals exact⟨vt2,h2⟩
   ·have hdec:=dec_hi hj2 (by rw[hget];omega)
    by_cases hw:(src.drop s.pos).take j∈wordsL
    ·obtain⟨q,hq⟩:=(findK_words (x:=(src.drop s.pos).take j) (ws:=wordsL) (n:=0) (i:=0)).1 hw
     have hq:findK 1 (.string (str ((src.drop s.pos).take j))) wordsM.toList 0=some (some (q, .int .i64 1)):=hq
     rw[if_pos hw]
     repeat' (first | (simp (disch:=first | omega | (decide +kernel)) only[↓RD,RU,↓putF_get,↓evF_t,↓evF_c,set_get,getD_zero,pop,lop,wop,ρ0,ρ1,↓reduceIte,Nat.reduceEqDiff,reduceCtorEq,ρ5,ρ6,bnd,lkV,lkR,isKey,nxtV,ρ28,ρ29,hag,hit,str_size,hdl,hob1,hpd,str_ext,Nat.add_sub_cancel_left,hq,hmap]) | (with_reducible first | refine condK_dec (fun _=> ?_) fun _=> ?_ | refine grd_dec (fun _=> ?_) fun _=> ?_ | refine egrd_dec (fun _=> ?_) fun _=> ?_))
     refine(put_wp (s:=atS s j) (h1.iter hit (by omega)) 8 s.line ((src.drop s.pos).take j) hb).mono fun v2 K2 ⟨vt2,h2⟩=> ?_
     repeat' (first | (simp (disch:=first | omega | (decide +kernel)) only[↓RD,RU,resL]) | (with_reducible first | refine condK_dec (fun _=> ?_) fun _=> ?_ | refine grd_dec (fun _=> ?_) fun _=> ?_ | refine egrd_dec (fun _=> ?_) fun _=> ?_))
     all_goals exact⟨vt2,h2⟩
    ·have hq:findK 1 (.string (str ((src.drop s.pos).take j))) wordsM.toList 0=some none:=(findK_words (x:=(src.drop s.pos).take j) (ws:=wordsL) (n:=0) (i:=0)).2 hw
     rw[if_neg hw]
     repeat' (first | (simp (disch:=first | omega | (decide +kernel)) only[↓RD,RU,↓putF_get,↓evF_t,↓evF_c,set_get,getD_zero,pop,lop,wop,ρ0,ρ1,↓reduceIte,Nat.reduceEqDiff,reduceCtorEq,ρ5,ρ6,bnd,lkV,lkR,isKey,nxtV,ρ28,ρ29,hag,hit,str_size,hdl,hob1,hpd,str_ext,Nat.add_sub_cancel_left,hq,hmap]) | (with_reducible first | refine condK_dec (fun _=> ?_) fun _=> ?_ | refine grd_dec (fun _=> ?_) fun _=> ?_ | refine egrd_dec (fun _=> ?_) fun _=> ?_))
     refine(put_wp (s:=atS s j) (h1.iter hit (by omega)) 4 s.line ((src.drop s.pos).take j) hb).mono fun v2 K2 ⟨vt2,h2⟩=> ?_
     repeat' (first | (simp (disch:=first | omega | (decide +kernel)) only[↓RD,RU,resL]) | (with_reducible first | refine condK_dec (fun _=> ?_) fun _=> ?_ | refine grd_dec (fun _=> ?_) fun _=> ?_ | refine egrd_dec (fun _=> ?_) fun _=> ?_))
     all_goals exact⟨vt2,h2⟩
 ·have hno:=nW_no (p:=isAlN) (l:=src.drop (s.pos+j)) (.inl (List.drop_eq_nil_of_le (by omega)))
  have e:j=N:=by omega
  subst e
  have hmap:=h1.mp
  have hml:=h1.ml
  have hmn:m≠K.nx:=fun e=>by rw[e,hit] at hmap;cases hmap
  by_cases hw:(src.drop s.pos).take j∈wordsL
  ·obtain⟨q,hq⟩:=(findK_words (x:=(src.drop s.pos).take j) (ws:=wordsL) (n:=0) (i:=0)).1 hw
   have hq:findK 1 (.string (str ((src.drop s.pos).take j))) wordsM.toList 0=some (some (q, .int .i64 1)):=hq
   rw[if_pos hw]
   repeat' (first | (simp (disch:=first | omega | (decide +kernel)) only[↓RD,RU,↓putF_get,↓evF_t,↓evF_c,getD_zero,pop,lop,wop,ρ0,ρ1,↓reduceIte,Nat.reduceEqDiff,reduceCtorEq,ρ5,ρ6,bnd,lkV,lkR,isKey,nxtV,ρ28,ρ29,hag,hit,str_size,hdl,hob1,hpd,str_ext,Nat.add_sub_cancel_left,hq,hmap]) | (with_reducible first | refine condK_dec (fun _=> ?_) fun _=> ?_ | refine grd_dec (fun _=> ?_) fun _=> ?_ | refine egrd_dec (fun _=> ?_) fun _=> ?_))
   refine(put_wp (s:=atS s j) (h1) 8 s.line ((src.drop s.pos).take j) hb).mono fun v2 K2 ⟨vt2,h2⟩=> ?_
   repeat' (first | (simp (disch:=first | omega | (decide +kernel)) only[↓RD,RU,resL]) | (with_reducible first | refine condK_dec (fun _=> ?_) fun _=> ?_ | refine grd_dec (fun _=> ?_) fun _=> ?_ | refine egrd_dec (fun _=> ?_) fun _=> ?_))
   all_goals exact⟨vt2,h2⟩
  ·have hq:findK 1 (.string (str ((src.drop s.pos).take j))) wordsM.toList 0=some none:=(findK_words (x:=(src.drop s.pos).take j) (ws:=wordsL) (n:=0) (i:=0)).2 hw
   rw[if_neg hw]
   repeat' (first | (simp (disch:=first | omega | (decide +kernel)) only[↓RD,RU,↓putF_get,↓evF_t,↓evF_c,getD_zero,pop,lop,wop,ρ0,ρ1,↓reduceIte,Nat.reduceEqDiff,reduceCtorEq,ρ5,ρ6,bnd,lkV,lkR,isKey,nxtV,ρ28,ρ29,hag,hit,str_size,hdl,hob1,hpd,str_ext,Nat.add_sub_cancel_left,hq,hmap]) | (with_reducible first | refine condK_dec (fun _=> ?_) fun _=> ?_ | refine grd_dec (fun _=> ?_) fun _=> ?_ | refine egrd_dec (fun _=> ?_) fun _=> ?_))
   refine(put_wp (s:=atS s j) (h1) 4 s.line ((src.drop s.pos).take j) hb).mono fun v2 K2 ⟨vt2,h2⟩=> ?_
   repeat' (first | (simp (disch:=first | omega | (decide +kernel)) only[↓RD,RU,resL]) | (with_reducible first | refine condK_dec (fun _=> ?_) fun _=> ?_ | refine grd_dec (fun _=> ?_) fun _=> ?_ | refine egrd_dec (fun _=> ?_) fun _=> ?_))
   all_goals exact⟨vt2,h2⟩
end Can
end Go.Proofs.YtdfgkcoenagaaaaGreat
end
section
namespace Go.Proofs.YtdfgkcoenagaaaaGreat
namespace Can
open Go Go.RowKit
set_option linter.unusedSimpArgs false
set_option linter.unusedVariables false
set_option maxRecDepth 4000
theorem RdAt.adv{A K:CH}{p:Nat}{src:List UInt8}{s:RS}{vo vt:Value}{m:Nat}(h:RdAt A K p src s vo vt m)(j:Nat)(hj:s.pos+j≤100000) :
 RdAt A (K.set p (.cells [.string (str src), .int .i64 ((s.pos+j:Nat):Int), .int .i64 s.line, .int .i64 s.dep,vo,vt, .map (some m), .int .i64 s.err, .int .i64 s.wh] 55 .ex)) p src (atS s j) vo vt m:=
 h.set (s':=atS s j) rfl rfl (atS_bd h.bd hj)
theorem n2{a:Nat}:((a:Int)+2)=((a+2:Nat):Int):=rfl
def OnlyP(K K':CH)(p:Nat):Prop:=K.nx≤K'.nx∧∀l,l<K.nx→l≠p→K'.ob l=K.ob l
theorem OnlyP.set{K:CH}{p:Nat}{o:CObj}:OnlyP K (K.set p o) p:=⟨Nat.le_refl _,fun l _ h=>by rw[set_get,if_neg h]⟩
theorem OnlyP.trans{A K K':CH}{p:Nat}(h:OnlyP A K p)(k:OnlyP K K' p):OnlyP A K' p:=⟨Nat.le_trans h.1 k.1,fun l h1 h2=>(k.2 l (Nat.lt_of_lt_of_le h1 h.1) h2).trans (h.2 l h1 h2)⟩
theorem failS_0{s:RS}{l e:Nat}(h:s.err=0):failS s l e= { s with err:=e,wh:=l }:=if_pos h
theorem fail_wp0{A K:CH}{p:Nat}{src:List UInt8}{s:RS}{vo vt:Value}{m:Nat}(h:RdAt A K p src s vo vt m)(line e:Nat)(h1:line≤100000)(h2:e≤100)(he:s.err=0) :
 WpF (tblG Tryz.prog LG GG) 54 [.pointer (some ⟨p,0,none⟩), .int .i64 line, .int .i64 e] K fun v K'=>RdAt A K' p src { s with err:=e,wh:=line } vo vt m∧OnlyP K K' p:=by
 have hob:=h.ob
 have hp:=h.pl
 refine wpF_rG (by rfl) (by kernel_rfl) ?_;(conv in (rF _ _).body=>reduce);(conv in (rF _ _).res=>reduce)
 repeat' (first | (simp (disch:=first | omega | (decide +kernel)) only[↓RD,RU,↓putF_get,↓putF_none,↓evF_t,↓evF_c,set_get,getD_zero,getD_succ,pop,lop,wop,resL,isVal,isCell,Value.cells,↓reduceIte,Nat.reduceEqDiff,Nat.reduceAdd,Int.reduceOfNat,reduceCtorEq,ρ5,ρ6,ρ7,ρ8,ρ17,ρ18,ρ19,ρ20,ρ21,ρ22,ρ23,Kd.isRo,ρ25,ρ26,Nat.reduceLeDiff,CH.set_set,hob,he]) | (with_reducible first | refine condK_dec (fun _=> ?_) fun _=> ?_ | refine grd_dec (fun _=> ?_) fun _=> ?_ | refine egrd_dec (fun _=> ?_) fun _=> ?_))
 all_goals exact⟨h.set (s':= { s with err:=e,wh:=line }) rfl rfl ⟨h.bd.pos,h.bd.line,h.bd.dep,h2,h1,h.bd.out⟩,OnlyP.set⟩
theorem hexN_16{n:Nat}:hexN n≤16:=by
 unfold hexN
 (repeat' split)<;>omega
def EscOut(A K K':CH)(p:Nat)(src:List UInt8)(s:RS)(vo vt:Value)(m:Nat)(v:Value)(r:Option (Nat×Nat)):Prop:=OnlyP K K' p∧match r with
 | some (b,n)=>v= .int .u8 (b:Nat)∧RdAt A K' p src (atS s n) vo vt m
 | none=>v= .int .u8 0∧RdAt A K' p src { atS s 1 with err:=20,wh:=s.line } vo vt m
theorem escape_wp{A K:CH}{p:Nat}{src:List UInt8}{s:RS}{vo vt:Value}{m:Nat}(h:RdAt A K p src s vo vt m)(hp:s.pos≤50000)(h0:s.err=0) :
 WpF (tblG Tryz.prog LG GG) 76 [.pointer (some ⟨p,0,none⟩)] K fun v K'=>EscOut A K K' p src s vo vt m v (escN (src.drop s.pos)):=by
 have hsl:=h.sl
 have hob:=h.ob
 have hpl:=h.pl
 have hln:=h.bd.line
 obtain⟨l,hl⟩ : ∃l,src.drop s.pos=l:=⟨_,rfl⟩
 have hdr : ∀j,src.drop (s.pos+j)=l.drop j:=fun j=>by rw[←hl,List.drop_drop]
 have p0:= @peek0 _ _ _ _ _ _ _ _ h
 rw[hl] at p0⊢
 have h1:=h.adv 1 (by omega)
 have e1:(atS s 1).pos=s.pos+1:=rfl
 have q0:= @peek0 _ _ _ _ _ _ _ _ h1
 have q1:= @peek1 _ _ _ _ _ _ _ _ h1
 simp only[e1,Nat.add_assoc,hdr] at q0 q1
 refine wpF_rG (by rfl) (by kernel_rfl) ?_;(conv in (rF _ _).body=>reduce);(conv in (rF _ _).res=>reduce)
 by_cases c1:hd l=120
 ·have hx:= @hd_lt (l.drop 1)
  have hy:= @hd_lt (l.drop 2)
  have x16:= @hexN_16 (hd (l.drop 1))
  have y16:= @hexN_16 (hd (l.drop 2))
  by_cases c2:hexN (hd (l.drop 1))<16∧hexN (hd (l.drop 2))<16
  ·have he:escN l=some (16*hexN (hd (l.drop 1))+hexN (hd (l.drop 2)),3):=by unfold escN;rw[if_pos c1,if_pos c2]
   rw[he]
   repeat' (first | (simp (disch:=first | omega | (decide +kernel)) only[↓RD,RU,↓putF_get,↓putF_none,↓evF_t,↓evF_c,set_get,getD_zero,pop,lop,wop,resL,resV,tupleV,isVal,isCell,Value.cells,ρ0,ρ1,↓reduceIte,Nat.reduceEqDiff,Nat.reduceAdd,Int.reduceOfNat,reduceCtorEq,ρ5,ρ6,ρ7,ρ8,ρ17,ρ18,ρ19,ρ20,ρ22,ρ23,Kd.isRo,ρ25,ρ26,Nat.reduceLeDiff,CH.set_set,p0,c1,hob,n1,n2,q0,q1,half_iff hx,half_iff hy]) | (with_reducible first | refine condK_dec (fun _=> ?_) fun _=> ?_ | refine grd_dec (fun _=> ?_) fun _=> ?_ | refine egrd_dec (fun _=> ?_) fun _=> ?_))
   all_goals first | (exfalso;omega) | exact⟨OnlyP.set,rfl,h.adv 3 (by omega)⟩
  ·have he:escN l=none:=by unfold escN;rw[if_pos c1,if_neg c2]
   rw[he]
   repeat' (first | (simp (disch:=first | omega | (decide +kernel)) only[↓RD,RU,↓putF_get,↓putF_none,↓evF_t,↓evF_c,set_get,getD_zero,pop,lop,wop,isVal,isCell,Value.cells,ρ0,ρ1,↓reduceIte,Nat.reduceEqDiff,Nat.reduceAdd,Int.reduceOfNat,reduceCtorEq,ρ5,ρ6,ρ7,ρ8,ρ17,ρ18,ρ19,ρ20,ρ22,ρ23,Kd.isRo,ρ25,ρ26,Nat.reduceLeDiff,p0,c1,hob,n1,q0,q1,half_iff hx,half_iff hy]) | (with_reducible first | refine condK_dec (fun _=> ?_) fun _=> ?_ | refine grd_dec (fun _=> ?_) fun _=> ?_ | refine egrd_dec (fun _=> ?_) fun _=> ?_))
   all_goals first | (exfalso;omega) | skip
   all_goals
    refine(fail_wp0 h1 s.line 20 hln (by decide) h0).mono fun v2 K2 ⟨h2,h3⟩=> ?_
    repeat' (first | (simp (disch:=first | omega | (decide +kernel)) only[↓RD,RU,↓putF_get,↓evF_c,pop,resL,resV,tupleV,↓reduceIte]) | (with_reducible first | refine condK_dec (fun _=> ?_) fun _=> ?_ | refine grd_dec (fun _=> ?_) fun _=> ?_ | refine egrd_dec (fun _=> ?_) fun _=> ?_))
    all_goals exact⟨OnlyP.set.trans h3,rfl,h2⟩
 ·have cs:hd l=110∨hd l=116∨hd l=92∨hd l=39∨hd l=34∨(hd l≠110∧hd l≠116∧hd l≠92∧hd l≠39∧hd l≠34):=by omega
  rcases cs with c | c | c | c | c | ⟨c2,c3,c4,c5,c6⟩
  ·have he:escN l=some (10,1):=by unfold escN;rw[if_neg c1,c];rfl
   rw[he]
   repeat' (first | (simp (disch:=first | omega | (decide +kernel)) only[↓RD,RU,↓putF_get,↓putF_none,↓evF_t,↓evF_c,getD_zero,pop,lop,wop,resL,resV,tupleV,isVal,isCell,Value.cells,ρ0,ρ1,↓reduceIte,Nat.reduceEqDiff,Nat.reduceAdd,Int.reduceOfNat,reduceCtorEq,ρ5,ρ6,ρ7,ρ8,ρ17,ρ18,ρ19,ρ20,ρ22,ρ23,Kd.isRo,ρ25,ρ26,Nat.reduceLeDiff,p0,c,hob,n1]) | (with_reducible first | refine condK_dec (fun _=> ?_) fun _=> ?_ | refine grd_dec (fun _=> ?_) fun _=> ?_ | refine egrd_dec (fun _=> ?_) fun _=> ?_))
   all_goals exact⟨OnlyP.set,rfl,h1⟩
  ·have he:escN l=some (9,1):=by unfold escN;rw[if_neg c1,c];rfl
   rw[he]
   repeat' (first | (simp (disch:=first | omega | (decide +kernel)) only[↓RD,RU,↓putF_get,↓putF_none,↓evF_t,↓evF_c,getD_zero,pop,lop,wop,resL,resV,tupleV,isVal,isCell,Value.cells,ρ0,ρ1,↓reduceIte,Nat.reduceEqDiff,Nat.reduceAdd,Int.reduceOfNat,reduceCtorEq,ρ5,ρ6,ρ7,ρ8,ρ17,ρ18,ρ19,ρ20,ρ22,ρ23,Kd.isRo,ρ25,ρ26,Nat.reduceLeDiff,p0,c,hob,n1]) | (with_reducible first | refine condK_dec (fun _=> ?_) fun _=> ?_ | refine grd_dec (fun _=> ?_) fun _=> ?_ | refine egrd_dec (fun _=> ?_) fun _=> ?_))
   all_goals exact⟨OnlyP.set,rfl,h1⟩
  ·have he:escN l=some (92,1):=by unfold escN;rw[if_neg c1,c];rfl
   rw[he]
   repeat' (first | (simp (disch:=first | omega | (decide +kernel)) only[↓RD,RU,↓putF_get,↓putF_none,↓evF_t,↓evF_c,getD_zero,pop,lop,wop,resL,resV,tupleV,isVal,isCell,Value.cells,ρ0,ρ1,↓reduceIte,Nat.reduceEqDiff,Nat.reduceAdd,Int.reduceOfNat,reduceCtorEq,ρ5,ρ6,ρ7,ρ8,ρ17,ρ18,ρ19,ρ20,ρ22,ρ23,Kd.isRo,ρ25,ρ26,Nat.reduceLeDiff,p0,c,hob,n1]) | (with_reducible first | refine condK_dec (fun _=> ?_) fun _=> ?_ | refine grd_dec (fun _=> ?_) fun _=> ?_ | refine egrd_dec (fun _=> ?_) fun _=> ?_))
   all_goals exact⟨OnlyP.set,rfl,h1⟩
  ·have he:escN l=some (39,1):=by unfold escN;rw[if_neg c1,c];rfl
   rw[he]
   repeat' (first | (simp (disch:=first | omega | (decide +kernel)) only[↓RD,RU,↓putF_get,↓putF_none,↓evF_t,↓evF_c,getD_zero,pop,lop,wop,resL,resV,tupleV,isVal,isCell,Value.cells,ρ0,ρ1,↓reduceIte,Nat.reduceEqDiff,Nat.reduceAdd,Int.reduceOfNat,reduceCtorEq,ρ5,ρ6,ρ7,ρ8,ρ17,ρ18,ρ19,ρ20,ρ22,ρ23,Kd.isRo,ρ25,ρ26,Nat.reduceLeDiff,p0,c,hob,n1]) | (with_reducible first | refine condK_dec (fun _=> ?_) fun _=> ?_ | refine grd_dec (fun _=> ?_) fun _=> ?_ | refine egrd_dec (fun _=> ?_) fun _=> ?_))
   all_goals exact⟨OnlyP.set,rfl,h1⟩
  ·have he:escN l=some (34,1):=by unfold escN;rw[if_neg c1,c];rfl
   rw[he]
   repeat' (first | (simp (disch:=first | omega | (decide +kernel)) only[↓RD,RU,↓putF_get,↓putF_none,↓evF_t,↓evF_c,getD_zero,pop,lop,wop,resL,resV,tupleV,isVal,isCell,Value.cells,ρ0,ρ1,↓reduceIte,Nat.reduceEqDiff,Nat.reduceAdd,Int.reduceOfNat,reduceCtorEq,ρ5,ρ6,ρ7,ρ8,ρ17,ρ18,ρ19,ρ20,ρ22,ρ23,Kd.isRo,ρ25,ρ26,Nat.reduceLeDiff,p0,c,hob,n1]) | (with_reducible first | refine condK_dec (fun _=> ?_) fun _=> ?_ | refine grd_dec (fun _=> ?_) fun _=> ?_ | refine egrd_dec (fun _=> ?_) fun _=> ?_))
   all_goals exact⟨OnlyP.set,rfl,h1⟩
  ·have he:escN l=none:=by
    unfold escN stdN
    rw[if_neg c1,if_neg (by simp[c2,c3,c4,c5,c6])]
   rw[he]
   repeat' (first | (simp (disch:=first | omega | (decide +kernel)) only[↓RD,RU,↓putF_get,↓putF_none,↓evF_t,↓evF_c,set_get,getD_zero,pop,lop,wop,isVal,isCell,Value.cells,ρ0,ρ1,↓reduceIte,Nat.reduceEqDiff,Nat.reduceAdd,Int.reduceOfNat,reduceCtorEq,ρ5,ρ6,ρ7,ρ8,ρ17,ρ18,ρ19,ρ20,ρ22,ρ23,Kd.isRo,ρ25,ρ26,Nat.reduceLeDiff,p0,hob,n1]) | (with_reducible first | refine condK_dec (fun _=> ?_) fun _=> ?_ | refine grd_dec (fun _=> ?_) fun _=> ?_ | refine egrd_dec (fun _=> ?_) fun _=> ?_))
   all_goals
    refine(fail_wp0 h1 s.line 20 hln (by decide) h0).mono fun v2 K2 ⟨h2,h3⟩=> ?_
    repeat' (first | (simp (disch:=first | omega | (decide +kernel)) only[↓RD,RU,↓putF_get,↓evF_c,pop,resL,resV,tupleV,↓reduceIte]) | (with_reducible first | refine condK_dec (fun _=> ?_) fun _=> ?_ | refine grd_dec (fun _=> ?_) fun _=> ?_ | refine egrd_dec (fun _=> ?_) fun _=> ?_))
    all_goals exact⟨OnlyP.set.trans h3,rfl,h2⟩
def u8s (l:List UInt8):List Int:=l.map fun c=>(c.toNat:Int)
theorem u8s_ints{l:List UInt8}:(u8s l).flatMap (ints .u8)=(l.map fun c=>(.int .u8 (c.toNat:Int):Value)):=by
 rw[flat_ints];simp[u8s]
theorem byteList_u8s : ∀ {l:List UInt8},byteList (l.map fun c=>(.int .u8 (c.toNat:Int):Value))=some l
 | []=>rfl
 | c::l=>by
   simp only[List.map_cons,byteList,byteList_u8s,Option.map_some,Int.toNat_natCast]
   congr 2
   apply UInt8.toNat.inj
   simp
theorem RdAt.app8{A K K':CH}{p:Nat}{src:List UInt8}{s:RS}{vo vt v:Value}{m:Nat}{xs:List Int}(h:RdAt A K p src s vo vt m)(hG:Grw A 5 1 (ints .u8) K v xs)(hx:HExt A K')(hn:K.nx≤K'.nx)(hk : ∀l,l<K.nx→(∀o n c,v≠ .slice (some ⟨l,o,none⟩) n c)→K'.ob l=K.ob l):RdAt A K' p src s vo vt m:=by
 obtain⟨b,kd,c,os,h1,h2,h3,h4,h5⟩:=h.opn
 have hne : ∀l cs e k,K.ob l= .cells cs e k→e≠5→∀o n c,v≠ .slice (some ⟨l,o,none⟩) n c:=fun l cs e k hl hne o n c hv=>by
  rcases hG with ⟨_,g⟩ | ⟨b',kd',e',g1,g2,g3,g4⟩
  ·rw[g] at hv;cases hv
  ·rw[e'] at hv;cases hv
   rw[hl] at g3;exact hne (CObj.cells.inj g3).2.1
 have hm : ∀o n c,v≠ .slice (some ⟨m,o,none⟩) n c:=fun o n c hv=>by
  rcases hG with ⟨_,g⟩ | ⟨b',kd',e',g1,g2,g3,g4⟩
  ·rw[g] at hv;cases hv
  ·rw[e'] at hv;cases hv
   rw[h.mp] at g3;cases g3
 refine⟨(hk p h.pl (hne _ _ _ _ h.ob (by decide))).trans h.ob,Nat.lt_of_lt_of_le h.pl hn,h.pa,⟨b,kd,c,os,h1,h2,Nat.lt_of_lt_of_le h3 hn,(hk b h3 (hne _ _ _ _ h4 (by decide))).trans h4,h5⟩,?_,(hk m h.ml hm).trans h.mp,Nat.lt_of_lt_of_le h.ml hn,h.ma,hx,h.bd,h.sl⟩
 rcases h.out with g | ⟨b2,kd2,e2,g1,g2,g3,g4⟩
 ·exact .inl g
 ·exact .inr ⟨b2,kd2,e2,g1,Nat.lt_of_lt_of_le g2 hn,(hk b2 g2 (hne _ _ _ _ g3 (by decide))).trans g3,g4⟩
theorem grw8_set{A K:CH}{p:Nat}{src:List UInt8}{s:RS}{vo vt v:Value}{m:Nat}{xs:List Int}(hG:Grw A 5 1 (ints .u8) K v xs)(h:RdAt A K p src s vo vt m)(o:CObj):Grw A 5 1 (ints .u8) (K.set p o) v xs:=by
 rcases hG with g | ⟨b',kd',e',g1,g2,g3,g4⟩
 ·exact .inl g
 ·refine .inr ⟨b',kd',e',g1,g2,?_,g4⟩
  rw[set_get,if_neg]
  ·exact g3
  ·intro e
   rw[e,h.ob] at g3
   have:=(CObj.cells.inj g3).2.1
   revert this;decide
theorem esc_le{l:List UInt8}{b n:Nat}(h:escN l=some (b,n)):n≤l.length∧b<256:=by
 have hx:= @hexN_16 (hd (l.drop 1))
 unfold escN at h
 split at h
 ·split at h
  ·rename_i g
   cases h
   have h2:hd (l.drop 2)≠0:=fun e=>by have:=g.2;rw[e] at this;exact absurd this (by decide)
   have:=hd_pos h2
   simp at this
   omega
  ·cases h
 ·split at h
  ·rename_i g1 g
   cases h
   have h0:hd l≠0:=fun e=>g (by rw[e];decide)
   have:=hd_pos h0
   refine⟨by omega,?_⟩
   unfold stdN
   have:= @hd_lt l
   (repeat' split)<;>omega
  ·cases h
theorem strN_fuel{q:Nat} : ∀ {f g:Nat} {l:List UInt8},l.length<f→l.length<g→strN q f l=strN q g l
 | 0,_,_,h,_=>absurd h (by omega)
 | _,0,_,_,h=>absurd h (by omega)
 | f+1,g+1,l,hf,hg=>by
   unfold strN
   by_cases c1:hd l=q
   ·rw[if_pos c1,if_pos c1]
   rw[if_neg c1,if_neg c1]
   by_cases c2:hd l<32
   ·rw[if_pos c2,if_pos c2]
   rw[if_neg c2,if_neg c2]
   have hl:0<l.length:=hd_pos (by omega)
   by_cases c3:hd l=92
   ·rw[if_neg (by simpa using c3),if_neg (by simpa using c3)]
    cases escN (l.drop 1) with
    | none=>rfl
    | some x=>
      simp only
      rw[strN_fuel (f:=f) (g:=g) (by simp;omega) (by simp;omega)]
   ·rw[if_pos c3,if_pos c3,strN_fuel (f:=f) (g:=g) (by simp;omega) (by simp;omega)]
def BadAt(A K:CH)(p:Nat)(src:List UInt8)(s:RS)(vo:Value)(m:Nat):Prop:=∃vt' s',RdAt A K p src s' vo vt' m∧s'.err=20∧s'.wh=s.line∧s'.dep=s.dep∧s'.opn=s.opn∧s'.out.length≤s.out.length+1∧s.pos<s'.pos∧s'.pos≤src.length+4∧s'.line=s.line
def TxtOut(A K:CH)(p:Nat)(src:List UInt8)(s:RS)(vo:Value)(m:Nat)(r:Option (List UInt8×Nat)):Prop:=match r with
 | some (x,n)=>∃vt',RdAt A K p src (putS (atS s (n+1)) 7 s.line x) vo vt' m
 | none=>BadAt A K p src s vo m
theorem atS_two{s:RS}{i j k:Nat}(h:i+j=k):atS (atS s i) j=atS s k:=by subst h;simp only[atS,Nat.add_assoc]
theorem text_wp{A K:CH}{p:Nat}{src:List UInt8}{s:RS}{vo vt:Value}{m:Nat}(h:RdAt A K p src s vo vt m)(hp:s.pos<src.length)(h0:s.err=0)(hq:32≤hd (src.drop s.pos)∧hd (src.drop s.pos)≠92)(hb:s.out.length+s.opn.length<1000000) :
 WpF (tblG Tryz.prog LG GG) 59 [.pointer (some ⟨p,0,none⟩)] K fun v K'=>TxtOut A K' p src s vo m (strT (hd (src.drop s.pos)) (src.drop (s.pos+1))):=by
 have hsl:=h.sl
 have hob:=h.ob
 have hpl:=h.pl
 have hpa:=h.pa
 have hln:=h.bd.line
 obtain⟨q,hqe⟩ : ∃q,hd (src.drop s.pos)=q:=⟨_,rfl⟩
 rw[hqe] at hq⊢
 have p0:= @peek0 _ _ _ _ _ _ _ _ h
 rw[hqe] at p0
 have h1:=h.adv 1 (by omega)
 obtain⟨L,hL⟩ : ∃L,src.drop (s.pos+1)=L:=⟨_,rfl⟩
 have hLl:L.length=src.length-(s.pos+1):=by rw[←hL];simp
 have hdr : ∀j,src.drop (s.pos+1+j)=L.drop j:=fun j=>by rw[←hL,List.drop_drop]
 rw[hL]
 refine wpF_rG (by rfl) (by kernel_rfl) ?_;(conv in (rF _ _).body=>reduce);(conv in (rF _ _).res=>reduce)
 repeat' (first | (simp (disch:=first | omega | (decide +kernel)) only[↓RD,RU,↓putF_get,↓putF_none,↓evF_t,↓evF_c,getD_zero,pop,lop,wop,isVal,isCell,Value.cells,ρ0,ρ1,↓reduceIte,Nat.reduceEqDiff,Nat.reduceAdd,Int.reduceOfNat,reduceCtorEq,ρ5,ρ6,ρ7,ρ8,ρ17,ρ18,ρ19,ρ20,ρ22,ρ23,Kd.isRo,ρ25,ρ26,Nat.reduceLeDiff,p0,hob,n1]) | (with_reducible first | refine condK_dec (fun _=> ?_) fun _=> ?_ | refine grd_dec (fun _=> ?_) fun _=> ?_ | refine egrd_dec (fun _=> ?_) fun _=> ?_))
 refine loop_w (fun n fr K1=>(∃(j f:Nat) (acc:List UInt8) (vb:Value),n=f+1∧j+f=L.length∧strT q L=(strN q (f+1) (L.drop j)).map (fun x=>(acc++x.1,x.2+j))∧fr 3=vb∧Grw A 5 1 (ints .u8) K1 vb (u8s acc)∧acc.length≤j∧RdAt A K1 p src (atS s (1+j)) vo vt m)∨
  (∃(j:Nat) (acc:List UInt8) (vb:Value),n=0∧j≤L.length+1∧strT q L=none∧fr 3=vb∧Grw A 5 1 (ints .u8) K1 vb (u8s acc)∧acc.length≤100000∧RdAt A K1 p src (failS (atS s (1+j)) s.line 20) vo vt m)) (n:=L.length+1) (.inl ⟨0,L.length,[],_,rfl,by omega,by simp[strT],by repeat' (first | (simp (disch:=first | omega | (decide +kernel)) only[↓putF_get,↓reduceIte]) | (with_reducible first | refine condK_dec (fun _=> ?_) fun _=> ?_ | refine grd_dec (fun _=> ?_) fun _=> ?_ | refine egrd_dec (fun _=> ?_) fun _=> ?_)), .inl ⟨rfl,rfl⟩,by simp,h1⟩) ?_
 rintro n fr K1 (⟨j,f,acc,vb,rfl,hjf,hst,f3,hG,hac,h2⟩ | ⟨j,acc,vb,rfl,hj,hst,f3,hG,hac,h2⟩) hag
 ·have hob2:=h2.ob
  have hpl2:=h2.pl
  have hpd2:(atS s (1+j)).pos=s.pos+1+j:=by show s.pos+(1+j)=_;omega
  have q0:= @peek0 _ _ _ _ _ _ _ _ h2
  rw[hpd2,hdr] at q0
  have he2:(atS s (1+j)).err=0:=h0
  have hl2:(atS s (1+j)).line=s.line:=rfl
  have hc:= @hd_lt (L.drop j)
  by_cases c1:hd (L.drop j)=q
  ·have hjl:j<L.length:=by
    have:=hd_pos (l:=L.drop j) (by omega)
    simp at this;omega
   have hres:strT q L=some (acc,j+1):=by rw[hst,strN,if_pos c1];simp;omega
   have h3:=h2.adv 1 (by rw[hpd2];omega)
   rw[hpd2] at h3
   simp only[he2,hl2] at h3
   rw[hres]
   rcases hG with ⟨e1,rfl⟩ | ⟨b,kd,rfl,g1,g2,g3,g4⟩
   ·have ea:acc= []:=by simpa[u8s] using e1
    subst ea
    repeat' (first | (simp (disch:=first | omega | (decide +kernel)) only[↓RD,RU,↓putF_get,↓putF_none,↓evF_t,↓evF_c,set_get,getD_zero,pop,lop,wop,isVal,isCell,Value.cells,ρ0,ρ1,↓reduceIte,Nat.reduceEqDiff,Nat.reduceAdd,reduceCtorEq,ρ5,ρ6,ρ7,ρ8,ρ17,ρ18,ρ19,ρ20,ρ22,ρ23,Kd.isRo,ρ25,ρ26,Nat.reduceLeDiff,ρ28,hag,hob2,he2,q0,c1,hpd2,str_size,n1,f3,hl2]) | (with_reducible first | refine condK_dec (fun _=> ?_) fun _=> ?_ | refine grd_dec (fun _=> ?_) fun _=> ?_ | refine egrd_dec (fun _=> ?_) fun _=> ?_))
    all_goals
     refine(put_wp h3 7 s.line [] hb).mono fun v5 K5 ⟨vt5,h5⟩=> ?_
     repeat' (first | (simp (disch:=first | omega | (decide +kernel)) only[↓RD,RU,resL]) | (with_reducible first | refine condK_dec (fun _=> ?_) fun _=> ?_ | refine grd_dec (fun _=> ?_) fun _=> ?_ | refine egrd_dec (fun _=> ?_) fun _=> ?_))
     all_goals exact⟨vt5,by rw[←atS_two (show 1+j+1=j+1+1 by omega)];exact h5⟩
   ·rw[u8s_ints] at g3
    have hul:(u8s acc).length=acc.length:=by simp[u8s]
    rw[hul] at f3
    have hbp:b≠p:=fun e=>by
     rw[e,hob2] at g3
     have:=(CObj.cells.inj g3).2.1
     revert this;decide
    repeat' (first | (simp (disch:=first | omega | (decide +kernel)) only[↓RD,RU,↓putF_get,↓putF_none,↓evF_t,↓evF_c,set_get,getD_zero,pop,lop,wop,isVal,isCell,Value.cells,ρ0,ρ1,ρ4,↓reduceIte,Nat.reduceEqDiff,Nat.reduceAdd,reduceCtorEq,ρ5,ρ6,ρ7,ρ8,ρ17,ρ18,ρ19,ρ20,ρ22,ρ23,Kd.isRo,ρ25,ρ26,Nat.reduceLeDiff,ρ28,hag,hob2,he2,q0,c1,hpd2,str_size,n1,f3,hl2,g3,hbp,byteList_u8s]) | (with_reducible first | refine condK_dec (fun _=> ?_) fun _=> ?_ | refine grd_dec (fun _=> ?_) fun _=> ?_ | refine egrd_dec (fun _=> ?_) fun _=> ?_))
    all_goals
     refine(put_wp h3 7 s.line acc hb).mono fun v5 K5 ⟨vt5,h5⟩=> ?_
     repeat' (first | (simp (disch:=first | omega | (decide +kernel)) only[↓RD,RU,resL]) | (with_reducible first | refine condK_dec (fun _=> ?_) fun _=> ?_ | refine grd_dec (fun _=> ?_) fun _=> ?_ | refine egrd_dec (fun _=> ?_) fun _=> ?_))
     all_goals exact⟨vt5,by rw[←atS_two (show 1+j+1=j+1+1 by omega)];exact h5⟩
  by_cases c2:hd (L.drop j)<32
  ·have hres:strT q L=none:=by rw[hst,strN,if_neg c1,if_pos c2];rfl
   rw[hres]
   repeat' (first | (simp (disch:=first | omega | (decide +kernel)) only[↓RD,RU,↓putF_get,↓evF_t,↓evF_c,getD_zero,pop,lop,ρ0,ρ1,↓reduceIte,Nat.reduceEqDiff,reduceCtorEq,ρ5,ρ6,ρ28,hag,hob2,he2,q0,hpd2,str_size,hl2]) | (with_reducible first | refine condK_dec (fun _=> ?_) fun _=> ?_ | refine grd_dec (fun _=> ?_) fun _=> ?_ | refine egrd_dec (fun _=> ?_) fun _=> ?_))
   all_goals
    refine(fail_wp h2 s.line 20 hln (by decide)).mono fun v3 K3 h3=> ?_
    repeat' (first | (simp (disch:=first | omega | (decide +kernel)) only[↓RD,RU,resL]) | (with_reducible first | refine condK_dec (fun _=> ?_) fun _=> ?_ | refine grd_dec (fun _=> ?_) fun _=> ?_ | refine egrd_dec (fun _=> ?_) fun _=> ?_))
    all_goals
     have hz:(atS s (1+j)).err=0:=h0
     unfold failS at h3
     rw[if_pos hz] at h3
     exact⟨vt,_,h3,rfl,rfl,rfl,rfl,Nat.le_succ _,by show s.pos<s.pos+(1+j);omega,by show s.pos+(1+j)≤_;omega,rfl⟩
  have hjl:j<L.length:=by
   have:=hd_pos (l:=L.drop j) (by omega)
   simp at this;omega
  obtain⟨f',rfl⟩ : ∃f',f=f'+1:=⟨f-1,by omega⟩
  have h3:=h2.adv 1 (by rw[hpd2];omega)
  rw[hpd2] at h3
  simp only[he2,hl2] at h3
  have hG3:=grw8_set hG h2 (.cells [.string (str src), .int .i64 ((s.pos+1+j+1:Nat):Int), .int .i64 s.line, .int .i64 (atS s (1+j)).dep,vo,vt, .map (some m), .int .i64 ((0:Nat):Int), .int .i64 (atS s (1+j)).wh] 55 .ex)
  have hE1:=h1.E
  by_cases c3:hd (L.drop j)=92
  ·have hdd:src.drop (atS (atS s (1+j)) 1).pos=L.drop (j+1):=by
    show src.drop (s.pos+(1+j)+1)=_
    rw[←hdr];congr 1;omega
   repeat' (first | (simp (disch:=first | omega | (decide +kernel)) only[↓RD,RU,↓putF_get,↓putF_none,↓evF_t,↓evF_c,getD_zero,pop,lop,wop,isVal,isCell,Value.cells,ρ0,ρ1,↓reduceIte,Nat.reduceEqDiff,Nat.reduceAdd,reduceCtorEq,ρ5,ρ6,ρ7,ρ8,ρ17,ρ18,ρ19,ρ20,ρ22,ρ23,Kd.isRo,ρ25,ρ26,Nat.reduceLeDiff,ρ28,hag,hob2,he2,q0,hpd2,str_size,n1,c3,hl2]) | (with_reducible first | refine condK_dec (fun _=> ?_) fun _=> ?_ | refine grd_dec (fun _=> ?_) fun _=> ?_ | refine egrd_dec (fun _=> ?_) fun _=> ?_))
   refine(escape_wp h3 (by show s.pos+(1+j)+1≤_;omega) h0).mono fun v4 K4 ⟨hon,h4⟩=> ?_
   rw[hdd] at h4
   have hG4:Grw A 5 1 (ints .u8) K4 vb (u8s acc):=by
    rcases hG with g | ⟨b',kd',e',g1,g2,g3,g4⟩
    ·exact .inl g
    ·refine .inr ⟨b',kd',e',g1,Nat.lt_of_lt_of_le g2 hon.1,?_,g4⟩
     have hbp:b'≠p:=fun e=>by
      rw[e,hob2] at g3
      have:=(CObj.cells.inj g3).2.1
      revert this;decide
     rw[hon.2 b' g2 hbp,set_get,if_neg hbp]
     exact g3
   cases hes:escN (L.drop (j+1)) with
   | none=>
     rw[hes] at h4
     obtain⟨rfl,h4⟩:=h4
     have hres:strT q L=none:=by rw[hst,strN,if_neg c1,if_neg c2,if_neg (by simpa using c3),List.drop_drop,hes];rfl
     repeat' (first | (simp (disch:=first | omega | (decide +kernel)) only[↓RD,RU,↓putF_get,↓evF_t,new_get,pop,aop,akV,isVal,Value.cells,ρ0,ρ1,ρ4,↓reduceIte,Nat.reduceEqDiff,reduceCtorEq,ρ7,ρ8,srcR_c,ρ15,ρ17,ρ18,ρ21,ρ25,ρ26,bldV,Nat.reduceLeDiff,zeros_one,appS_some,f3]) | (with_reducible first | refine condK_dec (fun _=> ?_) fun _=> ?_ | refine grd_dec (fun _=> ?_) fun _=> ?_ | refine egrd_dec (fun _=> ?_) fun _=> ?_))
     refine optW_app (ints_ok .u8) (ys:= [(0:Int)]) (hG4.ext (by(repeat (first | assumption | exact HExt.refl _ | (refine HExt.set ?_ (by first | omega | (simp only[new_nx,set_nx];omega)) _) | (refine HExt.new ?_ _))))) (h4.E.trans (by(repeat (first | assumption | exact HExt.refl _ | (refine HExt.set ?_ (by first | omega | (simp only[new_nx,set_nx];omega)) _) | (refine HExt.new ?_ _))))) (by simp[u8s];omega) (by simp[u8s];omega) rfl rfl fun v' K5 j1 j2 j3 j4=> ?_
     have hu:u8s acc++ [(0:Int)]=u8s (acc++ [0]):=by simp[u8s]
     rw[hu] at j1
     have h5:=RdAt.app8 (h4.mv (K':=K4.new (.cells [.int .u8 0] 5 .ex)) (by(repeat (first | assumption | exact HExt.refl _ | (refine HExt.set ?_ (by first | omega | (simp only[new_nx,set_nx];omega)) _) | (refine HExt.new ?_ _))))) (hG4.ext (by(repeat (first | assumption | exact HExt.refl _ | (refine HExt.set ?_ (by first | omega | (simp only[new_nx,set_nx];omega)) _) | (refine HExt.new ?_ _))))) j2 j3 j4
     repeat' (first | (simp (disch:=first | omega | (decide +kernel)) only[↓RD,RU,↓putF_get,↓evF_t,pop,↓reduceIte]) | (with_reducible first | refine condK_dec (fun _=> ?_) fun _=> ?_ | refine grd_dec (fun _=> ?_) fun _=> ?_ | refine egrd_dec (fun _=> ?_) fun _=> ?_))
     all_goals exact⟨_,by omega, .inr ⟨j+2,_,v',rfl,by omega,hres,rfl,j1,by simp;omega,by rw[failS_0 (show(atS s (1+(j+2))).err=0 from h0),←atS_two (show 1+j+1+1=1+(j+2) by omega),←atS_two (show 1+j+1=1+j+1 by omega)];exact h5⟩⟩
   | some x=>
     obtain⟨b,n⟩:=x
     rw[hes] at h4
     obtain⟨rfl,h4⟩:=h4
     obtain⟨hnl,hb256⟩:=esc_le hes
     simp only[List.length_drop] at hnl
     obtain⟨f2,rfl⟩ : ∃f2,f'=f2+n:=⟨f'-n,by omega⟩
     have hst2:strT q L=(strN q (f2+1) (L.drop (j+1+n))).map (fun x=>((acc++ [UInt8.ofNat b])++x.1,x.2+(j+1+n))):=by
      rw[hst,strN,if_neg c1,if_neg c2,if_neg (by simpa using c3),List.drop_drop,hes]
      simp only[List.drop_drop]
      rw[strN_fuel (f:=f2+n+1) (g:=f2+1) (by simp;omega) (by simp;omega),show j+(1+n)=j+1+n by omega]
      cases strN q (f2+1) (L.drop (j+1+n)) with
      | none=>rfl
      | some x=>simp;omega
     repeat' (first | (simp (disch:=first | omega | (decide +kernel)) only[↓RD,RU,↓putF_get,↓evF_t,new_get,pop,aop,akV,isVal,Value.cells,ρ0,ρ1,ρ4,↓reduceIte,Nat.reduceEqDiff,reduceCtorEq,ρ7,ρ8,srcR_c,ρ15,ρ17,ρ18,ρ21,ρ25,ρ26,bldV,Nat.reduceLeDiff,zeros_one,appS_some,f3]) | (with_reducible first | refine condK_dec (fun _=> ?_) fun _=> ?_ | refine grd_dec (fun _=> ?_) fun _=> ?_ | refine egrd_dec (fun _=> ?_) fun _=> ?_))
     refine optW_app (ints_ok .u8) (ys:= [(b:Int)]) (hG4.ext (by(repeat (first | assumption | exact HExt.refl _ | (refine HExt.set ?_ (by first | omega | (simp only[new_nx,set_nx];omega)) _) | (refine HExt.new ?_ _))))) (h4.E.trans (by(repeat (first | assumption | exact HExt.refl _ | (refine HExt.set ?_ (by first | omega | (simp only[new_nx,set_nx];omega)) _) | (refine HExt.new ?_ _))))) (by simp[u8s];omega) (by simp[u8s];omega) rfl rfl fun v' K5 j1 j2 j3 j4=> ?_
     have hu:u8s acc++ [(b:Int)]=u8s (acc++ [UInt8.ofNat b]):=by simp[u8s];omega
     rw[hu] at j1
     have h5:=RdAt.app8 (h4.mv (K':=K4.new (.cells [.int .u8 (b:Int)] 5 .ex)) (by(repeat (first | assumption | exact HExt.refl _ | (refine HExt.set ?_ (by first | omega | (simp only[new_nx,set_nx];omega)) _) | (refine HExt.new ?_ _))))) (hG4.ext (by(repeat (first | assumption | exact HExt.refl _ | (refine HExt.set ?_ (by first | omega | (simp only[new_nx,set_nx];omega)) _) | (refine HExt.new ?_ _))))) j2 j3 j4
     repeat' (first | (simp (disch:=first | omega | (decide +kernel)) only[↓RD,RU,↓putF_get,↓evF_t,pop,↓reduceIte]) | (with_reducible first | refine condK_dec (fun _=> ?_) fun _=> ?_ | refine grd_dec (fun _=> ?_) fun _=> ?_ | refine egrd_dec (fun _=> ?_) fun _=> ?_))
     all_goals exact⟨_,by omega, .inl ⟨j+1+n,f2,_,v',rfl,by omega,hst2,rfl,j1,by simp;omega,by rw[←atS_two (show 1+j+1+n=1+(j+1+n) by omega),←atS_two (show 1+j+1=1+j+1 by omega)];exact h5⟩⟩
  ·have hst2:strT q L=(strN q (f'+1) (L.drop (j+1))).map (fun x=>((acc++ [UInt8.ofNat (hd (L.drop j))])++x.1,x.2+(j+1))):=by
    rw[hst,strN,if_neg c1,if_neg c2,if_pos c3,List.drop_drop]
    cases strN q (f'+1) (L.drop (j+1)) with
    | none=>rfl
    | some x=>simp;omega
   repeat' (first | (simp (disch:=first | omega | (decide +kernel)) only[↓RD,RU,↓putF_get,↓putF_none,↓evF_t,↓evF_c,set_nx,new_get,getD_zero,pop,lop,aop,wop,akV,isVal,isCell,Value.cells,ρ0,ρ1,ρ4,↓reduceIte,Nat.reduceEqDiff,Nat.reduceAdd,reduceCtorEq,ρ5,ρ6,ρ7,ρ8,srcR_c,ρ15,ρ17,ρ18,ρ19,ρ20,ρ21,ρ22,ρ23,Kd.isRo,ρ25,ρ26,bldV,Nat.reduceLeDiff,zeros_one,appS_some,ρ28,hag,hob2,he2,q0,hpd2,str_size,n1,hl2,f3]) | (with_reducible first | refine condK_dec (fun _=> ?_) fun _=> ?_ | refine grd_dec (fun _=> ?_) fun _=> ?_ | refine egrd_dec (fun _=> ?_) fun _=> ?_))
   refine optW_app (ints_ok .u8) (ys:= [(hd (L.drop j):Int)]) (hG3.ext (by(repeat (first | assumption | exact HExt.refl _ | (refine HExt.set ?_ (by first | omega | (simp only[new_nx,set_nx];omega)) _) | (refine HExt.new ?_ _))))) (h3.E.trans (by(repeat (first | assumption | exact HExt.refl _ | (refine HExt.set ?_ (by first | omega | (simp only[new_nx,set_nx];omega)) _) | (refine HExt.new ?_ _))))) (by simp[u8s];omega) (by simp[u8s];omega) rfl rfl fun v' K4 j1 j2 j3 j4=> ?_
   have hu:u8s acc++ [(hd (L.drop j):Int)]=u8s (acc++ [UInt8.ofNat (hd (L.drop j))]):=by simp[u8s];omega
   rw[hu] at j1
   have h5:=RdAt.app8 (h3.mv (K':=(K1.set p (.cells [.string (str src), .int .i64 ((s.pos+1+j+1:Nat):Int), .int .i64 s.line, .int .i64 (atS s (1+j)).dep,vo,vt, .map (some m), .int .i64 ((0:Nat):Int), .int .i64 (atS s (1+j)).wh] 55 .ex)).new (.cells [.int .u8 (hd (L.drop j):Int)] 5 .ex)) (by(repeat (first | assumption | exact HExt.refl _ | (refine HExt.set ?_ (by first | omega | (simp only[new_nx,set_nx];omega)) _) | (refine HExt.new ?_ _))))) (hG3.ext (by(repeat (first | assumption | exact HExt.refl _ | (refine HExt.set ?_ (by first | omega | (simp only[new_nx,set_nx];omega)) _) | (refine HExt.new ?_ _))))) j2 j3 j4
   repeat' (first | (simp (disch:=first | omega | (decide +kernel)) only[↓RD,RU,↓putF_get,↓evF_t,pop,↓reduceIte]) | (with_reducible first | refine condK_dec (fun _=> ?_) fun _=> ?_ | refine grd_dec (fun _=> ?_) fun _=> ?_ | refine egrd_dec (fun _=> ?_) fun _=> ?_))
   all_goals exact⟨_,by omega, .inl ⟨j+1,f',_,v',rfl,by omega,hst2,rfl,j1,by simp;omega,by rw[←atS_two (show 1+j+1=1+(j+1) by omega)];exact h5⟩⟩
 ·have hob2:=h2.ob
  have hpl2:=h2.pl
  have hfe:failS (atS s (1+j)) s.line 20= { atS s (1+j) with err:=20,wh:=s.line }:=failS_0 h0
  rw[hfe] at h2 hob2
  have he2:({ atS s (1+j) with err:=20,wh:=s.line }:RS).err=20:=rfl
  have hl2:({ atS s (1+j) with err:=20,wh:=s.line }:RS).line=s.line:=rfl
  rw[hst]
  have hbf:({ atS s (1+j) with err:=20,wh:=s.line }:RS).out.length+({ atS s (1+j) with err:=20,wh:=s.line }:RS).opn.length<1000000:=hb
  have hfin : ∀vt5 x K5,RdAt A K5 p src (putS { atS s (1+j) with err:=20,wh:=s.line } 7 s.line x) vo vt5 m→TxtOut A K5 p src s vo m none:=fun vt5 x K5 h5=>
   ⟨vt5,_,h5,rfl,rfl,rfl,rfl,by simp[putS,atS],by show s.pos<s.pos+(1+j);omega,by show s.pos+(1+j)≤_;omega,rfl⟩
  rcases hG with ⟨e1,rfl⟩ | ⟨b,kd,rfl,g1,g2,g3,g4⟩
  ·have ea:acc= []:=by simpa[u8s] using e1
   subst ea
   repeat' (first | (simp (disch:=first | omega | (decide +kernel)) only[↓RD,RU,↓putF_get,↓evF_t,↓evF_c,getD_zero,pop,lop,ρ0,ρ1,↓reduceIte,Nat.reduceEqDiff,reduceCtorEq,ρ5,ρ6,hag,hob2,f3]) | (with_reducible first | refine condK_dec (fun _=> ?_) fun _=> ?_ | refine grd_dec (fun _=> ?_) fun _=> ?_ | refine egrd_dec (fun _=> ?_) fun _=> ?_))
   all_goals
    refine(put_wp h2 7 s.line [] hbf).mono fun v5 K5 ⟨vt5,h5⟩=> ?_
    repeat' (first | (simp (disch:=first | omega | (decide +kernel)) only[↓RD,RU,resL]) | (with_reducible first | refine condK_dec (fun _=> ?_) fun _=> ?_ | refine grd_dec (fun _=> ?_) fun _=> ?_ | refine egrd_dec (fun _=> ?_) fun _=> ?_))
    all_goals exact hfin vt5 _ K5 h5
  ·rw[u8s_ints] at g3
   have hul:(u8s acc).length=acc.length:=by simp[u8s]
   rw[hul] at f3
   repeat' (first | (simp (disch:=first | omega | (decide +kernel)) only[↓RD,RU,↓putF_get,↓evF_t,↓evF_c,getD_zero,pop,lop,ρ0,ρ1,ρ4,↓reduceIte,Nat.reduceEqDiff,reduceCtorEq,ρ5,ρ6,ρ18,hag,hob2,f3,g3,byteList_u8s]) | (with_reducible first | refine condK_dec (fun _=> ?_) fun _=> ?_ | refine grd_dec (fun _=> ?_) fun _=> ?_ | refine egrd_dec (fun _=> ?_) fun _=> ?_))
   all_goals
    refine(put_wp h2 7 s.line acc hbf).mono fun v5 K5 ⟨vt5,h5⟩=> ?_
    repeat' (first | (simp (disch:=first | omega | (decide +kernel)) only[↓RD,RU,resL]) | (with_reducible first | refine condK_dec (fun _=> ?_) fun _=> ?_ | refine grd_dec (fun _=> ?_) fun _=> ?_ | refine egrd_dec (fun _=> ?_) fun _=> ?_))
    all_goals exact hfin vt5 _ K5 h5
end Can
end Go.Proofs.YtdfgkcoenagaaaaGreat
end
