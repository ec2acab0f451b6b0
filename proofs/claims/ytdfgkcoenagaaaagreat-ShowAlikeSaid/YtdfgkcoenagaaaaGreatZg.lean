/- Lex: numbers. -/
import Derived.Test.YtdfgkcoenagaaaaGreatZe
namespace Go.Proofs.YtdfgkcoenagaaaaGreat
namespace Can
open Go Go.RowKit
set_option linter.unusedSimpArgs false
set_option linter.unusedVariables false
set_option maxRecDepth 4000
set_option maxHeartbeats 2000000
def numS (s:RS)(l:List UInt8):RS:=putS (if numBad l=true then failS (atS s (numN l)) s.line 20 else atS s (numN l)) (numK l) s.line (l.take (numN l))
theorem dig_lt{l:List UInt8}{j:Nat}(h:isDigN (hd (l.drop j))=true):j<l.length:=by
 rcases Nat.lt_or_ge j l.length with g | g
 ·exact g
 ·rw[List.drop_eq_nil_of_le g] at h;cases h
theorem let101:isLetN 101=true:=by decide
theorem let46:isLetN 46=false:=by decide
theorem digN_le{l:List UInt8}:digN l≤l.length:=nW_le
theorem fail_len{s:RS}{a b:Nat}:(failS s a b).out=s.out∧(failS s a b).opn=s.opn:=by unfold failS;split<;>exact⟨rfl,rfl⟩
theorem number_wp{A K:CH}{p:Nat}{src:List UInt8}{s:RS}{vo vt:Value}{m:Nat}(h:RdAt A K p src s vo vt m)(hp:s.pos<src.length)(hdg:isDigN (hd (src.drop s.pos))=true)(hb:s.out.length+s.opn.length<1000000) :
 WpF (tblG Tryz.prog LG GG) 58 [.pointer (some ⟨p,0,none⟩)] K fun v K'=>∃vt',RdAt A K' p src (numS s (src.drop s.pos)) vo vt' m:=by
 have hsl:=h.sl
 have hob:=h.ob
 have hpl:=h.pl
 have hln:=h.bd.line
 obtain⟨l,hl⟩ : ∃l,src.drop s.pos=l:=⟨_,rfl⟩
 have hll:l.length=src.length-s.pos:=by rw[←hl];simp
 have hdr : ∀j,src.drop (s.pos+j)=l.drop j:=fun j=>by rw[←hl,List.drop_drop]
 have hdp : ∀j:Nat,(digN (l.drop j):Nat)≤l.length-j:=fun j=>by have:=digN_le (l:=l.drop j);simpa using this
 rw[hl] at hdg⊢
 have ha0:0<digN l:=by
  have:=nW_yes (p:=isDigN) (l:=l) (j:=0) (by omega) (by simpa using hdg)
  simp only[List.drop_zero] at this
  unfold digN;omega
 refine wpF_rG (by rfl) (by kernel_rfl) ?_;(conv in (rF _ _).body=>reduce);(conv in (rF _ _).res=>reduce)
 repeat' (first | (simp (disch:=first | omega | (decide +kernel)) only[↓RD,RU,↓putF_get,↓evF_t,↓evF_c,getD_zero,pop,lop,ρ0,ρ1,↓reduceIte,Int.reduceOfNat,reduceCtorEq,ρ5,ρ6,hob]) | (with_reducible first | refine condK_dec (fun _=> ?_) fun _=> ?_ | refine grd_dec (fun _=> ?_) fun _=> ?_ | refine egrd_dec (fun _=> ?_) fun _=> ?_))
 refine(run_wp h (by omega)).mono fun v1 K1 h1=> ?_
 rw[hl] at h1
 obtain⟨a,ha⟩ : ∃a,digN l=a:=⟨_,rfl⟩
 have hal:=digN_le (l:=l)
 rw[ha] at h1 hal ha0
 have hob1:=h1.ob
 have hpl1:=h1.pl
 have hpd1:(atS s a).pos=s.pos+a:=rfl
 have p0:= @peek0 _ _ _ _ _ _ _ _ h1
 have p1:= @peek1 _ _ _ _ _ _ _ _ h1
 have p2:= @peek2 _ _ _ _ _ _ _ _ h1
 simp only[hpd1,Nat.add_assoc,hdr] at p0 p1 p2
 by_cases hf:hd (l.drop a)=46∧isDigN (hd (l.drop (a+1)))=true
 ·obtain⟨hf1,hf2⟩:=hf
  have hal2:a<l.length:=by
   have:=hd_pos (l:=l.drop a) (by omega)
   simp at this;omega
  have hA:numA l=a+1+digN (l.drop (a+1)):=by
   unfold numA fracN
   rw[ha,List.drop_drop,if_pos ⟨hf1,hf2⟩];omega
  have hF:fracN (l.drop (digN l))≠0:=by
   unfold fracN
   rw[ha,List.drop_drop,if_pos ⟨hf1,hf2⟩];omega
  repeat' (first | (simp (disch:=first | omega | (decide +kernel)) only[↓RD,RU,↓putF_get,↓putF_none,↓evF_t,↓evF_c,getD_zero,pop,lop,wop,isVal,isCell,Value.cells,ρ0,ρ1,↓reduceIte,Nat.reduceEqDiff,Nat.reduceAdd,reduceCtorEq,ρ5,ρ6,ρ7,ρ8,ρ17,ρ18,ρ19,ρ20,ρ22,ρ23,Kd.isRo,ρ25,ρ26,Nat.reduceLeDiff,p0,p1,hf1,digit_iff,hf2,hob1,hpd1,n1]) | (with_reducible first | refine condK_dec (fun _=> ?_) fun _=> ?_ | refine grd_dec (fun _=> ?_) fun _=> ?_ | refine egrd_dec (fun _=> ?_) fun _=> ?_))
  refine(run_wp (s:=atS s (a+1)) (h1.set (s':=atS s (a+1)) rfl rfl (atS_bd h.bd (by omega))) (by show s.pos+(a+1)≤_;omega)).mono fun v2 K2 h2=> ?_
  have hq:(atS s (a+1)).pos=s.pos+(a+1):=rfl
  rw[hq,hdr] at h2
  have h2:RdAt A K2 p src (atS s (numA l)) vo vt m:=by
   have e:atS (atS s (a+1)) (digN (l.drop (a+1)))=atS s (numA l):=by rw[hA];simp only[atS];congr 1;omega
   rw[←e];exact h2
  obtain⟨b,hbA⟩ : ∃b,numA l=b:=⟨_,rfl⟩
  have hbl:b≤l.length:=by have:=hdp (a+1);rw[←hbA,hA];omega
  rw[hbA] at h2
  have hob2:=h2.ob
  have hpl2:=h2.pl
  have hpd2:(atS s b).pos=s.pos+b:=rfl
  have q0:= @peek0 _ _ _ _ _ _ _ _ h2
  have q1:= @peek1 _ _ _ _ _ _ _ _ h2
  have q2:= @peek2 _ _ _ _ _ _ _ _ h2
  simp only[hpd2,Nat.add_assoc,hdr] at q0 q1 q2
  by_cases he0:hd (l.drop b)=101
  ·by_cases he1:isDigN (hd (l.drop (b+1)))=true
   ·have hE:expN (l.drop b)=2+digN (l.drop (b+2)):=by
     have hlt:b+1<l.length:=by
      rcases Nat.lt_or_ge (b+1) l.length with g | g
      ·exact g
      ·rw[List.drop_eq_nil_of_le g] at he1;cases he1
     unfold expN
     rw[if_pos he0,List.drop_drop,if_pos he1]
     have:=nW_yes (p:=isDigN) hlt he1
     unfold digN
     rw[this]
     show 1+(nW isDigN (l.drop (b+2))+1)=_
     omega
    repeat' (first | (simp (disch:=first | omega | (decide +kernel)) only[↓RD,RU,↓putF_get,↓putF_none,↓evF_t,↓evF_c,getD_zero,pop,lop,wop,isVal,isCell,Value.cells,ρ0,ρ1,↓reduceIte,Nat.reduceEqDiff,Nat.reduceAdd,reduceCtorEq,ρ5,ρ6,ρ7,ρ8,ρ17,ρ18,ρ19,ρ20,ρ22,ρ23,Kd.isRo,ρ25,ρ26,Nat.reduceLeDiff,q0,q1,he0,digit_iff,he1,hob2,hpd2,n2]) | (with_reducible first | refine condK_dec (fun _=> ?_) fun _=> ?_ | refine grd_dec (fun _=> ?_) fun _=> ?_ | refine egrd_dec (fun _=> ?_) fun _=> ?_))
    refine(run_wp (s:=atS s (b+2)) (h2.set (s':=atS s (b+2)) rfl rfl (atS_bd h.bd (by omega))) (by show s.pos+(b+2)≤_;omega)).mono fun v3 K3 h3=> ?_
    have hq3:(atS s (b+2)).pos=s.pos+(b+2):=rfl
    rw[hq3,hdr] at h3
    have hN:numN l=b+(2+digN (l.drop (b+2))):=by unfold numN;rw[hbA,hE]
    have hNl:numN l≤l.length+2:=by have:=hdp (b+2);omega
    have h3:RdAt A K3 p src (atS s (numN l)) vo vt m:=by
     have e:atS (atS s (b+2)) (digN (l.drop (b+2)))=atS s (numN l):=by rw[hN];simp only[atS];congr 1;omega
     rw[←e];exact h3
    have hK:numK l=6:=by unfold numK;rw[if_neg];rintro⟨_,g⟩;rw[hbA,hE] at g;omega
    have hNN:numN l≤l.length:=by rw[hN];have:=hdp (b+2);have:=dig_lt he1;omega
    obtain⟨n,hn⟩ : ∃n,numN l=n:=⟨_,rfl⟩
    rw[hn] at h3 hNN
    have hob3:=h3.ob
    have hpl3:=h3.pl
    have hpd3:(atS s n).pos=s.pos+n:=rfl
    have r0:= @peek0 _ _ _ _ _ _ _ _ h3
    simp only[hpd3,hdr] at r0
    have hlen:(l.take n).length=n:=by simp;omega
    have hn0:0<n:=by omega
    have hget:(l.take n)[0]? = some l[0]:=by rw[List.getElem?_take,if_pos hn0];exact List.getElem?_eq_getElem _
    have hh0:hd l=l[0].toNat:=by have:=hd_drop (l:=l) (j:=0) (by omega);simpa using this
    cases hL:isLetN (hd (l.drop n)) with
    | true=>
      have hbad:numBad l=true:=by unfold numBad;rw[hn,hL];rfl
      repeat' (first | (simp (disch:=first | omega | (decide +kernel)) only[↓RD,RU,↓putF_get,↓evF_t,↓evF_c,getD_zero,pop,lop,ρ0,ρ1,↓reduceIte,Nat.reduceEqDiff,reduceCtorEq,ρ5,ρ6,bnd,ρ28,ρ29,hob3,hpd3,str_size,str_ext,Nat.add_sub_cancel_left,hl,r0,letter_iff,hL]) | (with_reducible first | refine condK_dec (fun _=> ?_) fun _=> ?_ | refine grd_dec (fun _=> ?_) fun _=> ?_ | refine egrd_dec (fun _=> ?_) fun _=> ?_))
      all_goals
       refine(fail_wp h3 s.line 20 (by omega) (by decide)).mono fun v4 K4 h4=> ?_
       have hob4:=h4.ob
       have hpl4:=h4.pl
       have hl4:(failS (atS s n) s.line 20).line=s.line:=by unfold failS;split<;>rfl
       repeat' (first | (simp (disch:=first | omega | (decide +kernel)) only[↓RD,RU,↓putF_get,↓evF_t,getD_zero,pop,lop,ρ0,ρ1,↓reduceIte,Nat.reduceEqDiff,reduceCtorEq,ρ5,ρ6,hob4,hl4]) | (with_reducible first | refine condK_dec (fun _=> ?_) fun _=> ?_ | refine grd_dec (fun _=> ?_) fun _=> ?_ | refine egrd_dec (fun _=> ?_) fun _=> ?_))
       refine(put_wp h4 6 s.line (l.take n) (by rw[fail_len.1,fail_len.2];exact hb)).mono fun v5 K5 ⟨vt5,h5⟩=> ?_
       repeat' (first | (simp (disch:=first | omega | (decide +kernel)) only[↓RD,RU,resL]) | (with_reducible first | refine condK_dec (fun _=> ?_) fun _=> ?_ | refine grd_dec (fun _=> ?_) fun _=> ?_ | refine egrd_dec (fun _=> ?_) fun _=> ?_))
       all_goals exact⟨vt5,by unfold numS;rw[if_pos hbad,hn,hK];exact h5⟩
    | false=>
      repeat' (first | (simp (disch:=first | omega | (decide +kernel)) only[↓RD,RU,↓putF_get,↓evF_t,↓evF_c,getD_zero,pop,lop,ρ0,ρ1,↓reduceIte,Nat.reduceEqDiff,reduceCtorEq,ρ5,ρ6,bnd,ρ28,ρ29,hob3,hpd3,str_size,str_ext,Nat.add_sub_cancel_left,hl,r0,letter_iff,hL,hlen]) | (with_reducible first | refine condK_dec (fun _=> ?_) fun _=> ?_ | refine grd_dec (fun _=> ?_) fun _=> ?_ | refine egrd_dec (fun _=> ?_) fun _=> ?_))
      all_goals first
       | (have hbad:numBad l=true:=by
           unfold numBad;rw[hn,hK,hL];simp;omega
          refine(fail_wp h3 s.line 20 (by omega) (by decide)).mono fun v4 K4 h4=> ?_
          have hob4:=h4.ob
          have hpl4:=h4.pl
          have hl4:(failS (atS s n) s.line 20).line=s.line:=by unfold failS;split<;>rfl
          repeat' (first | (simp (disch:=first | omega | (decide +kernel)) only[↓RD,RU,↓putF_get,↓evF_t,getD_zero,pop,lop,ρ0,ρ1,↓reduceIte,Nat.reduceEqDiff,reduceCtorEq,ρ5,ρ6,hob4,hl4]) | (with_reducible first | refine condK_dec (fun _=> ?_) fun _=> ?_ | refine grd_dec (fun _=> ?_) fun _=> ?_ | refine egrd_dec (fun _=> ?_) fun _=> ?_))
          refine(put_wp h4 6 s.line (l.take n) (by rw[fail_len.1,fail_len.2];exact hb)).mono fun v5 K5 ⟨vt5,h5⟩=> ?_
          repeat' (first | (simp (disch:=first | omega | (decide +kernel)) only[↓RD,RU,resL]) | (with_reducible first | refine condK_dec (fun _=> ?_) fun _=> ?_ | refine grd_dec (fun _=> ?_) fun _=> ?_ | refine egrd_dec (fun _=> ?_) fun _=> ?_))
          all_goals exact⟨vt5,by unfold numS;rw[if_pos hbad,hn,hK];exact h5⟩)
       | (have hbad:numBad l=false:=by
           unfold numBad;rw[hn,hK,hL];simp;omega
          refine(put_wp h3 6 s.line (l.take n) hb).mono fun v5 K5 ⟨vt5,h5⟩=> ?_
          repeat' (first | (simp (disch:=first | omega | (decide +kernel)) only[↓RD,RU,resL]) | (with_reducible first | refine condK_dec (fun _=> ?_) fun _=> ?_ | refine grd_dec (fun _=> ?_) fun _=> ?_ | refine egrd_dec (fun _=> ?_) fun _=> ?_))
          all_goals exact⟨vt5,by unfold numS;rw[if_neg (by simp[hbad]),hn,hK];exact h5⟩)
   ·have he1':isDigN (hd (l.drop (b+1)))=false:=by simpa using he1
    by_cases he2:(hd (l.drop (b+1))=43∨hd (l.drop (b+1))=45)∧isDigN (hd (l.drop (b+2)))=true
    ·obtain⟨he3,he4⟩:=he2
     have hE:expN (l.drop b)=2+digN (l.drop (b+2)):=by
      unfold expN
      rw[if_pos he0,List.drop_drop,List.drop_drop,if_neg (by rw[he1'];simp),if_pos ⟨he3,he4⟩]
     rcases he3 with he3 | he3
     ·repeat' (first | (simp (disch:=first | omega | (decide +kernel)) only[↓RD,RU,↓putF_get,↓putF_none,↓evF_t,↓evF_c,getD_zero,pop,lop,wop,isVal,isCell,Value.cells,ρ0,ρ1,↓reduceIte,Nat.reduceEqDiff,Nat.reduceAdd,reduceCtorEq,ρ5,ρ6,ρ7,ρ8,ρ17,ρ18,ρ19,ρ20,ρ22,ρ23,Kd.isRo,ρ25,ρ26,Nat.reduceLeDiff,q0,q1,q2,he0,digit_iff,he3,(by simpa[he3] using he1':isDigN 43=false),he4,hob2,hpd2,n2]) | (with_reducible first | refine condK_dec (fun _=> ?_) fun _=> ?_ | refine grd_dec (fun _=> ?_) fun _=> ?_ | refine egrd_dec (fun _=> ?_) fun _=> ?_))
      refine(run_wp (s:=atS s (b+2)) (h2.set (s':=atS s (b+2)) rfl rfl (atS_bd h.bd (by omega))) (by show s.pos+(b+2)≤_;omega)).mono fun v3 K3 h3=> ?_
      have hq3:(atS s (b+2)).pos=s.pos+(b+2):=rfl
      rw[hq3,hdr] at h3
      have hN:numN l=b+(2+digN (l.drop (b+2))):=by unfold numN;rw[hbA,hE]
      have hNl:numN l≤l.length+2:=by have:=hdp (b+2);omega
      have h3:RdAt A K3 p src (atS s (numN l)) vo vt m:=by
       have e:atS (atS s (b+2)) (digN (l.drop (b+2)))=atS s (numN l):=by rw[hN];simp only[atS];congr 1;omega
       rw[←e];exact h3
      have hK:numK l=6:=by unfold numK;rw[if_neg];rintro⟨_,g⟩;rw[hbA,hE] at g;omega
      have hNN:numN l≤l.length:=by rw[hN];have:=hdp (b+2);have:=dig_lt he4;omega
      obtain⟨n,hn⟩ : ∃n,numN l=n:=⟨_,rfl⟩
      rw[hn] at h3 hNN
      have hob3:=h3.ob
      have hpl3:=h3.pl
      have hpd3:(atS s n).pos=s.pos+n:=rfl
      have r0:= @peek0 _ _ _ _ _ _ _ _ h3
      simp only[hpd3,hdr] at r0
      have hlen:(l.take n).length=n:=by simp;omega
      have hn0:0<n:=by omega
      have hget:(l.take n)[0]? = some l[0]:=by rw[List.getElem?_take,if_pos hn0];exact List.getElem?_eq_getElem _
      have hh0:hd l=l[0].toNat:=by have:=hd_drop (l:=l) (j:=0) (by omega);simpa using this
      cases hL:isLetN (hd (l.drop n)) with
      | true=>
        have hbad:numBad l=true:=by unfold numBad;rw[hn,hL];rfl
        repeat' (first | (simp (disch:=first | omega | (decide +kernel)) only[↓RD,RU,↓putF_get,↓evF_t,↓evF_c,getD_zero,pop,lop,ρ0,ρ1,↓reduceIte,Nat.reduceEqDiff,reduceCtorEq,ρ5,ρ6,bnd,ρ28,ρ29,hob3,hpd3,str_size,str_ext,Nat.add_sub_cancel_left,hl,r0,letter_iff,hL]) | (with_reducible first | refine condK_dec (fun _=> ?_) fun _=> ?_ | refine grd_dec (fun _=> ?_) fun _=> ?_ | refine egrd_dec (fun _=> ?_) fun _=> ?_))
        all_goals
         refine(fail_wp h3 s.line 20 (by omega) (by decide)).mono fun v4 K4 h4=> ?_
         have hob4:=h4.ob
         have hpl4:=h4.pl
         have hl4:(failS (atS s n) s.line 20).line=s.line:=by unfold failS;split<;>rfl
         repeat' (first | (simp (disch:=first | omega | (decide +kernel)) only[↓RD,RU,↓putF_get,↓evF_t,getD_zero,pop,lop,ρ0,ρ1,↓reduceIte,Nat.reduceEqDiff,reduceCtorEq,ρ5,ρ6,hob4,hl4]) | (with_reducible first | refine condK_dec (fun _=> ?_) fun _=> ?_ | refine grd_dec (fun _=> ?_) fun _=> ?_ | refine egrd_dec (fun _=> ?_) fun _=> ?_))
         refine(put_wp h4 6 s.line (l.take n) (by rw[fail_len.1,fail_len.2];exact hb)).mono fun v5 K5 ⟨vt5,h5⟩=> ?_
         repeat' (first | (simp (disch:=first | omega | (decide +kernel)) only[↓RD,RU,resL]) | (with_reducible first | refine condK_dec (fun _=> ?_) fun _=> ?_ | refine grd_dec (fun _=> ?_) fun _=> ?_ | refine egrd_dec (fun _=> ?_) fun _=> ?_))
         all_goals exact⟨vt5,by unfold numS;rw[if_pos hbad,hn,hK];exact h5⟩
      | false=>
        repeat' (first | (simp (disch:=first | omega | (decide +kernel)) only[↓RD,RU,↓putF_get,↓evF_t,↓evF_c,getD_zero,pop,lop,ρ0,ρ1,↓reduceIte,Nat.reduceEqDiff,reduceCtorEq,ρ5,ρ6,bnd,ρ28,ρ29,hob3,hpd3,str_size,str_ext,Nat.add_sub_cancel_left,hl,r0,letter_iff,hL,hlen]) | (with_reducible first | refine condK_dec (fun _=> ?_) fun _=> ?_ | refine grd_dec (fun _=> ?_) fun _=> ?_ | refine egrd_dec (fun _=> ?_) fun _=> ?_))
        all_goals first
         | (have hbad:numBad l=true:=by
             unfold numBad;rw[hn,hK,hL];simp;omega
            refine(fail_wp h3 s.line 20 (by omega) (by decide)).mono fun v4 K4 h4=> ?_
            have hob4:=h4.ob
            have hpl4:=h4.pl
            have hl4:(failS (atS s n) s.line 20).line=s.line:=by unfold failS;split<;>rfl
            repeat' (first | (simp (disch:=first | omega | (decide +kernel)) only[↓RD,RU,↓putF_get,↓evF_t,getD_zero,pop,lop,ρ0,ρ1,↓reduceIte,Nat.reduceEqDiff,reduceCtorEq,ρ5,ρ6,hob4,hl4]) | (with_reducible first | refine condK_dec (fun _=> ?_) fun _=> ?_ | refine grd_dec (fun _=> ?_) fun _=> ?_ | refine egrd_dec (fun _=> ?_) fun _=> ?_))
            refine(put_wp h4 6 s.line (l.take n) (by rw[fail_len.1,fail_len.2];exact hb)).mono fun v5 K5 ⟨vt5,h5⟩=> ?_
            repeat' (first | (simp (disch:=first | omega | (decide +kernel)) only[↓RD,RU,resL]) | (with_reducible first | refine condK_dec (fun _=> ?_) fun _=> ?_ | refine grd_dec (fun _=> ?_) fun _=> ?_ | refine egrd_dec (fun _=> ?_) fun _=> ?_))
            all_goals exact⟨vt5,by unfold numS;rw[if_pos hbad,hn,hK];exact h5⟩)
         | (have hbad:numBad l=false:=by
             unfold numBad;rw[hn,hK,hL];simp;omega
            refine(put_wp h3 6 s.line (l.take n) hb).mono fun v5 K5 ⟨vt5,h5⟩=> ?_
            repeat' (first | (simp (disch:=first | omega | (decide +kernel)) only[↓RD,RU,resL]) | (with_reducible first | refine condK_dec (fun _=> ?_) fun _=> ?_ | refine grd_dec (fun _=> ?_) fun _=> ?_ | refine egrd_dec (fun _=> ?_) fun _=> ?_))
            all_goals exact⟨vt5,by unfold numS;rw[if_neg (by simp[hbad]),hn,hK];exact h5⟩)
     ·repeat' (first | (simp (disch:=first | omega | (decide +kernel)) only[↓RD,RU,↓putF_get,↓putF_none,↓evF_t,↓evF_c,getD_zero,pop,lop,wop,isVal,isCell,Value.cells,ρ0,ρ1,↓reduceIte,Nat.reduceEqDiff,Nat.reduceAdd,reduceCtorEq,ρ5,ρ6,ρ7,ρ8,ρ17,ρ18,ρ19,ρ20,ρ22,ρ23,Kd.isRo,ρ25,ρ26,Nat.reduceLeDiff,q0,q1,q2,he0,digit_iff,he3,(by simpa[he3] using he1':isDigN 45=false),he4,hob2,hpd2,n2]) | (with_reducible first | refine condK_dec (fun _=> ?_) fun _=> ?_ | refine grd_dec (fun _=> ?_) fun _=> ?_ | refine egrd_dec (fun _=> ?_) fun _=> ?_))
      refine(run_wp (s:=atS s (b+2)) (h2.set (s':=atS s (b+2)) rfl rfl (atS_bd h.bd (by omega))) (by show s.pos+(b+2)≤_;omega)).mono fun v3 K3 h3=> ?_
      have hq3:(atS s (b+2)).pos=s.pos+(b+2):=rfl
      rw[hq3,hdr] at h3
      have hN:numN l=b+(2+digN (l.drop (b+2))):=by unfold numN;rw[hbA,hE]
      have hNl:numN l≤l.length+2:=by have:=hdp (b+2);omega
      have h3:RdAt A K3 p src (atS s (numN l)) vo vt m:=by
       have e:atS (atS s (b+2)) (digN (l.drop (b+2)))=atS s (numN l):=by rw[hN];simp only[atS];congr 1;omega
       rw[←e];exact h3
      have hK:numK l=6:=by unfold numK;rw[if_neg];rintro⟨_,g⟩;rw[hbA,hE] at g;omega
      have hNN:numN l≤l.length:=by rw[hN];have:=hdp (b+2);have:=dig_lt he4;omega
      obtain⟨n,hn⟩ : ∃n,numN l=n:=⟨_,rfl⟩
      rw[hn] at h3 hNN
      have hob3:=h3.ob
      have hpl3:=h3.pl
      have hpd3:(atS s n).pos=s.pos+n:=rfl
      have r0:= @peek0 _ _ _ _ _ _ _ _ h3
      simp only[hpd3,hdr] at r0
      have hlen:(l.take n).length=n:=by simp;omega
      have hn0:0<n:=by omega
      have hget:(l.take n)[0]? = some l[0]:=by rw[List.getElem?_take,if_pos hn0];exact List.getElem?_eq_getElem _
      have hh0:hd l=l[0].toNat:=by have:=hd_drop (l:=l) (j:=0) (by omega);simpa using this
      cases hL:isLetN (hd (l.drop n)) with
      | true=>
        have hbad:numBad l=true:=by unfold numBad;rw[hn,hL];rfl
        repeat' (first | (simp (disch:=first | omega | (decide +kernel)) only[↓RD,RU,↓putF_get,↓evF_t,↓evF_c,getD_zero,pop,lop,ρ0,ρ1,↓reduceIte,Nat.reduceEqDiff,reduceCtorEq,ρ5,ρ6,bnd,ρ28,ρ29,hob3,hpd3,str_size,str_ext,Nat.add_sub_cancel_left,hl,r0,letter_iff,hL]) | (with_reducible first | refine condK_dec (fun _=> ?_) fun _=> ?_ | refine grd_dec (fun _=> ?_) fun _=> ?_ | refine egrd_dec (fun _=> ?_) fun _=> ?_))
        all_goals
         refine(fail_wp h3 s.line 20 (by omega) (by decide)).mono fun v4 K4 h4=> ?_
         have hob4:=h4.ob
         have hpl4:=h4.pl
         have hl4:(failS (atS s n) s.line 20).line=s.line:=by unfold failS;split<;>rfl
         repeat' (first | (simp (disch:=first | omega | (decide +kernel)) only[↓RD,RU,↓putF_get,↓evF_t,getD_zero,pop,lop,ρ0,ρ1,↓reduceIte,Nat.reduceEqDiff,reduceCtorEq,ρ5,ρ6,hob4,hl4]) | (with_reducible first | refine condK_dec (fun _=> ?_) fun _=> ?_ | refine grd_dec (fun _=> ?_) fun _=> ?_ | refine egrd_dec (fun _=> ?_) fun _=> ?_))
         refine(put_wp h4 6 s.line (l.take n) (by rw[fail_len.1,fail_len.2];exact hb)).mono fun v5 K5 ⟨vt5,h5⟩=> ?_
         repeat' (first | (simp (disch:=first | omega | (decide +kernel)) only[↓RD,RU,resL]) | (with_reducible first | refine condK_dec (fun _=> ?_) fun _=> ?_ | refine grd_dec (fun _=> ?_) fun _=> ?_ | refine egrd_dec (fun _=> ?_) fun _=> ?_))
         all_goals exact⟨vt5,by unfold numS;rw[if_pos hbad,hn,hK];exact h5⟩
      | false=>
        repeat' (first | (simp (disch:=first | omega | (decide +kernel)) only[↓RD,RU,↓putF_get,↓evF_t,↓evF_c,getD_zero,pop,lop,ρ0,ρ1,↓reduceIte,Nat.reduceEqDiff,reduceCtorEq,ρ5,ρ6,bnd,ρ28,ρ29,hob3,hpd3,str_size,str_ext,Nat.add_sub_cancel_left,hl,r0,letter_iff,hL,hlen]) | (with_reducible first | refine condK_dec (fun _=> ?_) fun _=> ?_ | refine grd_dec (fun _=> ?_) fun _=> ?_ | refine egrd_dec (fun _=> ?_) fun _=> ?_))
        all_goals first
         | (have hbad:numBad l=true:=by
             unfold numBad;rw[hn,hK,hL];simp;omega
            refine(fail_wp h3 s.line 20 (by omega) (by decide)).mono fun v4 K4 h4=> ?_
            have hob4:=h4.ob
            have hpl4:=h4.pl
            have hl4:(failS (atS s n) s.line 20).line=s.line:=by unfold failS;split<;>rfl
            repeat' (first | (simp (disch:=first | omega | (decide +kernel)) only[↓RD,RU,↓putF_get,↓evF_t,getD_zero,pop,lop,ρ0,ρ1,↓reduceIte,Nat.reduceEqDiff,reduceCtorEq,ρ5,ρ6,hob4,hl4]) | (with_reducible first | refine condK_dec (fun _=> ?_) fun _=> ?_ | refine grd_dec (fun _=> ?_) fun _=> ?_ | refine egrd_dec (fun _=> ?_) fun _=> ?_))
            refine(put_wp h4 6 s.line (l.take n) (by rw[fail_len.1,fail_len.2];exact hb)).mono fun v5 K5 ⟨vt5,h5⟩=> ?_
            repeat' (first | (simp (disch:=first | omega | (decide +kernel)) only[↓RD,RU,resL]) | (with_reducible first | refine condK_dec (fun _=> ?_) fun _=> ?_ | refine grd_dec (fun _=> ?_) fun _=> ?_ | refine egrd_dec (fun _=> ?_) fun _=> ?_))
            all_goals exact⟨vt5,by unfold numS;rw[if_pos hbad,hn,hK];exact h5⟩)
         | (have hbad:numBad l=false:=by
             unfold numBad;rw[hn,hK,hL];simp;omega
            refine(put_wp h3 6 s.line (l.take n) hb).mono fun v5 K5 ⟨vt5,h5⟩=> ?_
            repeat' (first | (simp (disch:=first | omega | (decide +kernel)) only[↓RD,RU,resL]) | (with_reducible first | refine condK_dec (fun _=> ?_) fun _=> ?_ | refine grd_dec (fun _=> ?_) fun _=> ?_ | refine egrd_dec (fun _=> ?_) fun _=> ?_))
            all_goals exact⟨vt5,by unfold numS;rw[if_neg (by simp[hbad]),hn,hK];exact h5⟩)
    ·have hE:expN (l.drop b)=0:=by
      unfold expN
      rw[if_pos he0,List.drop_drop,List.drop_drop,if_neg (by rw[he1'];simp),if_neg he2]
     by_cases he5:hd (l.drop (b+1))=43∨hd (l.drop (b+1))=45
     ·have he4:isDigN (hd (l.drop (b+2)))=false:=by
       cases q:isDigN (hd (l.drop (b+2))) with
       | true=>exact absurd ⟨he5,q⟩ he2
       | false=>rfl
      rcases he5 with he3 | he3
      ·skip
       have hN:numN l=b:=by unfold numN;rw[hbA,hE];rfl
       have h3:RdAt A K2 p src (atS s (numN l)) vo vt m:=by rw[hN];exact h2
       have hK:numK l=6:=by unfold numK;rw[if_neg];rintro⟨g,_⟩;exact hF g
       have hNN:numN l≤l.length:=by rw[hN];exact hbl
       have hn:=hN
       rw[hn] at h3 hNN
       have hob3:=h3.ob
       have hpl3:=h3.pl
       have hpd3:(atS s b).pos=s.pos+b:=rfl
       have r0:= @peek0 _ _ _ _ _ _ _ _ h3
       simp only[hpd3,hdr] at r0
       have hlen:(l.take b).length=b:=by simp;omega
       have hn0:0<b:=by omega
       have hget:(l.take b)[0]? = some l[0]:=by rw[List.getElem?_take,if_pos hn0];exact List.getElem?_eq_getElem _
       have hh0:hd l=l[0].toNat:=by have:=hd_drop (l:=l) (j:=0) (by omega);simpa using this
       have hL:isLetN (hd (l.drop b))=true:=by rw[he0];rfl
       have hbad:numBad l=true:=by unfold numBad;rw[hn,hL];rfl
       repeat' (first | (simp (disch:=first | omega | (decide +kernel)) only[↓RD,RU,↓putF_get,↓evF_t,↓evF_c,getD_zero,pop,lop,ρ0,ρ1,↓reduceIte,Nat.reduceEqDiff,reduceCtorEq,ρ5,ρ6,bnd,ρ28,ρ29,q0,q1,q2,he0,digit_iff,he3,(by simpa[he3] using he1':isDigN 43=false),he4,let101,hob3,hpd3,str_size,str_ext,Nat.add_sub_cancel_left,hl,letter_iff]) | (with_reducible first | refine condK_dec (fun _=> ?_) fun _=> ?_ | refine grd_dec (fun _=> ?_) fun _=> ?_ | refine egrd_dec (fun _=> ?_) fun _=> ?_))
       all_goals
        refine(fail_wp h3 s.line 20 (by omega) (by decide)).mono fun v4 K4 h4=> ?_
        have hob4:=h4.ob
        have hpl4:=h4.pl
        have hl4:(failS (atS s b) s.line 20).line=s.line:=by unfold failS;split<;>rfl
        repeat' (first | (simp (disch:=first | omega | (decide +kernel)) only[↓RD,RU,↓putF_get,↓evF_t,getD_zero,pop,lop,ρ0,ρ1,↓reduceIte,Nat.reduceEqDiff,reduceCtorEq,ρ5,ρ6,hob4,hl4]) | (with_reducible first | refine condK_dec (fun _=> ?_) fun _=> ?_ | refine grd_dec (fun _=> ?_) fun _=> ?_ | refine egrd_dec (fun _=> ?_) fun _=> ?_))
        refine(put_wp h4 6 s.line (l.take b) (by rw[fail_len.1,fail_len.2];exact hb)).mono fun v5 K5 ⟨vt5,h5⟩=> ?_
        repeat' (first | (simp (disch:=first | omega | (decide +kernel)) only[↓RD,RU,resL]) | (with_reducible first | refine condK_dec (fun _=> ?_) fun _=> ?_ | refine grd_dec (fun _=> ?_) fun _=> ?_ | refine egrd_dec (fun _=> ?_) fun _=> ?_))
        all_goals exact⟨vt5,by unfold numS;rw[if_pos hbad,hn,hK];exact h5⟩
      ·skip
       have hN:numN l=b:=by unfold numN;rw[hbA,hE];rfl
       have h3:RdAt A K2 p src (atS s (numN l)) vo vt m:=by rw[hN];exact h2
       have hK:numK l=6:=by unfold numK;rw[if_neg];rintro⟨g,_⟩;exact hF g
       have hNN:numN l≤l.length:=by rw[hN];exact hbl
       have hn:=hN
       rw[hn] at h3 hNN
       have hob3:=h3.ob
       have hpl3:=h3.pl
       have hpd3:(atS s b).pos=s.pos+b:=rfl
       have r0:= @peek0 _ _ _ _ _ _ _ _ h3
       simp only[hpd3,hdr] at r0
       have hlen:(l.take b).length=b:=by simp;omega
       have hn0:0<b:=by omega
       have hget:(l.take b)[0]? = some l[0]:=by rw[List.getElem?_take,if_pos hn0];exact List.getElem?_eq_getElem _
       have hh0:hd l=l[0].toNat:=by have:=hd_drop (l:=l) (j:=0) (by omega);simpa using this
       have hL:isLetN (hd (l.drop b))=true:=by rw[he0];rfl
       have hbad:numBad l=true:=by unfold numBad;rw[hn,hL];rfl
       repeat' (first | (simp (disch:=first | omega | (decide +kernel)) only[↓RD,RU,↓putF_get,↓evF_t,↓evF_c,getD_zero,pop,lop,ρ0,ρ1,↓reduceIte,Nat.reduceEqDiff,reduceCtorEq,ρ5,ρ6,bnd,ρ28,ρ29,q0,q1,q2,he0,digit_iff,he3,(by simpa[he3] using he1':isDigN 45=false),he4,let101,hob3,hpd3,str_size,str_ext,Nat.add_sub_cancel_left,hl,letter_iff]) | (with_reducible first | refine condK_dec (fun _=> ?_) fun _=> ?_ | refine grd_dec (fun _=> ?_) fun _=> ?_ | refine egrd_dec (fun _=> ?_) fun _=> ?_))
       all_goals
        refine(fail_wp h3 s.line 20 (by omega) (by decide)).mono fun v4 K4 h4=> ?_
        have hob4:=h4.ob
        have hpl4:=h4.pl
        have hl4:(failS (atS s b) s.line 20).line=s.line:=by unfold failS;split<;>rfl
        repeat' (first | (simp (disch:=first | omega | (decide +kernel)) only[↓RD,RU,↓putF_get,↓evF_t,getD_zero,pop,lop,ρ0,ρ1,↓reduceIte,Nat.reduceEqDiff,reduceCtorEq,ρ5,ρ6,hob4,hl4]) | (with_reducible first | refine condK_dec (fun _=> ?_) fun _=> ?_ | refine grd_dec (fun _=> ?_) fun _=> ?_ | refine egrd_dec (fun _=> ?_) fun _=> ?_))
        refine(put_wp h4 6 s.line (l.take b) (by rw[fail_len.1,fail_len.2];exact hb)).mono fun v5 K5 ⟨vt5,h5⟩=> ?_
        repeat' (first | (simp (disch:=first | omega | (decide +kernel)) only[↓RD,RU,resL]) | (with_reducible first | refine condK_dec (fun _=> ?_) fun _=> ?_ | refine grd_dec (fun _=> ?_) fun _=> ?_ | refine egrd_dec (fun _=> ?_) fun _=> ?_))
        all_goals exact⟨vt5,by unfold numS;rw[if_pos hbad,hn,hK];exact h5⟩
     ·obtain⟨he6,he7⟩:hd (l.drop (b+1))≠43∧hd (l.drop (b+1))≠45:=⟨fun e=>he5 (.inl e),fun e=>he5 (.inr e)⟩
      have hN:numN l=b:=by unfold numN;rw[hbA,hE];rfl
      have h3:RdAt A K2 p src (atS s (numN l)) vo vt m:=by rw[hN];exact h2
      have hK:numK l=6:=by unfold numK;rw[if_neg];rintro⟨g,_⟩;exact hF g
      have hNN:numN l≤l.length:=by rw[hN];exact hbl
      have hn:=hN
      rw[hn] at h3 hNN
      have hob3:=h3.ob
      have hpl3:=h3.pl
      have hpd3:(atS s b).pos=s.pos+b:=rfl
      have r0:= @peek0 _ _ _ _ _ _ _ _ h3
      simp only[hpd3,hdr] at r0
      have hlen:(l.take b).length=b:=by simp;omega
      have hn0:0<b:=by omega
      have hget:(l.take b)[0]? = some l[0]:=by rw[List.getElem?_take,if_pos hn0];exact List.getElem?_eq_getElem _
      have hh0:hd l=l[0].toNat:=by have:=hd_drop (l:=l) (j:=0) (by omega);simpa using this
      have hL:isLetN (hd (l.drop b))=true:=by rw[he0];rfl
      have hbad:numBad l=true:=by unfold numBad;rw[hn,hL];rfl
      repeat' (first | (simp (disch:=first | omega | (decide +kernel)) only[↓RD,RU,↓putF_get,↓evF_t,↓evF_c,getD_zero,pop,lop,ρ0,ρ1,↓reduceIte,Nat.reduceEqDiff,reduceCtorEq,ρ5,ρ6,bnd,ρ28,ρ29,q0,q1,he0,digit_iff,he1',let101,hob3,hpd3,str_size,str_ext,Nat.add_sub_cancel_left,hl,letter_iff]) | (with_reducible first | refine condK_dec (fun _=> ?_) fun _=> ?_ | refine grd_dec (fun _=> ?_) fun _=> ?_ | refine egrd_dec (fun _=> ?_) fun _=> ?_))
      all_goals
       refine(fail_wp h3 s.line 20 (by omega) (by decide)).mono fun v4 K4 h4=> ?_
       have hob4:=h4.ob
       have hpl4:=h4.pl
       have hl4:(failS (atS s b) s.line 20).line=s.line:=by unfold failS;split<;>rfl
       repeat' (first | (simp (disch:=first | omega | (decide +kernel)) only[↓RD,RU,↓putF_get,↓evF_t,getD_zero,pop,lop,ρ0,ρ1,↓reduceIte,Nat.reduceEqDiff,reduceCtorEq,ρ5,ρ6,hob4,hl4]) | (with_reducible first | refine condK_dec (fun _=> ?_) fun _=> ?_ | refine grd_dec (fun _=> ?_) fun _=> ?_ | refine egrd_dec (fun _=> ?_) fun _=> ?_))
       refine(put_wp h4 6 s.line (l.take b) (by rw[fail_len.1,fail_len.2];exact hb)).mono fun v5 K5 ⟨vt5,h5⟩=> ?_
       repeat' (first | (simp (disch:=first | omega | (decide +kernel)) only[↓RD,RU,resL]) | (with_reducible first | refine condK_dec (fun _=> ?_) fun _=> ?_ | refine grd_dec (fun _=> ?_) fun _=> ?_ | refine egrd_dec (fun _=> ?_) fun _=> ?_))
       all_goals exact⟨vt5,by unfold numS;rw[if_pos hbad,hn,hK];exact h5⟩
  ·have hE:expN (l.drop b)=0:=by
    unfold expN
    rw[if_neg he0]
   have hN:numN l=b:=by unfold numN;rw[hbA,hE];rfl
   have h3:RdAt A K2 p src (atS s (numN l)) vo vt m:=by rw[hN];exact h2
   have hK:numK l=6:=by unfold numK;rw[if_neg];rintro⟨g,_⟩;exact hF g
   have hNN:numN l≤l.length:=by rw[hN];exact hbl
   have hn:=hN
   rw[hn] at h3 hNN
   have hob3:=h3.ob
   have hpl3:=h3.pl
   have hpd3:(atS s b).pos=s.pos+b:=rfl
   have r0:= @peek0 _ _ _ _ _ _ _ _ h3
   simp only[hpd3,hdr] at r0
   have hlen:(l.take b).length=b:=by simp;omega
   have hn0:0<b:=by omega
   have hget:(l.take b)[0]? = some l[0]:=by rw[List.getElem?_take,if_pos hn0];exact List.getElem?_eq_getElem _
   have hh0:hd l=l[0].toNat:=by have:=hd_drop (l:=l) (j:=0) (by omega);simpa using this
   cases hL:isLetN (hd (l.drop b)) with
   | true=>
     have hbad:numBad l=true:=by unfold numBad;rw[hn,hL];rfl
     repeat' (first | (simp (disch:=first | omega | (decide +kernel)) only[↓RD,RU,↓putF_get,↓evF_t,↓evF_c,getD_zero,pop,lop,ρ0,ρ1,↓reduceIte,Nat.reduceEqDiff,reduceCtorEq,ρ5,ρ6,bnd,ρ28,ρ29,q0,hob3,hpd3,str_size,str_ext,Nat.add_sub_cancel_left,hl,letter_iff,hL]) | (with_reducible first | refine condK_dec (fun _=> ?_) fun _=> ?_ | refine grd_dec (fun _=> ?_) fun _=> ?_ | refine egrd_dec (fun _=> ?_) fun _=> ?_))
     all_goals
      refine(fail_wp h3 s.line 20 (by omega) (by decide)).mono fun v4 K4 h4=> ?_
      have hob4:=h4.ob
      have hpl4:=h4.pl
      have hl4:(failS (atS s b) s.line 20).line=s.line:=by unfold failS;split<;>rfl
      repeat' (first | (simp (disch:=first | omega | (decide +kernel)) only[↓RD,RU,↓putF_get,↓evF_t,getD_zero,pop,lop,ρ0,ρ1,↓reduceIte,Nat.reduceEqDiff,reduceCtorEq,ρ5,ρ6,hob4,hl4]) | (with_reducible first | refine condK_dec (fun _=> ?_) fun _=> ?_ | refine grd_dec (fun _=> ?_) fun _=> ?_ | refine egrd_dec (fun _=> ?_) fun _=> ?_))
      refine(put_wp h4 6 s.line (l.take b) (by rw[fail_len.1,fail_len.2];exact hb)).mono fun v5 K5 ⟨vt5,h5⟩=> ?_
      repeat' (first | (simp (disch:=first | omega | (decide +kernel)) only[↓RD,RU,resL]) | (with_reducible first | refine condK_dec (fun _=> ?_) fun _=> ?_ | refine grd_dec (fun _=> ?_) fun _=> ?_ | refine egrd_dec (fun _=> ?_) fun _=> ?_))
      all_goals exact⟨vt5,by unfold numS;rw[if_pos hbad,hn,hK];exact h5⟩
   | false=>
     repeat' (first | (simp (disch:=first | omega | (decide +kernel)) only[↓RD,RU,↓putF_get,↓evF_t,↓evF_c,getD_zero,pop,lop,ρ0,ρ1,↓reduceIte,Nat.reduceEqDiff,reduceCtorEq,ρ5,ρ6,bnd,ρ28,ρ29,q0,hob3,hpd3,str_size,str_ext,Nat.add_sub_cancel_left,hl,letter_iff,hL,hlen]) | (with_reducible first | refine condK_dec (fun _=> ?_) fun _=> ?_ | refine grd_dec (fun _=> ?_) fun _=> ?_ | refine egrd_dec (fun _=> ?_) fun _=> ?_))
     all_goals first
      | (have hbad:numBad l=true:=by
          unfold numBad;rw[hn,hK,hL];simp;omega
         refine(fail_wp h3 s.line 20 (by omega) (by decide)).mono fun v4 K4 h4=> ?_
         have hob4:=h4.ob
         have hpl4:=h4.pl
         have hl4:(failS (atS s b) s.line 20).line=s.line:=by unfold failS;split<;>rfl
         repeat' (first | (simp (disch:=first | omega | (decide +kernel)) only[↓RD,RU,↓putF_get,↓evF_t,getD_zero,pop,lop,ρ0,ρ1,↓reduceIte,Nat.reduceEqDiff,reduceCtorEq,ρ5,ρ6,hob4,hl4]) | (with_reducible first | refine condK_dec (fun _=> ?_) fun _=> ?_ | refine grd_dec (fun _=> ?_) fun _=> ?_ | refine egrd_dec (fun _=> ?_) fun _=> ?_))
         refine(put_wp h4 6 s.line (l.take b) (by rw[fail_len.1,fail_len.2];exact hb)).mono fun v5 K5 ⟨vt5,h5⟩=> ?_
         repeat' (first | (simp (disch:=first | omega | (decide +kernel)) only[↓RD,RU,resL]) | (with_reducible first | refine condK_dec (fun _=> ?_) fun _=> ?_ | refine grd_dec (fun _=> ?_) fun _=> ?_ | refine egrd_dec (fun _=> ?_) fun _=> ?_))
         all_goals exact⟨vt5,by unfold numS;rw[if_pos hbad,hn,hK];exact h5⟩)
      | (have hbad:numBad l=false:=by
          unfold numBad;rw[hn,hK,hL];simp;omega
         refine(put_wp h3 6 s.line (l.take b) hb).mono fun v5 K5 ⟨vt5,h5⟩=> ?_
         repeat' (first | (simp (disch:=first | omega | (decide +kernel)) only[↓RD,RU,resL]) | (with_reducible first | refine condK_dec (fun _=> ?_) fun _=> ?_ | refine grd_dec (fun _=> ?_) fun _=> ?_ | refine egrd_dec (fun _=> ?_) fun _=> ?_))
         all_goals exact⟨vt5,by unfold numS;rw[if_neg (by simp[hbad]),hn,hK];exact h5⟩)
 ·have hA:numA l=a:=by
   unfold numA fracN
   rw[ha,List.drop_drop,if_neg hf];rfl
  have hF:fracN (l.drop (digN l))=0:=by
   unfold fracN
   rw[ha,List.drop_drop,if_neg hf]
  by_cases hf1:hd (l.drop a)=46
  ·have hf2:isDigN (hd (l.drop (a+1)))=false:=by
    cases q:isDigN (hd (l.drop (a+1))) with
    | true=>exact absurd ⟨hf1,q⟩ hf
    | false=>rfl
   have hbA:=hA
   have hbl:a≤l.length:=hal
   have h2:=h1
   have hob2:=hob1
   have hpl2:=hpl1
   have hpd2:=hpd1
   by_cases he0:hd (l.drop a)=101
   ·rw[hf1] at he0;exact absurd he0 (by decide)
   ·have hE:expN (l.drop a)=0:=by
     unfold expN
     rw[if_neg he0]
    have hN:numN l=a:=by unfold numN;rw[hbA,hE];rfl
    have h3:RdAt A K1 p src (atS s (numN l)) vo vt m:=by rw[hN];exact h2
    have hK:numK l=5:=by unfold numK;rw[if_pos ⟨hF,by rw[hbA,hE]⟩]
    have hNN:numN l≤l.length:=by rw[hN];exact hbl
    have hn:=hN
    rw[hn] at h3 hNN
    have hob3:=h3.ob
    have hpl3:=h3.pl
    have hpd3:(atS s a).pos=s.pos+a:=rfl
    have r0:= @peek0 _ _ _ _ _ _ _ _ h3
    simp only[hpd3,hdr] at r0
    have hlen:(l.take a).length=a:=by simp;omega
    have hn0:0<a:=by omega
    have hget:(l.take a)[0]? = some l[0]:=by rw[List.getElem?_take,if_pos hn0];exact List.getElem?_eq_getElem _
    have hh0:hd l=l[0].toNat:=by have:=hd_drop (l:=l) (j:=0) (by omega);simpa using this
    cases hL:isLetN (hd (l.drop a)) with
    | true=>
      have hbad:numBad l=true:=by unfold numBad;rw[hn,hL];rfl
      repeat' (first | (simp (disch:=first | omega | (decide +kernel)) only[↓RD,RU,↓putF_get,↓evF_t,↓evF_c,getD_zero,pop,lop,ρ0,ρ1,↓reduceIte,Nat.reduceEqDiff,reduceCtorEq,ρ5,ρ6,bnd,ρ28,ρ29,hf1,hf2,p0,p1,digit_iff,let46,hob3,hpd3,str_size,str_ext,Nat.add_sub_cancel_left,hl,letter_iff]) | (with_reducible first | refine condK_dec (fun _=> ?_) fun _=> ?_ | refine grd_dec (fun _=> ?_) fun _=> ?_ | refine egrd_dec (fun _=> ?_) fun _=> ?_))
      all_goals
       refine(fail_wp h3 s.line 20 (by omega) (by decide)).mono fun v4 K4 h4=> ?_
       have hob4:=h4.ob
       have hpl4:=h4.pl
       have hl4:(failS (atS s a) s.line 20).line=s.line:=by unfold failS;split<;>rfl
       repeat' (first | (simp (disch:=first | omega | (decide +kernel)) only[↓RD,RU,↓putF_get,↓evF_t,getD_zero,pop,lop,ρ0,ρ1,↓reduceIte,Nat.reduceEqDiff,reduceCtorEq,ρ5,ρ6,hob4,hl4]) | (with_reducible first | refine condK_dec (fun _=> ?_) fun _=> ?_ | refine grd_dec (fun _=> ?_) fun _=> ?_ | refine egrd_dec (fun _=> ?_) fun _=> ?_))
       refine(put_wp h4 5 s.line (l.take a) (by rw[fail_len.1,fail_len.2];exact hb)).mono fun v5 K5 ⟨vt5,h5⟩=> ?_
       repeat' (first | (simp (disch:=first | omega | (decide +kernel)) only[↓RD,RU,resL]) | (with_reducible first | refine condK_dec (fun _=> ?_) fun _=> ?_ | refine grd_dec (fun _=> ?_) fun _=> ?_ | refine egrd_dec (fun _=> ?_) fun _=> ?_))
       all_goals exact⟨vt5,by unfold numS;rw[if_pos hbad,hn,hK];exact h5⟩
    | false=>
      repeat' (first | (simp (disch:=first | omega | (decide +kernel)) only[↓RD,RU,↓putF_get,↓evF_t,↓evF_c,getD_zero,pop,lop,ρ0,ρ1,↓reduceIte,Nat.reduceEqDiff,reduceCtorEq,ρ5,ρ6,bnd,ρ28,ρ29,hf1,hf2,p0,p1,digit_iff,let46,hob3,hpd3,str_size,str_ext,Nat.add_sub_cancel_left,hl,letter_iff]) | (with_reducible first | refine condK_dec (fun _=> ?_) fun _=> ?_ | refine grd_dec (fun _=> ?_) fun _=> ?_ | refine egrd_dec (fun _=> ?_) fun _=> ?_))
      all_goals first
       | (have hbad:numBad l=true:=by
           unfold numBad;rw[hn,hK,hL];simp;omega
          refine(fail_wp h3 s.line 20 (by omega) (by decide)).mono fun v4 K4 h4=> ?_
          have hob4:=h4.ob
          have hpl4:=h4.pl
          have hl4:(failS (atS s a) s.line 20).line=s.line:=by unfold failS;split<;>rfl
          repeat' (first | (simp (disch:=first | omega | (decide +kernel)) only[↓RD,RU,↓putF_get,↓evF_t,getD_zero,pop,lop,ρ0,ρ1,↓reduceIte,Nat.reduceEqDiff,reduceCtorEq,ρ5,ρ6,hob4,hl4]) | (with_reducible first | refine condK_dec (fun _=> ?_) fun _=> ?_ | refine grd_dec (fun _=> ?_) fun _=> ?_ | refine egrd_dec (fun _=> ?_) fun _=> ?_))
          refine(put_wp h4 5 s.line (l.take a) (by rw[fail_len.1,fail_len.2];exact hb)).mono fun v5 K5 ⟨vt5,h5⟩=> ?_
          repeat' (first | (simp (disch:=first | omega | (decide +kernel)) only[↓RD,RU,resL]) | (with_reducible first | refine condK_dec (fun _=> ?_) fun _=> ?_ | refine grd_dec (fun _=> ?_) fun _=> ?_ | refine egrd_dec (fun _=> ?_) fun _=> ?_))
          all_goals exact⟨vt5,by unfold numS;rw[if_pos hbad,hn,hK];exact h5⟩)
       | (have hbad:numBad l=false:=by
           unfold numBad;rw[hn,hK,hL];simp;omega
          refine(put_wp h3 5 s.line (l.take a) hb).mono fun v5 K5 ⟨vt5,h5⟩=> ?_
          skip
          all_goals exact⟨vt5,by unfold numS;rw[if_neg (by simp[hbad]),hn,hK];exact h5⟩)
  ·have hbA:=hA
   have hbl:a≤l.length:=hal
   have h2:=h1
   have hob2:=hob1
   have hpl2:=hpl1
   have hpd2:=hpd1
   by_cases he0:hd (l.drop a)=101
   ·by_cases he1:isDigN (hd (l.drop (a+1)))=true
    ·have hE:expN (l.drop a)=2+digN (l.drop (a+2)):=by
      have hlt:a+1<l.length:=by
       rcases Nat.lt_or_ge (a+1) l.length with g | g
       ·exact g
       ·rw[List.drop_eq_nil_of_le g] at he1;cases he1
      unfold expN
      rw[if_pos he0,List.drop_drop,if_pos he1]
      have:=nW_yes (p:=isDigN) hlt he1
      unfold digN
      rw[this]
      show 1+(nW isDigN (l.drop (a+2))+1)=_
      omega
     repeat' (first | (simp (disch:=first | omega | (decide +kernel)) only[↓RD,RU,↓putF_get,↓putF_none,↓evF_t,↓evF_c,getD_zero,pop,lop,wop,isVal,isCell,Value.cells,ρ0,ρ1,↓reduceIte,Nat.reduceEqDiff,Nat.reduceAdd,reduceCtorEq,ρ5,ρ6,ρ7,ρ8,ρ17,ρ18,ρ19,ρ20,ρ22,ρ23,Kd.isRo,ρ25,ρ26,Nat.reduceLeDiff,p0,p1,he0,digit_iff,he1,hob2,hpd2,n2]) | (with_reducible first | refine condK_dec (fun _=> ?_) fun _=> ?_ | refine grd_dec (fun _=> ?_) fun _=> ?_ | refine egrd_dec (fun _=> ?_) fun _=> ?_))
     refine(run_wp (s:=atS s (a+2)) (h2.set (s':=atS s (a+2)) rfl rfl (atS_bd h.bd (by omega))) (by show s.pos+(a+2)≤_;omega)).mono fun v3 K3 h3=> ?_
     have hq3:(atS s (a+2)).pos=s.pos+(a+2):=rfl
     rw[hq3,hdr] at h3
     have hN:numN l=a+(2+digN (l.drop (a+2))):=by unfold numN;rw[hbA,hE]
     have hNl:numN l≤l.length+2:=by have:=hdp (a+2);omega
     have h3:RdAt A K3 p src (atS s (numN l)) vo vt m:=by
      have e:atS (atS s (a+2)) (digN (l.drop (a+2)))=atS s (numN l):=by rw[hN];simp only[atS];congr 1;omega
      rw[←e];exact h3
     have hK:numK l=6:=by unfold numK;rw[if_neg];rintro⟨_,g⟩;rw[hbA,hE] at g;omega
     have hNN:numN l≤l.length:=by rw[hN];have:=hdp (a+2);have:=dig_lt he1;omega
     obtain⟨n,hn⟩ : ∃n,numN l=n:=⟨_,rfl⟩
     rw[hn] at h3 hNN
     have hob3:=h3.ob
     have hpl3:=h3.pl
     have hpd3:(atS s n).pos=s.pos+n:=rfl
     have r0:= @peek0 _ _ _ _ _ _ _ _ h3
     simp only[hpd3,hdr] at r0
     have hlen:(l.take n).length=n:=by simp;omega
     have hn0:0<n:=by omega
     have hget:(l.take n)[0]? = some l[0]:=by rw[List.getElem?_take,if_pos hn0];exact List.getElem?_eq_getElem _
     have hh0:hd l=l[0].toNat:=by have:=hd_drop (l:=l) (j:=0) (by omega);simpa using this
     cases hL:isLetN (hd (l.drop n)) with
     | true=>
       have hbad:numBad l=true:=by unfold numBad;rw[hn,hL];rfl
       repeat' (first | (simp (disch:=first | omega | (decide +kernel)) only[↓RD,RU,↓putF_get,↓evF_t,↓evF_c,getD_zero,pop,lop,ρ0,ρ1,↓reduceIte,Nat.reduceEqDiff,reduceCtorEq,ρ5,ρ6,bnd,ρ28,ρ29,hob3,hpd3,str_size,str_ext,Nat.add_sub_cancel_left,hl,r0,letter_iff,hL]) | (with_reducible first | refine condK_dec (fun _=> ?_) fun _=> ?_ | refine grd_dec (fun _=> ?_) fun _=> ?_ | refine egrd_dec (fun _=> ?_) fun _=> ?_))
       all_goals
        refine(fail_wp h3 s.line 20 (by omega) (by decide)).mono fun v4 K4 h4=> ?_
        have hob4:=h4.ob
        have hpl4:=h4.pl
        have hl4:(failS (atS s n) s.line 20).line=s.line:=by unfold failS;split<;>rfl
        repeat' (first | (simp (disch:=first | omega | (decide +kernel)) only[↓RD,RU,↓putF_get,↓evF_t,getD_zero,pop,lop,ρ0,ρ1,↓reduceIte,Nat.reduceEqDiff,reduceCtorEq,ρ5,ρ6,hob4,hl4]) | (with_reducible first | refine condK_dec (fun _=> ?_) fun _=> ?_ | refine grd_dec (fun _=> ?_) fun _=> ?_ | refine egrd_dec (fun _=> ?_) fun _=> ?_))
        refine(put_wp h4 6 s.line (l.take n) (by rw[fail_len.1,fail_len.2];exact hb)).mono fun v5 K5 ⟨vt5,h5⟩=> ?_
        repeat' (first | (simp (disch:=first | omega | (decide +kernel)) only[↓RD,RU,resL]) | (with_reducible first | refine condK_dec (fun _=> ?_) fun _=> ?_ | refine grd_dec (fun _=> ?_) fun _=> ?_ | refine egrd_dec (fun _=> ?_) fun _=> ?_))
        all_goals exact⟨vt5,by unfold numS;rw[if_pos hbad,hn,hK];exact h5⟩
     | false=>
       repeat' (first | (simp (disch:=first | omega | (decide +kernel)) only[↓RD,RU,↓putF_get,↓evF_t,↓evF_c,getD_zero,pop,lop,ρ0,ρ1,↓reduceIte,Nat.reduceEqDiff,reduceCtorEq,ρ5,ρ6,bnd,ρ28,ρ29,hob3,hpd3,str_size,str_ext,Nat.add_sub_cancel_left,hl,r0,letter_iff,hL,hlen]) | (with_reducible first | refine condK_dec (fun _=> ?_) fun _=> ?_ | refine grd_dec (fun _=> ?_) fun _=> ?_ | refine egrd_dec (fun _=> ?_) fun _=> ?_))
       all_goals first
        | (have hbad:numBad l=true:=by
            unfold numBad;rw[hn,hK,hL];simp;omega
           refine(fail_wp h3 s.line 20 (by omega) (by decide)).mono fun v4 K4 h4=> ?_
           have hob4:=h4.ob
           have hpl4:=h4.pl
           have hl4:(failS (atS s n) s.line 20).line=s.line:=by unfold failS;split<;>rfl
           repeat' (first | (simp (disch:=first | omega | (decide +kernel)) only[↓RD,RU,↓putF_get,↓evF_t,getD_zero,pop,lop,ρ0,ρ1,↓reduceIte,Nat.reduceEqDiff,reduceCtorEq,ρ5,ρ6,hob4,hl4]) | (with_reducible first | refine condK_dec (fun _=> ?_) fun _=> ?_ | refine grd_dec (fun _=> ?_) fun _=> ?_ | refine egrd_dec (fun _=> ?_) fun _=> ?_))
           refine(put_wp h4 6 s.line (l.take n) (by rw[fail_len.1,fail_len.2];exact hb)).mono fun v5 K5 ⟨vt5,h5⟩=> ?_
           repeat' (first | (simp (disch:=first | omega | (decide +kernel)) only[↓RD,RU,resL]) | (with_reducible first | refine condK_dec (fun _=> ?_) fun _=> ?_ | refine grd_dec (fun _=> ?_) fun _=> ?_ | refine egrd_dec (fun _=> ?_) fun _=> ?_))
           all_goals exact⟨vt5,by unfold numS;rw[if_pos hbad,hn,hK];exact h5⟩)
        | (have hbad:numBad l=false:=by
            unfold numBad;rw[hn,hK,hL];simp;omega
           refine(put_wp h3 6 s.line (l.take n) hb).mono fun v5 K5 ⟨vt5,h5⟩=> ?_
           repeat' (first | (simp (disch:=first | omega | (decide +kernel)) only[↓RD,RU,resL]) | (with_reducible first | refine condK_dec (fun _=> ?_) fun _=> ?_ | refine grd_dec (fun _=> ?_) fun _=> ?_ | refine egrd_dec (fun _=> ?_) fun _=> ?_))
           all_goals exact⟨vt5,by unfold numS;rw[if_neg (by simp[hbad]),hn,hK];exact h5⟩)
    ·have he1':isDigN (hd (l.drop (a+1)))=false:=by simpa using he1
     by_cases he2:(hd (l.drop (a+1))=43∨hd (l.drop (a+1))=45)∧isDigN (hd (l.drop (a+2)))=true
     ·obtain⟨he3,he4⟩:=he2
      have hE:expN (l.drop a)=2+digN (l.drop (a+2)):=by
       unfold expN
       rw[if_pos he0,List.drop_drop,List.drop_drop,if_neg (by rw[he1'];simp),if_pos ⟨he3,he4⟩]
      rcases he3 with he3 | he3
      ·repeat' (first | (simp (disch:=first | omega | (decide +kernel)) only[↓RD,RU,↓putF_get,↓putF_none,↓evF_t,↓evF_c,getD_zero,pop,lop,wop,isVal,isCell,Value.cells,ρ0,ρ1,↓reduceIte,Nat.reduceEqDiff,Nat.reduceAdd,reduceCtorEq,ρ5,ρ6,ρ7,ρ8,ρ17,ρ18,ρ19,ρ20,ρ22,ρ23,Kd.isRo,ρ25,ρ26,Nat.reduceLeDiff,p0,p1,p2,he0,digit_iff,he3,(by simpa[he3] using he1':isDigN 43=false),he4,hob2,hpd2,n2]) | (with_reducible first | refine condK_dec (fun _=> ?_) fun _=> ?_ | refine grd_dec (fun _=> ?_) fun _=> ?_ | refine egrd_dec (fun _=> ?_) fun _=> ?_))
       refine(run_wp (s:=atS s (a+2)) (h2.set (s':=atS s (a+2)) rfl rfl (atS_bd h.bd (by omega))) (by show s.pos+(a+2)≤_;omega)).mono fun v3 K3 h3=> ?_
       have hq3:(atS s (a+2)).pos=s.pos+(a+2):=rfl
       rw[hq3,hdr] at h3
       have hN:numN l=a+(2+digN (l.drop (a+2))):=by unfold numN;rw[hbA,hE]
       have hNl:numN l≤l.length+2:=by have:=hdp (a+2);omega
       have h3:RdAt A K3 p src (atS s (numN l)) vo vt m:=by
        have e:atS (atS s (a+2)) (digN (l.drop (a+2)))=atS s (numN l):=by rw[hN];simp only[atS];congr 1;omega
        rw[←e];exact h3
       have hK:numK l=6:=by unfold numK;rw[if_neg];rintro⟨_,g⟩;rw[hbA,hE] at g;omega
       have hNN:numN l≤l.length:=by rw[hN];have:=hdp (a+2);have:=dig_lt he4;omega
       obtain⟨n,hn⟩ : ∃n,numN l=n:=⟨_,rfl⟩
       rw[hn] at h3 hNN
       have hob3:=h3.ob
       have hpl3:=h3.pl
       have hpd3:(atS s n).pos=s.pos+n:=rfl
       have r0:= @peek0 _ _ _ _ _ _ _ _ h3
       simp only[hpd3,hdr] at r0
       have hlen:(l.take n).length=n:=by simp;omega
       have hn0:0<n:=by omega
       have hget:(l.take n)[0]? = some l[0]:=by rw[List.getElem?_take,if_pos hn0];exact List.getElem?_eq_getElem _
       have hh0:hd l=l[0].toNat:=by have:=hd_drop (l:=l) (j:=0) (by omega);simpa using this
       cases hL:isLetN (hd (l.drop n)) with
       | true=>
         have hbad:numBad l=true:=by unfold numBad;rw[hn,hL];rfl
         repeat' (first | (simp (disch:=first | omega | (decide +kernel)) only[↓RD,RU,↓putF_get,↓evF_t,↓evF_c,getD_zero,pop,lop,ρ0,ρ1,↓reduceIte,Nat.reduceEqDiff,reduceCtorEq,ρ5,ρ6,bnd,ρ28,ρ29,hob3,hpd3,str_size,str_ext,Nat.add_sub_cancel_left,hl,r0,letter_iff,hL]) | (with_reducible first | refine condK_dec (fun _=> ?_) fun _=> ?_ | refine grd_dec (fun _=> ?_) fun _=> ?_ | refine egrd_dec (fun _=> ?_) fun _=> ?_))
         all_goals
          refine(fail_wp h3 s.line 20 (by omega) (by decide)).mono fun v4 K4 h4=> ?_
          have hob4:=h4.ob
          have hpl4:=h4.pl
          have hl4:(failS (atS s n) s.line 20).line=s.line:=by unfold failS;split<;>rfl
          repeat' (first | (simp (disch:=first | omega | (decide +kernel)) only[↓RD,RU,↓putF_get,↓evF_t,getD_zero,pop,lop,ρ0,ρ1,↓reduceIte,Nat.reduceEqDiff,reduceCtorEq,ρ5,ρ6,hob4,hl4]) | (with_reducible first | refine condK_dec (fun _=> ?_) fun _=> ?_ | refine grd_dec (fun _=> ?_) fun _=> ?_ | refine egrd_dec (fun _=> ?_) fun _=> ?_))
          refine(put_wp h4 6 s.line (l.take n) (by rw[fail_len.1,fail_len.2];exact hb)).mono fun v5 K5 ⟨vt5,h5⟩=> ?_
          repeat' (first | (simp (disch:=first | omega | (decide +kernel)) only[↓RD,RU,resL]) | (with_reducible first | refine condK_dec (fun _=> ?_) fun _=> ?_ | refine grd_dec (fun _=> ?_) fun _=> ?_ | refine egrd_dec (fun _=> ?_) fun _=> ?_))
          all_goals exact⟨vt5,by unfold numS;rw[if_pos hbad,hn,hK];exact h5⟩
       | false=>
         repeat' (first | (simp (disch:=first | omega | (decide +kernel)) only[↓RD,RU,↓putF_get,↓evF_t,↓evF_c,getD_zero,pop,lop,ρ0,ρ1,↓reduceIte,Nat.reduceEqDiff,reduceCtorEq,ρ5,ρ6,bnd,ρ28,ρ29,hob3,hpd3,str_size,str_ext,Nat.add_sub_cancel_left,hl,r0,letter_iff,hL,hlen]) | (with_reducible first | refine condK_dec (fun _=> ?_) fun _=> ?_ | refine grd_dec (fun _=> ?_) fun _=> ?_ | refine egrd_dec (fun _=> ?_) fun _=> ?_))
         all_goals first
          | (have hbad:numBad l=true:=by
              unfold numBad;rw[hn,hK,hL];simp;omega
             refine(fail_wp h3 s.line 20 (by omega) (by decide)).mono fun v4 K4 h4=> ?_
             have hob4:=h4.ob
             have hpl4:=h4.pl
             have hl4:(failS (atS s n) s.line 20).line=s.line:=by unfold failS;split<;>rfl
             repeat' (first | (simp (disch:=first | omega | (decide +kernel)) only[↓RD,RU,↓putF_get,↓evF_t,getD_zero,pop,lop,ρ0,ρ1,↓reduceIte,Nat.reduceEqDiff,reduceCtorEq,ρ5,ρ6,hob4,hl4]) | (with_reducible first | refine condK_dec (fun _=> ?_) fun _=> ?_ | refine grd_dec (fun _=> ?_) fun _=> ?_ | refine egrd_dec (fun _=> ?_) fun _=> ?_))
             refine(put_wp h4 6 s.line (l.take n) (by rw[fail_len.1,fail_len.2];exact hb)).mono fun v5 K5 ⟨vt5,h5⟩=> ?_
             repeat' (first | (simp (disch:=first | omega | (decide +kernel)) only[↓RD,RU,resL]) | (with_reducible first | refine condK_dec (fun _=> ?_) fun _=> ?_ | refine grd_dec (fun _=> ?_) fun _=> ?_ | refine egrd_dec (fun _=> ?_) fun _=> ?_))
             all_goals exact⟨vt5,by unfold numS;rw[if_pos hbad,hn,hK];exact h5⟩)
          | (have hbad:numBad l=false:=by
              unfold numBad;rw[hn,hK,hL];simp;omega
             refine(put_wp h3 6 s.line (l.take n) hb).mono fun v5 K5 ⟨vt5,h5⟩=> ?_
             repeat' (first | (simp (disch:=first | omega | (decide +kernel)) only[↓RD,RU,resL]) | (with_reducible first | refine condK_dec (fun _=> ?_) fun _=> ?_ | refine grd_dec (fun _=> ?_) fun _=> ?_ | refine egrd_dec (fun _=> ?_) fun _=> ?_))
             all_goals exact⟨vt5,by unfold numS;rw[if_neg (by simp[hbad]),hn,hK];exact h5⟩)
      ·repeat' (first | (simp (disch:=first | omega | (decide +kernel)) only[↓RD,RU,↓putF_get,↓putF_none,↓evF_t,↓evF_c,getD_zero,pop,lop,wop,isVal,isCell,Value.cells,ρ0,ρ1,↓reduceIte,Nat.reduceEqDiff,Nat.reduceAdd,reduceCtorEq,ρ5,ρ6,ρ7,ρ8,ρ17,ρ18,ρ19,ρ20,ρ22,ρ23,Kd.isRo,ρ25,ρ26,Nat.reduceLeDiff,p0,p1,p2,he0,digit_iff,he3,(by simpa[he3] using he1':isDigN 45=false),he4,hob2,hpd2,n2]) | (with_reducible first | refine condK_dec (fun _=> ?_) fun _=> ?_ | refine grd_dec (fun _=> ?_) fun _=> ?_ | refine egrd_dec (fun _=> ?_) fun _=> ?_))
       refine(run_wp (s:=atS s (a+2)) (h2.set (s':=atS s (a+2)) rfl rfl (atS_bd h.bd (by omega))) (by show s.pos+(a+2)≤_;omega)).mono fun v3 K3 h3=> ?_
       have hq3:(atS s (a+2)).pos=s.pos+(a+2):=rfl
       rw[hq3,hdr] at h3
       have hN:numN l=a+(2+digN (l.drop (a+2))):=by unfold numN;rw[hbA,hE]
       have hNl:numN l≤l.length+2:=by have:=hdp (a+2);omega
       have h3:RdAt A K3 p src (atS s (numN l)) vo vt m:=by
        have e:atS (atS s (a+2)) (digN (l.drop (a+2)))=atS s (numN l):=by rw[hN];simp only[atS];congr 1;omega
        rw[←e];exact h3
       have hK:numK l=6:=by unfold numK;rw[if_neg];rintro⟨_,g⟩;rw[hbA,hE] at g;omega
       have hNN:numN l≤l.length:=by rw[hN];have:=hdp (a+2);have:=dig_lt he4;omega
       obtain⟨n,hn⟩ : ∃n,numN l=n:=⟨_,rfl⟩
       rw[hn] at h3 hNN
       have hob3:=h3.ob
       have hpl3:=h3.pl
       have hpd3:(atS s n).pos=s.pos+n:=rfl
       have r0:= @peek0 _ _ _ _ _ _ _ _ h3
       simp only[hpd3,hdr] at r0
       have hlen:(l.take n).length=n:=by simp;omega
       have hn0:0<n:=by omega
       have hget:(l.take n)[0]? = some l[0]:=by rw[List.getElem?_take,if_pos hn0];exact List.getElem?_eq_getElem _
       have hh0:hd l=l[0].toNat:=by have:=hd_drop (l:=l) (j:=0) (by omega);simpa using this
       cases hL:isLetN (hd (l.drop n)) with
       | true=>
         have hbad:numBad l=true:=by unfold numBad;rw[hn,hL];rfl
         repeat' (first | (simp (disch:=first | omega | (decide +kernel)) only[↓RD,RU,↓putF_get,↓evF_t,↓evF_c,getD_zero,pop,lop,ρ0,ρ1,↓reduceIte,Nat.reduceEqDiff,reduceCtorEq,ρ5,ρ6,bnd,ρ28,ρ29,hob3,hpd3,str_size,str_ext,Nat.add_sub_cancel_left,hl,r0,letter_iff,hL]) | (with_reducible first | refine condK_dec (fun _=> ?_) fun _=> ?_ | refine grd_dec (fun _=> ?_) fun _=> ?_ | refine egrd_dec (fun _=> ?_) fun _=> ?_))
         all_goals
          refine(fail_wp h3 s.line 20 (by omega) (by decide)).mono fun v4 K4 h4=> ?_
          have hob4:=h4.ob
          have hpl4:=h4.pl
          have hl4:(failS (atS s n) s.line 20).line=s.line:=by unfold failS;split<;>rfl
          repeat' (first | (simp (disch:=first | omega | (decide +kernel)) only[↓RD,RU,↓putF_get,↓evF_t,getD_zero,pop,lop,ρ0,ρ1,↓reduceIte,Nat.reduceEqDiff,reduceCtorEq,ρ5,ρ6,hob4,hl4]) | (with_reducible first | refine condK_dec (fun _=> ?_) fun _=> ?_ | refine grd_dec (fun _=> ?_) fun _=> ?_ | refine egrd_dec (fun _=> ?_) fun _=> ?_))
          refine(put_wp h4 6 s.line (l.take n) (by rw[fail_len.1,fail_len.2];exact hb)).mono fun v5 K5 ⟨vt5,h5⟩=> ?_
          repeat' (first | (simp (disch:=first | omega | (decide +kernel)) only[↓RD,RU,resL]) | (with_reducible first | refine condK_dec (fun _=> ?_) fun _=> ?_ | refine grd_dec (fun _=> ?_) fun _=> ?_ | refine egrd_dec (fun _=> ?_) fun _=> ?_))
          all_goals exact⟨vt5,by unfold numS;rw[if_pos hbad,hn,hK];exact h5⟩
       | false=>
         repeat' (first | (simp (disch:=first | omega | (decide +kernel)) only[↓RD,RU,↓putF_get,↓evF_t,↓evF_c,getD_zero,pop,lop,ρ0,ρ1,↓reduceIte,Nat.reduceEqDiff,reduceCtorEq,ρ5,ρ6,bnd,ρ28,ρ29,hob3,hpd3,str_size,str_ext,Nat.add_sub_cancel_left,hl,r0,letter_iff,hL,hlen]) | (with_reducible first | refine condK_dec (fun _=> ?_) fun _=> ?_ | refine grd_dec (fun _=> ?_) fun _=> ?_ | refine egrd_dec (fun _=> ?_) fun _=> ?_))
         all_goals first
          | (have hbad:numBad l=true:=by
              unfold numBad;rw[hn,hK,hL];simp;omega
             refine(fail_wp h3 s.line 20 (by omega) (by decide)).mono fun v4 K4 h4=> ?_
             have hob4:=h4.ob
             have hpl4:=h4.pl
             have hl4:(failS (atS s n) s.line 20).line=s.line:=by unfold failS;split<;>rfl
             repeat' (first | (simp (disch:=first | omega | (decide +kernel)) only[↓RD,RU,↓putF_get,↓evF_t,getD_zero,pop,lop,ρ0,ρ1,↓reduceIte,Nat.reduceEqDiff,reduceCtorEq,ρ5,ρ6,hob4,hl4]) | (with_reducible first | refine condK_dec (fun _=> ?_) fun _=> ?_ | refine grd_dec (fun _=> ?_) fun _=> ?_ | refine egrd_dec (fun _=> ?_) fun _=> ?_))
             refine(put_wp h4 6 s.line (l.take n) (by rw[fail_len.1,fail_len.2];exact hb)).mono fun v5 K5 ⟨vt5,h5⟩=> ?_
             repeat' (first | (simp (disch:=first | omega | (decide +kernel)) only[↓RD,RU,resL]) | (with_reducible first | refine condK_dec (fun _=> ?_) fun _=> ?_ | refine grd_dec (fun _=> ?_) fun _=> ?_ | refine egrd_dec (fun _=> ?_) fun _=> ?_))
             all_goals exact⟨vt5,by unfold numS;rw[if_pos hbad,hn,hK];exact h5⟩)
          | (have hbad:numBad l=false:=by
              unfold numBad;rw[hn,hK,hL];simp;omega
             refine(put_wp h3 6 s.line (l.take n) hb).mono fun v5 K5 ⟨vt5,h5⟩=> ?_
             repeat' (first | (simp (disch:=first | omega | (decide +kernel)) only[↓RD,RU,resL]) | (with_reducible first | refine condK_dec (fun _=> ?_) fun _=> ?_ | refine grd_dec (fun _=> ?_) fun _=> ?_ | refine egrd_dec (fun _=> ?_) fun _=> ?_))
             all_goals exact⟨vt5,by unfold numS;rw[if_neg (by simp[hbad]),hn,hK];exact h5⟩)
     ·have hE:expN (l.drop a)=0:=by
       unfold expN
       rw[if_pos he0,List.drop_drop,List.drop_drop,if_neg (by rw[he1'];simp),if_neg he2]
      by_cases he5:hd (l.drop (a+1))=43∨hd (l.drop (a+1))=45
      ·have he4:isDigN (hd (l.drop (a+2)))=false:=by
        cases q:isDigN (hd (l.drop (a+2))) with
        | true=>exact absurd ⟨he5,q⟩ he2
        | false=>rfl
       rcases he5 with he3 | he3
       ·skip
        have hN:numN l=a:=by unfold numN;rw[hbA,hE];rfl
        have h3:RdAt A K1 p src (atS s (numN l)) vo vt m:=by rw[hN];exact h2
        have hK:numK l=5:=by unfold numK;rw[if_pos ⟨hF,by rw[hbA,hE]⟩]
        have hNN:numN l≤l.length:=by rw[hN];exact hbl
        have hn:=hN
        rw[hn] at h3 hNN
        have hob3:=h3.ob
        have hpl3:=h3.pl
        have hpd3:(atS s a).pos=s.pos+a:=rfl
        have r0:= @peek0 _ _ _ _ _ _ _ _ h3
        simp only[hpd3,hdr] at r0
        have hlen:(l.take a).length=a:=by simp;omega
        have hn0:0<a:=by omega
        have hget:(l.take a)[0]? = some l[0]:=by rw[List.getElem?_take,if_pos hn0];exact List.getElem?_eq_getElem _
        have hh0:hd l=l[0].toNat:=by have:=hd_drop (l:=l) (j:=0) (by omega);simpa using this
        have hL:isLetN (hd (l.drop a))=true:=by rw[he0];rfl
        have hbad:numBad l=true:=by unfold numBad;rw[hn,hL];rfl
        repeat' (first | (simp (disch:=first | omega | (decide +kernel)) only[↓RD,RU,↓putF_get,↓evF_t,↓evF_c,getD_zero,pop,lop,ρ0,ρ1,↓reduceIte,Nat.reduceEqDiff,reduceCtorEq,ρ5,ρ6,bnd,ρ28,ρ29,p0,p1,p2,he0,digit_iff,he3,(by simpa[he3] using he1':isDigN 43=false),he4,let101,hob3,hpd3,str_size,str_ext,Nat.add_sub_cancel_left,hl,letter_iff]) | (with_reducible first | refine condK_dec (fun _=> ?_) fun _=> ?_ | refine grd_dec (fun _=> ?_) fun _=> ?_ | refine egrd_dec (fun _=> ?_) fun _=> ?_))
        all_goals
         refine(fail_wp h3 s.line 20 (by omega) (by decide)).mono fun v4 K4 h4=> ?_
         have hob4:=h4.ob
         have hpl4:=h4.pl
         have hl4:(failS (atS s a) s.line 20).line=s.line:=by unfold failS;split<;>rfl
         repeat' (first | (simp (disch:=first | omega | (decide +kernel)) only[↓RD,RU,↓putF_get,↓evF_t,getD_zero,pop,lop,ρ0,ρ1,↓reduceIte,Nat.reduceEqDiff,reduceCtorEq,ρ5,ρ6,hob4,hl4]) | (with_reducible first | refine condK_dec (fun _=> ?_) fun _=> ?_ | refine grd_dec (fun _=> ?_) fun _=> ?_ | refine egrd_dec (fun _=> ?_) fun _=> ?_))
         refine(put_wp h4 5 s.line (l.take a) (by rw[fail_len.1,fail_len.2];exact hb)).mono fun v5 K5 ⟨vt5,h5⟩=> ?_
         repeat' (first | (simp (disch:=first | omega | (decide +kernel)) only[↓RD,RU,resL]) | (with_reducible first | refine condK_dec (fun _=> ?_) fun _=> ?_ | refine grd_dec (fun _=> ?_) fun _=> ?_ | refine egrd_dec (fun _=> ?_) fun _=> ?_))
         all_goals exact⟨vt5,by unfold numS;rw[if_pos hbad,hn,hK];exact h5⟩
       ·skip
        have hN:numN l=a:=by unfold numN;rw[hbA,hE];rfl
        have h3:RdAt A K1 p src (atS s (numN l)) vo vt m:=by rw[hN];exact h2
        have hK:numK l=5:=by unfold numK;rw[if_pos ⟨hF,by rw[hbA,hE]⟩]
        have hNN:numN l≤l.length:=by rw[hN];exact hbl
        have hn:=hN
        rw[hn] at h3 hNN
        have hob3:=h3.ob
        have hpl3:=h3.pl
        have hpd3:(atS s a).pos=s.pos+a:=rfl
        have r0:= @peek0 _ _ _ _ _ _ _ _ h3
        simp only[hpd3,hdr] at r0
        have hlen:(l.take a).length=a:=by simp;omega
        have hn0:0<a:=by omega
        have hget:(l.take a)[0]? = some l[0]:=by rw[List.getElem?_take,if_pos hn0];exact List.getElem?_eq_getElem _
        have hh0:hd l=l[0].toNat:=by have:=hd_drop (l:=l) (j:=0) (by omega);simpa using this
        have hL:isLetN (hd (l.drop a))=true:=by rw[he0];rfl
        have hbad:numBad l=true:=by unfold numBad;rw[hn,hL];rfl
        repeat' (first | (simp (disch:=first | omega | (decide +kernel)) only[↓RD,RU,↓putF_get,↓evF_t,↓evF_c,getD_zero,pop,lop,ρ0,ρ1,↓reduceIte,Nat.reduceEqDiff,reduceCtorEq,ρ5,ρ6,bnd,ρ28,ρ29,p0,p1,p2,he0,digit_iff,he3,(by simpa[he3] using he1':isDigN 45=false),he4,let101,hob3,hpd3,str_size,str_ext,Nat.add_sub_cancel_left,hl,letter_iff]) | (with_reducible first | refine condK_dec (fun _=> ?_) fun _=> ?_ | refine grd_dec (fun _=> ?_) fun _=> ?_ | refine egrd_dec (fun _=> ?_) fun _=> ?_))
        all_goals
         refine(fail_wp h3 s.line 20 (by omega) (by decide)).mono fun v4 K4 h4=> ?_
         have hob4:=h4.ob
         have hpl4:=h4.pl
         have hl4:(failS (atS s a) s.line 20).line=s.line:=by unfold failS;split<;>rfl
         repeat' (first | (simp (disch:=first | omega | (decide +kernel)) only[↓RD,RU,↓putF_get,↓evF_t,getD_zero,pop,lop,ρ0,ρ1,↓reduceIte,Nat.reduceEqDiff,reduceCtorEq,ρ5,ρ6,hob4,hl4]) | (with_reducible first | refine condK_dec (fun _=> ?_) fun _=> ?_ | refine grd_dec (fun _=> ?_) fun _=> ?_ | refine egrd_dec (fun _=> ?_) fun _=> ?_))
         refine(put_wp h4 5 s.line (l.take a) (by rw[fail_len.1,fail_len.2];exact hb)).mono fun v5 K5 ⟨vt5,h5⟩=> ?_
         repeat' (first | (simp (disch:=first | omega | (decide +kernel)) only[↓RD,RU,resL]) | (with_reducible first | refine condK_dec (fun _=> ?_) fun _=> ?_ | refine grd_dec (fun _=> ?_) fun _=> ?_ | refine egrd_dec (fun _=> ?_) fun _=> ?_))
         all_goals exact⟨vt5,by unfold numS;rw[if_pos hbad,hn,hK];exact h5⟩
      ·obtain⟨he6,he7⟩:hd (l.drop (a+1))≠43∧hd (l.drop (a+1))≠45:=⟨fun e=>he5 (.inl e),fun e=>he5 (.inr e)⟩
       have hN:numN l=a:=by unfold numN;rw[hbA,hE];rfl
       have h3:RdAt A K1 p src (atS s (numN l)) vo vt m:=by rw[hN];exact h2
       have hK:numK l=5:=by unfold numK;rw[if_pos ⟨hF,by rw[hbA,hE]⟩]
       have hNN:numN l≤l.length:=by rw[hN];exact hbl
       have hn:=hN
       rw[hn] at h3 hNN
       have hob3:=h3.ob
       have hpl3:=h3.pl
       have hpd3:(atS s a).pos=s.pos+a:=rfl
       have r0:= @peek0 _ _ _ _ _ _ _ _ h3
       simp only[hpd3,hdr] at r0
       have hlen:(l.take a).length=a:=by simp;omega
       have hn0:0<a:=by omega
       have hget:(l.take a)[0]? = some l[0]:=by rw[List.getElem?_take,if_pos hn0];exact List.getElem?_eq_getElem _
       have hh0:hd l=l[0].toNat:=by have:=hd_drop (l:=l) (j:=0) (by omega);simpa using this
       have hL:isLetN (hd (l.drop a))=true:=by rw[he0];rfl
       have hbad:numBad l=true:=by unfold numBad;rw[hn,hL];rfl
       repeat' (first | (simp (disch:=first | omega | (decide +kernel)) only[↓RD,RU,↓putF_get,↓evF_t,↓evF_c,getD_zero,pop,lop,ρ0,ρ1,↓reduceIte,Nat.reduceEqDiff,reduceCtorEq,ρ5,ρ6,bnd,ρ28,ρ29,p0,p1,he0,digit_iff,he1',let101,hob3,hpd3,str_size,str_ext,Nat.add_sub_cancel_left,hl,letter_iff]) | (with_reducible first | refine condK_dec (fun _=> ?_) fun _=> ?_ | refine grd_dec (fun _=> ?_) fun _=> ?_ | refine egrd_dec (fun _=> ?_) fun _=> ?_))
       all_goals
        refine(fail_wp h3 s.line 20 (by omega) (by decide)).mono fun v4 K4 h4=> ?_
        have hob4:=h4.ob
        have hpl4:=h4.pl
        have hl4:(failS (atS s a) s.line 20).line=s.line:=by unfold failS;split<;>rfl
        repeat' (first | (simp (disch:=first | omega | (decide +kernel)) only[↓RD,RU,↓putF_get,↓evF_t,getD_zero,pop,lop,ρ0,ρ1,↓reduceIte,Nat.reduceEqDiff,reduceCtorEq,ρ5,ρ6,hob4,hl4]) | (with_reducible first | refine condK_dec (fun _=> ?_) fun _=> ?_ | refine grd_dec (fun _=> ?_) fun _=> ?_ | refine egrd_dec (fun _=> ?_) fun _=> ?_))
        refine(put_wp h4 5 s.line (l.take a) (by rw[fail_len.1,fail_len.2];exact hb)).mono fun v5 K5 ⟨vt5,h5⟩=> ?_
        repeat' (first | (simp (disch:=first | omega | (decide +kernel)) only[↓RD,RU,resL]) | (with_reducible first | refine condK_dec (fun _=> ?_) fun _=> ?_ | refine grd_dec (fun _=> ?_) fun _=> ?_ | refine egrd_dec (fun _=> ?_) fun _=> ?_))
        all_goals exact⟨vt5,by unfold numS;rw[if_pos hbad,hn,hK];exact h5⟩
   ·have hE:expN (l.drop a)=0:=by
     unfold expN
     rw[if_neg he0]
    have hN:numN l=a:=by unfold numN;rw[hbA,hE];rfl
    have h3:RdAt A K1 p src (atS s (numN l)) vo vt m:=by rw[hN];exact h2
    have hK:numK l=5:=by unfold numK;rw[if_pos ⟨hF,by rw[hbA,hE]⟩]
    have hNN:numN l≤l.length:=by rw[hN];exact hbl
    have hn:=hN
    rw[hn] at h3 hNN
    have hob3:=h3.ob
    have hpl3:=h3.pl
    have hpd3:(atS s a).pos=s.pos+a:=rfl
    have r0:= @peek0 _ _ _ _ _ _ _ _ h3
    simp only[hpd3,hdr] at r0
    have hlen:(l.take a).length=a:=by simp;omega
    have hn0:0<a:=by omega
    have hget:(l.take a)[0]? = some l[0]:=by rw[List.getElem?_take,if_pos hn0];exact List.getElem?_eq_getElem _
    have hh0:hd l=l[0].toNat:=by have:=hd_drop (l:=l) (j:=0) (by omega);simpa using this
    cases hL:isLetN (hd (l.drop a)) with
    | true=>
      have hbad:numBad l=true:=by unfold numBad;rw[hn,hL];rfl
      repeat' (first | (simp (disch:=first | omega | (decide +kernel)) only[↓RD,RU,↓putF_get,↓evF_t,↓evF_c,getD_zero,pop,lop,ρ0,ρ1,↓reduceIte,Nat.reduceEqDiff,reduceCtorEq,ρ5,ρ6,bnd,ρ28,ρ29,p0,hob3,hpd3,str_size,str_ext,Nat.add_sub_cancel_left,hl,letter_iff,hL]) | (with_reducible first | refine condK_dec (fun _=> ?_) fun _=> ?_ | refine grd_dec (fun _=> ?_) fun _=> ?_ | refine egrd_dec (fun _=> ?_) fun _=> ?_))
      all_goals
       refine(fail_wp h3 s.line 20 (by omega) (by decide)).mono fun v4 K4 h4=> ?_
       have hob4:=h4.ob
       have hpl4:=h4.pl
       have hl4:(failS (atS s a) s.line 20).line=s.line:=by unfold failS;split<;>rfl
       repeat' (first | (simp (disch:=first | omega | (decide +kernel)) only[↓RD,RU,↓putF_get,↓evF_t,getD_zero,pop,lop,ρ0,ρ1,↓reduceIte,Nat.reduceEqDiff,reduceCtorEq,ρ5,ρ6,hob4,hl4]) | (with_reducible first | refine condK_dec (fun _=> ?_) fun _=> ?_ | refine grd_dec (fun _=> ?_) fun _=> ?_ | refine egrd_dec (fun _=> ?_) fun _=> ?_))
       refine(put_wp h4 5 s.line (l.take a) (by rw[fail_len.1,fail_len.2];exact hb)).mono fun v5 K5 ⟨vt5,h5⟩=> ?_
       repeat' (first | (simp (disch:=first | omega | (decide +kernel)) only[↓RD,RU,resL]) | (with_reducible first | refine condK_dec (fun _=> ?_) fun _=> ?_ | refine grd_dec (fun _=> ?_) fun _=> ?_ | refine egrd_dec (fun _=> ?_) fun _=> ?_))
       all_goals exact⟨vt5,by unfold numS;rw[if_pos hbad,hn,hK];exact h5⟩
    | false=>
      repeat' (first | (simp (disch:=first | omega | (decide +kernel)) only[↓RD,RU,↓putF_get,↓evF_t,↓evF_c,getD_zero,pop,lop,ρ0,ρ1,ρ4,↓reduceIte,Nat.reduceEqDiff,reduceCtorEq,ρ5,ρ6,bnd,Int.reduceToNat,ρ28,ρ29,p0,hob3,hpd3,str_size,str_get,str_ext,Nat.add_sub_cancel_left,hl,letter_iff,hL,hlen,hget]) | (with_reducible first | refine condK_dec (fun _=> ?_) fun _=> ?_ | refine grd_dec (fun _=> ?_) fun _=> ?_ | refine egrd_dec (fun _=> ?_) fun _=> ?_))
      all_goals first
       | (have hbad:numBad l=true:=by
           unfold numBad;rw[hn,hK,hL];simp;omega
          refine(fail_wp h3 s.line 20 (by omega) (by decide)).mono fun v4 K4 h4=> ?_
          have hob4:=h4.ob
          have hpl4:=h4.pl
          have hl4:(failS (atS s a) s.line 20).line=s.line:=by unfold failS;split<;>rfl
          repeat' (first | (simp (disch:=first | omega | (decide +kernel)) only[↓RD,RU,↓putF_get,↓evF_t,getD_zero,pop,lop,ρ0,ρ1,↓reduceIte,Nat.reduceEqDiff,reduceCtorEq,ρ5,ρ6,hob4,hl4]) | (with_reducible first | refine condK_dec (fun _=> ?_) fun _=> ?_ | refine grd_dec (fun _=> ?_) fun _=> ?_ | refine egrd_dec (fun _=> ?_) fun _=> ?_))
          refine(put_wp h4 5 s.line (l.take a) (by rw[fail_len.1,fail_len.2];exact hb)).mono fun v5 K5 ⟨vt5,h5⟩=> ?_
          repeat' (first | (simp (disch:=first | omega | (decide +kernel)) only[↓RD,RU,resL]) | (with_reducible first | refine condK_dec (fun _=> ?_) fun _=> ?_ | refine grd_dec (fun _=> ?_) fun _=> ?_ | refine egrd_dec (fun _=> ?_) fun _=> ?_))
          all_goals exact⟨vt5,by unfold numS;rw[if_pos hbad,hn,hK];exact h5⟩)
       | (have hbad:numBad l=false:=by
           unfold numBad;rw[hn,hK,hL];simp;omega
          refine(put_wp h3 5 s.line (l.take a) hb).mono fun v5 K5 ⟨vt5,h5⟩=> ?_
          repeat' (first | (simp (disch:=first | omega | (decide +kernel)) only[↓RD,RU,resL]) | (with_reducible first | refine condK_dec (fun _=> ?_) fun _=> ?_ | refine grd_dec (fun _=> ?_) fun _=> ?_ | refine egrd_dec (fun _=> ?_) fun _=> ?_))
          all_goals exact⟨vt5,by unfold numS;rw[if_neg (by simp[hbad]),hn,hK];exact h5⟩)
end Can
end Go.Proofs.YtdfgkcoenagaaaaGreat
