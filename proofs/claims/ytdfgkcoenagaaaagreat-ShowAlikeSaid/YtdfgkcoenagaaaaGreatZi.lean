/- Lex: the program's Lex. Lex: how long the answer is; bytes; the document's Same; Lex as tokens that lie. Lex, plain: lines counted on; rows that are blank. Canonical runs: panics. Over any program. Canonical runs: regions in parts; operations that the canonical run has no words for, at their end. Over any program. Canonical runs: a function that defers a closure and is saved by it. Over any program. Runs over trees: rows as pure lists. Values, and what they stand for in a canonical memory. Over any program. Runs over trees: pure operations and reads. Over any program. -/
import Derived.Test.YtdfgkcoenagaaaaGreatZh
import Derived.Test.YtdfgkcoenagaaaaGreatZd
import Derived.RecoverIn
section
namespace Go.Proofs.YtdfgkcoenagaaaaGreat
namespace Can
open Go Go.RowKit
set_option linter.unusedSimpArgs false
set_option linter.unusedVariables false
set_option maxRecDepth 4000
def LexOut(H K:CH)(v:Value):Except (Nat×Nat) (List Tok)→Prop
 | .ok ts=>∃vt,v= .tuple #[vt, .int .i64 0, .int .i64 0]∧Grw H 65 3 tokC K vt ts
 | .error y=>v= .tuple #[.slice none 0 0, .int .i64 y.1, .int .i64 y.2]
theorem rowT_err{line d e:Nat}{t:List UInt8}{st:List Nat}(h:rowT line t d st= .error e):e=20∨e=21:=by
 unfold rowT at h
 split at h
 ·cases h
 ·split at h
  ·cases h;exact .inr rfl
  ·split at h
   ·cases h;exact .inl rfl
   ·cases h
def LxJ (H:CH)(p:Nat)(src:List UInt8)(m n:Nat)(K:CH):Prop:=∃s st vo vt,n=src.length+1-s.pos∧LxI src s st∧RdAt H K p src s vo vt m
def LxE (H:CH)(p:Nat)(src:List UInt8)(m k:Nat)(s:RS)(vo:Value)(n:Nat)(v:Value)(K:CH):Prop:=∃i vt,n=k-i∧i≤k∧v= .int .i64 (i:Nat)∧RdAt H K p src { s with out:=s.out++List.replicate i ⟨3,s.line,[]⟩ } vo vt m
set_option maxHeartbeats 2000000 in
theorem lex_wp(H:CH){q:Option Addr}{c:Nat}{src:List UInt8}(h:SlAt 1 (CInt .u8) H q c (u8i src)) :
 WpF (tblG Tryz.prog LG GG) 10 [.slice q src.length c] H fun v K=>HExt H K∧LexOut H K v (lexT src):=by
 refine wpF_rG (by rfl) (by kernel_rfl) ?_;(conv in (rF _ _).body=>reduce);(conv in (rF _ _).res=>reduce)
 by_cases hl:20000<src.length
 ·have e:lexT src= .error (0,24):=by unfold lexT;rw[if_pos hl]
  rw[e]
  repeat' (first | (simp (disch:=first | omega | (decide +kernel)) only[↓RD,RU,↓putF_get,↓evF_t,↓evF_c,getD_zero,pop,resL,resV,tupleV,↓reduceIte,Nat.reduceEqDiff,Int.reduceOfNat,reduceCtorEq]) | (with_reducible first | refine condK_dec (fun _=> ?_) fun _=> ?_ | refine grd_dec (fun _=> ?_) fun _=> ?_ | refine egrd_dec (fun _=> ?_) fun _=> ?_))
  all_goals exact⟨HExt.refl _,rfl⟩
 ·have hb:=b2s_ok h
  repeat' (first | (simp (disch:=first | omega | (decide +kernel)) only[↓r_seq,↓seqK_n,↓r_reg,↓r_cond,↓condK_f,↓i_cons,↓e_cons,↓r_drw2,isW,↓itemK,↓o_p,↓o_call,↓putF_get,↓evF_t,↓evF_c,optV_some,↓wpI_nil,↓wpR_skip,getD_zero,b_gtr,pop,List.map_nil,↓reduceIte,Int.reduceOfNat,reduceCtorEq,dec_f]) | (with_reducible first | refine condK_dec (fun _=> ?_) fun _=> ?_ | refine grd_dec (fun _=> ?_) fun _=> ?_ | refine egrd_dec (fun _=> ?_) fun _=> ?_))
  refine(words_wp H).mono fun v1 K1 ⟨hv1,hw1,hn1,hk1⟩=> ?_
  subst hv1
  have hx:HExt H K1:=⟨by omega,hk1⟩
  have hb1:=b2s_ok (SlAt.good (CInt.good _) hx h)
  repeat' (first | (simp (disch:=first | omega | (decide +kernel)) only[↓r_seq,↓r_block,↓seqK_n,↓eitemK,↓e_nil,↓e_cons,↓drwK,↓chk_nil,↓chk_n,agL,agE,accW_t,accW_f,isW,↓o_p,↓o_l,↓o_a,↓putF_get,↓evF_t,↓evF_c,new_nx,optV_some,optA_some,getD_zero,pop,aop,akV,isVal,Value.cells,List.map_cons,List.map_nil,Option.map_some,↓reduceIte,Nat.reduceEqDiff,Nat.reduceAdd,reduceCtorEq,List.getElem?_cons_zero,List.getElem?_cons_succ,List.length_cons,List.length_nil,setc_0,setc_s,List.drop_succ_cons,List.drop_zero,List.cons_append,List.nil_append,List.append_nil,List.drop_nil,List.size_toArray,List.toList_toArray,bldV,Nat.reduceLeDiff,Nat.le_refl,zeros_one,Nat.mul_one,Nat.zero_add,and_true,lop_b2s,hb,hb1]) | (with_reducible first | refine condK_dec (fun _=> ?_) fun _=> ?_ | refine grd_dec (fun _=> ?_) fun _=> ?_ | refine egrd_dec (fun _=> ?_) fun _=> ?_))
  obtain⟨p,hp⟩ : ∃p,K1.nx+1=p:=⟨_,rfl⟩
  refine loop_w (fun n fr K1=>LxJ H p src H.nx n K1) (n:=src.length+1) ?_ ?_
  ·refine⟨⟨0,1,0,[0],[],0,0⟩,[0], .slice (some ⟨K1.nx,0,none⟩) 1 1, .slice none 0 0,rfl,LxI.init,?_⟩
   have e1 : ¬K1.nx=p:=by omega
   have e2 : ¬H.nx=p:=by omega
   have e3 : ¬H.nx=K1.nx:=by omega
   refine⟨by simp only[new_get,new_nx,hp,if_pos];rfl,by simp only[new_nx];omega,by omega,⟨K1.nx, .ex,1,[.int .i64 0],rfl,by omega,by simp only[new_nx];omega,by simp only[new_get,new_nx,hp,if_neg e1,if_pos],rfl,by decide,by decide,by decide,fun i hi=> ?_⟩, .inl ⟨rfl,rfl⟩,by simp only[new_get,new_nx,hp,if_neg e2,if_neg e3];exact hw1,by simp only[new_nx];omega,by omega,(hx.new _).new _,⟨by decide,by decide,by decide,by decide,by decide,by decide⟩,by omega⟩
   have:i=0:=by simpa using hi
   subst this;rfl
  rintro n fr K2 ⟨⟨pos,line,dep,opn,out,err,wh⟩,st,vo,vt,rfl,hI,h2⟩ hag
  obtain rfl:err=0:=hI.e
  obtain⟨t,u,htu,hu,hnt,hlen⟩:=hI.row
  have hbo:out.length+opn.length≤pos+3*line+1:=hI.bo
  have hbd:dep≤pos:=hI.bd
  have hbl:line≤pos+1:=hI.bl
  have hpl:pos≤src.length:=hI.pl
  have hlen:src.length=pos+t.length+u.length:=hlen
  have hop:=congrArg List.length hI.op
  have hwh:wh≤100000:=h2.bd.wh
  simp only[List.length_reverse] at hop
  repeat' (first | (simp (disch:=first | omega | (decide +kernel)) only[↓RD,RU,↓putF_get,↓evF_t,pop,ρ0,ρ1,↓reduceIte,hag,hp]) | (with_reducible first | refine condK_dec (fun _=> ?_) fun _=> ?_ | refine grd_dec (fun _=> ?_) fun _=> ?_ | refine egrd_dec (fun _=> ?_) fun _=> ?_))
  refine(row_wp h2 hI.op hI.z rfl htu hu hnt hpl (by show out.length+opn.length<_;omega) (by show dep<_;omega)).mono fun v3 K3 h3=> ?_
  cases hr:rowT line t dep st with
  | error e=>
    have hf:=hI.err (by omega) htu hu hnt hr
    have he:=rowT_err hr
    simp only[hr] at h3
    obtain⟨vo',vt',s',h4,h5,h6⟩:=h3
    have h6:s'.wh=line:=h6
    rw[hf]
    have hob4:=h4.ob
    have hpl4:=h4.pl
    repeat' (first | (simp (disch:=first | omega | (decide +kernel)) only[↓RD,RU,↓putF_get,↓evF_t,↓evF_c,pop,lop,resL,resV,tupleV,↓reduceIte,Nat.reduceEqDiff,ρ5,ρ6,hag,hp,hob4,h5,h6]) | (with_reducible first | refine condK_dec (fun _=> ?_) fun _=> ?_ | refine grd_dec (fun _=> ?_) fun _=> ?_ | refine egrd_dec (fun _=> ?_) fun _=> ?_))
    all_goals exact⟨h4.E,rfl⟩
  | ok y=>
    obtain⟨x,d',st'⟩:=y
    simp only[hr] at h3
    obtain⟨vo',vt',h4⟩:=h3
    have h4:RdAt H K3 p src ⟨pos+t.length,line,d',st'.reverse,out++x,0,wh⟩ vo' vt' H.nx:=h4
    have hob4:=h4.ob
    have hpl4:=h4.pl
    obtain⟨g1,g2,g3⟩:=rowT_ok hr hI.z
    rcases hu with rfl | ⟨r,rfl⟩
    ·have hf:lexT src= .ok (out++x++endT line st'):=hI.fin (by omega) htu hnt hr
     rw[hf]
     have hlen:src.length=pos+t.length:=hlen
     obtain⟨b,kd,cc,os,rfl,o2⟩:=h4.opn
     have hst:0<st'.length:=by
      cases st' with
      | nil=>cases g3
      | cons a l=>simp
     repeat' (first | (simp (disch:=first | omega | (decide +kernel)) only[↓RD,RU,↓putF_get,↓evF_t,↓evF_c,pop,lop,↓reduceIte,Nat.reduceEqDiff,reduceCtorEq,ρ5,ρ6,ρ28,hag,hp,hob4,str_size,List.length_reverse]) | (with_reducible first | refine condK_dec (fun _=> ?_) fun _=> ?_ | refine grd_dec (fun _=> ?_) fun _=> ?_ | refine egrd_dec (fun _=> ?_) fun _=> ?_))
     refine loop_w (fun n fr K1=>LxE H p src H.nx (st'.length-1) ⟨pos+t.length,line,d',st'.reverse,out++x,0,wh⟩ (.slice (some ⟨b,0,none⟩) st'.reverse.length cc) n (fr 60) K1) (n:=st'.length-1) ⟨0,vt',rfl,by omega,by(repeat' (first | (simp (disch:=first | omega | (decide +kernel)) only[↓putF_get,↓reduceIte]) | (with_reducible first | refine condK_dec (fun _=> ?_) fun _=> ?_ | refine grd_dec (fun _=> ?_) fun _=> ?_ | refine egrd_dec (fun _=> ?_) fun _=> ?_));all_goals rfl),by simpa using h4⟩ ?_
     rintro n fr2 K4 ⟨i,vt5,rfl,hi,f60,h5⟩ hag2
     have hob5:=h5.ob
     have hpl5:=h5.pl
     repeat' (first | (simp (disch:=first | omega | (decide +kernel)) only[↓RD,RU,↓putF_get,↓evF_t,↓evF_c,pop,lop,ρ0,ρ1,↓reduceIte,Nat.reduceEqDiff,ρ5,ρ6,hag,hag2,hp,hob5,f60]) | (with_reducible first | refine condK_dec (fun _=> ?_) fun _=> ?_ | refine grd_dec (fun _=> ?_) fun _=> ?_ | refine egrd_dec (fun _=> ?_) fun _=> ?_))
     ·refine(put_wp h5 3 line [] (by simp only[List.length_append,List.length_reverse,List.length_replicate];omega)).mono fun v6 K6 ⟨vt6,h6⟩=> ?_
      repeat' (first | (simp (disch:=first | omega | (decide +kernel)) only[↓RD,RU,↓putF_get,↓evF_t,↓evF_c,pop,↓reduceIte,Nat.reduceEqDiff,f60]) | (with_reducible first | refine condK_dec (fun _=> ?_) fun _=> ?_ | refine grd_dec (fun _=> ?_) fun _=> ?_ | refine egrd_dec (fun _=> ?_) fun _=> ?_))
      all_goals
       refine⟨st'.length-1-(i+1),by omega,i+1,vt6,rfl,by omega,by first | rfl | (skip;all_goals rfl),?_⟩
       have e:out++x++List.replicate (i+1) (⟨3,line,[]⟩:Tok)=out++x++List.replicate i ⟨3,line,[]⟩++ [⟨3,line,[]⟩]:=by rw[List.replicate_succ',List.append_assoc];simp
       show RdAt H K6 p src ⟨pos+t.length,line,d',st'.reverse,out++x++List.replicate (i+1) ⟨3,line,[]⟩,0,wh⟩ _ vt6 H.nx
       rw[e]
       exact h6
     ·refine(put_wp h5 0 line [] (by simp only[List.length_append,List.length_reverse,List.length_replicate];omega)).mono fun v6 K6 ⟨vt6,h6⟩=> ?_
      have hob6:=h6.ob
      have hpl6:=h6.pl
      repeat' (first | (simp (disch:=first | omega | (decide +kernel)) only[↓RD,RU,↓putF_get,↓evF_t,↓evF_c,pop,lop,resL,resV,tupleV,↓reduceIte,Nat.reduceEqDiff,ρ5,ρ6,hag,hag2,hp,hob6]) | (with_reducible first | refine condK_dec (fun _=> ?_) fun _=> ?_ | refine grd_dec (fun _=> ?_) fun _=> ?_ | refine egrd_dec (fun _=> ?_) fun _=> ?_))
      all_goals
       have ei:i=st'.length-1:=by omega
       subst ei
       refine⟨h6.E,vt6,rfl,?_⟩
       have e:out++x++endT line st'=out++x++List.replicate (st'.length-1) ⟨3,line,[]⟩++ [⟨0,line,[]⟩]:=by unfold endT;rw[List.append_assoc];simp
       rw[e]
       exact h6.out
    ·have hS:LxI src ⟨pos+t.length+1,line+1,d',st'.reverse,out++x,0,wh⟩ st':=hI.step htu hnt hlen hr
     simp only[List.length_cons] at hlen
     repeat' (first | (simp (disch:=first | omega | (decide +kernel)) only[↓RD,RU,↓putF_get,↓putF_none,↓evF_t,↓evF_c,set_get,pop,lop,wop,isVal,isCell,Value.cells,↓reduceIte,Nat.reduceEqDiff,Nat.reduceAdd,ρ5,ρ6,ρ7,ρ8,ρ17,ρ18,ρ19,ρ20,ρ22,ρ23,Kd.isRo,ρ25,ρ26,Nat.reduceLeDiff,CH.set_set,ρ28,hag,hp,hob4,str_size]) | (with_reducible first | refine condK_dec (fun _=> ?_) fun _=> ?_ | refine grd_dec (fun _=> ?_) fun _=> ?_ | refine egrd_dec (fun _=> ?_) fun _=> ?_))
     all_goals
      refine⟨src.length+1-(pos+t.length+1),by omega,_,st',vo',vt',rfl,hS,?_⟩
      exact RdAt.set h4 (s':=⟨pos+t.length+1,line+1,d',st'.reverse,out++x,0,wh⟩) rfl rfl ⟨by show pos+t.length+1≤_;omega,by show line+1≤_;omega,by show d'≤_;omega,by show 0≤_;omega,hwh,by simp only[List.length_append,List.length_reverse];omega⟩
end Can
end Go.Proofs.YtdfgkcoenagaaaaGreat
end
section
namespace Go.Proofs.YtdfgkcoenagaaaaGreat
namespace Can
open Go Go.RowKit
set_option linter.unusedSimpArgs false
set_option linter.unusedVariables false
set_option maxRecDepth 4000
theorem rowsT_len : ∀ {ts:List (List UInt8)} {line d:Nat} {st st':List Nat} {x:List Tok},rowsT line ts d st= .ok (x,st')→st.getLast? = some 0→x.length+st'.length≤st.length+(ts.map List.length).sum+3*ts.length
 | [],line,d,st,st',x,h,_=>by cases h;simp
 | t::ts,line,d,st,st',x,h,hz=>by
   rw[rowsT_cons] at h
   cases hq:rowT line t d st with
   | error e=>rw[hq] at h;cases h
   | ok y=>
     obtain⟨a,d1,st1⟩:=y
     rw[hq] at h
     simp only at h
     cases hw:rowsT (line+1) ts d1 st1 with
     | error e=>rw[hw] at h;cases h
     | ok z=>
       obtain⟨b,st2⟩:=z
       rw[hw] at h
       cases h
       obtain⟨g1,g2,g3⟩:=rowT_ok hq hz
       have:=rowsT_len hw g3
       simp only[List.length_append,List.map_cons,List.sum_cons,List.length_cons]
       omega
theorem splitN_sum : ∀ {src:List UInt8},((splitN src).map List.length).sum+(splitN src).length=src.length+1
 | []=>rfl
 | c::r=>by
   have ih:=splitN_sum (src:=r)
   simp only[splitN]
   split
   ·simp only[List.map_cons,List.sum_cons,List.length_cons,List.length_nil];omega
   ·split
    ·rename_i a b hq
     rw[hq] at ih
     simp only[List.map_cons,List.sum_cons,List.length_cons] at ih⊢
     omega
    ·rename_i hq
     exact absurd hq splitN_ne
theorem lexT_len{src:List UInt8}{ts:List Tok}(h:lexT src= .ok ts):ts.length≤100000:=by
 unfold lexT at h
 split at h
 ·cases h
 ·cases hq:rowsT 1 (splitN src) 0 [0] with
  | error e=>rw[hq] at h;cases h
  | ok y=>
    obtain⟨x,st⟩:=y
    rw[hq] at h
    cases h
    have h1:=rowsT_len hq rfl
    have h2:=splitN_sum (src:=src)
    simp only[endT,List.length_append,List.length_replicate,List.length_cons,List.length_nil] at h1⊢
    omega
theorem u8_wf{x:Int}(h:(Lit.int .u8 x).wf=true):((x.toNat.toUInt8).toNat:Int)=x:=by
 have:=bounds_u8 h
 have h1:x.toNat.toUInt8.toNat=x.toNat % 256:=by simp
 omega
theorem u8_of{H:CH}{q:Option Addr}{c:Nat}{xs:List Int}(h:SlAt 1 (CInt .u8) H q c xs) : ∃src,xs=u8i src:=by
 refine⟨xs.map fun x=>x.toNat.toUInt8,?_⟩
 have hw : ∀x∈xs,(Lit.int .u8 x).wf=true:=by
  rcases h with ⟨rfl,_⟩ | ⟨l,o,os,e,kd,_,_,_,_,_,_,hR⟩
  ·intro x hx;cases hx
  ·intro x hx
   obtain⟨i,hi,rfl⟩:=List.getElem_of_mem hx
   exact(hR i hi).2
 clear h
 induction xs with
 | nil=>rfl
 | cons x xs ih=>
   simp only[u8i,List.map_cons]
   rw[u8_wf (hw x (by simp))]
   congr 1
   exact ih fun y hy=>hw y (by simp[hy])
theorem u8i_len{src:List UInt8}:(u8i src).length=src.length:=by simp[u8i]
end Can
end Go.Proofs.YtdfgkcoenagaaaaGreat
end
section
namespace Go.Proofs.YtdfgkcoenagaaaaGreat
namespace Can
set_option linter.unusedSimpArgs false
set_option linter.unusedVariables false
theorem rowsT_err2 : ∀ {ts:List (List UInt8)} {line d:Nat} {st:List Nat} {e:Nat×Nat},rowsT line ts d st= .error e→line≤e.1∧(e.2=20∨e.2=21)
 | [],line,d,st,e,h=>by cases h
 | t::ts,line,d,st,e,h=>by
   rw[rowsT_cons] at h
   cases hr:rowT line t d st with
   | error e'=>rw[hr] at h;cases h;exact⟨Nat.le_refl _,rowT_err hr⟩
   | ok y=>
     obtain⟨x,d',st'⟩:=y
     rw[hr] at h
     simp only at h
     cases hs:rowsT (line+1) ts d' st' with
     | error e2=>
       rw[hs] at h
       cases h
       have:=rowsT_err2 hs
       omega
     | ok z=>rw[hs] at h;cases h
theorem lexT_err2{src:List UInt8}{e:Nat×Nat}(hl:src.length≤20000)(h:lexT src= .error e):1≤e.1∧(e.2=20∨e.2=21):=by
 unfold lexT at h
 rw[if_neg (by omega)] at h
 cases hr:rowsT 1 (splitN src) 0 [0] with
 | error e'=>rw[hr] at h;cases h;exact rowsT_err2 hr
 | ok y=>rw[hr] at h;cases h
end Can
end Go.Proofs.YtdfgkcoenagaaaaGreat
end
section
namespace Go.Proofs.YtdfgkcoenagaaaaGreat
namespace Can
open Go Go.RowKit
set_option linter.unusedSimpArgs false
set_option linter.unusedVariables false
variable {P:Program} {B:Nat}
abbrev Pan:=FuncId→List Value→CH→Value→CH→Prop
inductive PanR(T:Tbl)(PC:Pan):RCode→Fr→CH→Value→CH→Prop where
 | reg {A R:List Item} {k:Item} {f:FuncId} {args:List Operand} {fr fr1:Fr} {H H1 H':CH} {v:Value} (hn : ∃n,runI (evH T n) A fr H=some (fr1,H1)) (hw:wantedF fr1 k.guard=some true) (hk:k.op= .call f args) (hp:PC f (args.map (evF fr1)) H1 v H'):PanR T PC (.reg (A++k::R)) fr H v H'
 | drw {d:DReg} {A R:List Item} {k:Item} {f:FuncId} {args:List Operand} {fr fr1:Fr} {H H1 H':CH} {v:Value} {Zl:List Item} (hi:d.its=A++k::R) (hd:d.pan=some Zl) (hA : ∀x∈A,isQ x.op=true) (hn : ∃n,runI (evH T n) A fr H=some (fr1,H1)) (hz : ∃n r,runI (evH T n) Zl fr1 H1=some r) (hw:wantedF fr1 k.guard=some true) (hk:k.op= .call f args) (hp:PC f (args.map (evF fr1)) H1 v H'):PanR T PC (.drw d) fr H v H'
 | seq1 {a b:RCode} {fr:Fr} {H H':CH} {v:Value} (h:PanR T PC a fr H v H'):PanR T PC (.seq a b) fr H v H'
 | seq2 {a b:RCode} {fr fr1:Fr} {H H1 H':CH} {v:Value} (hn : ∃n,evR (evH T n) n a fr H=some (.normal,fr1,H1)) (h:PanR T PC b fr1 H1 v H'):PanR T PC (.seq a b) fr H v H'
 | cond_t {c:Operand} {a b:RCode} {fr:Fr} {H H':CH} {v:Value} (hc:evF fr c= .bool true) (h:PanR T PC a fr H v H'):PanR T PC (.cond c a b) fr H v H'
 | cond_f {c:Operand} {a b:RCode} {fr:Fr} {H H':CH} {v:Value} (hc:evF fr c= .bool false) (h:PanR T PC b fr H v H'):PanR T PC (.cond c a b) fr H v H'
 | block {id:Nat} {c:RCode} {fr:Fr} {H H':CH} {v:Value} (h:PanR T PC c fr H v H'):PanR T PC (.block id c) fr H v H'
 | loop0 {c:RCode} {fr:Fr} {H H':CH} {v:Value} (h:PanR T PC c fr H v H'):PanR T PC (.loop c) fr H v H'
 | loop1 {c:RCode} {fr fr1:Fr} {H H1 H':CH} {v:Value} (hn : ∃n,evR (evH T n) n c fr H=some (.normal,fr1,H1)) (h:PanR T PC (.loop c) fr1 H1 v H'):PanR T PC (.loop c) fr H v H'
def LoopP(T:Tbl)(PC:Pan)(c:RCode)(v:Value)(H':CH):Nat→Fr→CH→Prop
 | 0,fr,H=>PanR T PC c fr H v H'
 | m+1,fr,H=>∃n fr1 H1,evR (evH T n) n c fr H=some (.normal,fr1,H1)∧LoopP T PC c v H' m fr1 H1
theorem panR_loop{T:Tbl}{PC:Pan}{r:RCode}{fr:Fr}{H H':CH}{v:Value}(h:PanR T PC r fr H v H') : ∀c,r= .loop c→∃m,LoopP T PC c v H' m fr H:=by
 induction h with
 | loop0 h=>intro c e;cases e;exact⟨0,h⟩
 | loop1 hn h ih=>
   intro c e;cases e
   obtain⟨m,hm⟩:=ih _ rfl
   obtain⟨n,hn⟩:=hn
   exact⟨m+1,n,_,_,hn,hm⟩
 | _=>intro c e;cases e
theorem wrI_tl{it:Item}{A:List Item}{t:Nat}(h:t∈wrI A):t∈wrI (it::A):=by
 simp only[wrI,List.mem_filterMap] at h⊢
 obtain⟨x,hx,hd⟩:=h
 exact⟨x,List.mem_cons_of_mem _ hx,hd⟩
theorem wrI_hd{it:Item}{A:List Item}{t:Nat}(h:it.dst=some t):t∈wrI (it::A):=by
 simp only[wrI,List.mem_filterMap]
 exact⟨it,List.mem_cons_self ..,h⟩
theorem wrI_app{A R:List Item}{t:Nat}(h:t∈wrI A):t∈wrI (A++R):=by
 simp only[wrI,List.mem_filterMap] at h⊢
 obtain⟨x,hx,hd⟩:=h
 exact⟨x,List.mem_append_left _ hx,hd⟩
theorem wrI_mem{A:List Item}{t:Nat}(h:t∉wrI A) : ∀x∈A,x.dst≠some t:=fun x hx e=>h (by
 simp only[wrI,List.mem_filterMap]
 exact⟨x,hx,e⟩)
theorem itemsP_sound{h:Hd}(hh:HS P B h){ro:Option Nat}{N:Nat}{ops:Array Oper}{Q:Exit→Act→World→Prop}{k:Item}{f:FuncId}{args:List Operand}{v:Value}{H':CH} : ∀(l:List Nat) (A R:List Item) (β:Nat→Ent) (fr fr1:Fr) (H H1:CH) (a:Act) (w:World),
 (A++k::R).length=l.length→(∀j (h1:j<(A++k::R).length) (h2:j<l.length),∃o,ops[l[j]]? = some o∧ItemOk P N ops o (A++k::R)[j])→Sim P B β H w→FR β N fr a→runI h A fr H=some (fr1,H1)→wantedF fr1 k.guard=some true→k.op= .call f args→PanC P B f (args.map (evF fr1)) H1 v H'→
 (∀β' w' a' v',Sim P B β' H' w'→Evo β w β' w'→VR β' v v'→a'.defers=a.defers→(∀t,t∉wrI A→VR β' (fr t) (a'.tmps.getD t undef))→Q (.panic [{ v:=v',recovered:=false }]) a' w')→wpOpsIn (Fn ro) 0 P ops Q l a w
 | [],A,R,β,fr,fr1,H,H1,a,w,hl,_,_,_,_,_,_,_,_=>by simp at hl
 | i::l,[],R,β,fr,fr1,H,H1,a,w,hl,hok,hS,hf,hr,hw,hk,hp,hQ=>by
   simp only[runI,Option.some.injEq,Prod.mk.injEq] at hr
   obtain⟨rfl,rfl⟩:=hr
   obtain⟨o,ho,hit⟩:=hok 0 (by simp) (by simp)
   simp only[List.nil_append,List.getElem_cons_zero] at ho hit
   simp only[wpOpsIn,ho]
   rw[wanted_rel hit hf hw]
   simp only[if_true]
   refine⟨fun f _=>trivial,?_⟩
   rw[show(Fn ro).round=ro from rfl,Oper.semAt_eq ro _ _ hit.nodefer]
   have hop:=hit.op
   rw[hk] at hop
   generalize hio:o.op=io at hop
   cases hop with
   | @call f args ts he=>
     rw[he] at hio
     have hv : ∀x∈o.op.operands,VR β (evF fr x) (a.eval x):=fun x hx=>evF_rel hf (hit.opnds x hx)
     have hargs:VRs β (args.toList.map (evF fr)) (args.toList.map a.eval):=by
      refine⟨by simp,fun j u hu=> ?_⟩
      rw[List.getElem?_map] at hu⊢
      cases hx:args.toList[j]? with
      | none=>rw[hx] at hu;cases hu
      | some x=>
        rw[hx] at hu;cases hu
        exact⟨_,rfl,hv x (by rw[hio];simp[Op.operands,Call.operands];exact .inr (by have:=List.mem_of_getElem? hx;simpa using this))⟩
     have hrun2:(execOp a.eval o).run P w= .ok (.enter f (args.map a.eval)) w:=by
      simp only[execOp,hio,resolve,Act.eval,Deferred.ofValue,Sem.run_bind,Sem.run_pure,Result.andThen_ok,invoke]
      rw[run_callFunc hp.1]
      simp
     rw[hrun2]
     refine⟨fun h=>absurd h (by simp[Fn,Fence.wide]),callsIn_Fn ?_⟩
     have:=hp.2 β w _ hS hargs
     have e1:(args.toList.map a.eval).toArray=args.map a.eval:=by apply Array.ext';simp
     rw[e1] at this
     refine this.mono ?_
     rintro e w' ⟨v',β',rfl,g1,g2,g3⟩
     exact hQ β' w' _ v' g2 g3 g1 rfl fun t _=>(hf.2 t).mono g3.ext
 | i::l,it::A,R,β,fr,fr',H,H1,a,w,hl,hok,hS,hf,hr,hwk,hk,hp,hQ=>by
   obtain⟨o,ho,hit⟩:=hok 0 (by simp) (by simp)
   simp only[List.cons_append,List.getElem_cons_zero] at ho hit
   have hrest : ∀(β1:Nat→Ent) (fr1:Fr) (H2:CH) (a1:Act) (w1:World),Sim P B β1 H2 w1→Evo β w β1 w1→FR β1 N fr1 a1→a1.defers=a.defers→(∀t,t∉wrI (it::A)→fr1 t=fr t)→runI h A fr1 H2=some (fr',H1)→wpOpsIn (Fn ro) 0 P ops Q l a1 w1:=by
    intro β1 fr1 H2 a1 w1 hS1 hE1 hf1 hd1 hk1 hr1
    refine itemsP_sound hh l A R β1 fr1 fr' H2 H1 a1 w1 (by simpa using hl) (fun j h1 h2=> ?_) hS1 hf1 hr1 hwk hk hp fun β' w' a' v' q1 q2 q3 q4 q5=>hQ β' w' a' v' q1 (hE1.trans q2) q3 (q4.trans hd1) fun t ht=>by
     rw[←hk1 t ht]
     exact q5 t fun h=>ht (wrI_tl h)
    have:=hok (j+1) (by simpa using h1) (by simpa using h2)
    simpa using this
   simp only[runI] at hr
   simp only[wpOpsIn,ho]
   cases hst:stepI h it fr H with
   | none=>rw[hst] at hr;cases hr
   | some r=>
     obtain⟨fr1,H2⟩:=r
     rw[hst] at hr
     simp only at hr
     have hkp : ∀t,t∉wrI (it::A)→fr1 t=fr t:=fun t ht=>stepI_keep hst fun e=>ht (wrI_hd e)
     cases hw:wantedF fr it.guard with
     | none=>simp[stepI,hw] at hst
     | some b=>
       rw[wanted_rel hit hf hw]
       cases b with
       | true=>
         simp only[if_true]
         simp only[stepI,hw] at hst
         exact item_sound hh hit hS hf hw hst fun β1 w1 v1 q1 q2 q3=>hrest β1 fr1 H2 _ w1 q1 q2 q3 (by cases o.dst<;>rfl) hkp hr
       | false=>
         simp only[Bool.false_eq_true,if_false]
         simp only[stepI,hw,Option.some.injEq,Prod.mk.injEq] at hst
         obtain⟨rfl,rfl⟩:=hst
         refine⟨fun _ _=>trivial,hrest β _ _ _ w hS (Evo.refl β w) ?_ (by cases o.dst<;>rfl) hkp hr⟩
         rw[←hit.dst]
         exact hf.put (fun x hx=>hit.lt x (by rw[←hit.dst];exact hx)) .skip
theorem code_soundP{T:Tbl}(hT:TblOk P B T){PC:Pan}(hPC : ∀f args H v H',PC f args H v H'→PanC P B f args H v H'){ro:Option Nat}{N B1:Nat}{D0:List Deferred}{c:Code}{r:RCode}(hok:CodeOk P N c r) : ∀(β:Nat→Ent) (fr:Fr) (H H':CH) (v:Value) (a:Act) (w:World) (Q:Exit→Act→World→Prop),
 Sim P B β H w→FR β N fr a→RoOk β ro→DM D0 B1 β w a→B1≤w.heap.size→PanR T PC r fr H v H'→
 (∀β' w' a' v',Sim P B β' H' w'→Evo β w β' w'→VR β' v v'→DM D0 B1 β' w' a'→(∀t,t∉wrR r→VR β' (fr t) (a'.tmps.getD t undef))→Q (.panic [{ v:=v',recovered:=false }]) a' w')→c.wpIn (Fn ro) 0 P Q a w:=by
 induction hok with
 | bad=>intro β fr H H' v a w Q hS hf hro hdm hB hr hK;cases hr
 | skip=>intro β fr H H' v a w Q hS hf hro hdm hB hr hK;cases hr
 | label=>intro β fr H H' v a w Q hS hf hro hdm hB hr hK;cases hr
 | exit=>intro β fr H H' v a w Q hS hf hro hdm hB hr hK;cases hr
 | ret=>intro β fr H H' v a w Q hS hf hro hdm hB hr hK;cases hr
 | rangeF hg hk=>intro β fr H H' v a w Q hS hf hro hdm hB hr hK;cases hr
 | scope hc ih=>
   intro β fr H H' v a w Q hS hf hro hdm hB hr hK
   exact wpIn_scope (ih β fr H H' v a w _ hS hf hro hdm hB hr fun β' w' a' v' q1 q2 q3 q4 q5=>⟨fun l e=>(by cases e),hK β' w' a' v' q1 q2 q3 q4 q5⟩)
 | @reg id ops its hl hi=>
   intro β fr H H' v a w Q hS hf hro hdm hB hr hK
   cases hr with
   | @reg A R k f args _ fr1 _ H1 _ _ hn hw hk hp=>
     obtain⟨n,hn⟩:=hn
     refine wpIn_region (itemsP_sound (fn_sound hT n) _ A R β fr fr1 H H1 a w (by simpa using hl) (fun j h1 h2=> ?_) hS hf hn hw hk (hPC _ _ _ _ _ hp) fun β' w' a' v' q1 q2 q3 q4 q5=>hK β' w' a' v' q1 q2 q3 (hdm.evo q2 q4) fun t ht=>q5 t fun h=>ht (wrI_app h))
     have hj:j<ops.size:=by omega
     exact⟨ops[j],by simp[hj],hi j h1 hj⟩
 | @drw id ops d hd=>
   intro β fr H H' v a w Q hS hf hro hdm hB hr hK
   cases hr with
   | @drw _ A R k f args _ fr1 _ H1 _ _ Zl hits hp hA hn hz hw hk hpc=>
     obtain⟨n,hn⟩:=hn
     obtain⟨m,r,hz⟩:=hz
     exact hd.2 Zl hp B _ ro β fr fr1 H H1 H' v A k R f args a w id Q (fn_sound hT (max n m)) hS hf hits hA hk (runI_mono (evH_mono (Nat.le_max_left ..)) hn) ⟨r,runI_mono (evH_mono (Nat.le_max_right ..)) hz⟩ hw (hPC _ _ _ _ _ hpc) fun β' w' a' v' q1 q2 q3 q4 q5=>hK β' w' a' v' q1 q2 q3 (hdm.evo q2 q4) fun t ht=>q5 t (wrI_mem ht)
 | @seq ca cb ra rb ha hb iha ihb=>
   intro β fr H H' v a w Q hS hf hro hdm hB hr hK
   cases hr with
   | seq1 h=>exact wpIn_seq (iha β fr H H' v a w _ hS hf hro hdm hB h fun β' w' a' v' q1 q2 q3 q4 q5=>hK β' w' a' v' q1 q2 q3 q4 fun t ht=>q5 t fun h=>ht (List.mem_append_left _ h))
   | @seq2 _ _ _ fr1 _ H1 _ _ hn h=>
     obtain⟨n,hn⟩:=hn
     refine wpIn_seq (code_sound (fn_sound hT n) ha β fr fr1 H H1 a w .normal _ hS hf hro hdm hB hn fun β' w' a' q1 q2 q3 q4=> ?_)
     exact ihb β' fr1 H1 H' v a' w' Q q1 q3 (hro.evo q2.ext) q4 (Nat.le_trans hB q2.size) h fun β2 w2 a2 v' p1 p2 p3 p4 p5=>hK β2 w2 a2 v' p1 (q2.trans p2) p3 p4 fun t ht=>by
      rw[←evR_keep (t:=t) hn fun h=>ht (List.mem_append_left _ h)]
      exact p5 t fun h=>ht (List.mem_append_right _ h)
 | @cond c ca cb ra rb hc ha hb iha ihb=>
   intro β fr H H' v a w Q hS hf hro hdm hB hr hK
   have hv:=evF_rel hf hc
   cases hr with
   | cond_t e h=>rw[e] at hv;exact wpIn_cond_true hv.bool_inv (iha β fr H H' v a w Q hS hf hro hdm hB h fun β' w' a' v' q1 q2 q3 q4 q5=>hK β' w' a' v' q1 q2 q3 q4 fun t ht=>q5 t fun h=>ht (List.mem_append_left _ h))
   | cond_f e h=>rw[e] at hv;exact wpIn_cond_false hv.bool_inv (ihb β fr H H' v a w Q hS hf hro hdm hB h fun β' w' a' v' q1 q2 q3 q4 q5=>hK β' w' a' v' q1 q2 q3 q4 fun t ht=>q5 t fun h=>ht (List.mem_append_right _ h))
 | @block id c rc hc ih=>
   intro β fr H H' v a w Q hS hf hro hdm hB hr hK
   cases hr with
   | block h=>exact wpIn_block (ih β fr H H' v a w _ hS hf hro hdm hB h hK)
 | @loop c rc hc ih=>
   intro β0 fr0 H0 H' v a0 w0 Q hS0 hf0 hro hdm hB hr0 hK
   obtain⟨m0,hm0⟩:=panR_loop hr0 _ rfl
   let Rel:Nat→Act→World→Prop:=fun m a w=>∃β fr H,Sim P B β H w∧Evo β0 w0 β w∧FR β N fr a∧DM D0 B1 β w a∧(∀t,t∉wrR rc→fr t=fr0 t)∧LoopP T PC rc v H' m fr H
   classical
   refine wpIn_loop (fun a w=>∃m,Rel m a w) (fun a w=>if g : ∃m,Rel m a w then leastN g else 0) ⟨m0,β0,fr0,H0,hS0,Evo.refl β0 w0,hf0,hdm,fun _ _=>rfl,hm0⟩ fun a w hI=> ?_
   have hfind:=leastN_spec hI
   rw[dif_pos hI]
   generalize hm:leastN hI=m at hfind
   obtain⟨β,fr,H,hS,hE,hf,hd,hk0,hr⟩:=hfind
   cases m with
   | zero=>exact ih β fr H H' v a w _ hS hf (hro.evo hE.ext) hd (Nat.le_trans hB hE.size) hr fun β' w' a' v' q1 q2 q3 q4 q5=>hK β' w' a' v' q1 (hE.trans q2) q3 q4 fun t ht=>(by rw[←hk0 t ht];exact q5 t ht)
   | succ m=>
     obtain⟨n,fr1,H1,hn,hr⟩:=hr
     refine code_sound (fn_sound hT n) hc β fr fr1 H H1 a w .normal _ hS hf (hro.evo hE.ext) hd (Nat.le_trans hB hE.size) hn fun β' w' a' q1 q2 q3 q4=> ?_
     have hnew:Rel m a' w':=⟨β',fr1,H1,q1,hE.trans q2,q3,q4,(fun t ht=>(evR_keep hn ht).trans (hk0 t ht)),hr⟩
     have hex : ∃m,Rel m a' w':=⟨m,hnew⟩
     refine⟨hex,?_⟩
     rw[dif_pos hex]
     have:=leastN_le hex hnew
     omega
theorem leaves_marksP{fn:Func}{tmps:Array Value}{R:Ending→World→Prop}{B1:Nat}{β0 β:Nat→Ent}{w0:World}{H:CH}{v:Value} : ∀(ms:List Nat) (w:World),Sim P B β H w→Evo β0 w0 β w→w0.heap.size≤B1→ms.Nodup→(∀D∈ms,B1≤D∧w.heap[D]? = some (.deferred (some [])))→
 (∀w',Sim P B β H w'→Evo β0 w0 β w'→R (.panicked [{ v:=v,recovered:=false }]) w')→LeavesInM Fence.wide 0 P fn tmps R (ms.map mkD) (.panicking [{ v:=v,recovered:=false }]) w
 | [],w,hS,hE,hB,hn,hm,hK=>hK w hS hE
 | D::ms,w,hS,hE,hB,hn,hm,hK=>by
   obtain⟨h1,h2⟩:=hm D (List.mem_cons_self ..)
   have hlt:=(Array.getElem?_eq_some_iff.1 h2).1
   refine⟨by simp, .inl ⟨D,w.putObj D (.deferred none),rfl,run_takeDeferred h2,?_⟩⟩
   refine leaves_marksP ms _ (hS.putOther (o':= .deferred none) h2 ⟨fun _ _ _=>by simp,fun _ _=>by simp,fun _=>by simp,fun _ _=>by simp,fun _ _ _ _=>by simp⟩) ?_ hB (List.nodup_cons.1 hn).2 (fun D' hD'=> ?_) hK
   ·exact⟨hE.os,hE.tape,hE.output,by simpa using hE.size,fun b hb ho=>by
     obtain⟨k1,k2⟩:=hE.keep b hb ho
     exact⟨(World.putObj_heap_other (by omega)).trans k1,k2⟩,hE.ext⟩
   ·obtain⟨g1,g2⟩:=hm D' (List.mem_cons_of_mem _ hD')
    refine⟨g1,(World.putObj_heap_other ?_).trans g2⟩
    rintro rfl
    exact(List.nodup_cons.1 hn).1 hD'
def PanF (T:Tbl)(X:Pan):Nat→Pan
 | 0=>X
 | n+1=>fun f args H v H'=>X f args H v H'∨(T.ext f=false∧∃rf,T.fn f=some rf∧PanR T (PanF T X n) rf.body (fun t=>args.getD t undef) H v H')
theorem frArgs{β:Nat→Ent}{N:Nat}{args args':List Value}(hargs:VRs β args args'):FR β N (fun t=>args.getD t undef) { tmps:=args'.toArray++Array.replicate (N-args'.toArray.size) undef,defers:= [] }:=by
 refine⟨by simp;omega,fun t=> ?_⟩
 simp only[List.getD,Array.getD_eq_getD_getElem?]
 by_cases ht:t<args'.length
 ·have hta:t<args.length:=by have:=hargs.1;omega
  obtain⟨v',h1,h2⟩:=hargs.2 t args[t] (by simp[hta])
  rw[Array.getElem?_append_left (by simpa using ht)]
  simp only[List.getElem?_toArray,h1,Option.getD_some,List.getElem?_eq_getElem hta]
  exact h2
 ·have hta:args.length≤t:=by have:=hargs.1;omega
  rw[List.getElem?_eq_none hta]
  exact .undef _
theorem panF_sound{T:Tbl}(hT:TblOk P B T){X:Pan}(hX : ∀f args H v H',X f args H v H'→PanC P B f args H v H') : ∀n f args H v H',PanF T X n f args H v H'→PanC P B f args H v H'
 | 0=>hX
 | n+1=>fun f args H v H' h=>by
   have ih:=panF_sound hT hX n
   rcases h with h | ⟨_,rf,hrf,h⟩
   ·exact hX _ _ _ _ _ h
   ·have hfo:=hT.fn f rf hrf
    obtain⟨fn,c,hfn,hbody,hnt,hcode,hres⟩:=hfo.ok
    refine⟨hfo.call,fun β w args' hS hargs=> ?_⟩
    refine callsIn_of_wp_marks hfn hbody trivial ?_ rfl
    have hf:=frArgs (N:=fn.ntmps) hargs
    rw[hnt] at hf
    rw[hnt]
    refine code_soundP (ro:=none) (B1:=w.heap.size) (D0:= []) hT ih hcode β _ H H' v _ w _ hS hf (fun b hb=>by cases hb) (DM.none rfl) (Nat.le_refl _) h fun β' w' a' v' q1 q2 q3 q4 _=> ?_
    obtain⟨ms,m1,m2,m3⟩:=q4
    show LeavesInM Fence.wide 0 P fn a'.tmps _ a'.defers (.panicking [{ v:=v',recovered:=false }]) w'
    rw[m1,List.append_nil]
    exact leaves_marksP ms w' q1 q2 (Nat.le_refl _) m2 (fun D hD=>⟨(m3 D hD).1,(m3 D hD).2.1⟩) fun w2 hS2 hE2=>⟨v',β',rfl,q3,hS2,hE2⟩
variable {T:Tbl} {X:Pan}
def WxF (T:Tbl)(X:Pan)(f:FuncId)(args:List Value)(H:CH)(Q R:Value→CH→Prop):Prop:=WpF T f args H Q∨∃n v H',PanF T X n f args H v H'∧R v H'
def WxO (T:Tbl)(X:Pan)(fr:Fr)(H:CH)(o:ROp)(Q R:Value→CH→Prop):Prop:=WpO T fr H o Q∨∃f args,o= .call f args∧∃n v H',PanF T X n f (args.map (evF fr)) H v H'∧R v H'
def WxR (T:Tbl)(X:Pan)(c:RCode)(fr:Fr)(H:CH)(Q:CExit→Fr→CH→Prop)(R:Value→CH→Prop):Prop:=WpR T c fr H Q∨∃n v H',PanR T (PanF T X n) c fr H v H'∧R v H'
def PanI (T:Tbl)(X:Pan)(n:Nat)(q:Option (List Item))(its:List Item)(fr:Fr)(H:CH)(v:Value)(H':CH):Prop:=∃A k Rr f args fr1 H1,its=A++k::Rr∧(∀Zl,q=some Zl→(∀x∈A,isQ x.op=true)∧∃n r,runI (evH T n) Zl fr1 H1=some r)∧(∃m,runI (evH T m) A fr H=some (fr1,H1))∧wantedF fr1 k.guard=some true∧k.op= .call f args∧PanF T X n f (args.map (evF fr1)) H1 v H'
def WxI (T:Tbl)(X:Pan)(its:List Item)(fr:Fr)(H:CH)(K:Fr→CH→Prop)(R:Value→CH→Prop):Prop:=WpI T its fr H K∨∃n v H',PanI T X n none its fr H v H'∧R v H'
theorem WxF.mono{f:FuncId}{args:List Value}{H:CH}{Q Q' R R':Value→CH→Prop}(h:WxF T X f args H Q R)(hq : ∀v H',Q v H'→Q' v H')(hr : ∀v H',R v H'→R' v H'):WxF T X f args H Q' R':=by
 rcases h with h | ⟨n,v,H',h1,h2⟩
 ·exact .inl (h.mono hq)
 ·exact .inr ⟨n,v,H',h1,hr _ _ h2⟩
theorem WxR.mono{c:RCode}{fr:Fr}{H:CH}{Q Q':CExit→Fr→CH→Prop}{R R':Value→CH→Prop}(h:WxR T X c fr H Q R)(hq : ∀x fr' H',Q x fr' H'→Q' x fr' H')(hr : ∀v H',R v H'→R' v H'):WxR T X c fr H Q' R':=by
 rcases h with h | ⟨n,v,H',h1,h2⟩
 ·exact .inl (h.mono hq)
 ·exact .inr ⟨n,v,H',h1,hr _ _ h2⟩
theorem wxF_in{f:FuncId}{rf:RFunc}(he:T.ext f=false)(hf:T.fn f=some rf){args:List Value}{H:CH}{Q R:Value→CH→Prop}(h:WxR T X rf.body (fun t=>args.getD t undef) H (FunK rf.res Q) R):WxF T X f args H Q R:=by
 rcases h with h | ⟨n,v,H',h1,h2⟩
 ·exact .inl (wpF_in he hf h)
 ·exact .inr ⟨n+1,v,H', .inr ⟨he,rf,hf,h1⟩,h2⟩
theorem panI_cons{n m:Nat}{q:Option (List Item)}{it:Item}{r:List Item}{fr fr1:Fr}{H H1 H':CH}{v:Value}(hs:stepI (evH T m) it fr H=some (fr1,H1))(hq : ∀Zl,q=some Zl→isQ it.op=true)(h:PanI T X n q r fr1 H1 v H'):PanI T X n q (it::r) fr H v H':=by
 obtain⟨A,k,Rr,f,args,fr2,H2,rfl,h2,⟨m2,h3⟩,h4,h5,h6⟩:=h
 refine⟨it::A,k,Rr,f,args,fr2,H2,rfl,fun Zl e=>⟨fun x hx=> ?_,(h2 Zl e).2⟩,⟨max m m2,?_⟩,h4,h5,h6⟩
 ·rcases List.mem_cons.1 hx with rfl | hx
  ·exact hq Zl e
  ·exact(h2 Zl e).1 x hx
 ·simp only[runI]
  rw[stepI_mono (evH_mono (Nat.le_max_left ..)) hs]
  exact runI_mono (evH_mono (Nat.le_max_right ..)) h3
theorem panI_here{n:Nat}{q:Option (List Item)}{it:Item}{r:List Item}{fr:Fr}{H H':CH}{v:Value}{f:FuncId}{args:List Operand}(hw:wantedF fr it.guard=some true)(hk:it.op= .call f args)(hz : ∀Zl,q=some Zl→∃n r,runI (evH T n) Zl fr H=some r)(h:PanF T X n f (args.map (evF fr)) H v H'):PanI T X n q (it::r) fr H v H':=
 ⟨[],it,r,f,args,fr,H,rfl,fun Zl e=>⟨fun x hx=>(by cases hx),hz Zl e⟩,⟨0,rfl⟩,hw,hk,h⟩
theorem wxI_cons{it:Item}{r:List Item}{fr:Fr}{H:CH}{K:Fr→CH→Prop}{R:Value→CH→Prop}(hw:wantedF fr it.guard=some true)(h:WxO T X fr H it.op (fun v K1=>WxI T X r (putF fr it.dst v) K1 K R) R):WxI T X (it::r) fr H K R:=by
 rcases h with ⟨n,v,K1,h1,h2⟩ | ⟨f,args,e,n,v,H',h1,h2⟩
 ·rcases h2 with h2 | ⟨m,u,H',h2,h3⟩
  ·left
   rw[wpI_cons]
   simp only[hw]
   exact⟨n,v,K1,h1,h2⟩
  ·exact .inr ⟨m,u,H',panI_cons (m:=n) (by simp only[stepI,hw,h1];rfl) (fun _ e=>by cases e) h2,h3⟩
 ·exact .inr ⟨n,v,H',panI_here hw e (fun _ e=>by cases e) h1,h2⟩
theorem wxI_skip{it:Item}{r:List Item}{fr:Fr}{H:CH}{K:Fr→CH→Prop}{R:Value→CH→Prop}(hw:wantedF fr it.guard=some false)(h:WxI T X r (putF fr it.dst skipV) H K R):WxI T X (it::r) fr H K R:=by
 rcases h with h | ⟨n,v,H',h1,h2⟩
 ·left
  rw[wpI_cons]
  simp only[hw]
  exact h
 ·exact .inr ⟨n,v,H',panI_cons (m:=0) (by simp only[stepI,hw]) (fun _ e=>by cases e) h1,h2⟩
theorem wxR_reg{its:List Item}{fr:Fr}{H:CH}{Q:CExit→Fr→CH→Prop}{R:Value→CH→Prop}(h:WxI T X its fr H (Q .normal) R):WxR T X (.reg its) fr H Q R:=by
 rcases h with h | ⟨n,v,H',⟨A,k,Rr,f,args,fr1,H1,rfl,_,h3,h4,h5,h6⟩,h2⟩
 ·exact .inl (wpR_reg.2 h)
 ·exact .inr ⟨n,v,H', .reg h3 h4 h5 h6,h2⟩
theorem wxR_seq{a b:RCode}{fr:Fr}{H:CH}{Q:CExit→Fr→CH→Prop}{R:Value→CH→Prop}(h:WxR T X a fr H (fun x fr' H'=>match x with
 | .normal=>WxR T X b fr' H' Q R
 | x=>Q x fr' H') R):WxR T X (.seq a b) fr H Q R:=by
 rcases h with ⟨n,x,fr1,H1,h1,h2⟩ | ⟨n,v,H',h1,h2⟩
 ·cases x with
  | normal=>
    rcases h2 with h2 | ⟨m,v,H',h2,h3⟩
    ·exact .inl (wpR_seq.2 ⟨n, .normal,fr1,H1,h1,h2⟩)
    ·exact .inr ⟨m,v,H', .seq2 ⟨n,h1⟩ h2,h3⟩
  | exit i=>exact .inl (wpR_seq.2 ⟨n, .exit i,fr1,H1,h1,h2⟩)
  | ret=>exact .inl (wpR_seq.2 ⟨n, .ret,fr1,H1,h1,h2⟩)
 ·exact .inr ⟨n,v,H', .seq1 h1,h2⟩
theorem wxR_cond_t{c:Operand}{a b:RCode}{fr:Fr}{H:CH}{Q:CExit→Fr→CH→Prop}{R:Value→CH→Prop}(hc:evF fr c= .bool true)(h:WxR T X a fr H Q R):WxR T X (.cond c a b) fr H Q R:=by
 rcases h with h | ⟨n,v,H',h1,h2⟩
 ·left;rw[wpR_cond,hc];exact h
 ·exact .inr ⟨n,v,H', .cond_t hc h1,h2⟩
theorem wxR_cond_f{c:Operand}{a b:RCode}{fr:Fr}{H:CH}{Q:CExit→Fr→CH→Prop}{R:Value→CH→Prop}(hc:evF fr c= .bool false)(h:WxR T X b fr H Q R):WxR T X (.cond c a b) fr H Q R:=by
 rcases h with h | ⟨n,v,H',h1,h2⟩
 ·left;rw[wpR_cond,hc];exact h
 ·exact .inr ⟨n,v,H', .cond_f hc h1,h2⟩
theorem wxR_block{id:Nat}{c:RCode}{fr:Fr}{H:CH}{Q:CExit→Fr→CH→Prop}{R:Value→CH→Prop}(h:WxR T X c fr H (fun x fr' H'=>match x with
 | .exit i=>if i=id then Q .normal fr' H' else Q (.exit i) fr' H'
 | x=>Q x fr' H') R):WxR T X (.block id c) fr H Q R:=by
 rcases h with h | ⟨n,v,H',h1,h2⟩
 ·exact .inl (wpR_block.2 (h.mono fun x fr' H' hx=>by cases x<;>exact hx))
 ·exact .inr ⟨n,v,H', .block h1,h2⟩
theorem wxR_loop{c:RCode}{fr:Fr}{H:CH}{Q:CExit→Fr→CH→Prop}{R:Value→CH→Prop}(h:WxR T X c fr H (fun x fr' H'=>match x with
 | .normal=>WxR T X (.loop c) fr' H' Q R
 | x=>Q x fr' H') R):WxR T X (.loop c) fr H Q R:=by
 rcases h with ⟨n,x,fr1,H1,h1,h2⟩ | ⟨n,v,H',h1,h2⟩
 ·cases x with
  | normal=>
    rcases h2 with h2 | ⟨m,v,H',h2,h3⟩
    ·exact .inl (wpR_loop.2 ⟨n, .normal,fr1,H1,h1,h2⟩)
    ·exact .inr ⟨m,v,H', .loop1 ⟨n,h1⟩ h2,h3⟩
  | exit i=>exact .inl (wpR_loop.2 ⟨n, .exit i,fr1,H1,h1,h2⟩)
  | ret=>exact .inl (wpR_loop.2 ⟨n, .ret,fr1,H1,h1,h2⟩)
 ·exact .inr ⟨n,v,H', .loop0 h1,h2⟩
theorem wxloop_inv{c:RCode}{Q:CExit→Fr→CH→Prop}{R:Value→CH→Prop}(I:Nat→Fr→CH→Prop)(step : ∀n fr H,I n fr H→WxR T X c fr H (LoopI I n Q) R) : ∀ {n:Nat} {fr:Fr} {H:CH},I n fr H→WxR T X (.loop c) fr H Q R:=by
 intro n
 induction n using Nat.strongRecOn with
 | _ n ih=>
   intro fr H h
   refine wxR_loop ((step n fr H h).mono (fun x fr' H' hx=> ?_) fun _ _ h=>h)
   cases x with
   | normal=>obtain⟨m,hm,hi⟩:=hx;exact ih m hm hi
   | exit i=>exact hx
   | ret=>exact hx
end Can
end Go.Proofs.YtdfgkcoenagaaaaGreat
end
section
namespace Go.Proofs.YtdfgkcoenagaaaaGreat
namespace Can
open Go Go.RowKit
set_option linter.unusedSimpArgs false
set_option linter.unusedVariables false
variable {P:Program} {B:Nat}
def thenQ(K:Act→World→Prop)(Q:Exit→Act→World→Prop):Exit→Act→World→Prop:=fun e a w=>match e with
 | .normal=>K a w
 | e=>Q e a w
theorem uponIn_then{F:Fence}{n:Nat}{o:Oper}{a:Act}{next:Act→World→Prop}{K:Act→World→Prop}{Q:Exit→Act→World→Prop}{r:Result Next}(h:o.uponIn F n P a next (thenQ K Q) r):o.uponIn F n P a next Q r:=by
 cases r with
 | ok x w'=>
   cases x with
   | enter f args=>exact⟨h.1,h.2.mono fun e w'' he=>by cases e<;>exact he⟩
   | round l f tmps asg bd=>exact⟨h.1,RoundIn.mono h.2 fun e w'' he=>by cases e<;>exact he⟩
   | _=>exact h
 | halt x w'=>cases x<;>exact h
theorem wpOpsIn_app{F:Fence}{n:Nat}{ops:Array Oper}{Q:Exit→Act→World→Prop}(l2:List Nat) : ∀(l1:List Nat) (a:Act) (w:World),wpOpsIn F n P ops (thenQ (wpOpsIn F n P ops Q l2) Q) l1 a w→wpOpsIn F n P ops Q (l1++l2) a w
 | [],a,w,h=>h
 | i::l1,a,w,h=>by
   rw[List.cons_append]
   simp only[wpOpsIn] at h⊢
   cases ho:ops[i]? with
   | none=>rw[ho] at h;exact wpOpsIn_app l2 l1 a w h
   | some o=>
     rw[ho] at h
     simp only at h⊢
     split
     ·rename_i hw
      rw[if_pos hw] at h
      exact⟨h.1,uponIn_then (Oper.wpIn_mono (fun a w=>wpOpsIn_app l2 l1 a w) h).2⟩
     ·rename_i hw
      rw[if_neg hw] at h
      exact⟨h.1,wpOpsIn_app l2 l1 _ _ h.2⟩
end Can
end Go.Proofs.YtdfgkcoenagaaaaGreat
end
section
namespace Go.Proofs.YtdfgkcoenagaaaaGreat
namespace Can
open Go Go.RowKit
set_option linter.unusedSimpArgs false
set_option linter.unusedVariables false
variable {P:Program} {B:Nat} {T:Tbl} {X:Pan}
def CallC(P:Program)(B:Nat)(f:FuncId)(args:List Value)(H:CH)(v:Value)(H':CH):Prop:=callable P f=true∧∀β w (args':List Value),Sim P B β H w→VRs β args args'→
 CallsIn Fence.wide 0 P f args'.toArray w fun e w'=>∃v' β',e= .returned v'∧VR β' v v'∧Sim P B β' H' w'∧Evo β w β' w'
theorem leaves_marksD{fn:Func}{tmps:Array Value}{R:Ending→World→Prop}{B1:Nat}{β0 β:Nat→Ent}{w0:World}{H:CH}{u:FrameMode}(hu:u≠ .run){D0:List Deferred} : ∀(ms:List Nat) (w:World),Sim P B β H w→Evo β0 w0 β w→w0.heap.size≤B1→ms.Nodup→(∀D∈ms,B1≤D∧w.heap[D]? = some (.deferred (some [])))→
 (∀w',Sim P B β H w'→Evo β0 w0 β w'→LeavesInM Fence.wide 0 P fn tmps R D0 u w')→LeavesInM Fence.wide 0 P fn tmps R (ms.map mkD++D0) u w
 | [],w,hS,hE,hB,hn,hm,hK=>hK w hS hE
 | D::ms,w,hS,hE,hB,hn,hm,hK=>by
   obtain⟨h1,h2⟩:=hm D (List.mem_cons_self ..)
   have hlt:=(Array.getElem?_eq_some_iff.1 h2).1
   refine⟨hu, .inl ⟨D,w.putObj D (.deferred none),rfl,run_takeDeferred h2,?_⟩⟩
   refine leaves_marksD hu ms _ (hS.putOther (o':= .deferred none) h2 ⟨fun _ _ _=>by simp,fun _ _=>by simp,fun _=>by simp,fun _ _=>by simp,fun _ _ _ _=>by simp⟩) ?_ hB (List.nodup_cons.1 hn).2 (fun D' hD'=> ?_) hK
   ·exact⟨hE.os,hE.tape,hE.output,by simpa using hE.size,fun b hb ho=>by
     obtain⟨k1,k2⟩:=hE.keep b hb ho
     exact⟨(World.putObj_heap_other (by omega)).trans k1,k2⟩,hE.ext⟩
   ·obtain⟨g1,g2⟩:=hm D' (List.mem_cons_of_mem _ hD')
    refine⟨g1,(World.putObj_heap_other ?_).trans g2⟩
    rintro rfl
    exact(List.nodup_cons.1 hn).1 hD'
def GdRet(P:Program)(g:FuncId)(n:Nat):Prop:=∀(args:List Value) (w:World),args.length=n→CallsDIn Fence.wide 0 P g args.toArray .returning w fun e u' w'=>(∃x,e= .returned x)∧u'= .returning∧w'=w
def GdPan(P:Program)(B:Nat)(g:FuncId)(G:List Value→Value→CH→CH→Prop):Prop:=∀β w (args args':List Value) (v v':Value) (H H':CH),Sim P B β H w→VRs β args args'→VR β v v'→G args v H H'→
 CallsDIn Fence.wide 0 P g args'.toArray (.panicking [{ v:=v',recovered:=false }]) w fun e u' w'=>∃x β',e= .returned x∧u'= .panicking [{ v:=v',recovered:=true }]∧Sim P B β' H' w'∧Evo β w β' w'
def mskF (c:RCode)(fr:Fr):Fr:=fun t=>if (wrR c).elem t then undef else fr t
theorem mskF_rel{β:Nat→Ent}{c:RCode}{fr:Fr}{a:Act}(h : ∀t,t∉wrR c→VR β (fr t) (a.tmps.getD t undef)):FR β 0 (mskF c fr) a:=by
 refine⟨Nat.zero_le _,fun t=> ?_⟩
 unfold mskF
 split
 ·exact .undef _
 ·rename_i ht
  exact h t fun hm=>ht (List.elem_eq_true_of_mem hm)
theorem reg_sound{h:Hd}(hh:HS P B h){ro:Option Nat}{N:Nat}{c:Code}{its:List Item}(hok:CodeOk P N c (.reg its)){β:Nat→Ent}{fr fr':Fr}{H H':CH}{a:Act}{w:World}{Q:Exit→Act→World→Prop}
 (hS:Sim P B β H w) (hf:FR β N fr a) (hr:runI h its fr H=some (fr',H')) (hK : ∀β' w' a',Sim P B β' H' w'→Evo β w β' w'→FR β' N fr' a'→a'.defers=a.defers→Q .normal a' w'):c.wpIn (Fn ro) 0 P Q a w:=by
 generalize hg:RCode.reg its=r at hok
 induction hok generalizing Q with
 | @reg id ops its' hl hi=>
   cases hg
   refine wpIn_region (items_sound hh _ its β fr fr' H H' a w (by simpa using hl) (fun j h1 h2=> ?_) hS hf hr hK)
   have hj:j<ops.size:=by omega
   exact⟨ops[j],by simp[hj],hi j h1 hj⟩
 | scope hc ih=>exact wpIn_scope (ih (fun β' w' a' q1 q2 q3 q4=>⟨fun l e=>(by cases e),hK β' w' a' q1 q2 q3 q4⟩) hg)
 | _=>cases hg
theorem reg_run{h:Hd}{n:Nat}{its:List Item}{fr fr':Fr}{H H':CH}(e:evR h n (.reg its) fr H=some (.normal,fr',H')):runI h its fr H=some (fr',H'):=by
 simp only[evR] at e
 cases hr:runI h its fr H with
 | none=>rw[hr] at e;simp at e
 | some q=>rw[hr] at e;simp at e;rw[←e.1,←e.2]
theorem guard_calls(hT : ∀B,TblOk P B T)(hX : ∀B f args H v H',X f args H v H'→PanC P B f args H v H'){f g:FuncId}{rf:RFunc}{i0 i1:List Item}{rB:RCode}(hfo:FuncOk P f rf)(hrb:rf.body= .seq (.reg i0) (.seq (.reg i1) (.seq .bad rB))){c0 c1 cB:Code}{id d x1 x2 x3:Nat}{t1 t2:TypeId}{p1 p2:String}{a1 a2:Array Edge}
 (hbody:(P.funcs[f]?).bind (·.body)=some (.seq c0 (.seq c1 (.seq (.region id #[{ dst:=some d,op:= .makeFunc (.func g) #[] #[.tmp x1, .tmp x2, .tmp x3],type:=t1,pos:=p1,after:=a1,guard:=none },{ dst:=none,op:= .defer { callee:= .value (.tmp d),args:= #[],argTypes:= #[] },type:=t2,pos:=p2,after:=a2,guard:=none }] false) cB))))
 (hgc:callable P g=true) (hd:d<rf.ntmps) {G:List Value→Value→CH→CH→Prop} (hgR:GdRet P g 3) (hgP : ∀B,GdPan P B g G) {args:List Value} {H:CH} {Q:Value→CH→Prop}
 (h:WpR T (.reg i0) (fun t=>args.getD t undef) H fun x fr1 H1=>x= .normal∧WpR T (.reg i1) fr1 H1 fun x fr2 H2=>x= .normal∧
   WxR T X rB (putF fr2 (some d) undef) H2 (fun x fr3 H3=>(x= .normal∨x= .ret)∧∃vs,resL fr3 H3 rf.res=some vs∧Q (tupleV vs) H3)
    fun v H3=>∃H4,G [fr2 x1,fr2 x2,fr2 x3] v H3 H4∧∃vs,resL (mskF rB (putF fr2 (some d) undef)) H4 rf.res=some vs∧Q (tupleV vs) H4) :
 ∃v H',Q v H'∧∀B,CallC P B f args H v H':=by
 obtain⟨n0,_,fr1,H1,e0,rfl,n1,_,fr2,H2,e1,rfl,h⟩:=h
 obtain⟨fn,c,hfn,hb,hnt,hcode,hres⟩:=hfo.ok
 rw[hfn] at hbody
 simp only[Option.bind_some] at hbody
 rw[hb] at hbody
 cases hbody
 rw[hrb] at hcode
 cases hcode with
 | seq k0 hcode=>cases hcode with
   | seq k1 hcode=>cases hcode with
     | seq k2 k3=>
       have pre : ∀(B:Nat) (Qv:Value) (H':CH) (β:Nat→Ent) (w:World) (args':List Value),Sim P B β H w→VRs β args args'→
        (∀β2 w2 a2 u1 u2 u3,Sim P B β2 H2 w2→Evo β w β2 w2→FR β2 rf.ntmps (putF fr2 (some d) undef) a2→a2.defers= [{ target:= .fn (.func g) #[u1,u2,u3],args:= #[] }]→VRs β2 [fr2 x1,fr2 x2,fr2 x3] [u1,u2,u3]→
          cB.wpIn Fence.wide 0 P (bodyPostM Fence.wide 0 P fn fun e w'=>∃v' β',e= .returned v'∧VR β' Qv v'∧Sim P B β' H' w'∧Evo β w β' w') a2 w2)→
        CallsIn Fence.wide 0 P f args'.toArray w fun e w'=>∃v' β',e= .returned v'∧VR β' Qv v'∧Sim P B β' H' w'∧Evo β w β' w':=by
        intro B Qv H' β w args' hS hargs hK
        refine callsIn_of_wp_marks hfn hb trivial ?_ rfl
        have hf:=frArgs (N:=fn.ntmps) hargs
        rw[hnt] at hf⊢
        refine wpIn_seq (reg_sound (ro:=none) (fn_sound (hT B) n0) k0 hS hf (reg_run e0) fun β1 w1 a1 q1 q2 q3 q4=> ?_)
        refine wpIn_seq (reg_sound (ro:=none) (fn_sound (hT B) n1) k1 q1 q3 (reg_run e1) fun β2 w2 a2 p1 p2 p3 p4=> ?_)
        refine wpIn_seq (wpIn_region ?_)
        have hmf : ∀(fn:Go.Fn) (first cap:Array Value) (w:World),(Instr.makeFunc fn first cap).run P w= .ok (.func fn first cap) w:=fun _ _ _ _=>rfl
        have hds:d<a2.tmps.size:=Nat.lt_of_lt_of_le hd p3.1
        simp[wpOpsIn,go_sem,Oper.wpIn,Oper.semAt,execOp,hmf,hds]
        have hdd:a2.defers= []:=p4.trans q4
        have hx:=hK β2 w2 { tmps:=a2.tmps.setIfInBounds d (Value.func (Go.Fn.func g) #[] #[a2.tmps.getD x1 undef,a2.tmps.getD x2 undef,a2.tmps.getD x3 undef]),defers:= { target:=Target.fn (Go.Fn.func g) #[a2.tmps.getD x1 undef,a2.tmps.getD x2 undef,a2.tmps.getD x3 undef],args:= #[] }::a2.defers } (a2.tmps.getD x1 undef) (a2.tmps.getD x2 undef) (a2.tmps.getD x3 undef) p1 (q2.trans p2) (p3.put (d:=some d) (fun x hx=>by cases hx;exact hd) (.undef _)) (by rw[hdd]) ⟨rfl,fun i v hv=> ?_⟩
        ·simpa using hx
        ·match i,hv with
         | 0,hv=>cases hv;exact⟨_,rfl,p3.2 x1⟩
         | 1,hv=>cases hv;exact⟨_,rfl,p3.2 x2⟩
         | 2,hv=>cases hv;exact⟨_,rfl,p3.2 x3⟩
         | n+3,hv=>cases hv
       have inv : ∀(u1 u2 u3:Value) (w:World),(invoke (.fn (.func g) #[u1,u2,u3]) #[]).run P w= .ok (.enter g [u1,u2,u3].toArray) w:=fun u1 u2 u3 w=>by
        simp only[invoke]
        rw[run_callFunc hgc]
        simp
       rcases h with ⟨n,x,fr3,H3,e2,hx,vs,e3,hq⟩ | ⟨n,v,H3,e2,H4,hG,vs,e3,hq⟩
       ·refine⟨_,_,hq,fun B=>⟨hfo.call,fun β w args' hS hargs=>pre B _ _ β w args' hS hargs fun β2 w2 a2 u1 u2 u3 p1 p2 p3 p4 p5=> ?_⟩⟩
        refine code_sound (ro:=none) (B1:=w2.heap.size) (D0:=a2.defers) (fn_sound (hT B) n) k3 β2 _ fr3 H2 H3 a2 w2 x _ p1 p3 (fun b hb=>by cases hb) (DM.none rfl) (Nat.le_refl _) e2 fun β3 w3 a3 q1 q2 q3 q4=> ?_
        obtain⟨ms,m1,m2,m3⟩:=q4
        have hlv:LeavesInM Fence.wide 0 P fn a3.tmps (fun e w'=>∃v' β',e= .returned v'∧VR β' (tupleV vs) v'∧Sim P B β' H3 w'∧Evo β w β' w') a3.defers .returning w3:=by
         rw[m1,p4]
         refine leaves_marksD (by simp) ms w3 q1 q2 (Nat.le_refl _) m2 (fun D hD=>⟨(m3 D hD).1,(m3 D hD).2.1⟩) fun w4 hS2 hE2=> ?_
         refine⟨by simp, .inr ⟨by simp[Fence.wide], .func g,#[u1,u2,u3],g,_,rfl,inv u1 u2 u3 w4,fun _ _=>trivial,?_⟩⟩
         refine(hgR [u1,u2,u3] w4 rfl).mono ?_
         rintro e u' w' ⟨⟨y,rfl⟩,rfl,rfl⟩
         obtain⟨v',r1,r2⟩:=results_sound hS2 q3 hres e3
         exact⟨v',r1,v',β3,rfl,r2,hS2,p2.trans hE2⟩
        rcases hx with rfl | rfl
        ·exact hlv
        ·exact hlv
       ·refine⟨_,_,hq,fun B=>⟨hfo.call,fun β w args' hS hargs=>pre B _ _ β w args' hS hargs fun β2 w2 a2 u1 u2 u3 p1 p2 p3 p4 p5=> ?_⟩⟩
        refine code_soundP (ro:=none) (B1:=w2.heap.size) (D0:=a2.defers) (hT B) (panF_sound (hT B) (hX B) n) k3 β2 _ H2 H3 v a2 w2 _ p1 p3 (fun b hb=>by cases hb) (DM.none rfl) (Nat.le_refl _) e2 fun β3 w3 a3 v3 q1 q2 q3 q4 q5=> ?_
        obtain⟨ms,m1,m2,m3⟩:=q4
        show LeavesInM Fence.wide 0 P fn a3.tmps _ a3.defers (.panicking [{ v:=v3,recovered:=false }]) w3
        rw[m1,p4]
        refine leaves_marksD (by simp) ms w3 q1 q2 (Nat.le_refl _) m2 (fun D hD=>⟨(m3 D hD).1,(m3 D hD).2.1⟩) fun w4 hS2 hE2=> ?_
        refine⟨by simp, .inr ⟨by simp[Fence.wide], .func g,#[u1,u2,u3],g,_,rfl,inv u1 u2 u3 w4,fun _ _=>trivial,?_⟩⟩
        refine(hgP B β3 w4 [fr2 x1,fr2 x2,fr2 x3] [u1,u2,u3] v v3 H3 H4 hS2 ?_ q3 hG).mono ?_
        ·exact⟨p5.1,fun i y hy=>by
          obtain⟨z,z1,z2⟩:=p5.2 i y hy
          exact⟨z,z1,z2.mono q2.ext⟩⟩
        ·rintro e u' w' ⟨y,β',rfl,rfl,hS5,hE5⟩
         have hf5:FR β' 0 (mskF rB (putF fr2 (some d) undef)) a3:=mskF_rel fun t ht=>(q5 t ht).mono hE5.ext
         obtain⟨v',r1,r2⟩:=results_sound hS5 hf5 hres e3
         exact⟨v',r1,v',β',rfl,r2,hS5,p2.trans (hE2.trans hE5)⟩
end Can
end Go.Proofs.YtdfgkcoenagaaaaGreat
end
section
namespace Go.Proofs.YtdfgkcoenagaaaaGreat
namespace Can
open Go Go.RowKit
set_option linter.unusedSimpArgs false
set_option linter.unusedVariables false
inductive R2{α β:Type}(R:α→β→Prop):List α→List β→Prop where
 | nil:R2 R [] []
 | cons {x:α} {y:β} {xs:List α} {ys:List β} (h:R x y) (t:R2 R xs ys):R2 R (x::xs) (y::ys)
theorem R2.len{α β:Type}{R:α→β→Prop} : ∀ {xs:List α} {ys:List β},R2 R xs ys→ys.length=xs.length
 | _,_, .nil=>rfl
 | _,_, .cons _ t=>by simp[t.len]
theorem R2.get{α β:Type}{R:α→β→Prop} : ∀ {xs:List α} {ys:List β},R2 R xs ys→∀ {i:Nat} {x:α},xs[i]? = some x→∃y,ys[i]? = some y∧R x y
 | _,_, .nil,i,x,h=>by simp at h
 | _,_, .cons h t,0,x,e=>by simp at e;subst e;exact⟨_,rfl,h⟩
 | _,_, .cons h t,i+1,x,e=>by simpa using t.get (i:=i) (by simpa using e)
theorem R2.app{α β:Type}{R:α→β→Prop} : ∀ {xs xs':List α} {ys ys':List β},R2 R xs ys→R2 R xs' ys'→R2 R (xs++xs') (ys++ys')
 | _,_,_,_, .nil,g=>g
 | _,_,_,_, .cons h t,g=> .cons h (t.app g)
theorem R2.take{α β:Type}{R:α→β→Prop} : ∀ {xs:List α} {ys:List β} (n:Nat),R2 R xs ys→R2 R (xs.take n) (ys.take n)
 | _,_,n, .nil=>by simpa using .nil
 | _,_,0, .cons h t=>by simpa using .nil
 | _,_,n+1, .cons h t=>by simpa using .cons h (t.take n)
theorem R2.drop{α β:Type}{R:α→β→Prop} : ∀ {xs:List α} {ys:List β} (n:Nat),R2 R xs ys→R2 R (xs.drop n) (ys.drop n)
 | _,_,n, .nil=>by simpa using .nil
 | _,_,0, .cons h t=>by simpa using .cons h t
 | _,_,n+1, .cons h t=>by simpa using t.drop n
theorem R2.mono{α β:Type}{R R':α→β→Prop}(hR : ∀x y,R x y→R' x y) : ∀ {xs:List α} {ys:List β},R2 R xs ys→R2 R' xs ys
 | _,_, .nil=> .nil
 | _,_, .cons h t=> .cons (hR _ _ h) (t.mono hR)
theorem R2.map{α β γ:Type}{R:α→β→Prop}{R':γ→β→Prop}{f:α→γ}(hR : ∀x y,R x y→R' (f x) y) : ∀ {xs:List α} {ys:List β},R2 R xs ys→R2 R' (xs.map f) ys
 | _,_, .nil=> .nil
 | _,_, .cons h t=> .cons (hR _ _ h) (t.map hR)
inductive SV where
 | sc (v:Value)
 | row (sz:Nat) (gs:List (List SV))
 | lk (x:List UInt8)
 | sub (sz:Nat) (gs:List (List SV))
inductive CV where
 | s (x:SV)
 | own (t:Nat) (e:TypeId) (sz:Nat) (gs:List (List SV))
 | bad
inductive RV where
 | c (x:CV)
 | agg (cs:List CV)
inductive AV where
 | r (x:RV)
 | ptr (o off:Nat)
 | eptr (t:Option Nat) (g:List SV) (off:Nat)
 | tup (l:List RV)
 | skip
 | bad
def ndTy:TypeId:=26
def tyB (e sz:Nat):Bool:= !(Nat.beq sz 5)||Nat.beq e ndTy
theorem tyB_ok{e sz:Nat}(h:tyB e sz=true):sz=5→e=ndTy:=fun h5=>by
 subst h5
 exact Nat.eq_of_beq_eq_true h
mutual
inductive SVR(K:CH)(A:Nat→Prop):SV→Value→Prop where
 | sc {v:Value} (h:isCell v=true):SVR K A (.sc v) v
 | row0 {sz:Nat}:SVR K A (.row sz []) (.slice none 0 0)
 | row {b sz:Nat} {os:List Value} {e:TypeId} {kd:Kd} {gs:List (List SV)} (hne:gs≠ []∧gs.length≤maxLen) (hb:A b) (ho:K.ob b= .cells os e kd) (hk:kd.isRo=false) (hg : ∀g∈gs,g.length=sz) (hs:SVRs K A gs.flatten os) (ht:sz=5→e=ndTy):SVR K A (.row sz gs) (.slice (some ⟨b,0,none⟩) gs.length gs.length)
 | lk {x:List UInt8} {v:Value} (h:isCell v=true):SVR K A (.lk x) v
 | sub0 {sz c:Nat} {q:Option Addr}:SVR K A (.sub sz []) (.slice q 0 c)
 | sub {b o c sz:Nat} {os:List Value} {e:TypeId} {kd:Kd} {gs:List (List SV)} (hne:gs≠ []∧gs.length≤maxLen) (hb:A b) (ho:K.ob b= .cells os e kd) (hg : ∀g∈gs,g.length=sz) (hl:o+gs.length*sz≤os.length) (hs:SVRs K A gs.flatten ((os.drop o).take (gs.length*sz))) (ht:sz=5→e=ndTy):SVR K A (.sub sz gs) (.slice (some ⟨b,o,none⟩) gs.length c)
inductive SVRs(K:CH)(A:Nat→Prop):List SV→List Value→Prop where
 | nil:SVRs K A [] []
 | cons {x:SV} {v:Value} {xs:List SV} {vs:List Value} (h:SVR K A x v) (t:SVRs K A xs vs):SVRs K A (x::xs) (v::vs)
end
theorem SVR.mv{K K':CH}{A A':Nat→Prop}(hA : ∀b,A b→A' b∧K'.ob b=K.ob b){x:SV}{v:Value}(h:SVR K A x v):SVR K' A' x v:=
 SVR.rec (motive_1:=fun x v _=>SVR K' A' x v) (motive_2:=fun x v _=>SVRs K' A' x v) (fun h=> .sc h) .row0 (fun hne hb ho hk hg _ ht ih=> .row hne (hA _ hb).1 ((hA _ hb).2.trans ho) hk hg ih ht) (fun h=> .lk h) .sub0 (fun hne hb ho hg hl _ ht ih=> .sub hne (hA _ hb).1 ((hA _ hb).2.trans ho) hg hl ih ht) .nil (fun _ _ i1 i2=> .cons i1 i2) h
theorem SVRs.mv{K K':CH}{A A':Nat→Prop}(hA : ∀b,A b→A' b∧K'.ob b=K.ob b){x:List SV}{v:List Value}(h:SVRs K A x v):SVRs K' A' x v:=
 SVRs.rec (motive_1:=fun x v _=>SVR K' A' x v) (motive_2:=fun x v _=>SVRs K' A' x v) (fun h=> .sc h) .row0 (fun hne hb ho hk hg _ ht ih=> .row hne (hA _ hb).1 ((hA _ hb).2.trans ho) hk hg ih ht) (fun h=> .lk h) .sub0 (fun hne hb ho hg hl _ ht ih=> .sub hne (hA _ hb).1 ((hA _ hb).2.trans ho) hg hl ih ht) .nil (fun _ _ i1 i2=> .cons i1 i2) h
theorem SVRs.r2{K:CH}{A:Nat→Prop} : ∀ {xs:List SV} {vs:List Value},SVRs K A xs vs→R2 (SVR K A) xs vs
 | [],_,h=>by cases h;exact .nil
 | x::xs,_,h=>by
   cases h with
   | cons h t=>exact .cons h t.r2
theorem R2.svrs{K:CH}{A:Nat→Prop} : ∀ {xs:List SV} {vs:List Value},R2 (SVR K A) xs vs→SVRs K A xs vs
 | _,_, .nil=> .nil
 | _,_, .cons h t=> .cons h t.svrs
abbrev rowS(sz:Nat)(gs:List (List SV)):SV:= .row sz gs
theorem SVR.cell{K:CH}{A:Nat→Prop}{x:SV}{v:Value}(h:SVR K A x v):isCell v=true:=by
 cases h with
 | sc h=>exact h
 | row0=>rfl
 | row=>rfl
 | lk h=>exact h
 | sub0=>rfl
 | sub=>rfl
structure TE where
 σ:Nat→Option Nat
 ρ:Nat→Option Nat
 hid:Nat→Prop
def Frz (K:CH)(E:TE)(b:Nat):Prop:=b<K.nx∧¬E.hid b∧(∀t,E.σ t≠some b)∧∀o,E.ρ o≠some b
inductive CVR(K:CH)(E:TE):CV→Value→Prop where
 | s {x:SV} {v:Value} (h:SVR K (Frz K E) x v):CVR K E (.s x) v
 | own0 {t sz:Nat} {e:TypeId}:CVR K E (.own t e sz []) (.slice none 0 0)
 | own {t b sz:Nat} {os:List Value} {e:TypeId} {kd:Kd} {gs:List (List SV)} (hne:gs≠ []∧gs.length≤maxLen) (hb:E.σ t=some b) (ho:K.ob b= .cells os e kd) (hk:kd.isRo=false) (hg : ∀g∈gs,g.length=sz) (hs:SVRs K (Frz K E) gs.flatten os) (ht:sz=5→e=ndTy):CVR K E (.own t e sz gs) (.slice (some ⟨b,0,none⟩) gs.length gs.length)
 | bad {v:Value} (h:isCell v=true):CVR K E .bad v
theorem CVR.cell{K:CH}{E:TE}{x:CV}{v:Value}(h:CVR K E x v):isCell v=true:=by
 cases h with
 | s h=>exact h.cell
 | own0=>rfl
 | own=>rfl
 | bad h=>exact h
inductive RVR(K:CH)(E:TE):RV→Value→Prop where
 | c {x:CV} {v:Value} (h:CVR K E x v):RVR K E (.c x) v
 | agg {cs:List CV} {vs:List Value} (h:R2 (CVR K E) cs vs):RVR K E (.agg cs) (.agg vs.toArray)
inductive AVR(K:CH)(E:TE):AV→Value→Prop where
 | r {x:RV} {v:Value} (h:RVR K E x v):AVR K E (.r x) v
 | ptr {o off l:Nat} (h:E.ρ o=some l):AVR K E (.ptr o off) (.pointer (some ⟨l,off,none⟩))
 | eptr {t:Option Nat} {g:List SV} {off b base:Nat} {os:List Value} {e:TypeId} {kd:Kd} (hb:match t with | none=>Frz K E b | some t=>E.σ t=some b) (ho:K.ob b= .cells os e kd) (hl:base+g.length≤os.length) (hs:R2 (SVR K (Frz K E)) g ((os.drop base).take g.length)):AVR K E (.eptr t g off) (.pointer (some ⟨b,base+off,none⟩))
 | tup {l:List RV} {vs:List Value} (h:R2 (RVR K E) l vs):AVR K E (.tup l) (.tuple vs.toArray)
 | skip:AVR K E .skip skipV
 | bad {v:Value}:AVR K E .bad v
inductive SA where
 | keep | fz | kill
def CV.act(g:Nat→SA):CV→CV
 | .own t e sz gs=>match g t with
   | .keep=> .own t e sz gs
   | .fz=> .s (rowS sz gs)
   | .kill=> .bad
 | x=>x
def RV.act(g:Nat→SA):RV→RV
 | .c x=> .c (x.act g)
 | .agg cs=> .agg (cs.map (CV.act g))
def AV.act(g:Nat→SA):AV→AV
 | .r x=> .r (x.act g)
 | .eptr (some t) l off=>match g t with
   | .keep=> .eptr (some t) l off
   | .fz=> .eptr none l off
   | .kill=> .bad
 | .tup l=> .tup (l.map (RV.act g))
 | x=>x
structure Mv(K:CH)(E:TE)(g:Nat→SA)(K':CH)(E':TE):Prop where
 frz : ∀b,Frz K E b→Frz K' E' b∧K'.ob b=K.ob b
 keep : ∀t b,E.σ t=some b→g t= .keep→E'.σ t=some b∧K'.ob b=K.ob b
 fz : ∀t b,E.σ t=some b→g t= .fz→Frz K' E' b∧K'.ob b=K.ob b
 rho : ∀o b,E.ρ o=some b→E'.ρ o=some b
variable {K K':CH} {E E':TE} {g:Nat→SA}
theorem CVR.mv(m:Mv K E g K' E'){x:CV}{v:Value}(h:CVR K E x v):CVR K' E' (x.act g) v:=by
 cases h with
 | s h=>exact .s (h.mv m.frz)
 | @own0 t sz e=>
   show CVR K' E' (match g t with | .keep=> .own t e sz [] | .fz=> .s (rowS sz []) | .kill=> .bad) _
   cases g t with
   | keep=>exact .own0
   | fz=>exact .s .row0
   | kill=>exact .bad rfl
 | @own t b sz os e kd gs hne hb ho hk hg hs ht=>
   show CVR K' E' (match g t with | .keep=> .own t e sz gs | .fz=> .s (rowS sz gs) | .kill=> .bad) _
   cases hgt:g t with
   | keep=>exact .own hne (m.keep t b hb hgt).1 ((m.keep t b hb hgt).2.trans ho) hk hg (hs.mv m.frz) ht
   | fz=>exact .s (.row hne (m.fz t b hb hgt).1 ((m.fz t b hb hgt).2.trans ho) hk hg (hs.mv m.frz) ht)
   | kill=>exact .bad rfl
 | bad h=>exact .bad h
theorem RVR.mv(m:Mv K E g K' E'){x:RV}{v:Value}(h:RVR K E x v):RVR K' E' (x.act g) v:=by
 cases h with
 | c h=>exact .c (h.mv m)
 | agg h=>exact .agg (h.map fun _ _ q=>q.mv m)
theorem AVR.mv(m:Mv K E g K' E'){x:AV}{v:Value}(h:AVR K E x v):AVR K' E' (x.act g) v:=by
 cases h with
 | r h=>exact .r (h.mv m)
 | ptr h=>exact .ptr (m.rho _ _ h)
 | @eptr t l off b base os e kd hb ho hl hs=>
   cases t with
   | none=>exact .eptr (t:=none) (m.frz b hb).1 ((m.frz b hb).2.trans ho) hl (hs.mono fun _ _ q=>q.mv m.frz)
   | some t=>
     show AVR K' E' (match g t with | .keep=> .eptr (some t) l off | .fz=> .eptr none l off | .kill=> .bad) _
     cases hgt:g t with
     | keep=>exact .eptr (t:=some t) (m.keep t b hb hgt).1 ((m.keep t b hb hgt).2.trans ho) hl (hs.mono fun _ _ q=>q.mv m.frz)
     | fz=>exact .eptr (t:=none) (m.fz t b hb hgt).1 ((m.fz t b hb hgt).2.trans ho) hl (hs.mono fun _ _ q=>q.mv m.frz)
     | kill=>exact .bad
 | tup h=>exact .tup (h.map fun _ _ q=>q.mv m)
 | skip=>exact .skip
 | bad=>exact .bad
structure TS where
 nt:Nat
 obs:List (Nat×TypeId×List CV)
abbrev TFr:=Nat→AV
def TS.act(g:Nat→SA)(s:TS):TS:=⟨s.nt,s.obs.map fun(v,e,cs)=>(v,e,cs.map (CV.act g))⟩
def TFr.act(g:Nat→SA)(fr:TFr):TFr:=fun t=>(fr t).act g
structure TP where
 N:Nat→Prop
 M:Nat→CObj
 J:List (List UInt8)→List Value→CH→Nat→(Nat→Prop)→Prop
 jm : ∀ {xs:List (List UInt8)} {vs:List Value} {K K':CH} {p:Nat} {W:Nat→Prop},J xs vs K p W→(∀b,W b→K'.ob b=K.ob b)→K.nx≤K'.nx→J xs vs K' p W
abbrev TP.plain(N:Nat→Prop)(M:Nat→CObj):TP:=⟨N,M,fun _ _ _ _ _=>False,fun h _ _=>h⟩
def lks:List CV→List (List UInt8)
 | []=> []
 | .s (.lk x)::r=>x::lks r
 | _::r=>lks r
def lkW:List CV→List Value→List Value
 | .s (.lk _)::r,v::vs=>v::lkW r vs
 | _::r,_::vs=>lkW r vs
 | _,_=> []
def lkO (l:List (Nat×TypeId×List CV)):List (List UInt8):=match l with
 | []=> []
 | (_,_,cs)::_=>lks cs
def JR (Z:TP)(l:List (Nat×TypeId×List CV))(K:CH)(sp:Option Nat)(W:Nat→Prop):Prop:=match l with
 | []=>∀b,¬W b
 | (_,e,cs)::_=>(lks cs= []∧∀b,¬W b)∨(lks cs≠ []∧∃p os,sp=some p∧K.ob p= .cells os e .ex∧os.length=cs.length∧Z.J (lks cs) (lkW cs os) K p W)
structure TR(Z:TP)(K0:CH)(sp:Option Nat)(W0:Nat→Prop)(K:CH)(st:TS)(fr:TFr)(cfr:Fr)(E:TE):Prop where
 nx:K0.nx≤K.nx
 keep : ∀b,b<K0.nx→sp≠some b→¬W0 b→K.ob b=K0.ob b
 prot : ∀b,Z.N b→b<K0.nx∧sp≠some b∧¬W0 b∧K.ob b=Z.M b
 hid : ∀b,E.hid b→b<K.nx∧(∀t,E.σ t≠some b)∧∀o,E.ρ o≠some b
 wr : ∃W:Nat→Prop,(∀b,W b→E.hid b∧(W0 b∨K0.nx≤b))∧JR Z st.obs K (E.ρ 0) W
 sig : ∀t b,E.σ t=some b→K0.nx≤b∧b<K.nx∧t<st.nt
 inj : ∀t t' b,E.σ t=some b→E.σ t'=some b→t=t'
 sr : ∀t o b,E.σ t=some b→E.ρ o≠some b
 rho : ∀o b,E.ρ o=some b→b<K.nx∧(K0.nx≤b∨sp=some b)∧o<st.obs.length
 rinj : ∀o o' b,E.ρ o=some b→E.ρ o'=some b→o=o'
 obs : ∀o v e cs,st.obs[o]? = some (v,e,cs)→∃b os,E.ρ o=some b∧K.ob b= .cells os e .ex∧R2 (CVR K E) cs os
 frm : ∀t,AVR K E (fr t) (cfr t)
end Can
end Go.Proofs.YtdfgkcoenagaaaaGreat
end
section
namespace Go.Proofs.YtdfgkcoenagaaaaGreat
namespace Can
open Go Go.RowKit
set_option linter.unusedSimpArgs false
set_option linter.unusedVariables false
theorem cells_cell{v:Value}(h:isCell v=true):v.cells= #[v]:=by cases v<;>first | rfl | cases h
theorem cell_val{v:Value}(h:isCell v=true):isVal v=true:=by cases v<;>first | rfl | cases h
abbrev cS(v:Value):CV:= .s (.sc v)
abbrev rS(v:Value):AV:= .r (.c (.s (.sc v)))
abbrev iS(n:Int):AV:= .r (.c (.s (.sc (.int .i64 n))))
def nzS:Nat:=5
def cN (v:Value):CV:=match v with
 | .slice none 0 0=> .s (.row nzS [])
 | v=> .s (.sc v)
def zCV (z:List Value):Option (List CV):=if z.all isCell=true then some (z.map cN) else none
def toAV (v:Value):AV:=match v with
 | .agg cs=>match zCV cs.toList with
   | some l=> .r (.agg l)
   | none=> .bad
 | v=>match isCell v with
   | true=> .r (.c (cN v))
   | false=> .bad
theorem cN_rel{K:CH}{E:TE}{v:Value}(h:isCell v=true):CVR K E (cN v) v:=by
 unfold cN
 split
 ·exact .s .row0
 ·exact .s (.sc h)
def AV.raw:AV→Option Value
 | .r (.c (.s (.sc v)))=>some v
 | _=>none
def tev (fr:TFr):Operand→AV
 | .tmp t=>fr t
 | .const v=>toAV v
 | _=> .bad
def AV.cvs:AV→Option (List CV)
 | .r (.c x)=>some [x]
 | .r (.agg cs)=>some cs
 | _=>none
def AV.rowOf:AV→Option (Option Nat×Option Nat×List (List SV))
 | .r (.c (.s (.row sz gs)))=>some (none,some sz,gs)
 | .r (.c (.s (.sc (.slice none 0 0))))=>some (none,none,[])
 | .r (.c (.own t _ sz gs))=>some (some t,some sz,gs)
 | _=>none
def AV.rowIx:AV→Option (Option Nat×Option Nat×List (List SV))
 | .r (.c (.s (.sub sz gs)))=>some (none,some sz,gs)
 | a=>a.rowOf
def srcOk(sz:Nat):Option Nat→Prop
 | none=>True
 | some sz'=>sz'=sz
instance {sz:Nat} : ∀ {o:Option Nat},Decidable (srcOk sz o)
 | none=>inferInstanceAs (Decidable True)
 | some sz'=>inferInstanceAs (Decidable (sz'=sz))
def lenOf:AV→Option Nat
 | .r (.c (.s (.row _ gs)))=>some gs.length
 | .r (.c (.own _ _ _ gs))=>some gs.length
 | .r (.c (.s (.sc (.slice _ n _))))=>some n
 | .r (.c (.s (.sub _ gs)))=>some gs.length
 | _=>none
def rops:POp→Option (List Operand)
 | .bin _ x y=>some [x,y]
 | .eqb _ x y=>some [x,y]
 | .un _ x=>some [x]
 | .conv _ x=>some [x]
 | .cstr x=>some [x]
 | .sidx x i=>some [x,i]
 | .lens x=>some [x]
 | .mx _ x y=>some [x,y]
 | .sstr x lo hi=>some (x::(lo.toList++hi.toList))
 | _=>none
def rev (fr:TFr)(x:Operand):Value:=((tev fr x).raw).getD undef
def tbld:List CV→List (Nat×Nat×Option (List CV))→Option (List CV)
 | z,[]=>some z
 | z,(o,s,some cs)::r=>if cs.length=s∧o+s≤z.length then tbld (z.take o++cs++z.drop (o+s)) r else none
 | _,_=>none
def tpop (fr:TFr):POp→Option AV
 | .mov x=>some (tev fr x)
 | .pick c a b=>match (tev fr c).raw with
   | some (.bool t)=>some (if t=true then tev fr a else tev fr b)
   | _=>none
 | .off x d=>match tev fr x with
   | .ptr o off=>some (.ptr o (off+d))
   | .eptr t g off=>some (.eptr t g (off+d))
   | _=>none
 | .nck x=>match tev fr x with
   | .ptr o off=>some (.ptr o off)
   | .eptr t g off=>some (.eptr t g off)
   | _=>none
 | .fld x d n=>match tev fr x,n with
   | .r (.agg cs),none=>(cs[d]?).map fun x=> .r (.c x)
   | .r (.agg cs),some m=>if d+m≤cs.length then some (.r (.agg ((cs.drop d).take m))) else none
   | _,_=>none
 | .len x=>(lenOf (tev fr x)).map fun n=>iS n
 | .idx x i sz=>match (tev fr x).rowIx,(tev fr i).raw with
   | some (t,z,gs),some (.int _ j)=>if srcOk sz z∧0≤j then (gs[j.toNat]?).map fun g=> .eptr t g 0 else none
   | _,_=>none
 | .ext x i=>match tev fr x with
   | .tup l=>(l[i]?).map .r
   | _=>none
 | .bld z ps=>match zCV z with
   | some z=>(tbld z (ps.map fun(o,s,x)=>(o,s,(tev fr x).cvs))).map fun cs=> .r (.agg cs)
   | none=>none
 | x=>match rops x with
   | some l=>if l.all (fun y=>(tev fr y).raw.isSome)=true then (pop (rev fr) x).map toAV else none
   | none=>none
variable {K K':CH} {E E':TE} {fr:TFr} {cfr:Fr}
theorem zCV_rel : ∀ {z:List Value} {l:List CV},zCV z=some l→R2 (CVR K E) l z:=fun {z l} h=>by
 unfold zCV at h
 split at h
 ·rename_i ha
  injection h with h
  subst h
  induction z with
  | nil=>exact .nil
  | cons v z ih=>
    rw[List.all_cons,Bool.and_eq_true] at ha
    exact .cons (cN_rel ha.1) (ih ha.2)
 ·cases h
theorem toAV_rel{v:Value}:AVR K E (toAV v) v:=by
 unfold toAV
 split
 ·rename_i cs
  split
  ·rename_i l hl
   exact .r (.agg (vs:=cs.toList) (zCV_rel hl))
  ·exact .bad
 ·split
  ·rename_i h;exact .r (.c (cN_rel h))
  ·exact .bad
theorem raw_rel{a:AV}{u v:Value}(h:AVR K E a v)(hr:a.raw=some u):v=u:=by
 unfold AV.raw at hr
 split at hr
 ·cases hr
  cases h with
  | r h=>
    cases h with
    | c h=>
      cases h with
      | s h=>cases h with | sc h=>rfl
 ·cases hr
theorem tev_rel(hf : ∀t,AVR K E (fr t) (cfr t))(x:Operand):AVR K E (tev fr x) (evF cfr x):=by
 cases x with
 | tmp t=>exact hf t
 | const v=>exact toAV_rel
 | _=>exact .bad
theorem cvs_rel{a:AV}{v:Value}(h:AVR K E a v){l:List CV}(hr:a.cvs=some l):R2 (CVR K E) l v.cells.toList∧isVal v=true:=by
 unfold AV.cvs at hr
 split at hr
 ·cases hr
  cases h with
  | r h=>cases h with
    | c h=>rw[cells_cell h.cell];exact⟨.cons h .nil,cell_val h.cell⟩
 ·cases hr
  cases h with
  | r h=>cases h with
    | agg h=>exact⟨h,rfl⟩
 ·cases hr
theorem AVR.ptr_inv{o off:Nat}{v:Value}(h:AVR K E (.ptr o off) v) : ∃l,E.ρ o=some l∧v= .pointer (some ⟨l,off,none⟩):=by
 cases h with
 | ptr h=>exact⟨_,h,rfl⟩
def Own (K:CH)(E:TE)(t:Option Nat)(b:Nat):Prop:=match t with
 | none=>Frz K E b
 | some t=>E.σ t=some b
theorem AVR.eptr_inv{t:Option Nat}{g:List SV}{off:Nat}{v:Value}(h:AVR K E (.eptr t g off) v) : ∃b base os e kd,Own K E t b∧K.ob b= .cells os e kd∧base+g.length≤os.length∧R2 (SVR K (Frz K E)) g ((os.drop base).take g.length)∧v= .pointer (some ⟨b,base+off,none⟩):=by
 cases h with
 | eptr hb ho hl hs=>exact⟨_,_,_,_,_,hb,ho,hl,hs,rfl⟩
theorem flat_grp{α:Type}{sz:Nat} : ∀ {gs:List (List α)},(∀g∈gs,g.length=sz)→∀ {j:Nat} {g:List α},gs[j]? = some g→(gs.flatten.drop (j*sz)).take g.length=g∧j*sz+g.length≤gs.flatten.length
 | [],_,j,g,h=>by simp at h
 | a::gs,hg,0,g,h=>by
   simp at h;subst h
   simp
 | a::gs,hg,j+1,g,h=>by
   have ha:=hg a (by simp)
   have ih:=flat_grp (gs:=gs) (fun x hx=>hg x (by simp[hx])) (j:=j) (g:=g) (by simpa using h)
   have e:(j+1)*sz=a.length+j*sz:=by rw[ha,Nat.add_mul];omega
   have hd:(a++gs.flatten).drop (a.length+j*sz)=gs.flatten.drop (j*sz):=by rw[←List.drop_drop,List.drop_left]
   rw[List.flatten_cons,e,hd]
   exact⟨ih.1,by rw[List.length_append];omega⟩
theorem flat_len'{α:Type}{sz:Nat} : ∀ {gs:List (List α)},(∀g∈gs,g.length=sz)→gs.flatten.length=gs.length*sz
 | [],_=>by simp
 | a::gs,hg=>by
   rw[List.flatten_cons,List.length_append,flat_len' fun x hx=>hg x (by simp[hx]),hg a (by simp),List.length_cons,Nat.add_mul];omega
theorem row_rel{a:AV}{v:Value}(h:AVR K E a v){t:Option Nat}{z:Option Nat}{gs:List (List SV)}(hr:a.rowOf=some (t,z,gs)):(gs= []∧v= .slice none 0 0)∨(gs≠ []∧gs.length≤maxLen)∧∃sz b os e kd,z=some sz∧Own K E t b∧K.ob b= .cells os e kd∧kd.isRo=false∧(∀g∈gs,g.length=sz)∧SVRs K (Frz K E) gs.flatten os∧v= .slice (some ⟨b,0,none⟩) gs.length gs.length:=by
 unfold AV.rowOf at hr
 split at hr
 ·cases hr
  cases h with
  | r h=>cases h with
    | c h=>cases h with
      | s h=>cases h with
        | row0=>exact .inl ⟨rfl,rfl⟩
        | row hne hb ho hk hg hs=>exact .inr ⟨hne,_,_,_,_,_,rfl,hb,ho,hk,hg,hs,rfl⟩
 ·cases hr
  exact .inl ⟨rfl,raw_rel h rfl⟩
 ·cases hr
  cases h with
  | r h=>cases h with
    | c h=>cases h with
      | own0=>exact .inl ⟨rfl,rfl⟩
      | own hne hb ho hk hg hs=>exact .inr ⟨hne,_,_,_,_,_,rfl,hb,ho,hk,hg,hs,rfl⟩
 ·cases hr
theorem ix_rel{a:AV}{v:Value}(h:AVR K E a v){t:Option Nat}{z:Option Nat}{gs:List (List SV)}(hr:a.rowIx=some (t,z,gs))(hne:gs≠ []) : ∃sz b o c os e kd,z=some sz∧Own K E t b∧K.ob b= .cells os e kd∧(∀g∈gs,g.length=sz)∧o+gs.length*sz≤os.length∧SVRs K (Frz K E) gs.flatten ((os.drop o).take (gs.length*sz))∧v= .slice (some ⟨b,o,none⟩) gs.length c:=by
 unfold AV.rowIx at hr
 split at hr
 ·cases hr
  cases h with
  | r h=>cases h with
    | c h=>cases h with
      | s h=>cases h with
        | sub0=>exact absurd rfl hne
        | sub _ hb ho hg hl hs=>exact⟨_,_,_,_,_,_,_,rfl,hb,ho,hg,hl,hs,rfl⟩
 ·rcases row_rel h hr with ⟨e,_⟩ | ⟨_,sz,b,os,e,kd,k1,k2,k3,k4,k5,k6,k7⟩
  ·exact absurd e hne
  ·have hl:os.length=gs.length*sz:=by
    rw[k6.r2.len]
    have : ∀l:List (List SV),(∀g∈l,g.length=sz)→l.flatten.length=l.length*sz:=fun l=>by
     induction l with
     | nil=>intro _;simp
     | cons a l ih=>
       intro hg
       rw[List.flatten_cons,List.length_append,ih fun x hx=>hg x (by simp[hx]),hg a (by simp),List.length_cons,Nat.add_mul];omega
    exact this gs k5
   exact⟨sz,b,0,gs.length,os,e,kd,k1,k2,k3,k5,by omega,by rw[List.drop_zero,List.take_of_length_le (by omega)];exact k6,k7⟩
theorem len_rel{a:AV}{v:Value}(h:AVR K E a v){n:Nat}(hr:lenOf a=some n) : ∃q c,v= .slice q n c:=by
 unfold lenOf at hr
 split at hr
 ·rename_i sz gs
  cases hr
  rcases row_rel (t:=none) (z:=some sz) (gs:=gs) h rfl with ⟨rfl,hv⟩ | ⟨_,_,_,_,_,_,_,_,_,_,_,_,hv⟩
  ·exact⟨_,_,hv⟩
  ·exact⟨_,_,hv⟩
 ·rename_i t e sz gs
  cases hr
  rcases row_rel (t:=some t) (z:=some sz) (gs:=gs) h rfl with ⟨rfl,hv⟩ | ⟨_,_,_,_,_,_,_,_,_,_,_,_,hv⟩
  ·exact⟨_,_,hv⟩
  ·exact⟨_,_,hv⟩
 ·cases hr
  exact⟨_,_,raw_rel h rfl⟩
 ·cases hr
  cases h with
  | r h=>cases h with
    | c h=>cases h with
      | s h=>cases h with
        | sub0=>exact⟨_,_,rfl⟩
        | sub=>exact⟨_,_,rfl⟩
 ·cases hr
theorem R2.set{α:Type}{R:α→Value→Prop}{xs us:List α}{ys vs:List Value}(h:R2 R xs ys)(g:R2 R us vs){o:Nat}:R2 R (xs.take o++us++xs.drop (o+us.length)) (setCells ys o vs):=by
 unfold setCells
 rw[g.len]
 exact((h.take o).app g).app (h.drop _)
theorem tbld_rel : ∀ {ps:List (Nat×Nat×Option (List CV))} {qs:List (Nat×Nat×Value)} {z:List CV} {zs:List Value} {cs:List CV},R2 (CVR K E) z zs→R2 (fun(p:Nat×Nat×Option (List CV)) (q:Nat×Nat×Value)=>p.1=q.1∧p.2.1=q.2.1∧∀l,p.2.2=some l→R2 (CVR K E) l q.2.2.cells.toList∧isVal q.2.2=true) ps qs→tbld z ps=some cs→∃vs,bldV zs qs=some vs∧R2 (CVR K E) cs vs
 | [],_,z,zs,cs,hz, .nil,h=>by
   cases h;exact⟨zs,rfl,hz⟩
 | (o,s,none)::ps,_,z,zs,cs,hz, .cons _ _,h=>by cases h
 | (o,s,some l)::ps,(o',s',v)::qs,z,zs,cs,hz, .cons ⟨e1,e2,e3⟩ ht,h=>by
   cases e1;cases e2
   obtain⟨g1,g2⟩:=e3 l rfl
   simp only[tbld] at h
   split at h
   ·rename_i hc
    have hsz:v.cells.size=s:=by rw[←Array.length_toList,g1.len];exact hc.1
    obtain⟨vs,k1,k2⟩:=tbld_rel (zs:=setCells zs o v.cells.toList) (by have:=hz.set g1 (o:=o);rw[hc.1] at this;exact this) ht h
    refine⟨vs,?_,k2⟩
    show(if isVal v=true∧v.cells.size=s∧o+s≤zs.length then bldV (setCells zs o v.cells.toList) qs else none)=_
    rw[if_pos ⟨g2,hsz,by rw[hz.len];exact hc.2⟩]
    exact k1
   ·cases h
theorem rpop_congr{ev ev':Operand→Value}{x:POp}{l:List Operand}(h:rops x=some l)(he : ∀y∈l,ev' y=ev y):pop ev' x=pop ev x:=by
 cases x<;>simp only[rops,Option.some.injEq,reduceCtorEq] at h<;>subst h
 case sstr x lo hi=>
  have hx:=he x (by simp)
  have hl : ∀d,bnd ev' d lo=bnd ev d lo:=fun d=>by
   cases lo with
   | none=>rfl
   | some y=>simp only[bnd,he y (by simp)]
  have hh : ∀d,bnd ev' d hi=bnd ev d hi:=fun d=>by
   cases hi with
   | none=>rfl
   | some y=>simp only[bnd,he y (by simp)]
  simp only[pop,hx,hl,hh]
 all_goals simp only[List.mem_cons,List.mem_singleton,List.not_mem_nil,or_false,forall_eq_or_imp,forall_eq] at he
 all_goals simp only[pop,he]
theorem tpop_raw(hf : ∀t,AVR K E (fr t) (cfr t)){x:POp}{a:AV}(h:(match rops x with | some l=>if l.all (fun y=>(tev fr y).raw.isSome)=true then (pop (rev fr) x).map toAV else none | none=>none)=some a) : ∃v,pop (evF cfr) x=some v∧AVR K E a v:=by
 split at h
 ·rename_i l hl
  split at h
  ·rename_i ha
   have he : ∀y∈l,evF cfr y=rev fr y:=fun y hy=>by
    have:=List.all_eq_true.1 ha y hy
    obtain⟨u,hu⟩:=Option.isSome_iff_exists.1 this
    rw[raw_rel (tev_rel hf y) hu,rev,hu];rfl
   rw[←rpop_congr hl he] at h
   cases hp:pop (evF cfr) x with
   | none=>rw[hp] at h;cases h
   | some v=>rw[hp] at h;cases h;exact⟨v,rfl,toAV_rel⟩
  ·cases h
 ·cases h
theorem tpop_sound(hf : ∀t,AVR K E (fr t) (cfr t)){x:POp}{a:AV}(h:tpop fr x=some a) : ∃v,pop (evF cfr) x=some v∧AVR K E a v:=by
 cases x with
 | mov x=>cases h;exact⟨_,rfl,tev_rel hf x⟩
 | pick c x y=>
   simp only[tpop] at h
   split at h
   ·rename_i t hc
    cases h
    have:=raw_rel (tev_rel hf c) hc
    refine⟨if t=true then evF cfr x else evF cfr y,by simp only[pop,this],?_⟩
    cases t
    ·exact tev_rel hf y
    ·exact tev_rel hf x
   ·cases h
 | off x d=>
   simp only[tpop] at h
   have hx:=tev_rel hf x
   split at h
   ·rename_i o off e
    cases h
    rw[e] at hx
    obtain⟨l,hl,hv⟩:=hx.ptr_inv
    exact⟨_,by simp only[pop,hv], .ptr hl⟩
   ·rename_i t g off e
    cases h
    rw[e] at hx
    obtain⟨b,base,os,ty,kd,hb,ho,hl,hs,hv⟩:=hx.eptr_inv
    exact⟨.pointer (some ⟨b,base+(off+d),none⟩),by simp only[pop,hv,Nat.add_assoc], .eptr hb ho hl hs⟩
   ·cases h
 | nck x=>
   simp only[tpop] at h
   have hx:=tev_rel hf x
   split at h
   ·rename_i o off e
    cases h
    rw[e] at hx
    obtain⟨l,hl,hv⟩:=hx.ptr_inv
    exact⟨_,by simp only[pop,hv], .ptr hl⟩
   ·rename_i t g off e
    cases h
    rw[e] at hx
    obtain⟨b,base,os,ty,kd,hb,ho,hl,hs,hv⟩:=hx.eptr_inv
    exact⟨_,by simp only[pop,hv], .eptr hb ho hl hs⟩
   ·cases h
 | fld x d n=>
   simp only[tpop] at h
   have hx:=tev_rel hf x
   split at h
   ·rename_i cs e
    rw[e] at hx
    cases hv:evF cfr x with
    | _=>
      rw[hv] at hx
      cases hx
      rename_i hx
      cases hx
      try(
       rename_i vs hr
       cases hc:cs[d]? with
       | none=>rw[hc] at h;cases h
       | some y=>
         rw[hc] at h;cases h
         obtain⟨v,h1,h2⟩:=hr.get hc
         exact⟨v,by simp only[pop,hv,partV,h1], .r (.c h2)⟩)
      try(rename_i hq;cases hq)
   ·rename_i cs m e
    rw[e] at hx
    split at h
    ·rename_i hle
     cases h
     cases hv:evF cfr x with
     | _=>
       rw[hv] at hx
       cases hx
       rename_i hx
       cases hx
       try(
        rename_i vs hr
        exact⟨_,by simp only[pop,hv,partV];rw[if_pos (by rw[hr.len];exact hle)], .r (.agg ((hr.drop d).take m))⟩)
       try(rename_i hq;cases hq)
    ·cases h
   ·cases h
 | len x=>
   simp only[tpop] at h
   have hx:=tev_rel hf x
   cases hl:lenOf (tev fr x) with
   | none=>rw[hl] at h;cases h
   | some n=>
     rw[hl] at h;cases h
     obtain⟨q,c,hv⟩:=len_rel hx hl
     exact⟨_,by simp only[pop,hv], .r (.c (.s (.sc rfl)))⟩
 | idx x i sz=>
   simp only[tpop] at h
   split at h
   ·rename_i t z gs k j e1 e2
    split at h
    ·rename_i hc
     obtain⟨hz,hj⟩:=hc
     cases hg:gs[j.toNat]? with
     | none=>rw[hg] at h;cases h
     | some g=>
       rw[hg] at h;cases h
       have hi:=raw_rel (tev_rel hf i) e2
       have hlt:=(List.getElem?_eq_some_iff.1 hg).1
       obtain⟨sz',b,o,c,os,ty,kd,rfl,k1,k2,k4,k6,k5,hv⟩:=ix_rel (tev_rel hf x) e1 (fun e=>by rw[e] at hg;simp at hg)
       cases hz
       obtain⟨q1,q2⟩:=flat_grp k4 hg
       refine⟨_,by simp only[pop,hv,hi];rw[if_pos ⟨hj,by omega⟩],?_⟩
       have hr:=((k5.r2.drop (j.toNat*sz)).take g.length)
       rw[q1] at hr
       have hfl:=flat_len' k4
       have e2:((((os.drop o).take (gs.length*sz)).drop (j.toNat*sz)).take g.length)=(os.drop (o+j.toNat*sz)).take g.length:=by
        rw[List.drop_take,List.take_take,List.drop_drop,Nat.min_eq_left (by omega)]
       rw[e2] at hr
       exact .eptr (base:=o+j.toNat*sz) (off:=0) k1 k2 (by omega) hr
    ·cases h
   ·cases h
 | ext x i=>
   simp only[tpop] at h
   have hx:=tev_rel hf x
   split at h
   ·rename_i l e
    rw[e] at hx
    cases hc:l[i]? with
    | none=>rw[hc] at h;cases h
    | some y=>
      rw[hc] at h;cases h
      cases hv:evF cfr x with
      | _=>
        rw[hv] at hx
        cases hx
        try(
         rename_i vs hr
         obtain⟨v,h1,h2⟩:=hr.get hc
         exact⟨v,by simp only[pop,hv];simpa using h1, .r h2⟩)
   ·cases h
 | bld z ps=>
   simp only[tpop] at h
   split at h
   ·rename_i zc hz
    cases hb:tbld zc (ps.map fun(o,s,x)=>(o,s,(tev fr x).cvs)) with
    | none=>rw[hb] at h;cases h
    | some cs=>
      rw[hb] at h;cases h
      obtain⟨vs,k1,k2⟩:=tbld_rel (K:=K) (E:=E) (qs:=ps.map fun(o,s,x)=>(o,s,evF cfr x)) (zCV_rel hz) (by
       clear hb
       induction ps with
       | nil=>exact .nil
       | cons p ps ih=>exact .cons ⟨rfl,rfl,fun l hl=>cvs_rel (tev_rel hf p.2.2) hl⟩ ih) hb
      exact⟨_,by simp only[pop];rw[k1];rfl, .r (.agg k2)⟩
   ·cases h
 | _=>exact tpop_raw hf h
end Can
end Go.Proofs.YtdfgkcoenagaaaaGreat
end
