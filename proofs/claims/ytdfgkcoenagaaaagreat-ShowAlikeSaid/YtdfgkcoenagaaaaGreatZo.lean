/- Parse, its laws: the table in which it is told what Parse does; Same of trees. Parse, its laws: Source; the example holds. Parse, its laws: rows and nodes read back. Parse, its laws: tokens that grow; Same of two trees. Show: the builder's calls, as they stand in the printer's object. Show: the printer as a function of a tree. No program in sight. Show: what is asked to be printed grows. No program in sight. Show: the printer's small steps (put, pad), in memory. Show: the printer as a run over trees sees it; put's contract. Show: the printer's small functions, as runs over trees. Show: pad, as a run over trees. -/
import Derived.Test.YtdfgkcoenagaaaaGreatZn
import Derived.Test.YtdfgkcoenagaaaaGreatZl
import Derived.Test.YtdfgkcoenagaaaaGreatZm
section
namespace Go.Proofs.YtdfgkcoenagaaaaGreat
namespace Can
open Go Go.RowKit
set_option linter.unusedSimpArgs false
set_option linter.unusedVariables false
set_option maxRecDepth 4000
mutual
def sameN(ln:Bool):Nd→Nd→Bool
 | .mk k l x o ks, .mk k' l' x' o' ks'=>decide (k=k')&&decide (x=x')&&decide (o=o')&&decide (ks.length=ks'.length)&&(!ln||decide (l=l'))&&sameL ln ks ks'
def sameL(ln:Bool):List Nd→List Nd→Bool
 | n::ks,n'::ks'=>sameN ln n n'&&sameL ln ks ks'
 | _,_=>true
end
def LexF (args:List Value)(H:CH)(v:Value)(H':CH):Prop:=∀q c src,args= [.slice q src.length c]→SlAt 1 (CInt .u8) H q c (u8i src)→HExt H H'∧LexOut H H' v (lexT src)
def SP:Spec:=fun f args H v H'=>(f=11→∀(sl:Sl) (ts:List PT),args= [.slice sl.q sl.n sl.c]→SlAt 3 CTk H sl.q sl.c ts→sl.n=ts.length→ts.length≤4398046510976→PrQ2 H ts v H')∧(f=10→LexF args H v H')
noncomputable abbrev TL:Tbl:=tblS Tryz.prog LG GG [11,10] SP
theorem tl_ok{B:Nat}:TblOk Tryz.prog B TL:=tblS_ok GG_ok
theorem tok_inj{a b:PT}(h:tokV a=tokV b):a=b:=by
 cases a;cases b
 simp only[tokV,List.cons.injEq,Value.int.injEq,Value.string.injEq,true_and,and_true] at h
 obtain⟨rfl,rfl,h⟩:=h
 injection h with h
 injection h with h
 subst h;rfl
theorem slat_inj{H:CH}{q:Option Addr}{c:Nat}{ts us:List PT}(h:SlAt 3 CTk H q c ts)(g:SlAt 3 CTk H q c us)(hl:ts.length=us.length):ts=us:=by
 refine List.ext_getElem hl fun i h1 h2=> ?_
 obtain⟨l,o,os,e,kd,q1,o1,_,_,r1,_⟩:=tk_get h h1
 obtain⟨l',o',os',e',kd',q2,o2,_,_,r2,_⟩:=tk_get g h2
 rw[q1] at q2;cases q2
 rw[o1] at o2;cases o2
 exact tok_inj (r1.symm.trans r2)
theorem parse_wp2{H:CH}{sl:Sl}{ts:List PT}(h:SlAt 3 CTk H sl.q sl.c ts)(hn:sl.n=ts.length)(hlen:ts.length≤4398046510976):WpF TL 11 [.slice sl.q sl.n sl.c] H fun v H'=>PrQ2 H ts v H':=by
 obtain⟨v,H',h1,h2⟩:=parse_call h hn hlen
 refine wpF_tell rfl ⟨v,H',⟨fun _ sl' ts' he h' hn' _=> ?_,fun e=>by cases e⟩,h2⟩ fun v H' hS=>hS.1 rfl sl ts rfl h hn hlen
 cases sl;cases sl'
 cases he
 rw[slat_inj h' h (hn'.symm.trans hn)]
 exact h1
theorem parse_wp{H:CH}{sl:Sl}{ts:List PT}(h:SlAt 3 CTk H sl.q sl.c ts)(hn:sl.n=ts.length)(hlen:ts.length≤4398046510976):WpF TL 11 [.slice sl.q sl.n sl.c] H fun v H'=>PrQ H ts v H':=
 (parse_wp2 h hn hlen).mono fun v H' ⟨vs,h1,h2,_⟩=>⟨vs,h1,h2⟩
theorem u8_inj{H:CH}{q:Option Addr}{c:Nat}{a b:List UInt8}(h:SlAt 1 (CInt .u8) H q c (u8i a))(g:SlAt 1 (CInt .u8) H q c (u8i b))(hl:a.length=b.length):a=b:=by
 have h1:=src_ints h
 have h2:=src_ints g
 rw[u8i_len] at h1 h2
 rw[hl,h2] at h1
 injection h1 with h1
 injection h1 with h1 _
 rw[flat_ints,flat_ints] at h1
 refine List.ext_getElem hl fun i i1 i2=> ?_
 have:=congrArg (fun l=>l[i]?) h1
 simp only[u8i,List.getElem?_map,List.getElem?_eq_getElem i1,List.getElem?_eq_getElem i2,Option.map_some,Option.some.injEq,Value.int.injEq,true_and] at this
 exact UInt8.toNat.inj (by omega)
theorem lexf_wp{H:CH}{q:Option Addr}{c:Nat}{src:List UInt8}(h:SlAt 1 (CInt .u8) H q c (u8i src)):WpF TL 10 [.slice q src.length c] H fun v K=>HExt H K∧LexOut H K v (lexT src):=by
 obtain⟨v,K,h1,h2⟩:=tell_wp (T:=(tblG Tryz.prog LG GG)) (fun B=>tg_ok) (by kernel_rfl) (lex_wp H h)
 refine wpF_tell rfl ⟨v,K,⟨fun e=>(by cases e),fun _ q' c' src' he h'=> ?_⟩,h2⟩ fun v K hS=>hS.2 rfl q c src rfl h
 simp only[List.cons.injEq,Value.slice.injEq,and_true] at he
 obtain⟨rfl,hl,rfl⟩:=he
 rw[u8_inj h' h hl.symm]
 exact h1
theorem tc_rS{D:TD}{Z:TP}{X:Pan}(hD:TDOk TL D){R:Value→Prop}{f:Nat}(he:TL.ext f=false)(h:(resFunc Tryz.prog (fun N ops=>resD Tryz.prog N ops) f).isSome=true){args:List AV}{self:Self}{Q:AV→List SV→Prop}(k:twR Z TL X D R (rF Tryz.prog f).body (fun t=>args.getD t .bad) (st0 self) (finT (rF Tryz.prog f).res self Q)):TC Z TL X f args self Q R:=
 tc_in hD he (tbS_fn h) k
def D0:TD:=⟨[]⟩
theorem d0_ok:TDOk TL D0:=⟨fun f hf=>by cases hf⟩
theorem sameL_drop{ln:Bool}{ks ks':List Nd}{i:Nat}{t t':Nd}(h:ks[i]? = some t)(h':ks'[i]? = some t'):sameL ln (ks.drop i) (ks'.drop i)=(sameN ln t t'&&sameL ln (ks.drop (i+1)) (ks'.drop (i+1))):=by
 obtain⟨hi,rfl⟩:=List.getElem?_eq_some_iff.1 h
 obtain⟨hi',rfl⟩:=List.getElem?_eq_some_iff.1 h'
 rw[List.drop_eq_getElem_cons hi,List.drop_eq_getElem_cons hi']
 rfl
section
variable {Z:TP} {X:Pan}
attribute [local irreducible] TC
theorem same_tc(ln:Bool) : ∀(N:Nat) (k:Nat) (l:Int) (x:List UInt8) (o:Nat) (ks:List Nd) (k':Nat) (l':Int) (x':List UInt8) (o':Nat) (ks':List Nd),nsz (.mk k l x o ks)<N→∀(Q:AV→List SV→Prop) (R:Value→Prop),Q (rS (.bool (sameN ln (.mk k l x o ks) (.mk k' l' x' o' ks')))) []→TC Z TL X 9 [ndA (.mk k l x o ks),ndA (.mk k' l' x' o' ks'),rS (.bool ln)] none Q R:=by
 intro N
 induction N with
 | zero=>intro k l x o ks k' l' x' o' ks' h;exact absurd h (Nat.not_lt_zero _)
 | succ N ih=>
 intro k l x o ks k' l' x' o' ks' hN Q R hQ
 refine tc_rS d0_ok (by rfl) (by kernel_rfl) ?_
 conv in (rF _ _).body=>reduce
 conv in (rF _ _).res=>reduce
 conv=>whnf
 have hf:sameN ln (.mk k l x o ks) (.mk k' l' x' o' ks')=(decide (k=k')&&decide (x=x')&&decide (o=o')&&decide (ks.length=ks'.length)&&(!ln||decide (l=l'))&&sameL ln ks ks'):=rfl
 rw[hf] at hQ
 generalize h1:((k:Int) != (k':Int))=b1
 cases b1
 case true=>
  have:k≠k':=by have h : ¬(k:Int)=(k':Int):=(by simpa using h1);omega
  rw[decide_eq_false this] at hQ
  conv=>whnf
  exact hQ
 have e1:k=k':=by have h:(k:Int)=(k':Int):=(by simpa using h1);omega
 conv=>whnf
 generalize h2:(!((pS x).toList==(pS x').toList))=b2
 have pse : ∀a b:List UInt8,((pS a).toList==(pS b).toList)=decide (a=b):=fun a b=>by
  have h : ∀l:List UInt8,(pS l).toList=l:=fun l=>by simp[ByteArray.toList_eq]
  rw[h,h]
  by_cases e:a=b
  ·simp[e]
  ·rw[decide_eq_false e];simpa using e
 rw[pse] at h2
 cases b2
 case true=>
  have:x≠x':=by simpa using h2
  rw[decide_eq_true e1,decide_eq_false this] at hQ
  conv=>whnf
  exact hQ
 have e2:x=x':=by simpa using h2
 conv=>whnf
 generalize h3:((o:Int) != (o':Int))=b3
 cases b3
 case true=>
  have:o≠o':=by have h : ¬(o:Int)=(o':Int):=(by simpa using h3);omega
  rw[decide_eq_true e1,decide_eq_true e2,decide_eq_false this] at hQ
  conv=>whnf
  exact hQ
 have e3:o=o':=by have h:(o:Int)=(o':Int):=(by simpa using h3);omega
 conv=>whnf
 intro hm1
 conv=>whnf
 intro hm2
 conv=>whnf
 generalize h4:(((ndsS ks).length:Int) != ((ndsS ks').length:Int))=b4
 rw[ndsS_len,ndsS_len] at h4
 cases b4
 case true=>
  have:ks.length≠ks'.length:=by have h : ¬(ks.length:Int)=(ks'.length:Int):=(by simpa using h4);omega
  rw[decide_eq_true e1,decide_eq_true e2,decide_eq_true e3,decide_eq_false this] at hQ
  conv=>whnf
  exact hQ
 have e4:ks.length=ks'.length:=by have h:(ks.length:Int)=(ks'.length:Int):=(by simpa using h4);omega
 rw[decide_eq_true e1,decide_eq_true e2,decide_eq_true e3,decide_eq_true e4] at hQ
 have hb:l≠l'∧ln=true∨(!ln||decide (l=l'))=true:=by
  cases ln
  ·exact .inr rfl
  ·by_cases h:l=l'
   ·exact .inr (by simp[h])
   ·exact .inl ⟨h,rfl⟩
 rcases hb with ⟨hb,rfl⟩ | hb
 ·rw[decide_eq_false hb] at hQ
  conv=>whnf
  generalize h5:(l != l')=b5
  cases b5
  case false=>exact absurd (by simpa using h5) hb
  conv=>whnf
  exact hQ
 rw[hb] at hQ
 simp only[Bool.true_and] at hQ
 obtain⟨SL,hSL⟩ : ∃SL:List Nd→List Nd→Bool,SL=sameL ln:=⟨_,rfl⟩
 obtain⟨SN,hSN⟩ : ∃SN:Nd→Nd→Bool,SN=sameN ln:=⟨_,rfl⟩
 have hnil : ∀ys,SL [] ys=true:=fun ys=>by rw[hSL];rfl
 have hdr : ∀(i:Nat) (t t':Nd),ks[i]? = some t→ks'[i]? = some t'→SL (ks.drop i) (ks'.drop i)=(SN t t'&&SL (ks.drop (i+1)) (ks'.drop (i+1))):=fun i t t' h h'=>by rw[hSL,hSN];exact sameL_drop h h'
 rw[←hSL] at hQ
 cases ln
 rotate_left
 conv=>whnf
 generalize h5:(l != l')=b5
 cases b5
 rotate_left
 exact absurd (by simpa using hb) (by simpa using h5)
 all_goals
  conv=>whnf
  refine loop_1 7 (fun m a s=>∃i:Nat,a=rS (.int .i64 (i:Nat))∧s=⟨0,[oN (nA k l x o ks),oN (nA k' l' x' o' ks')]⟩∧m+i=ks.length∧SL ks ks'=SL (ks.drop i) (ks'.drop i)) ks.length [] rfl ⟨0,rfl,rfl,rfl,rfl⟩ ?_
  rintro m a f s ⟨i,rfl,rfl,hm,hp⟩
  conv=>whnf
  intro hmx
  conv=>whnf
  refine ifT_c (fun hc=> ?_) fun hc=> ?_
  ·have hi:i<ks.length:=by simp[ndsS_len] at hc;omega
   obtain⟨t,ht⟩ : ∃t,ks[i]? = some t:=⟨_,List.getElem?_eq_getElem hi⟩
   obtain⟨t',ht'⟩ : ∃t,ks'[i]? = some t:=⟨_,List.getElem?_eq_getElem (by omega)⟩
   rw[hdr i t t' ht ht'] at hp
   have hlt:=nsz_lt (List.mem_of_getElem? ht) (k:=k) (l:=l) (x:=x) (o:=o)
   obtain⟨k1,l1,x1,o1,ks1⟩:=t
   obtain⟨k2,l2,x2,o2,ks2⟩:=t'
   conv=>whnf
   refine⟨rfl,i,_,rfl,ndsS_get ht,?_⟩
   conv=>whnf
   refine⟨rfl,i,_,rfl,ndsS_get ht',?_⟩
   conv=>whnf
   refine ih k1 l1 x1 o1 ks1 k2 l2 x2 o2 ks2 (by omega) _ _ ?_
   conv=>whnf
   rw[←hSN]
   generalize hsm:SN (Nd.mk k1 l1 x1 o1 ks1) (Nd.mk k2 l2 x2 o2 ks2)=bs at hp⊢
   cases bs
   ·rw[Bool.false_and] at hp
    rw[hp] at hQ
    conv=>whnf
    exact hQ
   ·rw[Bool.true_and] at hp
    rw[ndsS_len] at hmx
    conv=>whnf
    exact⟨m-1,[],by omega,rfl,i+1,congrArg (fun n=>rS (.int .i64 n)) (wr_inc' hi hmx),rfl,by omega,hp⟩
  ·have hi:i=ks.length:=by simp[ndsS_len] at hc;omega
   subst hi
   have hp:SL ks ks'=true:=by rw[hp,List.drop_length];exact hnil _
   rw[hp] at hQ
   conv=>whnf
   exact hQ
end
end Can
end Go.Proofs.YtdfgkcoenagaaaaGreat
end
section
namespace Go.Proofs.YtdfgkcoenagaaaaGreat
namespace Can
open Go Go.RowKit
set_option linter.unusedSimpArgs false
set_option linter.unusedVariables false
set_option maxRecDepth 4000
theorem slat_row{K:CH}{b:Nat}{ts:List PT}{e:TypeId}{k:Kd}(hb:b<K.nx)(ho:K.ob b= .cells ((ts.map tokV).flatten) e k)(hl:ts.length≤maxLen):SlAt 3 CTk K (some ⟨b,0,none⟩) ts.length ts:=by
 have hfl:((ts.map tokV).flatten).length=ts.length*3:=by
  rw[flat_len' (sz:=3) (fun g hg=>by obtain⟨t,_,rfl⟩:=List.mem_map.1 hg;rfl),List.length_map]
 refine .inr ⟨b,0,_,e,k,rfl,hb,Nat.le_refl _,hl,ho,by omega,fun i h=> ?_⟩
 have hg:(ts.map tokV)[i]? = some (tokV ts[i]):=by simp[h]
 have:=(flat_grp (sz:=3) (gs:=ts.map tokV) (fun g hg=>by obtain⟨t,_,rfl⟩:=List.mem_map.1 hg;rfl) hg).1
 show((((ts.map tokV).flatten).drop (0+i*3)).take 3)=tokV ts[i]
 rw[Nat.zero_add]
 exact this
theorem nd_cells{K:CH}{A:Nat→Prop}{t:Nd}{os:List Value}(h:SVRs K A (ndS t) os) : ∃k l x o wa wn wc,os= [.int .i64 k, .int .i64 l, .string x, .int .i64 o, .slice wa wn wc]:=by
 cases t
 cases h with | cons a1 h=>
 cases h with | cons a2 h=>
 cases h with | cons a3 h=>
 cases h with | cons a4 h=>
 cases h with | cons a5 h=>
 cases h
 cases a1
 cases a2
 cases a3
 cases a4
 obtain⟨wa,wn,wc,rfl⟩:=row_slc a5
 exact⟨_,_,_,_,_,_,_,rfl⟩
def SrQ (H:CH)(src:List UInt8)(v:Value)(K:CH):Prop:=∃vs,v=tupleV vs∧PrO H (sourceT src).1 (sourceT src).2.1 (sourceT src).2.2 vs K
theorem lexT_len'{src:List UInt8}{ts:List Tok}(h:lexT src= .ok ts):(ts.map ptT).length≤100000:=by
 rw[List.length_map];exact lexT_len h
theorem grw_tk'{A K:CH}{v:Value}{ts:List PT}(h:Grw A 65 3 tokV K v ts)(hm:ts.length≤9223372036854775807) : ∃q c,v= .slice q ts.length c∧SlAt 3 CTk K q c ts:=by
 rcases h with ⟨rfl,rfl⟩ | ⟨b,kd,rfl,h1,h2,h3,h4⟩
 ·exact⟨none,0,rfl, .inl ⟨rfl,rfl, .inl rfl⟩⟩
 ·refine⟨_,_,rfl,?_⟩
  have e:ts.flatMap tokV=(ts.map tokV).flatten:=by rw[List.flatMap_def]
  rw[e] at h3
  exact slat_row h2 h3 (by rw[maxLen_eq];exact hm)
theorem source_wp{H:CH}{q:Option Addr}{c:Nat}{src:List UInt8}(h:SlAt 1 (CInt .u8) H q c (u8i src)) :
 WpF TL 7 [.slice q src.length c] H fun v K=>SrQ H src v K:=by
 refine wpF_rS (by rfl) (by kernel_rfl) ?_
 conv in (rF _ _).body=>reduce
 conv in (rF _ _).res=>reduce
 repeat' (first | (simp (disch:=first | omega | (decide +kernel)) only[↓RD,RU,↓putF_get,↓evF_t,↓evF_c,getD_zero,pop,aop,akV,ρ0,ρ1,↓reduceIte,Int.reduceOfNat,reduceCtorEq]) | (with_reducible first | refine condK_dec (fun _=> ?_) fun _=> ?_ | refine grd_dec (fun _=> ?_) fun _=> ?_ | refine egrd_dec (fun _=> ?_) fun _=> ?_))
 refine(lexf_wp (SlAt.good (CInt.good _) ((HExt.refl H).new _) h)).mono ?_
 rintro v K ⟨hx,hv⟩
 cases hL:lexT src with
 | error y=>
   rw[hL] at hv
   have hv:v= .tuple #[.slice none 0 0, .int .i64 y.1, .int .i64 y.2]:=hv
   subst hv
   have hy : ¬((y.2:Int)=0):=by
    have:y.2=20∨y.2=21∨y.2=24:=by
     by_cases hl:src.length≤20000
     ·rcases(lexT_err2 hl hL).2 with e | e
      ·exact .inl e
      ·exact .inr (.inl e)
     ·unfold lexT at hL
      rw[if_pos (by omega)] at hL
      cases hL
      exact .inr (.inr rfl)
    omega
   have hr:K.ob H.nx= .cells [.int .i64 0, .int .i64 0, .string ⟨⟨[]⟩⟩, .int .i64 0, .slice none 0 0] 26 .ex:=by
    rw[hx.ob H.nx (Nat.lt_succ_self _)]
    exact new_get.trans (if_pos rfl)
   have hn:H.nx<K.nx:=hx.nx
   repeat' (first | (simp (disch:=first | omega | (decide +kernel)) only[↓RD,RU,↓putF_get,↓putF_none,↓evF_t,↓evF_c,set_get,pop,lop,wop,resL,resV,tupleV,isVal,isCell,Value.cells,ρ1,ρ4,↓reduceIte,Nat.reduceEqDiff,Nat.reduceAdd,ρ5,ρ6,ρ7,ρ8,ρ15,ρ17,ρ18,ρ21,ρ22,ρ23,Kd.isRo,ρ25,ρ26,bldV,hr]) | (with_reducible first | refine condK_dec (fun _=> ?_) fun _=> ?_ | refine grd_dec (fun _=> ?_) fun _=> ?_ | refine egrd_dec (fun _=> ?_) fun _=> ?_))
   have es:sourceT src=(zNd,(y.1:Int),(y.2:Int)):=by unfold sourceT;rw[hL]
   rw[SrQ,es]
   exact⟨[_,_,_],rfl,(((HExt.refl H).new _).trans hx).set (Nat.le_refl _) _,[_,_,_,_,_],rfl, .cons (.sc rfl) (.cons (.sc rfl) (.cons (.sc rfl) (.cons (.sc rfl) (.cons .row0 .nil))))⟩
 | ok ts=>
   rw[hL] at hv
   obtain⟨vt,rfl,hg⟩:=hv
   repeat' (first | (simp (disch:=first | omega | (decide +kernel)) only[↓RD,RU,↓putF_get,↓evF_t,↓evF_c,pop,ρ0,ρ1,↓reduceIte,Nat.reduceEqDiff,ρ5,ρ6]) | (with_reducible first | refine condK_dec (fun _=> ?_) fun _=> ?_ | refine grd_dec (fun _=> ?_) fun _=> ?_ | refine egrd_dec (fun _=> ?_) fun _=> ?_))
   have hlen:=lexT_len' hL
   obtain⟨q',c',rfl,hs⟩:=grw_tk' (grw_pt hg) (by omega)
   refine(parse_wp (sl:=⟨q',_,c'⟩) hs rfl (by omega)).mono ?_
   rintro v K2 ⟨vs,rfl,hx2,os,rfl,hs2⟩
   obtain⟨k,l,x,o,wa,wn,wc,rfl⟩:=nd_cells hs2
   have hn:H.nx+1≤K.nx:=hx.nx
   have hn2:=hx2.nx
   have hr:K2.ob H.nx= .cells [.int .i64 0, .int .i64 0, .string ⟨⟨[]⟩⟩, .int .i64 0, .slice none 0 0] 26 .ex:=by
    rw[hx2.ob H.nx (by omega),hx.ob H.nx (Nat.lt_succ_self _)]
    exact new_get.trans (if_pos rfl)
   repeat' (first | (simp (disch:=first | omega | (decide +kernel)) only[↓RD,RU,↓putF_get,↓putF_none,↓evF_t,set_get,pop,lop,wop,resL,resV,tupleV,isVal,isCell,Value.cells,↓reduceIte,Nat.reduceEqDiff,Nat.reduceAdd,ρ5,ρ6,ρ7,ρ8,ρ15,ρ17,ρ18,ρ21,ρ22,ρ23,Kd.isRo,ρ25,ρ26,hr]) | (with_reducible first | refine condK_dec (fun _=> ?_) fun _=> ?_ | refine grd_dec (fun _=> ?_) fun _=> ?_ | refine egrd_dec (fun _=> ?_) fun _=> ?_))
   have es:sourceT src=parseT (ts.map ptT):=by unfold sourceT;rw[hL]
   rw[SrQ,es]
   refine⟨[_,_,_],rfl,((((HExt.refl H).new _).trans hx).trans hx2).set (Nat.le_refl _) _,[_,_,_,_,_],rfl,hs2.mv fun b hb=> ?_⟩
   obtain⟨h1,h2⟩:=hb
   exact⟨⟨by omega,h2⟩,set_ne (by omega)⟩
end Can
end Go.Proofs.YtdfgkcoenagaaaaGreat
end
section
namespace Go.Proofs.YtdfgkcoenagaaaaGreat
namespace Can
open Go Go.RowKit
set_option linter.unusedSimpArgs false
set_option linter.unusedVariables false
set_option maxRecDepth 4000
theorem nd_inv{K:CH}{A:Nat→Prop}{k:Nat}{l:Int}{x:List UInt8}{o:Nat}{ks:List Nd}{rest:List SV}{os:List Value}(h:SVRs K A (ndS (.mk k l x o ks)++rest) os) : ∃w os',os= .int .i64 (k:Nat):: .int .i64 l:: .string ⟨⟨x⟩⟩:: .int .i64 (o:Nat)::w::os'∧SVR K A (.row 5 (ndsS ks)) w∧SVRs K A rest os':=by
 cases h with | cons a1 h=>
 cases h with | cons a2 h=>
 cases h with | cons a3 h=>
 cases h with | cons a4 h=>
 cases h with | cons a5 h=>
 cases a1
 cases a2
 cases a3
 cases a4
 exact⟨_,_,rfl,a5,h⟩
end Can
end Go.Proofs.YtdfgkcoenagaaaaGreat
end
section
namespace Go.Proofs.YtdfgkcoenagaaaaGreat
namespace Can
open Go Go.RowKit
set_option linter.unusedSimpArgs false
set_option linter.unusedVariables false
set_option maxRecDepth 4000
theorem nsame_wp(ln:Bool){K:CH}{A B:Nat→Prop}(hA : ∀b,A b→b<K.nx)(hB : ∀b,B b→b<K.nx){a b:Nd}{os os':List Value}(h:SVRs K A (ndS a) os)(h':SVRs K B (ndS b) os'):WpF TL 9 [.agg os.toArray, .agg os'.toArray, .bool ln] K fun v K'=>HExt K K'∧v= .bool (sameN ln a b):=by
 obtain⟨k,l,x,o,ks⟩:=a
 obtain⟨k',l',x',o',ks'⟩:=b
 obtain⟨w,_,rfl,hw,hn⟩:=nd_inv (rest:= []) (by simpa using h)
 cases hn
 obtain⟨w',_,rfl,hw',hn⟩:=nd_inv (rest:= []) (by simpa using h')
 cases hn
 have r1:=nd_rel hA (k:=k) (l:=l) (x:=x) (o:=o) hw
 have r2:=nd_rel hB (k:=k') (l:=l') (x:=x') (o:=o') hw'
 refine(tc_wp (X:=pX) (same_tc ln (nsz (.mk k l x o ks)+1) k l x o ks k' l' x' o' ks' (Nat.lt_succ_self _) (fun a _=>a=rS (.bool (sameN ln (.mk k l x o ks) (.mk k' l' x' o' ks')))) _ rfl) ?_).mono fun v K' ⟨h1,a,s',h2,h3⟩=>⟨h1,by subst h3;exact raw_rel h2 rfl⟩
 cases r1 with | cons r1 _=>
 cases r2 with | cons r2 _=>
 exact .cons r1 (.cons r2 (.cons (rS_rel rfl) .nil))
theorem ndsS_all{ks:List Nd} : ∀g∈ndsS ks,g.length=5:=by
 induction ks with
 | nil=>intro g hg;cases hg
 | cons n ks ih=>
   intro g hg
   rcases List.mem_cons.1 hg with rfl | hg
   ·exact ndS_len
   ·exact ih g hg
theorem svrs_grp{K:CH}{A:Nat→Prop}{ks:List Nd}{os:List Value}(h:SVRs K A (ndsS ks).flatten os):os.length=ks.length*5∧∀i t,ks[i]? = some t→i*5+5≤os.length∧SVRs K A (ndS t) ((os.drop (i*5)).take 5):=by
 have hl:os.length=ks.length*5:=by rw[h.r2.len,flat_len' ndsS_all,ndsS_len]
 refine⟨hl,fun i t ht=> ?_⟩
 have h1:=flat_grp (ndsS_all (ks:=ks)) (ndsS_get ht)
 rw[ndS_len] at h1
 have:=(h.r2.drop (i*5)).take 5
 rw[h1.1] at this
 exact⟨by obtain⟨hi,_⟩:=List.getElem?_eq_some_iff.1 ht;omega,this.svrs⟩
theorem row_at{K:CH}{A:Nat→Prop}{ks:List Nd}{w:Value}(h:SVR K A (.row 5 (ndsS ks)) w) : ∃q,w= .slice q ks.length ks.length∧ks.length≤maxLen∧(ks= []→q=none)∧∀i t,ks[i]? = some t→∃b cs e kd,q=some ⟨b,0,none⟩∧A b∧K.ob b= .cells cs e kd∧kd.isRo=false∧cs.length=ks.length*5∧i*5+5≤cs.length∧SVRs K A (ndS t) ((cs.drop (i*5)).take 5):=by
 have hl:(ndsS ks).length=ks.length:=ndsS_len
 generalize hg:ndsS ks=gs at h hl
 cases h with
 | row0=>
   have:ks= []:=List.length_eq_zero_iff.1 (by simpa using hl.symm)
   subst this
   exact⟨none,rfl,Nat.zero_le _,fun _=>rfl,fun i t h=>by simp at h⟩
 | row hne hb ho hk hg' hs=>
   rw[hl]
   refine⟨_,rfl,by rw[←hl];exact hne.2,fun e=> ?_,fun i t ht=> ?_⟩
   ·subst e;exact absurd (by rw[←hg];rfl) hne.1
   ·rw[←hg] at hs
    obtain⟨h1,h2⟩:=svrs_grp hs
    exact⟨_,_,_,_,rfl,hb,ho,hk,h1,(h2 i t ht).1,(h2 i t ht).2⟩
end Can
end Go.Proofs.YtdfgkcoenagaaaaGreat
end
section
namespace Go.Proofs.YtdfgkcoenagaaaaGreat
namespace Can
open Go Go.RowKit
set_option linter.unusedSimpArgs false
set_option linter.unusedVariables false
set_option maxRecDepth 4000
theorem noe_tl{a:Option Addr}{H:CH}{Q:Value→CH→Prop}:WpF TL 91 [.pointer a] H Q↔Q (.pointer a) H:=wpF_GS (by rfl) (by rfl) (by rfl)
theorem fri_p:friB (P:=Tryz.prog) 44 46 5 0=true:=by
 unfold friB
 decide +kernel
def OwnA (p:Nat)(a:Value):Prop:=a= .pointer none∨a= .pointer (some ⟨p,0,none⟩)
theorem copy_n{K:CH}{p:Nat}{b d r x:Value}(hob:K.ob p= .cells [.pointer none,b,d,r,x] 46 .ex) :
 WpF TL 74 [.pointer (some ⟨p,0,none⟩)] K fun v K'=>K'=K.set p (.cells [.pointer (some ⟨p,0,none⟩),b,d,r,x] 46 .ex):=by
 refine wpF_rS (by rfl) (by kernel_rfl) ?_;(conv in (rF _ _).body=>reduce);(conv in (rF _ _).res=>reduce)
 repeat' (first | (simp (disch:=first | omega | (decide +kernel) | (repeat first | assumption | exact HExt.refl _ | refine HExt.set ?_ (by first | omega | (simp only[new_nx,set_nx];omega)) _ | refine HExt.new ?_ _)) only[↓RD,RU,accW_t,accW_f,isW,↓putF_get,↓putF_none,↓evF_t,↓evF_c,↓evF_f,new_nx,set_nx,new_get,set_get,getD_zero,getD_succ,u_not,pop,lop,aop,wop,resL,resV,tupleV,akV,isVal,isCell,Value.cells,ρ0,ρ1,ρ2,ρ3,ρ4,↓reduceIte,Nat.reduceEqDiff,Nat.reduceAdd,Int.reduceOfNat,Int.reduceNegSucc,reduceCtorEq,ρ5,ρ6,ρ7,ρ8,srcR_c,src_n,src_v,src_s,bnd,lenV,capV,ρ9,ρ10,ρ11,ρ12,ρ13,ρ14,ρ15,ρ16,ρ17,ρ18,ρ19,ρ20,ρ21,ρ22,ρ23,ρ24,Kd.isRo,ρ25,ρ26,bldV,Nat.reduceLeDiff,Int.reduceMul,Int.reduceAdd,Int.reduceSub,Int.reduceToNat,maxLen_eq,zeros_one,appS_some,appV_n,appV_v,appH_t,appH_f,Kd.isEx,ρ27,partV,CH.set_set,lkV,lkR,isKey,mupV,nxtV,ρ28,ρ29,hob,@noe_tl,fri_p]) | (with_reducible first | refine condK_dec (fun _=> ?_) fun _=> ?_ | refine grd_dec (fun _=> ?_) fun _=> ?_ | refine egrd_dec (fun _=> ?_) fun _=> ?_))
theorem copy_s{K:CH}{p:Nat}{b d r x:Value}(hob:K.ob p= .cells [.pointer (some ⟨p,0,none⟩),b,d,r,x] 46 .ex) :
 WpF TL 74 [.pointer (some ⟨p,0,none⟩)] K fun v K'=>K'=K:=by
 refine wpF_rS (by rfl) (by kernel_rfl) ?_;(conv in (rF _ _).body=>reduce);(conv in (rF _ _).res=>reduce)
 repeat' (first | (simp (disch:=first | omega | (decide +kernel)) only[↓RD,RU,↓putF_get,↓evF_t,↓evF_c,getD_zero,pop,lop,resL,ρ2,↓reduceIte,Nat.reduceEqDiff,reduceCtorEq,ρ5,ρ12,ρ28,hob]) | (with_reducible first | refine condK_dec (fun _=> ?_) fun _=> ?_ | refine grd_dec (fun _=> ?_) fun _=> ?_ | refine egrd_dec (fun _=> ?_) fun _=> ?_))
theorem bcopy_wp{K:CH}{p:Nat}{a b d r x:Value}(ha:OwnA p a)(hob:K.ob p= .cells [a,b,d,r,x] 46 .ex) :
 WpF TL 74 [.pointer (some ⟨p,0,none⟩)] K fun v K'=>∃a',OwnA p a'∧K'.ob p= .cells [a',b,d,r,x] 46 .ex∧(∀l,l≠p→K'.ob l=K.ob l)∧K'.nx=K.nx:=by
 rcases ha with rfl | rfl
 ·refine(copy_n hob).mono fun v K' e=> ?_
  subst e
  exact⟨_, .inr rfl,by simp[CH.set],fun l hl=>by simp[CH.set,hl],rfl⟩
 ·refine(copy_s hob).mono fun v K' e=> ?_
  subst e
  exact⟨_, .inr rfl,hob,fun l hl=>rfl,rfl⟩
def BufAt(K:CH)(p:Nat)(b:Value)(out:List UInt8):Prop:=(out= []∧b= .slice none 0 0)∨∃q,b= .slice (some ⟨q,0,none⟩) out.length out.length∧K.ob q= .cells (out.map fun c=> .int .u8 c.toNat) 5 .gr∧q≠p∧q<K.nx∧0<out.length
structure BdAt(K:CH)(p:Nat)(a b d r x:Value)(out:List UInt8):Prop where
 own:OwnA p a
 ob:K.ob p= .cells [a,b,d,r,x] 46 .ex
 buf:BufAt K p b out
 pl:p<K.nx
def NotRow(b:Value)(l:Nat):Prop:=∀o s n c,b≠ .slice (some ⟨l,o,s⟩) n c
structure WFr(p:Nat)(K:CH)(b:Value)(K':CH)(b':Value):Prop where
 nx:K.nx≤K'.nx
 ob : ∀l,l<K.nx→l≠p→NotRow b l→K'.ob l=K.ob l
 row : ∀l,l<K.nx→NotRow b l→NotRow b' l
theorem WFr.refl{p:Nat}{K:CH}{b:Value}:WFr p K b K b:=⟨Nat.le_refl _,fun _ _ _ _=>rfl,fun _ _ h=>h⟩
theorem WFr.trans{p:Nat}{K1 K2 K3:CH}{b1 b2 b3:Value}(h:WFr p K1 b1 K2 b2)(g:WFr p K2 b2 K3 b3):WFr p K1 b1 K3 b3:=
 ⟨Nat.le_trans h.nx g.nx,fun l h1 h2 h3=>(g.ob l (Nat.lt_of_lt_of_le h1 h.nx) h2 (h.row l h1 h3)).trans (h.ob l h1 h2 h3),fun l h1 h3=>g.row l (Nat.lt_of_lt_of_le h1 h.nx) (h.row l h1 h3)⟩
theorem app_bytes{K:CH}{p:Nat}{b:Value}{out s:List UInt8}(hb:BufAt K p b out)(hp:p<K.nx)(hl:out.length+s.length≤1000000) :
 ∃b' K',appV 5 1 1 b (s.map fun c=> .int .u8 c.toNat) s.length K=some (b',K')∧BufAt K' p b' (out++s)∧K'.ob p=K.ob p∧p<K'.nx∧WFr p K b K' b':=by
 have hc:(s.map fun c=>Value.int .u8 c.toNat).all isCell=true:=by simp[isCell]
 have hm:maxLen=9223372036854775807:=rfl
 cases s with
 | nil=>
   rcases hb with ⟨rfl,rfl⟩ | ⟨q,rfl,hq,h1,h2,h3⟩
   ·exact⟨_,K,by rw[appV_n];rfl, .inl ⟨rfl,rfl⟩,rfl,hp, .refl⟩
   ·refine⟨.slice (some ⟨q,0,none⟩) out.length out.length,K,?_, .inr ⟨q,by simp,by simpa using hq,h1,h2,by simpa using h3⟩,rfl,hp, .refl⟩
    rw[appV_r,hq,appR_c];rfl
 | cons c0 s=>
   rcases hb with ⟨rfl,rfl⟩ | ⟨q,rfl,hq,h1,h2,h3⟩
   ·refine⟨_,_,by rw[appV_n,if_neg (by simp),if_pos ⟨hc,by simp at hl⊢;omega,by rw[hm];simp at hl⊢;omega⟩], .inr ⟨K.nx,by simp,by simp[CH.new],by omega,by simp[CH.new],by simp⟩,by simp[CH.new,Nat.ne_of_lt hp],by simp[CH.new];omega,by simp[CH.new],fun l h1 h2 h3=>by simp[CH.new,Nat.ne_of_lt h1],fun l h1 h2 o s n c e=>by cases e;exact absurd h1 (Nat.lt_irrefl _)⟩
   ·have e0:appV 5 1 1 (.slice (some ⟨q,0,none⟩) out.length out.length) ((c0::s).map fun c=> .int .u8 c.toNat) (c0::s).length K=some (.slice (some ⟨K.nx,0,none⟩) (out.length+(c0::s).length) (out.length+(c0::s).length),(K.set q .dead).new (.cells ((out.map fun c=>Value.int .u8 c.toNat).take (out.length*1)++(c0::s).map fun c=> .int .u8 c.toNat) 5 .gr)):=by
     rw[appV_r,hq,appR_c,if_neg (by simp),if_pos ⟨rfl,rfl,rfl,by simp,hc,by omega,by rw[hm];omega⟩]
     rfl
    refine⟨_,_,e0, .inr ⟨K.nx,by simp,?_,by omega,by simp[CH.new,CH.set],by simp;omega⟩,?_,by simp[CH.new,CH.set];omega,by simp[CH.new,CH.set],fun l h4 h5 h6=> ?_,fun l h4 h5 o s n c e=>by cases e;exact absurd h4 (Nat.lt_irrefl _)⟩
    ·simp[CH.new,CH.set,List.take_of_length_le]
    ·simp[CH.new,CH.set,Nat.ne_of_lt hp,Ne.symm h1]
    ·have:l≠q:=fun e=>h6 _ _ _ _ (by rw[e])
     simp[CH.new,CH.set,Nat.ne_of_lt h4,this]
theorem BufAt.sl{K:CH}{p:Nat}{b:Value}{out:List UInt8}(h:BufAt K p b out) : ∃pa n c,b= .slice pa n c:=by
 rcases h with ⟨_,rfl⟩ | ⟨q,rfl,_⟩<;>exact⟨_,_,_,rfl⟩
theorem write_wp{K:CH}{p:Nat}{a b d r x:Value}{out:List UInt8}{s:List UInt8}(h:BdAt K p a b d r x out)(hl:out.length+s.length≤1000000) :
 WpF TL 52 [.pointer (some ⟨p,0,none⟩), .string ⟨⟨s⟩⟩] K fun v K'=>∃a' b',BdAt K' p a' b' d r x (out++s)∧WFr p K b K' b':=by
 refine wpF_rS (by rfl) (by kernel_rfl) ?_;(conv in (rF _ _).body=>reduce);(conv in (rF _ _).res=>reduce)
 repeat' (first | (simp (disch:=first | omega | (decide +kernel)) only[↓RD,RU,↓putF_get,↓evF_t,↓evF_c,getD_zero,pop,ρ0,ρ1,↓reduceIte,Int.reduceOfNat,reduceCtorEq]) | (with_reducible first | refine condK_dec (fun _=> ?_) fun _=> ?_ | refine grd_dec (fun _=> ?_) fun _=> ?_ | refine egrd_dec (fun _=> ?_) fun _=> ?_))
 refine(bcopy_wp h.own h.ob).mono fun v K1 ⟨a',ha',hob,ho,hnx⟩=> ?_
 have hb1:BufAt K1 p b out:=by
  rcases h.buf with h1 | ⟨q,h1,h2,h3,h4,h5⟩
  ·exact .inl h1
  ·exact .inr ⟨q,h1,by rw[ho q h3];exact h2,h3,by rw[hnx];exact h4,h5⟩
 have hp1:p<K1.nx:=by rw[hnx];exact h.pl
 obtain⟨b',K2,ea,hb2,ho2,hp2,hw⟩:=app_bytes (s:=s) hb1 hp1 hl
 rw[hob] at ho2
 obtain⟨pa,n,c,rfl⟩:=hb2.sl
 have esz:(⟨⟨s⟩⟩:ByteArray).size=s.length:=rfl
 repeat' (first | (simp (disch:=first | omega | (decide +kernel)) only[↓RD,RU,↓putF_get,↓putF_none,↓evF_t,↓evF_c,getD_zero,getD_succ,pop,lop,wop,resL,resV,isVal,isCell,Value.cells,↓reduceIte,Nat.reduceEqDiff,Nat.reduceAdd,reduceCtorEq,ρ5,ρ6,ρ7,ρ8,src_s,ρ17,ρ18,ρ19,ρ20,ρ22,ρ23,Kd.isRo,ρ25,ρ26,Nat.reduceLeDiff,appS_some,hob,esz,ea,ho2]) | (with_reducible first | refine condK_dec (fun _=> ?_) fun _=> ?_ | refine grd_dec (fun _=> ?_) fun _=> ?_ | refine egrd_dec (fun _=> ?_) fun _=> ?_))
 have hw1:WFr p K b K1 b:=⟨by rw[hnx];exact Nat.le_refl _,fun l _ h2 _=>ho l h2,fun _ _ h=>h⟩
 have hw2:=hw1.trans hw
 refine⟨a', .slice pa n c,⟨ha',by simp[CH.set],?_,hp2⟩,hw2.nx,fun l h1 h2 h3=>by simpa[CH.set,h2] using hw2.ob l h1 h2 h3,hw2.row⟩
 rcases hb2 with h1 | ⟨q,h1,h2,h3,h4,h5⟩
 ·exact .inl h1
 ·exact .inr ⟨q,h1,by simpa[CH.set,h3] using h2,h3,h4,h5⟩
theorem ust_nil{e:TypeId}{H:CH}:ustV e H (.pointer none) (.int .i64 ((0:Nat):Int))=some (.string ⟨⟨[]⟩⟩,H):=rfl
theorem byteList2_bytes : ∀l:List UInt8,byteList2 (l.map fun c=> .int .u8 c.toNat)=some l
 | []=>rfl
 | c::l=>by
   have h1:(c.toNat:Int)<256:=by have:=UInt8.toNat_lt c;omega
   have h2:UInt8.ofNat c.toNat=c:=by simp
   simp[byteList2,byteList2_bytes l,h1,h2]
end Can
end Go.Proofs.YtdfgkcoenagaaaaGreat
end
section
namespace Go.Proofs.YtdfgkcoenagaaaaGreat
namespace Can
set_option linter.unusedSimpArgs false
set_option linter.unusedVariables false
structure PSt where
 out:List UInt8
 deep:Int
 w:Nat
 bad:Bool
 h:out.length≤w
def PSt.sb(st:PSt):PSt:=⟨st.out,st.deep,st.w,true,st.h⟩
def PSt.dp(st:PSt)(d:Int):PSt:=⟨st.out,d,st.w,st.bad,st.h⟩
def PSt.lose(st:PSt):PSt:=⟨st.out,st.deep,st.w+9223372036854775808,st.bad,Nat.le_add_right_of_le st.h⟩
def putL:List (List UInt8)→PSt→PSt
 | [],st=>st
 | s::r,st=>if 20000<st.w+s.length then ⟨st.out,st.deep,st.w+s.length,true,Nat.le_add_right_of_le st.h⟩
   else putL r ⟨st.out++s,st.deep,st.w+s.length,st.bad,by rw[List.length_append];exact Nat.add_le_add_right st.h _⟩
def cntN (ks:List Nd)(most least:Nat)(st:PSt):PSt:=if st.bad=true then st else if ks.length<least then st.sb else if most<ks.length then st.sb else st
def lvN (n:Nd):Nat:=if n.kind=49∨n.kind=50 then 0 else if n.kind=40 then 1 else if n.kind=39 then 2 else if n.kind=41 then 3 else if n.kind=42 then 4 else if n.kind=38 then 7
 else if n.kind=37 then (if n.op=7 then 8 else if n.op=1∨n.op=2 then 5 else 6) else if n.kind=44∨n.kind=45∨n.kind=46∨n.kind=47 then 9 else 10
def signL:List (List UInt8):= [[43],[45],[42],[47],[47,47],[37],[42,42]]
def linkL:List (List UInt8):= [[61,61],[33,61],[60],[60,61],[62],[62,61],[105,110],[110,111,116,32,105,110],[105,115],[105,115,32,110,111,116]]
def opN (l:List (List UInt8))(o:Nat):List UInt8:=match o with
 | 0=> [63]
 | o+1=>l.getD o [63]
abbrev t_sp:List UInt8:= [32]
abbrev t_cs:List UInt8:= [44,32]
abbrev t_lp:List UInt8:= [40]
abbrev t_rp:List UInt8:= [41]
abbrev t_nl:List UInt8:= [10]
abbrev t_cn:List UInt8:= [58,10]
abbrev t_cl:List UInt8:= [58,32]
abbrev t_qt:List UInt8:= [34]
abbrev t_if:List UInt8:= [32,105,102,32]
abbrev t_for:List UInt8:= [32,102,111,114,32]
abbrev t_in:List UInt8:= [32,105,110,32]
abbrev t_else:List UInt8:= [32,101,108,115,101,32]
abbrev t_as:List UInt8:= [32,97,115,32]
abbrev t_asg:List UInt8:= [32,61,32]
def digL:List UInt8:= [48,49,50,51,52,53,54,55,56,57,97,98,99,100,101,102]
def quo1 (c:UInt8):List (List UInt8):=if c=10 then [[92,110]] else if c=9 then [[92,116]] else if c=34∨c=92 then [[92],[c]]
 else if c.toNat<32 then [[92,120],[digL.getD (c.toNat / 16) 0],[digL.getD (c.toNat % 16) 0]] else [[c]]
def quoL:List UInt8→PSt→PSt
 | [],st=>st
 | c::r,st=>if st.bad=true then st else quoL r (putL (quo1 c) st)
def quoS (s:List UInt8)(st:PSt):PSt:=putL [t_qt] (quoL s (putL [t_qt] st))
def padL:Nat→PSt→PSt
 | 0,st=>st
 | n+1,st=>padL n (putL [[32,32,32,32]] st)
def padS (s:List UInt8)(st:PSt):PSt:=putL [s] (padL st.deep.toNat st)
inductive SR where
 | at (n:Nd) (a:Nat) | expr (n:Nd) | rowL (b:Bool) (l:List Nd) | two (n:Nd) (l:Nat) (s:List UInt8) (r:Nat)
 | clauses (l:List Nd) | pairs (b:Bool) (l:List Nd) | shown (n:Nd) | based (n:Nd) | joined (n:Nd) | links (l:List Nd)
 | maybe (s:List UInt8) (n:Nd) | block (n:Nd) | blockL (l:List Nd) | ifs (s:List UInt8) (n:Nd) | tries (n:Nd) | hands (l:List Nd)
 | stmt (n:Nd) | head (n:Nd) | asg (b:Bool) (l:List Nd) | simple (n:Nd)
def okS (st:PSt)(k:PSt→PSt):PSt:=if st.bad=true then st else k st
def pe:Nat→SR→PSt→PSt
 | 0,_,st=>st.lose
 | f+1, .at n a,st=>if lvN n<a then putL [t_rp] (pe f (.expr n) (putL [t_lp] st)) else pe f (.expr n) st
 | f+1, .rowL b [],st=>st
 | f+1, .rowL b (n::l),st=>pe f (.rowL true l) (pe f (.at n 0) (if b=true then putL [t_cs] st else st))
 | f+1, .two n l s r,st=>okS (cntN n.kids 2 2 st) fun st=>match n.kids with
   | a::b::_=>pe f (.at b r) (putL [t_sp,s,t_sp] (pe f (.at a l) st))
   | _=>st
 | f+1, .clauses [],st=>st
 | f+1, .clauses (c::l),st=>pe f (.clauses l) (if c.kind=59 then okS (cntN c.kids 1 1 st) fun st=>match c.kids with
    | a::_=>pe f (.at a 1) (putL [t_if] st)
    | _=>st
   else okS (cntN c.kids 2 2 st) fun st=>match c.kids with
    | a::b::_=>pe f (.at b 1) (putL [t_in] (pe f (.at a 9) (putL [t_for] st)))
    | _=>st)
 | f+1, .pairs b [],st=>st
 | f+1, .pairs b [_],st=>st.sb
 | f+1, .pairs b (n::m::l),st=>pe f (.pairs true l) (pe f (.at m 0) (putL [t_cl] (pe f (.at n 0) (if b=true then putL [t_cs] st else st))))
 | f+1, .shown n,st=>putL [if n.kind=51∨n.kind=55 then [93] else if n.kind=52 then (if n.kids.length=1 then [44,41] else [41]) else [125]]
    (if n.kind=51∨n.kind=52∨n.kind=53 then pe f (.rowL false n.kids) (putL [if n.kind=51 then [91] else if n.kind=52 then [40] else [123]] st)
    else if n.kind=54 then pe f (.pairs false n.kids) (putL [[123]] st)
    else if n.kind=57 then okS (cntN n.kids 1048576 3 (putL [[123]] st)) fun st=>match n.kids with
     | a::b::l=>pe f (.clauses l) (pe f (.pairs false [a,b]) st)
     | _=>st
    else okS (cntN n.kids 1048576 2 (putL [if n.kind=55 then [91] else [123]] st)) fun st=>match n.kids with
     | a::l=>pe f (.clauses l) (pe f (.at a 0) st)
     | _=>st)
 | f+1, .based n,st=>okS (cntN n.kids 1048576 1 st) fun st=>match n.kids with
   | []=>st
   | a::l=>let st:=if n.kind=45∧(a.kind=30∨a.kind=31) then putL [t_lp,a.text,t_rp] st else pe f (.at a 9) st
     if n.kind=44 then putL [t_rp] (pe f (.rowL false l) (putL [t_lp] st))
     else if n.kind=45 then putL [[46],n.text] st
     else if n.kind=46 then okS (cntN n.kids 2 2 st) fun st=>match l with
      | b::_=>putL [[93]] (pe f (.at b 0) (putL [[91]] st))
      | _=>st
     else if n.kind=47 then okS (cntN n.kids 3 3 st) fun st=>match l with
      | b::c::_=>putL [[93]] (pe f (.at c 0) (putL [[58]] (pe f (.at b 0) (putL [[91]] st))))
      | _=>st
     else st
 | f+1, .expr n,st=>if n.kind=30∨n.kind=31∨n.kind=36 then putL [n.text] st
    else if n.kind=32 then quoS n.text st
    else if n.kind=33 then putL [[78,111,110,101]] st
    else if n.kind=34 then putL [[84,114,117,101]] st
    else if n.kind=35 then putL [[70,97,108,115,101]] st
    else if n.kind=48 then st
    else if n.kind=60 then pe f (.maybe [121,105,101,108,100] n) st
    else if n.kind=44∨n.kind=45∨n.kind=46∨n.kind=47 then pe f (.based n) st
    else if n.kind=51∨n.kind=52∨n.kind=53∨n.kind=54∨n.kind=55∨n.kind=56∨n.kind=57 then pe f (.shown n) st
    else pe f (.joined n) st
 | f+1, .links [],st=>st
 | f+1, .links (k::l),st=>pe f (.links l) (okS (cntN k.kids 1 1 (putL [t_sp,opN linkL k.op,t_sp] st)) fun st=>match k.kids with
   | a::_=>pe f (.at a 5) st
   | _=>st)
 | f+1, .joined n,st=>if n.kind=37 then (if n.op=7 then pe f (.two n 9 [42,42] 7) st else pe f (.two n (lvN n) (opN signL n.op) (lvN n+1)) st)
    else if n.kind=38 then okS (cntN n.kids 1 1 st) fun st=>match n.kids with
     | a::_=>pe f (.at a 7) (putL [if n.op=1 then [45] else [43]] st)
     | _=>st
    else if n.kind=41 then okS (cntN n.kids 1 1 st) fun st=>match n.kids with
     | a::_=>pe f (.at a 3) (putL [[110,111,116,32]] st)
     | _=>st
    else if n.kind=39 then pe f (.two n 2 [97,110,100] 3) st
    else if n.kind=40 then pe f (.two n 1 [111,114] 2) st
    else if n.kind=42 then okS (cntN n.kids 1048576 2 st) fun st=>match n.kids with
     | a::l=>pe f (.links l) (pe f (.at a 5) st)
     | _=>st
    else if n.kind=49 then okS (cntN n.kids 3 3 st) fun st=>match n.kids with
     | c::a::b::_=>pe f (.at b 0) (putL [t_else] (pe f (.at c 1) (putL [t_if] (pe f (.at a 1) st))))
     | _=>st
    else if n.kind=50 then okS (cntN n.kids 2 2 st) fun st=>match n.kids with
     | p::e::_=>pe f (.at e 0) (putL [t_cl] (pe f (.rowL false p.kids) (if 0<p.kids.length then putL [t_sp] (putL [[108,97,109,98,100,97]] st) else putL [[108,97,109,98,100,97]] st)))
     | _=>st
    else st.sb
 | f+1, .maybe s n,st=>match n.kids with
   | []=>putL [s] st
   | a::_=>pe f (.at a 0) (putL [t_sp] (putL [s] st))
 | f+1, .block n,st=>let st:=putL [t_cn] st
   let st:=pe f (.blockL n.kids) (st.dp (Go.IntKind.wrap .i64 (st.deep+1)))
   st.dp (Go.IntKind.wrap .i64 (st.deep-1))
 | f+1, .blockL [],st=>st
 | f+1, .blockL (k::l),st=>if st.bad=true then st else pe f (.blockL l) (pe f (.stmt k) st)
 | f+1, .ifs s n,st=>okS (cntN n.kids 3 2 st) fun st=>match n.kids with
   | c::b::l=>let st:=pe f (.block b) (pe f (.at c 0) (padS s st))
     match l with
     | []=>st
     | e::_=>match e.kids with
       | [x]=>if x.kind=5 then pe f (.ifs [101,108,105,102,32] x) st else pe f (.block e) (padS [101,108,115,101] st)
       | _=>pe f (.block e) (padS [101,108,115,101] st)
   | _=>st
 | f+1, .hands [],st=>st
 | f+1, .hands (h::l),st=>okS (cntN h.kids 2 1 st) fun st=>
    let st:=if h.kind=22 then padS [102,105,110,97,108,108,121] st else
     let st:=padS [101,120,99,101,112,116] st
     let st:=match h.kids with
      | [a,_]=>pe f (.at a 0) (putL [t_sp] st)
      | _=>st
     if h.text= [] then st else putL [t_as,h.text] st
    match h.kids.getLast? with
    | some b=>pe f (.hands l) (pe f (.block b) st)
    | none=>st
 | f+1, .tries n,st=>okS (cntN n.kids 1048576 2 st) fun st=>match n.kids with
   | b::l=>pe f (.hands l) (pe f (.block b) (padS [116,114,121] st))
   | _=>st
 | f+1, .stmt n,st=>if n.kind=5 then pe f (.ifs [105,102,32] n) st else if n.kind=15 then pe f (.tries n) st
    else if n.kind=6∨n.kind=7∨n.kind=8∨n.kind=9∨n.kind=16 then pe f (.head n) st
    else putL [t_nl] (pe f (.simple n) (padS [] st))
 | f+1, .head n,st=>okS (cntN n.kids 3 2 st) fun st=>match n.kids with
   | a::b::l=>let st:=if n.kind=6 then pe f (.at a 0) (padS [119,104,105,108,101,32] st)
      else if n.kind=7 then pe f (.at b 0) (putL [t_in] (pe f (.at a 9) (padS [102,111,114,32] st)))
      else if n.kind=8 then putL [t_rp] (pe f (.rowL false a.kids) (putL [n.text,t_lp] (padS [100,101,102,32] st)))
      else if n.kind=9 then
       let st:=putL [n.text] (padS [99,108,97,115,115,32] st)
       if 0<a.kids.length then putL [t_rp] (pe f (.rowL false a.kids) (putL [t_lp] st)) else st
      else if n.kind=16 then
       let st:=pe f (.at a 0) (padS [119,105,116,104,32] st)
       if n.text= [] then st else putL [t_as,n.text] st
      else st
     match l with
     | []=>pe f (.block b) st
     | c::_=>pe f (.block c) st
   | _=>st
 | f+1, .asg b [],st=>st
 | f+1, .asg b (n::l),st=>pe f (.asg true l) (pe f (.at n 0) (if b=true then putL [t_asg] st else st))
 | f+1, .simple n,st=>if n.kind=2 then pe f (.rowL false n.kids) st
    else if n.kind=3 then pe f (.asg false n.kids) st
    else if n.kind=4 then pe f (.two n 0 (opN signL n.op++ [61]) 0) st
    else if n.kind=10 then pe f (.maybe [114,101,116,117,114,110] n) st
    else if n.kind=14 then pe f (.maybe [114,97,105,115,101] n) st
    else if n.kind=11 then putL [[112,97,115,115]] st
    else if n.kind=12 then putL [[98,114,101,97,107]] st
    else if n.kind=13 then putL [[99,111,110,116,105,110,117,101]] st
    else if n.kind=17 then pe f (.rowL false n.kids) (putL [[103,108,111,98,97,108,32]] st)
    else if n.kind=18 then pe f (.rowL false n.kids) (putL [[110,111,110,108,111,99,97,108,32]] st)
    else if n.kind=20 then pe f (.maybe [97,115,115,101,114,116] n) st
    else if n.kind=19 then okS (cntN n.kids 1 1 st) fun st=>match n.kids with
     | a::_=>pe f (.at a 9) (putL [[100,101,108,32]] st)
     | _=>st
    else st.sb
def highN:Nat→Nd→Bool
 | 0,_=>true
 | f+1,n=>n.kids.any (highN f)
end Can
end Go.Proofs.YtdfgkcoenagaaaaGreat
end
section
namespace Go.Proofs.YtdfgkcoenagaaaaGreat
namespace Can
set_option linter.unusedSimpArgs false
set_option linter.unusedVariables false
theorem putL_wm : ∀(ss:List (List UInt8)) (st:PSt),st.w≤(putL ss st).w
 | [],st=>Nat.le_refl _
 | s::r,st=>by
   simp only[putL]
   split
   ·exact Nat.le_add_right _ _
   ·refine Nat.le_trans ?_ (putL_wm r _)
    exact Nat.le_add_right _ _
theorem putL_cons(s:List UInt8)(r:List (List UInt8))(st:PSt):st.w+s.length≤(putL (s::r) st).w:=by
 simp only[putL]
 split
 ·exact Nat.le_refl _
 ·refine Nat.le_trans ?_ (putL_wm r _)
  exact Nat.le_refl _
theorem putL_deep : ∀(ss:List (List UInt8)) (st:PSt),(putL ss st).deep=st.deep
 | [],st=>by simp[putL]
 | s::r,st=>by
   simp only[putL]
   split
   ·rfl
   ·rw[putL_deep r]
theorem putL_one(s:List UInt8)(st:PSt):(putL [s] st).w=st.w+s.length:=by
 simp only[putL]
 split<;>rfl
theorem okS_wm{st:PSt}{k:PSt→PSt}(h : ∀s:PSt,s.w≤(k s).w):st.w≤(okS st k).w:=by
 unfold okS
 split
 ·exact Nat.le_refl _
 ·exact h st
theorem cntN_wm{ks:List Nd}{a b:Nat}{st:PSt}:(cntN ks a b st).w=st.w:=by
 unfold cntN
 split
 ·rfl
 ·split
  ·rfl
  ·split<;>rfl
theorem cnt_wm(ks:List Nd)(a b:Nat)(st:PSt):st.w≤(cntN ks a b st).w:=by rw[cntN_wm];exact Nat.le_refl _
theorem ite_wm{c:Prop}[Decidable c]{st A B:PSt}(h:c→st.w≤A.w)(g : ¬c→st.w≤B.w):st.w≤(if c then A else B).w:=by
 split
 ·exact h ‹_›
 ·exact g ‹_›
theorem quoL_wm : ∀(s:List UInt8) (st:PSt),st.w≤(quoL s st).w
 | [],st=>Nat.le_refl _
 | c::r,st=>by
   simp only[quoL]
   split
   ·exact Nat.le_refl _
   ·exact Nat.le_trans (putL_wm _ _) (quoL_wm r _)
theorem quoS_wm(s:List UInt8)(st:PSt):st.w≤(quoS s st).w:=Nat.le_trans (putL_wm _ _) (Nat.le_trans (quoL_wm _ _) (putL_wm _ _))
theorem padL_w : ∀(n:Nat) (st:PSt),(padL n st).w=st.w+n*4
 | 0,st=>rfl
 | n+1,st=>by
   simp only[padL]
   rw[padL_w n,putL_one]
   show st.w+4+n*4=_
   omega
theorem padS_w(s:List UInt8)(st:PSt):(padS s st).w=st.w+st.deep.toNat*4+s.length:=by
 unfold padS
 rw[putL_one,padL_w]
theorem padS_wm(s:List UInt8)(st:PSt):st.w≤(padS s st).w:=by rw[padS_w];omega
theorem sb_wm(st:PSt):st.w≤st.sb.w:=Nat.le_refl _
theorem dp_wm(st:PSt)(d:Int):st.w≤(st.dp d).w:=Nat.le_refl _
attribute [local irreducible] PSt.sb PSt.dp padS quoS putL padL quoL cntN okS
section
variable {f:Nat} (ih : ∀(r:SR) (st:PSt),st.w≤(pe f r st).w) (st:PSt)
include ih in
theorem wm_at(n:Nd)(a:Nat):st.w≤(pe (f+1) (.at n a) st).w:=by
 simp only[pe]
 (repeat' (with_reducible first | exact Nat.le_refl _ | refine Nat.le_trans ?_ (ih _ _) | refine Nat.le_trans ?_ (putL_wm _ _) | refine Nat.le_trans ?_ (padS_wm _ _) | refine Nat.le_trans ?_ (quoS_wm _ _) | refine Nat.le_trans ?_ (sb_wm _) | refine Nat.le_trans ?_ (dp_wm _ _) | refine Nat.le_trans ?_ (cnt_wm _ _ _ _) | refine Nat.le_trans ?_ (okS_wm ?_) | refine ite_wm (fun _=> ?_) (fun _=> ?_) | intro _ | split))
include ih in
theorem wm_expr(n:Nd):st.w≤(pe (f+1) (.expr n) st).w:=by
 simp only[pe]
 (repeat' (with_reducible first | exact Nat.le_refl _ | refine Nat.le_trans ?_ (ih _ _) | refine Nat.le_trans ?_ (putL_wm _ _) | refine Nat.le_trans ?_ (padS_wm _ _) | refine Nat.le_trans ?_ (quoS_wm _ _) | refine Nat.le_trans ?_ (sb_wm _) | refine Nat.le_trans ?_ (dp_wm _ _) | refine Nat.le_trans ?_ (cnt_wm _ _ _ _) | refine Nat.le_trans ?_ (okS_wm ?_) | refine ite_wm (fun _=> ?_) (fun _=> ?_) | intro _ | split))
include ih in
theorem wm_two(n:Nd)(l:Nat)(s:List UInt8)(r:Nat):st.w≤(pe (f+1) (.two n l s r) st).w:=by
 simp only[pe]
 (repeat' (with_reducible first | exact Nat.le_refl _ | refine Nat.le_trans ?_ (ih _ _) | refine Nat.le_trans ?_ (putL_wm _ _) | refine Nat.le_trans ?_ (padS_wm _ _) | refine Nat.le_trans ?_ (quoS_wm _ _) | refine Nat.le_trans ?_ (sb_wm _) | refine Nat.le_trans ?_ (dp_wm _ _) | refine Nat.le_trans ?_ (cnt_wm _ _ _ _) | refine Nat.le_trans ?_ (okS_wm ?_) | refine ite_wm (fun _=> ?_) (fun _=> ?_) | intro _ | split))
include ih in
theorem wm_shown(n:Nd):st.w≤(pe (f+1) (.shown n) st).w:=by
 simp only[pe]
 (repeat' (with_reducible first | exact Nat.le_refl _ | refine Nat.le_trans ?_ (ih _ _) | refine Nat.le_trans ?_ (putL_wm _ _) | refine Nat.le_trans ?_ (padS_wm _ _) | refine Nat.le_trans ?_ (quoS_wm _ _) | refine Nat.le_trans ?_ (sb_wm _) | refine Nat.le_trans ?_ (dp_wm _ _) | refine Nat.le_trans ?_ (cnt_wm _ _ _ _) | refine Nat.le_trans ?_ (okS_wm ?_) | refine ite_wm (fun _=> ?_) (fun _=> ?_) | intro _ | split))
include ih in
theorem wm_based(n:Nd):st.w≤(pe (f+1) (.based n) st).w:=by
 simp only[pe]
 (repeat' (with_reducible first | exact Nat.le_refl _ | refine Nat.le_trans ?_ (ih _ _) | refine Nat.le_trans ?_ (putL_wm _ _) | refine Nat.le_trans ?_ (padS_wm _ _) | refine Nat.le_trans ?_ (quoS_wm _ _) | refine Nat.le_trans ?_ (sb_wm _) | refine Nat.le_trans ?_ (dp_wm _ _) | refine Nat.le_trans ?_ (cnt_wm _ _ _ _) | refine Nat.le_trans ?_ (okS_wm ?_) | refine ite_wm (fun _=> ?_) (fun _=> ?_) | intro _ | split))
include ih in
theorem wm_joined(n:Nd):st.w≤(pe (f+1) (.joined n) st).w:=by
 simp only[pe]
 (repeat' (with_reducible first | exact Nat.le_refl _ | refine Nat.le_trans ?_ (ih _ _) | refine Nat.le_trans ?_ (putL_wm _ _) | refine Nat.le_trans ?_ (padS_wm _ _) | refine Nat.le_trans ?_ (quoS_wm _ _) | refine Nat.le_trans ?_ (sb_wm _) | refine Nat.le_trans ?_ (dp_wm _ _) | refine Nat.le_trans ?_ (cnt_wm _ _ _ _) | refine Nat.le_trans ?_ (okS_wm ?_) | refine ite_wm (fun _=> ?_) (fun _=> ?_) | intro _ | split))
include ih in
theorem wm_maybe(s:List UInt8)(n:Nd):st.w≤(pe (f+1) (.maybe s n) st).w:=by
 simp only[pe]
 (repeat' (with_reducible first | exact Nat.le_refl _ | refine Nat.le_trans ?_ (ih _ _) | refine Nat.le_trans ?_ (putL_wm _ _) | refine Nat.le_trans ?_ (padS_wm _ _) | refine Nat.le_trans ?_ (quoS_wm _ _) | refine Nat.le_trans ?_ (sb_wm _) | refine Nat.le_trans ?_ (dp_wm _ _) | refine Nat.le_trans ?_ (cnt_wm _ _ _ _) | refine Nat.le_trans ?_ (okS_wm ?_) | refine ite_wm (fun _=> ?_) (fun _=> ?_) | intro _ | split))
include ih in
theorem wm_block(n:Nd):st.w≤(pe (f+1) (.block n) st).w:=by
 simp only[pe]
 (repeat' (with_reducible first | exact Nat.le_refl _ | refine Nat.le_trans ?_ (ih _ _) | refine Nat.le_trans ?_ (putL_wm _ _) | refine Nat.le_trans ?_ (padS_wm _ _) | refine Nat.le_trans ?_ (quoS_wm _ _) | refine Nat.le_trans ?_ (sb_wm _) | refine Nat.le_trans ?_ (dp_wm _ _) | refine Nat.le_trans ?_ (cnt_wm _ _ _ _) | refine Nat.le_trans ?_ (okS_wm ?_) | refine ite_wm (fun _=> ?_) (fun _=> ?_) | intro _ | split))
include ih in
theorem wm_ifs(s:List UInt8)(n:Nd):st.w≤(pe (f+1) (.ifs s n) st).w:=by
 simp only[pe]
 (repeat' (with_reducible first | exact Nat.le_refl _ | refine Nat.le_trans ?_ (ih _ _) | refine Nat.le_trans ?_ (putL_wm _ _) | refine Nat.le_trans ?_ (padS_wm _ _) | refine Nat.le_trans ?_ (quoS_wm _ _) | refine Nat.le_trans ?_ (sb_wm _) | refine Nat.le_trans ?_ (dp_wm _ _) | refine Nat.le_trans ?_ (cnt_wm _ _ _ _) | refine Nat.le_trans ?_ (okS_wm ?_) | refine ite_wm (fun _=> ?_) (fun _=> ?_) | intro _ | split))
include ih in
theorem wm_tries(n:Nd):st.w≤(pe (f+1) (.tries n) st).w:=by
 simp only[pe]
 (repeat' (with_reducible first | exact Nat.le_refl _ | refine Nat.le_trans ?_ (ih _ _) | refine Nat.le_trans ?_ (putL_wm _ _) | refine Nat.le_trans ?_ (padS_wm _ _) | refine Nat.le_trans ?_ (quoS_wm _ _) | refine Nat.le_trans ?_ (sb_wm _) | refine Nat.le_trans ?_ (dp_wm _ _) | refine Nat.le_trans ?_ (cnt_wm _ _ _ _) | refine Nat.le_trans ?_ (okS_wm ?_) | refine ite_wm (fun _=> ?_) (fun _=> ?_) | intro _ | split))
include ih in
theorem wm_stmt(n:Nd):st.w≤(pe (f+1) (.stmt n) st).w:=by
 simp only[pe]
 (repeat' (with_reducible first | exact Nat.le_refl _ | refine Nat.le_trans ?_ (ih _ _) | refine Nat.le_trans ?_ (putL_wm _ _) | refine Nat.le_trans ?_ (padS_wm _ _) | refine Nat.le_trans ?_ (quoS_wm _ _) | refine Nat.le_trans ?_ (sb_wm _) | refine Nat.le_trans ?_ (dp_wm _ _) | refine Nat.le_trans ?_ (cnt_wm _ _ _ _) | refine Nat.le_trans ?_ (okS_wm ?_) | refine ite_wm (fun _=> ?_) (fun _=> ?_) | intro _ | split))
include ih in
theorem wm_head(n:Nd):st.w≤(pe (f+1) (.head n) st).w:=by
 simp only[pe]
 (repeat' (with_reducible first | exact Nat.le_refl _ | refine Nat.le_trans ?_ (ih _ _) | refine Nat.le_trans ?_ (putL_wm _ _) | refine Nat.le_trans ?_ (padS_wm _ _) | refine Nat.le_trans ?_ (quoS_wm _ _) | refine Nat.le_trans ?_ (sb_wm _) | refine Nat.le_trans ?_ (dp_wm _ _) | refine Nat.le_trans ?_ (cnt_wm _ _ _ _) | refine Nat.le_trans ?_ (okS_wm ?_) | refine ite_wm (fun _=> ?_) (fun _=> ?_) | intro _ | split))
include ih in
theorem wm_simple(n:Nd):st.w≤(pe (f+1) (.simple n) st).w:=by
 simp only[pe]
 (repeat' (with_reducible first | exact Nat.le_refl _ | refine Nat.le_trans ?_ (ih _ _) | refine Nat.le_trans ?_ (putL_wm _ _) | refine Nat.le_trans ?_ (padS_wm _ _) | refine Nat.le_trans ?_ (quoS_wm _ _) | refine Nat.le_trans ?_ (sb_wm _) | refine Nat.le_trans ?_ (dp_wm _ _) | refine Nat.le_trans ?_ (cnt_wm _ _ _ _) | refine Nat.le_trans ?_ (okS_wm ?_) | refine ite_wm (fun _=> ?_) (fun _=> ?_) | intro _ | split))
include ih in
theorem wm_rowL(b:Bool)(l:List Nd):st.w≤(pe (f+1) (.rowL b l) st).w:=by
 cases l<;>(simp only[pe];(repeat' (with_reducible first | exact Nat.le_refl _ | refine Nat.le_trans ?_ (ih _ _) | refine Nat.le_trans ?_ (putL_wm _ _) | refine Nat.le_trans ?_ (padS_wm _ _) | refine Nat.le_trans ?_ (quoS_wm _ _) | refine Nat.le_trans ?_ (sb_wm _) | refine Nat.le_trans ?_ (dp_wm _ _) | refine Nat.le_trans ?_ (cnt_wm _ _ _ _) | refine Nat.le_trans ?_ (okS_wm ?_) | refine ite_wm (fun _=> ?_) (fun _=> ?_) | intro _ | split)))
include ih in
theorem wm_clauses(l:List Nd):st.w≤(pe (f+1) (.clauses l) st).w:=by
 cases l<;>(simp only[pe];(repeat' (with_reducible first | exact Nat.le_refl _ | refine Nat.le_trans ?_ (ih _ _) | refine Nat.le_trans ?_ (putL_wm _ _) | refine Nat.le_trans ?_ (padS_wm _ _) | refine Nat.le_trans ?_ (quoS_wm _ _) | refine Nat.le_trans ?_ (sb_wm _) | refine Nat.le_trans ?_ (dp_wm _ _) | refine Nat.le_trans ?_ (cnt_wm _ _ _ _) | refine Nat.le_trans ?_ (okS_wm ?_) | refine ite_wm (fun _=> ?_) (fun _=> ?_) | intro _ | split)))
include ih in
theorem wm_links(l:List Nd):st.w≤(pe (f+1) (.links l) st).w:=by
 cases l<;>(simp only[pe];(repeat' (with_reducible first | exact Nat.le_refl _ | refine Nat.le_trans ?_ (ih _ _) | refine Nat.le_trans ?_ (putL_wm _ _) | refine Nat.le_trans ?_ (padS_wm _ _) | refine Nat.le_trans ?_ (quoS_wm _ _) | refine Nat.le_trans ?_ (sb_wm _) | refine Nat.le_trans ?_ (dp_wm _ _) | refine Nat.le_trans ?_ (cnt_wm _ _ _ _) | refine Nat.le_trans ?_ (okS_wm ?_) | refine ite_wm (fun _=> ?_) (fun _=> ?_) | intro _ | split)))
include ih in
theorem wm_blockL(l:List Nd):st.w≤(pe (f+1) (.blockL l) st).w:=by
 cases l<;>(simp only[pe];(repeat' (with_reducible first | exact Nat.le_refl _ | refine Nat.le_trans ?_ (ih _ _) | refine Nat.le_trans ?_ (putL_wm _ _) | refine Nat.le_trans ?_ (padS_wm _ _) | refine Nat.le_trans ?_ (quoS_wm _ _) | refine Nat.le_trans ?_ (sb_wm _) | refine Nat.le_trans ?_ (dp_wm _ _) | refine Nat.le_trans ?_ (cnt_wm _ _ _ _) | refine Nat.le_trans ?_ (okS_wm ?_) | refine ite_wm (fun _=> ?_) (fun _=> ?_) | intro _ | split)))
include ih in
theorem wm_hands(l:List Nd):st.w≤(pe (f+1) (.hands l) st).w:=by
 cases l<;>(simp only[pe];(repeat' (with_reducible first | exact Nat.le_refl _ | refine Nat.le_trans ?_ (ih _ _) | refine Nat.le_trans ?_ (putL_wm _ _) | refine Nat.le_trans ?_ (padS_wm _ _) | refine Nat.le_trans ?_ (quoS_wm _ _) | refine Nat.le_trans ?_ (sb_wm _) | refine Nat.le_trans ?_ (dp_wm _ _) | refine Nat.le_trans ?_ (cnt_wm _ _ _ _) | refine Nat.le_trans ?_ (okS_wm ?_) | refine ite_wm (fun _=> ?_) (fun _=> ?_) | intro _ | split)))
include ih in
theorem wm_asg(b:Bool)(l:List Nd):st.w≤(pe (f+1) (.asg b l) st).w:=by
 cases l<;>(simp only[pe];(repeat' (with_reducible first | exact Nat.le_refl _ | refine Nat.le_trans ?_ (ih _ _) | refine Nat.le_trans ?_ (putL_wm _ _) | refine Nat.le_trans ?_ (padS_wm _ _) | refine Nat.le_trans ?_ (quoS_wm _ _) | refine Nat.le_trans ?_ (sb_wm _) | refine Nat.le_trans ?_ (dp_wm _ _) | refine Nat.le_trans ?_ (cnt_wm _ _ _ _) | refine Nat.le_trans ?_ (okS_wm ?_) | refine ite_wm (fun _=> ?_) (fun _=> ?_) | intro _ | split)))
include ih in
theorem wm_pairs(b:Bool)(l:List Nd):st.w≤(pe (f+1) (.pairs b l) st).w:=by
 rcases l with _ | ⟨n,_ | ⟨m,l⟩⟩<;>(simp only[pe];(repeat' (with_reducible first | exact Nat.le_refl _ | refine Nat.le_trans ?_ (ih _ _) | refine Nat.le_trans ?_ (putL_wm _ _) | refine Nat.le_trans ?_ (padS_wm _ _) | refine Nat.le_trans ?_ (quoS_wm _ _) | refine Nat.le_trans ?_ (sb_wm _) | refine Nat.le_trans ?_ (dp_wm _ _) | refine Nat.le_trans ?_ (cnt_wm _ _ _ _) | refine Nat.le_trans ?_ (okS_wm ?_) | refine ite_wm (fun _=> ?_) (fun _=> ?_) | intro _ | split)))
end
theorem pe_wm : ∀(f:Nat) (r:SR) (st:PSt),st.w≤(pe f r st).w:=by
 intro f
 induction f with
 | zero=>intro r st;exact Nat.le_add_right _ _
 | succ f ih=>
   intro r st
   cases r
   case «at» n a=>exact wm_at ih st n a
   case expr n=>exact wm_expr ih st n
   case two n l s r=>exact wm_two ih st n l s r
   case shown n=>exact wm_shown ih st n
   case based n=>exact wm_based ih st n
   case joined n=>exact wm_joined ih st n
   case maybe s n=>exact wm_maybe ih st s n
   case block n=>exact wm_block ih st n
   case ifs s n=>exact wm_ifs ih st s n
   case tries n=>exact wm_tries ih st n
   case stmt n=>exact wm_stmt ih st n
   case head n=>exact wm_head ih st n
   case simple n=>exact wm_simple ih st n
   case rowL b l=>exact wm_rowL ih st b l
   case clauses l=>exact wm_clauses ih st l
   case links l=>exact wm_links ih st l
   case blockL l=>exact wm_blockL ih st l
   case hands l=>exact wm_hands ih st l
   case asg b l=>exact wm_asg ih st b l
   case pairs b l=>exact wm_pairs ih st b l
theorem mo{a b c:Nat}(hm:b≤c)(h:a≤b:=by(repeat' (with_reducible first | exact Nat.le_refl _ | refine Nat.le_trans ?_ ((pe_wm _) _ _) | refine Nat.le_trans ?_ (putL_wm _ _) | refine Nat.le_trans ?_ (padS_wm _ _) | refine Nat.le_trans ?_ (quoS_wm _ _) | refine Nat.le_trans ?_ (sb_wm _) | refine Nat.le_trans ?_ (dp_wm _ _) | refine Nat.le_trans ?_ (cnt_wm _ _ _ _) | refine Nat.le_trans ?_ (okS_wm ?_) | refine ite_wm (fun _=> ?_) (fun _=> ?_) | intro _ | split))):a≤c:=Nat.le_trans h hm
end Can
end Go.Proofs.YtdfgkcoenagaaaaGreat
end
section
namespace Go.Proofs.YtdfgkcoenagaaaaGreat
namespace Can
open Go Go.RowKit
set_option linter.unusedSimpArgs false
set_option linter.unusedVariables false
set_option maxRecDepth 4000
theorem casts{a:Nat}:((a:Int)+1)=((a+1:Nat):Int):=rfl
def PrAt (K:CH)(p:Nat)(b:Value)(st:PSt):Prop:=∃a,BdAt K p a b (.int .i64 st.deep) (.int .i64 (20000-(st.w:Int))) (.bool st.bad) st.out
theorem BdAt.upd{K:CH}{p:Nat}{a b d r x d' r' x':Value}{out:List UInt8}(h:BdAt K p a b d r x out):BdAt (K.set p (.cells [a,b,d',r',x'] 46 .ex)) p a b d' r' x' out:=by
 refine⟨h.own,by simp[CH.set],?_,h.pl⟩
 rcases h.buf with h1 | ⟨q,h1,h2,h3,h4,h5⟩
 ·exact .inl h1
 ·exact .inr ⟨q,h1,by simpa[CH.set,h3] using h2,h3,h4,h5⟩
theorem WFr.upd{p:Nat}{K K1:CH}{b b1:Value}(h:WFr p K b K1 b1)(o:CObj):WFr p K b (K1.set p o) b1:=
 ⟨h.nx,fun l h1 h2 h3=>by simpa[CH.set,h2] using h.ob l h1 h2 h3,h.row⟩
theorem pput_wp{K:CH}{p q:Nat}{b:Value}{st:PSt}{ss:List (List UInt8)}(h:PrAt K p b st){e:TypeId}{kd:Kd}(hq:K.ob q= .cells (ss.map fun s=> .string ⟨⟨s⟩⟩) e kd)(hqp:q≠p)(hqb:NotRow b q)(hqn:q<K.nx)
 (hw:(putL ss st).w≤2305843009213693952) (hn:ss.length≤1000000) :
 WpF TL 29 [.pointer (some ⟨p,0,none⟩), .slice (some ⟨q,0,none⟩) ss.length ss.length] K fun v K'=>v= .tuple #[]∧∃b',PrAt K' p b' (putL ss st)∧WFr p K b K' b':=by
 refine wpF_rS (by rfl) (by kernel_rfl) ?_;(conv in (rF _ _).body=>reduce);(conv in (rF _ _).res=>reduce)
 repeat' (first | (simp (disch:=first | omega | (decide +kernel)) only[↓RD,RU,↓putF_get,↓evF_t,↓evF_c,getD_zero,getD_succ,pop,↓reduceIte,Int.reduceOfNat]) | (with_reducible first | refine condK_dec (fun _=> ?_) fun _=> ?_ | refine grd_dec (fun _=> ?_) fun _=> ?_ | refine egrd_dec (fun _=> ?_) fun _=> ?_))
 refine loop_w (fun n fr K1=>∃i b1 st1,n=ss.length-i∧i≤ss.length∧fr 8= .int .i64 i∧PrAt K1 p b1 st1∧WFr p K b K1 b1∧putL (ss.drop i) st1=putL ss st) (n:=ss.length) ⟨0,b,st,rfl,Nat.zero_le _,by(((first | assumption | simp only[putF_get,putF_none,Nat.reduceEqDiff,↓reduceIte]))<;>rfl),h, .refl,by simp⟩ ?_
 rintro n fr K1 ⟨i,b1,st1,rfl,hi,h8,⟨a1,h1⟩,hf,hput⟩ hag
 have hob:=h1.ob
 have hq1:K1.ob q= .cells (ss.map fun s=> .string ⟨⟨s⟩⟩) e kd:=by rw[hf.ob q hqn hqp hqb];exact hq
 by_cases hlt:i<ss.length
 ·obtain⟨s,hs⟩ : ∃s,ss[i]? = some s:=⟨_,List.getElem?_eq_getElem hlt⟩
  have hget:(ss.map fun s=>Value.string ⟨⟨s⟩⟩)[i]? = some (.string ⟨⟨s⟩⟩):=by rw[List.getElem?_map,hs];rfl
  have esz:(⟨⟨s⟩⟩:ByteArray).size=s.length:=rfl
  have hd:ss.drop i=s::ss.drop (i+1):=by
   rw[List.drop_eq_getElem_cons hlt]
   rw[List.getElem?_eq_getElem hlt] at hs
   cases hs;rfl
  rw[hd] at hput
  have hw1:st1.w+s.length≤2305843009213693952:=by
   rw[←hput] at hw
   exact Nat.le_trans (putL_cons _ _ _) hw
  have hwr:IntKind.i64.wrap (20000-(st1.w:Int)-(s.length:Int))=20000-((st1.w+s.length:Nat):Int):=by
   rw[w_i64 (by omega) (by omega)];omega
  by_cases hbad:20000<st1.w+s.length
  ·have hneg:(20000-((st1.w+s.length:Nat):Int))<0:=by omega
   simp only[putL,if_pos hbad] at hput
   repeat' (first | (simp (disch:=first | omega | (decide +kernel)) only[↓RD,RU,↓putF_get,↓putF_none,↓evF_t,↓evF_c,set_get,getD_zero,pop,lop,wop,resL,tupleV,isVal,isCell,Value.cells,↓reduceIte,Nat.reduceEqDiff,Nat.reduceAdd,reduceCtorEq,ρ5,ρ6,ρ7,ρ8,ρ17,ρ18,ρ19,ρ20,ρ21,ρ22,ρ23,Kd.isRo,ρ25,ρ26,Nat.reduceLeDiff,CH.set_set,ρ29,hag,h8,hq1,hget,hob,esz,hwr]) | (with_reducible first | refine condK_dec (fun _=> ?_) fun _=> ?_ | refine grd_dec (fun _=> ?_) fun _=> ?_ | refine egrd_dec (fun _=> ?_) fun _=> ?_))
   ·rw[←hput]
    first | exact⟨b1,⟨a1,h1.upd⟩,hf.upd _⟩ | exact⟨rfl,b1,⟨a1,h1.upd⟩,hf.upd _⟩
   all_goals omega
  ·have hneg : ¬(20000-((st1.w+s.length:Nat):Int))<0:=by omega
   have hlen:=st1.h
   simp only[putL,if_neg hbad] at hput
   repeat' (first | (simp (disch:=first | omega | (decide +kernel)) only[↓RD,RU,↓putF_get,↓putF_none,↓evF_t,↓evF_c,set_get,getD_zero,pop,lop,wop,isVal,isCell,Value.cells,ρ0,ρ1,↓reduceIte,Nat.reduceEqDiff,Nat.reduceAdd,reduceCtorEq,ρ5,ρ6,ρ7,ρ8,ρ17,ρ18,ρ19,ρ20,ρ22,ρ23,Kd.isRo,ρ25,ρ26,Nat.reduceLeDiff,ρ28,ρ29,hag,h8,hq1,hget,hob,esz,hwr]) | (with_reducible first | refine condK_dec (fun _=> ?_) fun _=> ?_ | refine grd_dec (fun _=> ?_) fun _=> ?_ | refine egrd_dec (fun _=> ?_) fun _=> ?_))
   have hb2:=h1.upd (d':= .int .i64 st1.deep) (r':= .int .i64 (20000-((st1.w+s.length:Nat):Int))) (x':= .bool st1.bad)
   refine(write_wp hb2 (by omega)).mono fun v K2 ⟨a2,b2,h2,hf2⟩=> ?_
   have hf3:=(hf.upd _).trans hf2
   repeat' (first | (simp (disch:=first | omega | (decide +kernel)) only[↓RD,RU,↓putF_get,↓evF_t,↓evF_c,pop,↓reduceIte,Nat.reduceEqDiff,h8,casts]) | (with_reducible first | refine condK_dec (fun _=> ?_) fun _=> ?_ | refine grd_dec (fun _=> ?_) fun _=> ?_ | refine egrd_dec (fun _=> ?_) fun _=> ?_))
   refine⟨_,?_,i+1,b2,_,rfl,hlt,rfl,⟨a2,h2⟩,hf3,hput⟩
   omega
 ·have he:i=ss.length:=by omega
  subst he
  repeat' (first | (simp (disch:=first | omega | (decide +kernel)) only[↓RD,RU,↓putF_get,↓evF_t,pop,resL,tupleV,↓reduceIte,Nat.reduceEqDiff,hag,h8]) | (with_reducible first | refine condK_dec (fun _=> ?_) fun _=> ?_ | refine grd_dec (fun _=> ?_) fun _=> ?_ | refine egrd_dec (fun _=> ?_) fun _=> ?_))
  rw[List.drop_length] at hput
  simp only[putL] at hput
  rw[←hput]
  first | exact⟨b1,⟨a1,h1⟩,hf⟩ | exact⟨rfl,b1,⟨a1,h1⟩,hf⟩
end Can
end Go.Proofs.YtdfgkcoenagaaaaGreat
end
section
namespace Go.Proofs.YtdfgkcoenagaaaaGreat
namespace Can
open Go Go.RowKit
set_option linter.unusedSimpArgs false
set_option linter.unusedVariables false
set_option maxRecDepth 4000
def Jb:List (List UInt8)→List Value→CH→Nat→(Nat→Prop)→Prop:=fun xs vs K p W=>∃o a b,xs= [[],o]∧vs= [a,b]∧OwnA p a∧((o= []∧b= .slice none 0 0∧∀l,¬W l)∨
 ∃q,b= .slice (some ⟨q,0,none⟩) o.length o.length∧K.ob q= .cells (o.map fun c=> .int .u8 c.toNat) 5 .gr∧q≠p∧q<K.nx∧0<o.length∧∀l,W l↔l=q)
theorem jb_m{xs:List (List UInt8)}{vs:List Value}{K K':CH}{p:Nat}{W:Nat→Prop}(h:Jb xs vs K p W)(h1 : ∀b,W b→K'.ob b=K.ob b)(h2:K.nx≤K'.nx):Jb xs vs K' p W:=by
 obtain⟨o,a,b,e1,e2,e3,e4⟩:=h
 refine⟨o,a,b,e1,e2,e3,?_⟩
 rcases e4 with e4 | ⟨q,g1,g2,g3,g4,g5,g6⟩
 ·exact .inl e4
 ·exact .inr ⟨q,g1,by rw[h1 q ((g6 q).2 rfl)];exact g2,g3,Nat.lt_of_lt_of_le g4 h2,g5,g6⟩
theorem Jb.buf{o:List UInt8}{a b:Value}{K:CH}{p:Nat}{W:Nat→Prop}(h:Jb [[],o] [a,b] K p W):OwnA p a∧BufAt K p b o∧∀l,¬W l→NotRow b l:=by
 obtain⟨o',a',b',e1,e2,e3,e4⟩:=h
 cases e1;cases e2
 rcases e4 with ⟨rfl,rfl,g⟩ | ⟨q,rfl,g2,g3,g4,g5,g6⟩
 ·exact⟨e3, .inl ⟨rfl,rfl⟩,fun l _ o s n c e=>by cases e⟩
 ·exact⟨e3, .inr ⟨q,rfl,g2,g3,g4,g5⟩,fun l hl o s n c e=>by cases e;exact hl ((g6 _).2 rfl)⟩
def rowW (b:Value)(l:Nat):Prop:=∃n c,b= .slice (some ⟨l,0,none⟩) n c
theorem jb_mk{o:List UInt8}{a b:Value}{K:CH}{p:Nat}(h1:OwnA p a)(h2:BufAt K p b o):Jb [[],o] [a,b] K p (rowW b):=by
 refine⟨o,a,b,rfl,rfl,h1,?_⟩
 rcases h2 with ⟨rfl,rfl⟩ | ⟨q,rfl,g2,g3,g4,g5⟩
 ·exact .inl ⟨rfl,rfl,fun l ⟨n,c,e⟩=>by cases e⟩
 ·exact .inr ⟨q,rfl,g2,g3,g4,g5,fun l=>⟨fun⟨n,c,e⟩=>by cases e;rfl,fun e=>by subst e;exact⟨_,_,rfl⟩⟩⟩
def prS (st:PSt):List SV:= [.lk [], .lk st.out, .sc (.int .i64 st.deep), .sc (.int .i64 (20000-(st.w:Int))), .sc (.bool st.bad)]
abbrev prR(st:PSt):Self:=some (46,prS st)
theorem pr_inv{Z:TP}(hJ:Z.J=Jb){K:CH}{E:TE}{sp:Option Nat}{W:Nat→Prop}{st:PSt}(h:SelfR K E sp (prR st))(hj:SJ Z K sp W (prR st)) : ∃p b,sp=some p∧p<K.nx∧PrAt K p b st∧∀l,¬W l→NotRow b l:=by
 obtain⟨p,os,h1,h2,h3,h4⟩:=h
 subst h1
 rcases hj with ⟨k1,_⟩ | ⟨_,p',os',k1,k2,k3,k4⟩
 ·cases k1
 ·cases k1
  rw[h3] at k2
  cases k2
  simp only[prS] at h4
  cases h4 with
  | cons a1 h4=>cases h4 with
    | cons a2 h4=>cases h4 with
      | cons a3 h4=>cases h4 with
        | cons a4 h4=>cases h4 with
          | cons a5 h4=>
            cases h4
            cases a3;cases a4;cases a5
            rw[hJ] at k4
            obtain⟨g1,g2,g3⟩:=Jb.buf (o:=st.out) k4
            exact⟨p,_,rfl,h2,⟨_,g1,h3,g2,h2⟩,g3⟩
theorem pr_mk{Z:TP}(hJ:Z.J=Jb){K:CH}{E:TE}{p:Nat}{b:Value}{st:PSt}(h:PrAt K p b st):SelfR K E (some p) (prR st)∧SJ Z K (some p) (rowW b) (prR st):=by
 obtain⟨a,h⟩:=h
 have hc:isCell a=true:=by rcases h.own with rfl | rfl<;>rfl
 have hb:isCell b=true:=by obtain⟨pa,n,c,rfl⟩:=h.buf.sl;rfl
 refine⟨⟨p,_,rfl,h.pl,h.ob, .cons (.lk hc) (.cons (.lk hb) (.cons (.sc rfl) (.cons (.sc rfl) (.cons (.sc rfl) .nil))))⟩, .inr ⟨by simp[prS,lks],p,_,rfl,h.ob,rfl,?_⟩⟩
 rw[hJ]
 exact jb_mk h.own h.buf
theorem tc_pr{Z:TP}(hJ:Z.J=Jb){X:Pan}{f:FuncId}{args:List AV}{st st':PSt}{a:AV}{V:Value}{Q:AV→List SV→Prop}{R:Value→Prop}(hV : ∀K E,AVR K E a V)(hc:a.clean)
 (h : ∀(K:CH) (p:Nat) (b:Value) (E:TE) (vs:List Value),PrAt K p b st→R2 (AVR K E) args vs→(∀q,Frz K E q→q<K.nx∧q≠p∧NotRow b q)→WpF TL f (.pointer (some ⟨p,0,none⟩)::vs) K fun v K'=>v=V∧∃b',PrAt K' p b' st'∧WFr p K b K' b')
 (hQ:Q a (prS st')):TC Z TL X f (.ptr 0 0::args) (prR st) Q R:=by
 intro K sp hid W vs h1 hW h2 h3 h4 h5
 obtain⟨p,b,rfl,hp,hpr,hnr⟩:=pr_inv hJ h4 h5
 cases h3 with
 | cons g1 g2=>
   rename_i v0 vs
   obtain⟨l,q1,q2⟩:=g1.ptr_inv
   have q1:some p=some l:=q1
   cases q1
   subst q2
   left
   have hfz : ∀q,Frz K (E0 (some p) hid) q→q<K.nx∧q≠p∧NotRow b q:=fun q ⟨k1,k2,_,k4⟩=>⟨k1,fun e=>k4 0 (by subst e;rfl),hnr q fun hw=>k2 (hW q hw)⟩
   refine(h K p b _ vs hpr g2 hfz).mono fun v K' ⟨e1,b',e2,e3⟩=> ?_
   subst e1
   have hd : ∀l,rowW b' l→l<K'.nx∧(W l∨K.nx≤l):=fun l ⟨n,c,e⟩=>by
    obtain⟨a',e2⟩:=e2
    refine⟨?_,?_⟩
    ·rcases e2.buf with ⟨_,k⟩ | ⟨q,k,_,_,k4,_⟩
     ·rw[k] at e;cases e
     ·rw[k] at e;cases e;exact k4
    ·by_cases hw:W l
     ·exact .inl hw
     ·refine .inr (Nat.le_of_not_lt fun hl=> ?_)
      exact e3.row l hl (hnr l hw) _ _ _ _ e
   obtain⟨m1,m2⟩:=pr_mk (E:=E0 (some p) fun l=>hid l∨rowW b' l) hJ e2
   exact⟨e3.nx,fun l hl hs hw=>e3.ob l hl (fun e=>hs (by rw[e])) (hnr l hw),fun l=>hid l∨rowW b' l,rowW b',a,prS st',⟨fun l hl=> .inl hl,fun l hl=>hl.elim (fun hl=>Nat.lt_of_lt_of_le (h1 l hl).1 e3.nx) fun hl=>(hd l hl).1,fun l hl=>⟨.inr hl,(hd l hl).2⟩⟩,hV _ _,hc,m1,m2,hQ⟩
def strV (ss:List (List UInt8)):List (List SV):=ss.map fun s=> [.sc (.string ⟨⟨s⟩⟩)]
theorem svrs_str{K:CH}{A:Nat→Prop} : ∀ {ss:List (List UInt8)} {os:List Value},SVRs K A (strV ss).flatten os→os=ss.map fun s=> .string ⟨⟨s⟩⟩
 | [],os,h=>by cases h;rfl
 | s::ss,os,h=>by
   simp only[strV,List.map_cons,List.flatten_cons,List.cons_append,List.nil_append] at h
   cases h with
   | cons h t=>
     cases h
     rw[svrs_str t];rfl
theorem put_tc{Z:TP}(hJ:Z.J=Jb){X:Pan}{st:PSt}{ss:List (List UInt8)}{Q:AV→List SV→Prop}{R:Value→Prop}(h0:ss≠ [])(hw:(putL ss st).w≤2305843009213693952)(hn:ss.length≤1000000)
 (hQ:Q (.tup []) (prS (putL ss st))):TC Z TL X 29 [.ptr 0 0, .r (.c (.s (.row 1 (strV ss))))] (prR st) Q R:=by
 refine tc_pr hJ (V:= .tuple #[]) (fun K E=> .tup (vs:= []) .nil) trivial (fun K p b E vs hpr hr hfz=> ?_) hQ
 cases hr with
 | cons g1 g2=>
   cases g2
   cases g1 with
   | r g1=>cases g1 with
     | c g1=>cases g1 with
       | s g1=>
         generalize hg:strV ss=gs at g1
         cases g1 with
         | row0=>cases ss with
           | nil=>exact absurd rfl h0
           | cons=>cases hg
         | row hne hb ho hk hgz hs ht=>
           subst hg
           have hlen:(strV ss).length=ss.length:=by simp[strV]
           rw[svrs_str hs] at ho
           obtain⟨k1,k2,k3⟩:=hfz _ hb
           rw[hlen]
           exact pput_wp hpr ho k2 k3 k1 hw hn
theorem put_st{Z:TP}(hJ:Z.J=Jb){X:Pan}{st:PSt}{Q:AV→List SV→Prop}{R:Value→Prop}(ss:List (List UInt8))(h0:ss≠ [])(hn:ss.length≤1000000){stF:PSt}(hB:stF.w≤2305843009213693952)(hm:(putL ss st).w≤stF.w)
 (hQ : ∀st1,putL ss st=st1→Q (.tup []) (prS st1)):TC Z TL X 29 [.ptr 0 0, .r (.c (.s (.row 1 (strV ss))))] (prR st) Q R:=put_tc hJ h0 (Nat.le_trans hm hB) hn (hQ _ rfl)
end Can
end Go.Proofs.YtdfgkcoenagaaaaGreat
end
section
namespace Go.Proofs.YtdfgkcoenagaaaaGreat
namespace Can
open Go Go.RowKit
set_option linter.unusedSimpArgs false
set_option linter.unusedVariables false
set_option maxRecDepth 4000
attribute [local irreducible] TC putL
theorem count_tc{Z:TP}{X:Pan}{st:PSt}{n:Nd}{a b:Nat}{Q:AV→List SV→Prop}{R:Value→Prop}(hQ:Q (rS (.bool !(cntN n.kids a b st).bad)) (prS (cntN n.kids a b st))):TC Z TL X 45 [.ptr 0 0,ndA n,iS a,iS b] (prR st) Q R:=by
 obtain⟨k,l,x,o,ks⟩:=n
 obtain⟨out,deep,w,bad,hh⟩:=st
 have hlen:(ndsS ks).length=ks.length:=ndsS_len
 refine tc_rS d0_ok (by rfl) (by kernel_rfl) ?_
 conv in (rF _ _).body=>reduce
 conv in (rF _ _).res=>reduce
 conv=>whnf
 cases bad with
 | true=>
   conv=>whnf
   exact hQ
 | false=>
   conv=>whnf
   intro hm
   conv=>whnf
   refine ifT_c (fun h1=> ?_) (fun h1=> ?_)
   ·conv=>whnf
    have h2:ks.length<b:=by rw[hlen] at h1;simpa using h1
    have e:cntN (Nd.mk k l x o ks).kids a b ⟨out,deep,w,false,hh⟩=⟨out,deep,w,true,hh⟩:=by
     show cntN ks a b _=_
     simp only[cntN,if_neg (show ¬(false=true) by decide),if_pos h2];rfl
    rw[e] at hQ
    exact hQ
   ·have h2 : ¬ks.length<b:=by rw[hlen] at h1;simpa using h1
    conv=>whnf
    intro hm2
    conv=>whnf
    refine ifT_c (fun h3=> ?_) (fun h3=> ?_)
    ·conv=>whnf
     have h4:a<ks.length:=by rw[hlen] at h3;simpa using h3
     have e:cntN (Nd.mk k l x o ks).kids a b ⟨out,deep,w,false,hh⟩=⟨out,deep,w,true,hh⟩:=by
      show cntN ks a b _=_
      simp only[cntN,if_neg (show ¬(false=true) by decide),if_neg h2,if_pos h4];rfl
     rw[e] at hQ
     exact hQ
    ·conv=>whnf
     have h4 : ¬a<ks.length:=by rw[hlen] at h3;simpa using h3
     have e:cntN (Nd.mk k l x o ks).kids a b ⟨out,deep,w,false,hh⟩=⟨out,deep,w,false,hh⟩:=by
      show cntN ks a b _=_
      simp only[cntN,if_neg (show ¬(false=true) by decide),if_neg h2,if_neg h4]
     rw[e] at hQ
     exact hQ
end Can
end Go.Proofs.YtdfgkcoenagaaaaGreat
end
section
namespace Go.Proofs.YtdfgkcoenagaaaaGreat
namespace Can
open Go Go.RowKit
set_option linter.unusedSimpArgs false
set_option linter.unusedVariables false
set_option maxRecDepth 4000
attribute [local irreducible] TC putL
abbrev oP(st:PSt):Nat×TypeId×List CV:=(0,46,(prS st).map .s)
abbrev bigB:Nat:=2305843009213693952
theorem pad_tc{Z:TP}(hJ:Z.J=Jb){X:Pan}{st:PSt}(s:List UInt8){Q:AV→List SV→Prop}{R:Value→Prop}(hB:(padS s st).w≤bigB)(hQ:Q (.tup []) (prS (padS s st))):TC Z TL X 27 [.ptr 0 0,rS (.string ⟨⟨s⟩⟩)] (prR st) Q R:=by
 refine tc_rS d0_ok (by rfl) (by kernel_rfl) ?_
 conv in (rF _ _).body=>reduce
 conv in (rF _ _).res=>reduce
 simp only[padS] at hB hQ
 have hPw:=padL_w st.deep.toNat st
 generalize hP:padL st.deep.toNat st=P0 at hB hQ hPw
 have hB1:=hB
 rw[putL_one] at hB1
 obtain⟨out,deep,w,bad,hh⟩:=st
 simp only at hP hPw
 cases bad
 all_goals
  conv=>whnf
  refine loop_1 8 (fun m a s1=>∃(i:Nat) (st1:PSt),a=iS i∧m=deep.toNat-i∧s1=⟨0,[oP st1]⟩∧padL (deep.toNat-i) st1=P0∧st1.deep=deep) deep.toNat [] rfl ⟨0,⟨out,deep,w,_,hh⟩,rfl,rfl,rfl,hP,rfl⟩ ?_
  rintro m a f1 s1 ⟨i,⟨out1,deep1,w1,bad1,hh1⟩,rfl,rfl,rfl,h1,h2⟩
  have h3:=congrArg PSt.w h1
  rw[padL_w,hPw] at h3
  simp only at h3
  cases bad1
  all_goals
   conv=>whnf
   refine ifT_c (fun h4=> ?_) (fun h4=> ?_)
   ·conv=>whnf
    refine⟨rfl,?_⟩
    conv=>whnf
    have h5:(i:Int)<deep:=by simpa using h4
    obtain⟨j,hj⟩ : ∃j,deep.toNat-i=j+1:=⟨deep.toNat-i-1,by omega⟩
    refine put_st hJ [[32,32,32,32]] (by simp) (by simp) hB ?_ fun st2 hp=> ?_
    ·rw[putL_one,putL_one]
     simp only[List.length_cons,List.length_nil]
     omega
    have hdp:=congrArg PSt.deep hp
    rw[putL_deep] at hdp
    have hj':deep.toNat-(i+1)=j:=by omega
    rw[hj] at h1
    simp only[padL] at h1
    rw[hp] at h1
    obtain⟨o2,d2,w2,b2,hh2⟩:=st2
    cases b2
    all_goals
     conv=>whnf
     have hwi:rS (.int .i64 (IntKind.i64.wrap ((i:Int)+1)))=iS ((i+1:Nat):Int):=by
      rw[w_i64 (by omega) (by simp only[bigB] at hB1;omega)];rfl
     refine⟨_,[],?_,rfl,i+1,⟨o2,d2,w2,_,hh2⟩,hwi,rfl,rfl,?_,?_⟩
     ·omega
     ·rw[hj'];exact h1
     ·rw[←hdp];exact h2
   ·conv=>whnf
    have h5 : ¬(i:Int)<deep:=by simpa using h4
    have hj:deep.toNat-i=0:=by omega
    rw[hj] at h1
    simp only[padL] at h1
    refine⟨rfl,?_⟩
    conv=>whnf
    refine put_st hJ [s] (by simp) (by simp) hB (by rw[h1];exact Nat.le_refl _) fun st2 hp=> ?_
    rw[h1] at hp
    rw[hp] at hQ
    obtain⟨o2,d2,w2,b2,hh2⟩:=st2
    cases b2
    all_goals
     conv=>whnf
     exact hQ
end Can
end Go.Proofs.YtdfgkcoenagaaaaGreat
end
