/- Parse, the program: all its rules, along the grammar. (Printed by tools/genpw3.py.). Parse, the program: parse.Parse, ahead of its deferred call. Parse, the program: parse.Parse answers parseT. Lex, the document: words, symbols, names. Lex, the document: digits, blanks, base, stands. Lex, the document: number. Lex, the document: text. -/
import Derived.Test.YtnankhlanilbbaaGreatZm
import Derived.Test.YtnankhlanilbbaaGreatZl
import Derived.Test.YtnankhlanilbbaaGreatZi
import Derived.Test.YtnankhlanilbbaaGreatZg
section
namespace Go.Proofs.YtnankhlanilbbaaGreat
namespace Can
open Go Go.RowKit
set_option linter.unusedSimpArgs false
set_option linter.unusedVariables false
set_option maxRecDepth 4000
attribute [local irreducible] TC isT nowT begT placeN
section
variable {Z:TP} {X:Pan} {W:Int→Value} {ts:List PT} {sl:Sl} {f:Nat}
theorem pall0:PAll Z X W ts sl 0:=by
 constructor
 all_goals (intros;intro i Q R E P hi hG hE hQ;exact hG.elim)
theorem palls(C:PCtx Z X W ts sl)(ih : ∀g,g≤f→PAll Z X W ts sl g):PAll Z X W ts sl (f+1):=⟨pw_expr C ih,pw_or C ih,pw_and C ih,pw_not C ih,pw_compare C ih,pw_arith C ih,pw_term C ih,pw_factor C ih,pw_primary C ih,pw_atom C ih,pw_exprs C ih,pw_one C ih,pw_places C ih,pw_simple C ih,pw_plain C ih,pw_value C ih,pw_block C ih,pw_stmt C ih,pw_params C ih,pw_row C ih,pw_index C ih,pw_clauses C ih,pw_list C ih,pw_braces C ih,pw_names C ih,pw_maybe C ih,pw_ifs C ih,pw_tries C ih⟩
theorem pall(C:PCtx Z X W ts sl) : ∀f,PAll Z X W ts sl f:=by
 intro f
 induction f using Nat.strongRecOn with
 | _ f ih=>
   cases f with
   | zero=>exact pall0
   | succ f=>exact palls C fun g hg=>ih g (by omega)
end
end Can
end Go.Proofs.YtnankhlanilbbaaGreat
end
section
namespace Go.Proofs.YtnankhlanilbbaaGreat
namespace Can
open Go Go.RowKit
set_option linter.unusedSimpArgs false
set_option linter.unusedVariables false
set_option maxRecDepth 4000
def zNd:Nd:= .mk 0 0 [] 0 []
def parseT(ts:List PT):Nd×Int×Int:=match gr ts (ts.length*64+100) (.top []) 0 with
 | some (.ok (l,_))=>if 60<htL l+1 then (zNd,0,11) else (nd 1 (hdLine (nowT ts 0).line l) l,0,0)
 | some (.error e)=>(zNd,(nowT ts e).line,22)
 | none=>(zNd,0,0)
noncomputable def prP:List Item×List Item×RCode×RCode×RCode:=match (rF Tryz.prog 10).body with
 | .seq (.reg a) (.seq (.reg b) (.seq .bad (.seq c (.seq d e))))=>(a,b,c,d,e)
 | _=>([],[], .skip, .skip, .skip)
theorem pr_body:(rF Tryz.prog 10).body= .seq (.reg prP.1) (.seq (.reg prP.2.1) (.seq .bad (.seq prP.2.2.1 (.seq prP.2.2.2.1 prP.2.2.2.2)))):=by kernel_rfl
theorem pr_res:(rF Tryz.prog 10).res= [.lda 5 2, .ld 3, .ld 4]:=by kernel_rfl
def prK (H:CH)(sl:Sl):CH:=(((H.new (.cells [.int .i64 0, .int .i64 0, .string ⟨⟨[]⟩⟩, .int .i64 0, .slice none 0 0] 26 .ex)).new (.cells [.int .i64 0] 3 .ex)).new (.cells [.int .i64 0] 29 .ex)).new (rpC sl 0)
abbrev pP(l:Nat):Value:= .pointer (some ⟨l,0,none⟩)
theorem pr_r0{H:CH}{fr:Fr}{sl:Sl}(h0:fr 0= .slice sl.q sl.n sl.c):WpR (tblG Tryz.prog LG GG) (.reg prP.1) fr H fun x fr1 H1=>x= .normal∧WpR (tblG Tryz.prog LG GG) (.reg prP.2.1) fr1 H1 fun x fr2 H2=>x= .normal∧fr2 2=pP H.nx∧fr2 3=pP (H.nx+1)∧fr2 4=pP (H.nx+2)∧fr2 5=pP (H.nx+3)∧H2=prK H sl:=by
 have e1:prP.1=_:=rfl
 conv at e1=>rhs;reduce
 have e2:prP.2.1=_:=rfl
 conv at e2=>rhs;reduce
 rw[e1,e2]
 repeat' (first | (simp (disch:=first | omega | (decide +kernel)) only[↓RD,RU,↓putF_get,↓evF_t,new_nx,pop,aop,akV,isVal,Value.cells,ρ0,ρ1,ρ4,↓reduceIte,Nat.reduceEqDiff,Nat.reduceAdd,Int.reduceOfNat,reduceCtorEq,ρ7,ρ8,ρ17,ρ18,ρ19,ρ20,ρ25,ρ26,bldV,Nat.reduceLeDiff,h0]) | (with_reducible first | refine condK_dec (fun _=> ?_) fun _=> ?_ | refine grd_dec (fun _=> ?_) fun _=> ?_ | refine egrd_dec (fun _=> ?_) fun _=> ?_))
 rfl
def prZ (H:CH)(sl:Sl):TP:=⟨fun b=>∃o,sl.q=some ⟨b,o,none⟩,H.ob⟩
theorem prZ_in{H:CH}{sl:Sl}{ts:List PT}(h:SlAt 3 CTk H sl.q sl.c ts){b:Nat}(hb:(prZ H sl).N b):b<H.nx:=by
 obtain⟨o,ho⟩:=hb
 rcases h with ⟨_,_,h | h | h⟩ | ⟨l,o',os,e,k,q,hl,_⟩
 ·rw[h] at ho;cases ho
 ·rw[h] at ho;cases ho
 ·rw[h] at ho;cases ho
 ·rw[q] at ho;cases ho;exact hl
theorem prZ_ok{H:CH}{sl:Sl}{ts:List PT}(h:SlAt 3 CTk H sl.q sl.c ts)(hn:sl.n=ts.length):TkZ (prZ H sl) sl ts:=by
 refine⟨hn,fun l o q=>⟨o,q⟩,fun K hK=> ?_⟩
 rcases h with ⟨h1,h2,h3⟩ | ⟨l,o,os,e,k,q,h1,h2,h3,h4,h5,h6⟩
 ·exact .inl ⟨h1,h2,h3⟩
 ·obtain⟨g1,g2⟩:=hK l ⟨o,q⟩
  exact .inr ⟨l,o,os,e,k,q,g1,h2,h3,g2.trans h4,h5,h6⟩
def prF (H:CH):TFr:=fun t=> [.bad, .bad,rS (pP H.nx),rS (pP (H.nx+1)),rS (pP (H.nx+2)), .ptr 0 0].getD t .bad
theorem prK_nx{H:CH}{sl:Sl}:(prK H sl).nx=H.nx+4:=rfl
theorem prK_old{H:CH}{sl:Sl}{b:Nat}(hb:b<H.nx):(prK H sl).ob b=H.ob b:=by
 unfold prK
 rw[new_ne (by simp only[new_nx];omega),new_ne (by simp only[new_nx];omega),new_ne (by simp only[new_nx];omega),new_ne (by omega)]
theorem prK_r{H:CH}{sl:Sl}:(prK H sl).ob (H.nx+3)=rpC sl 0:=new_get.trans (if_pos rfl)
theorem pr_start{H:CH}{sl:Sl}{ts:List PT}(h:SlAt 3 CTk H sl.q sl.c ts){cfr:Fr}(c2:cfr 2=pP H.nx)(c3:cfr 3=pP (H.nx+1))(c4:cfr 4=pP (H.nx+2))(c5:cfr 5=pP (H.nx+3)) :
 TR (prZ H sl) (prK H sl) (some (H.nx+3)) (prK H sl) (st0 (rdR sl 0)) (prF H) cfr (E0 (some (H.nx+3)) fun b=>b<H.nx+4∧b≠H.nx+3):=by
 have t0:TR (prZ H sl) (prK H sl) (some (H.nx+3)) (prK H sl) (st0 (rdR sl 0)) (fun t=>([]:List AV).getD t .bad) (fun t=>([]:List Value).getD t undef) (E0 (some (H.nx+3)) fun b=>b<H.nx+4∧b≠H.nx+3):=by
  refine TR.start (e:=none) (fun b hb=>⟨hb.1,fun e=>hb.2 (by cases e;rfl)⟩) (fun b hb=> ?_) .nil (self_mk (by rw[prK_nx];omega) prK_r)
  have:=prZ_in h hb
  exact⟨by rw[prK_nx];omega,fun e=>by cases e;omega,prK_old this⟩
 refine { t0 with frm:=fun t=> ?_ }
 match t with
 | 0=>exact .bad
 | 1=>exact .bad
 | 2=>rw[c2];exact rS_rel rfl
 | 3=>rw[c3];exact rS_rel rfl
 | 4=>rw[c4];exact rS_rel rfl
 | 5=>rw[c5];exact .ptr rfl
 | n+6=>exact .bad
theorem set_ne'{K:CH}{p b:Nat}{o:CObj}(h:b≠p):(K.set p o).ob b=K.ob b:=by
 simp only[CH.set]
 rw[if_neg h]
theorem tc_wp{T:Tbl}{X:Pan}{f:FuncId}{args:List AV}{Q:AV→List SV→Prop}(h:TC ⟨fun _=>False,fun _=> .dead⟩ T X f args none Q fun _=>False){K:CH}{vs:List Value}(hv:R2 (AVR K (E0 none fun _=>False)) args vs):WpF T f vs K fun v K'=>HExt K K'∧∃a s',AVR K' (E0 none fun _=>False) a v∧Q a s':=by
 rcases h K none (fun _=>False) vs (fun _ h=>h.elim) (fun _ h=>h.elim) hv rfl with h | ⟨n,v,H',_,h⟩
 ·exact h.mono fun v K' ⟨h1,h2,a,s',h3,_,_,h4⟩=>⟨⟨h1,fun b hb=>h2 b hb (by simp)⟩,a,s',h3,h4⟩
 ·exact h.2.2.elim
attribute [local irreducible] TC isT nowT begT placeN
theorem pr_t3{Z:TP}{X:Pan}{W:Int→Value}{ts:List PT}{sl:Sl}{H:CH}{R:Value→Prop}(C:PCtx Z X W ts sl):twR Z (tblG Tryz.prog LG GG) X DT R prP.2.2.1 (prF H) (st0 (rdR sl 0)) fun x fr st=>x= .normal∧(∃nt v,st=⟨nt,[(v,55,(oR sl 0).2.2),(v,26,nC 1 (nowT ts 0).line [] 0 (.s (.row 5 [])))]⟩)∧fr 2=rS (pP H.nx)∧fr 3=rS (pP (H.nx+1))∧fr 4=rS (pP (H.nx+2))∧fr 5= .ptr 0 0∧fr 6= .ptr 1 0:=by
 have e:prP.2.2.1=_:=rfl
 conv at e=>rhs;reduce
 rw[e]
 clear e
 conv=>whnf
 refine now_tc C (Nat.zero_le _) ?_
 conv=>whnf
 exact⟨rfl,⟨_,_,rfl⟩,rfl,rfl,rfl,rfl,rfl⟩
def prG (H:CH):TFr:=fun t=> [.bad, .bad,rS (pP H.nx),rS (pP (H.nx+1)),rS (pP (H.nx+2)), .ptr 0 0, .ptr 1 0].getD t .bad
def AccT (acc:List Nd)(c:CV):Prop:=(acc= []∧c= .s (.row 5 []))∨∃t,c= .own t 26 5 (ndsS acc)
theorem pr_tL{Z:TP}{X:Pan}{W:Int→Value}{ts:List PT}{sl:Sl}{H:CH}{R:Value→Prop}(C:PCtx Z X W ts sl){f nt v:Nat}(ih : ∀m,m<f→PAll Z X W ts sl m){E:Nat→Prop}{P:List Nd→Nat→Prop}(hG:Gd E P (gr ts f (.top []) 0))(hE : ∀e,E e→R (W (nowT ts e).line)) :
 twR Z (tblG Tryz.prog LG GG) X DT R prP.2.2.2.1 (prG H) ⟨nt,[(v,55,(oR sl 0).2.2),(v,26,nC 1 (nowT ts 0).line [] 0 (.s (.row 5 [])))]⟩ fun x fr st=>x= .normal∧(∃l j nt u v c,P l j∧AccT l c∧st=⟨nt,[(u,55,(oR sl j).2.2),(v,26,nC 1 (hdLine (nowT ts 0).line l) [] 0 c)]⟩)∧fr 2=rS (pP H.nx)∧fr 3=rS (pP (H.nx+1))∧fr 4=rS (pP (H.nx+2))∧fr 6= .ptr 1 0:=by
 have e:prP.2.2.2.1=_:=rfl
 conv at e=>rhs;reduce
 rw[e]
 clear e
 have hlen:=C.len
 conv=>whnf
 refine loop_0 (fun m s=>∃acc j c,AccV acc c∧s=⟨1,[oR sl j,oN (nC 1 (hdLine (nowT ts 0).line acc) [] 0 c)]⟩∧j≤ts.length∧m≤f∧2*acc.length≤j∧Gd E P (gr ts m (.top acc) j)) f [99] rfl ⟨[],_,_, .inl ⟨rfl,rfl⟩,rfl,by omega,Nat.le_refl _,by simp only[List.length_nil];omega,hG⟩ ?_
 rintro m f1 s ⟨acc,j,c,hA,rfl,hj,hmf,hb2,hG⟩
 rcases m with _ | m
 ·exact hG.elim
 have ihm:=ih m (by omega)
 simp only[gr] at hG
 rcases hA with ⟨rfl,rfl⟩ | ⟨hne,rfl⟩
 rotate_left
 rcases acc with _ | ⟨⟨k2,l2,x2,o2,ks2⟩,acc⟩
 ·exact absurd rfl hne
 all_goals
  try simp only[List.length_cons,List.length_nil] at hb2
  (conv=>whnf)
  refine now_tc C (by omega) ?_
  (conv=>whnf)
  generalize hk:((nowT ts j).kind != Int.ofNat 0)=bb
  cases bb
  ·have hk0:(nowT ts j).kind=0:=by simpa using hk
   rw[if_pos hk0] at hG
   (conv=>whnf)
   first
    | exact⟨rfl,⟨_,_,_,_,_,_,hG, .inr ⟨_,rfl⟩,rfl⟩,rfl,rfl,rfl,rfl⟩
    | exact⟨rfl,⟨_,_,_,_,_,_,hG, .inl ⟨rfl,rfl⟩,rfl⟩,rfl,rfl,rfl,rfl⟩
  ·have hk0 : ¬(nowT ts j).kind=0:=by simpa using hk
   rw[if_neg hk0] at hG
   have hlt:=kd_lt hk0
   (conv=>whnf)
   repeat' first
    | (refine rul_st ihm.stmt hG (by trivial) rfl (by intro e he;first | exact hE e he | exact⟨True.intro,hE e he⟩) (by omega) ?_;intro n1 l1 x1 o1 ks1 j1 hp1 hj1 hG;simp only[NT.min] at hp1;(conv=>whnf))
    | (intro (hmx:_≤maxLen);(conv=>whnf))
    | exact⟨m,[2],by omega,rfl,_,_,_,accV_app rfl,rfl,by omega,by omega,(by simp only[List.length_append,List.length_cons,List.length_nil] at *;omega),hG⟩
    | (refine⟨rfl,0,_,rfl,rfl,?_⟩;(conv=>whnf))
    | (refine⟨rfl,?_⟩;(conv=>whnf))
    | (refine⟨bdA (by simp only[List.length_append,List.length_cons,List.length_nil,ndsS_len];omega),?_⟩;(conv=>whnf))
theorem row_slc{K:CH}{A:Nat→Prop}{sz:Nat}{gs:List (List SV)}{w:Value}(h:SVR K A (.row sz gs) w) : ∃a n c,w= .slice a n c:=by
 cases h with
 | row0=>exact⟨_,_,_,rfl⟩
 | row=>exact⟨_,_,_,rfl⟩
theorem nd_rel{K:CH}{A:Nat→Prop}(hA : ∀b,A b→b<K.nx){k:Nat}{l:Int}{x:List UInt8}{o:Nat}{ks:List Nd}{w:Value}(hw:SVR K A (.row 5 (ndsS ks)) w):R2 (AVR K (E0 none fun _=>False)) [ndA (.mk k l x o ks)] [.agg #[.int .i64 (k:Nat), .int .i64 l, .string ⟨⟨x⟩⟩, .int .i64 (o:Nat),w]]:=by
 refine .cons ?_ .nil
 have hw':SVR K (Frz K (E0 none fun _=>False)) (.row 5 (ndsS ks)) w:=hw.mv fun b hb=>⟨⟨hA b hb,fun h=>h,(fun _ q=>(by cases q)),fun o q=>(by
  have q:(if o=0 then none else none)=some b:=q
  split at q<;>cases q)⟩,rfl⟩
 exact .r (.agg (vs:= [.int .i64 (k:Nat), .int .i64 l, .string ⟨⟨x⟩⟩, .int .i64 (o:Nat),w]) (.cons (.s (.sc rfl)) (.cons (.s (.sc rfl)) (.cons (.s (.sc rfl)) (.cons (.s (.sc rfl)) (.cons (.s hw') .nil))))))
theorem height_wp{K:CH}{A:Nat→Prop}(hA : ∀b,A b→b<K.nx){k:Nat}{l:Int}{x:List UInt8}{o:Nat}{ks:List Nd}{w:Value}(hw:SVR K A (.row 5 (ndsS ks)) w)(hh:htL ks+1≤9223372036854775807):WpF (tblG Tryz.prog LG GG) 17 [.agg #[.int .i64 (k:Nat), .int .i64 l, .string ⟨⟨x⟩⟩, .int .i64 (o:Nat),w]] K fun v K'=>HExt K K'∧v= .int .i64 (htL ks+1:Nat):=
 (tc_wp (X:=pX) (height_tc (nsz (.mk k l x o ks)+1) k l x o ks (Nat.lt_succ_self _) hh (fun a _=>a=rS (.int .i64 (htL ks+1:Nat))) _ rfl) (nd_rel hA hw)).mono fun v K' ⟨h1,a,s',h2,h3⟩=>⟨h1,by subst h3;exact raw_rel h2 rfl⟩
def PrO (H:CH)(t:Nd)(ln er:Int)(vs:List Value)(K':CH):Prop:=HExt H K'∧∃os,vs= [.agg os.toArray, .int .i64 ln, .int .i64 er]∧SVRs K' (fun b=>H.nx≤b∧b<K'.nx) (ndS t) os
def TyV (vs:List Value)(K':CH):Prop:=∀a0 a1 a2 a3 b n c r,vs= .agg #[a0,a1,a2,a3, .slice (some ⟨b,0,none⟩) n c]::r→∃cs kd,K'.ob b= .cells cs 26 kd
theorem pr_rest{H K:CH}{fr:Fr}{b:Nat}{l:List Nd}{ln:Int}{w:Value}(h2:fr 2=pP H.nx)(h3:fr 3=pP (H.nx+1))(h4:fr 4=pP (H.nx+2))(h6:fr 6=pP b)(o2:K.ob H.nx= .cells [.int .i64 0, .int .i64 0, .string ⟨⟨[]⟩⟩, .int .i64 0, .slice none 0 0] 26 .ex)(o3:K.ob (H.nx+1)= .cells [.int .i64 0] 3 .ex)(o4:K.ob (H.nx+2)= .cells [.int .i64 0] 29 .ex)
 (o6:K.ob b= .cells [.int .i64 1, .int .i64 ln, .string ⟨⟨[]⟩⟩, .int .i64 0,w] 26 .ex) (hn:H.nx+4≤K.nx) (hb:b<K.nx) (hb4:H.nx+4≤b) (hw:SVR K (fun b=>H.nx+4≤b∧b<K.nx) (.row 5 (ndsS l)) w) (hh:htL l+1≤9223372036854775807) (hold : ∀b,b<H.nx→K.ob b=H.ob b) (hty : ∀b n c,w= .slice (some ⟨b,0,none⟩) n c→b<K.nx∧H.nx+4≤b∧∃cs kd,K.ob b= .cells cs 26 kd) :
 WpR (tblG Tryz.prog LG GG) prP.2.2.2.2 fr K fun x fr' K'=>x= .ret∧∃vs,resL fr' K' [.lda 5 2, .ld 3, .ld 4]=some vs∧PrO H (if 60<htL l+1 then zNd else .mk 1 ln [] 0 l) 0 (if 60<htL l+1 then 11 else 0) vs K'∧TyV vs K':=by
 obtain⟨wa,wn,wc,rfl⟩ : ∃a n c,w= .slice a n c:=by
  exact row_slc hw
 have e:prP.2.2.2.2=_:=rfl
 conv at e=>rhs;reduce
 rw[e]
 clear e
 repeat' (first | (simp (disch:=first | omega | (decide +kernel)) only[↓RD,RU,↓putF_get,↓evF_t,lop,resL,resV,ρ0,ρ1,↓reduceIte,Nat.reduceAdd,Int.reduceOfNat,ρ7,ρ8,ρ15,ρ18,h6,o6]) | (with_reducible first | refine condK_dec (fun _=> ?_) fun _=> ?_ | refine grd_dec (fun _=> ?_) fun _=> ?_ | refine egrd_dec (fun _=> ?_) fun _=> ?_))
 refine(height_wp (k:=1) (x:= []) (o:=0) (fun _ h=>h.2) hw hh).mono fun v K4 ⟨hx,e⟩=> ?_
 subst e
 have g2:=(hx.ob _ (show H.nx<K.nx by omega)).trans o2
 have g3:=(hx.ob _ (show H.nx+1<K.nx by omega)).trans o3
 have g4:=(hx.ob _ (show H.nx+2<K.nx by omega)).trans o4
 have g6:=(hx.ob _ hb).trans o6
 have hnx:=hx.nx
 have hH4:HExt H K4:=⟨by omega,fun b hb=>(hx.ob b (by omega)).trans (hold b hb)⟩
 by_cases h60:60<htL l+1
 ·have hb1:decide ((60:Int)<((htL l+1:Nat):Int))=true:=decide_eq_true (by omega)
  repeat' (first | (simp (disch:=first | omega | (decide +kernel)) only[↓RD,RU,↓putF_get,↓putF_none,↓evF_t,↓evF_c,set_get,pop,wop,isVal,isCell,Value.cells,ρ1,ρ4,↓reduceIte,Nat.reduceEqDiff,Nat.reduceAdd,ρ5,ρ7,ρ8,ρ15,ρ17,ρ18,ρ21,ρ22,ρ23,Kd.isRo,ρ25,ρ26,bldV,h2,h3,h4,g2,g3,g4]) | (with_reducible first | refine condK_dec (fun _=> ?_) fun _=> ?_ | refine grd_dec (fun _=> ?_) fun _=> ?_ | refine egrd_dec (fun _=> ?_) fun _=> ?_))
  refine⟨_,rfl,⟨((hH4.set (Nat.le_refl _) _).set (by omega) _).set (by omega) _,_,rfl, .cons (.sc rfl) (.cons (.sc rfl) (.cons (.sc rfl) (.cons (.sc rfl) (.cons .row0 .nil))))⟩,?_⟩
  intro a0 a1 a2 a3 b n c r e
  simp at e
 ·have hb1:decide ((60:Int)<((htL l+1:Nat):Int))=false:=decide_eq_false (by omega)
  repeat' (first | (simp (disch:=first | omega | (decide +kernel)) only[↓RD,RU,↓putF_get,↓putF_none,↓evF_t,↓evF_c,set_get,pop,lop,wop,isVal,isCell,Value.cells,↓reduceIte,Nat.reduceEqDiff,Nat.reduceAdd,ρ5,ρ7,ρ8,ρ15,ρ17,ρ18,ρ21,ρ22,ρ23,Kd.isRo,ρ25,ρ26,h2,h3,h4,h6,g2,g3,g4,g6]) | (with_reducible first | refine condK_dec (fun _=> ?_) fun _=> ?_ | refine grd_dec (fun _=> ?_) fun _=> ?_ | refine egrd_dec (fun _=> ?_) fun _=> ?_))
  refine⟨_,rfl,⟨((hH4.set (Nat.le_refl _) _).set (by omega) _).set (by omega) _,_,rfl, .cons (.sc rfl) (.cons (.sc rfl) (.cons (.sc rfl) (.cons (.sc rfl) (.cons (hw.mv fun b hb=>⟨⟨by omega,Nat.lt_of_lt_of_le hb.2 hnx⟩,?_⟩) .nil))))⟩,?_⟩
  ·rw[set_ne' (by omega),set_ne' (by omega),set_ne' (by omega)]
   exact hx.ob b hb.2
  ·intro a0 a1 a2 a3 b n c r e
   simp only[List.cons.injEq,Value.agg.injEq,Array.mk.injEq] at e
   obtain⟨⟨_,_,_,_,e,_⟩,_⟩:=e
   obtain⟨q1,q2,cs,kd,q3⟩:=hty b n c e
   exact⟨cs,kd,by rw[set_ne' (by omega),set_ne' (by omega),set_ne' (by omega),hx.ob b q1];exact q3⟩
end Can
end Go.Proofs.YtnankhlanilbbaaGreat
end
section
namespace Go.Proofs.YtnankhlanilbbaaGreat
namespace Can
open Go Go.RowKit
set_option linter.unusedSimpArgs false
set_option linter.unusedVariables false
set_option maxRecDepth 4000
theorem gd_eval{H K:CH}{l:Int}(o2:K.ob H.nx= .cells [.int .i64 0, .int .i64 0, .string ⟨⟨[]⟩⟩, .int .i64 0, .slice none 0 0] 26 .ex)(o3:K.ob (H.nx+1)= .cells [.int .i64 0] 3 .ex)(o4:K.ob (H.nx+2)= .cells [.int .i64 0] 29 .ex)(hn:H.nx+4≤K.nx) :
 gdG [pP H.nx,pP (H.nx+1),pP (H.nx+2)] (wrV l) K ((((gdH K l).set H.nx (.cells [.int .i64 0, .int .i64 0, .string ⟨⟨[]⟩⟩, .int .i64 0, .slice none 0 0] 26 .ex)).set (H.nx+1) (.cells [.int .i64 l] 3 .ex)).set (H.nx+2) (.cells [.int .i64 22] 29 .ex)):=by
 refine⟨rfl,l,rfl,?_⟩
 unfold gdH
 conv in gdD=>reduce
 have hn0:H.nx≠K.nx:=by omega
 have hn1:H.nx+1≠K.nx:=by omega
 have hn2:H.nx+2≠K.nx:=by omega
 repeat' (first | (simp (disch:=first | omega | (decide +kernel)) only[↓RD,RU,accW_t,accW_f,isW,↓putF_get,↓putF_none,↓evF_t,↓evF_c,new_get,set_get,getD_zero,getD_succ,pop,lop,wop,isVal,isCell,Value.cells,ρ1,ρ4,↓reduceIte,Nat.reduceEqDiff,Nat.reduceAdd,Int.reduceOfNat,reduceCtorEq,ρ5,ρ6,ρ7,ρ8,ρ17,ρ19,ρ20,ρ21,ρ22,ρ23,Kd.isRo,ρ25,ρ26,bldV,ρ28,o2,o3,o4,hn0,hn1,hn2]) | (with_reducible first | refine condK_dec (fun _=> ?_) fun _=> ?_ | refine grd_dec (fun _=> ?_) fun _=> ?_ | refine egrd_dec (fun _=> ?_) fun _=> ?_))
theorem fn_ok{P:Program}{f:Nat}(h:(resFunc P (fun N ops=>resD P N ops) f).isSome=true):FuncOk P f (rF P f):=by
 refine resFunc_ok (fun N ops d h=>resD_ok h) (rd:=fun N ops=>resD P N ops) ?_
 unfold rF
 cases hr:resFunc P (fun N ops=>resD P N ops) f with
 | none=>rw[hr] at h;cases h
 | some r=>rfl
theorem prK_2{H:CH}{sl:Sl}:(prK H sl).ob H.nx= .cells [.int .i64 0, .int .i64 0, .string ⟨⟨[]⟩⟩, .int .i64 0, .slice none 0 0] 26 .ex:=by
 unfold prK
 rw[new_ne (by simp only[new_nx];omega),new_ne (by simp only[new_nx];omega),new_ne (by simp only[new_nx];omega)]
 exact new_get.trans (if_pos rfl)
theorem prK_3{H:CH}{sl:Sl}:(prK H sl).ob (H.nx+1)= .cells [.int .i64 0] 3 .ex:=by
 unfold prK
 rw[new_ne (by simp only[new_nx];omega),new_ne (by simp only[new_nx];omega)]
 exact new_get.trans (if_pos rfl)
theorem prK_4{H:CH}{sl:Sl}:(prK H sl).ob (H.nx+2)= .cells [.int .i64 0] 29 .ex:=by
 unfold prK
 rw[new_ne (by simp only[new_nx];omega)]
 exact new_get.trans (if_pos rfl)
def PrQ2 (H:CH)(ts:List PT)(v:Value)(H':CH):Prop:=∃vs,v=tupleV vs∧PrO H (parseT ts).1 (parseT ts).2.1 (parseT ts).2.2 vs H'∧TyV vs H'
def PrQ (H:CH)(ts:List PT)(v:Value)(H':CH):Prop:=∃vs,v=tupleV vs∧PrO H (parseT ts).1 (parseT ts).2.1 (parseT ts).2.2 vs H'
theorem top_gd{ts:List PT}:Gd (fun e=>gr ts (ts.length*64+100) (.top []) 0=some (.error e)) (fun l j=>gr ts (ts.length*64+100) (.top []) 0=some (.ok (l,j))∧htL l+1≤64*ts.length+2) (gr ts (ts.length*64+100) (.top []) 0):=by
 have h1:=gr_gd (ts:=ts) (ts.length*64+100) (.top []) 0 trivial (Nat.zero_le _) (by simp only[NT.rank];omega)
 have h2:=gr_ht (ts:=ts) (ts.length*64+100) (.top []) 0 trivial (Nat.zero_le _) (by simp only[NT.rank];omega)
 match h:gr ts (ts.length*64+100) (.top []) 0,h1,h2 with
 | some (.error e),_,_=>exact rfl
 | some (.ok (l,j)),h1,h2=>
   refine⟨rfl,?_⟩
   have h3:szL l+64*0+0≤0+64*j+0:=h2
   have h4:=h1.2.1
   have h5:=ht_szL l
   omega
theorem cS_inv{K:CH}{E:TE}{v w:Value}(h:CVR K E (cS v) w):w=v:=by
 cases h with
 | s h=>cases h;rfl
theorem own_row{K:CH}{E:TE}{A:Nat→Prop}{t sz:Nat}{e:TypeId}{gs:List (List SV)}{w:Value}(h:CVR K E (.own t e sz gs) w)(h1 : ∀b,Frz K E b→A b)(h2 : ∀b,E.σ t=some b→A b):SVR K A (.row sz gs) w:=by
 cases h with
 | own0=>exact .row0
 | own hne hb ho hk hg hs=>exact .row hne (h2 _ hb) ho hk hg (hs.mv fun b hb=>⟨h1 b hb,rfl⟩)
theorem parse_call{H:CH}{sl:Sl}{ts:List PT}(h:SlAt 3 CTk H sl.q sl.c ts)(hn:sl.n=ts.length)(hlen:ts.length≤4398046510976) : ∃v H',PrQ2 H ts v H'∧∀B,CallC Tryz.prog B 10 [.slice sl.q sl.n sl.c] H v H':=by
 refine guard_calls (T:=(tblG Tryz.prog LG GG)) (X:=pX) (G:=gdG) (g:=22) (d:=10) (x1:=2) (x2:=3) (x3:=4) (fun B=>tg_ok) (fun B f args H v H'=>fail_ok) (fn_ok (by kernel_rfl)) pr_body (by rfl) (by kernel_rfl) (Nat.lt_of_lt_of_eq (by decide:10<37) (by kernel_rfl:37=(rF Tryz.prog 10).ntmps)) gd_ret (fun B=>gd_pan) ?_
 refine(pr_r0 (sl:=sl) rfl).mono fun x fr1 H1 ⟨hx,hw⟩=>⟨hx,hw.mono fun x fr2 H2 ⟨hx,c2,c3,c4,c5,e⟩=>⟨hx,?_⟩⟩
 subst e
 have C:=pctx (prZ_ok h hn) hlen
 have hc : ∀t,t≠10→putF fr2 (some 10) undef t=fr2 t:=fun t ht=>if_neg ht
 have t0:=pr_start (cfr:=putF fr2 (some 10) undef) h ((hc 2 (by decide)).trans c2) ((hc 3 (by decide)).trans c3) ((hc 4 (by decide)).trans c4) ((hc 5 (by decide)).trans c5)
 let Rp:Value→Prop:=fun v=>∃e,gr ts (ts.length*64+100) (.top []) 0=some (.error e)∧v=wrV (nowT ts e).line
 have hpan : ∀v K3,PX (prK H sl) (some (H.nx+3)) Rp v K3→∃H4,gdG [fr2 2,fr2 3,fr2 4] v K3 H4∧∃vs,resL (mskF (.seq prP.2.2.1 (.seq prP.2.2.2.1 prP.2.2.2.2)) (putF fr2 (some 10) undef)) H4 (rF Tryz.prog 10).res=some vs∧PrQ2 H ts (tupleV vs) H4:=by
  rintro v K3 ⟨g1,g2,e,hg,rfl⟩
  rw[prK_nx] at g1 g2
  have o2:=(g2 H.nx (by omega) (fun e=>by injection e;omega)).trans prK_2
  have o3:=(g2 (H.nx+1) (by omega) (fun e=>by injection e;omega)).trans prK_3
  have o4:=(g2 (H.nx+2) (by omega) (fun e=>by injection e;omega)).trans prK_4
  rw[c2,c3,c4]
  refine⟨_,gd_eval o2 o3 o4 g1,?_⟩
  have hH3:HExt H K3:=⟨by omega,fun b hb=>(g2 b (by omega) (fun e=>by injection e;omega)).trans (prK_old hb)⟩
  have hm : ∀t,t≠10→(wrR (.seq prP.2.2.1 (.seq prP.2.2.2.1 prP.2.2.2.2))).elem t=false→mskF (.seq prP.2.2.1 (.seq prP.2.2.2.1 prP.2.2.2.2)) (putF fr2 (some 10) undef) t=fr2 t:=fun t ht hw=>by
   unfold mskF
   rw[hw]
   exact hc t ht
  have m2:=(hm 2 (by decide) (by kernel_rfl)).trans c2
  have m3:=(hm 3 (by decide) (by kernel_rfl)).trans c3
  have m4:=(hm 4 (by decide) (by kernel_rfl)).trans c4
  rw[pr_res]
  unfold gdH
  have hn0:H.nx≠K3.nx:=by omega
  have hn1:H.nx+1≠K3.nx:=by omega
  have hn2:H.nx+2≠K3.nx:=by omega
  repeat' (first | (simp (disch:=first | omega | (decide +kernel)) only[RU,↓evF_t,set_get,lop,resL,resV,tupleV,↓reduceIte,Nat.reduceEqDiff,Nat.reduceAdd,ρ5,ρ7,ρ8,ρ15,ρ18,m2,m3,m4]) | (with_reducible first | refine condK_dec (fun _=> ?_) fun _=> ?_ | refine grd_dec (fun _=> ?_) fun _=> ?_ | refine egrd_dec (fun _=> ?_) fun _=> ?_))
  refine⟨_,rfl,[_,_,_],rfl,?_⟩
  have ht:parseT ts=(zNd,(nowT ts e).line,22):=by unfold parseT;rw[hg]
  rw[ht]
  refine⟨⟨((((hH3.new _).set (by omega) _).set (Nat.le_refl _) _).set (by omega) _).set (by omega) _,_,rfl, .cons (.sc rfl) (.cons (.sc rfl) (.cons (.sc rfl) (.cons (.sc rfl) (.cons .row0 .nil))))⟩,?_⟩
  intro a0 a1 a2 a3 b n c r e
  simp at e
 refine wxR_seq ((twR_sound dt_ok t0 (pr_t3 (R:=Rp) C)).mono ?_ hpan)
 rintro x cfr3 K3 ⟨fr3,st3,E3,t1,s1,rfl,⟨nt,u,rfl⟩,g2,g3,g4,g5,g6⟩
 have t1':TR (prZ H sl) (prK H sl) (some (H.nx+3)) K3 ⟨nt,[(u,55,(oR sl 0).2.2),(u,26,nC 1 (nowT ts 0).line [] 0 (.s (.row 5 [])))]⟩ (prG H) cfr3 E3:=by
  refine { t1 with frm:=fun t=> ?_ }
  match t with
  | 0=>exact .bad
  | 1=>exact .bad
  | 2=>have:=t1.frm 2;rw[g2] at this;exact this
  | 3=>have:=t1.frm 3;rw[g3] at this;exact this
  | 4=>have:=t1.frm 4;rw[g4] at this;exact this
  | 5=>have:=t1.frm 5;rw[g5] at this;exact this
  | 6=>have:=t1.frm 6;rw[g6] at this;exact this
  | n+7=>exact .bad
 show WxR (tblG Tryz.prog LG GG) pX (.seq prP.2.2.2.1 prP.2.2.2.2) cfr3 K3 _ _
 refine wxR_seq ((twR_sound dt_ok t1' (pr_tL C (fun m _=>pall C m) top_gd fun e he=>⟨e,he,rfl⟩)).mono ?_ hpan)
 rintro x cfr4 K4 ⟨fr4,st4,E4,t2,s2,rfl,⟨l,j,nt2,u1,u2,c,⟨hgr,hht⟩,hacc,rfl⟩,g2,g3,g4,g6⟩
 have hp : ∀t l,fr4 t=rS (pP l)→cfr4 t=pP l:=fun t l e=>by
  have:=t2.frm t
  rw[e] at this
  exact raw_rel this rfl
 have hhid:E4.hid=fun b=>b<H.nx+4∧b≠H.nx+3:=s2.hid.trans s1.hid
 have hr0:E4.ρ 0=some (H.nx+3):=s2.rho _ _ (s1.rho _ _ rfl)
 obtain⟨b,os,hb1,hb2,hb3⟩:=t2.obs 1 _ _ _ rfl
 have h6:cfr4 6=pP b:=by
  have:=t2.frm 6
  rw[g6] at this
  obtain⟨b',q1,q2⟩:=this.ptr_inv
  rw[hb1] at q1;cases q1
  exact q2
 obtain⟨hbn,hbk,_⟩:=t2.rho 1 b hb1
 have hne3:b≠H.nx+3:=fun e=>by
  have:=t2.rinj 0 1 b (by rw[hr0,e]) hb1
  cases this
 have hb4:H.nx+4≤b:=by
  rcases hbk with q | q
  ·rw[prK_nx] at q;exact q
  ·injection q with q;exact absurd q.symm hne3
 have hnx:=t2.nx
 rw[prK_nx] at hnx
 have hfz : ∀b,Frz K4 E4 b→H.nx+4≤b∧b<K4.nx:=fun b ⟨f1,f2,f3,f4⟩=>by
  rw[hhid] at f2
  have:b≠H.nx+3:=fun e=>f4 0 (by rw[hr0,e])
  exact⟨by omega,f1⟩
 have hkeep : ∀b,b<H.nx+3→K4.ob b=(prK H sl).ob b:=fun b hb=>t2.keep b (by rw[prK_nx];omega) (fun e=>by injection e;omega)
 have hw : ∀w,CVR K4 E4 c w→SVR K4 (fun b=>H.nx+4≤b∧b<K4.nx) (.row 5 (ndsS l)) w:=fun w hc=>by
  rcases hacc with ⟨rfl,rfl⟩ | ⟨t,rfl⟩
  ·cases hc with
   | s h=>exact h.mv fun b hb=>⟨hfz b hb,rfl⟩
  ·exact own_row hc hfz fun b hb=>⟨by have:=(t2.sig t b hb).1;rw[prK_nx] at this;exact this,(t2.sig t b hb).2.1⟩
 have hty : ∀w,CVR K4 E4 c w→∀b n c',w= .slice (some ⟨b,0,none⟩) n c'→b<K4.nx∧H.nx+4≤b∧∃cs kd,K4.ob b= .cells cs 26 kd:=fun w hc b n c' ew=>by
  subst ew
  rcases hacc with ⟨rfl,rfl⟩ | ⟨t,rfl⟩
  ·cases hc with
   | s h=>cases h with | row hne _ _ _ _ _=>exact absurd rfl hne.1
  ·generalize ndsS l=gs at hc
   cases hc with
   | own hne hb ho hk hg hs=>exact⟨(t2.sig t b hb).2.1,by have:=(t2.sig t b hb).1;rw[prK_nx] at this;exact this,_,_,ho⟩
 cases hb3 with | cons a1 hb3=>
 cases hb3 with | cons a2 hb3=>
 cases hb3 with | cons a3 hb3=>
 cases hb3 with | cons a4 hb3=>
 cases hb3 with | cons a5 hb3=>
 cases hb3
 have e1:=cS_inv a1
 have e2:=cS_inv a2
 have e3:=cS_inv a3
 have e4:=cS_inv a4
 subst e1 e2 e3 e4
 refine .inl ((pr_rest (H:=H) (hp 2 _ g2) (hp 3 _ g3) (hp 4 _ g4) h6 ((hkeep _ (by omega)).trans prK_2) ((hkeep _ (by omega)).trans prK_3) ((hkeep _ (by omega)).trans prK_4) hb2 hnx hbn hb4 (hw _ a5) (by omega) (fun b hb=>(hkeep b (by omega)).trans (prK_old hb)) (hty _ a5)).mono fun x fr' K' ⟨q1,vs,q2,q3,q4⟩=>⟨.inr q1,vs,?_,vs,rfl,?_,q4⟩)
 ·rw[pr_res];exact q2
 ·have ht:parseT ts=if 60<htL l+1 then (zNd,0,11) else (nd 1 (hdLine (nowT ts 0).line l) l,0,0):=by unfold parseT;rw[hgr]
  rw[ht]
  by_cases h60:60<htL l+1
  ·rw[if_pos h60,if_pos h60] at q3
   rw[if_pos h60]
   exact q3
  ·rw[if_neg h60,if_neg h60] at q3
   rw[if_neg h60]
   exact q3
end Can
end Go.Proofs.YtnankhlanilbbaaGreat
end
section
namespace Go.Proofs.YtnankhlanilbbaaGreat
namespace Can
open Go Go.RowKit
set_option linter.unusedSimpArgs false
set_option linter.unusedVariables false
set_option maxRecDepth 4000
def symsL:List (List UInt8):=S3++S2++S1.map fun c=> [c]
set_option maxHeartbeats 2000000 in
theorem isWord_wp(H:CH)(x:List UInt8):WpF (tblG Tryz.prog LG GG) 62 [.string (str x)] H fun v K=>v= .bool (decide (x∈wordsL))∧K=H:=by
 refine wpF_rG (by rfl) (by kernel_rfl) ?_;(conv in (rF _ _).body=>reduce);(conv in (rF _ _).res=>reduce)
 repeat' (first | (simp (disch:=first | omega | (decide +kernel)) only[↓RD,RU,↓putF_get,↓evF_t,↓evF_c,getD_zero,pop,resL,resV,tupleV,↓reduceIte,Nat.reduceEqDiff,reduceCtorEq,str_eq,u8k]) | (with_reducible first | refine condK_dec (fun _=> ?_) fun _=> ?_ | refine grd_dec (fun _=> ?_) fun _=> ?_ | refine egrd_dec (fun _=> ?_) fun _=> ?_))
 all_goals first | (subst_vars;rfl) | (rename_i h1 h2 h3 h4 h5 h6 h7 h8 h9 h10 h11 h12 h13 h14 h15 h16 h17 h18 h19 h20 h21 h22 h23 h24 h25 h26 h27 h28 h29 h30 h31;apply congrArg Value.bool;symm;apply decide_eq_false;intro hx;simp only[wordsL,List.map_cons,List.map_nil,List.cons_append,List.nil_append,List.mem_cons,List.not_mem_nil,or_false] at hx;exact hx.elim h1 fun hx=>hx.elim h2 fun hx=>hx.elim h3 fun hx=>hx.elim h4 fun hx=>hx.elim h5 fun hx=>hx.elim h6 fun hx=>hx.elim h7 fun hx=>hx.elim h8 fun hx=>hx.elim h9 fun hx=>hx.elim h10 fun hx=>hx.elim h11 fun hx=>hx.elim h12 fun hx=>hx.elim h13 fun hx=>hx.elim h14 fun hx=>hx.elim h15 fun hx=>hx.elim h16 fun hx=>hx.elim h17 fun hx=>hx.elim h18 fun hx=>hx.elim h19 fun hx=>hx.elim h20 fun hx=>hx.elim h21 fun hx=>hx.elim h22 fun hx=>hx.elim h23 fun hx=>hx.elim h24 fun hx=>hx.elim h25 fun hx=>hx.elim h26 fun hx=>hx.elim h27 fun hx=>hx.elim h28 fun hx=>hx.elim h29 fun hx=>hx.elim h30 fun hx=>h31 hx)
theorem isWord_iff{H:CH}{x:List UInt8}{Q:Value→CH→Prop}:WpF (tblG Tryz.prog LG GG) 62 [.string ⟨⟨x⟩⟩] H Q↔Q (.bool (decide (x∈wordsL))) H:=wpF_iff (isWord_wp H x)
set_option maxHeartbeats 2000000 in
theorem isSymbol_wp(H:CH)(x:List UInt8):WpF (tblG Tryz.prog LG GG) 65 [.string (str x)] H fun v K=>v= .bool (decide (x∈symsL))∧K=H:=by
 refine wpF_rG (by rfl) (by kernel_rfl) ?_;(conv in (rF _ _).body=>reduce);(conv in (rF _ _).res=>reduce)
 repeat' (first | (simp (disch:=first | omega | (decide +kernel)) only[↓RD,RU,↓putF_get,↓evF_t,↓evF_c,getD_zero,pop,resL,resV,tupleV,↓reduceIte,Nat.reduceEqDiff,reduceCtorEq,str_eq,u8k]) | (with_reducible first | refine condK_dec (fun _=> ?_) fun _=> ?_ | refine grd_dec (fun _=> ?_) fun _=> ?_ | refine egrd_dec (fun _=> ?_) fun _=> ?_))
 all_goals first | (subst_vars;rfl) | (rename_i h1 h2 h3 h4 h5 h6 h7 h8 h9 h10 h11 h12 h13 h14 h15 h16 h17 h18 h19 h20 h21 h22 h23 h24 h25 h26 h27 h28 h29 h30;apply congrArg Value.bool;symm;apply decide_eq_false;intro hx;simp only[symsL,S1,S2,S3,List.map_cons,List.map_nil,List.cons_append,List.nil_append,List.mem_cons,List.not_mem_nil,or_false] at hx;rcases hx with hx|hx|hx|hx|hx|hx|hx|hx|hx|hx|hx|hx|hx|hx|hx|hx|hx|hx|hx|hx|hx|hx|hx|hx|hx|hx|hx|hx|hx|hx<;>first | exact h1 hx | exact h2 hx | exact h3 hx | exact h4 hx | exact h5 hx | exact h6 hx | exact h7 hx | exact h8 hx | exact h9 hx | exact h10 hx | exact h11 hx | exact h12 hx | exact h13 hx | exact h14 hx | exact h15 hx | exact h16 hx | exact h17 hx | exact h18 hx | exact h19 hx | exact h20 hx | exact h21 hx | exact h22 hx | exact h23 hx | exact h24 hx | exact h25 hx | exact h26 hx | exact h27 hx | exact h28 hx | exact h29 hx | exact h30 hx)
theorem isSymbol_iff{H:CH}{x:List UInt8}{Q:Value→CH→Prop}:WpF (tblG Tryz.prog LG GG) 65 [.string ⟨⟨x⟩⟩] H Q↔Q (.bool (decide (x∈symsL))) H:=wpF_iff (isSymbol_wp H x)
end Can
end Go.Proofs.YtnankhlanilbbaaGreat
end
section
namespace Go.Proofs.YtnankhlanilbbaaGreat
namespace Can
open Go Go.RowKit
set_option linter.unusedSimpArgs false
set_option linter.unusedVariables false
set_option maxRecDepth 4000
def DgJ (p:Nat→Bool)(t:List UInt8)(j:Nat)(K:CH)(n:Nat)(v:Value)(K1:CH):Prop:=∃i:Nat,n=t.length-i∧j≤i∧i≤t.length∧v= .int .i64 (i:Nat)∧K1=K∧i+nW p (t.drop i)=j+nW p (t.drop j)
theorem getD_hd{t:List UInt8}{i:Nat}(h:i<t.length):t[i]? = some t[i]∧hd (t.drop i)=t[i].toNat:=⟨List.getElem?_eq_getElem h,hd_drop h⟩
theorem digits_wp(K:CH){t:List UInt8}{j:Nat}(hj:j≤t.length)(hl:t.length≤100000):WpF (tblG Tryz.prog LG GG) 96 [.string (str t), .int .i64 (j:Nat)] K fun v K'=>v= .int .i64 (j+digN (t.drop j):Nat)∧K'=K:=by
 refine wpF_rG (by rfl) (by kernel_rfl) ?_;(conv in (rF _ _).body=>reduce);(conv in (rF _ _).res=>reduce)
 repeat' (first | (simp (disch:=first | omega | (decide +kernel)) only[↓RD,RU,↓evF_c,pop,Int.reduceOfNat]) | (with_reducible first | refine condK_dec (fun _=> ?_) fun _=> ?_ | refine grd_dec (fun _=> ?_) fun _=> ?_ | refine egrd_dec (fun _=> ?_) fun _=> ?_))
 refine loop_w (fun n fr K1=>DgJ isDigN t j K n (fr 1) K1) (n:=t.length-j) ⟨j,rfl,Nat.le_refl _,hj,by(repeat' (first | (simp (disch:=first | omega | (decide +kernel)) only[↓putF_get,getD_zero,getD_succ,↓reduceIte,Nat.reduceEqDiff]) | (with_reducible first | refine condK_dec (fun _=> ?_) fun _=> ?_ | refine grd_dec (fun _=> ?_) fun _=> ?_ | refine egrd_dec (fun _=> ?_) fun _=> ?_));all_goals rfl),rfl,rfl⟩ ?_
 rintro n fr K1 ⟨i,rfl,hji,hi,f1,rfl,hnw⟩ hag
 by_cases hil:i<t.length
 ·obtain⟨g1,g2⟩:=getD_hd hil
  by_cases hd1:isDigN t[i].toNat=true
  ·have hy:=nW_yes (p:=isDigN) hil (by rw[g2];exact hd1)
   repeat' (first | (simp (disch:=first | omega | (decide +kernel)) only[↓RD,RU,↓putF_get,↓evF_t,↓evF_c,getD_zero,pop,ρ0,ρ1,ρ4,↓reduceIte,Nat.reduceEqDiff,reduceCtorEq,ρ29,hag,f1,str_size,str_get,g1,rdigit_iff,hd1]) | (with_reducible first | refine condK_dec (fun _=> ?_) fun _=> ?_ | refine grd_dec (fun _=> ?_) fun _=> ?_ | refine egrd_dec (fun _=> ?_) fun _=> ?_))
   all_goals exact⟨t.length-(i+1),by omega,i+1,rfl,by omega,by omega,rfl,rfl,by omega⟩
  ·have hn:=nW_no (p:=isDigN) (l:=t.drop i) (.inr (by rw[g2];simpa using hd1))
   have e:j+digN (t.drop j)=i:=by unfold digN;omega
   rw[e]
   repeat' (first | (simp (disch:=first | omega | (decide +kernel)) only[↓RD,RU,↓putF_get,↓evF_t,getD_zero,pop,resL,resV,tupleV,ρ0,ρ1,ρ4,↓reduceIte,Nat.reduceEqDiff,reduceCtorEq,ρ29,hag,f1,str_size,str_get,g1,rdigit_iff,hd1]) | (with_reducible first | refine condK_dec (fun _=> ?_) fun _=> ?_ | refine grd_dec (fun _=> ?_) fun _=> ?_ | refine egrd_dec (fun _=> ?_) fun _=> ?_))
 ·have hn:=nW_no (p:=isDigN) (l:=t.drop i) (.inl (List.drop_eq_nil_of_le (by omega)))
  have e:j+digN (t.drop j)=i:=by unfold digN;omega
  rw[e]
  repeat' (first | (simp (disch:=first | omega | (decide +kernel)) only[↓RD,RU,↓putF_get,↓evF_t,↓evF_c,getD_zero,pop,resL,resV,tupleV,↓reduceIte,Nat.reduceEqDiff,reduceCtorEq,hag,f1,str_size]) | (with_reducible first | refine condK_dec (fun _=> ?_) fun _=> ?_ | refine grd_dec (fun _=> ?_) fun _=> ?_ | refine egrd_dec (fun _=> ?_) fun _=> ?_))
theorem digits_iff{K:CH}{t:List UInt8}{j:Nat}(hj:j≤t.length)(hl:t.length≤100000){Q:Value→CH→Prop}:WpF (tblG Tryz.prog LG GG) 96 [.string ⟨⟨t⟩⟩, .int .i64 (j:Nat)] K Q↔Q (.int .i64 (j+digN (t.drop j):Nat)) K:=wpF_iff (digits_wp K hj hl)
theorem nW_full{p:Nat→Bool} : ∀ {l:List UInt8},(∀x∈l,p x.toNat=true)→nW p l=l.length
 | [],_=>rfl
 | c::r,h=>by
   simp only[nW]
   rw[if_pos (h c (by simp)),nW_full (fun x hx=>h x (by simp[hx])),List.length_cons]
theorem blanks_wp(K:CH){t:List UInt8}{j:Nat}(hj:j≤t.length)(hl:t.length≤100000)(hno : ∀x∈t,x.toNat≠10):WpF (tblG Tryz.prog LG GG) 27 [.string (str t), .int .i64 (j:Nat)] K fun v K'=>v= .int .i64 (j+blkN (t.drop j):Nat)∧K'=K:=by
 have hrest : ∀i,i≤t.length→nW (fun n=>decide (n≠10)) (t.drop i)=t.length-i:=fun i hi=>by
  rw[nW_full (fun x hx=>decide_eq_true (hno x (List.mem_of_mem_drop hx))),List.length_drop]
 refine wpF_rG (by rfl) (by kernel_rfl) ?_;(conv in (rF _ _).body=>reduce);(conv in (rF _ _).res=>reduce)
 repeat' (first | (simp (disch:=first | omega | (decide +kernel)) only[↓RD,RU,↓evF_c,pop,Int.reduceOfNat]) | (with_reducible first | refine condK_dec (fun _=> ?_) fun _=> ?_ | refine grd_dec (fun _=> ?_) fun _=> ?_ | refine egrd_dec (fun _=> ?_) fun _=> ?_))
 refine loop_w (fun n fr K1=>DgJ (fun n=>decide (n=32)) t j K n (fr 1) K1) (n:=t.length-j) ⟨j,rfl,Nat.le_refl _,hj,by(repeat' (first | (simp (disch:=first | omega | (decide +kernel)) only[↓putF_get,getD_zero,getD_succ,↓reduceIte,Nat.reduceEqDiff]) | (with_reducible first | refine condK_dec (fun _=> ?_) fun _=> ?_ | refine grd_dec (fun _=> ?_) fun _=> ?_ | refine egrd_dec (fun _=> ?_) fun _=> ?_));all_goals rfl),rfl,rfl⟩ ?_
 rintro n fr K1 ⟨i,rfl,hji,hi,f1,rfl,hnw⟩ hag
 by_cases hil:i<t.length
 ·obtain⟨g1,g2⟩:=getD_hd hil
  by_cases hd1:t[i].toNat=32
  ·have hy:=nW_yes (p:=fun n=>decide (n=32)) hil (by rw[g2];exact decide_eq_true hd1)
   repeat' (first | (simp (disch:=first | omega | (decide +kernel)) only[↓RD,RU,↓putF_get,↓evF_t,↓evF_c,getD_zero,pop,ρ4,↓reduceIte,Nat.reduceEqDiff,reduceCtorEq,ρ29,hag,f1,str_size,str_get,g1,hd1]) | (with_reducible first | refine condK_dec (fun _=> ?_) fun _=> ?_ | refine grd_dec (fun _=> ?_) fun _=> ?_ | refine egrd_dec (fun _=> ?_) fun _=> ?_))
   all_goals exact⟨t.length-(i+1),by omega,i+1,rfl,by omega,by omega,rfl,rfl,by omega⟩
  ·have hn:=nW_no (p:=fun n=>decide (n=32)) (l:=t.drop i) (.inr (by rw[g2];exact decide_eq_false hd1))
   have ew:nW (fun n=>decide (n=32)) (t.drop j)=i-j:=by omega
   have ed:(t.drop j).drop (i-j)=t.drop i:=by rw[List.drop_drop];congr 1;omega
   by_cases h35:t[i].toNat=35
   ·have e:j+blkN (t.drop j)=t.length:=by
     unfold blkN
     rw[ew,ed,g2,if_pos h35,hrest i (by omega)]
     omega
    rw[e]
    repeat' (first | (simp (disch:=first | omega | (decide +kernel)) only[↓RD,RU,↓putF_get,↓evF_t,↓evF_c,getD_zero,pop,resL,resV,tupleV,ρ4,↓reduceIte,Nat.reduceEqDiff,reduceCtorEq,ρ29,hag,f1,str_size,str_get,g1,h35]) | (with_reducible first | refine condK_dec (fun _=> ?_) fun _=> ?_ | refine grd_dec (fun _=> ?_) fun _=> ?_ | refine egrd_dec (fun _=> ?_) fun _=> ?_))
   ·have e:j+blkN (t.drop j)=i:=by
     unfold blkN
     rw[ew,ed,g2,if_neg h35]
     omega
    rw[e]
    repeat' (first | (simp (disch:=first | omega | (decide +kernel)) only[↓RD,RU,↓putF_get,↓evF_t,↓evF_c,getD_zero,pop,resL,resV,tupleV,ρ4,↓reduceIte,Nat.reduceEqDiff,reduceCtorEq,ρ29,hag,f1,str_size,str_get,g1]) | (with_reducible first | refine condK_dec (fun _=> ?_) fun _=> ?_ | refine grd_dec (fun _=> ?_) fun _=> ?_ | refine egrd_dec (fun _=> ?_) fun _=> ?_))
 ·have hn:=nW_no (p:=fun n=>decide (n=32)) (l:=t.drop i) (.inl (List.drop_eq_nil_of_le (by omega)))
  have ew:nW (fun n=>decide (n=32)) (t.drop j)=i-j:=by omega
  have ed:(t.drop j).drop (i-j)= []:=by rw[List.drop_drop];exact List.drop_eq_nil_of_le (by omega)
  have e:j+blkN (t.drop j)=i:=by
   unfold blkN
   rw[ew,ed,if_neg (by decide)]
   omega
  rw[e]
  repeat' (first | (simp (disch:=first | omega | (decide +kernel)) only[↓RD,RU,↓putF_get,↓evF_t,↓evF_c,getD_zero,pop,resL,resV,tupleV,↓reduceIte,Nat.reduceEqDiff,reduceCtorEq,hag,f1,str_size]) | (with_reducible first | refine condK_dec (fun _=> ?_) fun _=> ?_ | refine grd_dec (fun _=> ?_) fun _=> ?_ | refine egrd_dec (fun _=> ?_) fun _=> ?_))
theorem blanks_iff{K:CH}{t:List UInt8}{j:Nat}(hj:j≤t.length)(hl:t.length≤100000)(hno : ∀x∈t,x.toNat≠10){Q:Value→CH→Prop}:WpF (tblG Tryz.prog LG GG) 27 [.string ⟨⟨t⟩⟩, .int .i64 (j:Nat)] K Q↔Q (.int .i64 (j+blkN (t.drop j):Nat)) K:=wpF_iff (blanks_wp K hj hl hno)
def basV (n:Nat):Int:=if hexN n=16 then -1 else hexN n
theorem base_wp(K:CH){t:List UInt8}{j:Nat}(hl:t.length≤100000):WpF (tblG Tryz.prog LG GG) 97 [.string (str t), .int .i64 (j:Nat)] K fun v K'=>v= .int .i64 (basV (hd (t.drop j)))∧K'=K:=by
 refine wpF_rG (by rfl) (by kernel_rfl) ?_;(conv in (rF _ _).body=>reduce);(conv in (rF _ _).res=>reduce)
 by_cases hil:j<t.length
 ·obtain⟨g1,g2⟩:=getD_hd hil
  rw[g2]
  have hb:=t[j].toNat_lt
  obtain⟨c,hc⟩ : ∃c,t[j].toNat=c:=⟨_,rfl⟩
  rw[hc] at hb⊢
  have g1':(t[j]?).map (fun b=>Value.int .u8 (b.toNat:Int))=some (.int .u8 (c:Nat)):=by rw[g1,←hc];rfl
  by_cases h1:48≤c∧c≤57
  ·have hd1:isDigN c=true:=decide_eq_true h1
   have e:basV c=(c:Int)-48:=by unfold basV hexN;rw[if_pos h1,if_neg (by omega)];omega
   rw[e]
   repeat' (first | (simp (disch:=first | omega | (decide +kernel)) only[↓RD,RU,↓putF_get,↓evF_t,↓evF_c,getD_zero,getD_succ,pop,resL,resV,tupleV,ρ0,ρ1,↓reduceIte,Nat.reduceEqDiff,Int.reduceOfNat,Int.reduceNegSucc,reduceCtorEq,ρ29,str_size,str_get,g1',rdigit_iff,hd1]) | (with_reducible first | refine condK_dec (fun _=> ?_) fun _=> ?_ | refine grd_dec (fun _=> ?_) fun _=> ?_ | refine egrd_dec (fun _=> ?_) fun _=> ?_))
  ·have hd1:isDigN c=false:=decide_eq_false h1
   repeat' (first | (simp (disch:=first | omega | (decide +kernel)) only[↓RD,RU,↓putF_get,↓evF_t,↓evF_c,getD_zero,getD_succ,pop,resL,resV,tupleV,ρ0,ρ1,↓reduceIte,Nat.reduceEqDiff,Int.reduceOfNat,Int.reduceNegSucc,reduceCtorEq,ρ29,str_size,str_get,g1',rdigit_iff,hd1]) | (with_reducible first | refine condK_dec (fun _=> ?_) fun _=> ?_ | refine grd_dec (fun _=> ?_) fun _=> ?_ | refine egrd_dec (fun _=> ?_) fun _=> ?_))
   all_goals
    unfold basV hexN
    rw[if_neg h1]
    (repeat' split)<;>first | rfl | (exfalso;omega) | (apply congrArg (Value.int .i64);omega)
 ·rw[List.drop_eq_nil_of_le (by omega)]
  repeat' (first | (simp (disch:=first | omega | (decide +kernel)) only[↓RD,RU,↓putF_get,↓evF_t,↓evF_c,getD_zero,getD_succ,pop,resL,resV,tupleV,↓reduceIte,Nat.reduceEqDiff,Int.reduceOfNat,Int.reduceNegSucc,reduceCtorEq,str_size]) | (with_reducible first | refine condK_dec (fun _=> ?_) fun _=> ?_ | refine grd_dec (fun _=> ?_) fun _=> ?_ | refine egrd_dec (fun _=> ?_) fun _=> ?_))
  all_goals rfl
theorem stands_wp(K:CH){n:Nat}(hn:n<256):WpF (tblG Tryz.prog LG GG) 98 [.int .u8 (n:Nat)] K fun v K'=>v= .int .u8 (stdN n:Nat)∧K'=K:=by
 refine wpF_rG (by rfl) (by kernel_rfl) ?_;(conv in (rF _ _).body=>reduce);(conv in (rF _ _).res=>reduce)
 repeat' (first | (simp (disch:=first | omega | (decide +kernel)) only[↓RD,RU,↓putF_get,↓evF_t,↓evF_c,getD_zero,pop,resL,resV,tupleV,↓reduceIte,Nat.reduceEqDiff,Int.reduceOfNat,reduceCtorEq]) | (with_reducible first | refine condK_dec (fun _=> ?_) fun _=> ?_ | refine grd_dec (fun _=> ?_) fun _=> ?_ | refine egrd_dec (fun _=> ?_) fun _=> ?_))
 all_goals
  unfold stdN
  (repeat' split)<;>first | rfl | (exfalso;omega) | (apply congrArg (Value.int .u8);omega)
end Can
end Go.Proofs.YtnankhlanilbbaaGreat
end
section
namespace Go.Proofs.YtnankhlanilbbaaGreat
namespace Can
open Go Go.RowKit
set_option linter.unusedSimpArgs false
set_option linter.unusedVariables false
set_option maxRecDepth 4000
theorem seq_cut{T:Tbl}{a b:RCode}{fr:Fr}{H:CH}{Q:CExit→Fr→CH→Prop}(I:Fr→CH→Prop)(h:WpR T a fr H fun x fr' H'=>x= .normal∧I fr' H')(hb : ∀fr' H',I fr' H'→(∀t,nw a t=true→fr' t=fr t)→WpR T b fr' H' Q):WpR T (.seq a b) fr H Q:=by
 refine r_seq.2 ?_
 refine(wpR_keep h).mono fun x fr' H' ⟨⟨hx,hi⟩,hk⟩=> ?_
 subst hx
 exact hb fr' H' hi hk
def pieC (r:Option (Nat×List UInt8×Nat))(j:Nat):List Value:=match r with
 | some (k,x,n)=> [.int .i64 k, .string (str x), .int .i64 (j+n:Nat)]
 | none=> [.int .i64 (-1), .string ⟨⟨[]⟩⟩, .int .i64 0]
theorem get_some{t:List UInt8}{i:Nat}(h:i<t.length):(t[i]?).map (fun b=>Value.int .u8 (b.toNat:Int))=some (.int .u8 (hd (t.drop i):Nat)):=by
 rw[List.getElem?_eq_getElem h,hd_drop h];rfl
theorem hd_out{t:List UInt8}{i:Nat}(h : ¬i<t.length):hd (t.drop i)=0:=by
 rw[List.drop_eq_nil_of_le (by omega)];rfl
set_option maxHeartbeats 2000000 in
theorem number_r{K:CH}{t:List UInt8}{j:Nat}(hj:j<t.length)(hl:t.length≤20000)(hdg:isDigN (hd (t.drop j))=true) :
 WpF (tblG Tryz.prog LG GG) 63 [.string (str t), .int .i64 (j:Nat)] K fun v K'=>HExt K K'∧v= .agg (pieC (if numBad (t.drop j)=true then none else some (numK (t.drop j),(t.drop j).take (numN (t.drop j)),numN (t.drop j))) j).toArray:=by
 obtain⟨l,hl'⟩ : ∃l,t.drop j=l:=⟨_,rfl⟩
 have hll:l.length=t.length-j:=by rw[←hl'];simp
 have hdr : ∀i,t.drop (j+i)=l.drop i:=fun i=>by rw[←hl',List.drop_drop]
 rw[hl'] at hdg⊢
 refine wpF_rG (by rfl) (by kernel_rfl) ?_;(conv in (rF _ _).body=>reduce);(conv in (rF _ _).res=>reduce)
 refine seq_cut (fun fr K1=>fr 4= .pointer (some ⟨K.nx,0,none⟩)∧K1=K.new (.cells [.int .i64 0, .string ⟨⟨[]⟩⟩, .int .i64 0] 64 .ex)) (by repeat' (first | (simp (disch:=first | omega | (decide +kernel)) only[↓RD,RU,↓putF_get,aop,akV,↓reduceIte,Int.reduceOfNat]) | (with_reducible first | refine condK_dec (fun _=> ?_) fun _=> ?_ | refine grd_dec (fun _=> ?_) fun _=> ?_ | refine egrd_dec (fun _=> ?_) fun _=> ?_))) ?_
 rintro fr1 K1 ⟨f4,rfl⟩ hag1
 refine seq_cut (fun fr K1=>fr 5= .int .i64 5∧K1=K.new (.cells [.int .i64 0, .string ⟨⟨[]⟩⟩, .int .i64 0] 64 .ex)) (by repeat' (first | (simp (disch:=first | omega | (decide +kernel)) only[↓RD,RU,↓putF_get,↓evF_c,pop,↓reduceIte,Int.reduceOfNat]) | (with_reducible first | refine condK_dec (fun _=> ?_) fun _=> ?_ | refine grd_dec (fun _=> ?_) fun _=> ?_ | refine egrd_dec (fun _=> ?_) fun _=> ?_))) ?_
 rintro fr2 K1 ⟨f5,rfl⟩ hag2
 have hdgs:=fun(K:CH) (Q:Value→CH→Prop) (i:Nat) (hi:j+i≤t.length)=> @digits_iff K t (j+i) hi (by omega) Q
 simp only[hdr] at hdgs
 have hd0:=fun K Q=>hdgs K Q 0 (by omega)
 simp only[Nat.add_zero,List.drop_zero] at hd0
 obtain⟨a,ha⟩ : ∃a,digN l=a:=⟨_,rfl⟩
 have hal:=digN_le (l:=l)
 rw[ha] at hd0 hal
 refine seq_cut (fun fr K1=>fr 6= .int .i64 (j+a:Nat)∧K1=K.new (.cells [.int .i64 0, .string ⟨⟨[]⟩⟩, .int .i64 0] 64 .ex)) (by repeat' (first | (simp (disch:=first | omega | (decide +kernel)) only[↓RD,RU,↓putF_get,↓evF_t,getD_zero,getD_succ,pop,ρ0,ρ1,↓reduceIte,Nat.reduceEqDiff,hag1,hag2,hd0]) | (with_reducible first | refine condK_dec (fun _=> ?_) fun _=> ?_ | refine grd_dec (fun _=> ?_) fun _=> ?_ | refine egrd_dec (fun _=> ?_) fun _=> ?_))) ?_
 rintro fr3 K1 ⟨f6,rfl⟩ hag3
 obtain⟨A,hA⟩ : ∃A,numA l=A:=⟨_,rfl⟩
 have hAl:=numA_len (l:=l)
 rw[hA] at hAl
 have hgs:=fun(i:Nat) (hi:j+i<t.length)=>get_some hi
 simp only[hdr] at hgs
 refine seq_cut (fun fr K1=>fr 5= .int .i64 (if fracN (l.drop a)=0 then 5 else 6:Nat)∧fr 6= .int .i64 (j+A:Nat)∧K1=K.new (.cells [.int .i64 0, .string ⟨⟨[]⟩⟩, .int .i64 0] 64 .ex)) ?_ ?_
 ·by_cases hf:hd (l.drop a)=46∧isDigN (hd (l.drop (a+1)))=true
  ·obtain⟨hf1,hf2⟩:=hf
   have hin:a+1<l.length:=by
    have:=dig_lt hf2
    exact this
   have g1:=hgs a (by omega)
   have g2:=hgs (a+1) (by omega)
   rw[hf1] at g1
   have e:A=a+1+digN (l.drop (a+1)):=by
    rw[←hA]
    unfold numA fracN
    rw[ha,if_pos ⟨hf1,by rw[List.drop_drop];exact hf2⟩,List.drop_drop];omega
   have hd1:=fun K Q=>hdgs K Q (a+1) (by omega)
   have e2:fracN (l.drop a)≠0:=by
    unfold fracN
    rw[if_pos ⟨hf1,by rw[List.drop_drop];exact hf2⟩];omega
   rw[if_neg e2]
   simp only[←Nat.add_assoc] at g2 hd1
   repeat' (first | (simp (disch:=first | omega | (decide +kernel)) only[↓RD,RU,↓putF_get,↓evF_t,↓evF_c,getD_zero,pop,ρ0,ρ1,↓reduceIte,Nat.reduceEqDiff,Int.reduceOfNat,reduceCtorEq,ρ29,hag1,hag2,hag3,f6,str_size,str_get,g1,g2,rdigit_iff,hf2,n1,hd1]) | (with_reducible first | refine condK_dec (fun _=> ?_) fun _=> ?_ | refine grd_dec (fun _=> ?_) fun _=> ?_ | refine egrd_dec (fun _=> ?_) fun _=> ?_))
   all_goals exact⟨rfl,congrArg (Value.int .i64) (by omega)⟩
  ·have e2:fracN (l.drop a)=0:=by
    unfold fracN
    rw[if_neg (fun g=>hf ⟨g.1,by have:=g.2;rw[List.drop_drop] at this;exact this⟩)]
   have e:A=a:=by rw[←hA];unfold numA;rw[ha,e2];rfl
   rw[if_pos e2,e]
   by_cases hin:a+1<l.length
   ·have g1:=hgs a (by omega)
    have g2:=hgs (a+1) (by omega)
    simp only[←Nat.add_assoc] at g2
    by_cases hf1:hd (l.drop a)=46
    ·have hf2:isDigN (hd (l.drop (a+1)))=false:=by simpa using fun g=>hf ⟨hf1,g⟩
     rw[hf1] at g1
     repeat' (first | (simp (disch:=first | omega | (decide +kernel)) only[↓RD,RU,↓putF_get,↓evF_t,↓evF_c,getD_zero,pop,ρ0,ρ1,↓reduceIte,Nat.reduceEqDiff,Int.reduceOfNat,reduceCtorEq,ρ29,hag1,hag2,hag3,f5,f6,str_size,str_get,g1,g2,rdigit_iff,hf2,n1]) | (with_reducible first | refine condK_dec (fun _=> ?_) fun _=> ?_ | refine grd_dec (fun _=> ?_) fun _=> ?_ | refine egrd_dec (fun _=> ?_) fun _=> ?_))
     all_goals rfl
    ·repeat' (first | (simp (disch:=first | omega | (decide +kernel)) only[↓RD,RU,↓putF_get,↓evF_t,↓evF_c,getD_zero,pop,↓reduceIte,Nat.reduceEqDiff,Int.reduceOfNat,reduceCtorEq,ρ29,hag1,hag2,hag3,f5,f6,str_size,str_get,g1,n1]) | (with_reducible first | refine condK_dec (fun _=> ?_) fun _=> ?_ | refine grd_dec (fun _=> ?_) fun _=> ?_ | refine egrd_dec (fun _=> ?_) fun _=> ?_))
     all_goals rfl
   ·repeat' (first | (simp (disch:=first | omega | (decide +kernel)) only[↓RD,RU,↓putF_get,↓evF_t,↓evF_c,getD_zero,pop,↓reduceIte,Nat.reduceEqDiff,Int.reduceOfNat,reduceCtorEq,hag1,hag2,hag3,f5,f6,str_size,n1]) | (with_reducible first | refine condK_dec (fun _=> ?_) fun _=> ?_ | refine grd_dec (fun _=> ?_) fun _=> ?_ | refine egrd_dec (fun _=> ?_) fun _=> ?_))
    all_goals rfl
 rintro fr4 K1 ⟨f5',f6',rfl⟩ hag4
 obtain⟨N,hN⟩ : ∃N,numN l=N:=⟨_,rfl⟩
 obtain⟨kd,hkd⟩ : ∃kd,numK l=kd:=⟨_,rfl⟩
 have hNl:=numN_len (l:=l)
 rw[hN] at hNl
 have hN':N=A+expN (l.drop A):=by rw[←hN];unfold numN;rw[hA]
 have hkd':kd=if fracN (l.drop a)=0∧expN (l.drop A)=0 then 5 else 6:=by rw[←hkd];unfold numK;rw[ha,hA]
 have hk0:expN (l.drop A)=0→(if fracN (l.drop a)=0 then 5 else 6:Nat)=kd:=fun g=>by
  rw[hkd',g]
  by_cases h0:fracN (l.drop a)=0
  ·rw[if_pos h0,if_pos ⟨h0,rfl⟩]
  ·rw[if_neg h0,if_neg (fun g=>h0 g.1)]
 have hk1:expN (l.drop A)≠0→kd=6:=fun g=>by rw[hkd',if_neg (fun g'=>g g'.2)]
 refine seq_cut (fun fr K1=>fr 5= .int .i64 (kd:Nat)∧fr 6= .int .i64 (j+N:Nat)∧K1=K.new (.cells [.int .i64 0, .string ⟨⟨[]⟩⟩, .int .i64 0] 64 .ex)) ?_ ?_
 ·have hin : ∀i,hd (l.drop i)≠0→i<l.length:=fun i h=>by
   have:=hd_pos h
   simp only[List.length_drop] at this;omega
  have e1:expN (l.drop A)=if hd (l.drop A)=101 then (if isDigN (hd (l.drop (A+1)))=true then 1+digN (l.drop (A+1)) else if (hd (l.drop (A+1))=43∨hd (l.drop (A+1))=45)∧isDigN (hd (l.drop (A+2)))=true then 2+digN (l.drop (A+2)) else 0) else 0:=by
   unfold expN;simp only[List.drop_drop]
  by_cases hE:hd (l.drop A)=101
  ·have h0:=hin A (by omega)
   have g0:=hgs A (by omega)
   rw[hE] at g0
   rw[if_pos hE] at e1
   by_cases hs:hd (l.drop (A+1))=43∨hd (l.drop (A+1))=45
   ·have h1:=hin (A+1) (by omega)
    have g1:=hgs (A+1) (by omega)
    have hnd:isDigN (hd (l.drop (A+1)))=false:=by
     rcases hs with g | g<;>rw[g]<;>decide
    rw[hnd,if_neg (by decide)] at e1
    simp only[←Nat.add_assoc] at g1
    by_cases hd2:isDigN (hd (l.drop (A+2)))=true
    ·have h2:A+2<l.length:=dig_lt hd2
     have g2:=hgs (A+2) (by omega)
     rw[if_pos ⟨hs,hd2⟩] at e1
     have hkk:=hk1 (by omega)
     have hdd:=fun K Q=>hdgs K Q (A+2) (by omega)
     simp only[←Nat.add_assoc] at g2 hdd
     rcases hs with hs | hs<;>rw[hs] at g1
     all_goals
      repeat' (first | (simp (disch:=first | omega | (decide +kernel)) only[↓RD,RU,↓putF_get,↓evF_t,↓evF_c,getD_zero,pop,ρ0,ρ1,↓reduceIte,Nat.reduceEqDiff,Int.reduceOfNat,reduceCtorEq,ρ29,hag1,hag2,hag3,hag4,f6',str_size,str_get,g0,g1,g2,rdigit_iff,hd2,n1,hdd]) | (with_reducible first | refine condK_dec (fun _=> ?_) fun _=> ?_ | refine grd_dec (fun _=> ?_) fun _=> ?_ | refine egrd_dec (fun _=> ?_) fun _=> ?_))
      all_goals exact⟨by rw[hkk];rfl,congrArg (Value.int .i64) (by omega)⟩
    ·rw[if_neg (fun g=>hd2 g.2)] at e1
     have hkk:=hk0 e1
     rw[hkk] at f5'
     have hNA:N=A:=by omega
     rw[hNA]
     by_cases h2:A+2<l.length
     ·have g2:=hgs (A+2) (by omega)
      simp only[←Nat.add_assoc] at g2
      rcases hs with hs | hs<;>rw[hs] at g1
      all_goals
       repeat' (first | (simp (disch:=first | omega | (decide +kernel)) only[↓RD,RU,↓putF_get,↓evF_t,↓evF_c,getD_zero,pop,ρ0,ρ1,↓reduceIte,Nat.reduceEqDiff,Int.reduceOfNat,reduceCtorEq,ρ29,hag1,hag2,hag3,hag4,f5',f6',str_size,str_get,g0,g1,g2,rdigit_iff,hd2,n1]) | (with_reducible first | refine condK_dec (fun _=> ?_) fun _=> ?_ | refine grd_dec (fun _=> ?_) fun _=> ?_ | refine egrd_dec (fun _=> ?_) fun _=> ?_))
     ·rcases hs with hs | hs<;>rw[hs] at g1
      all_goals
       repeat' (first | (simp (disch:=first | omega | (decide +kernel)) only[↓RD,RU,↓putF_get,↓evF_t,↓evF_c,getD_zero,pop,↓reduceIte,Nat.reduceEqDiff,Int.reduceOfNat,reduceCtorEq,ρ29,hag1,hag2,hag3,hag4,f5',f6',str_size,str_get,g0,g1,n1]) | (with_reducible first | refine condK_dec (fun _=> ?_) fun _=> ?_ | refine grd_dec (fun _=> ?_) fun _=> ?_ | refine egrd_dec (fun _=> ?_) fun _=> ?_))
   ·have hs1 : ¬hd (l.drop (A+1))=43:=fun g=>hs (.inl g)
    have hs2 : ¬hd (l.drop (A+1))=45:=fun g=>hs (.inr g)
    by_cases hd2:isDigN (hd (l.drop (A+1)))=true
    ·have h2:A+1<l.length:=dig_lt hd2
     have g1:=hgs (A+1) (by omega)
     rw[if_pos hd2] at e1
     have hkk:=hk1 (by omega)
     have hdd:=fun K Q=>hdgs K Q (A+1) (by omega)
     simp only[←Nat.add_assoc] at g1 hdd
     repeat' (first | (simp (disch:=first | omega | (decide +kernel)) only[↓RD,RU,↓putF_get,↓evF_t,↓evF_c,getD_zero,pop,ρ0,ρ1,↓reduceIte,Nat.reduceEqDiff,Int.reduceOfNat,reduceCtorEq,ρ29,hag1,hag2,hag3,hag4,f6',str_size,str_get,g0,g1,rdigit_iff,hd2,n1,hdd]) | (with_reducible first | refine condK_dec (fun _=> ?_) fun _=> ?_ | refine grd_dec (fun _=> ?_) fun _=> ?_ | refine egrd_dec (fun _=> ?_) fun _=> ?_))
     all_goals exact⟨by rw[hkk];rfl,congrArg (Value.int .i64) (by omega)⟩
    ·rw[if_neg hd2,if_neg (fun g=>hs g.1)] at e1
     have hkk:=hk0 e1
     rw[hkk] at f5'
     have hNA:N=A:=by omega
     rw[hNA]
     by_cases h2:A+1<l.length
     ·have g1:=hgs (A+1) (by omega)
      simp only[←Nat.add_assoc] at g1
      repeat' (first | (simp (disch:=first | omega | (decide +kernel)) only[↓RD,RU,↓putF_get,↓evF_t,↓evF_c,getD_zero,pop,ρ0,ρ1,↓reduceIte,Nat.reduceEqDiff,Int.reduceOfNat,reduceCtorEq,ρ29,hag1,hag2,hag3,hag4,f5',f6',str_size,str_get,g0,g1,rdigit_iff,hd2,n1]) | (with_reducible first | refine condK_dec (fun _=> ?_) fun _=> ?_ | refine grd_dec (fun _=> ?_) fun _=> ?_ | refine egrd_dec (fun _=> ?_) fun _=> ?_))
     ·repeat' (first | (simp (disch:=first | omega | (decide +kernel)) only[↓RD,RU,↓putF_get,↓evF_t,↓evF_c,getD_zero,pop,↓reduceIte,Nat.reduceEqDiff,Int.reduceOfNat,reduceCtorEq,ρ29,hag1,hag2,hag3,hag4,f5',f6',str_size,str_get,g0,n1]) | (with_reducible first | refine condK_dec (fun _=> ?_) fun _=> ?_ | refine grd_dec (fun _=> ?_) fun _=> ?_ | refine egrd_dec (fun _=> ?_) fun _=> ?_))
  ·rw[if_neg hE] at e1
   have hkk:=hk0 e1
   rw[hkk] at f5'
   have hNA:N=A:=by omega
   rw[hNA]
   by_cases h2:A<l.length
   ·have g0:=hgs A (by omega)
    repeat' (first | (simp (disch:=first | omega | (decide +kernel)) only[↓RD,RU,↓putF_get,↓evF_t,↓evF_c,getD_zero,pop,↓reduceIte,Nat.reduceEqDiff,Int.reduceOfNat,reduceCtorEq,ρ29,hag1,hag2,hag3,hag4,f5',f6',str_size,str_get,g0]) | (with_reducible first | refine condK_dec (fun _=> ?_) fun _=> ?_ | refine grd_dec (fun _=> ?_) fun _=> ?_ | refine egrd_dec (fun _=> ?_) fun _=> ?_))
   ·repeat' (first | (simp (disch:=first | omega | (decide +kernel)) only[↓RD,RU,↓putF_get,↓evF_t,↓evF_c,getD_zero,pop,↓reduceIte,Nat.reduceEqDiff,Int.reduceOfNat,reduceCtorEq,hag1,hag2,hag3,hag4,f5',f6',str_size]) | (with_reducible first | refine condK_dec (fun _=> ?_) fun _=> ?_ | refine grd_dec (fun _=> ?_) fun _=> ?_ | refine egrd_dec (fun _=> ?_) fun _=> ?_))
 rintro fr5 K1 ⟨f5'',f6'',rfl⟩ hag5
 have hjN:j+N-j=N:=by omega
 refine seq_cut (fun fr K1=>fr 8= .string (str (l.take N))∧K1=K.new (.cells [.int .i64 0, .string ⟨⟨[]⟩⟩, .int .i64 0] 64 .ex)) (by repeat' (first | (simp (disch:=first | omega | (decide +kernel)) only[↓RD,RU,↓putF_get,↓evF_t,getD_zero,getD_succ,pop,↓reduceIte,Nat.reduceEqDiff,bnd,ρ29,hag1,hag2,hag3,hag4,hag5,f6'',str_size,str_ext,hl',hjN]) | (with_reducible first | refine condK_dec (fun _=> ?_) fun _=> ?_ | refine grd_dec (fun _=> ?_) fun _=> ?_ | refine egrd_dec (fun _=> ?_) fun _=> ?_))) ?_
 rintro fr6 K1 ⟨f8,rfl⟩ hag6
 have hN0:0<N:=by
  have:=nW_yes (p:=isDigN) (l:=l) (j:=0) (by omega) (by simpa using hdg)
  have h1:digN l≤numA l:=by unfold numA;omega
  have h2:digN l=nW isDigN (l.drop 0):=by simp[digN]
  omega
 have hNlen:(l.take N).length=N:=by simp;omega
 have h00:((l.take N)[0]?).map (fun b=>Value.int .u8 (b.toNat:Int))=some (.int .u8 (hd l:Nat)):=by
  rw[List.getElem?_take_of_lt hN0]
  have:=hgs 0 (by omega)
  simp only[Nat.add_zero,List.drop_zero] at this
  rw[←this,←hl',List.getElem?_drop];simp
 have hbv:numBad l=(isLetN (hd (l.drop N))||decide (hd (l.drop N)=46)||decide (540<N)||(decide (kd=5)&&decide (1<N)&&decide (hd l=48))):=by
  unfold numBad;rw[hN,hkd]
 have hgN:=fun(h:N<l.length)=>hgs N (by omega)
 have hx:=((HExt.refl K).new (.cells [.int .i64 0, .string ⟨⟨[]⟩⟩, .int .i64 0] 64 .ex))
 by_cases c1:540<N
 ·rw[if_pos (by rw[hbv];simp[c1])]
  repeat' (first | (simp (disch:=first | omega | (decide +kernel)) only[↓RD,RU,↓putF_get,↓putF_none,↓evF_t,↓evF_c,new_get,set_get,pop,lop,wop,resL,resV,tupleV,isVal,isCell,Value.cells,ρ0,ρ1,ρ4,↓reduceIte,Nat.reduceEqDiff,Nat.reduceAdd,Int.reduceOfNat,Int.reduceNegSucc,ρ7,ρ8,ρ15,ρ17,ρ18,ρ19,ρ20,ρ21,ρ22,ρ23,Kd.isRo,ρ25,ρ26,bldV,Nat.reduceLeDiff,hag2,hag3,hag4,hag5,hag6,f4,f8,hNlen,str_size]) | (with_reducible first | refine condK_dec (fun _=> ?_) fun _=> ?_ | refine grd_dec (fun _=> ?_) fun _=> ?_ | refine egrd_dec (fun _=> ?_) fun _=> ?_))
  all_goals exact⟨hx.set (Nat.le_refl _) _,rfl⟩
 ·by_cases c2:kd=5∧1<N∧hd l=48
  ·obtain⟨c2,c3,c4⟩:=c2
   rw[if_pos (by rw[hbv];simp[c2,c3,c4])]
   rw[c4] at h00
   repeat' (first | (simp (disch:=first | omega | (decide +kernel)) only[↓RD,RU,↓putF_get,↓putF_none,↓evF_t,↓evF_c,new_get,set_get,pop,lop,wop,resL,resV,tupleV,isVal,isCell,Value.cells,ρ0,ρ1,ρ4,↓reduceIte,Nat.reduceEqDiff,Nat.reduceAdd,Int.reduceOfNat,Int.reduceNegSucc,reduceCtorEq,ρ7,ρ8,ρ15,ρ17,ρ18,ρ19,ρ20,ρ21,ρ22,ρ23,Kd.isRo,ρ25,ρ26,bldV,Nat.reduceLeDiff,Int.reduceToNat,hag2,hag3,hag4,hag5,hag6,f4,f5'',f8,hNlen,str_size,str_get,h00,c2]) | (with_reducible first | refine condK_dec (fun _=> ?_) fun _=> ?_ | refine grd_dec (fun _=> ?_) fun _=> ?_ | refine egrd_dec (fun _=> ?_) fun _=> ?_))
   all_goals exact⟨hx.set (Nat.le_refl _) _,rfl⟩
  ·by_cases c5:N<l.length
   ·have gN:=hgN c5
    by_cases c6:isLetN (hd (l.drop N))=true
    ·rw[if_pos (by rw[hbv];simp[c6])]
     repeat' (first | (simp (disch:=first | omega | (decide +kernel)) only[↓RD,RU,↓putF_get,↓putF_none,↓evF_t,↓evF_c,new_get,set_get,getD_zero,pop,lop,wop,resL,resV,tupleV,isVal,isCell,Value.cells,ρ0,ρ1,ρ4,↓reduceIte,Nat.reduceEqDiff,Nat.reduceAdd,Int.reduceOfNat,Int.reduceNegSucc,reduceCtorEq,ρ7,ρ8,ρ15,ρ17,ρ18,ρ19,ρ20,ρ21,ρ22,ρ23,Kd.isRo,ρ25,ρ26,bldV,Nat.reduceLeDiff,Int.reduceToNat,ρ29,hag1,hag2,hag3,hag4,hag5,hag6,f4,f5'',f6'',f8,hNlen,str_size,str_get,h00,gN,rletter_iff,c6]) | (with_reducible first | refine condK_dec (fun _=> ?_) fun _=> ?_ | refine grd_dec (fun _=> ?_) fun _=> ?_ | refine egrd_dec (fun _=> ?_) fun _=> ?_))
     all_goals first | exact⟨hx.set (Nat.le_refl _) _,rfl⟩ | (exfalso;omega)
    ·have c6':isLetN (hd (l.drop N))=false:=by simpa using c6
     by_cases c7:hd (l.drop N)=46
     ·rw[if_pos (by rw[hbv];simp[c7])]
      repeat' (first | (simp (disch:=first | omega | (decide +kernel)) only[↓RD,RU,↓putF_get,↓putF_none,↓evF_t,↓evF_c,new_get,set_get,getD_zero,pop,lop,wop,resL,resV,tupleV,isVal,isCell,Value.cells,ρ0,ρ1,ρ4,↓reduceIte,Nat.reduceEqDiff,Nat.reduceAdd,Int.reduceOfNat,Int.reduceNegSucc,reduceCtorEq,ρ7,ρ8,ρ15,ρ17,ρ18,ρ19,ρ20,ρ21,ρ22,ρ23,Kd.isRo,ρ25,ρ26,bldV,Nat.reduceLeDiff,Int.reduceToNat,ρ29,hag1,hag2,hag3,hag4,hag5,hag6,f4,f5'',f6'',f8,hNlen,str_size,str_get,h00,gN,rletter_iff,let46,c7]) | (with_reducible first | refine condK_dec (fun _=> ?_) fun _=> ?_ | refine grd_dec (fun _=> ?_) fun _=> ?_ | refine egrd_dec (fun _=> ?_) fun _=> ?_))
      all_goals first | exact⟨hx.set (Nat.le_refl _) _,rfl⟩ | (exfalso;omega)
     ·rw[if_neg (by rw[hbv];simp[c1,c6,c7];omega),hN,hkd]
      repeat' (first | (simp (disch:=first | omega | (decide +kernel)) only[↓RD,RU,↓putF_get,↓putF_none,↓evF_t,↓evF_c,new_get,set_get,getD_zero,pop,lop,wop,resL,resV,tupleV,isVal,isCell,Value.cells,ρ0,ρ1,ρ4,↓reduceIte,Nat.reduceEqDiff,Nat.reduceAdd,Int.reduceOfNat,Int.reduceNegSucc,reduceCtorEq,ρ7,ρ8,ρ15,ρ17,ρ18,ρ19,ρ20,ρ21,ρ22,ρ23,Kd.isRo,ρ25,ρ26,bldV,Nat.reduceLeDiff,Int.reduceToNat,ρ29,hag1,hag2,hag3,hag4,hag5,hag6,f4,f5'',f6'',f8,hNlen,str_size,str_get,h00,gN,rletter_iff,c6']) | (with_reducible first | refine condK_dec (fun _=> ?_) fun _=> ?_ | refine grd_dec (fun _=> ?_) fun _=> ?_ | refine egrd_dec (fun _=> ?_) fun _=> ?_))
      all_goals first | exact⟨hx.set (Nat.le_refl _) _,rfl⟩ | (exfalso;omega)
   ·have h0:hd (l.drop N)=0:=hd_out c5
    rw[if_neg (by rw[hbv,h0];simp[c1];exact⟨by decide,by omega⟩),hN,hkd]
    repeat' (first | (simp (disch:=first | omega | (decide +kernel)) only[↓RD,RU,↓putF_get,↓putF_none,↓evF_t,↓evF_c,new_get,set_get,getD_zero,pop,lop,wop,resL,resV,tupleV,isVal,isCell,Value.cells,ρ0,ρ1,ρ4,↓reduceIte,Nat.reduceEqDiff,Nat.reduceAdd,Int.reduceOfNat,Int.reduceNegSucc,reduceCtorEq,ρ7,ρ8,ρ15,ρ17,ρ18,ρ19,ρ20,ρ21,ρ22,ρ23,Kd.isRo,ρ25,ρ26,bldV,Nat.reduceLeDiff,Int.reduceToNat,hag1,hag2,hag3,hag4,hag5,hag6,f4,f5'',f6'',f8,hNlen,str_size,str_get,h00]) | (with_reducible first | refine condK_dec (fun _=> ?_) fun _=> ?_ | refine grd_dec (fun _=> ?_) fun _=> ?_ | refine egrd_dec (fun _=> ?_) fun _=> ?_))
    all_goals first | exact⟨hx.set (Nat.le_refl _) _,rfl⟩ | (exfalso;omega)
end Can
end Go.Proofs.YtnankhlanilbbaaGreat
end
section
namespace Go.Proofs.YtnankhlanilbbaaGreat
namespace Can
open Go Go.RowKit
set_option linter.unusedSimpArgs false
set_option linter.unusedVariables false
set_option maxRecDepth 4000
theorem base_iff{K:CH}{t:List UInt8}{j:Nat}(hl:t.length≤100000){Q:Value→CH→Prop}:WpF (tblG Tryz.prog LG GG) 97 [.string ⟨⟨t⟩⟩, .int .i64 (j:Nat)] K Q↔Q (.int .i64 (basV (hd (t.drop j)))) K:=wpF_iff (base_wp K hl)
theorem stands_iff{K:CH}{n:Nat}(hn:n<256){Q:Value→CH→Prop}:WpF (tblG Tryz.prog LG GG) 98 [.int .u8 (n:Nat)] K Q↔Q (.int .u8 (stdN n:Nat)) K:=wpF_iff (stands_wp K hn)
theorem n3{a:Nat}:((a:Int)+3)=((a+3:Nat):Int):=rfl
def TxJ (A:CH)(q j:Nat)(L:List UInt8)(n:Nat)(v5 v6:Value)(K1:CH):Prop:=∃(i f:Nat) (acc:List UInt8),n=f+1∧i+f=L.length∧strT q L=(strN q (f+1) (L.drop i)).map (fun x=>(acc++x.1,x.2+i))∧v6= .int .i64 (j+1+i:Nat)∧Grw A 5 1 (ints .u8) K1 v5 (u8s acc)∧HExt A K1∧acc.length≤i
theorem strN_nil{q:Nat}(hq:32≤q) : ∀ {f:Nat},strN q f []=none
 | 0=>rfl
 | f+1=>by
   unfold strN
   rw[if_neg (show ¬hd []=q by simp[hd];omega),if_pos (show hd []<32 by decide)]
set_option maxHeartbeats 2000000 in
theorem text_r{K:CH}{t:List UInt8}{j:Nat}(hj:j<t.length)(hl:t.length≤20000)(hq:32≤hd (t.drop j)∧hd (t.drop j)≠92) :
 WpF (tblG Tryz.prog LG GG) 64 [.string (str t), .int .i64 (j:Nat)] K fun v K'=>HExt K K'∧v= .agg (pieC ((strT (hd (t.drop j)) (t.drop (j+1))).map fun x=>(7,x.1,x.2+1)) j).toArray:=by
 obtain⟨q,hqe⟩ : ∃q,hd (t.drop j)=q:=⟨_,rfl⟩
 have gq:=get_some hj
 rw[hqe] at hq gq⊢
 obtain⟨L,hL⟩ : ∃L,t.drop (j+1)=L:=⟨_,rfl⟩
 have hLl:L.length=t.length-(j+1):=by rw[←hL];simp
 have hdr : ∀i,t.drop (j+1+i)=L.drop i:=fun i=>by rw[←hL,List.drop_drop]
 have hgs:=fun(i:Nat) (hi:j+1+i<t.length)=>get_some hi
 simp only[hdr] at hgs
 rw[hL]
 refine wpF_rG (by rfl) (by kernel_rfl) ?_;(conv in (rF _ _).body=>reduce);(conv in (rF _ _).res=>reduce)
 obtain⟨A,hA⟩ : ∃A,K.new (.cells [.int .i64 0, .string ⟨⟨[]⟩⟩, .int .i64 0] 64 .ex)=A:=⟨_,rfl⟩
 have hxA:HExt K A:=by rw[←hA];exact(HExt.refl K).new _
 have hAo:A.ob K.nx= .cells [.int .i64 0, .string ⟨⟨[]⟩⟩, .int .i64 0] 64 .ex:=by rw[←hA];exact new_get.trans (if_pos rfl)
 have hAn:K.nx<A.nx:=by rw[←hA];exact Nat.lt_succ_self _
 refine seq_cut (fun fr K1=>fr 4= .pointer (some ⟨K.nx,0,none⟩)∧K1=A) (by repeat' (first | (simp (disch:=first | omega | (decide +kernel)) only[↓RD,RU,↓putF_get,aop,akV,↓reduceIte,Int.reduceOfNat,hA]) | (with_reducible first | refine condK_dec (fun _=> ?_) fun _=> ?_ | refine grd_dec (fun _=> ?_) fun _=> ?_ | refine egrd_dec (fun _=> ?_) fun _=> ?_))) ?_
 rintro fr1 K1 ⟨f4,rfl⟩ hag1
 repeat' (first | (simp (disch:=first | omega | (decide +kernel)) only[↓RD,RU,↓putF_get,↓evF_t,↓evF_c,getD_zero,getD_succ,pop,↓reduceIte,Nat.reduceEqDiff,Int.reduceOfNat,Int.reduceNegSucc,hag1,n1]) | (with_reducible first | refine condK_dec (fun _=> ?_) fun _=> ?_ | refine grd_dec (fun _=> ?_) fun _=> ?_ | refine egrd_dec (fun _=> ?_) fun _=> ?_))
 refine loop_w (fun n fr K2=>TxJ K1 q j L n (fr 5) (fr 6) K2) (n:=L.length+1) ⟨0,L.length,[],rfl,by omega,by simp[strT],by(repeat' (first | (simp (disch:=first | omega | (decide +kernel)) only[↓putF_get,↓reduceIte,ρ28]) | (with_reducible first | refine condK_dec (fun _=> ?_) fun _=> ?_ | refine grd_dec (fun _=> ?_) fun _=> ?_ | refine egrd_dec (fun _=> ?_) fun _=> ?_));all_goals rfl),by(repeat' (first | (simp (disch:=first | omega | (decide +kernel)) only[↓putF_get,↓reduceIte,Nat.reduceEqDiff]) | (with_reducible first | refine condK_dec (fun _=> ?_) fun _=> ?_ | refine grd_dec (fun _=> ?_) fun _=> ?_ | refine egrd_dec (fun _=> ?_) fun _=> ?_));all_goals exact .inl ⟨rfl,rfl⟩),HExt.refl _,by simp⟩ ?_
 rintro n fr K2 ⟨i,f,acc,rfl,hif,hst,f6,hG,hx2,hac⟩ hag
 obtain⟨vb,f5⟩ : ∃vb,fr 5=vb:=⟨_,rfl⟩
 rw[f5] at hG
 have hob2:=(hx2.ob _ hAn).trans hAo
 have hn2:=hx2.nx
 have hc:= @hd_lt (L.drop i)
 by_cases hil:i<L.length
 ·have g0:=hgs i (by omega)
  by_cases c1:hd (L.drop i)=q
  ·have hres:strT q L=some (acc,i+1):=by rw[hst,strN,if_pos c1];simp;omega
   rw[hres]
   rw[c1] at g0
   rcases hG with ⟨e1,rfl⟩ | ⟨b,kd,rfl,g1,g2,g3,g4⟩
   ·have ea:acc= []:=by simpa[u8s] using e1
    subst ea
    repeat' (first | (simp (disch:=first | omega | (decide +kernel)) only[↓RD,RU,↓putF_get,↓putF_none,↓evF_t,↓evF_c,set_get,getD_zero,getD_succ,pop,lop,wop,resL,resV,tupleV,isVal,isCell,Value.cells,ρ0,ρ1,ρ4,↓reduceIte,Nat.reduceEqDiff,Nat.reduceAdd,reduceCtorEq,ρ7,ρ8,ρ15,ρ17,ρ18,ρ19,ρ20,ρ21,ρ22,ρ23,Kd.isRo,ρ25,ρ26,bldV,Nat.reduceLeDiff,ρ29,hag,hag1,f4,f5,f6,g0,gq,str_size,str_get,n1,hob2]) | (with_reducible first | refine condK_dec (fun _=> ?_) fun _=> ?_ | refine grd_dec (fun _=> ?_) fun _=> ?_ | refine egrd_dec (fun _=> ?_) fun _=> ?_))
    all_goals exact⟨(hxA.trans hx2).set (Nat.le_refl _) _,(congrArg (fun n:Nat=>Value.agg #[.int .i64 7, .string (str []), .int .i64 n]) (show j+1+i+1=j+(i+1+1) by omega))⟩
   ·rw[u8s_ints] at g3
    have hul:(u8s acc).length=acc.length:=by simp[u8s]
    rw[hul] at f5
    repeat' (first | (simp (disch:=first | omega | (decide +kernel)) only[↓RD,RU,↓putF_get,↓putF_none,↓evF_t,↓evF_c,set_get,getD_zero,getD_succ,pop,lop,wop,resL,resV,tupleV,isVal,isCell,Value.cells,ρ0,ρ1,ρ4,↓reduceIte,Nat.reduceEqDiff,Nat.reduceAdd,reduceCtorEq,ρ7,ρ8,ρ15,ρ17,ρ18,ρ19,ρ20,ρ21,ρ22,ρ23,Kd.isRo,ρ25,ρ26,bldV,Nat.reduceLeDiff,ρ29,hag,hag1,f4,f5,f6,g0,gq,str_size,str_get,n1,hob2,g3,byteList_u8s]) | (with_reducible first | refine condK_dec (fun _=> ?_) fun _=> ?_ | refine grd_dec (fun _=> ?_) fun _=> ?_ | refine egrd_dec (fun _=> ?_) fun _=> ?_))
    all_goals exact⟨(hxA.trans hx2).set (Nat.le_refl _) _,(congrArg (fun n:Nat=>Value.agg #[.int .i64 7, .string (str acc), .int .i64 n]) (show j+1+i+1=j+(i+1+1) by omega))⟩
  have c1' : ¬hd (L.drop i)=q:=c1
  by_cases c2:hd (L.drop i)<32
  ·have hres:strT q L=none:=by rw[hst,strN,if_neg c1,if_pos c2];rfl
   rw[hres]
   repeat' (first | (simp (disch:=first | omega | (decide +kernel)) only[↓RD,RU,↓putF_get,↓putF_none,↓evF_t,↓evF_c,set_get,getD_zero,getD_succ,pop,lop,wop,resL,resV,tupleV,isVal,isCell,Value.cells,ρ0,ρ1,ρ4,↓reduceIte,Nat.reduceEqDiff,Nat.reduceAdd,reduceCtorEq,ρ7,ρ8,ρ15,ρ17,ρ18,ρ19,ρ20,ρ21,ρ22,ρ23,Kd.isRo,ρ25,ρ26,bldV,Nat.reduceLeDiff,ρ29,hag,hag1,f4,f6,g0,gq,str_size,str_get,hob2]) | (with_reducible first | refine condK_dec (fun _=> ?_) fun _=> ?_ | refine grd_dec (fun _=> ?_) fun _=> ?_ | refine egrd_dec (fun _=> ?_) fun _=> ?_))
   all_goals exact⟨(hxA.trans hx2).set (Nat.le_refl _) _,rfl⟩
  obtain⟨f',rfl⟩ : ∃f',f=f'+1:=⟨f-1,by omega⟩
  by_cases c3:hd (L.drop i)=92
  ·rw[c3] at g0
   have hkey : ∀b n,escN (L.drop (i+1))=some (b,n)→∃f2,f'=f2+n∧b<256∧strT q L=(strN q (f2+1) (L.drop (i+1+n))).map (fun x=>((acc++ [UInt8.ofNat b])++x.1,x.2+(i+1+n))):=fun b n hes=>by
    obtain⟨hnl,hb256⟩:=esc_le hes
    simp only[List.length_drop] at hnl
    obtain⟨f2,rfl⟩ : ∃f2,f'=f2+n:=⟨f'-n,by omega⟩
    refine⟨f2,rfl,hb256,?_⟩
    rw[hst,strN,if_neg c1,if_neg c2,if_neg (by simpa using c3),List.drop_drop,hes]
    simp only[List.drop_drop]
    rw[strN_fuel (f:=f2+n+1) (g:=f2+1) (by simp;omega) (by simp;omega),show i+(1+n)=i+1+n by omega]
    cases strN q (f2+1) (L.drop (i+1+n)) with
    | none=>rfl
    | some x=>simp;omega
   have hnone:escN (L.drop (i+1))=none→strT q L=none:=fun hes=>by
    rw[hst,strN,if_neg c1,if_neg c2,if_neg (by simpa using c3),List.drop_drop,hes];rfl
   by_cases hi1:i+1<L.length
   ·have g1:=hgs (i+1) (by omega)
    simp only[←Nat.add_assoc] at g1
    by_cases c4:hd (L.drop (i+1))=120
    ·rw[c4] at g1
     have hb1:hd (t.drop (j+1+i+2))=hd (L.drop (i+2)):=by rw[Nat.add_assoc,hdr]
     have hb2:hd (t.drop (j+1+i+3))=hd (L.drop (i+3)):=by rw[Nat.add_assoc,hdr]
     have hes0:escN (L.drop (i+1))=if hexN (hd (L.drop (i+2)))<16∧hexN (hd (L.drop (i+3)))<16 then some (16*hexN (hd (L.drop (i+2)))+hexN (hd (L.drop (i+3))),3) else none:=by
      unfold escN
      rw[if_pos c4];simp only[List.drop_drop]
     have hx1:= @hexN_16 (hd (L.drop (i+2)))
     have hx2':= @hexN_16 (hd (L.drop (i+3)))
     obtain⟨x1,hx1e⟩ : ∃x,hexN (hd (L.drop (i+2)))=x:=⟨_,rfl⟩
     obtain⟨x2,hx2e⟩ : ∃x,hexN (hd (L.drop (i+3)))=x:=⟨_,rfl⟩
     rw[hx1e] at hx1
     rw[hx2e] at hx2'
     rw[hx1e,hx2e] at hes0
     have bi:=fun(m:Nat) (K:CH) (Q:Value→CH→Prop)=> @base_iff K t m (by omega) Q
     by_cases d1:x1<16
     ·have b1:basV (hd (L.drop (i+2)))=(x1:Int):=by unfold basV;rw[hx1e,if_neg (by omega)]
      by_cases d2:x2<16
      ·have b2:basV (hd (L.drop (i+3)))=(x2:Int):=by unfold basV;rw[hx2e,if_neg (by omega)]
       have hes:escN (L.drop (i+1))=some (16*x1+x2,3):=by rw[hes0,if_pos ⟨d1,d2⟩]
       repeat' (first | (simp (disch:=first | omega | (decide +kernel)) only[↓RD,RU,↓putF_get,↓evF_t,↓evF_c,new_get,getD_zero,getD_succ,pop,aop,akV,isVal,Value.cells,ρ0,ρ1,ρ4,↓reduceIte,Nat.reduceEqDiff,reduceCtorEq,ρ7,ρ8,srcR_c,ρ15,ρ17,ρ18,ρ21,ρ25,ρ26,bldV,Nat.reduceLeDiff,zeros_one,appS_some,ρ29,hag,hag1,f5,f6,g0,gq,str_size,str_get,n1,n2,n3,g1,bi,hb1,hb2,b1,b2]) | (with_reducible first | refine condK_dec (fun _=> ?_) fun _=> ?_ | refine grd_dec (fun _=> ?_) fun _=> ?_ | refine egrd_dec (fun _=> ?_) fun _=> ?_))
       obtain⟨f2,rfl,hb256,hst2⟩:=hkey _ _ hes
       refine optW_app (ints_ok .u8) (ys:= [16*(x1:Int)+(x2:Int)]) (hG.ext (by(repeat (first | assumption | exact HExt.refl _ | (refine HExt.set ?_ (by first | omega | (simp only[new_nx,set_nx];omega)) _) | (refine HExt.new ?_ _))))) (hx2.trans (by(repeat (first | assumption | exact HExt.refl _ | (refine HExt.set ?_ (by first | omega | (simp only[new_nx,set_nx];omega)) _) | (refine HExt.new ?_ _))))) (by simp[u8s];omega) (by simp[u8s];omega) rfl rfl fun v' K4 j1 j2 j3 j4=> ?_
       have hu:u8s acc++ [(16*(x1:Int)+(x2:Int):Int)]=u8s (acc++ [UInt8.ofNat (16*x1+x2)]):=by simp[u8s];omega
       rw[hu] at j1
       repeat' (first | (simp (disch:=first | omega | (decide +kernel)) only[↓RD,RU,↓putF_get,↓evF_t,↓evF_c,pop,↓reduceIte,Nat.reduceEqDiff,f6]) | (with_reducible first | refine condK_dec (fun _=> ?_) fun _=> ?_ | refine grd_dec (fun _=> ?_) fun _=> ?_ | refine egrd_dec (fun _=> ?_) fun _=> ?_))
       all_goals exact⟨_,by omega,i+1+3,f2,_,rfl,by omega,hst2,congrArg (Value.int .i64) (by omega),j1,j2,by simp;omega⟩
      ·have b2:basV (hd (L.drop (i+3)))= -1:=by unfold basV;rw[hx2e,if_pos (by omega)]
       rw[hnone (by rw[hes0,if_neg (fun g=>d2 g.2)])]
       repeat' (first | (simp (disch:=first | omega | (decide +kernel)) only[↓RD,RU,↓putF_get,↓putF_none,↓evF_t,↓evF_c,set_get,getD_zero,getD_succ,pop,lop,wop,resL,resV,tupleV,isVal,isCell,Value.cells,ρ0,ρ1,ρ4,↓reduceIte,Nat.reduceEqDiff,Nat.reduceAdd,reduceCtorEq,ρ7,ρ8,ρ15,ρ17,ρ18,ρ19,ρ20,ρ21,ρ22,ρ23,Kd.isRo,ρ25,ρ26,bldV,Nat.reduceLeDiff,ρ29,hag,hag1,f4,f6,g0,gq,str_size,str_get,n1,n2,n3,hob2,g1,bi,hb1,hb2,b1,b2]) | (with_reducible first | refine condK_dec (fun _=> ?_) fun _=> ?_ | refine grd_dec (fun _=> ?_) fun _=> ?_ | refine egrd_dec (fun _=> ?_) fun _=> ?_))
       all_goals exact⟨(hxA.trans hx2).set (Nat.le_refl _) _,rfl⟩
     ·have b1:basV (hd (L.drop (i+2)))= -1:=by unfold basV;rw[hx1e,if_pos (by omega)]
      rw[hnone (by rw[hes0,if_neg (fun g=>d1 g.1)])]
      repeat' (first | (simp (disch:=first | omega | (decide +kernel)) only[↓RD,RU,↓putF_get,↓putF_none,↓evF_t,↓evF_c,set_get,getD_zero,getD_succ,pop,lop,wop,resL,resV,tupleV,isVal,isCell,Value.cells,ρ0,ρ1,ρ4,↓reduceIte,Nat.reduceEqDiff,Nat.reduceAdd,reduceCtorEq,ρ7,ρ8,ρ15,ρ17,ρ18,ρ19,ρ20,ρ21,ρ22,ρ23,Kd.isRo,ρ25,ρ26,bldV,Nat.reduceLeDiff,ρ29,hag,hag1,f4,f6,g0,gq,str_size,str_get,n1,n2,n3,hob2,g1,bi,hb1,hb2,b1]) | (with_reducible first | refine condK_dec (fun _=> ?_) fun _=> ?_ | refine grd_dec (fun _=> ?_) fun _=> ?_ | refine egrd_dec (fun _=> ?_) fun _=> ?_))
      all_goals exact⟨(hxA.trans hx2).set (Nat.le_refl _) _,rfl⟩
    ·have hs0:escN (L.drop (i+1))=if stdN (hd (L.drop (i+1)))≠0 then some (stdN (hd (L.drop (i+1))),1) else none:=by
      unfold escN
      rw[if_neg c4]
     have hsi:=fun(K:CH) (Q:Value→CH→Prop)=> @stands_iff K (hd (L.drop (i+1))) hd_lt Q
     obtain⟨sd,hsd⟩ : ∃x,stdN (hd (L.drop (i+1)))=x:=⟨_,rfl⟩
     rw[hsd] at hs0
     simp only[hsd] at hsi
     by_cases d1:sd=0
     ·rw[hnone (by rw[hs0,if_neg (fun g=>g d1)])]
      subst d1
      repeat' (first | (simp (disch:=first | omega | (decide +kernel)) only[↓RD,RU,↓putF_get,↓putF_none,↓evF_t,↓evF_c,set_get,getD_zero,getD_succ,pop,lop,wop,resL,resV,tupleV,isVal,isCell,Value.cells,ρ0,ρ1,ρ4,↓reduceIte,Nat.reduceEqDiff,Nat.reduceAdd,reduceCtorEq,ρ7,ρ8,ρ15,ρ17,ρ18,ρ19,ρ20,ρ21,ρ22,ρ23,Kd.isRo,ρ25,ρ26,bldV,Nat.reduceLeDiff,ρ29,hag,hag1,f4,f6,g0,gq,str_size,str_get,n1,hob2,g1,hsi]) | (with_reducible first | refine condK_dec (fun _=> ?_) fun _=> ?_ | refine grd_dec (fun _=> ?_) fun _=> ?_ | refine egrd_dec (fun _=> ?_) fun _=> ?_))
      all_goals exact⟨(hxA.trans hx2).set (Nat.le_refl _) _,rfl⟩
     ·have hes:escN (L.drop (i+1))=some (sd,1):=by rw[hs0,if_pos d1]
      repeat' (first | (simp (disch:=first | omega | (decide +kernel)) only[↓RD,RU,↓putF_get,↓evF_t,↓evF_c,new_get,getD_zero,getD_succ,pop,aop,akV,isVal,Value.cells,ρ0,ρ1,ρ4,↓reduceIte,Nat.reduceEqDiff,reduceCtorEq,ρ7,ρ8,srcR_c,ρ15,ρ17,ρ18,ρ21,ρ25,ρ26,bldV,Nat.reduceLeDiff,zeros_one,appS_some,ρ29,hag,hag1,f5,f6,g0,gq,str_size,str_get,n1,g1,hsi]) | (with_reducible first | refine condK_dec (fun _=> ?_) fun _=> ?_ | refine grd_dec (fun _=> ?_) fun _=> ?_ | refine egrd_dec (fun _=> ?_) fun _=> ?_))
      obtain⟨f2,rfl,hb256,hst2⟩:=hkey _ _ hes
      refine optW_app (ints_ok .u8) (ys:= [(sd:Int)]) (hG.ext (by(repeat (first | assumption | exact HExt.refl _ | (refine HExt.set ?_ (by first | omega | (simp only[new_nx,set_nx];omega)) _) | (refine HExt.new ?_ _))))) (hx2.trans (by(repeat (first | assumption | exact HExt.refl _ | (refine HExt.set ?_ (by first | omega | (simp only[new_nx,set_nx];omega)) _) | (refine HExt.new ?_ _))))) (by simp[u8s];omega) (by simp[u8s];omega) rfl rfl fun v' K4 j1 j2 j3 j4=> ?_
      have hu:u8s acc++ [((sd:Int):Int)]=u8s (acc++ [UInt8.ofNat (sd)]):=by simp[u8s];omega
      rw[hu] at j1
      repeat' (first | (simp (disch:=first | omega | (decide +kernel)) only[↓RD,RU,↓putF_get,↓evF_t,↓evF_c,pop,↓reduceIte,Nat.reduceEqDiff,f6]) | (with_reducible first | refine condK_dec (fun _=> ?_) fun _=> ?_ | refine grd_dec (fun _=> ?_) fun _=> ?_ | refine egrd_dec (fun _=> ?_) fun _=> ?_))
      all_goals exact⟨_,by omega,i+1+1,f2,_,rfl,by omega,hst2,congrArg (Value.int .i64) (by omega),j1,j2,by simp;omega⟩
   ·have hes:escN (L.drop (i+1))=none:=by rw[List.drop_eq_nil_of_le (by omega)];rfl
    rw[hnone hes]
    repeat' (first | (simp (disch:=first | omega | (decide +kernel)) only[↓RD,RU,↓putF_get,↓putF_none,↓evF_t,↓evF_c,set_get,getD_zero,getD_succ,pop,lop,wop,resL,resV,tupleV,isVal,isCell,Value.cells,ρ0,ρ1,ρ4,↓reduceIte,Nat.reduceEqDiff,Nat.reduceAdd,reduceCtorEq,ρ7,ρ8,ρ15,ρ17,ρ18,ρ19,ρ20,ρ21,ρ22,ρ23,Kd.isRo,ρ25,ρ26,bldV,Nat.reduceLeDiff,ρ29,hag,hag1,f4,f6,g0,gq,str_size,str_get,n1,hob2]) | (with_reducible first | refine condK_dec (fun _=> ?_) fun _=> ?_ | refine grd_dec (fun _=> ?_) fun _=> ?_ | refine egrd_dec (fun _=> ?_) fun _=> ?_))
    all_goals exact⟨(hxA.trans hx2).set (Nat.le_refl _) _,rfl⟩
  ·have hst2:strT q L=(strN q (f'+1) (L.drop (i+1))).map (fun x=>((acc++ [UInt8.ofNat (hd (L.drop i))])++x.1,x.2+(i+1))):=by
    rw[hst,strN,if_neg c1,if_neg c2,if_pos c3,List.drop_drop]
    cases strN q (f'+1) (L.drop (i+1)) with
    | none=>rfl
    | some x=>simp;omega
   repeat' (first | (simp (disch:=first | omega | (decide +kernel)) only[↓RD,RU,↓putF_get,↓evF_t,↓evF_c,new_get,getD_zero,getD_succ,pop,aop,akV,isVal,Value.cells,ρ0,ρ1,ρ4,↓reduceIte,Nat.reduceEqDiff,reduceCtorEq,ρ7,ρ8,srcR_c,ρ15,ρ17,ρ18,ρ21,ρ25,ρ26,bldV,Nat.reduceLeDiff,zeros_one,appS_some,ρ29,hag,hag1,f5,f6,g0,gq,str_size,str_get]) | (with_reducible first | refine condK_dec (fun _=> ?_) fun _=> ?_ | refine grd_dec (fun _=> ?_) fun _=> ?_ | refine egrd_dec (fun _=> ?_) fun _=> ?_))
   refine optW_app (ints_ok .u8) (ys:= [(hd (L.drop i):Int)]) (hG.ext (by(repeat (first | assumption | exact HExt.refl _ | (refine HExt.set ?_ (by first | omega | (simp only[new_nx,set_nx];omega)) _) | (refine HExt.new ?_ _))))) (hx2.trans (by(repeat (first | assumption | exact HExt.refl _ | (refine HExt.set ?_ (by first | omega | (simp only[new_nx,set_nx];omega)) _) | (refine HExt.new ?_ _))))) (by simp[u8s];omega) (by simp[u8s];omega) rfl rfl fun v' K4 j1 j2 j3 j4=> ?_
   have hu:u8s acc++ [(hd (L.drop i):Int)]=u8s (acc++ [UInt8.ofNat (hd (L.drop i))]):=by simp[u8s];omega
   rw[hu] at j1
   repeat' (first | (simp (disch:=first | omega | (decide +kernel)) only[↓RD,RU,↓putF_get,↓evF_t,↓evF_c,pop,↓reduceIte,Nat.reduceEqDiff,f6]) | (with_reducible first | refine condK_dec (fun _=> ?_) fun _=> ?_ | refine grd_dec (fun _=> ?_) fun _=> ?_ | refine egrd_dec (fun _=> ?_) fun _=> ?_))
   all_goals exact⟨_,by omega,i+1,f',_,rfl,by omega,hst2,congrArg (Value.int .i64) (by omega),j1,j2,by simp;omega⟩
 ·have hres:strT q L=none:=by rw[hst,List.drop_eq_nil_of_le (by omega),strN_nil hq.1];rfl
  rw[hres]
  repeat' (first | (simp (disch:=first | omega | (decide +kernel)) only[↓RD,RU,↓putF_get,↓putF_none,↓evF_t,↓evF_c,set_get,getD_zero,pop,lop,wop,resL,resV,tupleV,isVal,isCell,Value.cells,ρ0,ρ1,ρ4,↓reduceIte,Nat.reduceEqDiff,Nat.reduceAdd,reduceCtorEq,ρ7,ρ8,ρ15,ρ17,ρ18,ρ19,ρ20,ρ21,ρ22,ρ23,Kd.isRo,ρ25,ρ26,bldV,Nat.reduceLeDiff,hag,hag1,f4,f6,str_size,hob2]) | (with_reducible first | refine condK_dec (fun _=> ?_) fun _=> ?_ | refine grd_dec (fun _=> ?_) fun _=> ?_ | refine egrd_dec (fun _=> ?_) fun _=> ?_))
  all_goals exact⟨(hxA.trans hx2).set (Nat.le_refl _) _,rfl⟩
end Can
end Go.Proofs.YtnankhlanilbbaaGreat
end
