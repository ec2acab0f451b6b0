/- Show: same and high, as runs over trees. Show: same, high, stmt in memory. Show: Show walked. Show: the lines do not matter. No program in sight. Show: trees without long texts. No program in sight. Show: how much a tree of so many nodes asks to be printed. No program in sight. (Printed by tools/gencost.py.). Parse: no tree has a text that is longer than a token's; a for has three kids. No program in sight. Lex: no token's text is longer than a source. No program in sight. Show: the trees of sources ask for no more than there may be asked. No program in sight. -/
import Derived.Test.YtdfgkcoenagaaaaGreatZo
import Derived.Test.YtdfgkcoenagaaaaGreatZq
import Derived.Test.YtdfgkcoenagaaaaGreatZl
import Derived.Test.YtdfgkcoenagaaaaGreatZp
import Derived.Test.YtdfgkcoenagaaaaGreatZm
import Derived.Test.YtdfgkcoenagaaaaGreatZi
section
namespace Go.Proofs.YtdfgkcoenagaaaaGreat
namespace Can
open Go Go.RowKit
set_option linter.unusedSimpArgs false
set_option linter.unusedVariables false
set_option maxRecDepth 4000
section
variable {Z:TP} {X:Pan}
attribute [local irreducible] TC
theorem psame_tc : ∀(N:Nat) (k:Nat) (l:Int) (x:List UInt8) (o:Nat) (ks:List Nd) (k':Nat) (l':Int) (x':List UInt8) (o':Nat) (ks':List Nd),nsz (.mk k l x o ks)<N→∀(Q:AV→List SV→Prop) (R:Value→Prop),Q (rS (.bool (sameN false (.mk k l x o ks) (.mk k' l' x' o' ks')))) []→TC Z TL X 16 [ndA (.mk k l x o ks),ndA (.mk k' l' x' o' ks')] none Q R:=by
 intro N
 induction N with
 | zero=>intro k l x o ks k' l' x' o' ks' h;exact absurd h (Nat.not_lt_zero _)
 | succ N ih=>
 intro k l x o ks k' l' x' o' ks' hN Q R hQ
 refine tc_rS d0_ok (by rfl) (by kernel_rfl) ?_
 conv in (rF _ _).body=>reduce
 conv in (rF _ _).res=>reduce
 conv=>whnf
 have hf:sameN false (.mk k l x o ks) (.mk k' l' x' o' ks')=(decide (k=k')&&decide (x=x')&&decide (o=o')&&decide (ks.length=ks'.length)&&(!false||decide (l=l'))&&sameL false ks ks'):=rfl
 rw[hf] at hQ
 generalize h1:((k:Int) != (k':Int))=b1
 cases b1
 case true=>
  have:k≠k':=by have h : ¬(k:Int)=(k':Int):=(by simpa using h1);omega
  rw[decide_eq_false this] at hQ
  conv=>whnf
  exact hQ
 have e1:k=k':=by have h:(k:Int)=(k':Int):=(by simpa using h1);omega
 conv=>whnf
 generalize h2:(!((pS x).toList==(pS x').toList))=b2
 have pse : ∀a b:List UInt8,((pS a).toList==(pS b).toList)=decide (a=b):=fun a b=>by
  have h : ∀l:List UInt8,(pS l).toList=l:=fun l=>by simp[ByteArray.toList_eq]
  rw[h,h]
  by_cases e:a=b
  ·simp[e]
  ·rw[decide_eq_false e];simpa using e
 rw[pse] at h2
 cases b2
 case true=>
  have:x≠x':=by simpa using h2
  rw[decide_eq_true e1,decide_eq_false this] at hQ
  conv=>whnf
  exact hQ
 have e2:x=x':=by simpa using h2
 conv=>whnf
 generalize h3:((o:Int) != (o':Int))=b3
 cases b3
 case true=>
  have:o≠o':=by have h : ¬(o:Int)=(o':Int):=(by simpa using h3);omega
  rw[decide_eq_true e1,decide_eq_true e2,decide_eq_false this] at hQ
  conv=>whnf
  exact hQ
 have e3:o=o':=by have h:(o:Int)=(o':Int):=(by simpa using h3);omega
 conv=>whnf
 intro hm1
 conv=>whnf
 intro hm2
 conv=>whnf
 generalize h4:(((ndsS ks).length:Int) != ((ndsS ks').length:Int))=b4
 rw[ndsS_len,ndsS_len] at h4
 cases b4
 case true=>
  have:ks.length≠ks'.length:=by have h : ¬(ks.length:Int)=(ks'.length:Int):=(by simpa using h4);omega
  rw[decide_eq_true e1,decide_eq_true e2,decide_eq_true e3,decide_eq_false this] at hQ
  conv=>whnf
  exact hQ
 have e4:ks.length=ks'.length:=by have h:(ks.length:Int)=(ks'.length:Int):=(by simpa using h4);omega
 rw[decide_eq_true e1,decide_eq_true e2,decide_eq_true e3,decide_eq_true e4] at hQ
 have hb:(!false||decide (l=l'))=true:=rfl
 rw[hb] at hQ
 simp only[Bool.true_and] at hQ
 obtain⟨SL,hSL⟩ : ∃SL:List Nd→List Nd→Bool,SL=sameL false:=⟨_,rfl⟩
 obtain⟨SN,hSN⟩ : ∃SN:Nd→Nd→Bool,SN=sameN false:=⟨_,rfl⟩
 have hnil : ∀ys,SL [] ys=true:=fun ys=>by rw[hSL];rfl
 have hdr : ∀(i:Nat) (t t':Nd),ks[i]? = some t→ks'[i]? = some t'→SL (ks.drop i) (ks'.drop i)=(SN t t'&&SL (ks.drop (i+1)) (ks'.drop (i+1))):=fun i t t' h h'=>by rw[hSL,hSN];exact sameL_drop h h'
 rw[←hSL] at hQ
 conv=>whnf
 intro hx0
 conv=>whnf
 refine loop_1 37 (fun m a s=>∃i:Nat,a=rS (.int .i64 (i:Nat))∧s=⟨0,[oN (nA k l x o ks),oN (nA k' l' x' o' ks')]⟩∧m+i=ks.length∧SL ks ks'=SL (ks.drop i) (ks'.drop i)) ks.length [] rfl ⟨0,rfl,rfl,rfl,rfl⟩ ?_
 rintro m a f s ⟨i,rfl,rfl,hm,hp⟩
 conv=>whnf
 refine ifT_c (fun hc=> ?_) fun hc=> ?_
 ·have hi:i<ks.length:=by simp[ndsS_len] at hc;omega
  obtain⟨t,ht⟩ : ∃t,ks[i]? = some t:=⟨_,List.getElem?_eq_getElem hi⟩
  obtain⟨t',ht'⟩ : ∃t,ks'[i]? = some t:=⟨_,List.getElem?_eq_getElem (by omega)⟩
  rw[hdr i t t' ht ht'] at hp
  have hlt:=nsz_lt (List.mem_of_getElem? ht) (k:=k) (l:=l) (x:=x) (o:=o)
  obtain⟨k1,l1,x1,o1,ks1⟩:=t
  obtain⟨k2,l2,x2,o2,ks2⟩:=t'
  conv=>whnf
  refine⟨rfl,i,_,rfl,ndsS_get ht,?_⟩
  conv=>whnf
  refine⟨rfl,i,_,rfl,ndsS_get ht',?_⟩
  conv=>whnf
  refine ih k1 l1 x1 o1 ks1 k2 l2 x2 o2 ks2 (by omega) _ _ ?_
  conv=>whnf
  rw[←hSN]
  generalize hsm:SN (Nd.mk k1 l1 x1 o1 ks1) (Nd.mk k2 l2 x2 o2 ks2)=bs at hp⊢
  cases bs
  ·rw[Bool.false_and] at hp
   rw[hp] at hQ
   conv=>whnf
   exact hQ
  ·rw[Bool.true_and] at hp
   have hmx:=hx0
   rw[ndsS_len] at hmx
   conv=>whnf
   exact⟨m-1,[],by omega,rfl,i+1,congrArg (fun n=>rS (.int .i64 n)) (wr_inc' hi hmx),rfl,by omega,hp⟩
 ·have hi:i=ks.length:=by simp[ndsS_len] at hc;omega
  subst hi
  have hp:SL ks ks'=true:=by rw[hp,List.drop_length];exact hnil _
  rw[hp] at hQ
  conv=>whnf
  exact hQ
theorem high_tc : ∀(N:Nat) (k:Nat) (l:Int) (x:List UInt8) (o:Nat) (ks:List Nd),N≤1000→∀(Q:AV→List SV→Prop) (R:Value→Prop),Q (rS (.bool (highN N (.mk k l x o ks)))) []→TC Z TL X 13 [ndA (.mk k l x o ks),iS N] none Q R:=by
 intro N
 induction N with
 | zero=>
   intro k l x o ks _ Q R hQ
   (refine tc_rS d0_ok (by rfl) (by kernel_rfl) ?_);(conv in (rF _ _).body=>reduce);(conv in (rF _ _).res=>reduce)
   (conv=>whnf)
   exact hQ
 | succ N ih=>
 intro k l x o ks hN Q R hQ
 (refine tc_rS d0_ok (by rfl) (by kernel_rfl) ?_);(conv in (rF _ _).body=>reduce);(conv in (rF _ _).res=>reduce)
 (conv=>whnf)
 intro hx
 (conv=>whnf)
 have hh:highN (N+1) (.mk k l x o ks)=ks.any (highN N):=rfl
 rw[hh] at hQ
 refine loop_1 12 (fun m a s=>∃i:Nat,a=iS i∧s=⟨0,[oNd (.mk k l x o ks)]⟩∧m+i=ks.length∧ks.any (highN N)=(ks.drop i).any (highN N)) ks.length [] rfl ⟨0,rfl,rfl,rfl,rfl⟩ ?_
 rintro m a f s ⟨i,rfl,rfl,hm,hp⟩
 (conv=>whnf)
 refine ifT_c (fun hc=> ?_) fun hc=> ?_
 ·have hi:i<ks.length:=by simp[ndsS_len] at hc;omega
  obtain⟨⟨k1,l1,x1,o1,ks1⟩,ht⟩ : ∃t,ks[i]? = some t:=⟨_,List.getElem?_eq_getElem hi⟩
  rw[drop_get ht,List.any_cons] at hp
  (conv=>whnf)
  refine⟨rfl,i,_,rfl,ndsS_get ht,?_⟩
  (conv=>whnf)
  have hw:rS (.int .i64 (IntKind.i64.wrap (((N+1:Nat):Int)-Int.ofNat 1)))=iS N:=by
   show rS (.int .i64 (IntKind.i64.wrap (((N+1:Nat):Int)-1)))=_
   rw[w_i64 (by omega) (by omega)]
   congr 4
   omega
  refine(show TC Z TL X 13 [ndA (.mk k1 l1 x1 o1 ks1),rS (.int .i64 (IntKind.i64.wrap (((N+1:Nat):Int)-Int.ofNat 1)))] none _ _ from ?_)
  rw[hw]
  refine ih k1 l1 x1 o1 ks1 (by omega) _ _ ?_
  (conv=>whnf)
  refine ifT_c (fun hb=> ?_) fun hb=> ?_
  ·rw[hb,Bool.true_or] at hp
   rw[hp] at hQ
   (conv=>whnf)
   exact hQ
  ·rw[hb,Bool.false_or] at hp
   (conv=>whnf)
   exact⟨m-1,[],by omega,rfl,i+1,wrap_inc hi (by rw[←ndsS_len];exact hx),rfl,by omega,hp⟩
 ·have hi:i=ks.length:=by simp[ndsS_len] at hc;omega
  subst hi
  rw[List.drop_length] at hp
  rw[hp] at hQ
  (conv=>whnf)
  exact hQ
end
end Can
end Go.Proofs.YtdfgkcoenagaaaaGreat
end
section
namespace Go.Proofs.YtdfgkcoenagaaaaGreat
namespace Can
open Go Go.RowKit
set_option linter.unusedSimpArgs false
set_option linter.unusedVariables false
set_option maxRecDepth 4000
theorem psame_wp{K:CH}{A B:Nat→Prop}(hA : ∀b,A b→b<K.nx)(hB : ∀b,B b→b<K.nx){a b:Nd}{os os':List Value}(h:SVRs K A (ndS a) os)(h':SVRs K B (ndS b) os'):WpF TL 16 [.agg os.toArray, .agg os'.toArray] K fun v K'=>HExt K K'∧v= .bool (sameN false a b):=by
 obtain⟨k,l,x,o,ks⟩:=a
 obtain⟨k',l',x',o',ks'⟩:=b
 obtain⟨w,_,rfl,hw,hn⟩:=nd_inv (rest:= []) (by simpa using h)
 cases hn
 obtain⟨w',_,rfl,hw',hn⟩:=nd_inv (rest:= []) (by simpa using h')
 cases hn
 have r1:=nd_rel hA (k:=k) (l:=l) (x:=x) (o:=o) hw
 have r2:=nd_rel hB (k:=k') (l:=l') (x:=x') (o:=o') hw'
 refine(tc_wp (X:=pX) (psame_tc (nsz (.mk k l x o ks)+1) k l x o ks k' l' x' o' ks' (Nat.lt_succ_self _) (fun a _=>a=rS (.bool (sameN false (.mk k l x o ks) (.mk k' l' x' o' ks')))) _ rfl) ?_).mono fun v K' ⟨h1,a,s',h2,h3⟩=>⟨h1,by subst h3;exact raw_rel h2 rfl⟩
 cases r1 with | cons r1 _=>
 cases r2 with | cons r2 _=>
 exact .cons r1 (.cons r2 .nil)
theorem high_wp{K:CH}{A:Nat→Prop}(hA : ∀b,A b→b<K.nx){a:Nd}{os:List Value}(h:SVRs K A (ndS a) os):WpF TL 13 [.agg os.toArray, .int .i64 60] K fun v K'=>HExt K K'∧v= .bool (highN 60 a):=by
 obtain⟨k,l,x,o,ks⟩:=a
 obtain⟨w,_,rfl,hw,hn⟩:=nd_inv (rest:= []) (by simpa using h)
 cases hn
 have r1:=nd_rel hA (k:=k) (l:=l) (x:=x) (o:=o) hw
 refine(tc_wp (X:=pX) (high_tc 60 k l x o ks (by omega) (fun a _=>a=rS (.bool (highN 60 (.mk k l x o ks)))) _ rfl) ?_).mono fun v K' ⟨h1,a,s',h2,h3⟩=>⟨h1,by subst h3;exact raw_rel h2 rfl⟩
 cases r1 with | cons r1 _=>
 exact .cons r1 (.cons (rS_rel rfl) .nil)
def ZJ:TP:=⟨fun _=>False,fun _=> .dead,Jb,jb_m⟩
theorem PrAt.row{K:CH}{p:Nat}{b:Value}{st:PSt}(h:PrAt K p b st){q:Nat}(hq:rowW b q):q<K.nx∧q≠p:=by
 obtain⟨a,h⟩:=h
 obtain⟨n,c,rfl⟩:=hq
 rcases h.buf with ⟨_,e⟩ | ⟨q',e,_,h3,h4,_⟩
 ·cases e
 ·cases e;exact⟨h4,h3⟩
theorem stmt_wp{K:CH}{p:Nat}{b:Value}{st:PSt}{n:Nd}{f:Nat}{A:Nat→Prop}{os:List Value}(hpr:PrAt K p b st)(hA : ∀q,A q→q<K.nx∧q≠p∧NotRow b q)(hs:SVRs K A (ndS n) os)(hB:(pe f (.stmt n) st).w≤bigB) :
 WpF TL 14 [.pointer (some ⟨p,0,none⟩), .agg os.toArray] K fun v K'=>v= .tuple #[]∧∃b',PrAt K' p b' (pe f (.stmt n) st)∧WFr p K b K' b':=by
 have h:=(pal (Z:=ZJ) (X:=pX) rfl f).stmt n st (pe f (.stmt n) st) (fun a s'=>a= .tup []∧s'=prS (pe f (.stmt n) st)) (fun _=>False) hB (Nat.le_refl _) (fun st1 e=>⟨rfl,by rw[e]⟩)
 have hrow : ∀q,rowW b q→q<K.nx∧some p≠some q:=fun q hq=>⟨(hpr.row hq).1,fun e=>(hpr.row hq).2 (by cases e;rfl)⟩
 obtain⟨m1,m2⟩:=pr_mk (Z:=ZJ) rfl (E:=E0 (some p) (rowW b)) hpr
 have hfz : ∀q,A q→Frz K (E0 (some p) (rowW b)) q:=fun q hq=>by
  obtain⟨h1,h2,h3⟩:=hA q hq
  refine⟨h1,fun⟨n,c,e⟩=>h3 _ _ _ _ e,fun _ e=>(by cases e),fun o e=> ?_⟩
  have e:(if o=0 then some p else none)=some q:=e
  split at e
  ·cases e;exact h2 rfl
  ·cases e
 have hv:R2 (AVR K (E0 (some p) (rowW b))) (.ptr 0 0:: [ndA n]) [.pointer (some ⟨p,0,none⟩), .agg os.toArray]:=by
  refine .cons (.ptr rfl) (.cons ?_ .nil)
  obtain⟨k,l,x,o,ks⟩:=n
  obtain⟨w,_,rfl,hw,hn⟩:=nd_inv (rest:= []) (by simpa using hs)
  cases hn
  have hw':SVR K (Frz K (E0 (some p) (rowW b))) (.row 5 (ndsS ks)) w:=hw.mv fun b hb=>⟨hfz b hb,rfl⟩
  exact .r (.agg (vs:= [.int .i64 (k:Nat), .int .i64 l, .string ⟨⟨x⟩⟩, .int .i64 (o:Nat),w]) (.cons (.s (.sc rfl)) (.cons (.s (.sc rfl)) (.cons (.s (.sc rfl)) (.cons (.s (.sc rfl)) (.cons (.s hw') .nil))))))
 rcases h K (some p) (rowW b) (rowW b) _ hrow (fun _ h=>h) (fun _ h=>h.elim) hv m1 m2 with h | ⟨n,v,H',_,h⟩
 ·refine h.mono fun v K' ⟨h1,h2,hid',W',a,s',hw,h3,hc,h5,h6,h7,h8⟩=> ?_
  subst h7 h8
  obtain⟨p',b',e1,_,h9,h10⟩:=pr_inv (Z:=ZJ) rfl h5 h6
  cases e1
  refine⟨?_,b',h9,h1,fun l hl hp hn=>h2 l hl (fun e=>hp (by cases e;rfl)) fun⟨n,c,e⟩=>hn _ _ _ _ e,fun l hl hn=>h10 l fun hw'=> ?_⟩
  ·cases h3 with
   | tup h3=>cases h3;rfl
  ·rcases(hw.w l hw').2 with ⟨n,c,e⟩ | g
   ·exact hn _ _ _ _ e
   ·exact absurd hl (Nat.not_lt.2 g)
 ·exact h.2.2.elim
end Can
end Go.Proofs.YtdfgkcoenagaaaaGreat
end
section
namespace Go.Proofs.YtdfgkcoenagaaaaGreat
namespace Can
open Go Go.RowKit
set_option linter.unusedSimpArgs false
set_option linter.unusedVariables false
set_option maxRecDepth 4000
theorem ust_row2{q:Nat}{H:CH}{out:List UInt8}(hq:H.ob q= .cells (out.map fun c=> .int .u8 c.toNat) 5 .gr)(h0:0<out.length)(hl:out.length≤2305843009213693952) :
 ustV 5 H (.pointer (some ⟨q,0,none⟩)) (.int .i64 (out.length:Nat))=some (.string ⟨⟨out⟩⟩,H.set q .dead):=by
 have h1 : ¬(out.length:Int)=0:=by omega
 simp only[ustV,if_neg h1,hq]
 rw[if_pos (by simp[Kd.isRo];omega)]
 simp[List.take_of_length_le,byteList2_bytes]
theorem string_wp2{K:CH}{p:Nat}{a b d r x:Value}{out:List UInt8}(h:BdAt K p a b d r x out)(hl:out.length≤2305843009213693952) :
 WpF TL 15 [.pointer (some ⟨p,0,none⟩)] K fun v K'=>v= .string ⟨⟨out⟩⟩∧K.nx≤K'.nx∧∀l,l<K.nx→NotRow b l→K'.ob l=K.ob l:=by
 have hob:=h.ob
 refine wpF_rS (by rfl) (by kernel_rfl) ?_;(conv in (rF _ _).body=>reduce);(conv in (rF _ _).res=>reduce)
 rcases h.buf with ⟨rfl,rfl⟩ | ⟨q,rfl,hq,h1,h2,h3⟩
 ·repeat' (first | (simp (disch:=first | omega | (decide +kernel)) only[↓RD,RU,↓putF_get,↓evF_t,↓evF_c,getD_zero,pop,lop,wop,resL,resV,tupleV,↓reduceIte,Nat.reduceEqDiff,reduceCtorEq,ρ5,ρ6,hob,ust_nil]) | (with_reducible first | refine condK_dec (fun _=> ?_) fun _=> ?_ | refine grd_dec (fun _=> ?_) fun _=> ?_ | refine egrd_dec (fun _=> ?_) fun _=> ?_))
  exact fun _ _ _=>trivial
 ·have h0 : ¬out.length=0:=by omega
  repeat' (first | (simp (disch:=first | omega | (decide +kernel)) only[↓RD,RU,↓putF_get,↓evF_t,↓evF_c,set_nx,set_get,getD_zero,pop,lop,wop,resL,resV,tupleV,↓reduceIte,Nat.reduceEqDiff,reduceCtorEq,ρ5,ρ6,hob,ust_row2 hq h3 hl]) | (with_reducible first | refine condK_dec (fun _=> ?_) fun _=> ?_ | refine grd_dec (fun _=> ?_) fun _=> ?_ | refine egrd_dec (fun _=> ?_) fun _=> ?_))
  intro l _ hn
  have:l≠q:=fun e=>hn 0 none _ _ (by rw[e])
  simp[this]
theorem PrAt.hx{K K':CH}{p:Nat}{b:Value}{st:PSt}(h:PrAt K p b st)(hx:HExt K K'):PrAt K' p b st:=by
 obtain⟨a,h⟩:=h
 refine⟨a,h.own,by rw[hx.ob p h.pl];exact h.ob,?_,Nat.lt_of_lt_of_le h.pl hx.nx⟩
 rcases h.buf with g | ⟨q,g1,g2,g3,g4,g5⟩
 ·exact .inl g
 ·exact .inr ⟨q,g1,by rw[hx.ob q g4];exact g2,g3,Nat.lt_of_lt_of_le g4 hx.nx,g5⟩
theorem WFr.hx{p:Nat}{K K1 K2:CH}{b b1:Value}(h:WFr p K b K1 b1)(hx:HExt K1 K2):WFr p K b K2 b1:=
 ⟨Nat.le_trans h.nx hx.nx,fun l h1 h2 h3=>(hx.ob l (Nat.lt_of_lt_of_le h1 h.nx)).trans (h.ob l h1 h2 h3),h.row⟩
abbrev st00:PSt:=⟨[],0,0,false,Nat.le_refl _⟩
def shF (f:Nat)(n:Nd):PSt:=pe f (.blockL n.kids) st00
def showT(f:Nat)(n:Nd):List UInt8×Nat:=if highN 60 n=true then ([],3) else if (shF f n).bad=true then ([],3) else
 if (sourceT (shF f n).out).2.2=0∧sameN false (sourceT (shF f n).out).1 n=true then ((shF f n).out,0) else ([],3)
theorem show_wp{H:CH}{A:Nat→Prop}(hA : ∀q,A q→q<H.nx){n:Nd}{os:List Value}(hs:SVRs H A (ndS n) os){f:Nat}(hB:highN 60 n=false→(shF f n).w≤bigB) :
 WpF TL 8 [.agg os.toArray] H fun v K=>HExt H K∧v= .tuple #[.string ⟨⟨(showT f n).1⟩⟩, .int .i64 ((showT f n).2:Nat)]:=by
 obtain⟨k,l,x,o,ks⟩:=n
 obtain⟨w,_,rfl,hw,hn⟩:=nd_inv (rest:= []) (by simpa using hs)
 cases hn
 obtain⟨q,rfl,hml,hq0,hqs⟩:=row_at hw
 have hsn:SVRs (H.new (.cells [.int .i64 k, .int .i64 l, .string ⟨⟨x⟩⟩, .int .i64 o, .slice q ks.length ks.length] 26 .ex)) A (ndS (.mk k l x o ks)) [.int .i64 k, .int .i64 l, .string ⟨⟨x⟩⟩, .int .i64 o, .slice q ks.length ks.length]:=hs.mv fun b hb=>⟨hb,new_ne (by have:=hA b hb;omega)⟩
 refine wpF_rS (by rfl) (by kernel_rfl) ?_;(conv in (rF _ _).body=>reduce);(conv in (rF _ _).res=>reduce)
 repeat' (first | (simp (disch:=first | omega | (decide +kernel)) only[↓RD,RU,↓putF_get,↓evF_t,↓evF_c,new_get,getD_zero,pop,lop,aop,akV,isVal,Value.cells,ρ0,ρ1,↓reduceIte,Nat.reduceEqDiff,Nat.reduceAdd,Int.reduceOfNat,ρ7,ρ8,ρ15,ρ18,ρ26]) | (with_reducible first | refine condK_dec (fun _=> ?_) fun _=> ?_ | refine grd_dec (fun _=> ?_) fun _=> ?_ | refine egrd_dec (fun _=> ?_) fun _=> ?_))
 refine(high_wp (fun b hb=>by rw[new_nx];have:=hA b hb;omega) hsn).mono ?_
 rintro v K1 ⟨hx1,rfl⟩
 have hn1:H.nx+1≤K1.nx:=hx1.nx
 have hxH:HExt H K1:=((HExt.refl H).new _).trans hx1
 have hr:K1.ob H.nx= .cells [.int .i64 k, .int .i64 l, .string ⟨⟨x⟩⟩, .int .i64 o, .slice q ks.length ks.length] 26 .ex:=by
  rw[hx1.ob H.nx (Nat.lt_succ_self _)]
  exact new_get.trans (if_pos rfl)
 cases hhi:highN 60 (.mk k l x o ks) with
 | true=>
   have es:showT f (.mk k l x o ks)=([],3):=if_pos hhi
   repeat' (first | (simp (disch:=first | omega | (decide +kernel)) only[↓RD,RU,↓putF_get,↓evF_t,↓evF_c,pop,resL,resV,tupleV,↓reduceIte,Nat.reduceEqDiff]) | (with_reducible first | refine condK_dec (fun _=> ?_) fun _=> ?_ | refine grd_dec (fun _=> ?_) fun _=> ?_ | refine egrd_dec (fun _=> ?_) fun _=> ?_))
   rw[es]
   exact⟨hxH,rfl⟩
 | false=>
 have hB:=hB hhi
 repeat' (first | (simp (disch:=first | omega | (decide +kernel)) only[↓RD,RU,↓putF_get,↓evF_t,↓evF_c,new_get,pop,lop,aop,akV,isVal,Value.cells,ρ0,ρ1,ρ4,↓reduceIte,Nat.reduceEqDiff,Nat.reduceAdd,ρ5,ρ6,ρ7,ρ8,ρ17,ρ18,ρ19,ρ20,ρ25,ρ26,bldV,Nat.reduceLeDiff,hr]) | (with_reducible first | refine condK_dec (fun _=> ?_) fun _=> ?_ | refine grd_dec (fun _=> ?_) fun _=> ?_ | refine egrd_dec (fun _=> ?_) fun _=> ?_))
 have hst:shF f (.mk k l x o ks)=pe f (.blockL ks) st00:=rfl
 generalize hS:shF f (.mk k l x o ks)=stE at hst hB
 have hK2:PrAt (K1.new (.cells [.pointer none, .slice none 0 0, .int .i64 0, .int .i64 20000, .bool false] 46 .ex)) K1.nx (.slice none 0 0) st00:=
  ⟨.pointer none, .inl rfl,new_get.trans (if_pos rfl), .inl ⟨rfl,rfl⟩,Nat.lt_succ_self _⟩
 generalize hKd:K1.new (.cells [.pointer none, .slice none 0 0, .int .i64 0, .int .i64 20000, .bool false] 46 .ex)=K2 at hK2
 have hx2:HExt K1 K2:=by rw[←hKd];exact(HExt.refl K1).new _
 have hxH2:=hxH.trans hx2
 have hn2:K2.nx=K1.nx+1:=by rw[←hKd];rfl
 refine WpR.mono (Q:=fun x fr' K'=>(x= .normal∨x= .exit 0)∧fr' 1= .pointer (some ⟨H.nx,0,none⟩)∧fr' 4= .pointer (some ⟨K1.nx,0,none⟩)∧∃b1,PrAt K' K1.nx b1 stE∧WFr K1.nx K2 (.slice none 0 0) K' b1) ?_ ?_
 ·refine loop_w (fun n fr K3=>∃i b1 st1,n=ks.length-i∧i≤ks.length∧fr 18= .int .i64 i∧PrAt K3 K1.nx b1 st1∧WFr K1.nx K2 (.slice none 0 0) K3 b1∧pe (f-i) (.blockL (ks.drop i)) st1=stE) (n:=ks.length) ⟨0,_,st00,rfl,Nat.zero_le _,by(((first | assumption | simp only[putF_get,putF_none,Nat.reduceEqDiff,↓reduceIte]))<;>rfl),hK2, .refl,hst.symm⟩ ?_
  rintro n fr K3 ⟨i,b1,st,rfl,hi,h18,hpr,hf,h1⟩ hag
  obtain⟨a1,hbd⟩:=hpr
  have hob:=hbd.ob
  have hpl:=hbd.pl
  have hpn : ¬K1.nx=K3.nx:=by omega
  by_cases hlt:i<ks.length
  ·obtain⟨t,ht⟩ : ∃t,ks[i]? = some t:=⟨_,List.getElem?_eq_getElem hlt⟩
   obtain⟨qb,cs,e,kd,rfl,hAq,hqb,hro,hcl,hle,hsv⟩:=hqs i t ht
   have hqH:=hA qb hAq
   have hnr : ∀l,l<K2.nx→NotRow b1 l:=fun l hl=>hf.row l hl fun _ _ _ _ e=>by cases e
   have hq3:K3.ob qb= .cells cs e kd:=by
    rw[hf.ob qb (by omega) (by omega) (fun _ _ _ _ e=>by cases e),hxH2.ob qb hqH]
    exact hqb
   rw[drop_get ht] at h1
   obtain⟨g,hg⟩ : ∃g,f-i=g+1:=by
    cases hg:f-i with
    | zero=>rw[hg] at h1;exact(pe_lost h1 (stF:=stE) hB (Nat.le_refl _)).elim
    | succ g=>exact⟨g,rfl⟩
   rw[hg] at h1
   obtain⟨k1,l1,x1,o1,wa,wn,wc,hc5⟩:=nd_cells hsv
   cases hbad:st.bad with
   | true=>
     have hob':K3.ob K1.nx= .cells [a1,b1, .int .i64 st.deep, .int .i64 (20000-(st.w:Int)), .bool true] 46 .ex:=by rw[hob,hbad]
     simp only[pe,hbad,↓reduceIte] at h1
     repeat' (first | (simp (disch:=first | omega | (decide +kernel)) only[↓RD,RU,↓putF_get,↓putF_none,↓evF_t,new_get,set_get,pop,lop,aop,wop,akV,isVal,isCell,Value.cells,↓reduceIte,Nat.reduceEqDiff,Nat.reduceAdd,reduceCtorEq,ρ5,ρ6,ρ7,ρ8,ρ17,ρ21,ρ22,ρ23,Kd.isRo,ρ25,ρ26,ρ29,hag,h18,hq3,hob',hc5,hcl,hpn]) | (with_reducible first | refine condK_dec (fun _=> ?_) fun _=> ?_ | refine grd_dec (fun _=> ?_) fun _=> ?_ | refine egrd_dec (fun _=> ?_) fun _=> ?_))
     refine⟨.inr trivial,b1,?_,?_⟩
     ·rw[←h1]
      exact PrAt.hx ⟨a1,hbd⟩ (((HExt.refl K3).new _).set (Nat.le_refl _) _)
     ·exact hf.hx (((HExt.refl K3).new _).set (Nat.le_refl _) _)
   | false=>
     have hob':K3.ob K1.nx= .cells [a1,b1, .int .i64 st.deep, .int .i64 (20000-(st.w:Int)), .bool false] 46 .ex:=by rw[hob,hbad]
     simp only[pe,hbad,Bool.false_eq_true,↓reduceIte] at h1
     repeat' (first | (simp (disch:=first | omega | (decide +kernel)) only[↓RD,RU,↓putF_get,↓putF_none,↓evF_t,new_get,set_get,pop,lop,aop,wop,akV,isVal,isCell,Value.cells,ρ0,ρ1,↓reduceIte,Nat.reduceEqDiff,Nat.reduceAdd,ρ5,ρ6,ρ7,ρ8,ρ15,ρ17,ρ18,ρ21,ρ22,ρ23,Kd.isRo,ρ25,ρ26,ρ29,hag,h18,hq3,hob',hc5,hcl,hpn]) | (with_reducible first | refine condK_dec (fun _=> ?_) fun _=> ?_ | refine grd_dec (fun _=> ?_) fun _=> ?_ | refine egrd_dec (fun _=> ?_) fun _=> ?_))
     have hx4:HExt K3 ((K3.new (.cells [.int .i64 0, .int .i64 0, .string ⟨⟨[]⟩⟩, .int .i64 0, .slice none 0 0] 26 .ex)).set K3.nx (.cells [.int .i64 k1, .int .i64 l1, .string x1, .int .i64 o1, .slice wa wn wc] 26 .ex)):=((HExt.refl K3).new _).set (Nat.le_refl _) _
     have hn3:=hf.nx
     have hwb:(pe g (.stmt t) st).w≤bigB:=by
      rw[←h1] at hB
      exact Nat.le_trans (pe_wm _ _ _) hB
     have hst2:=hsv.mv (K':=(K3.new (.cells [.int .i64 0, .int .i64 0, .string ⟨⟨[]⟩⟩, .int .i64 0, .slice none 0 0] 26 .ex)).set K3.nx (.cells [.int .i64 k1, .int .i64 l1, .string x1, .int .i64 o1, .slice wa wn wc] 26 .ex)) (A':=A) fun b hb=>⟨hb,by
      have:=hA b hb
      rw[hx4.ob b (by omega),hf.ob b (by omega) (by omega) (fun _ _ _ _ e=>by cases e),hxH2.ob b this]⟩
     rw[hc5] at hst2
     refine(stmt_wp (PrAt.hx ⟨a1,hbd⟩ hx4) (A:=A) (fun b hb=> ?_) hst2 hwb).mono ?_
     ·have:=hA b hb
      exact⟨Nat.lt_of_lt_of_le (show b<K3.nx by omega) hx4.nx,by omega,hnr b (by omega)⟩
     ·rintro v K5 ⟨rfl,b2,hpr2,hf2⟩
      have hw1:IntKind.i64.wrap ((i:Int)+1)=((i+1:Nat):Int):=by
       rw[maxLen_eq] at hml
       rw[w_i64 (by omega) (by omega)];rfl
      repeat' (first | (simp (disch:=first | omega | (decide +kernel)) only[↓RD,RU,↓putF_get,↓evF_t,↓evF_c,pop,↓reduceIte,Nat.reduceEqDiff,h18,hw1]) | (with_reducible first | refine condK_dec (fun _=> ?_) fun _=> ?_ | refine grd_dec (fun _=> ?_) fun _=> ?_ | refine egrd_dec (fun _=> ?_) fun _=> ?_))
      refine⟨_,?_,i+1,b2,_,rfl,hlt,rfl,hpr2,(hf.hx hx4).trans hf2,?_⟩
      ·omega
      ·have e:f-(i+1)=g:=by omega
       rw[e];exact h1
  ·have hi:i=ks.length:=by omega
   subst hi
   rw[List.drop_length] at h1
   cases hg:f-ks.length with
   | zero=>rw[hg] at h1;exact(pe_lost h1 (stF:=stE) hB (Nat.le_refl _)).elim
   | succ g=>
     rw[hg] at h1
     simp only[pe] at h1
     repeat' (first | (simp (disch:=first | omega | (decide +kernel)) only[↓RD,RU,↓putF_get,↓evF_t,pop,↓reduceIte,Nat.reduceEqDiff,reduceCtorEq,hag,h18]) | (with_reducible first | refine condK_dec (fun _=> ?_) fun _=> ?_ | refine grd_dec (fun _=> ?_) fun _=> ?_ | refine egrd_dec (fun _=> ?_) fun _=> ?_))
     refine⟨.inr trivial,b1,?_,hf⟩
     rw[←h1];exact⟨a1,hbd⟩
 ·rintro x0 fr K3 ⟨hx0,f1,f4,b1,⟨a1,hbd⟩,hf⟩
  have hob:=hbd.ob
  have hpl:=hbd.pl
  have hn3:=hf.nx
  have hxH3:HExt H K3:=⟨by have:=hxH2.nx;omega,fun b hb=>by rw[hf.ob b (by have:=hxH2.nx;omega) (by omega) (fun _ _ _ _ e=>by cases e),hxH2.ob b hb]⟩
  have hr3:K3.ob H.nx= .cells [.int .i64 k, .int .i64 l, .string ⟨⟨x⟩⟩, .int .i64 o, .slice q ks.length ks.length] 26 .ex:=by
   rw[hf.ob H.nx (by omega) (by omega) (fun _ _ _ _ e=>by cases e),hx2.ob H.nx (by omega)];exact hr
  have hsh : ∀p:Prop,(x0= .normal∨x0= .exit 0):=fun _=>hx0
  cases hbad:stE.bad with
  | true=>
    have es:showT f (.mk k l x o ks)=([],3):=by
     unfold showT;rw[if_neg (by rw[hhi];decide),hS,if_pos hbad]
    have hob':K3.ob K1.nx= .cells [a1,b1, .int .i64 stE.deep, .int .i64 (20000-(stE.w:Int)), .bool true] 46 .ex:=by rw[hob,hbad]
    rw[es]
    rcases hx0 with rfl | rfl
    all_goals
     repeat' (first | (simp (disch:=first | omega | (decide +kernel)) only[↓RD,RU,↓putF_get,↓evF_t,↓evF_c,pop,lop,resL,resV,tupleV,↓reduceIte,Nat.reduceEqDiff,ρ5,ρ6,f4,hob']) | (with_reducible first | refine condK_dec (fun _=> ?_) fun _=> ?_ | refine grd_dec (fun _=> ?_) fun _=> ?_ | refine egrd_dec (fun _=> ?_) fun _=> ?_))
     exact⟨hxH3,rfl⟩
  | false=>
    have hob':K3.ob K1.nx= .cells [a1,b1, .int .i64 stE.deep, .int .i64 (20000-(stE.w:Int)), .bool false] 46 .ex:=by rw[hob,hbad]
    have hol:stE.out.length≤2305843009213693952:=Nat.le_trans stE.h hB
    rcases hx0 with rfl | rfl
    all_goals
     repeat' (first | (simp (disch:=first | omega | (decide +kernel)) only[↓RD,RU,↓putF_get,↓evF_t,pop,lop,ρ0,ρ1,↓reduceIte,Nat.reduceEqDiff,ρ5,ρ6,ρ28,f4,hob']) | (with_reducible first | refine condK_dec (fun _=> ?_) fun _=> ?_ | refine grd_dec (fun _=> ?_) fun _=> ?_ | refine egrd_dec (fun _=> ?_) fun _=> ?_))
     refine(string_wp2 hbd hol).mono ?_
     rintro v K4 ⟨rfl,hn4,hk4⟩
     have hnr : ∀l,l<K2.nx→NotRow b1 l:=fun l hl=>hf.row l hl fun _ _ _ _ e=>by cases e
     have hxH4:HExt H K4:=⟨Nat.le_trans hxH3.nx hn4,fun b hb=>by
      have:=hxH2.nx
      rw[hk4 b (by omega) (hnr b (by omega)),hxH3.ob b hb]⟩
     have hr4:K4.ob H.nx= .cells [.int .i64 k, .int .i64 l, .string ⟨⟨x⟩⟩, .int .i64 o, .slice q ks.length ks.length] 26 .ex:=by
      rw[hk4 H.nx (by omega) (hnr _ (by omega))];exact hr3
     have esz:(⟨⟨stE.out⟩⟩:ByteArray).size=stE.out.length:=rfl
     repeat' (first | (simp (disch:=first | omega | (decide +kernel)) only[↓RD,RU,↓putF_get,↓evF_t,pop,wop,ρ0,ρ1,↓reduceIte,maxLen_eq,esz]) | (with_reducible first | refine condK_dec (fun _=> ?_) fun _=> ?_ | refine grd_dec (fun _=> ?_) fun _=> ?_ | refine egrd_dec (fun _=> ?_) fun _=> ?_))
     have hxK5:HExt H (K4.new (.cells (bsV stE.out) 5 .gr)):=hxH4.new _
     have hs5:SlAt 1 (CInt .u8) (K4.new (.cells (bsV stE.out) 5 .gr)) (some ⟨K4.nx,0,none⟩) stE.out.length (u8i stE.out):=slat_bs (by rw[new_nx];omega) (new_get.trans (if_pos rfl)) (by rw[maxLen_eq];omega)
     have hr5:(K4.new (.cells (bsV stE.out) 5 .gr)).ob H.nx= .cells [.int .i64 k, .int .i64 l, .string ⟨⟨x⟩⟩, .int .i64 o, .slice q ks.length ks.length] 26 .ex:=by
      rw[new_ne (by omega)];exact hr4
     have hn5:H.nx+1<(K4.new (.cells (bsV stE.out) 5 .gr)).nx:=by rw[new_nx];omega
     show WpF TL 7 _ (K4.new (.cells (bsV stE.out) 5 .gr)) _
     generalize K4.new (.cells (bsV stE.out) 5 .gr)=K5 at hxK5 hs5 hr5 hn5
     refine(source_wp hs5).mono ?_
     rintro v K6 ⟨vs,rfl,hx6,os6,rfl,hs6⟩
     have hn6:=hx6.nx
     have hr6:K6.ob H.nx= .cells [.int .i64 k, .int .i64 l, .string ⟨⟨x⟩⟩, .int .i64 o, .slice q ks.length ks.length] 26 .ex:=by
      rw[hx6.ob H.nx (by omega)];exact hr5
     have hxH6:=hxK5.trans hx6
     obtain⟨k6,l6,x6,o6,wa,wn,wc,rfl⟩:=nd_cells hs6
     have hsT:showT f (.mk k l x o ks)=if (sourceT stE.out).2.2=0∧sameN false (sourceT stE.out).1 (.mk k l x o ks)=true then (stE.out,0) else ([],3):=by
      unfold showT;rw[if_neg (by rw[hhi];decide),hS,if_neg (by rw[hbad];decide)]
     generalize (sourceT stE.out).1=m6 at hs6 hsT
     generalize (sourceT stE.out).2.1=ln6 at *
     generalize (sourceT stE.out).2.2=er6 at *
     by_cases he:er6=0
     ·subst he
      repeat' (first | (simp (disch:=first | omega | (decide +kernel)) only[↓RD,RU,↓putF_get,↓putF_none,↓evF_t,↓evF_c,new_get,set_get,pop,lop,aop,wop,tupleV,akV,isVal,isCell,Value.cells,ρ0,ρ1,↓reduceIte,Nat.reduceEqDiff,Nat.reduceAdd,ρ5,ρ6,ρ7,ρ8,ρ15,ρ17,ρ18,ρ21,ρ22,ρ23,Kd.isRo,ρ25,ρ26,f1,hr6]) | (with_reducible first | refine condK_dec (fun _=> ?_) fun _=> ?_ | refine grd_dec (fun _=> ?_) fun _=> ?_ | refine egrd_dec (fun _=> ?_) fun _=> ?_))
      have hx7:HExt K6 ((K6.new (.cells [.int .i64 0, .int .i64 0, .string ⟨⟨[]⟩⟩, .int .i64 0, .slice none 0 0] 26 .ex)).set K6.nx (.cells [.int .i64 k6, .int .i64 l6, .string x6, .int .i64 o6, .slice wa wn wc] 26 .ex)):=((HExt.refl K6).new _).set (Nat.le_refl _) _
      generalize (K6.new (.cells [.int .i64 0, .int .i64 0, .string ⟨⟨[]⟩⟩, .int .i64 0, .slice none 0 0] 26 .ex)).set K6.nx (.cells [.int .i64 k6, .int .i64 l6, .string x6, .int .i64 o6, .slice wa wn wc] 26 .ex)=K7 at hx7⊢
      have hn7:=hx7.nx
      have hsm:=hs6.mv (K':=K7) (A':=fun b=>K5.nx≤b∧b<K6.nx) fun b hb=>⟨hb,hx7.ob b hb.2⟩
      have hsn7:=hs.mv (K':=K7) (A':=A) fun b hb=>⟨hb,by have:=hA b hb;rw[hx7.ob b (by omega),hxH6.ob b this]⟩
      refine(psame_wp (fun b hb=>Nat.lt_of_lt_of_le hb.2 hn7) (fun b hb=>by have:=hA b hb;omega) hsm hsn7).mono ?_
      rintro v K8 ⟨hx8,rfl⟩
      cases hsame:sameN false m6 (.mk k l x o ks) with
      | true=>
        have es:showT f (.mk k l x o ks)=(stE.out,0):=by rw[hsT,if_pos ⟨rfl,hsame⟩]
        rw[es]
        repeat' (first | (simp (disch:=first | omega | (decide +kernel)) only[↓RD,RU,↓putF_get,↓evF_t,↓evF_c,u_not,pop,resL,resV,tupleV,ρ2,↓reduceIte,Nat.reduceEqDiff,reduceCtorEq]) | (with_reducible first | refine condK_dec (fun _=> ?_) fun _=> ?_ | refine grd_dec (fun _=> ?_) fun _=> ?_ | refine egrd_dec (fun _=> ?_) fun _=> ?_))
        exact⟨(hxH6.trans hx7).trans hx8,rfl⟩
      | false=>
        have es:showT f (.mk k l x o ks)=([],3):=by rw[hsT,if_neg (fun h=>by rw[hsame] at h;exact absurd h.2 (by decide))]
        rw[es]
        repeat' (first | (simp (disch:=first | omega | (decide +kernel)) only[↓RD,RU,↓putF_get,↓evF_t,↓evF_c,u_not,pop,resL,resV,tupleV,ρ3,↓reduceIte,Nat.reduceEqDiff,reduceCtorEq]) | (with_reducible first | refine condK_dec (fun _=> ?_) fun _=> ?_ | refine grd_dec (fun _=> ?_) fun _=> ?_ | refine egrd_dec (fun _=> ?_) fun _=> ?_))
        exact⟨(hxH6.trans hx7).trans hx8,rfl⟩
     ·have es:showT f (.mk k l x o ks)=([],3):=by rw[hsT,if_neg (fun h=>he h.1)]
      rw[es]
      repeat' (first | (simp (disch:=first | omega | (decide +kernel)) only[↓RD,RU,↓putF_get,↓putF_none,↓evF_t,↓evF_c,new_get,pop,aop,wop,resL,resV,tupleV,akV,isVal,isCell,Value.cells,↓reduceIte,Nat.reduceEqDiff,Nat.reduceAdd,ρ5,ρ6,ρ7,ρ8,ρ17,ρ21,ρ22,ρ23,Kd.isRo,ρ25,ρ26]) | (with_reducible first | refine condK_dec (fun _=> ?_) fun _=> ?_ | refine grd_dec (fun _=> ?_) fun _=> ?_ | refine egrd_dec (fun _=> ?_) fun _=> ?_))
      exact⟨(hxH6.new _).set (by omega) _,rfl⟩
end Can
end Go.Proofs.YtdfgkcoenagaaaaGreat
end
section
namespace Go.Proofs.YtdfgkcoenagaaaaGreat
namespace Can
set_option linter.unusedSimpArgs false
set_option linter.unusedVariables false
mutual
def nl:Nd→Nd
 | .mk k _ x o ks=> .mk k 0 x o (nls ks)
def nls:List Nd→List Nd
 | []=> []
 | n::ks=>nl n::nls ks
end
theorem nls_len : ∀ks:List Nd,(nls ks).length=ks.length
 | []=>rfl
 | n::ks=>by simp only[nls,List.length_cons,nls_len ks]
mutual
theorem nl_same : ∀a b:Nd,sameN false a b=true↔nl a=nl b
 | .mk k l x o ks, .mk k' l' x' o' ks'=>by
   have h:=nls_same ks ks'
   simp only[sameN,nl,Bool.and_eq_true,decide_eq_true_eq,Bool.not_false,Bool.true_or,and_true,Nd.mk.injEq,true_and]
   constructor
   ·rintro⟨⟨⟨⟨rfl,rfl⟩,rfl⟩,h4⟩,h5⟩
    exact⟨rfl,rfl,rfl,(h h4).1 h5⟩
   ·rintro⟨rfl,rfl,rfl,h5⟩
    have h4:ks.length=ks'.length:=by rw[←nls_len ks,←nls_len ks',h5]
    exact⟨⟨⟨⟨rfl,rfl⟩,rfl⟩,h4⟩,(h h4).2 h5⟩
theorem nls_same : ∀a b:List Nd,a.length=b.length→(sameL false a b=true↔nls a=nls b)
 | [],[],_=>by simp[sameL,nls]
 | [],_::_,h=>by cases h
 | _::_,[],h=>by cases h
 | n::a,m::b,h=>by
   simp only[sameL,nls,Bool.and_eq_true,List.cons.injEq]
   rw[nl_same n m,nls_same a b (by simpa using h)]
end
theorem nl_kind(n:Nd):(nl n).kind=n.kind:=by cases n;rfl
theorem nl_text(n:Nd):(nl n).text=n.text:=by cases n;rfl
theorem nl_op(n:Nd):(nl n).op=n.op:=by cases n;rfl
theorem nl_kids(n:Nd):(nl n).kids=nls n.kids:=by cases n;rfl
theorem nl_lv(n:Nd):lvN (nl n)=lvN n:=by
 unfold lvN
 rw[nl_kind,nl_op]
def cntM (n a b:Nat)(st:PSt):PSt:=if st.bad=true then st else if n<b then st.sb else if a<n then st.sb else st
theorem cnt_eq(ks:List Nd)(a b:Nat)(st:PSt):cntN ks a b st=cntM ks.length a b st:=rfl
def SR.nl:SR→SR
 | .at n a=> .at (Can.nl n) a
 | .expr n=> .expr (Can.nl n)
 | .joined n=> .joined (Can.nl n)
 | .based n=> .based (Can.nl n)
 | .two n l s r=> .two (Can.nl n) l s r
 | .shown n=> .shown (Can.nl n)
 | .maybe s n=> .maybe s (Can.nl n)
 | .block n=> .block (Can.nl n)
 | .ifs s n=> .ifs s (Can.nl n)
 | .tries n=> .tries (Can.nl n)
 | .stmt n=> .stmt (Can.nl n)
 | .head n=> .head (Can.nl n)
 | .simple n=> .simple (Can.nl n)
 | .rowL b l=> .rowL b (nls l)
 | .clauses l=> .clauses (nls l)
 | .pairs b l=> .pairs b (nls l)
 | .links l=> .links (nls l)
 | .blockL l=> .blockL (nls l)
 | .hands l=> .hands (nls l)
 | .asg b l=> .asg b (nls l)
theorem nls_last : ∀ks:List Nd,(nls ks).getLast? = ks.getLast?.map nl
 | []=>rfl
 | [n]=>rfl
 | n::m::ks=>by
   have:=nls_last (m::ks)
   simp only[nls,List.getLast?_cons_cons] at this⊢
   exact this
theorem pe_nl : ∀(f:Nat) (r:SR) (st:PSt),pe f r.nl st=pe f r st:=by
 intro f
 induction f with
 | zero=>intro r st;rfl
 | succ f ih=>
   have i1 : ∀n a st,pe f (.at (nl n) a) st=pe f (.at n a) st:=fun n a st=>ih (.at n a) st
   have i2 : ∀n st,pe f (.expr (nl n)) st=pe f (.expr n) st:=fun n st=>ih (.expr n) st
   have i3 : ∀n st,pe f (.joined (nl n)) st=pe f (.joined n) st:=fun n st=>ih (.joined n) st
   have i4 : ∀n st,pe f (.based (nl n)) st=pe f (.based n) st:=fun n st=>ih (.based n) st
   have i5 : ∀n l s r st,pe f (.two (nl n) l s r) st=pe f (.two n l s r) st:=fun n l s r st=>ih (.two n l s r) st
   have i6 : ∀n st,pe f (.shown (nl n)) st=pe f (.shown n) st:=fun n st=>ih (.shown n) st
   have i7 : ∀s n st,pe f (.maybe s (nl n)) st=pe f (.maybe s n) st:=fun s n st=>ih (.maybe s n) st
   have i8 : ∀n st,pe f (.block (nl n)) st=pe f (.block n) st:=fun n st=>ih (.block n) st
   have i9 : ∀s n st,pe f (.ifs s (nl n)) st=pe f (.ifs s n) st:=fun s n st=>ih (.ifs s n) st
   have i10 : ∀n st,pe f (.tries (nl n)) st=pe f (.tries n) st:=fun n st=>ih (.tries n) st
   have i11 : ∀n st,pe f (.stmt (nl n)) st=pe f (.stmt n) st:=fun n st=>ih (.stmt n) st
   have i12 : ∀n st,pe f (.head (nl n)) st=pe f (.head n) st:=fun n st=>ih (.head n) st
   have i13 : ∀n st,pe f (.simple (nl n)) st=pe f (.simple n) st:=fun n st=>ih (.simple n) st
   have j1 : ∀b l st,pe f (.rowL b (nls l)) st=pe f (.rowL b l) st:=fun b l st=>ih (.rowL b l) st
   have j2 : ∀l st,pe f (.clauses (nls l)) st=pe f (.clauses l) st:=fun l st=>ih (.clauses l) st
   have j3 : ∀b l st,pe f (.pairs b (nls l)) st=pe f (.pairs b l) st:=fun b l st=>ih (.pairs b l) st
   have j3' : ∀b n m st,pe f (.pairs b [nl n,nl m]) st=pe f (.pairs b [n,m]) st:=fun b n m st=>ih (.pairs b [n,m]) st
   have j4 : ∀l st,pe f (.links (nls l)) st=pe f (.links l) st:=fun l st=>ih (.links l) st
   have j5 : ∀l st,pe f (.blockL (nls l)) st=pe f (.blockL l) st:=fun l st=>ih (.blockL l) st
   have j6 : ∀l st,pe f (.hands (nls l)) st=pe f (.hands l) st:=fun l st=>ih (.hands l) st
   have j7 : ∀b l st,pe f (.asg b (nls l)) st=pe f (.asg b l) st:=fun b l st=>ih (.asg b l) st
   have qr1 : ∀t a st,pe f (.rowL t [nl a]) st=pe f (.rowL t [a]) st:=fun t a st=>ih (.rowL t [a]) st
   have qr2 : ∀t a b st,pe f (.rowL t [nl a,nl b]) st=pe f (.rowL t [a,b]) st:=fun t a b st=>ih (.rowL t [a,b]) st
   have qr3 : ∀t a b c l st,pe f (.rowL t (nl a::nl b::nl c::nls l)) st=pe f (.rowL t (a::b::c::l)) st:=fun t a b c l st=>ih (.rowL t (a::b::c::l)) st
   have qp1 : ∀t a st,pe f (.pairs t [nl a]) st=pe f (.pairs t [a]) st:=fun t a st=>ih (.pairs t [a]) st
   have qp2 : ∀t a b st,pe f (.pairs t [nl a,nl b]) st=pe f (.pairs t [a,b]) st:=fun t a b st=>ih (.pairs t [a,b]) st
   have qp3 : ∀t a b c l st,pe f (.pairs t (nl a::nl b::nl c::nls l)) st=pe f (.pairs t (a::b::c::l)) st:=fun t a b c l st=>ih (.pairs t (a::b::c::l)) st
   have qa1 : ∀t a st,pe f (.asg t [nl a]) st=pe f (.asg t [a]) st:=fun t a st=>ih (.asg t [a]) st
   have qa2 : ∀t a b st,pe f (.asg t [nl a,nl b]) st=pe f (.asg t [a,b]) st:=fun t a b st=>ih (.asg t [a,b]) st
   have qa3 : ∀t a b c l st,pe f (.asg t (nl a::nl b::nl c::nls l)) st=pe f (.asg t (a::b::c::l)) st:=fun t a b c l st=>ih (.asg t (a::b::c::l)) st
   have qc1 : ∀a st,pe f (.clauses [nl a]) st=pe f (.clauses [a]) st:=fun a st=>ih (.clauses [a]) st
   have qc2 : ∀a b l st,pe f (.clauses (nl a::nl b::nls l)) st=pe f (.clauses (a::b::l)) st:=fun a b l st=>ih (.clauses (a::b::l)) st
   have ql1 : ∀a st,pe f (.links [nl a]) st=pe f (.links [a]) st:=fun a st=>ih (.links [a]) st
   have ql2 : ∀a b l st,pe f (.links (nl a::nl b::nls l)) st=pe f (.links (a::b::l)) st:=fun a b l st=>ih (.links (a::b::l)) st
   have qh1 : ∀a st,pe f (.hands [nl a]) st=pe f (.hands [a]) st:=fun a st=>ih (.hands [a]) st
   have qh2 : ∀a b l st,pe f (.hands (nl a::nl b::nls l)) st=pe f (.hands (a::b::l)) st:=fun a b l st=>ih (.hands (a::b::l)) st
   have qr4 : ∀t a b l st,pe f (.rowL t (nl a::nl b::nls l)) st=pe f (.rowL t (a::b::l)) st:=fun t a b l st=>ih (.rowL t (a::b::l)) st
   have qc3 : ∀a l st,pe f (.clauses (nl a::nls l)) st=pe f (.clauses (a::l)) st:=fun a l st=>ih (.clauses (a::l)) st
   intro r st
   cases r
   case rowL b l=>rcases l with _ | ⟨n,l⟩<;>simp only[SR.nl,nls,pe,i1,j1]
   case clauses l=>
    rcases l with _ | ⟨n,l⟩
    ·simp only[SR.nl,nls,pe,nl_kids,nl_kind,nl_op,nl_text,nl_lv,cnt_eq,nls_len,List.length_cons,List.length_nil,i1,i2,i3,i4,i5,i6,i7,i8,i9,i10,i11,i12,i13,j1,j2,j3,j3',j4,j5,j6,j7]
    ·rcases hk:n.kids with _ | ⟨a,_ | ⟨b,_ | ⟨c,ks⟩⟩⟩<;>simp only[SR.nl,nls,pe,nl_kids,nl_kind,nl_op,nl_text,nl_lv,cnt_eq,nls_len,List.length_cons,List.length_nil,i1,i2,i3,i4,i5,i6,i7,i8,i9,i10,i11,i12,i13,j1,j2,j3,j3',j4,j5,j6,j7,qr1,qr2,qr3,qp1,qp2,qp3,qa1,qa2,qa3,qc1,qc2,ql1,ql2,qh1,qh2,qr4,qc3,hk]
   case links l=>
    rcases l with _ | ⟨n,l⟩
    ·simp only[SR.nl,nls,pe,nl_kids,nl_kind,nl_op,nl_text,nl_lv,cnt_eq,nls_len,List.length_cons,List.length_nil,i1,i2,i3,i4,i5,i6,i7,i8,i9,i10,i11,i12,i13,j1,j2,j3,j3',j4,j5,j6,j7]
    ·rcases hk:n.kids with _ | ⟨a,_ | ⟨b,_ | ⟨c,ks⟩⟩⟩<;>simp only[SR.nl,nls,pe,nl_kids,nl_kind,nl_op,nl_text,nl_lv,cnt_eq,nls_len,List.length_cons,List.length_nil,i1,i2,i3,i4,i5,i6,i7,i8,i9,i10,i11,i12,i13,j1,j2,j3,j3',j4,j5,j6,j7,qr1,qr2,qr3,qp1,qp2,qp3,qa1,qa2,qa3,qc1,qc2,ql1,ql2,qh1,qh2,qr4,qc3,hk]
   case hands l=>
    rcases l with _ | ⟨n,l⟩
    ·simp only[SR.nl,nls,pe,nl_kids,nl_kind,nl_op,nl_text,nl_lv,cnt_eq,nls_len,List.length_cons,List.length_nil,i1,i2,i3,i4,i5,i6,i7,i8,i9,i10,i11,i12,i13,j1,j2,j3,j3',j4,j5,j6,j7]
    ·simp only[SR.nl,nls,pe,nl_kids,nl_kind,nl_op,nl_text,nl_lv,cnt_eq,nls_len,List.length_cons,List.length_nil,i1,i2,i3,i4,i5,i6,i7,i8,i9,i10,i11,i12,i13,j1,j2,j3,j3',j4,j5,j6,j7,nls_last]
     cases hl:n.kids.getLast?<;>(simp only[hl,Option.map_some,Option.map_none];rcases hk:n.kids with _ | ⟨a,_ | ⟨b,_ | ⟨c,ks⟩⟩⟩<;>simp only[hk,SR.nl,nls,pe,nl_kids,nl_kind,nl_op,nl_text,nl_lv,cnt_eq,nls_len,List.length_cons,List.length_nil,i1,i2,i3,i4,i5,i6,i7,i8,i9,i10,i11,i12,i13,j1,j2,j3,j3',j4,j5,j6,j7])
   case pairs b l=>rcases l with _ | ⟨n,_ | ⟨m,l⟩⟩<;>simp only[SR.nl,nls,pe,nl_kids,nl_kind,nl_op,nl_text,nl_lv,cnt_eq,nls_len,List.length_cons,List.length_nil,i1,i2,i3,i4,i5,i6,i7,i8,i9,i10,i11,i12,i13,j1,j2,j3,j3',j4,j5,j6,j7]
   case blockL l=>rcases l with _ | ⟨n,l⟩<;>simp only[SR.nl,nls,pe,nl_kids,nl_kind,nl_op,nl_text,nl_lv,cnt_eq,nls_len,List.length_cons,List.length_nil,i1,i2,i3,i4,i5,i6,i7,i8,i9,i10,i11,i12,i13,j1,j2,j3,j3',j4,j5,j6,j7]
   case asg b l=>rcases l with _ | ⟨n,l⟩<;>simp only[SR.nl,nls,pe,nl_kids,nl_kind,nl_op,nl_text,nl_lv,cnt_eq,nls_len,List.length_cons,List.length_nil,i1,i2,i3,i4,i5,i6,i7,i8,i9,i10,i11,i12,i13,j1,j2,j3,j3',j4,j5,j6,j7]
   case «at» n a=>simp only[SR.nl,nls,pe,nl_kids,nl_kind,nl_op,nl_text,nl_lv,cnt_eq,nls_len,List.length_cons,List.length_nil,i1,i2,i3,i4,i5,i6,i7,i8,i9,i10,i11,i12,i13,j1,j2,j3,j3',j4,j5,j6,j7]
   case expr n=>simp only[SR.nl,nls,pe,nl_kids,nl_kind,nl_op,nl_text,nl_lv,cnt_eq,nls_len,List.length_cons,List.length_nil,i1,i2,i3,i4,i5,i6,i7,i8,i9,i10,i11,i12,i13,j1,j2,j3,j3',j4,j5,j6,j7]
   case block n=>simp only[SR.nl,nls,pe,nl_kids,nl_kind,nl_op,nl_text,nl_lv,cnt_eq,nls_len,List.length_cons,List.length_nil,i1,i2,i3,i4,i5,i6,i7,i8,i9,i10,i11,i12,i13,j1,j2,j3,j3',j4,j5,j6,j7]
   case stmt n=>simp only[SR.nl,nls,pe,nl_kids,nl_kind,nl_op,nl_text,nl_lv,cnt_eq,nls_len,List.length_cons,List.length_nil,i1,i2,i3,i4,i5,i6,i7,i8,i9,i10,i11,i12,i13,j1,j2,j3,j3',j4,j5,j6,j7]
   case two n l s r=>
    rcases hk:n.kids with _ | ⟨a,_ | ⟨b,_ | ⟨c,ks⟩⟩⟩<;>simp only[SR.nl,nls,pe,nl_kids,nl_kind,nl_op,nl_text,nl_lv,cnt_eq,nls_len,List.length_cons,List.length_nil,i1,i2,i3,i4,i5,i6,i7,i8,i9,i10,i11,i12,i13,j1,j2,j3,j3',j4,j5,j6,j7,qr1,qr2,qr3,qp1,qp2,qp3,qa1,qa2,qa3,qc1,qc2,ql1,ql2,qh1,qh2,qr4,qc3,hk]
   case shown n=>
    rcases hk:n.kids with _ | ⟨a,_ | ⟨b,_ | ⟨c,ks⟩⟩⟩<;>simp only[SR.nl,nls,pe,nl_kids,nl_kind,nl_op,nl_text,nl_lv,cnt_eq,nls_len,List.length_cons,List.length_nil,i1,i2,i3,i4,i5,i6,i7,i8,i9,i10,i11,i12,i13,j1,j2,j3,j3',j4,j5,j6,j7,qr1,qr2,qr3,qp1,qp2,qp3,qa1,qa2,qa3,qc1,qc2,ql1,ql2,qh1,qh2,qr4,qc3,hk]
   case based n=>
    rcases hk:n.kids with _ | ⟨a,_ | ⟨b,_ | ⟨c,ks⟩⟩⟩<;>simp only[SR.nl,nls,pe,nl_kids,nl_kind,nl_op,nl_text,nl_lv,cnt_eq,nls_len,List.length_cons,List.length_nil,i1,i2,i3,i4,i5,i6,i7,i8,i9,i10,i11,i12,i13,j1,j2,j3,j3',j4,j5,j6,j7,qr1,qr2,qr3,qp1,qp2,qp3,qa1,qa2,qa3,qc1,qc2,ql1,ql2,qh1,qh2,qr4,qc3,hk]
   case joined n=>
    rcases hk:n.kids with _ | ⟨a,_ | ⟨b,_ | ⟨c,ks⟩⟩⟩<;>simp only[SR.nl,nls,pe,nl_kids,nl_kind,nl_op,nl_text,nl_lv,cnt_eq,nls_len,List.length_cons,List.length_nil,i1,i2,i3,i4,i5,i6,i7,i8,i9,i10,i11,i12,i13,j1,j2,j3,j3',j4,j5,j6,j7,qr1,qr2,qr3,qp1,qp2,qp3,qa1,qa2,qa3,qc1,qc2,ql1,ql2,qh1,qh2,qr4,qc3,hk]
   case maybe s n=>
    rcases hk:n.kids with _ | ⟨a,_ | ⟨b,_ | ⟨c,ks⟩⟩⟩<;>simp only[SR.nl,nls,pe,nl_kids,nl_kind,nl_op,nl_text,nl_lv,cnt_eq,nls_len,List.length_cons,List.length_nil,i1,i2,i3,i4,i5,i6,i7,i8,i9,i10,i11,i12,i13,j1,j2,j3,j3',j4,j5,j6,j7,qr1,qr2,qr3,qp1,qp2,qp3,qa1,qa2,qa3,qc1,qc2,ql1,ql2,qh1,qh2,qr4,qc3,hk]
   case tries n=>
    rcases hk:n.kids with _ | ⟨a,_ | ⟨b,_ | ⟨c,ks⟩⟩⟩<;>simp only[SR.nl,nls,pe,nl_kids,nl_kind,nl_op,nl_text,nl_lv,cnt_eq,nls_len,List.length_cons,List.length_nil,i1,i2,i3,i4,i5,i6,i7,i8,i9,i10,i11,i12,i13,j1,j2,j3,j3',j4,j5,j6,j7,qr1,qr2,qr3,qp1,qp2,qp3,qa1,qa2,qa3,qc1,qc2,ql1,ql2,qh1,qh2,qr4,qc3,hk]
   case head n=>
    rcases hk:n.kids with _ | ⟨a,_ | ⟨b,_ | ⟨c,ks⟩⟩⟩<;>simp only[SR.nl,nls,pe,nl_kids,nl_kind,nl_op,nl_text,nl_lv,cnt_eq,nls_len,List.length_cons,List.length_nil,i1,i2,i3,i4,i5,i6,i7,i8,i9,i10,i11,i12,i13,j1,j2,j3,j3',j4,j5,j6,j7,qr1,qr2,qr3,qp1,qp2,qp3,qa1,qa2,qa3,qc1,qc2,ql1,ql2,qh1,qh2,qr4,qc3,hk]
   case simple n=>
    rcases hk:n.kids with _ | ⟨a,_ | ⟨b,_ | ⟨c,ks⟩⟩⟩<;>simp only[SR.nl,nls,pe,nl_kids,nl_kind,nl_op,nl_text,nl_lv,cnt_eq,nls_len,List.length_cons,List.length_nil,i1,i2,i3,i4,i5,i6,i7,i8,i9,i10,i11,i12,i13,j1,j2,j3,j3',j4,j5,j6,j7,qr1,qr2,qr3,qp1,qp2,qp3,qa1,qa2,qa3,qc1,qc2,ql1,ql2,qh1,qh2,qr4,qc3,hk]
   case ifs s n=>
    rcases hk:n.kids with _ | ⟨a,_ | ⟨b,_ | ⟨c,ks⟩⟩⟩
    all_goals simp only[SR.nl,nls,pe,nl_kids,nl_kind,nl_op,nl_text,nl_lv,cnt_eq,nls_len,List.length_cons,List.length_nil,i1,i2,i3,i4,i5,i6,i7,i8,i9,i10,i11,i12,i13,j1,j2,j3,j3',j4,j5,j6,j7,qr1,qr2,qr3,qp1,qp2,qp3,qa1,qa2,qa3,qc1,qc2,ql1,ql2,qh1,qh2,qr4,qc3,hk]
    rcases hk2:c.kids with _ | ⟨e,_ | ⟨g,ks2⟩⟩<;>simp only[SR.nl,nls,pe,nl_kids,nl_kind,nl_op,nl_text,nl_lv,cnt_eq,nls_len,List.length_cons,List.length_nil,i1,i2,i3,i4,i5,i6,i7,i8,i9,i10,i11,i12,i13,j1,j2,j3,j3',j4,j5,j6,j7,hk2]
end Can
end Go.Proofs.YtdfgkcoenagaaaaGreat
end
section
namespace Go.Proofs.YtdfgkcoenagaaaaGreat
namespace Can
mutual
def shN:Nd→Prop
 | .mk k _ x _ ks=>x.length≤20000∧(k=7→ks.length=3)∧shL ks
def shL:List Nd→Prop
 | []=>True
 | n::ks=>shN n∧shL ks
end
end Can
end Go.Proofs.YtdfgkcoenagaaaaGreat
end
section
namespace Go.Proofs.YtdfgkcoenagaaaaGreat
namespace Can
set_option linter.unusedSimpArgs false
set_option linter.unusedVariables false
def SR.me:SR→Nat
 | .at n _=>16*szL n.kids+7
 | .expr n=>16*szL n.kids+5
 | .joined n=>16*szL n.kids+4
 | .based n=>16*szL n.kids+4
 | .two n _ _ _=>16*szL n.kids+2
 | .shown n=>16*szL n.kids+2
 | .maybe _ n=>16*szL n.kids+2
 | .block n=>16*szL n.kids+1
 | .ifs _ n=>16*szL n.kids+2
 | .tries n=>16*szL n.kids+1
 | .stmt n=>16*szL n.kids+10
 | .head n=>16*szL n.kids+5
 | .simple n=>16*szL n.kids+4
 | .rowL _ l | .clauses l | .pairs _ l | .links l | .blockL l | .hands l | .asg _ l=>16*szL l
def SR.si:SR→Nat
 | .at n _ | .expr n | .joined n | .based n | .two n _ _ _ | .shown n | .maybe _ n | .block n | .ifs _ n | .tries n | .stmt n | .head n | .simple n=>szL n.kids+1
 | .rowL _ l | .clauses l | .pairs _ l | .links l | .blockL l | .hands l | .asg _ l=>szL l
def SR.ok:SR→Prop
 | .two n _ s _=>shN n∧s.length≤100
 | .maybe s n=>shN n∧s.length≤100
 | .ifs s n=>shN n∧s.length≤100
 | .at n _ | .expr n | .joined n | .based n | .shown n | .block n | .tries n | .stmt n | .head n | .simple n=>shN n
 | .rowL _ l | .clauses l | .pairs _ l | .links l | .blockL l | .hands l | .asg _ l=>shL l
theorem szN_eq(n:Nd):szN n=szL n.kids+1:=by cases n;rfl
theorem putL_ws : ∀(ss:List (List UInt8)) (st:PSt),(putL ss st).w≤st.w+(ss.map List.length).sum
 | [],st=>by simp[putL]
 | s::r,st=>by
   simp only[putL]
   split
   ·simp
    try omega
   ·have:=putL_ws r ⟨st.out++s,st.deep,st.w+s.length,st.bad,by rw[List.length_append];exact Nat.add_le_add_right st.h _⟩
    simp at this⊢;omega
theorem padL_deep : ∀(n:Nat) (st:PSt),(padL n st).deep=st.deep
 | 0,st=>rfl
 | n+1,st=>by simp only[padL];rw[padL_deep n,putL_deep]
theorem padS_deep(s:List UInt8)(st:PSt):(padS s st).deep=st.deep:=by unfold padS;rw[putL_deep,padL_deep]
theorem quoL_deep : ∀(s:List UInt8) (st:PSt),(quoL s st).deep=st.deep
 | [],st=>rfl
 | c::r,st=>by
   simp only[quoL]
   split
   ·rfl
   ·rw[quoL_deep r,putL_deep]
theorem quoS_deep(s:List UInt8)(st:PSt):(quoS s st).deep=st.deep:=by unfold quoS;rw[putL_deep,quoL_deep,putL_deep]
theorem quo1_ws(c:UInt8):((quo1 c).map List.length).sum≤4:=by
 unfold quo1
 (repeat' split)<;>simp
theorem quoL_ws : ∀(s:List UInt8) (st:PSt),(quoL s st).w≤st.w+4*s.length
 | [],st=>Nat.le_refl _
 | c::r,st=>by
   simp only[quoL]
   split
   ·exact Nat.le_add_right _ _
   ·have h1:=quoL_ws r (putL (quo1 c) st)
    have h2:=putL_ws (quo1 c) st
    have h3:=quo1_ws c
    simp only[List.length_cons]
    omega
theorem quoS_ws(s:List UInt8)(st:PSt):(quoS s st).w≤st.w+4*s.length+2:=by
 unfold quoS
 have h1:=quoL_ws s (putL [t_qt] st)
 rw[putL_one] at h1⊢
 simp only[t_qt,List.length_cons,List.length_nil] at h1⊢
 omega
def Jc (X:PSt)(d:Int)(c B:Nat):Prop:=X.deep=d∧X.w+c≤B
theorem jc_1{X:PSt}{d:Int}{c B:Nat}(h:Jc X d c B):X.deep=d∧X.w+c≤B:=h
theorem jc_dp{X:PSt}{d e:Int}{c B:Nat}(h:Jc X d c B):Jc (X.dp e) e c B:=⟨rfl,h.2⟩
theorem jc_put{ss:List (List UInt8)}{st:PSt}{d:Int}{c B:Nat}(h:(ss.map List.length).sum≤1000000000)(g:Jc st d (1000000000+c) B):Jc (putL ss st) d c B:=by
 have:=putL_ws ss st
 exact⟨(putL_deep _ _).trans g.1,by have:=g.2;omega⟩
theorem jc_pad{s:List UInt8}{st:PSt}{d:Int}{c B:Nat}(h:s.length≤100000)(hd:0≤d∧d≤100000000)(g:Jc st d (1000000000+c) B):Jc (padS s st) d c B:=by
 have h1:=padS_w s st
 rw[g.1] at h1
 exact⟨(padS_deep _ _).trans g.1,by have:=g.2;omega⟩
theorem jc_quo{s:List UInt8}{st:PSt}{d:Int}{c B:Nat}(h:s.length≤100000)(g:Jc st d (1000000000+c) B):Jc (quoS s st) d c B:=by
 have:=quoS_ws s st
 exact⟨(quoS_deep _ _).trans g.1,by have:=g.2;omega⟩
theorem jc_okc{ks:List Nd}{a b:Nat}{st:PSt}{k:PSt→PSt}{d:Int}{c B:Nat}(h1:b≤ks.length→ks.length≤a→Jc (k st) d c B)(h2:Jc st d c B):Jc (okS (cntN ks a b st) k) d c B:=by
 by_cases hb:st.bad=true
 ·rw[okc_bad hb];exact h2
 ·by_cases h3:ks.length<b
  ·have e:cntN ks a b st=st.sb:=by unfold cntN;rw[if_neg hb,if_pos h3]
   unfold okS
   rw[e,if_pos (show st.sb.bad=true from rfl)];exact h2
  ·by_cases h4:a<ks.length
   ·have e:cntN ks a b st=st.sb:=by unfold cntN;rw[if_neg hb,if_neg h3,if_pos h4]
    unfold okS
    rw[e,if_pos (show st.sb.bad=true from rfl)];exact h2
   ·have e:cntN ks a b st=st:=by unfold cntN;rw[if_neg hb,if_neg h3,if_neg h4]
    unfold okS
    rw[e,if_neg hb];exact h1 (by omega) (by omega)
theorem jc_ite{p:Prop}[Decidable p]{d:Int}{c B:Nat}{X Y:PSt}(h:p→Jc X d c B)(g : ¬p→Jc Y d c B):Jc (if p then X else Y) d c B:=by
 split
 ·exact h ‹_›
 ·exact g ‹_›
theorem opN_len1(o:Nat):(opN signL o).length≤2:=opN_len o
theorem opN_len2(o:Nat):(opN linkL o).length≤6:=by
 rcases o with _ | _ | _ | _ | _ | _ | _ | _ | _ | _ | _ | o
 all_goals first | decide | skip
 show(linkL.getD (o+10) [63]).length≤6
 rw[List.getD_eq_getElem?_getD,List.getElem?_eq_none (by show 10≤o+10;omega)];decide
theorem cls_sum(n:Nd):(([if n.kind=51∨n.kind=55 then [93] else if n.kind=52 then (if n.kids.length=1 then [44,41] else [41]) else [125]]:List (List UInt8)).map List.length).sum≤1000000000:=by
 simp only[List.map_cons,List.map_nil,List.sum_cons,List.sum_nil]
 (repeat' split)<;>decide
theorem cls2(l:List Nd):(([if l.length=1 then [44,41] else [41]]:List (List UInt8)).map List.length).sum≤1000000000:=by
 simp only[List.map_cons,List.map_nil,List.sum_cons,List.sum_nil]
 (repeat' split)<;>decide
theorem opn_sum(n:Nd):(([if n.kind=51 then [91] else if n.kind=52 then [40] else [123]]:List (List UInt8)).map List.length).sum≤1000000000:=by
 simp only[List.map_cons,List.map_nil,List.sum_cons,List.sum_nil]
 (repeat' split)<;>decide
theorem opn_sum2(n:Nd):(([if n.kind=55 then [91] else [123]]:List (List UInt8)).map List.length).sum≤1000000000:=by
 simp only[List.map_cons,List.map_nil,List.sum_cons,List.sum_nil]
 (repeat' split)<;>decide
theorem jc_sb{st:PSt}{d:Int}{c B:Nat}(g:Jc st d c B):Jc st.sb d c B:=g
theorem jc_weak{st:PSt}{d:Int}{c c' B:Nat}(g:Jc st d c' B)(h:c≤c'):Jc st d c B:=⟨g.1,by have:=g.2;omega⟩
def CoOk (f:Nat):Prop:=∀(r:SR) (st:PSt) (d:Int) (c B:Nat),r.ok→r.me<f→0≤d→d+r.si≤100000000→Jc st d (1000000000*r.me+c) B→Jc (pe f r st) d c B
theorem jc_pe{f:Nat}(ih:CoOk f){r:SR}{st:PSt}{d:Int}{c B:Nat}(h1:r.ok)(h2:r.me<f)(h3:0≤d)(h4:d+r.si≤100000000)(h5:Jc st d (1000000000*r.me+c) B):Jc (pe f r st) d c B:=ih r st d c B h1 h2 h3 h4 h5
attribute [local irreducible] PSt.sb PSt.dp padS quoS putL padL quoL cntN okS Jc
theorem cw{P:Prop}(hz:P:=by
 (repeat' (first
   | with_reducible refine jc_put ?_ ?_
   | with_reducible refine jc_pad ?_ ?_ ?_
   | with_reducible refine jc_quo ?_ ?_
   | with_reducible refine jc_pe ih ?_ ?_ ?_ ?_ ?_
   | with_reducible refine jc_okc (fun hl hg=> ?_) ?_
   | with_reducible refine jc_sb ?_
   | with_reducible refine jc_ite (fun hc=> ?_) (fun hc=> ?_)
   | with_reducible refine jc_weak hj ?_
   | (refine jc_ite (fun hc=> ?_) (fun hc=> ?_))
   | split))
 all_goals first | assumption | trivial | exact cls_sum (.mk k ln x o _) | exact opn_sum (.mk k ln x o _) | exact opn_sum2 (.mk k ln x o _) | exact cls2 _ | exact ho.1.2.2.2.2.1 | exact⟨ho,Nat.le_trans (opN_len1 _) (by decide)⟩ | exact⟨ho,by rw[List.length_append];exact Nat.le_trans (Nat.add_le_add_right (opN_len1 _) _) (by decide)⟩ | (simp only[SR.ok,shN,shL,and_true,true_and,ho,implies_true];done) | omega | (simp only[SR.ok,shN,shL,and_true,true_and,ho,implies_true,Nd.kids,Nd.text,Nd.kind,Nd.op,List.length_cons,List.length_nil,Nat.reduceLeDiff,Nat.reduceAdd];done) | (simp only[SR.ok,SR.me,SR.si,szL,szN_eq,Nd.kids,Nd.text,Nd.kind,Nd.op,t_sp,t_cs,t_lp,t_rp,t_nl,t_cn,t_cl,t_qt,t_if,t_for,t_in,t_else,t_as,t_asg,List.length_cons,List.length_nil,List.map_cons,List.map_nil,List.sum_cons,List.sum_nil,List.length_append] at *;omega) | (have ho1:=opN_len1 o;simp only[SR.ok,SR.me,SR.si,szL,szN_eq,Nd.kids,Nd.text,Nd.kind,Nd.op,t_sp,t_cs,t_lp,t_rp,t_nl,t_cn,t_cl,t_qt,t_if,t_for,t_in,t_else,t_as,t_asg,List.length_cons,List.length_nil,List.map_cons,List.map_nil,List.sum_cons,List.sum_nil,List.length_append] at *;omega) | (have ho1:=opN_len2 o1;simp only[SR.ok,SR.me,SR.si,szL,szN_eq,Nd.kids,Nd.text,Nd.kind,Nd.op,t_sp,t_cs,t_lp,t_rp,t_nl,t_cn,t_cl,t_qt,t_if,t_for,t_in,t_else,t_as,t_asg,List.length_cons,List.length_nil,List.map_cons,List.map_nil,List.sum_cons,List.sum_nil,List.length_append] at *;omega) | (simp only[SR.ok,shN,shL,ho,and_true,true_and,t_sp,t_cs,t_lp,t_rp,t_nl,t_cn,t_cl,t_qt,t_if,t_for,t_in,t_else,t_as,t_asg,List.length_cons,List.length_nil,List.map_cons,List.map_nil,List.sum_cons,List.sum_nil,List.length_append];omega) | (simp only[List.map_cons,List.map_nil,List.sum_cons,List.sum_nil];(repeat' split)<;>(simp only[t_sp,t_cs,t_lp,t_rp,t_nl,t_cn,t_cl,t_qt,t_if,t_for,t_in,t_else,t_as,t_asg,List.length_cons,List.length_nil,List.map_cons,List.map_nil,List.sum_cons,List.sum_nil,List.length_append];omega)) | (have ho1:=opN_len1 o;simp only[SR.ok,shN,shL,ho,and_true,true_and,Nd.op,t_sp,t_cs,t_lp,t_rp,t_nl,t_cn,t_cl,t_qt,t_if,t_for,t_in,t_else,t_as,t_asg,List.length_cons,List.length_nil,List.map_cons,List.map_nil,List.sum_cons,List.sum_nil,List.length_append];omega)):P:=hz
section
variable {f:Nat} (ih:CoOk f) (st:PSt) (d:Int) (c B:Nat)
set_option maxHeartbeats 4000000 in
include ih in
theorem co_rowL(b:Bool)(l:List Nd)(ho:SR.ok (.rowL b l))(hm:SR.me (.rowL b l)<f+1)(hd0:0≤d)(hd:d+SR.si (.rowL b l)≤100000000)(hj:Jc st d (1000000000*SR.me (.rowL b l)+c) B):Jc (pe (f+1) (.rowL b l) st) d c B:=by
 rcases l with _ | ⟨n1,l⟩
 all_goals simp only[pe,Nd.kids,List.getLast?_singleton,List.getLast?_cons_cons]
 all_goals simp only[SR.ok,SR.me,SR.si,szL,szN_eq,Nd.kids,shN,shL] at ho hm hd hj
 all_goals exact cw
set_option maxHeartbeats 4000000 in
include ih in
theorem co_clauses(l:List Nd)(ho:SR.ok (.clauses l))(hm:SR.me (.clauses l)<f+1)(hd0:0≤d)(hd:d+SR.si (.clauses l)≤100000000)(hj:Jc st d (1000000000*SR.me (.clauses l)+c) B):Jc (pe (f+1) (.clauses l) st) d c B:=by
 rcases l with _ | ⟨⟨k1,l1,x1,o1,_ | ⟨n2,_ | ⟨n3,ks1⟩⟩⟩,l⟩
 all_goals simp only[pe,Nd.kids,List.getLast?_singleton,List.getLast?_cons_cons]
 all_goals simp only[SR.ok,SR.me,SR.si,szL,szN_eq,Nd.kids,shN,shL] at ho hm hd hj
 all_goals exact cw
set_option maxHeartbeats 4000000 in
include ih in
theorem co_links(l:List Nd)(ho:SR.ok (.links l))(hm:SR.me (.links l)<f+1)(hd0:0≤d)(hd:d+SR.si (.links l)≤100000000)(hj:Jc st d (1000000000*SR.me (.links l)+c) B):Jc (pe (f+1) (.links l) st) d c B:=by
 rcases l with _ | ⟨⟨k1,l1,x1,o1,_ | ⟨n2,ks1⟩⟩,l⟩
 all_goals simp only[pe,Nd.kids,List.getLast?_singleton,List.getLast?_cons_cons]
 all_goals simp only[SR.ok,SR.me,SR.si,szL,szN_eq,Nd.kids,shN,shL] at ho hm hd hj
 all_goals exact cw
set_option maxHeartbeats 4000000 in
include ih in
theorem co_blockL(l:List Nd)(ho:SR.ok (.blockL l))(hm:SR.me (.blockL l)<f+1)(hd0:0≤d)(hd:d+SR.si (.blockL l)≤100000000)(hj:Jc st d (1000000000*SR.me (.blockL l)+c) B):Jc (pe (f+1) (.blockL l) st) d c B:=by
 rcases l with _ | ⟨n1,l⟩
 all_goals simp only[pe,Nd.kids,List.getLast?_singleton,List.getLast?_cons_cons]
 all_goals simp only[SR.ok,SR.me,SR.si,szL,szN_eq,Nd.kids,shN,shL] at ho hm hd hj
 all_goals exact cw
set_option maxHeartbeats 4000000 in
include ih in
theorem co_hands(l:List Nd)(ho:SR.ok (.hands l))(hm:SR.me (.hands l)<f+1)(hd0:0≤d)(hd:d+SR.si (.hands l)≤100000000)(hj:Jc st d (1000000000*SR.me (.hands l)+c) B):Jc (pe (f+1) (.hands l) st) d c B:=by
 rcases l with _ | ⟨⟨k1,l1,x1,o1,_ | ⟨n2,_ | ⟨n3,_ | ⟨n4,ks1⟩⟩⟩⟩,l⟩
 all_goals simp only[pe,Nd.kids,List.getLast?_singleton,List.getLast?_cons_cons]
 all_goals simp only[SR.ok,SR.me,SR.si,szL,szN_eq,Nd.kids,shN,shL] at ho hm hd hj
 all_goals exact cw
set_option maxHeartbeats 4000000 in
include ih in
theorem co_asg(b:Bool)(l:List Nd)(ho:SR.ok (.asg b l))(hm:SR.me (.asg b l)<f+1)(hd0:0≤d)(hd:d+SR.si (.asg b l)≤100000000)(hj:Jc st d (1000000000*SR.me (.asg b l)+c) B):Jc (pe (f+1) (.asg b l) st) d c B:=by
 rcases l with _ | ⟨n1,l⟩
 all_goals simp only[pe,Nd.kids,List.getLast?_singleton,List.getLast?_cons_cons]
 all_goals simp only[SR.ok,SR.me,SR.si,szL,szN_eq,Nd.kids,shN,shL] at ho hm hd hj
 all_goals exact cw
set_option maxHeartbeats 4000000 in
include ih in
theorem co_pairs(b:Bool)(l:List Nd)(ho:SR.ok (.pairs b l))(hm:SR.me (.pairs b l)<f+1)(hd0:0≤d)(hd:d+SR.si (.pairs b l)≤100000000)(hj:Jc st d (1000000000*SR.me (.pairs b l)+c) B):Jc (pe (f+1) (.pairs b l) st) d c B:=by
 rcases l with _ | ⟨n1,_ | ⟨n2,l⟩⟩
 all_goals simp only[pe,Nd.kids,List.getLast?_singleton,List.getLast?_cons_cons]
 all_goals simp only[SR.ok,SR.me,SR.si,szL,szN_eq,Nd.kids,shN,shL] at ho hm hd hj
 all_goals exact cw
set_option maxHeartbeats 4000000 in
include ih in
theorem co_at(n:Nd)(a:Nat)(ho:SR.ok (.at n a))(hm:SR.me (.at n a)<f+1)(hd0:0≤d)(hd:d+SR.si (.at n a)≤100000000)(hj:Jc st d (1000000000*SR.me (.at n a)+c) B):Jc (pe (f+1) (.at n a) st) d c B:=by
 obtain⟨k,ln,x,o,ks⟩:=n
 all_goals simp only[pe,Nd.kids,List.getLast?_singleton,List.getLast?_cons_cons]
 all_goals simp only[SR.ok,SR.me,SR.si,szL,szN_eq,Nd.kids,shN,shL] at ho hm hd hj
 all_goals exact cw
set_option maxHeartbeats 4000000 in
include ih in
theorem co_expr(n:Nd)(ho:SR.ok (.expr n))(hm:SR.me (.expr n)<f+1)(hd0:0≤d)(hd:d+SR.si (.expr n)≤100000000)(hj:Jc st d (1000000000*SR.me (.expr n)+c) B):Jc (pe (f+1) (.expr n) st) d c B:=by
 obtain⟨k,ln,x,o,ks⟩:=n
 all_goals simp only[pe,Nd.kids,List.getLast?_singleton,List.getLast?_cons_cons]
 all_goals simp only[SR.ok,SR.me,SR.si,szL,szN_eq,Nd.kids,shN,shL] at ho hm hd hj
 all_goals exact cw
set_option maxHeartbeats 4000000 in
include ih in
theorem co_two(n:Nd)(l:Nat)(s:List UInt8)(r:Nat)(ho:SR.ok (.two n l s r))(hm:SR.me (.two n l s r)<f+1)(hd0:0≤d)(hd:d+SR.si (.two n l s r)≤100000000)(hj:Jc st d (1000000000*SR.me (.two n l s r)+c) B):Jc (pe (f+1) (.two n l s r) st) d c B:=by
 rcases n with ⟨k,ln,x,o,_ | ⟨n1,_ | ⟨n2,_ | ⟨n3,ks⟩⟩⟩⟩
 all_goals simp only[pe,Nd.kids,List.getLast?_singleton,List.getLast?_cons_cons]
 all_goals simp only[SR.ok,SR.me,SR.si,szL,szN_eq,Nd.kids,shN,shL] at ho hm hd hj
 all_goals exact cw
set_option maxHeartbeats 4000000 in
include ih in
theorem co_shown(n:Nd)(ho:SR.ok (.shown n))(hm:SR.me (.shown n)<f+1)(hd0:0≤d)(hd:d+SR.si (.shown n)≤100000000)(hj:Jc st d (1000000000*SR.me (.shown n)+c) B):Jc (pe (f+1) (.shown n) st) d c B:=by
 rcases n with ⟨k,ln,x,o,_ | ⟨n1,_ | ⟨n2,_ | ⟨n3,ks⟩⟩⟩⟩
 all_goals simp only[pe,Nd.kids,List.getLast?_singleton,List.getLast?_cons_cons]
 all_goals simp only[SR.ok,SR.me,SR.si,szL,szN_eq,Nd.kids,shN,shL] at ho hm hd hj
 all_goals exact cw
set_option maxHeartbeats 4000000 in
include ih in
theorem co_based(n:Nd)(ho:SR.ok (.based n))(hm:SR.me (.based n)<f+1)(hd0:0≤d)(hd:d+SR.si (.based n)≤100000000)(hj:Jc st d (1000000000*SR.me (.based n)+c) B):Jc (pe (f+1) (.based n) st) d c B:=by
 rcases n with ⟨k,ln,x,o,_ | ⟨⟨k1,l1,x1,o1,ks1⟩,_ | ⟨n2,_ | ⟨n3,ks⟩⟩⟩⟩
 all_goals simp only[pe,Nd.kids,List.getLast?_singleton,List.getLast?_cons_cons]
 all_goals simp only[SR.ok,SR.me,SR.si,szL,szN_eq,Nd.kids,shN,shL] at ho hm hd hj
 all_goals exact cw
set_option maxHeartbeats 4000000 in
include ih in
theorem co_joined(n:Nd)(ho:SR.ok (.joined n))(hm:SR.me (.joined n)<f+1)(hd0:0≤d)(hd:d+SR.si (.joined n)≤100000000)(hj:Jc st d (1000000000*SR.me (.joined n)+c) B):Jc (pe (f+1) (.joined n) st) d c B:=by
 rcases n with ⟨k,ln,x,o,_ | ⟨⟨k1,l1,x1,o1,ks1⟩,_ | ⟨n2,_ | ⟨n3,ks⟩⟩⟩⟩
 all_goals simp only[pe,Nd.kids,List.getLast?_singleton,List.getLast?_cons_cons]
 all_goals simp only[SR.ok,SR.me,SR.si,szL,szN_eq,Nd.kids,shN,shL] at ho hm hd hj
 all_goals exact cw
set_option maxHeartbeats 4000000 in
include ih in
theorem co_maybe(s:List UInt8)(n:Nd)(ho:SR.ok (.maybe s n))(hm:SR.me (.maybe s n)<f+1)(hd0:0≤d)(hd:d+SR.si (.maybe s n)≤100000000)(hj:Jc st d (1000000000*SR.me (.maybe s n)+c) B):Jc (pe (f+1) (.maybe s n) st) d c B:=by
 rcases n with ⟨k,ln,x,o,_ | ⟨n1,_ | ⟨n2,_ | ⟨n3,ks⟩⟩⟩⟩
 all_goals simp only[pe,Nd.kids,List.getLast?_singleton,List.getLast?_cons_cons]
 all_goals simp only[SR.ok,SR.me,SR.si,szL,szN_eq,Nd.kids,shN,shL] at ho hm hd hj
 all_goals exact cw
set_option maxHeartbeats 4000000 in
include ih in
theorem co_block(n:Nd)(ho:SR.ok (.block n))(hm:SR.me (.block n)<f+1)(hd0:0≤d)(hd:d+SR.si (.block n)≤100000000)(hj:Jc st d (1000000000*SR.me (.block n)+c) B):Jc (pe (f+1) (.block n) st) d c B:=by
 obtain⟨k,ln,x,o,ks⟩:=n
 simp only[pe,Nd.kids]
 simp only[SR.ok,SR.me,SR.si,szL,szN_eq,Nd.kids,shN,shL] at ho hm hd hj
 have h1:Jc (putL [t_cn] st) d (1000000000*(16*szL ks)+c) B:=jc_put (by simp) (jc_weak hj (by omega))
 generalize putL [t_cn] st=st1 at h1⊢
 have hdp:=(jc_1 h1).1
 have h2:Jc (st1.dp (Go.IntKind.wrap .i64 (st1.deep+1))) (d+1) (1000000000*(16*szL ks)+c) B:=by
  rw[hdp,w_i64 (by omega) (by omega)]
  exact jc_dp h1
 have h3:=jc_pe ih (r:= .blockL ks) (c:=c) ho.2.2 (by simp only[SR.me];omega) (by omega) (by simp only[SR.si];omega) h2
 generalize pe f (.blockL ks) (st1.dp (Go.IntKind.wrap .i64 (st1.deep+1)))=st2 at h3⊢
 have hd2:=(jc_1 h3).1
 rw[hd2,w_i64 (by omega) (by omega)]
 have e:d+1-1=d:=by omega
 rw[e]
 exact jc_dp h3
set_option maxHeartbeats 4000000 in
include ih in
theorem co_ifs(s:List UInt8)(n:Nd)(ho:SR.ok (.ifs s n))(hm:SR.me (.ifs s n)<f+1)(hd0:0≤d)(hd:d+SR.si (.ifs s n)≤100000000)(hj:Jc st d (1000000000*SR.me (.ifs s n)+c) B):Jc (pe (f+1) (.ifs s n) st) d c B:=by
 rcases n with ⟨k,ln,x,o,_ | ⟨n1,_ | ⟨n2,_ | ⟨⟨k3,l3,x3,o3,_ | ⟨n4,_ | ⟨n5,ks3⟩⟩⟩,ks⟩⟩⟩⟩
 all_goals simp only[pe,Nd.kids,List.getLast?_singleton,List.getLast?_cons_cons]
 all_goals simp only[SR.ok,SR.me,SR.si,szL,szN_eq,Nd.kids,shN,shL] at ho hm hd hj
 all_goals exact cw
set_option maxHeartbeats 4000000 in
include ih in
theorem co_tries(n:Nd)(ho:SR.ok (.tries n))(hm:SR.me (.tries n)<f+1)(hd0:0≤d)(hd:d+SR.si (.tries n)≤100000000)(hj:Jc st d (1000000000*SR.me (.tries n)+c) B):Jc (pe (f+1) (.tries n) st) d c B:=by
 rcases n with ⟨k,ln,x,o,_ | ⟨n1,_ | ⟨n2,_ | ⟨n3,ks⟩⟩⟩⟩
 all_goals simp only[pe,Nd.kids,List.getLast?_singleton,List.getLast?_cons_cons]
 all_goals simp only[SR.ok,SR.me,SR.si,szL,szN_eq,Nd.kids,shN,shL] at ho hm hd hj
 all_goals exact cw
set_option maxHeartbeats 4000000 in
include ih in
theorem co_stmt(n:Nd)(ho:SR.ok (.stmt n))(hm:SR.me (.stmt n)<f+1)(hd0:0≤d)(hd:d+SR.si (.stmt n)≤100000000)(hj:Jc st d (1000000000*SR.me (.stmt n)+c) B):Jc (pe (f+1) (.stmt n) st) d c B:=by
 obtain⟨k,ln,x,o,ks⟩:=n
 all_goals simp only[pe,Nd.kids,List.getLast?_singleton,List.getLast?_cons_cons]
 all_goals simp only[SR.ok,SR.me,SR.si,szL,szN_eq,Nd.kids,shN,shL] at ho hm hd hj
 all_goals exact cw
set_option maxHeartbeats 4000000 in
include ih in
theorem co_head(n:Nd)(ho:SR.ok (.head n))(hm:SR.me (.head n)<f+1)(hd0:0≤d)(hd:d+SR.si (.head n)≤100000000)(hj:Jc st d (1000000000*SR.me (.head n)+c) B):Jc (pe (f+1) (.head n) st) d c B:=by
 rcases n with ⟨k,ln,x,o,_ | ⟨⟨k1,l1,x1,o1,ks1⟩,_ | ⟨n2,_ | ⟨n3,ks⟩⟩⟩⟩
 all_goals simp only[pe,Nd.kids,List.getLast?_singleton,List.getLast?_cons_cons]
 all_goals simp only[SR.ok,SR.me,SR.si,szL,szN_eq,Nd.kids,shN,shL] at ho hm hd hj
 all_goals exact cw
set_option maxHeartbeats 4000000 in
include ih in
theorem co_simple(n:Nd)(ho:SR.ok (.simple n))(hm:SR.me (.simple n)<f+1)(hd0:0≤d)(hd:d+SR.si (.simple n)≤100000000)(hj:Jc st d (1000000000*SR.me (.simple n)+c) B):Jc (pe (f+1) (.simple n) st) d c B:=by
 rcases n with ⟨k,ln,x,o,_ | ⟨n1,_ | ⟨n2,_ | ⟨n3,ks⟩⟩⟩⟩
 all_goals simp only[pe,Nd.kids,List.getLast?_singleton,List.getLast?_cons_cons]
 all_goals simp only[SR.ok,SR.me,SR.si,szL,szN_eq,Nd.kids,shN,shL] at ho hm hd hj
 all_goals exact cw
end
theorem co_all : ∀f,CoOk f:=by
 intro f
 induction f with
 | zero=>intro r st d c B _ h;exact absurd h (Nat.not_lt_zero _)
 | succ f ih=>
   intro r st d c B ho hm hd0 hd hj
   cases r
   case «at» n a=>exact co_at ih st d c B n a ho hm hd0 hd hj
   case expr n=>exact co_expr ih st d c B n ho hm hd0 hd hj
   case two n l s r=>exact co_two ih st d c B n l s r ho hm hd0 hd hj
   case shown n=>exact co_shown ih st d c B n ho hm hd0 hd hj
   case based n=>exact co_based ih st d c B n ho hm hd0 hd hj
   case joined n=>exact co_joined ih st d c B n ho hm hd0 hd hj
   case maybe s n=>exact co_maybe ih st d c B s n ho hm hd0 hd hj
   case block n=>exact co_block ih st d c B n ho hm hd0 hd hj
   case ifs s n=>exact co_ifs ih st d c B s n ho hm hd0 hd hj
   case tries n=>exact co_tries ih st d c B n ho hm hd0 hd hj
   case stmt n=>exact co_stmt ih st d c B n ho hm hd0 hd hj
   case head n=>exact co_head ih st d c B n ho hm hd0 hd hj
   case simple n=>exact co_simple ih st d c B n ho hm hd0 hd hj
   case rowL b l=>exact co_rowL ih st d c B b l ho hm hd0 hd hj
   case clauses l=>exact co_clauses ih st d c B l ho hm hd0 hd hj
   case links l=>exact co_links ih st d c B l ho hm hd0 hd hj
   case blockL l=>exact co_blockL ih st d c B l ho hm hd0 hd hj
   case hands l=>exact co_hands ih st d c B l ho hm hd0 hd hj
   case asg b l=>exact co_asg ih st d c B b l ho hm hd0 hd hj
   case pairs b l=>exact co_pairs ih st d c B b l ho hm hd0 hd hj
end Can
end Go.Proofs.YtdfgkcoenagaaaaGreat
end
section
namespace Go.Proofs.YtdfgkcoenagaaaaGreat
namespace Can
set_option linter.unusedSimpArgs false
set_option linter.unusedVariables false
theorem leafK_ne(k:Int):leafK k=7→False:=by
 unfold leafK
 (repeat' split)<;>decide
theorem shL_app : ∀ {a b:List Nd},shL (a++b)↔shL a∧shL b
 | [],b=>by simp[shL]
 | n::a,b=>by simp only[List.cons_append,shL,shL_app,and_assoc]
def TB:PR→Prop
 | some (.ok (l,j))=>shL l
 | _=>True
theorem tb_if{c:Prop}[Decidable c]{a b:PR}(h1:TB a)(h2:TB b):TB (if c then a else b):=by
 split
 ·exact h1
 ·exact h2
theorem tb_wantB{ts:List PT}{s:List UInt8}{i:Nat}{k:Nat→PR}(h:TB (k (i+1))):TB (wantB ts s i k):=tb_if h trivial
theorem tb_wantK{ts:List PT}(hts : ∀i,(nowT ts i).text.length≤20000){kd:Int}{i:Nat}{k:List UInt8→Nat→PR}(h : ∀x,x.length≤20000→TB (k x (i+1))):TB (wantK ts kd i k):=tb_if (h _ (hts i)) trivial
theorem tb_pb{r:PR}{k:List Nd→Nat→PR}(h:TB r)(hk : ∀l j,shL l→TB (k l j)):TB (pb r k):=by
 match r,h with
 | none,_=>exact trivial
 | some (.error e),_=>exact trivial
 | some (.ok (l,j)),h=>exact hk l j h
theorem tb_pb1{r:PR}{k:Nd→Nat→PR}(h:TB r)(hk : ∀n j,shN n→TB (k n j)):TB (pb1 r k):=tb_pb h fun l j h2=>by
 match l,h2 with
 | [],_=>exact trivial
 | _::_::_,_=>exact trivial
 | [n],h2=>exact hk n j h2.1
theorem tb_er{e:Nat}:TB (some (.error e)):=trivial
theorem tb_ok{j:Nat}{l:List Nd}(h2:shL l):TB (some (.ok (l,j))):=h2
theorem tb_pk{j:Nat}{n:Nd}(h2:shN n):TB (pk1 n j):=⟨h2,trivial⟩
def NT.tx:NT→Prop
 | .names k _ acc=>k≠7∧shL acc
 | .params _ _ acc | .row _ acc | .exprsL _ acc | .clauses acc | .dictL _ acc | .placesL _ acc | .asgL _ acc | .blockL acc | .triesL acc | .top acc | .triesF _ acc=>shL acc
 | .cmpL n acc=>shN n∧shL acc
 | .orL n | .andL n | .arithL n | .termL n | .primL n | .index n=>shN n
 | .maybe k _ _=>k≠7
 | _=>True
def TxOk (ts:List PT)(f:Nat):Prop:=∀a i,a.tx→TB (gr ts f a i)
theorem tb_op{ts:List PT}{p:Nat}{A:PR}{B:Nat→Nat→PR}(hA:TB A)(hB : ∀op j,TB (B op j)):TB (match opT ts p with | .error e=>some (.error e) | .ok (0,_)=>A | .ok (op+1,j)=>B op j):=by
 match opT ts p with
 | .error e=>exact trivial
 | .ok (0,_)=>exact hA
 | .ok (op+1,j)=>exact hB op j
set_option maxHeartbeats 4000000 in
theorem gr_tx{ts:List PT}(hts : ∀i,(nowT ts i).text.length≤20000) : ∀f,TxOk ts f:=by
 intro f
 induction f with
 | zero=>intro a i h;exact trivial
 | succ f ih=>
 have hm : ∀(all:Bool) i,TB (gr ts f (if all=true then .exprs else .expr) i):=fun all i=>by
  cases all
  ·exact ih .expr i trivial
  ·exact ih .exprs i trivial
 have h1 : ∀a i,a.tx→TB (gr ts f a i):=ih
 intro a i ha
 cases a
 case asgL l acc=>
  simp only[gr]
  refine tb_if ?_ (tb_pk ⟨Nat.zero_le _,fun h=>absurd h (by decide),ha⟩)
  cases hq:acc.getLast? with
  | none=>exact trivial
  | some n=>exact tb_if (tb_pb1 (ih .value (i+1) trivial) fun v j hv=>ih _ _ (shL_app.2 ⟨ha,hv,trivial⟩)) trivial
 case cmpL n acc=>
  obtain⟨hn,ha1⟩:=ha
  simp only[gr]
  refine tb_op (tb_pk ?_) fun op j=>tb_pb1 (ih .arith j trivial) fun m k hm=>ih _ _ ⟨hn,shL_app.2 ⟨ha1,⟨Nat.zero_le _,fun h=>absurd h (by decide),hm,trivial⟩,trivial⟩⟩
  split
  ·exact hn
  ·exact⟨Nat.zero_le _,fun h=>absurd h (by decide),hn,ha1⟩
 all_goals simp only[NT.tx] at ha
 all_goals simp only[gr]
 all_goals (repeat' first
  | exact tb_er
  | (with_reducible refine tb_if ?_ ?_)
  | (with_reducible refine tb_op ?_ fun op j=> ?_)
  | (with_reducible refine tb_wantB ?_)
  | (with_reducible refine tb_wantK hts fun x hx=> ?_)
  | (with_reducible refine tb_pb1 (hm _ _) fun n j hn=> ?_)
  | (with_reducible refine tb_pb1 (h1 _ _ ?_) fun n j hn=> ?_)
  | (with_reducible refine tb_pb (h1 _ _ ?_) fun l j hl=> ?_)
  | (with_reducible refine tb_pk ?_)
  | (with_reducible refine tb_ok ?_)
  | (with_reducible refine h1 _ _ ?_)
  | (with_reducible assumption)
  | exact True.intro
  | exact Nat.zero_le _
  | decide
  | exact hts _
  | exact leafK_ne _
  | (obtain⟨ha1,ha2⟩:=ha)
  | (simp only[NT.tx,shL,shN,shL_app,and_true,true_and,ne_eq,List.length_nil,Nat.zero_le,List.length_cons,implies_true,Nat.reduceEqDiff,Nat.reduceAdd,reduceCtorEq,not_false_eq_true,false_implies])
  | (refine⟨?_,?_⟩)
  | (intro h7;omega))
end Can
end Go.Proofs.YtdfgkcoenagaaaaGreat
end
section
namespace Go.Proofs.YtdfgkcoenagaaaaGreat
namespace Can
set_option linter.unusedSimpArgs false
set_option linter.unusedVariables false
theorem strN_tx{q:Nat} : ∀ {f:Nat} {l s:List UInt8} {n:Nat},strN q f l=some (s,n)→s.length≤n
 | 0,_,_,_,h=>by cases h
 | f+1,l,s,n,h=>by
   simp only[strN] at h
   split at h
   ·cases h;simp
   ·split at h
    ·cases h
    ·split at h
     ·rw[Option.map_eq_some_iff] at h
      obtain⟨⟨y,m⟩,h1,h2⟩:=h
      cases h2
      have:=strN_tx h1
      simp only[List.length_cons];omega
     ·split at h
      ·rw[Option.map_eq_some_iff] at h
       obtain⟨⟨y,m⟩,h1,h2⟩:=h
       cases h2
       have:=strN_tx h1
       simp only[List.length_cons];omega
      ·cases h
theorem tokT_tx{l:List UInt8}{k n:Nat}{x:List UInt8}(h:tokT l=some (k,x,n)):x.length≤l.length:=by
 have hn:=(tokT_len h).2
 unfold tokT at h
 split at h
 ·cases h;rw[List.length_take];omega
 ·split at h
  ·split at h
   ·cases h
   ·cases h;rw[List.length_take];omega
  ·split at h
   ·rw[Option.map_eq_some_iff] at h
    obtain⟨⟨y,m⟩,h1,h2⟩:=h
    cases h2
    have:=strN_tx h1
    simp only at hn⊢
    omega
   ·rw[Option.map_eq_some_iff] at h
    obtain⟨m,h1,h2⟩:=h
    cases h2
    rw[List.length_take];omega
theorem toks_tx{line:Nat} : ∀ {f:Nat} {t:List UInt8} {d d':Nat} {x:List Tok},toks line f t d=some (x,d')→∀y∈x,y.text.length≤t.length
 | 0,_,_,_,_,h=>by cases h
 | f+1,t,d,d',x,h=>by
   simp only[toks] at h
   split at h
   ·cases h
    intro y hy;cases hy
   ·cases ht:tokT (t.drop (blkN t)) with
    | none=>rw[ht] at h;cases h
    | some z=>
      obtain⟨k,y,n⟩:=z
      rw[ht] at h
      simp only at h
      rw[Option.map_eq_some_iff] at h
      obtain⟨⟨w,e⟩,h1,h2⟩:=h
      cases h2
      have h3:=tokT_tx ht
      have h4:=toks_tx h1
      intro v hv
      rcases List.mem_cons.1 hv with rfl | hv
      ·simp only[List.length_drop] at h3⊢;omega
      ·have:=h4 v hv
       simp only[List.length_drop] at this;omega
theorem rowT_tx{line d d':Nat}{t:List UInt8}{st st':List Nat}{x:List Tok}(h:rowT line t d st= .ok (x,d',st')) : ∀y∈x,y.text.length≤t.length:=by
 unfold rowT at h
 split at h
 ·cases h;intro y hy;cases hy
 ·split at h
  ·cases h
  ·split at h
   ·cases h
   ·rename_i ts d1 ht
    cases h
    intro y hy
    simp only[List.mem_append] at hy
    rcases hy with (hy | hy) | hy
    ·split at hy
     ·unfold indT at hy
      split at hy
      ·simp at hy;rw[hy];simp
      ·rw[List.eq_of_mem_replicate hy];simp
     ·cases hy
    ·exact toks_tx ht y hy
    ·split at hy
     ·simp at hy;rw[hy];simp
     ·cases hy
theorem rowsT_tx{B:Nat} : ∀ {ts:List (List UInt8)} {line d:Nat} {st st':List Nat} {x:List Tok},rowsT line ts d st= .ok (x,st')→(∀t∈ts,t.length≤B)→∀y∈x,y.text.length≤B
 | [],line,d,st,st',x,h,_=>by cases h;intro y hy;cases hy
 | t::ts,line,d,st,st',x,h,hB=>by
   rw[rowsT_cons] at h
   cases hr:rowT line t d st with
   | error e=>rw[hr] at h;cases h
   | ok q=>
     obtain⟨x1,d1,st1⟩:=q
     rw[hr] at h
     simp only at h
     cases hq:rowsT (line+1) ts d1 st1 with
     | error e=>rw[hq] at h;cases h
     | ok w=>
       rw[hq] at h
       cases h
       intro y hy
       rcases List.mem_append.1 hy with hy | hy
       ·exact Nat.le_trans (rowT_tx hr y hy) (hB t (by simp))
       ·exact rowsT_tx hq (fun u hu=>hB u (by simp[hu])) y hy
theorem mem_sum{t:List UInt8} : ∀ {ts:List (List UInt8)},t∈ts→t.length+ts.length≤(ts.map List.length).sum+ts.length
 | a::ts,h=>by
   rcases List.mem_cons.1 h with rfl | h
   ·simp only[List.map_cons,List.sum_cons];omega
   ·have:=mem_sum h
    simp only[List.map_cons,List.sum_cons,List.length_cons];omega
theorem lexT_tx{src:List UInt8}{ts:List Tok}(h:lexT src= .ok ts) : ∀y∈ts,y.text.length≤20000:=by
 unfold lexT at h
 split at h
 ·cases h
 ·cases hq:rowsT 1 (splitN src) 0 [0] with
  | error e=>rw[hq] at h;cases h
  | ok w=>
    obtain⟨x,st⟩:=w
    rw[hq] at h
    cases h
    have h2:=splitN_sum (src:=src)
    intro y hy
    rcases List.mem_append.1 hy with hy | hy
    ·refine rowsT_tx hq (fun t ht=> ?_) y hy
     have h3:=mem_sum ht
     have h4:0<(splitN src).length:=List.length_pos_of_mem ht
     omega
    ·unfold endT at hy
     rcases List.mem_append.1 hy with hy | hy
     ·rw[List.eq_of_mem_replicate hy];simp
     ·simp at hy;rw[hy];simp
end Can
end Go.Proofs.YtdfgkcoenagaaaaGreat
end
section
namespace Go.Proofs.YtdfgkcoenagaaaaGreat
namespace Can
set_option linter.unusedSimpArgs false
set_option linter.unusedVariables false
theorem now_tx{ts:List PT}(h : ∀t∈ts,t.text.length≤20000)(i:Nat):(nowT ts i).text.length≤20000:=by
 unfold nowT
 split
 ·rename_i t ht
  exact h t (List.mem_of_getElem? ht)
 ·split
  ·exact Nat.zero_le _
  ·exact Nat.zero_le _
theorem sh_list{F:Nat}{l:List Nd}(hF:110000000≤F)(hl:shL l)(hs:szL l≤6500000):(pe F (.blockL l) st00).w≤bigB:=by
 have h:=co_all F (.blockL l) st00 0 0 (1000000000*(16*szL l)) hl (by show 16*szL l<F;omega) (by omega) (by show(0:Int)+(szL l:Nat)≤100000000;omega) ⟨rfl,by show 0+(1000000000*(16*szL l)+0)≤_;omega⟩
 have:=h.2
 show _≤2305843009213693952
 omega
theorem sh_bound{F:Nat}(hF:110000000≤F)(src:List UInt8):(shF F (sourceT src).1).w≤bigB:=by
 have hz:(shF F zNd).w≤bigB:=sh_list (l:= []) hF trivial (by show 0≤_;omega)
 unfold sourceT
 cases hL:lexT src with
 | error y=>exact hz
 | ok ts=>
   have hlen:=lexT_len hL
   have htx:=lexT_tx hL
   show(shF F (parseT (ts.map ptT)).1).w≤bigB
   generalize hts:ts.map ptT=us
   have hul:us.length≤100000:=by rw[←hts,List.length_map];exact hlen
   have hut : ∀t∈us,t.text.length≤20000:=by
    rw[←hts]
    intro t ht
    obtain⟨y,hy,rfl⟩:=List.mem_map.1 ht
    exact htx y hy
   have h1:=gr_tx (now_tx hut) (us.length*64+100) (.top []) 0 trivial
   have h2:=gr_ht (ts:=us) (us.length*64+100) (.top []) 0 (by first | trivial | simp[NT.good]) (Nat.zero_le _) (by simp only[NT.rank];omega)
   have h3:=gr_gd (ts:=us) (us.length*64+100) (.top []) 0 (by first | trivial | simp[NT.good]) (Nat.zero_le _) (by simp only[NT.rank];omega)
   unfold parseT
   generalize gr us (us.length*64+100) (.top []) 0=r at h1 h2 h3
   match r,h1,h2,h3 with
   | none,_,_,_=>exact hz
   | some (.error e),_,_,_=>exact hz
   | some (.ok (l,j)),h1,h2,h3=>
     simp only
     split
     ·exact hz
     ·have h4:szL l+64*0+0≤0+64*j+0:=h2
      have h5:j≤us.length:=h3.2.1
      exact sh_list (l:=l) hF h1 (by omega)
end Can
end Go.Proofs.YtdfgkcoenagaaaaGreat
end
