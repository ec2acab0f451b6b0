/- Parse, the program: parse.Parse answers parseT. Lex, the document: words, symbols, names. Lex, the document: digits, blanks, base, stands. Lex, the document: number. Lex, the document: text. Lex, the document: next. Lex, the document: lines. Lex, the document: what is open and what is out. Lex, the document: Lex. Parse, the document: the reader in memory; its looks at a token. (Printed by tools/gendoc.py.). Parse, the document: the reader as the one object of runs over trees; nodes of any content. Parse, the document: its small steps, as runs over trees. Parse, the document: its rules when a token has been found that can't stand there: nothing more is read. (Printed by tools/gendb.py.). Parse, the document: steps along the grammar, in good mode. (Printed by tools/gendd.py.). Parse, the document: leaf, single, place. (Printed by tools/gende.py.). Parse, the document: single and place, asked of a node of any content. Parse, the document: Height. (Printed by tools/gendy.py.). -/
import Derived.Test.YticlaccbodpkeaaGreatDoorXe
import Derived.Test.YticlaccbodpkeaaGreatDoorXd
section
namespace Go.Proofs.YticlaccbodpkeaaGreatDoor
namespace Can
open Go Go.RowKit
set_option linter.unusedSimpArgs false
set_option linter.unusedVariables false
set_option maxRecDepth 4000
def PrQ2 (H:CH)(ts:List PT)(v:Value)(H':CH):Prop:=∃vs,v=tupleV vs∧PrO H (parseT ts).1 (parseT ts).2.1 (parseT ts).2.2 vs H'∧TyV vs H'
theorem top_gd{ts:List PT}:Gd (fun e=>gr ts (ts.length*64+100) (.top []) 0=some (.error e)) (fun l j=>gr ts (ts.length*64+100) (.top []) 0=some (.ok (l,j))∧htL l+1≤64*ts.length+2) (gr ts (ts.length*64+100) (.top []) 0):=by
 have h1:=gr_gd (ts:=ts) (ts.length*64+100) (.top []) 0 trivial (Nat.zero_le _) (by simp only[NT.rank];omega)
 have h2:=gr_ht (ts:=ts) (ts.length*64+100) (.top []) 0 trivial (Nat.zero_le _) (by simp only[NT.rank];omega)
 match h:gr ts (ts.length*64+100) (.top []) 0,h1,h2 with
 | some (.error e),_,_=>exact rfl
 | some (.ok (l,j)),h1,h2=>
   refine⟨rfl,?_⟩
   have h3:szL l+64*0+0≤0+64*j+0:=h2
   have h4:=h1.2.1
   have h5:=ht_szL l
   omega
theorem cS_inv{K:CH}{E:TE}{v w:Value}(h:CVR K E (cS v) w):w=v:=by
 cases h with
 | s h=>cases h;rfl
end Can
end Go.Proofs.YticlaccbodpkeaaGreatDoor
end
section
namespace Go.Proofs.YticlaccbodpkeaaGreatDoor
namespace Can
open Go Go.RowKit
set_option linter.unusedSimpArgs false
set_option linter.unusedVariables false
set_option maxRecDepth 4000
def symsL:List (List UInt8):=S3++S2++S1.map fun c=> [c]
set_option maxHeartbeats 2000000 in
theorem isWord_wp(H:CH)(x:List UInt8):WpF (tblG Tryz.prog LG GG) 75 [.string (str x)] H fun v K=>v= .bool (decide (x∈wordsL))∧K=H:=by
 refine wpF_rG (by rfl) (by kernel_rfl) ?_;(conv in (rF _ _).body=>reduce);(conv in (rF _ _).res=>reduce)
 repeat' (first | (simp (disch:=first | omega | (decide +kernel)) only[↓RD,RU,↓putF_get,↓evF_t,↓evF_c,getD_zero,pop,resL,resV,tupleV,↓reduceIte,Nat.reduceEqDiff,reduceCtorEq,str_eq,u8k]) | (with_reducible first | refine condK_dec (fun _=> ?_) fun _=> ?_ | refine grd_dec (fun _=> ?_) fun _=> ?_ | refine egrd_dec (fun _=> ?_) fun _=> ?_))
 all_goals first | (subst_vars;rfl) | (rename_i h1 h2 h3 h4 h5 h6 h7 h8 h9 h10 h11 h12 h13 h14 h15 h16 h17 h18 h19 h20 h21 h22 h23 h24 h25 h26 h27 h28 h29 h30 h31;apply congrArg Value.bool;symm;apply decide_eq_false;intro hx;simp only[wordsL,List.map_cons,List.map_nil,List.cons_append,List.nil_append,List.mem_cons,List.not_mem_nil,or_false] at hx;exact hx.elim h1 fun hx=>hx.elim h2 fun hx=>hx.elim h3 fun hx=>hx.elim h4 fun hx=>hx.elim h5 fun hx=>hx.elim h6 fun hx=>hx.elim h7 fun hx=>hx.elim h8 fun hx=>hx.elim h9 fun hx=>hx.elim h10 fun hx=>hx.elim h11 fun hx=>hx.elim h12 fun hx=>hx.elim h13 fun hx=>hx.elim h14 fun hx=>hx.elim h15 fun hx=>hx.elim h16 fun hx=>hx.elim h17 fun hx=>hx.elim h18 fun hx=>hx.elim h19 fun hx=>hx.elim h20 fun hx=>hx.elim h21 fun hx=>hx.elim h22 fun hx=>hx.elim h23 fun hx=>hx.elim h24 fun hx=>hx.elim h25 fun hx=>hx.elim h26 fun hx=>hx.elim h27 fun hx=>hx.elim h28 fun hx=>hx.elim h29 fun hx=>hx.elim h30 fun hx=>h31 hx)
theorem isWord_iff{H:CH}{x:List UInt8}{Q:Value→CH→Prop}:WpF (tblG Tryz.prog LG GG) 75 [.string ⟨⟨x⟩⟩] H Q↔Q (.bool (decide (x∈wordsL))) H:=wpF_iff (isWord_wp H x)
set_option maxHeartbeats 2000000 in
theorem isSymbol_wp(H:CH)(x:List UInt8):WpF (tblG Tryz.prog LG GG) 78 [.string (str x)] H fun v K=>v= .bool (decide (x∈symsL))∧K=H:=by
 refine wpF_rG (by rfl) (by kernel_rfl) ?_;(conv in (rF _ _).body=>reduce);(conv in (rF _ _).res=>reduce)
 repeat' (first | (simp (disch:=first | omega | (decide +kernel)) only[↓RD,RU,↓putF_get,↓evF_t,↓evF_c,getD_zero,pop,resL,resV,tupleV,↓reduceIte,Nat.reduceEqDiff,reduceCtorEq,str_eq,u8k]) | (with_reducible first | refine condK_dec (fun _=> ?_) fun _=> ?_ | refine grd_dec (fun _=> ?_) fun _=> ?_ | refine egrd_dec (fun _=> ?_) fun _=> ?_))
 all_goals first | (subst_vars;rfl) | (rename_i h1 h2 h3 h4 h5 h6 h7 h8 h9 h10 h11 h12 h13 h14 h15 h16 h17 h18 h19 h20 h21 h22 h23 h24 h25 h26 h27 h28 h29 h30;apply congrArg Value.bool;symm;apply decide_eq_false;intro hx;simp only[symsL,S1,S2,S3,List.map_cons,List.map_nil,List.cons_append,List.nil_append,List.mem_cons,List.not_mem_nil,or_false] at hx;rcases hx with hx|hx|hx|hx|hx|hx|hx|hx|hx|hx|hx|hx|hx|hx|hx|hx|hx|hx|hx|hx|hx|hx|hx|hx|hx|hx|hx|hx|hx|hx<;>first | exact h1 hx | exact h2 hx | exact h3 hx | exact h4 hx | exact h5 hx | exact h6 hx | exact h7 hx | exact h8 hx | exact h9 hx | exact h10 hx | exact h11 hx | exact h12 hx | exact h13 hx | exact h14 hx | exact h15 hx | exact h16 hx | exact h17 hx | exact h18 hx | exact h19 hx | exact h20 hx | exact h21 hx | exact h22 hx | exact h23 hx | exact h24 hx | exact h25 hx | exact h26 hx | exact h27 hx | exact h28 hx | exact h29 hx | exact h30 hx)
theorem isSymbol_iff{H:CH}{x:List UInt8}{Q:Value→CH→Prop}:WpF (tblG Tryz.prog LG GG) 78 [.string ⟨⟨x⟩⟩] H Q↔Q (.bool (decide (x∈symsL))) H:=wpF_iff (isSymbol_wp H x)
end Can
end Go.Proofs.YticlaccbodpkeaaGreatDoor
end
section
namespace Go.Proofs.YticlaccbodpkeaaGreatDoor
namespace Can
open Go Go.RowKit
set_option linter.unusedSimpArgs false
set_option linter.unusedVariables false
set_option maxRecDepth 4000
def DgJ (p:Nat→Bool)(t:List UInt8)(j:Nat)(K:CH)(n:Nat)(v:Value)(K1:CH):Prop:=∃i:Nat,n=t.length-i∧j≤i∧i≤t.length∧v= .int .i64 (i:Nat)∧K1=K∧i+nW p (t.drop i)=j+nW p (t.drop j)
theorem getD_hd{t:List UInt8}{i:Nat}(h:i<t.length):t[i]? = some t[i]∧hd (t.drop i)=t[i].toNat:=⟨List.getElem?_eq_getElem h,hd_drop h⟩
theorem digits_wp(K:CH){t:List UInt8}{j:Nat}(hj:j≤t.length)(hl:t.length≤100000):WpF (tblG Tryz.prog LG GG) 111 [.string (str t), .int .i64 (j:Nat)] K fun v K'=>v= .int .i64 (j+digN (t.drop j):Nat)∧K'=K:=by
 refine wpF_rG (by rfl) (by kernel_rfl) ?_;(conv in (rF _ _).body=>reduce);(conv in (rF _ _).res=>reduce)
 refine rn0 ?_
 refine loop_w (fun n fr K1=>DgJ isDigN t j K n (fr 1) K1) (n:=t.length-j) ⟨j,rfl,Nat.le_refl _,hj,by(exact rz0;all_goals rfl),rfl,rfl⟩ ?_
 rintro n fr K1 ⟨i,rfl,hji,hi,f1,rfl,hnw⟩ hag
 by_cases hil:i<t.length
 ·obtain⟨g1,g2⟩:=getD_hd hil
  by_cases hd1:isDigN t[i].toNat=true
  ·have hy:=nW_yes (p:=isDigN) hil (by rw[g2];exact hd1)
   refine rn (an @hag (an @f1 (an @str_size (an @str_get (an @g1 (an @rdigit_iff @hd1)))))) ?_
   all_goals exact⟨t.length-(i+1),by omega,i+1,rfl,by omega,by omega,rfl,rfl,by omega⟩
  ·have hn:=nW_no (p:=isDigN) (l:=t.drop i) (.inr (by rw[g2];simpa using hd1))
   have e:j+digN (t.drop j)=i:=by unfold digN;omega
   rw[e]
   exact rz (an @hag (an @f1 (an @str_size (an @str_get (an @g1 (an @rdigit_iff @hd1))))))
 ·have hn:=nW_no (p:=isDigN) (l:=t.drop i) (.inl (List.drop_eq_nil_of_le (by omega)))
  have e:j+digN (t.drop j)=i:=by unfold digN;omega
  rw[e]
  exact rz (an @hag (an @f1 (an @str_size @str_get)))
theorem digits_iff{K:CH}{t:List UInt8}{j:Nat}(hj:j≤t.length)(hl:t.length≤100000){Q:Value→CH→Prop}:WpF (tblG Tryz.prog LG GG) 111 [.string ⟨⟨t⟩⟩, .int .i64 (j:Nat)] K Q↔Q (.int .i64 (j+digN (t.drop j):Nat)) K:=wpF_iff (digits_wp K hj hl)
theorem nW_full{p:Nat→Bool} : ∀ {l:List UInt8},(∀x∈l,p x.toNat=true)→nW p l=l.length
 | [],_=>rfl
 | c::r,h=>by
   simp only[nW]
   rw[if_pos (h c (by simp)),nW_full (fun x hx=>h x (by simp[hx])),List.length_cons]
theorem blanks_wp(K:CH){t:List UInt8}{j:Nat}(hj:j≤t.length)(hl:t.length≤100000)(hno : ∀x∈t,x.toNat≠10):WpF (tblG Tryz.prog LG GG) 41 [.string (str t), .int .i64 (j:Nat)] K fun v K'=>v= .int .i64 (j+blkN (t.drop j):Nat)∧K'=K:=by
 have hrest : ∀i,i≤t.length→nW (fun n=>decide (n≠10)) (t.drop i)=t.length-i:=fun i hi=>by
  rw[nW_full (fun x hx=>decide_eq_true (hno x (List.mem_of_mem_drop hx))),List.length_drop]
 refine wpF_rG (by rfl) (by kernel_rfl) ?_;(conv in (rF _ _).body=>reduce);(conv in (rF _ _).res=>reduce)
 refine rn0 ?_
 refine loop_w (fun n fr K1=>DgJ (fun n=>decide (n=32)) t j K n (fr 1) K1) (n:=t.length-j) ⟨j,rfl,Nat.le_refl _,hj,by(exact rz0;all_goals rfl),rfl,rfl⟩ ?_
 rintro n fr K1 ⟨i,rfl,hji,hi,f1,rfl,hnw⟩ hag
 by_cases hil:i<t.length
 ·obtain⟨g1,g2⟩:=getD_hd hil
  by_cases hd1:t[i].toNat=32
  ·have hy:=nW_yes (p:=fun n=>decide (n=32)) hil (by rw[g2];exact decide_eq_true hd1)
   refine rn (an @hag (an @f1 (an @str_size (an @str_get (an @g1 @hd1))))) ?_
   all_goals exact⟨t.length-(i+1),by omega,i+1,rfl,by omega,by omega,rfl,rfl,by omega⟩
  ·have hn:=nW_no (p:=fun n=>decide (n=32)) (l:=t.drop i) (.inr (by rw[g2];exact decide_eq_false hd1))
   have ew:nW (fun n=>decide (n=32)) (t.drop j)=i-j:=by omega
   have ed:(t.drop j).drop (i-j)=t.drop i:=by rw[List.drop_drop];congr 1;omega
   by_cases h35:t[i].toNat=35
   ·have e:j+blkN (t.drop j)=t.length:=by
     unfold blkN
     rw[ew,ed,g2,if_pos h35,hrest i (by omega)]
     omega
    rw[e]
    exact rz (an @hag (an @f1 (an @str_size (an @str_get (an @g1 (an @hd1 @h35))))))
   ·have e:j+blkN (t.drop j)=i:=by
     unfold blkN
     rw[ew,ed,g2,if_neg h35]
     omega
    rw[e]
    exact rz (an @hag (an @f1 (an @str_size (an @str_get (an @g1 (an @hd1 @h35))))))
 ·have hn:=nW_no (p:=fun n=>decide (n=32)) (l:=t.drop i) (.inl (List.drop_eq_nil_of_le (by omega)))
  have ew:nW (fun n=>decide (n=32)) (t.drop j)=i-j:=by omega
  have ed:(t.drop j).drop (i-j)= []:=by rw[List.drop_drop];exact List.drop_eq_nil_of_le (by omega)
  have e:j+blkN (t.drop j)=i:=by
   unfold blkN
   rw[ew,ed,if_neg (by decide)]
   omega
  rw[e]
  exact rz (an @hag (an @f1 (an @str_size @str_get)))
theorem blanks_iff{K:CH}{t:List UInt8}{j:Nat}(hj:j≤t.length)(hl:t.length≤100000)(hno : ∀x∈t,x.toNat≠10){Q:Value→CH→Prop}:WpF (tblG Tryz.prog LG GG) 41 [.string ⟨⟨t⟩⟩, .int .i64 (j:Nat)] K Q↔Q (.int .i64 (j+blkN (t.drop j):Nat)) K:=wpF_iff (blanks_wp K hj hl hno)
def basV (n:Nat):Int:=if hexN n=16 then -1 else hexN n
theorem base_wp(K:CH){t:List UInt8}{j:Nat}(hl:t.length≤100000):WpF (tblG Tryz.prog LG GG) 112 [.string (str t), .int .i64 (j:Nat)] K fun v K'=>v= .int .i64 (basV (hd (t.drop j)))∧K'=K:=by
 refine wpF_rG (by rfl) (by kernel_rfl) ?_;(conv in (rF _ _).body=>reduce);(conv in (rF _ _).res=>reduce)
 by_cases hil:j<t.length
 ·obtain⟨g1,g2⟩:=getD_hd hil
  rw[g2]
  have hb:=t[j].toNat_lt
  obtain⟨c,hc⟩ : ∃c,t[j].toNat=c:=⟨_,rfl⟩
  rw[hc] at hb⊢
  have g1':(t[j]?).map (fun b=>Value.int .u8 (b.toNat:Int))=some (.int .u8 (c:Nat)):=by rw[g1,←hc];rfl
  by_cases h1:48≤c∧c≤57
  ·have hd1:isDigN c=true:=decide_eq_true h1
   have e:basV c=(c:Int)-48:=by unfold basV hexN;rw[if_pos h1,if_neg (by omega)];omega
   rw[e]
   repeat' (first | (simp (disch:=first | omega | (decide +kernel)) only[↓RD,RU,↓putF_get,↓evF_t,↓evF_c,getD_zero,getD_succ,pop,resL,resV,tupleV,ρ0,ρ1,↓reduceIte,Nat.reduceEqDiff,Int.reduceOfNat,Int.reduceNegSucc,reduceCtorEq,ρ29,str_size,str_get,g1',rdigit_iff,hd1]) | (with_reducible first | refine condK_dec (fun _=> ?_) fun _=> ?_ | refine grd_dec (fun _=> ?_) fun _=> ?_ | refine egrd_dec (fun _=> ?_) fun _=> ?_))
  ·have hd1:isDigN c=false:=decide_eq_false h1
   repeat' (first | (simp (disch:=first | omega | (decide +kernel)) only[↓RD,RU,↓putF_get,↓evF_t,↓evF_c,getD_zero,getD_succ,pop,resL,resV,tupleV,ρ0,ρ1,↓reduceIte,Nat.reduceEqDiff,Int.reduceOfNat,Int.reduceNegSucc,reduceCtorEq,ρ29,str_size,str_get,g1',rdigit_iff,hd1]) | (with_reducible first | refine condK_dec (fun _=> ?_) fun _=> ?_ | refine grd_dec (fun _=> ?_) fun _=> ?_ | refine egrd_dec (fun _=> ?_) fun _=> ?_))
   all_goals
    unfold basV hexN
    rw[if_neg h1]
    (repeat' split)<;>first | rfl | (exfalso;omega) | (apply congrArg (Value.int .i64);omega)
 ·rw[List.drop_eq_nil_of_le (by omega)]
  repeat' (first | (simp (disch:=first | omega | (decide +kernel)) only[↓RD,RU,↓putF_get,↓evF_t,↓evF_c,getD_zero,getD_succ,pop,resL,resV,tupleV,↓reduceIte,Nat.reduceEqDiff,Int.reduceOfNat,Int.reduceNegSucc,reduceCtorEq,str_size]) | (with_reducible first | refine condK_dec (fun _=> ?_) fun _=> ?_ | refine grd_dec (fun _=> ?_) fun _=> ?_ | refine egrd_dec (fun _=> ?_) fun _=> ?_))
  all_goals rfl
theorem stands_wp(K:CH){n:Nat}(hn:n<256):WpF (tblG Tryz.prog LG GG) 113 [.int .u8 (n:Nat)] K fun v K'=>v= .int .u8 (stdN n:Nat)∧K'=K:=by
 refine wpF_rG (by rfl) (by kernel_rfl) ?_;(conv in (rF _ _).body=>reduce);(conv in (rF _ _).res=>reduce)
 repeat' (first | (simp (disch:=first | omega | (decide +kernel)) only[↓RD,RU,↓putF_get,↓evF_t,↓evF_c,getD_zero,pop,resL,resV,tupleV,↓reduceIte,Nat.reduceEqDiff,Int.reduceOfNat,reduceCtorEq]) | (with_reducible first | refine condK_dec (fun _=> ?_) fun _=> ?_ | refine grd_dec (fun _=> ?_) fun _=> ?_ | refine egrd_dec (fun _=> ?_) fun _=> ?_))
 all_goals
  unfold stdN
  (repeat' split)<;>first | rfl | (exfalso;omega) | (apply congrArg (Value.int .u8);omega)
end Can
end Go.Proofs.YticlaccbodpkeaaGreatDoor
end
section
namespace Go.Proofs.YticlaccbodpkeaaGreatDoor
namespace Can
open Go Go.RowKit
set_option linter.unusedSimpArgs false
set_option linter.unusedVariables false
set_option maxRecDepth 4000
theorem seq_cut{T:Tbl}{a b:RCode}{fr:Fr}{H:CH}{Q:CExit→Fr→CH→Prop}(I:Fr→CH→Prop)(h:WpR T a fr H fun x fr' H'=>x= .normal∧I fr' H')(hb : ∀fr' H',I fr' H'→(∀t,nw a t=true→fr' t=fr t)→WpR T b fr' H' Q):WpR T (.seq a b) fr H Q:=by
 refine r_seq.2 ?_
 refine(wpR_keep h).mono fun x fr' H' ⟨⟨hx,hi⟩,hk⟩=> ?_
 subst hx
 exact hb fr' H' hi hk
def pieC (r:Option (Nat×List UInt8×Nat))(j:Nat):List Value:=match r with
 | some (k,x,n)=> [.int .i64 k, .string (str x), .int .i64 (j+n:Nat)]
 | none=> [.int .i64 (-1), .string ⟨⟨[]⟩⟩, .int .i64 0]
theorem get_some{t:List UInt8}{i:Nat}(h:i<t.length):(t[i]?).map (fun b=>Value.int .u8 (b.toNat:Int))=some (.int .u8 (hd (t.drop i):Nat)):=by
 rw[List.getElem?_eq_getElem h,hd_drop h];rfl
theorem hd_out{t:List UInt8}{i:Nat}(h : ¬i<t.length):hd (t.drop i)=0:=by
 rw[List.drop_eq_nil_of_le (by omega)];rfl
set_option maxHeartbeats 2000000 in
theorem number_r{K:CH}{t:List UInt8}{j:Nat}(hj:j<t.length)(hl:t.length≤20000)(hdg:isDigN (hd (t.drop j))=true) :
 WpF (tblG Tryz.prog LG GG) 76 [.string (str t), .int .i64 (j:Nat)] K fun v K'=>HExt K K'∧v= .agg (pieC (if numBad (t.drop j)=true then none else some (numK (t.drop j),(t.drop j).take (numN (t.drop j)),numN (t.drop j))) j).toArray:=by
 obtain⟨l,hl'⟩ : ∃l,t.drop j=l:=⟨_,rfl⟩
 have hll:l.length=t.length-j:=by rw[←hl'];simp
 have hdr : ∀i,t.drop (j+i)=l.drop i:=fun i=>by rw[←hl',List.drop_drop]
 rw[hl'] at hdg⊢
 refine wpF_rG (by rfl) (by kernel_rfl) ?_;(conv in (rF _ _).body=>reduce);(conv in (rF _ _).res=>reduce)
 refine seq_cut (fun fr K1=>fr 4= .pointer (some ⟨K.nx,0,none⟩)∧K1=K.new (.cells [.int .i64 0, .string ⟨⟨[]⟩⟩, .int .i64 0] 87 .ex)) (by exact rz0) ?_
 rintro fr1 K1 ⟨f4,rfl⟩ hag1
 refine seq_cut (fun fr K1=>fr 5= .int .i64 5∧K1=K.new (.cells [.int .i64 0, .string ⟨⟨[]⟩⟩, .int .i64 0] 87 .ex)) (by exact rz0) ?_
 rintro fr2 K1 ⟨f5,rfl⟩ hag2
 have hdgs:=fun(K:CH) (Q:Value→CH→Prop) (i:Nat) (hi:j+i≤t.length)=> @digits_iff K t (j+i) hi (by omega) Q
 simp only[hdr] at hdgs
 have hd0:=fun K Q=>hdgs K Q 0 (by omega)
 simp only[Nat.add_zero,List.drop_zero] at hd0
 obtain⟨a,ha⟩ : ∃a,digN l=a:=⟨_,rfl⟩
 have hal:=digN_le (l:=l)
 rw[ha] at hd0 hal
 refine seq_cut (fun fr K1=>fr 6= .int .i64 (j+a:Nat)∧K1=K.new (.cells [.int .i64 0, .string ⟨⟨[]⟩⟩, .int .i64 0] 87 .ex)) (by exact rz (an @hag1 (an @hag2 @hd0))) ?_
 rintro fr3 K1 ⟨f6,rfl⟩ hag3
 obtain⟨A,hA⟩ : ∃A,numA l=A:=⟨_,rfl⟩
 have hAl:=numA_len (l:=l)
 rw[hA] at hAl
 have hgs:=fun(i:Nat) (hi:j+i<t.length)=>get_some hi
 simp only[hdr] at hgs
 refine seq_cut (fun fr K1=>fr 5= .int .i64 (if fracN (l.drop a)=0 then 5 else 6:Nat)∧fr 6= .int .i64 (j+A:Nat)∧K1=K.new (.cells [.int .i64 0, .string ⟨⟨[]⟩⟩, .int .i64 0] 87 .ex)) ?_ ?_
 ·by_cases hf:hd (l.drop a)=46∧isDigN (hd (l.drop (a+1)))=true
  ·obtain⟨hf1,hf2⟩:=hf
   have hin:a+1<l.length:=by
    have:=dig_lt hf2
    exact this
   have g1:=hgs a (by omega)
   have g2:=hgs (a+1) (by omega)
   rw[hf1] at g1
   have e:A=a+1+digN (l.drop (a+1)):=by
    rw[←hA]
    unfold numA fracN
    rw[ha,if_pos ⟨hf1,by rw[List.drop_drop];exact hf2⟩,List.drop_drop];omega
   have hd1:=fun K Q=>hdgs K Q (a+1) (by omega)
   have e2:fracN (l.drop a)≠0:=by
    unfold fracN
    rw[if_pos ⟨hf1,by rw[List.drop_drop];exact hf2⟩];omega
   rw[if_neg e2]
   simp only[←Nat.add_assoc] at g2 hd1
   refine rn (an @hag1 (an @hag2 (an @hag3 (an @f6 (an @str_size (an @str_get (an @g1 (an @g2 (an @rdigit_iff (an @hf2 (an @n1 @hd1))))))))))) ?_
   all_goals exact⟨rfl,congrArg (Value.int .i64) (by omega)⟩
  ·have e2:fracN (l.drop a)=0:=by
    unfold fracN
    rw[if_neg (fun g=>hf ⟨g.1,by have:=g.2;rw[List.drop_drop] at this;exact this⟩)]
   have e:A=a:=by rw[←hA];unfold numA;rw[ha,e2];rfl
   rw[if_pos e2,e]
   by_cases hin:a+1<l.length
   ·have g1:=hgs a (by omega)
    have g2:=hgs (a+1) (by omega)
    simp only[←Nat.add_assoc] at g2
    by_cases hf1:hd (l.drop a)=46
    ·have hf2:isDigN (hd (l.drop (a+1)))=false:=by simpa using fun g=>hf ⟨hf1,g⟩
     rw[hf1] at g1
     refine rn (an @hag1 (an @hag2 (an @hag3 (an @f5 (an @f6 (an @str_size (an @str_get (an @g1 (an @g2 (an @rdigit_iff (an @hf2 @n1))))))))))) ?_
     all_goals rfl
    ·refine rn (an @hag1 (an @hag2 (an @hag3 (an @f5 (an @f6 (an @str_size (an @str_get (an @g1 (an @g2 (an @rdigit_iff (an @hf1 @n1))))))))))) ?_
     all_goals rfl
   ·refine rn (an @hag1 (an @hag2 (an @hag3 (an @f5 (an @f6 (an @str_size (an @str_get @n1))))))) ?_
    all_goals rfl
 rintro fr4 K1 ⟨f5',f6',rfl⟩ hag4
 obtain⟨N,hN⟩ : ∃N,numN l=N:=⟨_,rfl⟩
 obtain⟨kd,hkd⟩ : ∃kd,numK l=kd:=⟨_,rfl⟩
 have hNl:=numN_len (l:=l)
 rw[hN] at hNl
 have hN':N=A+expN (l.drop A):=by rw[←hN];unfold numN;rw[hA]
 have hkd':kd=if fracN (l.drop a)=0∧expN (l.drop A)=0 then 5 else 6:=by rw[←hkd];unfold numK;rw[ha,hA]
 have hk0:expN (l.drop A)=0→(if fracN (l.drop a)=0 then 5 else 6:Nat)=kd:=fun g=>by
  rw[hkd',g]
  by_cases h0:fracN (l.drop a)=0
  ·rw[if_pos h0,if_pos ⟨h0,rfl⟩]
  ·rw[if_neg h0,if_neg (fun g=>h0 g.1)]
 have hk1:expN (l.drop A)≠0→kd=6:=fun g=>by rw[hkd',if_neg (fun g'=>g g'.2)]
 refine seq_cut (fun fr K1=>fr 5= .int .i64 (kd:Nat)∧fr 6= .int .i64 (j+N:Nat)∧K1=K.new (.cells [.int .i64 0, .string ⟨⟨[]⟩⟩, .int .i64 0] 87 .ex)) ?_ ?_
 ·have hin : ∀i,hd (l.drop i)≠0→i<l.length:=fun i h=>by
   have:=hd_pos h
   simp only[List.length_drop] at this;omega
  have e1:expN (l.drop A)=if hd (l.drop A)=101 then (if isDigN (hd (l.drop (A+1)))=true then 1+digN (l.drop (A+1)) else if (hd (l.drop (A+1))=43∨hd (l.drop (A+1))=45)∧isDigN (hd (l.drop (A+2)))=true then 2+digN (l.drop (A+2)) else 0) else 0:=by
   unfold expN;simp only[List.drop_drop]
  by_cases hE:hd (l.drop A)=101
  ·have h0:=hin A (by omega)
   have g0:=hgs A (by omega)
   rw[hE] at g0
   rw[if_pos hE] at e1
   by_cases hs:hd (l.drop (A+1))=43∨hd (l.drop (A+1))=45
   ·have h1:=hin (A+1) (by omega)
    have g1:=hgs (A+1) (by omega)
    have hnd:isDigN (hd (l.drop (A+1)))=false:=by
     rcases hs with g | g<;>rw[g]<;>decide
    rw[hnd,if_neg (by decide)] at e1
    simp only[←Nat.add_assoc] at g1
    by_cases hd2:isDigN (hd (l.drop (A+2)))=true
    ·have h2:A+2<l.length:=dig_lt hd2
     have g2:=hgs (A+2) (by omega)
     rw[if_pos ⟨hs,hd2⟩] at e1
     have hkk:=hk1 (by omega)
     have hdd:=fun K Q=>hdgs K Q (A+2) (by omega)
     simp only[←Nat.add_assoc] at g2 hdd
     rcases hs with hs | hs<;>rw[hs] at g1
     all_goals
      refine rn (an @hag1 (an @hag2 (an @hag3 (an @hag4 (an @f5' (an @f6' (an @str_size (an @str_get (an @g0 (an @g1 (an @g2 (an @rdigit_iff (an @hd2 (an @n1 (an @n2 @hdd))))))))))))))) ?_
      all_goals exact⟨by rw[hkk];rfl,congrArg (Value.int .i64) (by omega)⟩
    ·rw[if_neg (fun g=>hd2 g.2)] at e1
     have hkk:=hk0 e1
     rw[hkk] at f5'
     have hNA:N=A:=by omega
     rw[hNA]
     by_cases h2:A+2<l.length
     ·have g2:=hgs (A+2) (by omega)
      simp only[←Nat.add_assoc] at g2
      rcases hs with hs | hs<;>rw[hs] at g1
      all_goals
       exact rz (an @hag1 (an @hag2 (an @hag3 (an @hag4 (an @f5' (an @f6' (an @str_size (an @str_get (an @g0 (an @g1 (an @g2 (an @rdigit_iff (an @hd2 (an @n1 @n2))))))))))))))
     ·rcases hs with hs | hs<;>rw[hs] at g1
      all_goals
       exact rz (an @hag1 (an @hag2 (an @hag3 (an @hag4 (an @f5' (an @f6' (an @str_size (an @str_get (an @g0 (an @g1 (an @rdigit_iff (an @hd2 (an @n1 @n2)))))))))))))
   ·have hs1 : ¬hd (l.drop (A+1))=43:=fun g=>hs (.inl g)
    have hs2 : ¬hd (l.drop (A+1))=45:=fun g=>hs (.inr g)
    by_cases hd2:isDigN (hd (l.drop (A+1)))=true
    ·have h2:A+1<l.length:=dig_lt hd2
     have g1:=hgs (A+1) (by omega)
     rw[if_pos hd2] at e1
     have hkk:=hk1 (by omega)
     have hdd:=fun K Q=>hdgs K Q (A+1) (by omega)
     simp only[←Nat.add_assoc] at g1 hdd
     refine rn (an @hag1 (an @hag2 (an @hag3 (an @hag4 (an @f5' (an @f6' (an @str_size (an @str_get (an @g0 (an @g1 (an @rdigit_iff (an @hd2 (an @hs1 (an @hs2 (an @n1 (an @n2 @hdd)))))))))))))))) ?_
     all_goals exact⟨by rw[hkk];rfl,congrArg (Value.int .i64) (by omega)⟩
    ·rw[if_neg hd2,if_neg (fun g=>hs g.1)] at e1
     have hkk:=hk0 e1
     rw[hkk] at f5'
     have hNA:N=A:=by omega
     rw[hNA]
     by_cases h2:A+1<l.length
     ·have g1:=hgs (A+1) (by omega)
      simp only[←Nat.add_assoc] at g1
      exact rz (an @hag1 (an @hag2 (an @hag3 (an @hag4 (an @f5' (an @f6' (an @str_size (an @str_get (an @g0 (an @g1 (an @rdigit_iff (an @hd2 (an @hs1 (an @hs2 (an @n1 @n2)))))))))))))))
     ·exact rz (an @hag1 (an @hag2 (an @hag3 (an @hag4 (an @f5' (an @f6' (an @str_size (an @str_get (an @g0 (an @rdigit_iff (an @hd2 (an @n1 @n2))))))))))))
  ·rw[if_neg hE] at e1
   have hkk:=hk0 e1
   rw[hkk] at f5'
   have hNA:N=A:=by omega
   rw[hNA]
   by_cases h2:A<l.length
   ·have g0:=hgs A (by omega)
    exact rz (an @hag1 (an @hag2 (an @hag3 (an @hag4 (an @f5' (an @f6' (an @str_size (an @str_get (an @g0 (an @hE @n1))))))))))
   ·repeat' (first | (simp (disch:=first | omega | (decide +kernel)) only[↓RD,RU,↓putF_get,↓evF_t,↓evF_c,getD_zero,pop,↓reduceIte,Nat.reduceEqDiff,Int.reduceOfNat,reduceCtorEq,hag1,hag2,hag3,hag4,f5',f6',str_size]) | (with_reducible first | refine condK_dec (fun _=> ?_) fun _=> ?_ | refine grd_dec (fun _=> ?_) fun _=> ?_ | refine egrd_dec (fun _=> ?_) fun _=> ?_))
 rintro fr5 K1 ⟨f5'',f6'',rfl⟩ hag5
 have hjN:j+N-j=N:=by omega
 refine seq_cut (fun fr K1=>fr 8= .string (str (l.take N))∧K1=K.new (.cells [.int .i64 0, .string ⟨⟨[]⟩⟩, .int .i64 0] 87 .ex)) (by repeat' (first | (simp (disch:=first | omega | (decide +kernel)) only[↓RD,RU,↓putF_get,↓evF_t,getD_zero,getD_succ,pop,↓reduceIte,Nat.reduceEqDiff,bnd,ρ29,hag1,hag2,hag3,hag4,hag5,f6'',str_size,str_ext,hl',hjN]) | (with_reducible first | refine condK_dec (fun _=> ?_) fun _=> ?_ | refine grd_dec (fun _=> ?_) fun _=> ?_ | refine egrd_dec (fun _=> ?_) fun _=> ?_))) ?_
 rintro fr6 K1 ⟨f8,rfl⟩ hag6
 have hN0:0<N:=by
  have:=nW_yes (p:=isDigN) (l:=l) (j:=0) (by omega) (by simpa using hdg)
  have h1:digN l≤numA l:=by unfold numA;omega
  have h2:digN l=nW isDigN (l.drop 0):=by simp[digN]
  omega
 have hNlen:(l.take N).length=N:=by simp;omega
 have h00:((l.take N)[0]?).map (fun b=>Value.int .u8 (b.toNat:Int))=some (.int .u8 (hd l:Nat)):=by
  rw[List.getElem?_take_of_lt hN0]
  have:=hgs 0 (by omega)
  simp only[Nat.add_zero,List.drop_zero] at this
  rw[←this,←hl',List.getElem?_drop];simp
 have hbv:numBad l=(isLetN (hd (l.drop N))||decide (hd (l.drop N)=46)||decide (540<N)||(decide (kd=5)&&decide (1<N)&&decide (hd l=48))):=by
  unfold numBad;rw[hN,hkd]
 have hgN:=fun(h:N<l.length)=>hgs N (by omega)
 have hx:=((HExt.refl K).new (.cells [.int .i64 0, .string ⟨⟨[]⟩⟩, .int .i64 0] 87 .ex))
 by_cases c1:540<N
 ·rw[if_pos (by rw[hbv];simp[c1])]
  repeat' (first | (simp (disch:=first | omega | (decide +kernel)) only[↓RD,RU,↓putF_get,↓putF_none,↓evF_t,↓evF_c,new_get,set_get,pop,lop,wop,resL,resV,tupleV,isVal,isCell,Value.cells,ρ0,ρ1,ρ4,↓reduceIte,Nat.reduceEqDiff,Nat.reduceAdd,Int.reduceOfNat,Int.reduceNegSucc,ρ7,ρ8,ρ15,ρ17,ρ18,ρ19,ρ20,ρ21,ρ22,ρ23,Kd.isRo,ρ25,ρ26,bldV,Nat.reduceLeDiff,hag2,hag3,hag4,hag5,hag6,f4,f8,hNlen,str_size]) | (with_reducible first | refine condK_dec (fun _=> ?_) fun _=> ?_ | refine grd_dec (fun _=> ?_) fun _=> ?_ | refine egrd_dec (fun _=> ?_) fun _=> ?_))
  all_goals exact⟨hx.set (Nat.le_refl _) _,rfl⟩
 ·by_cases c2:kd=5∧1<N∧hd l=48
  ·obtain⟨c2,c3,c4⟩:=c2
   rw[if_pos (by rw[hbv];simp[c2,c3,c4])]
   rw[c4] at h00
   repeat' (first | (simp (disch:=first | omega | (decide +kernel)) only[↓RD,RU,↓putF_get,↓putF_none,↓evF_t,↓evF_c,new_get,set_get,pop,lop,wop,resL,resV,tupleV,isVal,isCell,Value.cells,ρ0,ρ1,ρ4,↓reduceIte,Nat.reduceEqDiff,Nat.reduceAdd,Int.reduceOfNat,Int.reduceNegSucc,reduceCtorEq,ρ7,ρ8,ρ15,ρ17,ρ18,ρ19,ρ20,ρ21,ρ22,ρ23,Kd.isRo,ρ25,ρ26,bldV,Nat.reduceLeDiff,Int.reduceToNat,hag2,hag3,hag4,hag5,hag6,f4,f5'',f8,hNlen,str_size,str_get,h00,c2]) | (with_reducible first | refine condK_dec (fun _=> ?_) fun _=> ?_ | refine grd_dec (fun _=> ?_) fun _=> ?_ | refine egrd_dec (fun _=> ?_) fun _=> ?_))
   all_goals exact⟨hx.set (Nat.le_refl _) _,rfl⟩
  ·by_cases c5:N<l.length
   ·have gN:=hgN c5
    by_cases c6:isLetN (hd (l.drop N))=true
    ·rw[if_pos (by rw[hbv];simp[c6])]
     repeat' (first | (simp (disch:=first | omega | (decide +kernel)) only[↓RD,RU,↓putF_get,↓putF_none,↓evF_t,↓evF_c,new_get,set_get,getD_zero,pop,lop,wop,resL,resV,tupleV,isVal,isCell,Value.cells,ρ0,ρ1,ρ4,↓reduceIte,Nat.reduceEqDiff,Nat.reduceAdd,Int.reduceOfNat,Int.reduceNegSucc,reduceCtorEq,ρ7,ρ8,ρ15,ρ17,ρ18,ρ19,ρ20,ρ21,ρ22,ρ23,Kd.isRo,ρ25,ρ26,bldV,Nat.reduceLeDiff,Int.reduceToNat,ρ29,hag1,hag2,hag3,hag4,hag5,hag6,f4,f5'',f6'',f8,hNlen,str_size,str_get,h00,gN,rletter_iff,c6]) | (with_reducible first | refine condK_dec (fun _=> ?_) fun _=> ?_ | refine grd_dec (fun _=> ?_) fun _=> ?_ | refine egrd_dec (fun _=> ?_) fun _=> ?_))
     all_goals first | exact⟨hx.set (Nat.le_refl _) _,rfl⟩ | (exfalso;omega)
    ·have c6':isLetN (hd (l.drop N))=false:=by simpa using c6
     by_cases c7:hd (l.drop N)=46
     ·rw[if_pos (by rw[hbv];simp[c7])]
      repeat' (first | (simp (disch:=first | omega | (decide +kernel)) only[↓RD,RU,↓putF_get,↓putF_none,↓evF_t,↓evF_c,new_get,set_get,getD_zero,pop,lop,wop,resL,resV,tupleV,isVal,isCell,Value.cells,ρ0,ρ1,ρ4,↓reduceIte,Nat.reduceEqDiff,Nat.reduceAdd,Int.reduceOfNat,Int.reduceNegSucc,reduceCtorEq,ρ7,ρ8,ρ15,ρ17,ρ18,ρ19,ρ20,ρ21,ρ22,ρ23,Kd.isRo,ρ25,ρ26,bldV,Nat.reduceLeDiff,Int.reduceToNat,ρ29,hag1,hag2,hag3,hag4,hag5,hag6,f4,f5'',f6'',f8,hNlen,str_size,str_get,h00,gN,rletter_iff,let46,c7]) | (with_reducible first | refine condK_dec (fun _=> ?_) fun _=> ?_ | refine grd_dec (fun _=> ?_) fun _=> ?_ | refine egrd_dec (fun _=> ?_) fun _=> ?_))
      all_goals first | exact⟨hx.set (Nat.le_refl _) _,rfl⟩ | (exfalso;omega)
     ·rw[if_neg (by rw[hbv];simp[c1,c6,c7];omega),hN,hkd]
      repeat' (first | (simp (disch:=first | omega | (decide +kernel)) only[↓RD,RU,↓putF_get,↓putF_none,↓evF_t,↓evF_c,new_get,set_get,getD_zero,pop,lop,wop,resL,resV,tupleV,isVal,isCell,Value.cells,ρ0,ρ1,ρ4,↓reduceIte,Nat.reduceEqDiff,Nat.reduceAdd,Int.reduceOfNat,Int.reduceNegSucc,reduceCtorEq,ρ7,ρ8,ρ15,ρ17,ρ18,ρ19,ρ20,ρ21,ρ22,ρ23,Kd.isRo,ρ25,ρ26,bldV,Nat.reduceLeDiff,Int.reduceToNat,ρ29,hag1,hag2,hag3,hag4,hag5,hag6,f4,f5'',f6'',f8,hNlen,str_size,str_get,h00,gN,rletter_iff,c6']) | (with_reducible first | refine condK_dec (fun _=> ?_) fun _=> ?_ | refine grd_dec (fun _=> ?_) fun _=> ?_ | refine egrd_dec (fun _=> ?_) fun _=> ?_))
      all_goals first | exact⟨hx.set (Nat.le_refl _) _,rfl⟩ | (exfalso;omega)
   ·have h0:hd (l.drop N)=0:=hd_out c5
    rw[if_neg (by rw[hbv,h0];simp[c1];exact⟨by decide,by omega⟩),hN,hkd]
    repeat' (first | (simp (disch:=first | omega | (decide +kernel)) only[↓RD,RU,↓putF_get,↓putF_none,↓evF_t,↓evF_c,new_get,set_get,getD_zero,pop,lop,wop,resL,resV,tupleV,isVal,isCell,Value.cells,ρ0,ρ1,ρ4,↓reduceIte,Nat.reduceEqDiff,Nat.reduceAdd,Int.reduceOfNat,Int.reduceNegSucc,reduceCtorEq,ρ7,ρ8,ρ15,ρ17,ρ18,ρ19,ρ20,ρ21,ρ22,ρ23,Kd.isRo,ρ25,ρ26,bldV,Nat.reduceLeDiff,Int.reduceToNat,hag1,hag2,hag3,hag4,hag5,hag6,f4,f5'',f6'',f8,hNlen,str_size,str_get,h00]) | (with_reducible first | refine condK_dec (fun _=> ?_) fun _=> ?_ | refine grd_dec (fun _=> ?_) fun _=> ?_ | refine egrd_dec (fun _=> ?_) fun _=> ?_))
    all_goals first | exact⟨hx.set (Nat.le_refl _) _,rfl⟩ | (exfalso;omega)
end Can
end Go.Proofs.YticlaccbodpkeaaGreatDoor
end
section
namespace Go.Proofs.YticlaccbodpkeaaGreatDoor
namespace Can
open Go Go.RowKit
set_option linter.unusedSimpArgs false
set_option linter.unusedVariables false
set_option maxRecDepth 4000
theorem base_iff{K:CH}{t:List UInt8}{j:Nat}(hl:t.length≤100000){Q:Value→CH→Prop}:WpF (tblG Tryz.prog LG GG) 112 [.string ⟨⟨t⟩⟩, .int .i64 (j:Nat)] K Q↔Q (.int .i64 (basV (hd (t.drop j)))) K:=wpF_iff (base_wp K hl)
theorem stands_iff{K:CH}{n:Nat}(hn:n<256){Q:Value→CH→Prop}:WpF (tblG Tryz.prog LG GG) 113 [.int .u8 (n:Nat)] K Q↔Q (.int .u8 (stdN n:Nat)) K:=wpF_iff (stands_wp K hn)
theorem n3{a:Nat}:((a:Int)+3)=((a+3:Nat):Int):=rfl
def TxJ (A:CH)(q j:Nat)(L:List UInt8)(n:Nat)(v5 v6:Value)(K1:CH):Prop:=∃(i f:Nat) (acc:List UInt8),n=f+1∧i+f=L.length∧strT q L=(strN q (f+1) (L.drop i)).map (fun x=>(acc++x.1,x.2+i))∧v6= .int .i64 (j+1+i:Nat)∧Grw A 5 1 (ints .u8) K1 v5 (u8s acc)∧HExt A K1∧acc.length≤i
theorem strN_nil{q:Nat}(hq:32≤q) : ∀ {f:Nat},strN q f []=none
 | 0=>rfl
 | f+1=>by
   unfold strN
   rw[if_neg (show ¬hd []=q by simp[hd];omega),if_pos (show hd []<32 by decide)]
set_option maxHeartbeats 2000000 in
theorem text_r{K:CH}{t:List UInt8}{j:Nat}(hj:j<t.length)(hl:t.length≤20000)(hq:32≤hd (t.drop j)∧hd (t.drop j)≠92) :
 WpF (tblG Tryz.prog LG GG) 77 [.string (str t), .int .i64 (j:Nat)] K fun v K'=>HExt K K'∧v= .agg (pieC ((strT (hd (t.drop j)) (t.drop (j+1))).map fun x=>(7,x.1,x.2+1)) j).toArray:=by
 obtain⟨q,hqe⟩ : ∃q,hd (t.drop j)=q:=⟨_,rfl⟩
 have gq:=get_some hj
 rw[hqe] at hq gq⊢
 obtain⟨L,hL⟩ : ∃L,t.drop (j+1)=L:=⟨_,rfl⟩
 have hLl:L.length=t.length-(j+1):=by rw[←hL];simp
 have hdr : ∀i,t.drop (j+1+i)=L.drop i:=fun i=>by rw[←hL,List.drop_drop]
 have hgs:=fun(i:Nat) (hi:j+1+i<t.length)=>get_some hi
 simp only[hdr] at hgs
 rw[hL]
 refine wpF_rG (by rfl) (by kernel_rfl) ?_;(conv in (rF _ _).body=>reduce);(conv in (rF _ _).res=>reduce)
 obtain⟨A,hA⟩ : ∃A,K.new (.cells [.int .i64 0, .string ⟨⟨[]⟩⟩, .int .i64 0] 87 .ex)=A:=⟨_,rfl⟩
 have hxA:HExt K A:=by rw[←hA];exact(HExt.refl K).new _
 have hAo:A.ob K.nx= .cells [.int .i64 0, .string ⟨⟨[]⟩⟩, .int .i64 0] 87 .ex:=by rw[←hA];exact new_get.trans (if_pos rfl)
 have hAn:K.nx<A.nx:=by rw[←hA];exact Nat.lt_succ_self _
 refine seq_cut (fun fr K1=>fr 4= .pointer (some ⟨K.nx,0,none⟩)∧K1=A) (by exact rz @hA) ?_
 rintro fr1 K1 ⟨f4,rfl⟩ hag1
 refine rn (an @hag1 @n1) ?_
 refine loop_w (fun n fr K2=>TxJ K1 q j L n (fr 5) (fr 6) K2) (n:=L.length+1) ⟨0,L.length,[],rfl,by omega,by simp[strT],by(exact rz0;all_goals rfl),by(refine rn0 ?_;all_goals exact .inl ⟨rfl,rfl⟩),HExt.refl _,by simp⟩ ?_
 rintro n fr K2 ⟨i,f,acc,rfl,hif,hst,f6,hG,hx2,hac⟩ hag
 obtain⟨vb,f5⟩ : ∃vb,fr 5=vb:=⟨_,rfl⟩
 rw[f5] at hG
 have hob2:=(hx2.ob _ hAn).trans hAo
 have hn2:=hx2.nx
 have hc:= @hd_lt (L.drop i)
 by_cases hil:i<L.length
 ·have g0:=hgs i (by omega)
  by_cases c1:hd (L.drop i)=q
  ·have hres:strT q L=some (acc,i+1):=by rw[hst,strN,if_pos c1];simp;omega
   rw[hres]
   rw[c1] at g0
   rcases hG with ⟨e1,rfl⟩ | ⟨b,kd,rfl,g1,g2,g3,g4⟩
   ·have ea:acc= []:=by simpa[u8s] using e1
    subst ea
    refine rn (an @hag (an @hag1 (an @f4 (an @f5 (an @f6 (an @g0 (an @gq (an @str_size (an @str_get (an @n1 @hob2)))))))))) ?_
    all_goals exact⟨(hxA.trans hx2).set (Nat.le_refl _) _,(congrArg (fun n:Nat=>Value.agg #[.int .i64 7, .string (str []), .int .i64 n]) (show j+1+i+1=j+(i+1+1) by omega))⟩
   ·rw[u8s_ints] at g3
    have hul:(u8s acc).length=acc.length:=by simp[u8s]
    rw[hul] at f5
    refine rn (an @hag (an @hag1 (an @f4 (an @f5 (an @f6 (an @g0 (an @gq (an @str_size (an @str_get (an @n1 (an @hob2 (an @g3 @byteList_u8s)))))))))))) ?_
    all_goals exact⟨(hxA.trans hx2).set (Nat.le_refl _) _,(congrArg (fun n:Nat=>Value.agg #[.int .i64 7, .string (str acc), .int .i64 n]) (show j+1+i+1=j+(i+1+1) by omega))⟩
  have c1' : ¬hd (L.drop i)=q:=c1
  by_cases c2:hd (L.drop i)<32
  ·have hres:strT q L=none:=by rw[hst,strN,if_neg c1,if_pos c2];rfl
   rw[hres]
   refine rn (an @hag (an @hag1 (an @f4 (an @f5 (an @f6 (an @g0 (an @gq (an @str_size (an @str_get (an @n1 @hob2)))))))))) ?_
   all_goals exact⟨(hxA.trans hx2).set (Nat.le_refl _) _,rfl⟩
  obtain⟨f',rfl⟩ : ∃f',f=f'+1:=⟨f-1,by omega⟩
  by_cases c3:hd (L.drop i)=92
  ·rw[c3] at g0
   have hkey : ∀b n,escN (L.drop (i+1))=some (b,n)→∃f2,f'=f2+n∧b<256∧strT q L=(strN q (f2+1) (L.drop (i+1+n))).map (fun x=>((acc++ [UInt8.ofNat b])++x.1,x.2+(i+1+n))):=fun b n hes=>by
    obtain⟨hnl,hb256⟩:=esc_le hes
    simp only[List.length_drop] at hnl
    obtain⟨f2,rfl⟩ : ∃f2,f'=f2+n:=⟨f'-n,by omega⟩
    refine⟨f2,rfl,hb256,?_⟩
    rw[hst,strN,if_neg c1,if_neg c2,if_neg (by simpa using c3),List.drop_drop,hes]
    simp only[List.drop_drop]
    rw[strN_fuel (f:=f2+n+1) (g:=f2+1) (by simp;omega) (by simp;omega),show i+(1+n)=i+1+n by omega]
    cases strN q (f2+1) (L.drop (i+1+n)) with
    | none=>rfl
    | some x=>simp;omega
   have hnone:escN (L.drop (i+1))=none→strT q L=none:=fun hes=>by
    rw[hst,strN,if_neg c1,if_neg c2,if_neg (by simpa using c3),List.drop_drop,hes];rfl
   by_cases hi1:i+1<L.length
   ·have g1:=hgs (i+1) (by omega)
    simp only[←Nat.add_assoc] at g1
    by_cases c4:hd (L.drop (i+1))=120
    ·rw[c4] at g1
     have hb1:hd (t.drop (j+1+i+2))=hd (L.drop (i+2)):=by rw[Nat.add_assoc,hdr]
     have hb2:hd (t.drop (j+1+i+3))=hd (L.drop (i+3)):=by rw[Nat.add_assoc,hdr]
     have hes0:escN (L.drop (i+1))=if hexN (hd (L.drop (i+2)))<16∧hexN (hd (L.drop (i+3)))<16 then some (16*hexN (hd (L.drop (i+2)))+hexN (hd (L.drop (i+3))),3) else none:=by
      unfold escN
      rw[if_pos c4];simp only[List.drop_drop]
     have hx1:= @hexN_16 (hd (L.drop (i+2)))
     have hx2':= @hexN_16 (hd (L.drop (i+3)))
     obtain⟨x1,hx1e⟩ : ∃x,hexN (hd (L.drop (i+2)))=x:=⟨_,rfl⟩
     obtain⟨x2,hx2e⟩ : ∃x,hexN (hd (L.drop (i+3)))=x:=⟨_,rfl⟩
     rw[hx1e] at hx1
     rw[hx2e] at hx2'
     rw[hx1e,hx2e] at hes0
     have bi:=fun(m:Nat) (K:CH) (Q:Value→CH→Prop)=> @base_iff K t m (by omega) Q
     by_cases d1:x1<16
     ·have b1:basV (hd (L.drop (i+2)))=(x1:Int):=by unfold basV;rw[hx1e,if_neg (by omega)]
      by_cases d2:x2<16
      ·have b2:basV (hd (L.drop (i+3)))=(x2:Int):=by unfold basV;rw[hx2e,if_neg (by omega)]
       have hes:escN (L.drop (i+1))=some (16*x1+x2,3):=by rw[hes0,if_pos ⟨d1,d2⟩]
       refine rn (an @hag (an @hag1 (an @f4 (an @f5 (an @f6 (an @g0 (an @gq (an @str_size (an @str_get (an @n1 (an @n2 (an @n3 (an @hob2 (an @g1 (an @bi (an @hb1 (an @hb2 (an @b1 @b2)))))))))))))))))) ?_
       obtain⟨f2,rfl,hb256,hst2⟩:=hkey _ _ hes
       refine optW_app (ints_ok .u8) (ys:= [16*(x1:Int)+(x2:Int)]) (hG.ext (by(repeat (first | assumption | exact HExt.refl _ | (refine HExt.set ?_ (by first | omega | (simp only[new_nx,set_nx];omega)) _) | (refine HExt.new ?_ _))))) (hx2.trans (by(repeat (first | assumption | exact HExt.refl _ | (refine HExt.set ?_ (by first | omega | (simp only[new_nx,set_nx];omega)) _) | (refine HExt.new ?_ _))))) (by simp[u8s];omega) (by simp[u8s];omega) rfl rfl fun v' K4 j1 j2 j3 j4=> ?_
       have hu:u8s acc++ [(16*(x1:Int)+(x2:Int):Int)]=u8s (acc++ [UInt8.ofNat (16*x1+x2)]):=by simp[u8s];omega
       rw[hu] at j1
       refine rn @f6 ?_
       all_goals exact⟨_,by omega,i+1+3,f2,_,rfl,by omega,hst2,congrArg (Value.int .i64) (by omega),j1,j2,by simp;omega⟩
      ·have b2:basV (hd (L.drop (i+3)))= -1:=by unfold basV;rw[hx2e,if_pos (by omega)]
       rw[hnone (by rw[hes0,if_neg (fun g=>d2 g.2)])]
       refine rn (an @hag (an @hag1 (an @f4 (an @f5 (an @f6 (an @g0 (an @gq (an @str_size (an @str_get (an @n1 (an @n2 (an @n3 (an @hob2 (an @g1 (an @bi (an @hb1 (an @hb2 (an @b1 @b2)))))))))))))))))) ?_
       all_goals exact⟨(hxA.trans hx2).set (Nat.le_refl _) _,rfl⟩
     ·have b1:basV (hd (L.drop (i+2)))= -1:=by unfold basV;rw[hx1e,if_pos (by omega)]
      rw[hnone (by rw[hes0,if_neg (fun g=>d1 g.1)])]
      refine rn (an @hag (an @hag1 (an @f4 (an @f5 (an @f6 (an @g0 (an @gq (an @str_size (an @str_get (an @n1 (an @n2 (an @n3 (an @hob2 (an @g1 (an @bi (an @hb1 (an @hb2 @b1))))))))))))))))) ?_
      all_goals exact⟨(hxA.trans hx2).set (Nat.le_refl _) _,rfl⟩
    ·have hs0:escN (L.drop (i+1))=if stdN (hd (L.drop (i+1)))≠0 then some (stdN (hd (L.drop (i+1))),1) else none:=by
      unfold escN
      rw[if_neg c4]
     have hsi:=fun(K:CH) (Q:Value→CH→Prop)=> @stands_iff K (hd (L.drop (i+1))) hd_lt Q
     obtain⟨sd,hsd⟩ : ∃x,stdN (hd (L.drop (i+1)))=x:=⟨_,rfl⟩
     rw[hsd] at hs0
     simp only[hsd] at hsi
     by_cases d1:sd=0
     ·rw[hnone (by rw[hs0,if_neg (fun g=>g d1)])]
      subst d1
      refine rn (an @hag (an @hag1 (an @f4 (an @f5 (an @f6 (an @g0 (an @gq (an @str_size (an @str_get (an @n1 (an @n2 (an @n3 (an @hob2 (an @g1 (an @c4 @hsi))))))))))))))) ?_
      all_goals exact⟨(hxA.trans hx2).set (Nat.le_refl _) _,rfl⟩
     ·have hes:escN (L.drop (i+1))=some (sd,1):=by rw[hs0,if_pos d1]
      refine rn (an @hag (an @hag1 (an @f4 (an @f5 (an @f6 (an @g0 (an @gq (an @str_size (an @str_get (an @n1 (an @n2 (an @n3 (an @hob2 (an @g1 (an @c4 (an @hsi @d1)))))))))))))))) ?_
      obtain⟨f2,rfl,hb256,hst2⟩:=hkey _ _ hes
      refine optW_app (ints_ok .u8) (ys:= [(sd:Int)]) (hG.ext (by(repeat (first | assumption | exact HExt.refl _ | (refine HExt.set ?_ (by first | omega | (simp only[new_nx,set_nx];omega)) _) | (refine HExt.new ?_ _))))) (hx2.trans (by(repeat (first | assumption | exact HExt.refl _ | (refine HExt.set ?_ (by first | omega | (simp only[new_nx,set_nx];omega)) _) | (refine HExt.new ?_ _))))) (by simp[u8s];omega) (by simp[u8s];omega) rfl rfl fun v' K4 j1 j2 j3 j4=> ?_
      have hu:u8s acc++ [((sd:Int):Int)]=u8s (acc++ [UInt8.ofNat (sd)]):=by simp[u8s];omega
      rw[hu] at j1
      refine rn @f6 ?_
      all_goals exact⟨_,by omega,i+1+1,f2,_,rfl,by omega,hst2,congrArg (Value.int .i64) (by omega),j1,j2,by simp;omega⟩
   ·have hes:escN (L.drop (i+1))=none:=by rw[List.drop_eq_nil_of_le (by omega)];rfl
    rw[hnone hes]
    refine rn (an @hag (an @hag1 (an @f4 (an @f5 (an @f6 (an @g0 (an @gq (an @str_size (an @str_get (an @n1 (an @n2 (an @n3 @hob2)))))))))))) ?_
    all_goals exact⟨(hxA.trans hx2).set (Nat.le_refl _) _,rfl⟩
  ·have hst2:strT q L=(strN q (f'+1) (L.drop (i+1))).map (fun x=>((acc++ [UInt8.ofNat (hd (L.drop i))])++x.1,x.2+(i+1))):=by
    rw[hst,strN,if_neg c1,if_neg c2,if_pos c3,List.drop_drop]
    cases strN q (f'+1) (L.drop (i+1)) with
    | none=>rfl
    | some x=>simp;omega
   refine rn (an @hag (an @hag1 (an @f4 (an @f5 (an @f6 (an @g0 (an @gq (an @str_size (an @str_get (an @n1 @hob2)))))))))) ?_
   refine optW_app (ints_ok .u8) (ys:= [(hd (L.drop i):Int)]) (hG.ext (by(repeat (first | assumption | exact HExt.refl _ | (refine HExt.set ?_ (by first | omega | (simp only[new_nx,set_nx];omega)) _) | (refine HExt.new ?_ _))))) (hx2.trans (by(repeat (first | assumption | exact HExt.refl _ | (refine HExt.set ?_ (by first | omega | (simp only[new_nx,set_nx];omega)) _) | (refine HExt.new ?_ _))))) (by simp[u8s];omega) (by simp[u8s];omega) rfl rfl fun v' K4 j1 j2 j3 j4=> ?_
   have hu:u8s acc++ [(hd (L.drop i):Int)]=u8s (acc++ [UInt8.ofNat (hd (L.drop i))]):=by simp[u8s];omega
   rw[hu] at j1
   refine rn @f6 ?_
   all_goals exact⟨_,by omega,i+1,f',_,rfl,by omega,hst2,congrArg (Value.int .i64) (by omega),j1,j2,by simp;omega⟩
 ·have hres:strT q L=none:=by rw[hst,List.drop_eq_nil_of_le (by omega),strN_nil hq.1];rfl
  rw[hres]
  refine rn (an @hag (an @hag1 (an @f4 (an @f5 (an @f6 (an @str_size (an @str_get (an @n1 @hob2)))))))) ?_
  all_goals exact⟨(hxA.trans hx2).set (Nat.le_refl _) _,rfl⟩
end Can
end Go.Proofs.YticlaccbodpkeaaGreatDoor
end
section
namespace Go.Proofs.YticlaccbodpkeaaGreatDoor
namespace Can
open Go Go.RowKit
set_option linter.unusedSimpArgs false
set_option linter.unusedVariables false
set_option maxRecDepth 4000
theorem syms_len{x:List UInt8}(h:x∈symsL):(x.length=3∧x∈S3)∨(x.length=2∧x∈S2)∨(x.length=1∧x∈S1.map fun c=> [c]):=by
 unfold symsL at h
 simp only[List.mem_append] at h
 rcases h with (h | h) | h
 ·exact .inl ⟨by revert h;revert x;decide,h⟩
 ·exact .inr (.inl ⟨by revert h;revert x;decide,h⟩)
 ·exact .inr (.inr ⟨by obtain⟨c,_,rfl⟩:=List.mem_map.1 h;rfl,h⟩)
theorem s3_len{x:List UInt8}(h:x∈S3):x.length=3:=by revert h;revert x;decide
theorem s2_len{x:List UInt8}(h:x∈S2):x.length=2:=by revert h;revert x;decide
theorem sym3{l:List UInt8}(h:3≤l.length):decide (l.take 3∈symsL)=decide (l.take 3∈S3):=decide_eq_decide.2 ⟨fun g=>by
 rcases syms_len g with ⟨_,g⟩ | ⟨e,_⟩ | ⟨e,_⟩
 ·exact g
 ·simp at e;omega
 ·simp at e;omega,fun g=>by unfold symsL;simp only[List.mem_append];exact .inl (.inl g)⟩
theorem sym2{l:List UInt8}(h:2≤l.length):decide (l.take 2∈symsL)=decide (l.take 2∈S2):=decide_eq_decide.2 ⟨fun g=>by
 rcases syms_len g with ⟨e,_⟩ | ⟨_,g⟩ | ⟨e,_⟩
 ·simp at e;omega
 ·exact g
 ·simp at e;omega,fun g=>by unfold symsL;simp only[List.mem_append];exact .inl (.inr g)⟩
theorem sym1{l:List UInt8}(h:1≤l.length):decide (l.take 1∈symsL)=decide (hd l∈S1.map UInt8.toNat):=decide_eq_decide.2 (by
 cases l with
 | nil=>simp at h
 | cons c r=>
   refine⟨fun g=> ?_,fun g=> ?_⟩
   ·rcases syms_len g with ⟨e,_⟩ | ⟨e,_⟩ | ⟨_,g⟩
    ·simp at e
    ·simp at e
    ·obtain⟨d,hd1,e⟩:=List.mem_map.1 g
     simp at e;subst e
     exact List.mem_map.2 ⟨d,hd1,rfl⟩
   ·obtain⟨d,hd1,e⟩:=List.mem_map.1 g
    have:d=c:=UInt8.toNat_inj.1 e
    subst this
    unfold symsL;simp only[List.mem_append]
    exact .inr (List.mem_map.2 ⟨d,hd1,rfl⟩))
def SyJ (K1:CH)(l:List UInt8)(n:Nat)(v:Value)(K:CH):Prop:=n≤3∧v= .int .i64 (n:Nat)∧K=K1∧(n<3→¬l.take 3∈S3)∧(n<2→¬l.take 2∈S2)∧(n<1→¬hd l∈S1.map UInt8.toNat)
set_option maxHeartbeats 2000000 in
theorem next_r{K:CH}{t:List UInt8}{j:Nat}(hj:j<t.length)(hl:t.length≤20000) :
 WpF (tblG Tryz.prog LG GG) 42 [.string (str t), .int .i64 (j:Nat)] K fun v K'=>HExt K K'∧v= .agg (pieC (tokT (t.drop j)) j).toArray:=by
 obtain⟨l,hl'⟩ : ∃l,t.drop j=l:=⟨_,rfl⟩
 have gq:=get_some hj
 have hll:l.length=t.length-j:=by rw[←hl'];simp
 have hdr : ∀i,t.drop (j+i)=l.drop i:=fun i=>by rw[←hl',List.drop_drop]
 have hgs:=fun(i:Nat) (hi:j+i<t.length)=>get_some hi
 simp only[hdr] at hgs
 have hnum:= @number_r
 have htxt:= @text_r
 rw[hl'] at gq⊢
 refine wpF_rG (by rfl) (by kernel_rfl) ?_;(conv in (rF _ _).body=>reduce);(conv in (rF _ _).res=>reduce)
 obtain⟨A,hA⟩ : ∃A,K.new (.cells [.int .i64 0, .string ⟨⟨[]⟩⟩, .int .i64 0] 87 .ex)=A:=⟨_,rfl⟩
 have hxA:HExt K A:=by rw[←hA];exact(HExt.refl K).new _
 have hAo:A.ob K.nx= .cells [.int .i64 0, .string ⟨⟨[]⟩⟩, .int .i64 0] 87 .ex:=by rw[←hA];exact new_get.trans (if_pos rfl)
 have hAn:K.nx<A.nx:=by rw[←hA];exact Nat.lt_succ_self _
 refine seq_cut (fun fr K1=>fr 4= .pointer (some ⟨K.nx,0,none⟩)∧K1=A) (by exact rz @hA) ?_
 rintro fr1 K1 ⟨f4,rfl⟩ hag1
 by_cases c1:isLetN (hd l)=true
 ·have etok:tokT l=some (if l.take (nW isAlN l)∈wordsL then 8 else 4,l.take (nW isAlN l),nW isAlN l):=by unfold tokT;rw[if_pos c1]
  rw[etok]
  refine rn (an @hag1 (an @str_size (an @str_get (an @gq (an @rletter_iff @c1))))) ?_
  refine loop_w (fun n fr K2=>DgJ isAlN t j K1 n (fr 6) K2) (n:=t.length-j) ⟨j,rfl,Nat.le_refl _,by omega,by(exact rz0;all_goals rfl),rfl,rfl⟩ ?_
  rintro n fr K2 ⟨i,rfl,hji,hi,f6,rfl,hnw⟩ hag
  rw[hl'] at hnw
  have hfin:i-j=nW isAlN l→(t.drop j).take (i-j)=l.take (nW isAlN l):=fun g=>by rw[hl',g]
  by_cases hil:i<t.length
  ·have g1:=get_some hil
   obtain⟨e,he⟩ : ∃e,hd (t.drop i)=e:=⟨_,rfl⟩
   rw[he] at g1
   by_cases d1:isLetN e=true
   ·have hy:=nW_yes (p:=isAlN) hil (by rw[he];simp[isAlN,d1])
    refine rn (an @hag (an @hag1 (an @f6 (an @str_size (an @str_get (an @g1 (an @rletter_iff (an @rdigit_iff @d1)))))))) ?_
    all_goals exact⟨t.length-(i+1),by omega,i+1,rfl,by omega,by omega,rfl,rfl,by rw[hl'];omega⟩
   ·have d1':isLetN e=false:=by simpa using d1
    by_cases d2:isDigN e=true
    ·have hy:=nW_yes (p:=isAlN) hil (by rw[he];simp[isAlN,d2])
     refine rn (an @hag (an @hag1 (an @f6 (an @str_size (an @str_get (an @g1 (an @rletter_iff (an @rdigit_iff (an @d1' @d2))))))))) ?_
     all_goals exact⟨t.length-(i+1),by omega,i+1,rfl,by omega,by omega,rfl,rfl,by rw[hl'];omega⟩
    ·have d2':isDigN e=false:=by simpa using d2
     have hn:=nW_no (p:=isAlN) (l:=t.drop i) (.inr (by rw[he];simp[isAlN,d1',d2']))
     have hW:i-j=nW isAlN l:=by omega
     have hiW:i=j+nW isAlN l:=by omega
     have hf:=hfin hW
     by_cases hw:l.take (nW isAlN l)∈wordsL
     ·rw[if_pos hw]
      refine rn (an @hag (an @hag1 (an @f4 (an @f6 (an @str_size (an @str_get (an @str_ext (an @g1 (an @rletter_iff (an @rdigit_iff (an @d1' (an @d2' (an @hf (an @isWord_iff (an @hw @hAo))))))))))))))) ?_
      all_goals exact⟨hxA.set (Nat.le_refl _) _,by rw[hiW];rfl⟩
     ·rw[if_neg hw]
      refine rn (an @hag (an @hag1 (an @f4 (an @f6 (an @str_size (an @str_get (an @str_ext (an @g1 (an @rletter_iff (an @rdigit_iff (an @d1' (an @d2' (an @hf (an @isWord_iff (an @hw @hAo))))))))))))))) ?_
      all_goals exact⟨hxA.set (Nat.le_refl _) _,by rw[hiW];rfl⟩
  ·have hn:=nW_no (p:=isAlN) (l:=t.drop i) (.inl (List.drop_eq_nil_of_le (by omega)))
   have hW:i-j=nW isAlN l:=by omega
   have hiW:i=j+nW isAlN l:=by omega
   have hf:=hfin hW
   by_cases hw:l.take (nW isAlN l)∈wordsL
   ·rw[if_pos hw]
    refine rn (an @hag (an @hag1 (an @f4 (an @f6 (an @str_size (an @str_get (an @str_ext (an @rletter_iff (an @rdigit_iff (an @hf (an @isWord_iff (an @hw @hAo)))))))))))) ?_
    all_goals exact⟨hxA.set (Nat.le_refl _) _,by rw[hiW];rfl⟩
   ·rw[if_neg hw]
    refine rn (an @hag (an @hag1 (an @f4 (an @f6 (an @str_size (an @str_get (an @str_ext (an @rletter_iff (an @rdigit_iff (an @hf (an @isWord_iff (an @hw @hAo)))))))))))) ?_
    all_goals exact⟨hxA.set (Nat.le_refl _) _,by rw[hiW];rfl⟩
 ·have c1':isLetN (hd l)=false:=by simpa using c1
  by_cases c2:isDigN (hd l)=true
  ·have etok:tokT l=if numBad l=true then none else some (numK l,l.take (numN l),numN l):=by unfold tokT;rw[if_neg c1,if_pos c2]
   rw[etok]
   refine rn (an @hag1 (an @str_size (an @str_get (an @gq (an @rletter_iff (an @rdigit_iff (an @c1' @c2))))))) ?_
   refine(number_r hj hl (by rw[hl'];exact c2)).mono fun v K2 ⟨hx2,hv⟩=> ?_
   subst hv
   rw[hl']
   have hob2:=(hx2.ob _ hAn).trans hAo
   cases hb:numBad l with
   | true=>
     repeat' (first | (simp (disch:=first | omega | (decide +kernel)) only[↓RD,RU,↓putF_get,↓putF_none,↓evF_t,set_get,lop,wop,resL,resV,tupleV,isVal,isCell,Value.cells,↓reduceIte,Nat.reduceEqDiff,Nat.reduceAdd,ρ7,ρ8,ρ15,ρ17,ρ18,ρ21,ρ22,ρ23,Kd.isRo,ρ25,ρ26,f4,hob2,pieC]) | (with_reducible first | refine condK_dec (fun _=> ?_) fun _=> ?_ | refine grd_dec (fun _=> ?_) fun _=> ?_ | refine egrd_dec (fun _=> ?_) fun _=> ?_))
     all_goals exact(hxA.trans hx2).set (Nat.le_refl _) _
   | false=>
     repeat' (first | (simp (disch:=first | omega | (decide +kernel)) only[↓RD,RU,↓putF_get,↓putF_none,↓evF_t,set_get,lop,wop,resL,resV,tupleV,isVal,isCell,Value.cells,↓reduceIte,Nat.reduceEqDiff,Nat.reduceAdd,reduceCtorEq,ρ7,ρ8,ρ15,ρ17,ρ18,ρ21,ρ22,ρ23,Kd.isRo,ρ25,ρ26,f4,hob2,pieC]) | (with_reducible first | refine condK_dec (fun _=> ?_) fun _=> ?_ | refine grd_dec (fun _=> ?_) fun _=> ?_ | refine egrd_dec (fun _=> ?_) fun _=> ?_))
     all_goals exact(hxA.trans hx2).set (Nat.le_refl _) _
  ·have c2':isDigN (hd l)=false:=by simpa using c2
   by_cases c3:hd l=39∨hd l=34
   ·have etok:tokT l=(strT (hd l) (l.drop 1)).map fun x=>(7,x.1,x.2+1):=by unfold tokT;rw[if_neg c1,if_neg c2,if_pos c3]
    rw[etok]
    have hq:32≤hd (t.drop j)∧hd (t.drop j)≠92:=by rw[hl'];omega
    rcases c3 with c3 | c3
    all_goals
     rw[c3] at gq c1' c2'
     refine rn (an @hag1 (an @str_size (an @str_get (an @gq (an @rletter_iff (an @rdigit_iff (an @c1' @c2'))))))) ?_
     refine(text_r hj hl hq).mono fun v K2 ⟨hx2,hv⟩=> ?_
     subst hv
     rw[hdr 1,hl']
     have hob2:=(hx2.ob _ hAn).trans hAo
     cases hb:strT (hd l) (l.drop 1) with
     | none=>
       repeat' (first | (simp (disch:=first | omega | (decide +kernel)) only[↓RD,RU,↓putF_get,↓putF_none,↓evF_t,set_get,lop,wop,resL,resV,tupleV,isVal,isCell,Value.cells,↓reduceIte,Nat.reduceEqDiff,Nat.reduceAdd,ρ7,ρ8,ρ15,ρ17,ρ18,ρ21,ρ22,ρ23,Kd.isRo,ρ25,ρ26,f4,hob2,pieC,Option.map_none]) | (with_reducible first | refine condK_dec (fun _=> ?_) fun _=> ?_ | refine grd_dec (fun _=> ?_) fun _=> ?_ | refine egrd_dec (fun _=> ?_) fun _=> ?_))
       all_goals exact(hxA.trans hx2).set (Nat.le_refl _) _
     | some x=>
       repeat' (first | (simp (disch:=first | omega | (decide +kernel)) only[↓RD,RU,↓putF_get,↓putF_none,↓evF_t,set_get,lop,wop,resL,resV,tupleV,isVal,isCell,Value.cells,ρ4,↓reduceIte,Nat.reduceEqDiff,Nat.reduceAdd,ρ7,ρ8,ρ15,ρ17,ρ18,ρ21,ρ22,ρ23,Kd.isRo,ρ25,ρ26,f4,hob2,pieC]) | (with_reducible first | refine condK_dec (fun _=> ?_) fun _=> ?_ | refine grd_dec (fun _=> ?_) fun _=> ?_ | refine egrd_dec (fun _=> ?_) fun _=> ?_))
       all_goals exact(hxA.trans hx2).set (Nat.le_refl _) _
   have c3' : ¬hd l=39:=fun g=>c3 (.inl g)
   have c3'' : ¬hd l=34:=fun g=>c3 (.inr g)
   have etok:tokT l=(symN l).map fun n=>(9,l.take n,n):=by unfold tokT;rw[if_neg c1,if_neg c2,if_neg c3]
   rw[etok]
   refine rn (an @hag1 (an @str_size (an @str_get (an @gq (an @rletter_iff (an @rdigit_iff (an @c1' (an @c2' (an @c3' @c3''))))))))) ?_
   have hext : ∀n,(t.drop j).take (j+n-j)=l.take n:=fun n=>by rw[hl',show j+n-j=n by omega]
   refine loop_w (fun n fr K2=>SyJ K1 l n (fr 7) K2) (n:=3) ⟨by omega,by(refine rn0 ?_;all_goals rfl),rfl,fun h=>absurd h (by omega),fun h=>absurd h (by omega),fun h=>absurd h (by omega)⟩ ?_
   rintro n fr K2 ⟨hn3,f7,rfl,s3,s2,s1⟩ hag
   obtain rfl | rfl | rfl | rfl:n=3∨n=2∨n=1∨n=0:=by omega
   ·by_cases hin:3≤l.length
    ·have hs:=sym3 hin
     by_cases hm:l.take 3∈S3
     ·rw[decide_eq_true hm] at hs
      have etok2:symN l=some 3:=by
       unfold symN
       rw[if_pos hm]
      rw[etok2]
      repeat' (first | (simp (disch:=first | omega | (decide +kernel)) only[↓RD,RU,↓putF_get,↓putF_none,↓evF_t,↓evF_c,set_get,getD_zero,getD_succ,pop,lop,wop,resL,resV,tupleV,isVal,isCell,Value.cells,ρ0,ρ1,ρ4,↓reduceIte,Nat.reduceEqDiff,Nat.reduceAdd,reduceCtorEq,ρ7,ρ8,bnd,ρ15,ρ17,ρ18,ρ19,ρ20,ρ21,ρ22,ρ23,Kd.isRo,ρ25,ρ26,bldV,Nat.reduceLeDiff,ρ29,hag,hag1,f4,f7,str_size,str_ext,hext,isSymbol_iff,hs,hAo,pieC]) | (with_reducible first | refine condK_dec (fun _=> ?_) fun _=> ?_ | refine grd_dec (fun _=> ?_) fun _=> ?_ | refine egrd_dec (fun _=> ?_) fun _=> ?_))
      all_goals exact⟨hxA.set (Nat.le_refl _) _,rfl⟩
     ·rw[decide_eq_false hm] at hs
      refine rn (an @hag (an @hag1 (an @f4 (an @f7 (an @str_size (an @str_get (an @str_ext (an @hext (an @isSymbol_iff (an @hs @hAo)))))))))) ?_
      all_goals exact⟨2,by omega,by omega,rfl,rfl,fun _=>hm,fun h=>absurd h (by omega),fun h=>absurd h (by omega)⟩
    ·have hm : ¬(l.take 3∈S3):=fun g=>hin (by have:=s3_len g;simp at this;omega)
     refine rn (an @hag (an @hag1 (an @f4 (an @f7 (an @str_size (an @str_get (an @str_ext (an @hext (an @isSymbol_iff @hAo))))))))) ?_
     all_goals exact⟨2,by omega,by omega,rfl,rfl,fun _=>hm,fun h=>absurd h (by omega),fun h=>absurd h (by omega)⟩
   ·by_cases hin:2≤l.length
    ·have hs:=sym2 hin
     by_cases hm:l.take 2∈S2
     ·rw[decide_eq_true hm] at hs
      have etok2:symN l=some 2:=by
       unfold symN
       rw[if_neg (s3 (by omega)),if_pos hm]
      rw[etok2]
      repeat' (first | (simp (disch:=first | omega | (decide +kernel)) only[↓RD,RU,↓putF_get,↓putF_none,↓evF_t,↓evF_c,set_get,getD_zero,getD_succ,pop,lop,wop,resL,resV,tupleV,isVal,isCell,Value.cells,ρ0,ρ1,ρ4,↓reduceIte,Nat.reduceEqDiff,Nat.reduceAdd,reduceCtorEq,ρ7,ρ8,bnd,ρ15,ρ17,ρ18,ρ19,ρ20,ρ21,ρ22,ρ23,Kd.isRo,ρ25,ρ26,bldV,Nat.reduceLeDiff,ρ29,hag,hag1,f4,f7,str_size,str_ext,hext,isSymbol_iff,hs,hAo,pieC]) | (with_reducible first | refine condK_dec (fun _=> ?_) fun _=> ?_ | refine grd_dec (fun _=> ?_) fun _=> ?_ | refine egrd_dec (fun _=> ?_) fun _=> ?_))
      all_goals exact⟨hxA.set (Nat.le_refl _) _,rfl⟩
     ·rw[decide_eq_false hm] at hs
      refine rn (an @hag (an @hag1 (an @f4 (an @f7 (an @str_size (an @str_get (an @str_ext (an @hext (an @isSymbol_iff (an @hs @hAo)))))))))) ?_
      all_goals exact⟨1,by omega,by omega,rfl,rfl,fun _=>s3 (by omega),fun _=>hm,fun h=>absurd h (by omega)⟩
    ·have hm : ¬(l.take 2∈S2):=fun g=>hin (by have:=s2_len g;simp at this;omega)
     refine rn (an @hag (an @hag1 (an @f4 (an @f7 (an @str_size (an @str_get (an @str_ext (an @hext (an @isSymbol_iff @hAo))))))))) ?_
     all_goals exact⟨1,by omega,by omega,rfl,rfl,fun _=>s3 (by omega),fun _=>hm,fun h=>absurd h (by omega)⟩
   ·by_cases hin:1≤l.length
    ·have hs:=sym1 hin
     by_cases hm:hd l∈S1.map UInt8.toNat
     ·rw[decide_eq_true hm] at hs
      have etok2:symN l=some 1:=by
       unfold symN
       rw[if_neg (s3 (by omega)),if_neg (s2 (by omega)),if_pos hm]
      rw[etok2]
      repeat' (first | (simp (disch:=first | omega | (decide +kernel)) only[↓RD,RU,↓putF_get,↓putF_none,↓evF_t,↓evF_c,set_get,getD_zero,getD_succ,pop,lop,wop,resL,resV,tupleV,isVal,isCell,Value.cells,ρ0,ρ1,ρ4,↓reduceIte,Nat.reduceEqDiff,Nat.reduceAdd,reduceCtorEq,ρ7,ρ8,bnd,ρ15,ρ17,ρ18,ρ19,ρ20,ρ21,ρ22,ρ23,Kd.isRo,ρ25,ρ26,bldV,Nat.reduceLeDiff,ρ29,hag,hag1,f4,f7,str_size,str_ext,hext,isSymbol_iff,hs,hAo,pieC]) | (with_reducible first | refine condK_dec (fun _=> ?_) fun _=> ?_ | refine grd_dec (fun _=> ?_) fun _=> ?_ | refine egrd_dec (fun _=> ?_) fun _=> ?_))
      all_goals exact⟨hxA.set (Nat.le_refl _) _,rfl⟩
     ·rw[decide_eq_false hm] at hs
      refine rn (an @hag (an @hag1 (an @f4 (an @f7 (an @str_size (an @str_get (an @str_ext (an @hext (an @isSymbol_iff (an @hs @hAo)))))))))) ?_
      all_goals exact⟨0,by omega,by omega,rfl,rfl,fun _=>s3 (by omega),fun _=>s2 (by omega),fun _=>hm⟩
    ·have hm : ¬(hd l∈S1.map UInt8.toNat):=fun g=>hin (by omega)
     refine rn (an @hag (an @hag1 (an @f4 (an @f7 (an @str_size (an @str_get (an @str_ext (an @hext (an @isSymbol_iff @hAo))))))))) ?_
     all_goals first | exact⟨0,by omega,by omega,rfl,rfl,fun _=>s3 (by omega),fun _=>s2 (by omega),fun _=>hm⟩ | (exfalso;omega)
   ·have etok2:symN l=none:=by
     unfold symN
     rw[if_neg (s3 (by omega)),if_neg (s2 (by omega)),if_neg (s1 (by omega))]
    rw[etok2]
    repeat' (first | (simp (disch:=first | omega | (decide +kernel)) only[↓RD,RU,↓putF_get,↓putF_none,↓evF_t,↓evF_c,set_get,pop,lop,wop,resL,resV,tupleV,isVal,isCell,Value.cells,ρ0,ρ1,ρ4,↓reduceIte,Nat.reduceEqDiff,Nat.reduceAdd,ρ7,ρ8,ρ15,ρ17,ρ18,ρ19,ρ20,ρ21,ρ22,ρ23,Kd.isRo,ρ25,ρ26,bldV,Nat.reduceLeDiff,hag,f4,f7,hAo,pieC]) | (with_reducible first | refine condK_dec (fun _=> ?_) fun _=> ?_ | refine grd_dec (fun _=> ?_) fun _=> ?_ | refine egrd_dec (fun _=> ?_) fun _=> ?_))
    all_goals exact⟨hxA.set (Nat.le_refl _) _,rfl⟩
end Can
end Go.Proofs.YticlaccbodpkeaaGreatDoor
end
section
namespace Go.Proofs.YticlaccbodpkeaaGreatDoor
namespace Can
open Go Go.RowKit
set_option linter.unusedSimpArgs false
set_option linter.unusedVariables false
set_option maxRecDepth 4000
def strC (r:List UInt8):List Value:= [.string (str r)]
theorem strC_ok : ∀r,(strC r).length=1∧(strC r).all isCell=true:=fun _=>⟨rfl,rfl⟩
def LnJ (A:CH)(src:List UInt8)(n:Nat)(v3 v4 v5:Value)(K:CH):Prop:=∃(i fm:Nat) (acc:List (List UInt8)),n=src.length+1-i∧i≤src.length+1∧fm≤i∧v5= .int .i64 (i:Nat)∧v4= .int .i64 (fm:Nat)∧Grw A 9 1 strC K v3 acc∧HExt A K∧acc.length≤i∧
 (i≤src.length→(∀x∈(src.drop fm).take (i-fm),x.toNat≠10)∧splitN src=acc++splitN (src.drop fm))∧(i=src.length+1→splitN src=acc)
theorem lines_r{A:CH}{src:List UInt8}(hl:src.length≤20000):WpF (tblG Tryz.prog LG GG) 40 [.string (str src)] A fun v K=>HExt A K∧Grw A 9 1 strC K v (splitN src):=by
 refine wpF_rG (by rfl) (by kernel_rfl) ?_;(conv in (rF _ _).body=>reduce);(conv in (rF _ _).res=>reduce)
 refine rn0 ?_
 refine loop_w (fun n fr K=>LnJ A src n (fr 3) (fr 4) (fr 5) K) (n:=src.length+1) ⟨0,0,[],rfl,by omega,by omega,by(refine rn0 ?_;all_goals rfl),by(refine rn0 ?_;all_goals rfl),by(refine rn0 ?_;all_goals exact .inl ⟨rfl,rfl⟩),HExt.refl _,by simp,fun _=>⟨by simp,rfl⟩,fun h=>by omega⟩ ?_
 rintro n fr K ⟨i,fm,acc,rfl,hi,hfi,f5,f4,hG,hx,hac,hR,hE⟩ hag
 obtain⟨v3,f3⟩ : ∃v,fr 3=v:=⟨_,rfl⟩
 rw[f3] at hG
 by_cases hil:i<src.length
 ·have g0:=get_some hil
  obtain⟨h1,h2⟩:=hR (by omega)
  have hrow:src.drop fm=(src.drop fm).take (i-fm)++src.drop i:=by
   have:(src.drop fm).drop (i-fm)=src.drop i:=by rw[List.drop_drop];congr 1;omega
   rw[←this,List.take_append_drop]
  by_cases c1:hd (src.drop i)=10
  ·rw[c1] at g0
   have hu:src.drop i=10::src.drop (i+1):=by
    rw[List.drop_eq_getElem_cons hil] at c1⊢
    have:src[i]=10:=UInt8.toNat_inj.1 c1
    rw[this]
   have h3:splitN src=(acc++ [(src.drop fm).take (i-fm)])++splitN (src.drop (i+1)):=by
    rw[h2]
    conv=>lhs;rw[hrow,hu]
    rw[splitN_row (.inr ⟨_,rfl⟩) h1]
    simp
   refine rn (an @hag (an @f3 (an @f4 (an @f5 (an @g0 (an @str_size (an @str_get @str_ext))))))) ?_
   refine optW_app strC_ok (ys:= [(src.drop fm).take (i-fm)]) (hG.ext (by(repeat (first | assumption | exact HExt.refl _ | (refine HExt.set ?_ (by first | omega | (simp only[new_nx,set_nx];omega)) _) | (refine HExt.new ?_ _))))) (hx.trans (by(repeat (first | assumption | exact HExt.refl _ | (refine HExt.set ?_ (by first | omega | (simp only[new_nx,set_nx];omega)) _) | (refine HExt.new ?_ _))))) (by simp;omega) (by simp;omega) rfl rfl fun v' K4 j1 j2 j3 j4=> ?_
   refine rn @f5 ?_
   all_goals exact⟨src.length+1-(i+1),by omega,i+1,i+1,_,rfl,by omega,by omega,rfl,rfl,j1,j2,by simp;omega,fun _=>⟨by simp,h3⟩,fun h=>by omega⟩
  ·have h4 : ∀x∈(src.drop fm).take (i+1-fm),x.toNat≠10:=by
    rw[show i+1-fm=(i-fm)+1 by omega,List.take_succ_eq_append_getElem (by simp;omega)]
    intro x hx
    rcases List.mem_append.1 hx with hx | hx
    ·exact h1 x hx
    ·simp only[List.mem_singleton] at hx
     subst hx
     rw[hd_drop hil] at c1
     simp only[List.getElem_drop]
     have:fm+(i-fm)=i:=by omega
     simp only[this]
     exact c1
   refine rn (an @hag (an @f3 (an @f4 (an @f5 (an @g0 (an @str_size (an @str_get @str_ext))))))) ?_
   all_goals exact⟨src.length+1-(i+1),by omega,i+1,fm,acc,rfl,by omega,by omega,rfl,rfl,hG,hx,by omega,fun _=>⟨h4,h2⟩,fun h=>by omega⟩
 ·by_cases hie:i=src.length
  ·obtain⟨h1,h2⟩:=hR (by omega)
   have hrow:src.drop fm=(src.drop fm).take (i-fm)++ []:=by
    rw[List.append_nil,List.take_of_length_le (by simp;omega)]
   have h3:splitN src=acc++ [(src.drop fm).take (i-fm)]:=by
    rw[h2]
    conv=>lhs;rw[hrow]
    rw[splitN_row (.inl rfl) h1]
   subst hie
   refine rn (an @hag (an @f3 (an @f4 (an @f5 (an @str_size (an @str_get @str_ext)))))) ?_
   refine optW_app strC_ok (ys:= [(src.drop fm).take (src.length-fm)]) (hG.ext (by(repeat (first | assumption | exact HExt.refl _ | (refine HExt.set ?_ (by first | omega | (simp only[new_nx,set_nx];omega)) _) | (refine HExt.new ?_ _))))) (hx.trans (by(repeat (first | assumption | exact HExt.refl _ | (refine HExt.set ?_ (by first | omega | (simp only[new_nx,set_nx];omega)) _) | (refine HExt.new ?_ _))))) (by simp;omega) (by simp;omega) rfl rfl fun v' K4 j1 j2 j3 j4=> ?_
   refine rn @f5 ?_
   all_goals exact⟨0,by omega,src.length+1,src.length+1,_,by omega,by omega,by omega,rfl,rfl,j1,j2,by simp;omega,fun h=>by omega,fun _=>h3⟩
  ·have h3:=hE (by omega)
   rw[h3]
   refine rn (an @hag (an @f3 (an @f4 (an @f5 @str_size)))) ?_
   all_goals exact⟨hx,hG⟩
end Can
end Go.Proofs.YticlaccbodpkeaaGreatDoor
end
section
namespace Go.Proofs.YticlaccbodpkeaaGreatDoor
namespace Can
open Go Go.RowKit
set_option linter.unusedSimpArgs false
set_option linter.unusedVariables false
def DcAt (A K:CH)(vo vt:Value)(opn:List Nat)(out:List Tok):Prop:=OpnAt A K vo opn∧Grw A 85 3 tokC K vt out∧HExt A K
theorem OpnAt.mv{A K K':CH}{v:Value}{ns:List Nat}(h:OpnAt A K v ns)(hn:K.nx≤K'.nx)(hk : ∀b o n c,v= .slice (some ⟨b,o,none⟩) n c→K'.ob b=K.ob b):OpnAt A K' v ns:=by
 obtain⟨b,kd,c,os,h1,h2,h3,h4,h5⟩:=h
 exact⟨b,kd,c,os,h1,h2,Nat.lt_of_lt_of_le h3 hn,(hk _ _ _ _ h1).trans h4,h5⟩
theorem DcAt.mv{A K K':CH}{vo vt:Value}{opn:List Nat}{out:List Tok}(h:DcAt A K vo vt opn out)(hx:HExt K K'):DcAt A K' vo vt opn out:=by
 obtain⟨h1,h2,h3⟩:=h
 refine⟨h1.mv hx.nx fun b o n c e=> ?_,h2.ext hx,h3.trans hx⟩
 obtain⟨b',kd,c',os,e',g1,g2,_⟩:=h1
 rw[e] at e'
 cases e'
 exact hx.ob b g2
theorem DcAt.put{A K:CH}{vo vt:Value}{opn:List Nat}{out:List Tok}(h:DcAt A K vo vt opn out)(t:Tok)(hb:out.length<1000000){us:List Value}(hu:us=tokC t){Q:Value→CH→Prop}(k : ∀vt' K',DcAt A K' vo vt' opn (out++ [t])→K.nx≤K'.nx→(∀l e kd cs,l<K.nx→K.ob l= .cells cs e kd→e≠85→K'.ob l=K.ob l)→Q vt' K'):optW (appV 85 3 32 vt us 1 K) Q:=by
 obtain⟨h1,h2,h3⟩:=h
 have hne : ∀l cs e kd,K.ob l= .cells cs e kd→e≠85→∀o n c,vt≠ .slice (some ⟨l,o,none⟩) n c:=fun l cs e kd hl he o n c hv=>by
  rcases h2 with ⟨_,g⟩ | ⟨b,kd',e',g1,g2,g3,g4⟩
  ·rw[g] at hv;cases hv
  ·rw[e'] at hv;cases hv
   rw[hl] at g3
   exact he (CObj.cells.inj g3).2.1
 refine optW_app tokC_ok (ys:= [t]) h2 h3 (by simp;omega) (by simp;omega) (by rw[hu];simp) rfl fun vt' K' j1 j2 j3 j4=> ?_
 refine k vt' K' ⟨h1.mv j3 fun b o n c e=> ?_,j1,j2⟩ j3 fun l e kd cs hl hc he=>j4 l hl (hne l cs e kd hc he)
 obtain⟨b',kd,c',os,e',g1,g2,g3,_⟩:=h1
 rw[e] at e'
 cases e'
 exact j4 b g2 (hne b os _ kd g3 (by decide))
theorem DcAt.push{A K:CH}{vo vt:Value}{opn:List Nat}{out:List Tok}(h:DcAt A K vo vt opn out)(n:Nat)(hb:opn.length<1000000){Q:Value→CH→Prop}(k : ∀vo' K',DcAt A K' vo' vt (opn++ [n]) out→K.nx≤K'.nx→(∀l e kd cs,l<K.nx→K.ob l= .cells cs e kd→e≠3→K'.ob l=K.ob l)→Q vo' K'):optW (appV 3 1 8 vo [.int .i64 n] 1 K) Q:=by
 obtain⟨h1,h2,h3⟩:=h
 have hne : ∀l cs e kd,K.ob l= .cells cs e kd→e≠3→∀o n c,vo≠ .slice (some ⟨l,o,none⟩) n c:=fun l cs e kd hl he o n c hv=>by
  obtain⟨b',kd',c',os,e',g1,g2,g3,_⟩:=h1
  rw[e'] at hv;cases hv
  rw[hl] at g3
  exact he (CObj.cells.inj g3).2.1
 refine opn_app h1 h3 hb fun vo' K' j1 j2 j3 j4=> ?_
 refine k vo' K' ⟨j1,?_,j2⟩ j3 fun l e kd cs hl hc he=>j4 l hl (hne l cs e kd hc he)
 rcases h2 with g | ⟨b,kd,e,g1,g2,g3,g4⟩
 ·exact .inl g
 ·exact .inr ⟨b,kd,e,g1,Nat.lt_of_lt_of_le g2 j3,(j4 b g2 (hne b _ _ kd g3 (by decide))).trans g3,g4⟩
theorem DcAt.last{A K:CH}{vo vt:Value}{opn:List Nat}{out:List Tok}(h:DcAt A K vo vt opn out) : ∃b kd c os,vo= .slice (some ⟨b,0,none⟩) opn.length c∧K.ob b= .cells os 3 kd∧opn.length≤c∧opn.length≤os.length∧∀i,i<opn.length→os[i]? = some (.int .i64 (opn.getD i 0:Nat)):=by
 obtain⟨⟨b,kd,c,os,h1,h2,h3,h4,h5,h6,h7,h8,h9⟩,_⟩:=h
 exact⟨b,kd,c,os,h1,h4,h6,h8,h9⟩
theorem DcAt.pop{A K:CH}{vt:Value}{b c m:Nat}{opn:List Nat}{out:List Tok}(h:DcAt A K (.slice (some ⟨b,0,none⟩) opn.length c) vt opn out)(hm:m≤opn.length):DcAt A K (.slice (some ⟨b,0,none⟩) m c) vt (opn.take m) out:=by
 obtain⟨⟨b',kd,c',os,h1,h2,h3,h4,h5,h6,h7,h8,h9⟩,g⟩:=h
 cases h1
 have hl:(opn.take m).length=m:=by simp;omega
 refine⟨⟨b,kd,c,os,by rw[hl],h2,h3,h4,h5,by omega,h7,by omega,fun i hi=> ?_⟩,g⟩
 rw[hl] at hi
 rw[h9 i (by omega)]
 congr 3
 simp only[List.getD_eq_getElem?_getD]
 rw[List.getElem?_take_of_lt hi]
theorem lines_iff{A:CH}{src:List UInt8}(hl:src.length≤20000) : ∃v K,HExt A K∧Grw A 9 1 strC K v (splitN src)∧∀Q:Value→CH→Prop,WpF (tblG Tryz.prog LG GG) 40 [.string ⟨⟨src⟩⟩] A Q↔Q v K:=by
 obtain⟨n,v,K,h1,h2,h3⟩:=lines_r (A:=A) hl
 exact⟨v,K,h2,h3,fun Q=>wpF_iff ⟨n,v,K,h1,rfl,rfl⟩⟩
structure RwK(R:List (List UInt8))(B i d:Nat)(st:List Nat)(out:List Tok):Prop where
 z:st.getLast? = some 0
 il:i≤R.length
 rows:rowsT 1 R 0 [0]=mp2 out (rowsT (i+1) (R.drop i) d st)
 bo:out.length+st.length+((R.drop i).map List.length).sum+3*(R.length-i)≤B
 bd:d+((R.drop i).map List.length).sum≤B
theorem RwK.init{R:List (List UInt8)}{B:Nat}(hB:1+(R.map List.length).sum+3*R.length≤B):RwK R B 0 0 [0] []:=by
 refine⟨rfl,Nat.zero_le _,?_,by simp only[List.drop_zero,List.length_nil,List.length_singleton];omega,by simp only[List.drop_zero];omega⟩
 simp only[List.drop_zero]
 cases rowsT 1 R 0 [0]<;>rfl
theorem RwK.step{R:List (List UInt8)}{B i d:Nat}{st:List Nat}{out:List Tok}(h:RwK R B i d st out)(hi:i<R.length){x:List Tok}{d':Nat}{st':List Nat}(hr:rowT (i+1) R[i] d st= .ok (x,d',st')):RwK R B (i+1) d' st' (out++x):=by
 obtain⟨g1,g2,g3⟩:=rowT_ok hr h.z
 have hbo:=h.bo
 have hbd:=h.bd
 have e:R.drop i=R[i]::R.drop (i+1):=List.drop_eq_getElem_cons hi
 rw[e] at hbo hbd
 simp only[List.map_cons,List.sum_cons] at hbo hbd
 refine⟨g3,hi,?_,by simp only[List.length_append];omega,by omega⟩
 rw[h.rows,e,rowsT_cons,hr,←mp2_mp2]
theorem RwK.err{R:List (List UInt8)}{B i d:Nat}{st:List Nat}{out:List Tok}(h:RwK R B i d st out)(hi:i<R.length){e:Nat}(hr:rowT (i+1) R[i] d st= .error e):rowsT 1 R 0 [0]= .error (i+1,e):=by
 rw[h.rows,List.drop_eq_getElem_cons hi,rowsT_cons,hr];rfl
theorem RwK.fin{R:List (List UInt8)}{B d:Nat}{st:List Nat}{out:List Tok}(h:RwK R B R.length d st out):rowsT 1 R 0 [0]= .ok (out,st):=by
 rw[h.rows,List.drop_eq_nil_of_le (Nat.le_refl _)]
 simp[rowsT,mp2]
end Can
end Go.Proofs.YticlaccbodpkeaaGreatDoor
end
section
namespace Go.Proofs.YticlaccbodpkeaaGreatDoor
namespace Can
open Go Go.RowKit
set_option linter.unusedSimpArgs false
set_option linter.unusedVariables false
set_option maxRecDepth 4000
theorem flat_str : ∀ {R:List (List UInt8)},R.flatMap strC=R.map fun r=>Value.string (str r)
 | []=>rfl
 | a::r=>by rw[List.flatMap_cons,flat_str];rfl
theorem splitN_no : ∀ {src:List UInt8},∀t∈splitN src,∀x∈t,x.toNat≠10
 | [],t,h,x,hx=>by simp[splitN] at h;subst h;cases hx
 | c::r,t,h,x,hx=>by
   have ih:=fun t h=>splitN_no (src:=r) t h
   simp only[splitN] at h
   split at h
   ·rcases List.mem_cons.1 h with rfl | h
    ·cases hx
    ·exact ih t h x hx
   ·rename_i hc
    split at h
    ·rename_i a b hq
     rcases List.mem_cons.1 h with rfl | h
     ·rcases List.mem_cons.1 hx with rfl | hx
      ·exact hc
      ·exact ih a (by rw[hq];simp) x hx
     ·exact ih t (by rw[hq];simp[h]) x hx
    ·simp at h;subst h;simp at hx;subst hx;exact hc
theorem zz3{a b c:Value}:setCells (zeros [.int .i64 0, .int .i64 0, .string ⟨⟨[]⟩⟩] 3) (0*3) [a,b,c]= [a,b,c]:=rfl
theorem tt3{a b c:Value}:List.take 3 [a,b,c]= [a,b,c]:=rfl
theorem ll3{a b c:Value} : [a,b,c].length=3:=rfl
theorem DcAt.pop1{A K:CH}{vt:Value}{b c m:Nat}{st:List Nat}{out:List Tok}(h:DcAt A K (.slice (some ⟨b,0,none⟩) (st.length-m) c) vt (st.drop m).reverse out)(hm:m<st.length):DcAt A K (.slice (some ⟨b,0,none⟩) (st.length-(m+1)) c) vt (st.drop (m+1)).reverse out:=by
 have e:(st.drop m).reverse.length=st.length-m:=by simp
 rw[←e] at h
 have h2:=h.pop (m:=st.length-(m+1)) (by simp;omega)
 rw[List.take_reverse,List.length_drop,List.drop_drop] at h2
 have e2:m+(st.length-m-(st.length-(m+1)))=m+1:=by omega
 rw[e2] at h2
 exact h2
theorem DcAt.top{A K:CH}{vt:Value}{b c m:Nat}{st:List Nat}{out:List Tok}(h:DcAt A K (.slice (some ⟨b,0,none⟩) (st.length-m) c) vt (st.drop m).reverse out)(hm:m<st.length) : ∃kd os,K.ob b= .cells os 3 kd∧st.length-m≤c∧st.length-m≤os.length∧os[st.length-m-1]? = some (.int .i64 (st.getD m 0:Nat)):=by
 have el:(st.drop m).reverse.length=st.length-m:=by simp
 rw[←el] at h
 obtain⟨b',kd,c',os,e,h1,h2,h3,h4⟩:=h.last
 cases e
 rw[el] at h2 h3 h4
 refine⟨kd,os,h1,h2,h3,(h4 _ (by omega)).trans ?_⟩
 congr 3
 simp only[List.getD_eq_getElem?_getD]
 rw[List.getElem?_reverse (by simp;omega),List.length_drop,List.getElem?_drop]
 congr 2;omega
theorem sl_pop{b n c j:Nat}(h2:j≤c)(h3:0<j):sliceV 1 (.slice (some ⟨b,0,none⟩) n c) ((0:Nat):Int) (j:Int) (c:Int) false=some (.slice (some ⟨b,0,none⟩) j c):=by
 obtain⟨i,rfl⟩ : ∃i,j=i+1:=⟨j-1,by omega⟩
 exact sl_open h2
def PoJ (A:CH)(b c k line:Nat)(st:List Nat)(out:List Tok)(q:Nat)(v6 v8:Value)(K:CH):Prop:=∃m,q=k-m∧m≤k∧v6= .slice (some ⟨b,0,none⟩) (st.length-m) c∧DcAt A K (.slice (some ⟨b,0,none⟩) (st.length-m) c) v8 (st.drop m).reverse (out++List.replicate m ⟨3,line,[]⟩)
theorem PoJ.init{A K:CH}{b c k line:Nat}{st:List Nat}{out:List Tok}{vt:Value}(h:DcAt A K (.slice (some ⟨b,0,none⟩) st.length c) vt st.reverse out):PoJ A b c k line st out k (.slice (some ⟨b,0,none⟩) st.length c) vt K:=⟨0,rfl,Nat.zero_le _,rfl,by simpa using h⟩
def dpA (d k:Nat)(x:List UInt8):Nat:=if k=9∧x∈ [[UInt8.ofNat 40],[UInt8.ofNat 91],[UInt8.ofNat 123]] then d+1 else d
def dpB (d k:Nat)(x:List UInt8):Nat:=if k=9∧x∈ [[UInt8.ofNat 41],[UInt8.ofNat 93],[UInt8.ofNat 125]]∧0<d then d-1 else d
theorem dp_eq{d k:Nat}{x:List UInt8}:dpB (dpA d k x) k x=depT d k x:=by
 have hne:x∈ [[UInt8.ofNat 40],[UInt8.ofNat 91],[UInt8.ofNat 123]]→x ∉ [[UInt8.ofNat 41],[UInt8.ofNat 93],[UInt8.ofNat 125]]:=fun h=>by revert x;decide
 show _=if k=9∧x∈ [[UInt8.ofNat 40],[UInt8.ofNat 91],[UInt8.ofNat 123]] then d+1 else if k=9∧x∈ [[UInt8.ofNat 41],[UInt8.ofNat 93],[UInt8.ofNat 125]]∧0<d then d-1 else d
 unfold dpB dpA
 by_cases h:k=9∧x∈ [[UInt8.ofNat 40],[UInt8.ofNat 91],[UInt8.ofNat 123]]
 ·rw[if_pos h,if_pos h,if_neg (fun g=>hne h.2 g.2.1)]
 ·rw[if_neg h,if_neg h]
theorem mem3{x a b c:List UInt8}:x∈ [a,b,c]↔(decide (x=a)||decide (x=b)||decide (x=c))=true:=by simp[or_assoc]
def PcJ (A:CH)(line d:Nat)(t:List UInt8)(op:List Nat)(o2:List Tok)(vo:Value)(q:Nat)(v6 v7 v8 v11:Value)(K:CH):Prop:=∃(j dd:Nat) (ts:List Tok),RwB ⟨0,line,d,[],[],0,0⟩ t j q dd ts∧v11= .int .i64 (j+blkN (t.drop j):Nat)∧v7= .int .i64 (dd:Nat)∧v6=vo∧DcAt A K vo v8 op.reverse (o2++ts)
theorem RwB.init0{line d:Nat}{t:List UInt8}:RwB ⟨0,line,d,[],[],0,0⟩ t 0 (t.length+1) d []:=by
 refine⟨?_,by omega,by omega,by omega,by show d≤d+0;omega,by simp⟩
 show toks line (t.length+1) t d=_
 rw[List.drop_zero]
 cases toks line (t.length+1) t d<;>simp
def OtJ (A:CH)(vo:Value)(opn:List Nat)(out:List Tok)(rows m n:Nat)(v8 v13:Value)(K:CH):Prop:=∃k:Nat,n=m-k∧k≤m∧v13= .int .i64 (1+k:Nat)∧DcAt A K vo v8 opn (out++List.replicate k ⟨3,rows,[]⟩)
def OuJ (A:CH)(R:List (List UInt8))(B n:Nat)(v5 v6 v7 v8 v9:Value)(K:CH):Prop:=∃(i d:Nat) (st:List Nat) (out:List Tok),n=R.length-i∧v9= .int .i64 (i:Nat)∧v7= .int .i64 (d:Nat)∧RwK R B i d st out∧DcAt A K v6 v8 st.reverse out∧HExt A K
set_option maxHeartbeats 2000000 in
theorem rlex_wp(H:CH){q:Option Addr}{c:Nat}{src:List UInt8}(h:SlAt 1 (CInt .u8) H q c (u8i src)) :
 WpF (tblG Tryz.prog LG GG) 22 [.slice q src.length c] H fun v K=>HExt H K∧LexOut H K v (lexT src):=by
 refine wpF_rG (by rfl) (by kernel_rfl) ?_;(conv in (rF _ _).body=>reduce);(conv in (rF _ _).res=>reduce)
 by_cases hl:20000<src.length
 ·have e:lexT src= .error (0,24):=by unfold lexT;rw[if_pos hl]
  rw[e]
  refine rn0 ?_
  all_goals exact⟨HExt.refl _,rfl⟩
 ·have hb:=b2s_ok h
  obtain⟨vl,K1,hx1,hG1,hli⟩:=lines_iff (A:=H) (src:=src) (by omega)
  repeat' (first | (simp (disch:=first | omega | (decide +kernel)) only[↓r_seq,↓r_block,↓seqK_n,↓r_reg,↓r_cond,↓condK_f,↓i_cons,↓itemK,↓o_p,↓o_l,↓o_a,↓o_call,↓putF_get,↓evF_t,↓evF_c,optV_some,optA_some,↓wpI_nil,↓wpR_skip,getD_zero,b_gtr,pop,aop,akV,isVal,Value.cells,List.map_cons,List.map_nil,Option.map_some,↓reduceIte,Int.reduceOfNat,reduceCtorEq,List.length_cons,List.length_nil,setc_0,List.drop_succ_cons,List.append_nil,List.drop_nil,List.size_toArray,List.toList_toArray,bldV,Nat.reduceLeDiff,Nat.le_refl,zeros_one,dec_f,Nat.mul_one,Nat.zero_add,and_true,lop_b2s,hb,hli]) | (with_reducible first | refine condK_dec (fun _=> ?_) fun _=> ?_ | refine grd_dec (fun _=> ?_) fun _=> ?_ | refine egrd_dec (fun _=> ?_) fun _=> ?_))
  have hx01:HExt H (K1.new (.cells [.int .i64 0] 3 .ex)):=hx1.new _
  have hsum:=splitN_sum (src:=src)
  obtain⟨R,hR⟩ : ∃R,splitN src=R:=⟨_,rfl⟩
  have hmem : ∀t∈R,t.length≤src.length:=fun t ht=>splitN_mem t (by rw[hR];exact ht)
  have hnl : ∀t∈R,∀x∈t,x.toNat≠10:=fun t ht=>splitN_no t (by rw[hR];exact ht)
  rw[hR] at hG1 hsum
  have hlt:lexT src=match rowsT 1 R 0 [0] with
   | .error e=> .error e
   | .ok (x,st)=> .ok (x++endT R.length st):=by unfold lexT;rw[if_neg hl,hR];cases rowsT 1 R 0 [0]<;>rfl
  obtain⟨A,hA⟩ : ∃A,K1.new (.cells [.int .i64 0] 3 .ex)=A:=⟨_,rfl⟩
  have hGA:Grw H 9 1 strC A vl R:=by rw[←hA];exact hG1.ext ((HExt.refl _).new _)
  obtain⟨B,hB⟩ : ∃B,1+(R.map List.length).sum+3*R.length=B:=⟨_,rfl⟩
  have hB':B≤80005:=by omega
  refine loop_w (fun n fr K=>OuJ K1 R B n (fr 5) (fr 6) (fr 7) (fr 8) (fr 9) K) (n:=R.length) ⟨0,0,[0],[],rfl,by(refine rn0 ?_;all_goals rfl),by(refine rn0 ?_;all_goals rfl),RwK.init (by omega),⟨?_,?_,?_⟩,?_⟩ ?_
  ·refine rn0 ?_
   all_goals exact⟨K1.nx, .ex,1,[.int .i64 0],rfl,Nat.le_refl _,Nat.lt_succ_self _,new_get.trans (if_pos rfl),rfl,by decide,by decide,by decide,fun i hi=>by
    have:i=0:=by simpa using hi
    subst this;rfl⟩
  ·refine rn0 ?_
   all_goals exact .inl ⟨rfl,rfl⟩
  ·exact(HExt.refl _).new _
  ·exact(HExt.refl _).new _
  rintro n fr K ⟨i,d,st,out,rfl,f9,f7,hW,hD,hxK⟩ hag
  obtain⟨vo,f6⟩ : ∃v,fr 6=v:=⟨_,rfl⟩
  obtain⟨vt,f8⟩ : ∃v,fr 8=v:=⟨_,rfl⟩
  rw[f6,f8] at hD
  have f5:fr 5=vl:=by exact rz @hag
  have hGK:=hG1.ext hxK
  have hbo:=hW.bo
  have hRlen : ∃qv cv,vl= .slice qv R.length cv:=by
   rcases hGA with ⟨e1,e2⟩ | ⟨b,kd,e2,_⟩
   ·exact⟨_,_,by rw[e2,e1];rfl⟩
   ·exact⟨_,_,e2⟩
  by_cases hil:i<R.length
  ·rcases hGK with ⟨e1,_⟩ | ⟨b,kd,rfl,g1,g2,g3,g4⟩
   ·rw[e1] at hil;cases hil
   have hgi:(R.flatMap strC)[i]? = some (.string (str R[i])):=by
    rw[flat_str,List.getElem?_map,List.getElem?_eq_getElem hil];rfl
   obtain⟨t,ht⟩ : ∃t,R[i]=t:=⟨_,rfl⟩
   rw[ht] at hgi
   have htl:=hmem t (by rw[←ht];exact List.getElem_mem hil)
   have hno : ∀x∈t,x.toNat≠10:=hnl t (by rw[←ht];exact List.getElem_mem hil)
   have hbk:=fun(K:CH) (j:Nat) (hj:j≤t.length) (Q:Value→CH→Prop)=> @blanks_iff K t j hj (by omega) hno Q
   have hbk0:=fun(K:CH) (Q:Value→CH→Prop)=>hbk K 0 (Nat.zero_le _) Q
   simp only[List.drop_zero,Nat.zero_add] at hbk0
   have hbk0' : ∀(K:CH) (Q:Value→CH→Prop),WpF (tblG Tryz.prog LG GG) 41 [.string ⟨⟨t⟩⟩, .int .i64 0] K Q↔Q (.int .i64 (blkN t:Nat)) K:=hbk0
   have hble:=blkN_len (t:=t)
   by_cases hbl:blkN t=t.length
   ·have hr:rowT (i+1) R[i] d st= .ok ([],d,st):=by rw[ht];unfold rowT;rw[if_pos (by omega)]
    have hW2:=hW.step hil hr
    rw[List.append_nil] at hW2
    refine rn (an @hag (an @f5 (an @f6 (an @f7 (an @f8 (an @f9 (an @g3 (an @hgi (an @hbk0' @str_size))))))))) ?_
    all_goals exact⟨R.length-(i+1),by omega,i+1,d,st,out,rfl,congrArg (Value.int .i64) (by omega),by first | exact f7 | rfl,hW2,by first | (rw[f6,f8];exact hD) | exact hD,hxK⟩
   ·refine seq_cut (fun fr' K'=>K'=K) (by exact rz (an @hag (an @f5 (an @f6 (an @f7 (an @f8 @f9)))))) ?_
    rintro fr1 K' rfl ha1
    refine r_seq.2 (r_block.2 ?_)
    refine seq_cut (fun fr' K''=>fr' 10= .string (str t)∧K''=K') (by exact rz (an @hag (an @ha1 (an @f5 (an @f6 (an @f7 (an @f8 (an @f9 (an @g3 @hgi))))))))) ?_
    rintro fr2 K'' ⟨f10,rfl⟩ ha2
    refine seq_cut (fun fr' K'=>fr' 11= .int .i64 (blkN t:Nat)∧K'=K'') (by exact rz (an @hag (an @ha1 (an @ha2 (an @f10 @hbk0'))))) ?_
    rintro fr3 K' ⟨f11,rfl⟩ ha3
    refine seq_cut (fun fr' K''=>K''=K') (by exact rz (an @hag (an @ha1 (an @ha2 (an @ha3 (an @f10 (an @f11 @str_size))))))) ?_
    rintro fr4 K'' rfl ha4
    have ha : ∀k,k=5∨k=6∨k=7∨k=8∨k=9→fr4 k=fr k:=fun k hk=>by
     rcases hk with rfl | rfl | rfl | rfl | rfl<;>(rw[ha4 _ (by decide +kernel),ha3 _ (by decide +kernel),ha2 _ (by decide +kernel),ha1 _ (by decide +kernel)])
    have b5:=(ha 5 (by omega)).trans f5
    have b6:=(ha 6 (by omega)).trans f6
    have b7:=(ha 7 (by omega)).trans f7
    have b8:=(ha 8 (by omega)).trans f8
    have b9:=(ha 9 (by omega)).trans f9
    have b10:fr4 10= .string (str t):=(ha4 10 (by decide +kernel)).trans ((ha3 10 (by decide +kernel)).trans f10)
    have b11:fr4 11= .int .i64 (blkN t:Nat):=(ha4 11 (by decide +kernel)).trans f11
    by_cases herr:d=0∧(indT (i+1) st (blkN t)).2.headD 0≠blkN t
    ·have hd0:=herr.1
     have hlt2 : ¬st.headD 0<blkN t:=fun g=>herr.2 (by unfold indT;rw[if_pos g];rfl)
     have hr:rowT (i+1) R[i] d st= .error 21:=by rw[ht];unfold rowT;rw[if_neg (by omega),if_pos herr]
     have hst0:0<st.length:=by
      have:=hW.z
      cases st with
      | nil=>cases this
      | cons a l=>simp
     have hrl:st.reverse.length=st.length:=by simp
     obtain⟨b2,kd2,c2,os2,rfl,q1,q2,q3,q4⟩:=hD.last
     have hg0:os2[st.length-1]? = some (.int .i64 (st.headD 0:Nat)):=by
      rw[q4 _ (by omega)]
      congr 3
      cases st with
      | nil=>cases hst0
      | cons a l=>simp[List.getD_eq_getElem?_getD]
     have hsub:((st.length:Nat):Int)-1=((st.length-1:Nat):Int):=by omega
     rw[hrl] at b6 hD q3
     obtain⟨k,hk1,hk2,hk3,hk4,hk5⟩:=tw_spec (n:=blkN t) hW.z
     have hind:indT (i+1) st (blkN t)=(List.replicate k ⟨3,i+1,[]⟩,st.drop k):=by unfold indT;rw[if_neg hlt2,hk1,hk5]
     have hhd:(st.drop k).headD 0=st.getD k 0:=by
      rw[List.drop_eq_getElem_cons hk2]
      simp[List.getD,List.getElem?_eq_getElem hk2]
     have hen : ¬blkN t=st.getD k 0:=fun g=>herr.2 (by rw[hind];show(st.drop k).headD 0=_;rw[hhd,g])
     repeat' (first | (simp (disch:=first | omega | (decide +kernel)) only[↓r_seq,↓r_block,↓seqK_n,↓r_reg,↓r_cond,↓condK_t,↓condK_f,↓i_cons,↓itemK,↓o_p,↓o_l,↓putF_get,↓evF_t,↓evF_c,optV_some,↓wpI_nil,↓wpR_skip,b_sub,b_eql,b_gtr,w_i64,pop,lop,↓reduceIte,Nat.reduceEqDiff,dec_t,dec_f,if_pos,Nat.mul_one,Nat.zero_add,Int.toNat_natCast,b7,b6,b11,hd0,q1,hg0,hsub]) | (with_reducible first | refine condK_dec (fun _=> ?_) fun _=> ?_ | refine grd_dec (fun _=> ?_) fun _=> ?_ | refine egrd_dec (fun _=> ?_) fun _=> ?_))
     refine loop_w (fun q fr K=>PoJ K1 b2 c2 k (i+1) st out q (fr 6) (fr 8) K) (n:=k) (by
      have:PoJ K1 b2 c2 k (i+1) st out k (.slice (some ⟨b2,0,none⟩) st.length c2) vt K'':= .init hD
      first | exact this | (refine rn (an @b6 (an @b8 @hrl)) ?_;all_goals exact this)) ?_
     rintro q fr9 K9 ⟨m,rfl,hm,u6,hDm⟩ hag9
     obtain⟨vt9,u8⟩ : ∃v,fr9 8=v:=⟨_,rfl⟩
     rw[u8] at hDm
     obtain⟨kd9,os9,s1,s2,s3,s4⟩:=hDm.top (by omega)
     have hsub9:((st.length-m:Nat):Int)-1=((st.length-m-1:Nat):Int):=by omega
     by_cases hmk:m<k
     ·have hgt:=hk3 m hmk
      have hsv:= @sl_pop b2 (st.length-m) c2 (st.length-m-1) (by omega) (by omega)
      have hok:=okSl_of (o:=0) (n:=st.length-m) (c:=c2) s1
      repeat' (first | (simp (disch:=first | omega | (decide +kernel)) only[↓r_seq,↓r_block,↓seqK_n,↓r_reg,↓r_cond,↓condK_t,↓i_cons,↓itemK,↓o_p,↓o_l,↓o_a,↓o_w,↓putF_get,↓evF_t,↓evF_c,new_get,optV_some,optA_some,↓wpI_nil,↓wpR_skip,b_add,b_sub,b_lss,w_i64,pop,lop,aop,akV,isVal,Value.cells,List.map_cons,List.map_nil,Option.map_some,↓reduceIte,Nat.reduceEqDiff,Nat.reduceAdd,reduceCtorEq,List.length_cons,List.length_nil,setc_0,setc_s,srcR_c,src_r,bnd,capV,Option.isSome_none,Option.isNone_none,Option.isSome_some,Bool.or_true,List.take_succ_cons,List.drop_succ_cons,List.drop_zero,List.cons_append,List.nil_append,List.take_nil,Bool.and_true,List.size_toArray,List.toList_toArray,bldV,Nat.reduceLeDiff,Nat.le_refl,dec_t,↓w_app,appS_some,if_pos,Nat.mul_one,Nat.one_mul,Nat.zero_add,Int.toNat_natCast,true_and,and_true,hag9,b9,b11,u6,u8,s1,s4,hsub9,hsv,hok,zz3]) | (with_reducible first | refine condK_dec (fun _=> ?_) fun _=> ?_ | refine grd_dec (fun _=> ?_) fun _=> ?_ | refine egrd_dec (fun _=> ?_) fun _=> ?_))
      refine((hDm.pop1 (by omega)).mv (by(repeat (first | assumption | exact HExt.refl _ | (refine HExt.set ?_ (by first | omega | (simp only[new_nx,set_nx];omega)) _) | (refine HExt.new ?_ _))))).put ⟨3,i+1,[]⟩ (by simp;omega) rfl fun vt5 K5 h5 hn5 hk5=> ?_
      refine rn @b9 ?_
      all_goals exact⟨k-(m+1),by omega,m+1,rfl,by omega,rfl,by
       have e:out++List.replicate (m+1) (⟨3,i+1,[]⟩:Tok)=out++List.replicate m ⟨3,i+1,[]⟩++ [⟨3,i+1,[]⟩]:=by rw[List.replicate_succ',List.append_assoc]
       rw[e];exact h5⟩
     ·have hmk':m=k:=by omega
      subst hmk'
      refine rn (an @hag9 (an @b9 (an @b11 (an @u6 (an @u8 (an @s1 (an @s4 (an @hsub9 @hen)))))))) ?_
      all_goals exact⟨hx1.trans hDm.2.2,by rw[hlt,hW.err hil hr];rfl⟩
    ·refine seq_cut (fun fr' K'=>DcAt K1 K' (fr' 6) (fr' 8) (if d=0 then (indT (i+1) st (blkN t)).2 else st).reverse (out++(if d=0 then (indT (i+1) st (blkN t)).1 else []))∧HExt K1 K') ?_ ?_
     ·by_cases hd0:d=0
      ·rw[if_pos hd0,if_pos hd0]
       have hst0:0<st.length:=by
        have:=hW.z
        cases st with
        | nil=>cases this
        | cons a l=>simp
       have hrl:st.reverse.length=st.length:=by simp
       obtain⟨b2,kd2,c2,os2,rfl,q1,q2,q3,q4⟩:=hD.last
       have hg0:os2[st.length-1]? = some (.int .i64 (st.headD 0:Nat)):=by
        rw[q4 _ (by omega)]
        congr 3
        cases st with
        | nil=>cases hst0
        | cons a l=>simp[List.getD_eq_getElem?_getD]
       have hsub:((st.length:Nat):Int)-1=((st.length-1:Nat):Int):=by omega
       rw[hrl] at b6 hD q3
       by_cases hlt2:st.headD 0<blkN t
       ·have hind:indT (i+1) st (blkN t)=([⟨2,i+1,[]⟩],blkN t::st):=by unfold indT;rw[if_pos hlt2]
        repeat' (first | (simp (disch:=first | omega | (decide +kernel)) only[↓r_seq,↓seqK_n,↓r_reg,↓r_cond,↓condK_t,↓i_cons,↓itemK,↓o_p,↓o_l,↓o_a,↓o_w,↓putF_get,↓evF_t,↓evF_c,new_get,optV_some,optA_some,↓wpI_nil,b_sub,b_eql,b_gtr,w_i64,pop,lop,aop,akV,isVal,Value.cells,List.map_cons,List.map_nil,Option.map_some,↓reduceIte,Nat.reduceEqDiff,reduceCtorEq,List.length_cons,List.length_nil,setc_0,srcR_c,src_r,List.take_succ_cons,List.drop_succ_cons,List.drop_zero,List.append_nil,List.take_nil,List.drop_nil,List.size_toArray,List.toList_toArray,bldV,Nat.reduceLeDiff,Nat.le_refl,zeros_one,dec_t,↓w_app,appS_some,if_pos,Nat.mul_one,Nat.zero_add,Int.toNat_natCast,and_true,b7,b6,b11,hd0,q1,hg0,hsub]) | (with_reducible first | refine condK_dec (fun _=> ?_) fun _=> ?_ | refine grd_dec (fun _=> ?_) fun _=> ?_ | refine egrd_dec (fun _=> ?_) fun _=> ?_))
        refine(hD.mv (by(repeat (first | assumption | exact HExt.refl _ | (refine HExt.set ?_ (by first | omega | (simp only[new_nx,set_nx];omega)) _) | (refine HExt.new ?_ _))))).push (blkN t) (by simp;omega) fun vo2 K4 h4 hn4 hk4=> ?_
        have hl4:(st.reverse++ [blkN t]).length=st.length+1:=by simp
        have h4':=h4.last
        obtain⟨b3,kd3,c3,os3,rfl,r1,r2,r3,r4⟩:=h4'
        rw[hl4] at h4
        repeat' (first | (simp (disch:=first | omega | (decide +kernel)) only[↓seqK_n,↓r_reg,↓i_cons,↓itemK,↓o_p,↓o_a,↓o_w,↓putF_get,↓evF_t,↓evF_c,new_get,optV_some,optA_some,↓wpI_nil,b_add,w_i64,pop,aop,akV,isVal,Value.cells,List.map_cons,List.map_nil,Option.map_some,↓reduceIte,Nat.reduceEqDiff,Nat.reduceAdd,reduceCtorEq,List.length_cons,List.length_nil,setc_0,setc_s,srcR_c,src_r,List.take_succ_cons,List.drop_succ_cons,List.drop_zero,List.cons_append,List.nil_append,List.take_nil,List.size_toArray,List.toList_toArray,bldV,Nat.reduceLeDiff,Nat.le_refl,List.length_append,↓w_app,appS_some,if_pos,Nat.one_mul,Nat.zero_add,true_and,and_true,b8,b9,zz3]) | (with_reducible first | refine condK_dec (fun _=> ?_) fun _=> ?_ | refine grd_dec (fun _=> ?_) fun _=> ?_ | refine egrd_dec (fun _=> ?_) fun _=> ?_))
        refine(h4.mv (by(repeat (first | assumption | exact HExt.refl _ | (refine HExt.set ?_ (by first | omega | (simp only[new_nx,set_nx];omega)) _) | (refine HExt.new ?_ _))))).put ⟨2,i+1,[]⟩ (by omega) rfl fun vt5 K5 h5 hn5 hk5=> ?_
        repeat' (first | (simp (disch:=first | omega | (decide +kernel)) only[↓r_seq,↓r_block,↓seqK_n,↓i_cons,↓itemK,↓o_p,↓putF_get,↓evF_t,optV_some,↓wpI_nil,pop,↓reduceIte]) | (with_reducible first | refine condK_dec (fun _=> ?_) fun _=> ?_ | refine grd_dec (fun _=> ?_) fun _=> ?_ | refine egrd_dec (fun _=> ?_) fun _=> ?_))
        have h5':=h5.last
        rw[hl4] at h5'
        obtain⟨b4,kd4,c4,os4,e4,s1,s2,s3,s4⟩:=h5'
        cases e4
        have g5:os4[st.length]? = some (.int .i64 (blkN t:Nat)):=by
         rw[s4 _ (by omega)]
         simp[List.getD_eq_getElem?_getD,List.getElem?_append_right]
        have hsub5:((st.length+1:Nat):Int)-1=((st.length:Nat):Int):=by omega
        refine loop_w (fun n fr K=>fr 6= .slice (some ⟨b3,0,none⟩) (st.length+1) c3∧fr 8=vt5∧K=K5) (n:=0) ⟨by simp only[putF_get,putF_none,Nat.reduceEqDiff,↓reduceIte,hl4,hrl,List.length_append,List.length_singleton],by(exact rz0;all_goals rfl),rfl⟩ ?_
        rintro n fr9 K9 ⟨u6,u8,rfl⟩ hag9
        refine rn (an @hag9 (an @b11 (an @u6 (an @u8 (an @s1 (an @g5 @hsub5)))))) ?_
        all_goals exact⟨by rw[hind,List.reverse_cons];exact h5,h5.2.2⟩
       ·obtain⟨k,hk1,hk2,hk3,hk4,hk5⟩:=tw_spec (n:=blkN t) hW.z
        have hind:indT (i+1) st (blkN t)=(List.replicate k ⟨3,i+1,[]⟩,st.drop k):=by unfold indT;rw[if_neg hlt2,hk1,hk5]
        have hhd:(st.drop k).headD 0=st.getD k 0:=by
         rw[List.drop_eq_getElem_cons hk2]
         simp[List.getD,List.getElem?_eq_getElem hk2]
        have hen:st.getD k 0=blkN t:=Classical.byContradiction fun g=>herr ⟨hd0,by rw[hind];show(st.drop k).headD 0≠_;rwa [hhd]⟩
        repeat' (first | (simp (disch:=first | omega | (decide +kernel)) only[↓r_seq,↓r_block,↓seqK_n,↓r_reg,↓r_cond,↓condK_t,↓condK_f,↓i_cons,↓itemK,↓o_p,↓o_l,↓putF_get,↓evF_t,↓evF_c,optV_some,↓wpI_nil,↓wpR_skip,b_sub,b_eql,b_gtr,w_i64,pop,lop,↓reduceIte,Nat.reduceEqDiff,dec_t,dec_f,if_pos,Nat.mul_one,Nat.zero_add,Int.toNat_natCast,b7,b6,b11,hd0,q1,hg0,hsub]) | (with_reducible first | refine condK_dec (fun _=> ?_) fun _=> ?_ | refine grd_dec (fun _=> ?_) fun _=> ?_ | refine egrd_dec (fun _=> ?_) fun _=> ?_))
        refine loop_w (fun q fr K=>PoJ K1 b2 c2 k (i+1) st out q (fr 6) (fr 8) K) (n:=k) (by
         have:PoJ K1 b2 c2 k (i+1) st out k (.slice (some ⟨b2,0,none⟩) st.length c2) vt K'':= .init hD
         first | exact this | (refine rn (an @b6 (an @b8 @hrl)) ?_;all_goals exact this)) ?_
        rintro q fr9 K9 ⟨m,rfl,hm,u6,hDm⟩ hag9
        obtain⟨vt9,u8⟩ : ∃v,fr9 8=v:=⟨_,rfl⟩
        rw[u8] at hDm
        obtain⟨kd9,os9,s1,s2,s3,s4⟩:=hDm.top (by omega)
        have hsub9:((st.length-m:Nat):Int)-1=((st.length-m-1:Nat):Int):=by omega
        by_cases hmk:m<k
        ·have hgt:=hk3 m hmk
         have hsv:= @sl_pop b2 (st.length-m) c2 (st.length-m-1) (by omega) (by omega)
         have hok:=okSl_of (o:=0) (n:=st.length-m) (c:=c2) s1
         repeat' (first | (simp (disch:=first | omega | (decide +kernel)) only[↓r_seq,↓r_block,↓seqK_n,↓r_reg,↓r_cond,↓condK_t,↓i_cons,↓itemK,↓o_p,↓o_l,↓o_a,↓o_w,↓putF_get,↓evF_t,↓evF_c,new_get,optV_some,optA_some,↓wpI_nil,↓wpR_skip,b_add,b_sub,b_lss,w_i64,pop,lop,aop,akV,isVal,Value.cells,List.map_cons,List.map_nil,Option.map_some,↓reduceIte,Nat.reduceEqDiff,Nat.reduceAdd,reduceCtorEq,List.length_cons,List.length_nil,setc_0,setc_s,srcR_c,src_r,bnd,capV,Option.isSome_none,Option.isNone_none,Option.isSome_some,Bool.or_true,List.take_succ_cons,List.drop_succ_cons,List.drop_zero,List.cons_append,List.nil_append,List.take_nil,Bool.and_true,List.size_toArray,List.toList_toArray,bldV,Nat.reduceLeDiff,Nat.le_refl,dec_t,↓w_app,appS_some,if_pos,Nat.mul_one,Nat.one_mul,Nat.zero_add,Int.toNat_natCast,true_and,and_true,hag9,b9,b11,u6,u8,s1,s4,hsub9,hsv,hok,zz3]) | (with_reducible first | refine condK_dec (fun _=> ?_) fun _=> ?_ | refine grd_dec (fun _=> ?_) fun _=> ?_ | refine egrd_dec (fun _=> ?_) fun _=> ?_))
         refine((hDm.pop1 (by omega)).mv (by(repeat (first | assumption | exact HExt.refl _ | (refine HExt.set ?_ (by first | omega | (simp only[new_nx,set_nx];omega)) _) | (refine HExt.new ?_ _))))).put ⟨3,i+1,[]⟩ (by simp;omega) rfl fun vt5 K5 h5 hn5 hk5=> ?_
         refine rn @b9 ?_
         all_goals exact⟨k-(m+1),by omega,m+1,rfl,by omega,rfl,by
          have e:out++List.replicate (m+1) (⟨3,i+1,[]⟩:Tok)=out++List.replicate m ⟨3,i+1,[]⟩++ [⟨3,i+1,[]⟩]:=by rw[List.replicate_succ',List.append_assoc]
          rw[e];exact h5⟩
        ·have hmk':m=k:=by omega
         subst hmk'
         refine rn (an @hag9 (an @b9 (an @b11 (an @u6 (an @u8 (an @s1 (an @s4 (an @hsub9 @hen)))))))) ?_
         all_goals exact⟨by rw[hind];exact hDm,hDm.2.2⟩
      ·rw[if_neg hd0,if_neg hd0,List.append_nil]
       refine rn (an @b7 (an @b6 @b8)) ?_
       all_goals first | exact⟨hD,hxK⟩ | skip
     ·rintro fr5 K3 ⟨hD3,hxA3⟩ ha5
      obtain⟨vo3,g6⟩ : ∃v,fr5 6=v:=⟨_,rfl⟩
      obtain⟨vt3,g8⟩ : ∃v,fr5 8=v:=⟨_,rfl⟩
      rw[g6,g8] at hD3
      have g7:=(ha5 7 (by decide +kernel)).trans b7
      have g9:=(ha5 9 (by decide +kernel)).trans b9
      have g10:=(ha5 10 (by decide +kernel)).trans b10
      have g11:=(ha5 11 (by decide +kernel)).trans b11
      have hil2:= @indT_len (i+1) (blkN t) st
      have hlen:(if d=0 then (indT (i+1) st (blkN t)).1 else []).length+(if d=0 then (indT (i+1) st (blkN t)).2 else st).length≤st.length+2:=by
       by_cases h:d=0
       ·rw[if_pos h,if_pos h];exact hil2
       ·rw[if_neg h,if_neg h];simp
      have hrow:rowT (i+1) R[i] d st=match toks (i+1) (t.length+1) t d with
       | none=> .error 20
       | some (ts,d')=> .ok ((if d=0 then (indT (i+1) st (blkN t)).1 else [])++ts++(if d'=0 then [⟨1,i+1,[]⟩] else []),d',if d=0 then (indT (i+1) st (blkN t)).2 else st):=by
       rw[ht];unfold rowT;rw[if_neg (by omega),if_neg herr];rfl
      obtain⟨op,hop⟩ : ∃o,(if d=0 then (indT (i+1) st (blkN t)).2 else st)=o:=⟨_,rfl⟩
      obtain⟨ins,hins⟩ : ∃o,(if d=0 then (indT (i+1) st (blkN t)).1 else [])=o:=⟨_,rfl⟩
      rw[hop,hins] at hD3 hlen hrow
      have hdp:d≤B:=by have:=hW.bd;omega
      have hbi:out.length+st.length+t.length+3≤B:=by
       have e:R.drop i=R[i]::R.drop (i+1):=List.drop_eq_getElem_cons hil
       rw[e,ht] at hbo
       simp only[List.map_cons,List.sum_cons] at hbo
       omega
      refine rn0 ?_
      refine loop_w (fun q fr K=>PcJ K1 (i+1) d t op (out++ins) vo3 q (fr 6) (fr 7) (fr 8) (fr 11) K) (n:=t.length+1) ⟨0,d,[], .init0,by rw[g11];simp,g7,g6,by rw[g8,List.append_nil];exact hD3⟩ ?_
      rintro q fr6 K4 ⟨j,dd,ts,hB,u11,u7,u6,hD4⟩ hag6
      obtain⟨vt4,u8⟩ : ∃v,fr6 8=v:=⟨_,rfl⟩
      rw[u8] at hD4
      have hjl:=hB.jl
      have htl2:=hB.tl
      have hdl:dd≤d+j:=hB.dl
      have hblj:=blkN_len (t:=t.drop j)
      by_cases hat:j+blkN (t.drop j)<t.length
      ·obtain⟨at',hat'⟩ : ∃a,j+blkN (t.drop j)=a:=⟨_,rfl⟩
       have hnr:=fun(K:CH)=> @next_r K t at' (by omega) (by omega)
       have hlt' : ¬(t.drop j).length≤blkN (t.drop j):=by simp;omega
       have hstep:=fun k n x=> @RwB.step _ _ _ _ _ _ hB hlt' k n x
       have hbad:=hB.bad hlt'
       have htlen:=fun k x n=> @tokT_len (t.drop at') k x n
       rw[hat'] at u11 hat hstep hbad
       refine seq_cut (fun fr' K'=>K'=K4) (by exact rz (an @hag6 (an @g10 (an @u11 @str_size)))) ?_
       rintro fr7 K5 rfl ha7
       refine r_block.2 ?_
       cases hr:tokT (t.drop at') with
       | none=>
         have hn2:=fun K=>(hnr K).mono (Q':=fun v K'=>HExt K K'∧v= .agg #[.int .i64 (-1), .string ⟨⟨[]⟩⟩, .int .i64 0]) fun v K' ⟨h1,h2⟩=>⟨h1,by rw[h2,hr];rfl⟩
         have hT:toks (i+1) (t.length+1) t d=none:=hbad hr
         rw[hT] at hrow
         refine rn (an @hag6 (an @ha7 (an @g10 @u11))) ?_
         refine(hn2 _).mono fun v K6 ⟨hx6,hv⟩=> ?_
         subst hv
         refine rn (an @hag6 (an @ha7 @g9)) ?_
         all_goals exact⟨hx1.trans (hD4.2.2.trans ((hx6.new _).set hx6.nx _)),by rw[hlt,hW.err hil hrow];rfl⟩
       | some z=>
         obtain⟨k,x,n⟩:=z
         obtain⟨q',hq',hB'⟩:=hstep k n x hr
         have htn:=tokT_len hr
         have hn2:=fun K=>(hnr K).mono (Q':=fun v K'=>HExt K K'∧v= .agg #[.int .i64 k, .string (str x), .int .i64 (at'+n:Nat)]) fun v K' ⟨h1,h2⟩=>⟨h1,by rw[h2,hr];rfl⟩
         refine seq_cut (fun fr' K'=>∃p,fr' 12= .pointer (some ⟨p,0,none⟩)∧K'.ob p= .cells [.int .i64 k, .string (str x), .int .i64 (at'+n:Nat)] 87 .ex∧p<K'.nx∧HExt K5 K') (by
          refine rn (an @hag6 (an @ha7 (an @g10 @u11))) ?_
          refine(hn2 _).mono fun v K6 ⟨hx6,hv⟩=> ?_
          subst hv
          refine rn0 ?_
          all_goals exact⟨_,rfl,by exact rz0,Nat.lt_succ_self _,(hx6.new _).set hx6.nx _⟩) ?_
         rintro fr8 K6 ⟨p,w12,hob,hp2,hx6⟩ ha8
         refine seq_cut (fun fr' K'=>K'=K6) (by repeat' (first | (simp (disch:=first | omega | (decide +kernel)) only[↓RD,RU,↓putF_get,↓evF_t,↓evF_c,pop,lop,↓reduceIte,ρ5,ρ28,w12,hob]) | (with_reducible first | refine condK_dec (fun _=> ?_) fun _=> ?_ | refine grd_dec (fun _=> ?_) fun _=> ?_ | refine egrd_dec (fun _=> ?_) fun _=> ?_))) ?_
         rintro fr9 K7 rfl ha9
         have hgn : ∀o,(K7.new o).ob p= .cells [.int .i64 k, .string (str x), .int .i64 (at'+n:Nat)] 87 .ex:=fun o=>by rw[new_get,if_neg (by omega)];exact hob
         refine seq_cut (fun fr' K'=>DcAt K1 K' vo3 (fr' 8) op.reverse (out++ins++(ts++ [⟨k,i+1,x⟩]))∧K'.ob p= .cells [.int .i64 k, .string (str x), .int .i64 (at'+n:Nat)] 87 .ex) (by
          repeat' (first | (simp (disch:=first | omega | (decide +kernel)) only[↓r_reg,↓i_cons,↓itemK,↓o_p,↓o_l,↓o_a,↓o_w,↓putF_get,↓evF_t,↓evF_c,new_get,optV_some,optA_some,b_add,w_i64,pop,lop,aop,akV,isVal,Value.cells,List.map_cons,List.map_nil,Option.map_some,↓reduceIte,Nat.reduceEqDiff,Nat.reduceAdd,reduceCtorEq,List.getElem?_cons_zero,List.getElem?_cons_succ,List.length_cons,List.length_nil,setc_0,setc_s,srcR_c,src_r,List.take_succ_cons,List.drop_succ_cons,List.drop_zero,List.cons_append,List.nil_append,List.append_nil,List.take_nil,List.drop_nil,List.size_toArray,List.toList_toArray,bldV,Nat.reduceLeDiff,Nat.le_refl,↓w_app,appS_some,if_pos,Nat.one_mul,Nat.zero_add,Nat.add_zero,true_and,and_true,hag6,ha7,ha8,ha9,w12,hob,g9,u8,zz3]) | (with_reducible first | refine condK_dec (fun _=> ?_) fun _=> ?_ | refine grd_dec (fun _=> ?_) fun _=> ?_ | refine egrd_dec (fun _=> ?_) fun _=> ?_))
          refine(hD4.mv (hx6.trans (by(repeat (first | assumption | exact HExt.refl _ | (refine HExt.set ?_ (by first | omega | (simp only[new_nx,set_nx];omega)) _) | (refine HExt.new ?_ _)))))).put ⟨k,i+1,x⟩ (by simp;omega) rfl fun vt5 K8 h5 hn5 hk5=> ?_
          repeat' (first | (simp (disch:=first | omega | (decide +kernel)) only[↓RD,RU,↓putF_get,↓evF_t,pop,↓reduceIte]) | (with_reducible first | refine condK_dec (fun _=> ?_) fun _=> ?_ | refine grd_dec (fun _=> ?_) fun _=> ?_ | refine egrd_dec (fun _=> ?_) fun _=> ?_))
          all_goals exact⟨by rw[←List.append_assoc];exact h5,(hk5 p _ _ _ (Nat.lt_succ_of_lt hp2) (hgn _) (by decide)).trans (hgn _)⟩) ?_
         rintro fr10 K8 ⟨hD8,hob8⟩ ha10
         refine seq_cut (fun fr' K'=>fr' 7= .int .i64 (dpA dd k x:Nat)∧K'=K8) ?_ ?_
         ·obtain⟨c1,e1⟩ : ∃b,decide (x= [UInt8.ofNat 40])=b:=⟨_,rfl⟩
          obtain⟨c2,e2⟩ : ∃b,decide (x= [UInt8.ofNat 91])=b:=⟨_,rfl⟩
          obtain⟨c3,e3⟩ : ∃b,decide (x= [UInt8.ofNat 123])=b:=⟨_,rfl⟩
          by_cases hk9:k=9
          ·subst hk9
           unfold dpA
           simp only[mem3,e1,e2,e3,true_and]
           cases c1<;>cases c2<;>cases c3
           all_goals
            repeat' (first | (simp (disch:=first | omega | (decide +kernel)) only[↓RD,RU,↓putF_get,↓evF_t,↓evF_c,pop,lop,↓reduceIte,Nat.reduceEqDiff,reduceCtorEq,ρ5,ρ6,ρ28,ha7,ha8,ha9,ha10,u7,w12,hob8,str_eq,u8k,e1,e2,e3]) | (with_reducible first | refine condK_dec (fun _=> ?_) fun _=> ?_ | refine grd_dec (fun _=> ?_) fun _=> ?_ | refine egrd_dec (fun _=> ?_) fun _=> ?_))
            all_goals rfl
          ·rw[show dpA dd k x=dd from if_neg fun g=>hk9 g.1]
           exact rz (an @hag6 (an @ha7 (an @ha8 (an @ha9 (an @ha10 (an @u7 (an @w12 (an @hob8 @hk9))))))))
           all_goals rfl
         rintro fr11 K9 ⟨x7,rfl⟩ ha11
         refine seq_cut (fun fr' K'=>fr' 7= .int .i64 (dpB (dpA dd k x) k x:Nat)∧K'=K9) ?_ ?_
         ·obtain⟨c1,e1⟩ : ∃b,decide (x= [UInt8.ofNat 41])=b:=⟨_,rfl⟩
          obtain⟨c2,e2⟩ : ∃b,decide (x= [UInt8.ofNat 93])=b:=⟨_,rfl⟩
          obtain⟨c3,e3⟩ : ∃b,decide (x= [UInt8.ofNat 125])=b:=⟨_,rfl⟩
          obtain⟨e,he⟩ : ∃e,dpA dd k x=e:=⟨_,rfl⟩
          have heb:e≤dd+1:=by rw[←he];unfold dpA;split<;>omega
          have hsubE:0<e→((e:Nat):Int)-1=((e-1:Nat):Int):=fun _=>by omega
          rw[he] at x7⊢
          by_cases hk9:k=9
          ·subst hk9
           unfold dpB
           simp only[mem3,e1,e2,e3,true_and]
           by_cases h0:0<e
           all_goals cases c1<;>cases c2<;>cases c3
           all_goals
            exact rz (an @hag6 (an @ha7 (an @ha8 (an @ha9 (an @ha10 (an @ha11 (an @x7 (an @w12 (an @hob8 (an @str_eq (an @u8k (an @e1 (an @e2 (an @e3 (an @h0 @hsubE)))))))))))))))
            all_goals rfl
          ·rw[show dpB e k x=e from if_neg fun g=>hk9 g.1]
           exact rz (an @hag6 (an @ha7 (an @ha8 (an @ha9 (an @ha10 (an @ha11 (an @x7 (an @w12 (an @hob8 @hk9)))))))))
           all_goals rfl
         rintro fr12 K10 ⟨y7,rfl⟩ ha12
         rw[dp_eq] at y7
         have hbn:=fun(K:CH) (Q:Value→CH→Prop)=>hbk K (at'+n) (by simp at htn;omega) Q
         refine rn (an @hag6 (an @ha7 (an @ha8 (an @ha9 (an @ha10 (an @ha11 (an @ha12 (an @g10 (an @w12 (an @hob8 (an @y7 @hbn))))))))))) ?_
         all_goals exact⟨q',hq',at'+n,depT dd k x,ts++ [⟨k,i+1,x⟩],hB',rfl,rfl,g6,hD8⟩
      ·have hT:toks (i+1) (t.length+1) t d=some (ts,dd):=hB.fin (by simp;omega)
       rw[hT] at hrow
       have hW2:=hW.step hil hrow
       have fin : ∀(K':CH) (v5 v6 v7 v8:Value),v6=vo3→v7= .int .i64 (dd:Nat)→DcAt K1 K' vo3 v8 op.reverse (out++(ins++ts++(if dd=0 then [⟨1,i+1,[]⟩] else [])))→OuJ K1 R B (R.length-(i+1)) v5 v6 v7 v8 (.int .i64 ((i:Nat)+1:Int)) K':=fun K' v5 v6 v7 v8 e6 e7 g=>by
        subst e6 e7
        exact⟨i+1,dd,op,_,rfl,rfl,rfl,hW2,g,g.2.2⟩
       by_cases hdd:dd=0
       ·repeat' (first | (simp (disch:=first | omega | (decide +kernel)) only[↓r_seq,↓seqK_n,↓seqK_e,↓blockK_e,↓loopI_e,↓r_reg,↓r_cond,↓condK_t,↓condK_f,↓i_cons,↓itemK,↓o_p,↓o_a,↓o_w,↓putF_get,↓evF_t,↓evF_c,new_get,optV_some,optA_some,↓wpI_nil,↓wpR_exit,b_add,b_eql,b_lss,w_i64,pop,aop,akV,isVal,Value.cells,List.map_cons,List.map_nil,Option.map_some,↓reduceIte,Nat.reduceEqDiff,Nat.reduceAdd,reduceCtorEq,List.length_cons,List.length_nil,setc_0,setc_s,srcR_c,src_r,List.take_succ_cons,List.drop_succ_cons,List.drop_zero,List.cons_append,List.nil_append,List.take_nil,List.size_toArray,List.toList_toArray,bldV,Nat.reduceLeDiff,Nat.le_refl,dec_t,dec_f,↓w_app,appS_some,if_pos,Nat.one_mul,Nat.zero_add,true_and,and_true,hag6,g10,u11,u7,u8,g9,zz3,hdd,str_size]) | (with_reducible first | refine condK_dec (fun _=> ?_) fun _=> ?_ | refine grd_dec (fun _=> ?_) fun _=> ?_ | refine egrd_dec (fun _=> ?_) fun _=> ?_))
        refine(hD4.mv (by(repeat (first | assumption | exact HExt.refl _ | (refine HExt.set ?_ (by first | omega | (simp only[new_nx,set_nx];omega)) _) | (refine HExt.new ?_ _))))).put ⟨1,i+1,[]⟩ (by simp;omega) rfl fun vt5 K5 h5 hn5 hk5=> ?_
        refine rn (an @hag6 @g9) ?_
        all_goals exact⟨R.length-(i+1),by omega,fin _ _ _ _ _ g6 (by first | rfl | exact u7) (by rw[if_pos hdd];simpa only[List.append_assoc] using h5)⟩
       ·refine rn (an @hag6 (an @g10 (an @u11 (an @u7 (an @u8 (an @g9 (an @hdd @str_size))))))) ?_
        all_goals exact⟨R.length-(i+1),by omega,fin _ _ _ _ _ g6 (by first | rfl | exact u7) (by rw[if_neg hdd,List.append_nil,←List.append_assoc];exact hD4)⟩
  ·obtain⟨qv,cv,rfl⟩:=hRlen
   have hie:i=R.length:=by have:=hW.il;omega
   subst hie
   have hfin:=hW.fin
   rw[hlt,hfin]
   have hD':=hD
   obtain⟨b,kd,c6,os,rfl,o1,o2,o3,o4⟩:=hD.last
   have hst0:0<st.length:=by
    have:=hW.z
    cases st with
    | nil=>cases this
    | cons a l=>simp
   have hrl:st.reverse.length=st.length:=by simp
   rw[hrl] at f6 hD
   refine rn (an @hag (an @f5 (an @f6 (an @f7 (an @f8 @f9))))) ?_
   refine loop_w (fun n fr K=>OtJ K1 (.slice (some ⟨b,0,none⟩) st.length c6) st.reverse out R.length (st.length-1) n (fr 8) (fr 13) K) (n:=st.length-1) ⟨0,rfl,by omega,by(refine rn0 ?_;all_goals rfl),by
    have:DcAt K1 K (.slice (some ⟨b,0,none⟩) st.length c6) (fr 8) st.reverse (out++List.replicate 0 ⟨3,R.length,[]⟩):=by rw[f8];simpa using hD
    first | exact this | (exact rz0;all_goals exact this)⟩ ?_
   rintro n fr2 K2 ⟨k,rfl,hk,f13,hD2⟩ hag2
   obtain⟨vt2,f82⟩ : ∃v,fr2 8=v:=⟨_,rfl⟩
   rw[f82] at hD2
   by_cases hkl:k<st.length-1
   ·refine rn (an @hag (an @hag2 (an @f5 (an @f6 (an @f82 (an @f13 (an @zz3 (an @tt3 @ll3)))))))) ?_
    refine(hD2.mv (by(repeat (first | assumption | exact HExt.refl _ | (refine HExt.set ?_ (by first | omega | (simp only[new_nx,set_nx];omega)) _) | (refine HExt.new ?_ _))))).put ⟨3,R.length,[]⟩ (by simp;omega) rfl fun vt3 K3 h3 hn3 _=> ?_
    refine rn @f13 ?_
    all_goals exact⟨st.length-1-(k+1),by omega,k+1,rfl,by omega,congrArg (Value.int .i64) (by omega),by
     have e:out++List.replicate (k+1) (⟨3,R.length,[]⟩:Tok)=out++List.replicate k ⟨3,R.length,[]⟩++ [⟨3,R.length,[]⟩]:=by rw[List.replicate_succ',List.append_assoc]
     rw[e];exact h3⟩
   ·refine rn (an @hag (an @hag2 (an @f5 (an @f6 (an @f82 (an @f13 (an @zz3 (an @tt3 @ll3)))))))) ?_
    refine(hD2.mv (by(repeat (first | assumption | exact HExt.refl _ | (refine HExt.set ?_ (by first | omega | (simp only[new_nx,set_nx];omega)) _) | (refine HExt.new ?_ _))))).put ⟨0,R.length,[]⟩ (by simp;omega) rfl fun vt3 K3 h3 hn3 _=> ?_
    refine rn0 ?_
    all_goals
     have ek:k=st.length-1:=by omega
     subst ek
     exact⟨hx1.trans h3.2.2,vt3,rfl,by
      have e:out++endT R.length st=out++List.replicate (st.length-1) (⟨3,R.length,[]⟩:Tok)++ [⟨0,R.length,[]⟩]:=by unfold endT;rw[List.append_assoc]
      rw[e];exact h3.2.1.low hx1.nx⟩
end Can
end Go.Proofs.YticlaccbodpkeaaGreatDoor
end
section
namespace Go.Proofs.YticlaccbodpkeaaGreatDoor
namespace Can
open Go Go.RowKit
set_option linter.unusedSimpArgs false
set_option linter.unusedVariables false
set_option maxRecDepth 4000
def rdC (sl:Sl)(i:Nat)(b:Bool):CObj:= .cells [.slice sl.q sl.n sl.c, .int .i64 (i:Nat), .bool b] 91 .ex
structure RdD(K:CH)(p:Nat)(sl:Sl)(ts:List PT)(i:Nat)(b:Bool):Prop where
 ob:K.ob p=rdC sl i b
 pl:p<K.nx
 il:i≤ts.length
 n:sl.n=ts.length
 tk:SlAt 3 CTk K sl.q sl.c ts
theorem RdD.len{K:CH}{p:Nat}{sl:Sl}{ts:List PT}{i:Nat}{b:Bool}(h:RdD K p sl ts i b):ts.length≤9223372036854775807:=by
 rcases h.tk with ⟨rfl,_⟩ | ⟨l,o,os,e,kd,_,_,h2,h3,_⟩
 ·simp
 ·rw[maxLen_eq] at h3;omega
theorem dnow_wp{K:CH}{p:Nat}{sl:Sl}{ts:List PT}{i:Nat}{b:Bool}(h:RdD K p sl ts i b):WpF (tblG Tryz.prog LG GG) 44 [.pointer (some ⟨p,0,none⟩)] K fun v K'=>v= .agg (tokV (nowT ts i)).toArray∧K'=K.new (tkC (nowT ts i)):=by
 have hob:=h.ob
 have hpl:=h.pl
 have hln:=h.len
 have hil:=h.il
 unfold rdC at hob
 rw[h.n] at hob
 refine wpF_rG (by rfl) (by kernel_rfl) ?_;(conv in (rF _ _).body=>reduce);(conv in (rF _ _).res=>reduce)
 by_cases hi:i<ts.length
 ·obtain⟨l,o,os,e,kd,hq,g1,g2,g3,g4,g5⟩:=tk_get h.tk hi
  have hn:nowT ts i=ts[i]:=by unfold nowT;rw[List.getElem?_eq_getElem hi]
  rw[hn]
  rw[hq] at hob
  unfold tokV at g4⊢
  refine rn (an @hob (an @g1 (an @g3 @g4))) ?_
  all_goals exact new_set
 ·by_cases h0:0<ts.length
  ·obtain⟨l,o,os,e,kd,hq,g1,g2,g3,g4,g5⟩:=tk_get h.tk (i:=ts.length-1) (by omega)
   have hn:nowT ts i=⟨0,ts[ts.length-1].line,[]⟩:=by
    unfold nowT
    rw[List.getElem?_eq_none (by omega),List.getLast?_eq_getElem?,List.getElem?_eq_getElem (by omega)]
   rw[hn]
   rw[hq] at hob
   have hsub:((ts.length:Nat):Int)-1=((ts.length-1:Nat):Int):=by omega
   unfold tokV
   refine rn (an @hob (an @g1 (an @g3 (an @g5 @hsub)))) ?_
   all_goals exact new_set
  ·have hts:ts= []:=List.length_eq_zero_iff.1 (by omega)
   have hn:nowT ts i=⟨0,0,[]⟩:=by subst hts;rfl
   rw[hn]
   unfold tokV
   refine rn (an @hob @h0) ?_
   all_goals exact new_set
theorem dnow_iff{K:CH}{p:Nat}{sl:Sl}{ts:List PT}{i:Nat}{b:Bool}(h:RdD K p sl ts i b){Q:Value→CH→Prop}:WpF (tblG Tryz.prog LG GG) 44 [.pointer (some ⟨p,0,none⟩)] K Q↔Q (.agg (tokV (nowT ts i)).toArray) (K.new (tkC (nowT ts i))):=wpF_iff (dnow_wp h)
theorem disWord_wp(K:CH){c:UInt8}{s:List UInt8}:WpF (tblG Tryz.prog LG GG) 148 [.string ⟨⟨c::s⟩⟩] K fun v K'=>v= .bool (isWd (c::s))∧K'=K:=by
 have hg:((c::s)[0]?).map (fun b=>Value.int .u8 (b.toNat:Int))=some (.int .u8 (c.toNat:Int)):=rfl
 have hc:=c.toNat_lt
 have e:isWd (c::s)=decide ((65≤c.toNat∧c.toNat≤90)∨(97≤c.toNat∧c.toNat≤122)):=rfl
 rw[e]
 obtain⟨n,hn⟩ : ∃n,c.toNat=n:=⟨_,rfl⟩
 rw[hn] at hg hc⊢
 refine wpF_rG (by rfl) (by kernel_rfl) ?_;(conv in (rF _ _).body=>reduce);(conv in (rF _ _).res=>reduce)
 by_cases h1:65≤n
 ·by_cases h2:n≤90
  ·rw[decide_eq_true (by omega)]
   exact rz (an @pstr_get (an @hg (an @h1 @h2)))
  ·by_cases h3:97≤n
   ·by_cases h4:n≤122
    ·rw[decide_eq_true (by omega)]
     exact rz (an @pstr_get (an @hg (an @h1 (an @h2 (an @h3 @h4)))))
    ·rw[decide_eq_false (by omega)]
     exact rz (an @pstr_get (an @hg (an @h1 (an @h2 (an @h3 @h4)))))
   ·rw[decide_eq_false (by omega)]
    exact rz (an @pstr_get (an @hg (an @h1 (an @h2 @h3))))
 ·rw[decide_eq_false (by omega)]
  have h3 : ¬ 97≤n:=by omega
  exact rz (an @pstr_get (an @hg (an @h1 @h3)))
theorem disWord_iff{K:CH}{c:UInt8}{s:List UInt8}{Q:Value→CH→Prop}:WpF (tblG Tryz.prog LG GG) 148 [.string ⟨⟨c::s⟩⟩] K Q↔Q (.bool (isWd (c::s))) K:=wpF_iff (disWord_wp K)
theorem dis_wp{K:CH}{p:Nat}{sl:Sl}{ts:List PT}{i:Nat}(h:RdD K p sl ts i false){c1:UInt8}{s:List UInt8}:WpF (tblG Tryz.prog LG GG) 114 [.pointer (some ⟨p,0,none⟩), .string ⟨⟨c1::s⟩⟩] K fun v K'=>v= .bool (isT ts i (c1::s))∧K'=(K.new (tkC (nowT ts i))).new (tkC (nowT ts i)):=by
 have hob:=h.ob
 have hpl:=h.pl
 have hnow:=fun Q=> @dnow_iff K p sl ts i _ h Q
 obtain⟨t,ht⟩ : ∃t,nowT ts i=t:=⟨_,rfl⟩
 unfold rdC at hob
 rw[ht] at hnow
 unfold isT
 rw[ht]
 obtain⟨kd,ln,tx⟩:=t
 obtain⟨G,hG⟩ : ∃G,K.new (tkC ⟨kd,ln,tx⟩)=G:=⟨_,rfl⟩
 rw[hG] at hnow⊢
 unfold tokV at hnow
 have hobG:G.ob p= .cells [.slice sl.q sl.n sl.c, .int .i64 (i:Nat), .bool false] 91 .ex:=by rw[←hG,new_ne (by omega)];exact hob
 have hpG:p≠G.nx:=by rw[←hG,new_nx];omega
 have fin:G.new (.cells [.int .i64 kd, .int .i64 ln, .string ⟨⟨tx⟩⟩] 85 .ex)=G.new (tkC ⟨kd,ln,tx⟩):=rfl
 refine wpF_rG (by rfl) (by kernel_rfl) ?_;(conv in (rF _ _).body=>reduce);(conv in (rF _ _).res=>reduce)
 by_cases k8:kd=8
 ·subst k8
  by_cases e:tx=c1::s
  ·have hd:=decide_eq_true e
   have hw:=fun K Q=> @disWord_iff K c1 s Q
   cases hW:isWd (c1::s) with
   | true=>
     rw[hW] at hw
     rw[decide_eq_true ⟨.inl rfl,e,rfl⟩]
     repeat' (first | (simp (disch:=first | omega | (decide +kernel)) only[↓RD,RU,accW_t,accW_f,isW,↓putF_get,↓putF_none,↓evF_t,↓evF_c,new_get,getD_zero,getD_succ,u_not,pop,lop,aop,wop,resL,resV,tupleV,akV,isVal,isCell,Value.cells,ρ0,ρ1,ρ3,↓reduceIte,Nat.reduceEqDiff,Nat.reduceAdd,Int.reduceOfNat,reduceCtorEq,ρ5,ρ6,ρ7,ρ8,ρ17,ρ20,ρ21,ρ22,ρ23,Kd.isRo,ρ25,ρ26,ρ28,hnow,hobG,hpG,new_set,pstr_eq,hw]) | (with_reducible first | refine condK_dec (fun _=> ?_) fun _=> ?_ | refine grd_dec (fun _=> ?_) fun _=> ?_ | refine egrd_dec (fun _=> ?_) fun _=> ?_))
     all_goals exact fin
   | false=>
     rw[hW] at hw
     rw[decide_eq_false (by simp)]
     repeat' (first | (simp (disch:=first | omega | (decide +kernel)) only[↓RD,RU,accW_t,accW_f,isW,↓putF_get,↓putF_none,↓evF_t,↓evF_c,new_get,getD_zero,getD_succ,u_not,pop,lop,aop,wop,resL,resV,tupleV,akV,isVal,isCell,Value.cells,ρ0,ρ1,ρ3,↓reduceIte,Nat.reduceEqDiff,Nat.reduceAdd,Int.reduceOfNat,reduceCtorEq,ρ5,ρ6,ρ7,ρ8,ρ17,ρ20,ρ21,ρ22,ρ23,Kd.isRo,ρ25,ρ26,ρ28,hnow,hobG,hpG,new_set,pstr_eq,hw]) | (with_reducible first | refine condK_dec (fun _=> ?_) fun _=> ?_ | refine grd_dec (fun _=> ?_) fun _=> ?_ | refine egrd_dec (fun _=> ?_) fun _=> ?_))
     all_goals exact fin
  ·have hd:=decide_eq_false e
   rw[decide_eq_false (fun g=>e g.2.1)]
   repeat' (first | (simp (disch:=first | omega | (decide +kernel)) only[↓RD,RU,accW_t,accW_f,isW,↓putF_get,↓putF_none,↓evF_t,↓evF_c,new_get,getD_zero,getD_succ,u_not,pop,lop,aop,wop,resL,resV,tupleV,akV,isVal,isCell,Value.cells,ρ0,ρ1,ρ3,↓reduceIte,Nat.reduceEqDiff,Nat.reduceAdd,Int.reduceOfNat,reduceCtorEq,ρ5,ρ6,ρ7,ρ8,ρ17,ρ20,ρ21,ρ22,ρ23,Kd.isRo,ρ25,ρ26,ρ28,hnow,hobG,hpG,new_set,pstr_eq]) | (with_reducible first | refine condK_dec (fun _=> ?_) fun _=> ?_ | refine grd_dec (fun _=> ?_) fun _=> ?_ | refine egrd_dec (fun _=> ?_) fun _=> ?_))
   all_goals exact fin
 ·by_cases k9:kd=9
  ·subst k9
   by_cases e:tx=c1::s
   ·have hd:=decide_eq_true e
    have hw:=fun K Q=> @disWord_iff K c1 s Q
    cases hW:isWd (c1::s) with
    | true=>
      rw[hW] at hw
      rw[decide_eq_false (by simp)]
      repeat' (first | (simp (disch:=first | omega | (decide +kernel)) only[↓RD,RU,accW_t,accW_f,isW,↓putF_get,↓putF_none,↓evF_t,↓evF_c,new_get,getD_zero,getD_succ,u_not,pop,lop,aop,wop,resL,resV,tupleV,akV,isVal,isCell,Value.cells,ρ0,ρ1,ρ2,ρ3,↓reduceIte,Nat.reduceEqDiff,Nat.reduceAdd,Int.reduceOfNat,reduceCtorEq,ρ5,ρ6,ρ7,ρ8,ρ17,ρ20,ρ21,ρ22,ρ23,Kd.isRo,ρ25,ρ26,ρ28,hnow,hobG,hpG,new_set,pstr_eq,hw]) | (with_reducible first | refine condK_dec (fun _=> ?_) fun _=> ?_ | refine grd_dec (fun _=> ?_) fun _=> ?_ | refine egrd_dec (fun _=> ?_) fun _=> ?_))
      all_goals exact fin
    | false=>
      rw[hW] at hw
      rw[decide_eq_true ⟨.inr rfl,e,by simp⟩]
      repeat' (first | (simp (disch:=first | omega | (decide +kernel)) only[↓RD,RU,accW_t,accW_f,isW,↓putF_get,↓putF_none,↓evF_t,↓evF_c,new_get,getD_zero,getD_succ,u_not,pop,lop,aop,wop,resL,resV,tupleV,akV,isVal,isCell,Value.cells,ρ0,ρ1,ρ3,↓reduceIte,Nat.reduceEqDiff,Nat.reduceAdd,Int.reduceOfNat,reduceCtorEq,ρ5,ρ6,ρ7,ρ8,ρ17,ρ20,ρ21,ρ22,ρ23,Kd.isRo,ρ25,ρ26,ρ28,hnow,hobG,hpG,new_set,pstr_eq,hw]) | (with_reducible first | refine condK_dec (fun _=> ?_) fun _=> ?_ | refine grd_dec (fun _=> ?_) fun _=> ?_ | refine egrd_dec (fun _=> ?_) fun _=> ?_))
      all_goals exact fin
   ·have hd:=decide_eq_false e
    rw[decide_eq_false (fun g=>e g.2.1)]
    repeat' (first | (simp (disch:=first | omega | (decide +kernel)) only[↓RD,RU,accW_t,accW_f,isW,↓putF_get,↓putF_none,↓evF_t,↓evF_c,new_get,getD_zero,getD_succ,u_not,pop,lop,aop,wop,resL,resV,tupleV,akV,isVal,isCell,Value.cells,ρ0,ρ1,ρ3,↓reduceIte,Nat.reduceEqDiff,Nat.reduceAdd,Int.reduceOfNat,reduceCtorEq,ρ5,ρ6,ρ7,ρ8,ρ17,ρ20,ρ21,ρ22,ρ23,Kd.isRo,ρ25,ρ26,ρ28,hnow,hobG,hpG,new_set,pstr_eq]) | (with_reducible first | refine condK_dec (fun _=> ?_) fun _=> ?_ | refine grd_dec (fun _=> ?_) fun _=> ?_ | refine egrd_dec (fun _=> ?_) fun _=> ?_))
    all_goals exact fin
  ·rw[decide_eq_false (fun g=>g.1.elim k8 k9)]
   refine rn (an @hnow (an @hobG (an @hpG (an @new_set (an @k8 @k9))))) ?_
   all_goals exact fin
theorem dis_bad{K:CH}{p:Nat}{sl:Sl}{ts:List PT}{i:Nat}(h:RdD K p sl ts i true){s:ByteArray}:WpF (tblG Tryz.prog LG GG) 114 [.pointer (some ⟨p,0,none⟩), .string s] K fun v K'=>v= .bool false∧K'=(K.new (tkC (nowT ts i))).new (tkC (nowT ts i)):=by
 have hob:=h.ob
 have hpl:=h.pl
 have hnow:=fun Q=> @dnow_iff K p sl ts i _ h Q
 obtain⟨t,ht⟩ : ∃t,nowT ts i=t:=⟨_,rfl⟩
 unfold rdC at hob
 rw[ht] at hnow⊢
 obtain⟨kd,ln,tx⟩:=t
 obtain⟨G,hG⟩ : ∃G,K.new (tkC ⟨kd,ln,tx⟩)=G:=⟨_,rfl⟩
 rw[hG] at hnow⊢
 unfold tokV at hnow
 have hobG:G.ob p= .cells [.slice sl.q sl.n sl.c, .int .i64 (i:Nat), .bool true] 91 .ex:=by rw[←hG,new_ne (by omega)];exact hob
 have hpG:p≠G.nx:=by rw[←hG,new_nx];omega
 refine wpF_rG (by rfl) (by kernel_rfl) ?_;(conv in (rF _ _).body=>reduce);(conv in (rF _ _).res=>reduce)
 refine rn (an @hnow (an @hobG (an @hpG @new_set))) ?_
 all_goals rfl
theorem dkind_wp{K:CH}{p:Nat}{sl:Sl}{ts:List PT}{i:Nat}(h:RdD K p sl ts i false){k:Int}:WpF (tblG Tryz.prog LG GG) 116 [.pointer (some ⟨p,0,none⟩), .int .i64 k] K fun v K'=>v= .bool (decide ((nowT ts i).kind=k))∧K'=K.new (tkC (nowT ts i)):=by
 have hob:=h.ob
 have hpl:=h.pl
 have hnow:=fun Q=> @dnow_iff K p sl ts i _ h Q
 obtain⟨t,ht⟩ : ∃t,nowT ts i=t:=⟨_,rfl⟩
 unfold rdC at hob
 rw[ht] at hnow⊢
 obtain⟨kd,ln,tx⟩:=t
 unfold tokV at hnow
 refine wpF_rG (by rfl) (by kernel_rfl) ?_;(conv in (rF _ _).body=>reduce);(conv in (rF _ _).res=>reduce)
 by_cases hk:kd=k
 ·rw[decide_eq_true hk]
  subst hk
  exact rz (an @hob @hnow)
  all_goals rfl
 ·rw[decide_eq_false hk]
  exact rz (an @hob (an @hnow @hk))
  all_goals rfl
theorem dkind_bad{K:CH}{p:Nat}{sl:Sl}{ts:List PT}{i:Nat}(h:RdD K p sl ts i true){k:Int}:WpF (tblG Tryz.prog LG GG) 116 [.pointer (some ⟨p,0,none⟩), .int .i64 k] K fun v K'=>v= .bool false∧K'=K:=by
 have hob:=h.ob
 have hpl:=h.pl
 unfold rdC at hob
 refine wpF_rG (by rfl) (by kernel_rfl) ?_;(conv in (rF _ _).body=>reduce);(conv in (rF _ _).res=>reduce)
 exact rz @hob
theorem dnode_wp{K:CH}{k l:Int}{a:Option Addr}{n c:Nat}:WpF (tblG Tryz.prog LG GG) 43 [.int .i64 k, .int .i64 l, .slice a n c] K fun v K'=>v= .agg #[.int .i64 k, .int .i64 l, .string ⟨⟨[]⟩⟩, .int .i64 0, .slice a n c]∧∃o,K'=K.new o:=by
 refine wpF_rG (by rfl) (by kernel_rfl) ?_;(conv in (rF _ _).body=>reduce);(conv in (rF _ _).res=>reduce)
 refine rn @new_set ?_
 all_goals exact⟨_,rfl⟩
end Can
end Go.Proofs.YticlaccbodpkeaaGreatDoor
end
section
namespace Go.Proofs.YticlaccbodpkeaaGreatDoor
namespace Can
open Go Go.RowKit
set_option linter.unusedSimpArgs false
set_option linter.unusedVariables false
set_option maxRecDepth 4000
inductive NdG:List SV→Prop
 | mk {k l:Int} {x:ByteArray} {o:Int} {gs:List (List SV)} (h : ∀g∈gs,NdG g):NdG [.sc (.int .i64 k), .sc (.int .i64 l), .sc (.string x), .sc (.int .i64 o), .row 5 gs]
mutual
theorem ndG_nd : ∀t:Nd,NdG (ndS t)
 | .mk _ _ _ _ ks=> .mk (ndG_nds ks)
theorem ndG_nds : ∀ks:List Nd,∀g∈ndsS ks,NdG g
 | [],g,h=>by cases h
 | n::ks,g,h=>by
   rcases List.mem_cons.1 h with rfl | h
   ·exact ndG_nd n
   ·exact ndG_nds ks g h
end
abbrev gA(k l:Int)(x:ByteArray)(o:Int)(gs:List (List SV)):AV:= .r (.agg [cS (.int .i64 k),cS (.int .i64 l),cS (.string x),cS (.int .i64 o), .s (.row 5 gs)])
def rdSb (sl:Sl)(i:Nat)(b:Bool):List SV:= [.sc (.slice sl.q sl.n sl.c), .sc (.int .i64 (i:Nat)), .sc (.bool b)]
abbrev rdD(sl:Sl)(i:Nat)(b:Bool):Self:=some (91,rdSb sl i b)
theorem dself_inv{K:CH}{E:TE}{sp:Option Nat}{sl:Sl}{i:Nat}{b:Bool}(h:SelfR K E sp (rdD sl i b)) : ∃p,sp=some p∧p<K.nx∧K.ob p=rdC sl i b:=by
 obtain⟨p,os,h1,h2,h3,h4⟩:=h
 refine⟨p,h1,h2,?_⟩
 rw[h3]
 cases h4 with
 | cons a h4=>cases h4 with
   | cons b h4=>cases h4 with
     | cons c h4=>cases h4;cases a;cases b;cases c;rfl
theorem dself_mk{K:CH}{E:TE}{p:Nat}{sl:Sl}{i:Nat}{b:Bool}(h:p<K.nx)(ho:K.ob p=rdC sl i b):SelfR K E (some p) (rdD sl i b):=⟨p,_,rfl,h,ho, .cons (.sc rfl) (.cons (.sc rfl) (.cons (.sc rfl) .nil))⟩
theorem tc_rdd{Z:TP}{X:Pan}{sl:Sl}{ts:List PT}(hZ:TkZ Z sl ts){f:FuncId}{L:List Value}{i j:Nat}{b b':Bool}{a:AV}{V:Value}{Q:AV→List SV→Prop}{R:Value→Prop}(hi:i≤ts.length)(hV : ∀K E,AVR K E a V)(hc:a.clean)
 (h : ∀K p,RdD K p sl ts i b→WpF (tblG Tryz.prog LG GG) f (.pointer (some ⟨p,0,none⟩)::L) K fun v K'=>v=V∧K.nx≤K'.nx∧(∀x,x<K.nx→x≠p→K'.ob x=K.ob x)∧K'.ob p=rdC sl j b') (hQ:Q a (rdSb sl j b')):TC Z (tblG Tryz.prog LG GG) X f (.ptr 0 0::L.map rS) (rdD sl i b) Q R:=by
 refine tc_old rfl fun K sp hid vs h1 h2 h3 h4=> ?_
 obtain⟨p,rfl,hp,ho⟩:=dself_inv h4
 have hvs:vs= .pointer (some ⟨p,0,none⟩)::L:=by
  cases h3 with
  | cons g1 g2=>
    obtain⟨l,q1,q2⟩:=g1.ptr_inv
    have q1:some p=some l:=q1
    cases q1
    rw[q2,r2_rS g2]
 subst hvs
 left
 refine(h K p ⟨ho,hp,hi,hZ.n,hZ.tk K fun x hx=>⟨(h2 x hx).1,(h2 x hx).2.2⟩⟩).mono fun v K' ⟨e1,e2,e3,e4⟩=> ?_
 subst e1
 exact⟨e2,fun x hx hs=>e3 x hx fun e=>hs (by rw[e]),a,rdSb sl j b',hV _ _,hc,dself_mk (Nat.lt_of_lt_of_le hp e2) e4,rfl,hQ⟩
structure DCtx(Z:TP)(ts:List PT)(sl:Sl):Prop where
 tkz:TkZ Z sl ts
 len:ts.length≤4398046510976
def DTd:TD:=⟨[43]⟩
theorem dtd_ok:TDOk (tblG Tryz.prog LG GG) DTd:=⟨fun f hf K k l a n c=>by
 have:f=43:=by
  simp only[DTd,List.elem_cons,List.elem_nil] at hf
  split at hf
  ·rename_i h;exact eq_of_beq h
  ·cases hf
 subst this
 exact dnode_wp⟩
section
variable {Z:TP} {X:Pan} {ts:List PT} {sl:Sl} {R:Value→Prop} {Q:AV→List SV→Prop} {i:Nat} {b:Bool}
theorem dnow_tc(C:DCtx Z ts sl)(hi:i≤ts.length)(hQ:Q (tokA (nowT ts i)) (rdSb sl i b)):TC Z (tblG Tryz.prog LG GG) X 44 [.ptr 0 0] (rdD sl i b) Q R:=
 tc_rdd C.tkz (L:= []) hi (fun _ _=>tokA_rel) trivial (fun K p h=>(dnow_wp h).mono fun v K' ⟨e1,e2⟩=>by
  subst e2
  exact⟨e1,Nat.le_succ _,fun b hb _=>new_ne (by omega),(new_ne (by have:=h.pl;omega)).trans h.ob⟩) hQ
theorem dis_tc(C:DCtx Z ts sl){s:List UInt8}(hs:s≠ [])(hi:i≤ts.length)(hQ:Q (rS (.bool (isT ts i s))) (rdSb sl i false)):TC Z (tblG Tryz.prog LG GG) X 114 [.ptr 0 0,rS (.string ⟨⟨s⟩⟩)] (rdD sl i false) Q R:=by
 obtain⟨c1,s,rfl⟩ : ∃c1 s',s=c1::s':=by cases s;exact absurd rfl hs;exact⟨_,_,rfl⟩
 exact tc_rdd C.tkz (L:= [.string ⟨⟨c1::s⟩⟩]) hi (fun _ _=>rS_rel rfl) trivial (fun K p h=>(dis_wp h).mono fun v K' ⟨e1,e2⟩=>by
  subst e2
  have:=h.pl
  refine⟨e1,by simp only[new_nx];omega,fun b hb _=> ?_,?_⟩
  ·rw[new_ne (by simp only[new_nx];omega),new_ne (by omega)]
  ·rw[new_ne (by simp only[new_nx];omega),new_ne (by omega)];exact h.ob) hQ
theorem dis_tb(C:DCtx Z ts sl){s:ByteArray}(hi:i≤ts.length)(hQ:Q (rS (.bool false)) (rdSb sl i true)):TC Z (tblG Tryz.prog LG GG) X 114 [.ptr 0 0,rS (.string s)] (rdD sl i true) Q R:=
 tc_rdd C.tkz (L:= [.string s]) hi (fun _ _=>rS_rel rfl) trivial (fun K p h=>(dis_bad h).mono fun v K' ⟨e1,e2⟩=>by
  subst e2
  have:=h.pl
  refine⟨e1,by simp only[new_nx];omega,fun b hb _=> ?_,?_⟩
  ·rw[new_ne (by simp only[new_nx];omega),new_ne (by omega)]
  ·rw[new_ne (by simp only[new_nx];omega),new_ne (by omega)];exact h.ob) hQ
theorem dkind_tc(C:DCtx Z ts sl){k:Int}(hi:i≤ts.length)(hQ:Q (rS (.bool (decide ((nowT ts i).kind=k)))) (rdSb sl i false)):TC Z (tblG Tryz.prog LG GG) X 116 [.ptr 0 0,rS (.int .i64 k)] (rdD sl i false) Q R:=
 tc_rdd C.tkz (L:= [.int .i64 k]) hi (fun _ _=>rS_rel rfl) trivial (fun K p h=>(dkind_wp h).mono fun v K' ⟨e1,e2⟩=>by
  subst e2
  exact⟨e1,Nat.le_succ _,fun b hb _=>new_ne (by omega),(new_ne (by have:=h.pl;omega)).trans h.ob⟩) hQ
theorem dkind_tb(C:DCtx Z ts sl){k:Int}(hi:i≤ts.length)(hQ:Q (rS (.bool false)) (rdSb sl i true)):TC Z (tblG Tryz.prog LG GG) X 116 [.ptr 0 0,rS (.int .i64 k)] (rdD sl i true) Q R:=
 tc_rdd C.tkz (L:= [.int .i64 k]) hi (fun _ _=>rS_rel rfl) trivial (fun K p h=>(dkind_bad h).mono fun v K' ⟨e1,e2⟩=>by
  subst e2
  exact⟨e1,Nat.le_refl _,fun b _ _=>rfl,h.ob⟩) hQ
end
end Can
end Go.Proofs.YticlaccbodpkeaaGreatDoor
end
section
namespace Go.Proofs.YticlaccbodpkeaaGreatDoor
namespace Can
open Go Go.RowKit
set_option linter.unusedSimpArgs false
set_option linter.unusedVariables false
set_option maxRecDepth 4000
attribute [local irreducible] TC isT nowT begT
section
variable {Z:TP} {X:Pan} {ts:List PT} {sl:Sl} {R:Value→Prop} {Q:AV→List SV→Prop} {E:Nat→Prop} {P:List Nd→Nat→Prop} {i:Nat}
theorem drd_inc(C:DCtx Z ts sl)(h:i<ts.length){a:AV}(hQ:Q a (rdSb sl (i+1) false)):Q a [SV.sc (.slice sl.q sl.n sl.c),SV.sc (.int .i64 (IntKind.wrap .i64 ((i:Int)+1))),SV.sc (.bool false)]:=by
 rw[wr_inc h C.len];exact hQ
theorem dis_tc2(C:DCtx Z ts sl){s:List UInt8}(hs:s≠ [])(hi:i≤ts.length)(h1:isT ts i s=true→Q (rS (.bool true)) (rdSb sl i false))(h2:isT ts i s=false→Q (rS (.bool false)) (rdSb sl i false)):TC Z (tblG Tryz.prog LG GG) X 114 [.ptr 0 0,rS (.string ⟨⟨s⟩⟩)] (rdD sl i false) Q R:=by
 refine dis_tc C hs hi ?_
 cases hb:isT ts i s with
 | true=>exact h1 hb
 | false=>exact h2 hb
theorem dhas_tc(C:DCtx Z ts sl){s:List UInt8}(hs:s≠ [])(hi:i≤ts.length)(h1:isT ts i s=true→i<ts.length→Q (rS (.bool true)) (rdSb sl (i+1) false))(h2:isT ts i s=false→Q (rS (.bool false)) (rdSb sl i false)):TC Z (tblG Tryz.prog LG GG) X 79 [.ptr 0 0,rS (.string ⟨⟨s⟩⟩)] (rdD sl i false) Q R:=by
 refine tc_rG dtd_ok (by rfl) (by kernel_rfl) ?_
 conv in (rF _ _).body=>reduce
 conv in (rF _ _).res=>reduce
 conv=>whnf
 refine dis_tc C hs hi ?_
 cases hb:isT ts i s with
 | false=>
   conv=>whnf
   exact h2 hb
 | true=>
   conv=>whnf
   exact drd_inc C (isT_lt' hb) (h1 hb (isT_lt' hb))
theorem dwant_tc(C:DCtx Z ts sl){s:List UInt8}(hs:s≠ [])(hi:i≤ts.length)(h1:isT ts i s=true→i<ts.length→Q (.tup []) (rdSb sl (i+1) false))(h2:isT ts i s=false→Q (.tup []) (rdSb sl i true)):TC Z (tblG Tryz.prog LG GG) X 82 [.ptr 0 0,rS (.string ⟨⟨s⟩⟩)] (rdD sl i false) Q R:=by
 refine tc_rG dtd_ok (by rfl) (by kernel_rfl) ?_
 conv in (rF _ _).body=>reduce
 conv in (rF _ _).res=>reduce
 conv=>whnf
 refine dhas_tc C hs hi (fun hb hl=> ?_) (fun hb=> ?_)
 ·conv=>whnf
  exact h1 hb hl
 ·conv=>whnf
  exact h2 hb
theorem dwantKind_tc(C:DCtx Z ts sl){k:Int}(h0:k≠0)(hi:i≤ts.length)(h1:(nowT ts i).kind=k→i<ts.length→Q (rS (.string ⟨⟨(nowT ts i).text⟩⟩)) (rdSb sl (i+1) false))(h2:(nowT ts i).kind≠k→Q (rS (.string ⟨⟨[]⟩⟩)) (rdSb sl i true)):TC Z (tblG Tryz.prog LG GG) X 86 [.ptr 0 0,rS (.int .i64 k)] (rdD sl i false) Q R:=by
 refine tc_rG dtd_ok (by rfl) (by kernel_rfl) ?_
 conv in (rF _ _).body=>reduce
 conv in (rF _ _).res=>reduce
 conv=>whnf
 refine dnow_tc C hi ?_
 conv=>whnf
 refine ifT_c (fun hb=> ?_) (fun hb=> ?_)
 ·conv=>whnf
  refine h2 ?_
  simpa using hb
 ·have hk:(nowT ts i).kind=k:=by simpa using hb
  have hl:i<ts.length:=kd_lt (by rw[hk];exact h0)
  conv=>whnf
  exact drd_inc C hl (h1 hk hl)
theorem dbegins_tc(C:DCtx Z ts sl)(hi:i≤ts.length)(hQ:Q (rS (.bool (begT ts i))) (rdSb sl i false)):TC Z (tblG Tryz.prog LG GG) X 118 [.ptr 0 0] (rdD sl i false) Q R:=by
 refine tc_rG dtd_ok (by rfl) (by kernel_rfl) ?_
 conv in (rF _ _).body=>reduce
 conv in (rF _ _).res=>reduce
 conv=>whnf
 refine dnow_tc C hi ?_
 obtain⟨t,ht⟩ : ∃t,nowT ts i=t:=⟨_,rfl⟩
 have hw:= @beg_w ts i
 have hs:= @beg_s ts i
 have hk:= @beg_k ts i
 have hn:= @beg_n ts i
 rw[ht] at hw hs hk hn⊢
 obtain⟨kd,ln,tx⟩:=t
 by_cases k4:kd=4
 ·subst k4
  rw[hk (show(4:Int)≤4∧(4:Int)≤7 by decide)] at hQ
  conv=>whnf
  exact hQ
 by_cases k5:kd=5
 ·subst k5
  rw[hk (show(4:Int)≤5∧(5:Int)≤7 by decide)] at hQ
  conv=>whnf
  exact hQ
 by_cases k6:kd=6
 ·subst k6
  rw[hk (show(4:Int)≤6∧(6:Int)≤7 by decide)] at hQ
  conv=>whnf
  exact hQ
 by_cases k7:kd=7
 ·subst k7
  rw[hk (show(4:Int)≤7∧(7:Int)≤7 by decide)] at hQ
  conv=>whnf
  exact hQ
 by_cases k8:kd=8
 ·subst k8
  conv=>whnf
  refine dis_tc2 C (by decide) hi (fun(b0:isT ts i s_lambda=true)=> ?_) fun(b0:isT ts i s_lambda=false)=> ?_
  ·conv=>whnf
   rw[hw rfl,b0] at hQ
   exact hQ
  conv=>whnf
  refine dis_tc2 C (by decide) hi (fun(b1:isT ts i s_not=true)=> ?_) fun(b1:isT ts i s_not=false)=> ?_
  ·conv=>whnf
   rw[hw rfl,b0,b1] at hQ
   exact hQ
  conv=>whnf
  refine dis_tc2 C (by decide) hi (fun(b2:isT ts i s_None=true)=> ?_) fun(b2:isT ts i s_None=false)=> ?_
  ·conv=>whnf
   rw[hw rfl,b0,b1,b2] at hQ
   exact hQ
  conv=>whnf
  refine dis_tc2 C (by decide) hi (fun(b3:isT ts i s_True=true)=> ?_) fun(b3:isT ts i s_True=false)=> ?_
  ·conv=>whnf
   rw[hw rfl,b0,b1,b2,b3] at hQ
   exact hQ
  conv=>whnf
  refine dis_tc2 C (by decide) hi (fun(b4:isT ts i s_False=true)=> ?_) fun(b4:isT ts i s_False=false)=> ?_
  ·conv=>whnf
   rw[hw rfl,b0,b1,b2,b3,b4] at hQ
   exact hQ
  conv=>whnf
  rw[hw rfl,b0,b1,b2,b3,b4] at hQ
  exact hQ
 by_cases k9:kd=9
 ·subst k9
  conv=>whnf
  refine dis_tc2 C (by decide) hi (fun(b0:isT ts i s_plus=true)=> ?_) fun(b0:isT ts i s_plus=false)=> ?_
  ·conv=>whnf
   rw[hs rfl,b0] at hQ
   exact hQ
  conv=>whnf
  refine dis_tc2 C (by decide) hi (fun(b1:isT ts i s_minus=true)=> ?_) fun(b1:isT ts i s_minus=false)=> ?_
  ·conv=>whnf
   rw[hs rfl,b0,b1] at hQ
   exact hQ
  conv=>whnf
  refine dis_tc2 C (by decide) hi (fun(b2:isT ts i s_lpar=true)=> ?_) fun(b2:isT ts i s_lpar=false)=> ?_
  ·conv=>whnf
   rw[hs rfl,b0,b1,b2] at hQ
   exact hQ
  conv=>whnf
  refine dis_tc2 C (by decide) hi (fun(b3:isT ts i s_lbrk=true)=> ?_) fun(b3:isT ts i s_lbrk=false)=> ?_
  ·conv=>whnf
   rw[hs rfl,b0,b1,b2,b3] at hQ
   exact hQ
  conv=>whnf
  refine dis_tc2 C (by decide) hi (fun(b4:isT ts i s_lbrc=true)=> ?_) fun(b4:isT ts i s_lbrc=false)=> ?_
  ·conv=>whnf
   rw[hs rfl,b0,b1,b2,b3,b4] at hQ
   exact hQ
  conv=>whnf
  rw[hs rfl,b0,b1,b2,b3,b4] at hQ
  exact hQ
 rw[hn (by simp only;omega) k8 k9] at hQ
 conv=>whnf
 refine ifT_c (fun h=>absurd (by simpa using h) k4) fun _=> ?_
 conv=>whnf
 refine ifT_c (fun h=>absurd (by simpa using h) k5) fun _=> ?_
 conv=>whnf
 refine ifT_c (fun h=>absurd (by simpa using h) k6) fun _=> ?_
 conv=>whnf
 refine ifT_c (fun h=>absurd (by simpa using h) k7) fun _=> ?_
 conv=>whnf
 refine ifT_c (fun h=>absurd (by simpa using h) k8) fun _=> ?_
 conv=>whnf
 refine ifT_c (fun h=>absurd (by simpa using h) k9) fun _=> ?_
 conv=>whnf
 exact hQ
theorem daugment_tc(C:DCtx Z ts sl)(hi:i≤ts.length)(h1:augT ts i≠0→i<ts.length→Q (rS (.int .i64 (augT ts i:Nat))) (rdSb sl (i+1) false))(h2:augT ts i=0→Q (rS (.int .i64 0)) (rdSb sl i false)):TC Z (tblG Tryz.prog LG GG) X 154 [.ptr 0 0] (rdD sl i false) Q R:=by
 refine tc_rG dtd_ok (by rfl) (by kernel_rfl) ?_
 conv in (rF _ _).body=>reduce
 conv in (rF _ _).res=>reduce
 conv=>whnf
 refine dhas_tc C (by decide) hi (fun(b0:isT ts i s_plusA=true) hl=> ?_) (fun(b0:isT ts i s_plusA=false)=> ?_)
 ·conv=>whnf
  have e:augT ts i=1:=by simp[augT,b0]
  have h1:=h1 (by rw[e];decide) hl
  rw[e] at h1
  exact h1
 conv=>whnf
 refine dhas_tc C (by decide) hi (fun(b1:isT ts i s_minusA=true) hl=> ?_) (fun(b1:isT ts i s_minusA=false)=> ?_)
 ·conv=>whnf
  have e:augT ts i=2:=by simp[augT,b0,b1]
  have h1:=h1 (by rw[e];decide) hl
  rw[e] at h1
  exact h1
 conv=>whnf
 refine dhas_tc C (by decide) hi (fun(b2:isT ts i s_starA=true) hl=> ?_) (fun(b2:isT ts i s_starA=false)=> ?_)
 ·conv=>whnf
  have e:augT ts i=3:=by simp[augT,b0,b1,b2]
  have h1:=h1 (by rw[e];decide) hl
  rw[e] at h1
  exact h1
 conv=>whnf
 refine dhas_tc C (by decide) hi (fun(b3:isT ts i s_slashA=true) hl=> ?_) (fun(b3:isT ts i s_slashA=false)=> ?_)
 ·conv=>whnf
  have e:augT ts i=4:=by simp[augT,b0,b1,b2,b3]
  have h1:=h1 (by rw[e];decide) hl
  rw[e] at h1
  exact h1
 conv=>whnf
 refine dhas_tc C (by decide) hi (fun(b4:isT ts i s_dslashA=true) hl=> ?_) (fun(b4:isT ts i s_dslashA=false)=> ?_)
 ·conv=>whnf
  have e:augT ts i=5:=by simp[augT,b0,b1,b2,b3,b4]
  have h1:=h1 (by rw[e];decide) hl
  rw[e] at h1
  exact h1
 conv=>whnf
 refine dhas_tc C (by decide) hi (fun(b5:isT ts i s_pctA=true) hl=> ?_) (fun(b5:isT ts i s_pctA=false)=> ?_)
 ·conv=>whnf
  have e:augT ts i=6:=by simp[augT,b0,b1,b2,b3,b4,b5]
  have h1:=h1 (by rw[e];decide) hl
  rw[e] at h1
  exact h1
 conv=>whnf
 refine dhas_tc C (by decide) hi (fun(b6:isT ts i s_dstarA=true) hl=> ?_) (fun(b6:isT ts i s_dstarA=false)=> ?_)
 ·conv=>whnf
  have e:augT ts i=7:=by simp[augT,b0,b1,b2,b3,b4,b5,b6]
  have h1:=h1 (by rw[e];decide) hl
  rw[e] at h1
  exact h1
 conv=>whnf
 exact h2 (by simp[augT,b0,b1,b2,b3,b4,b5,b6])
theorem doperator_tc(C:DCtx Z ts sl)(hi:i≤ts.length)(hE : ∀e,opT ts i= .error e→Q (rS (.int .i64 8)) (rdSb sl e true))(hQ : ∀op j,opT ts i= .ok (op,j)→j≤ts.length→Q (rS (.int .i64 (op:Nat))) (rdSb sl j false)):TC Z (tblG Tryz.prog LG GG) X 193 [.ptr 0 0] (rdD sl i false) Q R:=by
 refine tc_rG dtd_ok (by rfl) (by kernel_rfl) ?_
 conv in (rF _ _).body=>reduce
 conv in (rF _ _).res=>reduce
 conv=>whnf
 refine dhas_tc C (by decide) hi (fun(b0:isT ts i s_eqeq=true) hl=> ?_) (fun(b0:isT ts i s_eqeq=false)=> ?_)
 ·conv=>whnf
  exact hQ 1 (i+1) (by simp[opT,b0]) hl
 conv=>whnf
 refine dhas_tc C (by decide) hi (fun(b1:isT ts i s_bne=true) hl=> ?_) (fun(b1:isT ts i s_bne=false)=> ?_)
 ·conv=>whnf
  exact hQ 2 (i+1) (by simp[opT,b0,b1]) hl
 conv=>whnf
 refine dhas_tc C (by decide) hi (fun(b2:isT ts i s_lt=true) hl=> ?_) (fun(b2:isT ts i s_lt=false)=> ?_)
 ·conv=>whnf
  exact hQ 3 (i+1) (by simp[opT,b0,b1,b2]) hl
 conv=>whnf
 refine dhas_tc C (by decide) hi (fun(b3:isT ts i s_le=true) hl=> ?_) (fun(b3:isT ts i s_le=false)=> ?_)
 ·conv=>whnf
  exact hQ 4 (i+1) (by simp[opT,b0,b1,b2,b3]) hl
 conv=>whnf
 refine dhas_tc C (by decide) hi (fun(b4:isT ts i s_gt=true) hl=> ?_) (fun(b4:isT ts i s_gt=false)=> ?_)
 ·conv=>whnf
  exact hQ 5 (i+1) (by simp[opT,b0,b1,b2,b3,b4]) hl
 conv=>whnf
 refine dhas_tc C (by decide) hi (fun(b5:isT ts i s_ge=true) hl=> ?_) (fun(b5:isT ts i s_ge=false)=> ?_)
 ·conv=>whnf
  exact hQ 6 (i+1) (by simp[opT,b0,b1,b2,b3,b4,b5]) hl
 conv=>whnf
 refine dhas_tc C (by decide) hi (fun(b6:isT ts i s_in=true) hl=> ?_) (fun(b6:isT ts i s_in=false)=> ?_)
 ·conv=>whnf
  exact hQ 7 (i+1) (by simp[opT,b0,b1,b2,b3,b4,b5,b6]) hl
 conv=>whnf
 refine dhas_tc C (by decide) hi (fun(b7:isT ts i s_not=true) hl=> ?_) (fun(b7:isT ts i s_not=false)=> ?_)
 ·conv=>whnf
  refine dwant_tc C (by decide) hl (fun(c0:isT ts (i+1) s_in=true) hl=> ?_) (fun(c0:isT ts (i+1) s_in=false)=> ?_)
  ·conv=>whnf
   exact hQ 8 (i+2) (by simp[opT,b0,b1,b2,b3,b4,b5,b6,b7,c0]) hl
  ·conv=>whnf
   exact hE (i+1) (by simp[opT,b0,b1,b2,b3,b4,b5,b6,b7,c0])
 conv=>whnf
 refine dhas_tc C (by decide) hi (fun(b8:isT ts i s_is=true) hl=> ?_) (fun(b8:isT ts i s_is=false)=> ?_)
 ·conv=>whnf
  refine dhas_tc C (by decide) hl (fun(c0:isT ts (i+1) s_not=true) hl=> ?_) (fun(c0:isT ts (i+1) s_not=false)=> ?_)
  ·conv=>whnf
   exact hQ 10 (i+2) (by simp[opT,b0,b1,b2,b3,b4,b5,b6,b7,b8,c0]) hl
  ·conv=>whnf
   exact hQ 9 (i+1) (by simp[opT,b0,b1,b2,b3,b4,b5,b6,b7,b8,c0]) hl
 conv=>whnf
 exact hQ 0 i (by simp[opT,b0,b1,b2,b3,b4,b5,b6,b7,b8]) hi
theorem dhas_tb(C:DCtx Z ts sl){s:ByteArray}(hi:i≤ts.length)(hQ:Q (rS (.bool false)) (rdSb sl i true)):TC Z (tblG Tryz.prog LG GG) X 79 [.ptr 0 0,rS (.string s)] (rdD sl i true) Q R:=by
 refine tc_rG dtd_ok (by rfl) (by kernel_rfl) ?_
 conv in (rF _ _).body=>reduce
 conv in (rF _ _).res=>reduce
 conv=>whnf
 refine dis_tb C hi ?_
 conv=>whnf
 exact hQ
theorem dwant_tb(C:DCtx Z ts sl){s:ByteArray}(hi:i≤ts.length)(hQ:Q (.tup []) (rdSb sl i true)):TC Z (tblG Tryz.prog LG GG) X 82 [.ptr 0 0,rS (.string s)] (rdD sl i true) Q R:=by
 refine tc_rG dtd_ok (by rfl) (by kernel_rfl) ?_
 conv in (rF _ _).body=>reduce
 conv in (rF _ _).res=>reduce
 conv=>whnf
 refine dhas_tb C hi ?_
 conv=>whnf
 exact hQ
theorem dwantKind_tb(C:DCtx Z ts sl){k:Int}(hi:i≤ts.length)(hQ:Q (rS (.string ⟨⟨[]⟩⟩)) (rdSb sl i true)):TC Z (tblG Tryz.prog LG GG) X 86 [.ptr 0 0,rS (.int .i64 k)] (rdD sl i true) Q R:=by
 refine tc_rG dtd_ok (by rfl) (by kernel_rfl) ?_
 conv in (rF _ _).body=>reduce
 conv in (rF _ _).res=>reduce
 conv=>whnf
 refine dnow_tc C hi ?_
 conv=>whnf
 exact hQ
theorem daugment_tb(C:DCtx Z ts sl)(hi:i≤ts.length)(hQ:Q (rS (.int .i64 0)) (rdSb sl i true)):TC Z (tblG Tryz.prog LG GG) X 154 [.ptr 0 0] (rdD sl i true) Q R:=by
 refine tc_rG dtd_ok (by rfl) (by kernel_rfl) ?_
 conv in (rF _ _).body=>reduce
 conv in (rF _ _).res=>reduce
 conv=>whnf
 refine dhas_tb C hi ?_
 conv=>whnf
 refine dhas_tb C hi ?_
 conv=>whnf
 refine dhas_tb C hi ?_
 conv=>whnf
 refine dhas_tb C hi ?_
 conv=>whnf
 refine dhas_tb C hi ?_
 conv=>whnf
 refine dhas_tb C hi ?_
 conv=>whnf
 refine dhas_tb C hi ?_
 conv=>whnf
 exact hQ
theorem doperator_tb(C:DCtx Z ts sl)(hi:i≤ts.length)(hQ:Q (rS (.int .i64 0)) (rdSb sl i true)):TC Z (tblG Tryz.prog LG GG) X 193 [.ptr 0 0] (rdD sl i true) Q R:=by
 refine tc_rG dtd_ok (by rfl) (by kernel_rfl) ?_
 conv in (rF _ _).body=>reduce
 conv in (rF _ _).res=>reduce
 conv=>whnf
 refine dhas_tb C hi ?_
 conv=>whnf
 refine dhas_tb C hi ?_
 conv=>whnf
 refine dhas_tb C hi ?_
 conv=>whnf
 refine dhas_tb C hi ?_
 conv=>whnf
 refine dhas_tb C hi ?_
 conv=>whnf
 refine dhas_tb C hi ?_
 conv=>whnf
 refine dhas_tb C hi ?_
 conv=>whnf
 refine dhas_tb C hi ?_
 conv=>whnf
 refine dhas_tb C hi ?_
 conv=>whnf
 exact hQ
theorem dbegins_tb(C:DCtx Z ts sl)(hi:i≤ts.length)(hQ:Q (rS (.bool false)) (rdSb sl i true)):TC Z (tblG Tryz.prog LG GG) X 118 [.ptr 0 0] (rdD sl i true) Q R:=by
 refine tc_rG dtd_ok (by rfl) (by kernel_rfl) ?_
 conv in (rF _ _).body=>reduce
 conv in (rF _ _).res=>reduce
 conv=>whnf
 refine dnow_tc C hi ?_
 obtain⟨t,ht⟩ : ∃t,nowT ts i=t:=⟨_,rfl⟩
 rw[ht]
 obtain⟨kd,ln,tx⟩:=t
 by_cases k4:kd=4
 ·subst k4
  conv=>whnf
  exact hQ
 by_cases k5:kd=5
 ·subst k5
  conv=>whnf
  exact hQ
 by_cases k6:kd=6
 ·subst k6
  conv=>whnf
  exact hQ
 by_cases k7:kd=7
 ·subst k7
  conv=>whnf
  exact hQ
 by_cases k8:kd=8
 ·subst k8
  conv=>whnf
  refine dis_tb C hi ?_
  conv=>whnf
  refine dis_tb C hi ?_
  conv=>whnf
  refine dis_tb C hi ?_
  conv=>whnf
  refine dis_tb C hi ?_
  conv=>whnf
  refine dis_tb C hi ?_
  conv=>whnf
  exact hQ
 by_cases k9:kd=9
 ·subst k9
  conv=>whnf
  refine dis_tb C hi ?_
  conv=>whnf
  refine dis_tb C hi ?_
  conv=>whnf
  refine dis_tb C hi ?_
  conv=>whnf
  refine dis_tb C hi ?_
  conv=>whnf
  refine dis_tb C hi ?_
  conv=>whnf
  exact hQ
 conv=>whnf
 refine ifT_c (fun h=>absurd (by simpa using h) k4) fun _=> ?_
 conv=>whnf
 refine ifT_c (fun h=>absurd (by simpa using h) k5) fun _=> ?_
 conv=>whnf
 refine ifT_c (fun h=>absurd (by simpa using h) k6) fun _=> ?_
 conv=>whnf
 refine ifT_c (fun h=>absurd (by simpa using h) k7) fun _=> ?_
 conv=>whnf
 refine ifT_c (fun h=>absurd (by simpa using h) k8) fun _=> ?_
 conv=>whnf
 refine ifT_c (fun h=>absurd (by simpa using h) k9) fun _=> ?_
 conv=>whnf
 exact hQ
end
end Can
end Go.Proofs.YticlaccbodpkeaaGreatDoor
end
section
namespace Go.Proofs.YticlaccbodpkeaaGreatDoor
namespace Can
open Go Go.RowKit
set_option linter.unusedSimpArgs false
set_option linter.unusedVariables false
set_option maxRecDepth 4000
attribute [local irreducible] TC isT nowT begT
def DB (Z:TP)(X:Pan)(ts:List PT)(sl:Sl)(F:FuncId)(args:List AV):Prop:=
 ∀(i:Nat) (Q:AV→List SV→Prop) (R:Value→Prop),i≤ts.length→(∀k l x o gs,(∀g∈gs,NdG g)→Q (gA k l x o gs) (rdSb sl i true))→TC Z (tblG Tryz.prog LG GG) X F args (rdD sl i true) Q R
section
variable {Z:TP} {X:Pan} {ts:List PT} {sl:Sl}
theorem nd_nil : ∀g∈([]:List (List SV)),NdG g:=fun _ h=>by cases h
theorem nd_one{a:List SV}(h:NdG a) : ∀g∈ [a],NdG g:=fun _ h=>by cases h with
 | head=>assumption
 | tail _ h=>cases h
theorem tckd{Z:TP}{X:Pan}{args:List AV}{self:Self}{Q:AV→List SV→Prop}{R:Value→Prop}(g:FuncId)(h:TC Z (tblG Tryz.prog LG GG) X g args self Q R):TC Z (tblG Tryz.prog LG GG) X g args self Q R:=h
theorem atom_b(C:DCtx Z ts sl):DB Z X ts sl 151 [.ptr 0 0]:=by
 intro i Q R hi hQ
 refine tc_rG dtd_ok (by rfl) (by kernel_rfl) ?_
 conv in (rF _ _).body=>reduce
 conv in (rF _ _).res=>reduce
 conv=>whnf
 repeat' first
  | ((with_reducible refine tckd 79 ?_);refine dhas_tb C hi ?_;(conv=>whnf))
  | ((with_reducible refine tckd 44 ?_);refine dnow_tc C hi ?_;(conv=>whnf))
  | ((with_reducible refine tckd 114 ?_);refine dis_tb C hi ?_;(conv=>whnf))
  | ((with_reducible refine tckd 82 ?_);refine dwant_tb C hi ?_;(conv=>whnf))
  | ((with_reducible refine tckd 86 ?_);refine dwantKind_tb C hi ?_;(conv=>whnf))
  | ((with_reducible refine tckd 118 ?_);refine dbegins_tb C hi ?_;(conv=>whnf))
  | ((with_reducible refine tckd 116 ?_);refine dkind_tb C hi ?_;(conv=>whnf))
  | ((with_reducible refine tckd 193 ?_);refine doperator_tb C hi ?_;(conv=>whnf))
  | ((with_reducible refine tckd 154 ?_);refine daugment_tb C hi ?_;(conv=>whnf))
  | (refine loop_once [] rfl ?_;intro f;(conv=>whnf))
  | (refine⟨rfl,?_⟩;(conv=>whnf))
  | (intro hmx;(conv=>whnf))
  | ((with_reducible apply ifT_c)<;>(intro hif;(conv=>whnf)))
 all_goals first | exact hQ | exact hQ _ _ _ _ _ nd_nil | exact hQ _ _ _ _ _ hg | exact hQ _ _ _ _ _ (nd_one (.mk hg))
theorem primary_b(C:DCtx Z ts sl):DB Z X ts sl 121 [.ptr 0 0]:=by
 intro i Q R hi hQ
 refine tc_rG dtd_ok (by rfl) (by kernel_rfl) ?_
 conv in (rF _ _).body=>reduce
 conv in (rF _ _).res=>reduce
 conv=>whnf
 repeat' first
  | ((with_reducible refine tckd 79 ?_);refine dhas_tb C hi ?_;(conv=>whnf))
  | ((with_reducible refine tckd 44 ?_);refine dnow_tc C hi ?_;(conv=>whnf))
  | ((with_reducible refine tckd 114 ?_);refine dis_tb C hi ?_;(conv=>whnf))
  | ((with_reducible refine tckd 82 ?_);refine dwant_tb C hi ?_;(conv=>whnf))
  | ((with_reducible refine tckd 86 ?_);refine dwantKind_tb C hi ?_;(conv=>whnf))
  | ((with_reducible refine tckd 118 ?_);refine dbegins_tb C hi ?_;(conv=>whnf))
  | ((with_reducible refine tckd 116 ?_);refine dkind_tb C hi ?_;(conv=>whnf))
  | ((with_reducible refine tckd 193 ?_);refine doperator_tb C hi ?_;(conv=>whnf))
  | ((with_reducible refine tckd 154 ?_);refine daugment_tb C hi ?_;(conv=>whnf))
  | ((with_reducible refine tckd 151 ?_);refine atom_b C i _ _ hi ?_;intro kat l x o gs hg;(conv=>whnf))
  | (refine loop_once [] rfl ?_;intro f;(conv=>whnf))
  | (refine⟨rfl,?_⟩;(conv=>whnf))
  | (intro hmx;(conv=>whnf))
  | ((with_reducible apply ifT_c)<;>(intro hif;(conv=>whnf)))
 all_goals first | exact hQ | exact hQ _ _ _ _ _ nd_nil | exact hQ _ _ _ _ _ hg | exact hQ _ _ _ _ _ (nd_one (.mk hg))
theorem factor_b(C:DCtx Z ts sl):DB Z X ts sl 202 [.ptr 0 0]:=by
 intro i Q R hi hQ
 refine tc_rG dtd_ok (by rfl) (by kernel_rfl) ?_
 conv in (rF _ _).body=>reduce
 conv in (rF _ _).res=>reduce
 conv=>whnf
 repeat' first
  | ((with_reducible refine tckd 79 ?_);refine dhas_tb C hi ?_;(conv=>whnf))
  | ((with_reducible refine tckd 44 ?_);refine dnow_tc C hi ?_;(conv=>whnf))
  | ((with_reducible refine tckd 114 ?_);refine dis_tb C hi ?_;(conv=>whnf))
  | ((with_reducible refine tckd 82 ?_);refine dwant_tb C hi ?_;(conv=>whnf))
  | ((with_reducible refine tckd 86 ?_);refine dwantKind_tb C hi ?_;(conv=>whnf))
  | ((with_reducible refine tckd 118 ?_);refine dbegins_tb C hi ?_;(conv=>whnf))
  | ((with_reducible refine tckd 116 ?_);refine dkind_tb C hi ?_;(conv=>whnf))
  | ((with_reducible refine tckd 193 ?_);refine doperator_tb C hi ?_;(conv=>whnf))
  | ((with_reducible refine tckd 154 ?_);refine daugment_tb C hi ?_;(conv=>whnf))
  | ((with_reducible refine tckd 151 ?_);refine atom_b C i _ _ hi ?_;intro kat l x o gs hg;(conv=>whnf))
  | ((with_reducible refine tckd 121 ?_);refine primary_b C i _ _ hi ?_;intro kpr l x o gs hg;(conv=>whnf))
  | (refine loop_once [] rfl ?_;intro f;(conv=>whnf))
  | (refine⟨rfl,?_⟩;(conv=>whnf))
  | (intro hmx;(conv=>whnf))
  | ((with_reducible apply ifT_c)<;>(intro hif;(conv=>whnf)))
 all_goals first | exact hQ | exact hQ _ _ _ _ _ nd_nil | exact hQ _ _ _ _ _ hg | exact hQ _ _ _ _ _ (nd_one (.mk hg))
theorem term_b(C:DCtx Z ts sl):DB Z X ts sl 199 [.ptr 0 0]:=by
 intro i Q R hi hQ
 refine tc_rG dtd_ok (by rfl) (by kernel_rfl) ?_
 conv in (rF _ _).body=>reduce
 conv in (rF _ _).res=>reduce
 conv=>whnf
 repeat' first
  | ((with_reducible refine tckd 79 ?_);refine dhas_tb C hi ?_;(conv=>whnf))
  | ((with_reducible refine tckd 44 ?_);refine dnow_tc C hi ?_;(conv=>whnf))
  | ((with_reducible refine tckd 114 ?_);refine dis_tb C hi ?_;(conv=>whnf))
  | ((with_reducible refine tckd 82 ?_);refine dwant_tb C hi ?_;(conv=>whnf))
  | ((with_reducible refine tckd 86 ?_);refine dwantKind_tb C hi ?_;(conv=>whnf))
  | ((with_reducible refine tckd 118 ?_);refine dbegins_tb C hi ?_;(conv=>whnf))
  | ((with_reducible refine tckd 116 ?_);refine dkind_tb C hi ?_;(conv=>whnf))
  | ((with_reducible refine tckd 193 ?_);refine doperator_tb C hi ?_;(conv=>whnf))
  | ((with_reducible refine tckd 154 ?_);refine daugment_tb C hi ?_;(conv=>whnf))
  | ((with_reducible refine tckd 151 ?_);refine atom_b C i _ _ hi ?_;intro kat l x o gs hg;(conv=>whnf))
  | ((with_reducible refine tckd 121 ?_);refine primary_b C i _ _ hi ?_;intro kpr l x o gs hg;(conv=>whnf))
  | ((with_reducible refine tckd 202 ?_);refine factor_b C i _ _ hi ?_;intro kfa l x o gs hg;(conv=>whnf))
  | (refine loop_once [] rfl ?_;intro f;(conv=>whnf))
  | (refine⟨rfl,?_⟩;(conv=>whnf))
  | (intro hmx;(conv=>whnf))
  | ((with_reducible apply ifT_c)<;>(intro hif;(conv=>whnf)))
 all_goals first | exact hQ | exact hQ _ _ _ _ _ nd_nil | exact hQ _ _ _ _ _ hg | exact hQ _ _ _ _ _ (nd_one (.mk hg))
theorem arith_b(C:DCtx Z ts sl):DB Z X ts sl 192 [.ptr 0 0]:=by
 intro i Q R hi hQ
 refine tc_rG dtd_ok (by rfl) (by kernel_rfl) ?_
 conv in (rF _ _).body=>reduce
 conv in (rF _ _).res=>reduce
 conv=>whnf
 repeat' first
  | ((with_reducible refine tckd 79 ?_);refine dhas_tb C hi ?_;(conv=>whnf))
  | ((with_reducible refine tckd 44 ?_);refine dnow_tc C hi ?_;(conv=>whnf))
  | ((with_reducible refine tckd 114 ?_);refine dis_tb C hi ?_;(conv=>whnf))
  | ((with_reducible refine tckd 82 ?_);refine dwant_tb C hi ?_;(conv=>whnf))
  | ((with_reducible refine tckd 86 ?_);refine dwantKind_tb C hi ?_;(conv=>whnf))
  | ((with_reducible refine tckd 118 ?_);refine dbegins_tb C hi ?_;(conv=>whnf))
  | ((with_reducible refine tckd 116 ?_);refine dkind_tb C hi ?_;(conv=>whnf))
  | ((with_reducible refine tckd 193 ?_);refine doperator_tb C hi ?_;(conv=>whnf))
  | ((with_reducible refine tckd 154 ?_);refine daugment_tb C hi ?_;(conv=>whnf))
  | ((with_reducible refine tckd 151 ?_);refine atom_b C i _ _ hi ?_;intro kat l x o gs hg;(conv=>whnf))
  | ((with_reducible refine tckd 121 ?_);refine primary_b C i _ _ hi ?_;intro kpr l x o gs hg;(conv=>whnf))
  | ((with_reducible refine tckd 202 ?_);refine factor_b C i _ _ hi ?_;intro kfa l x o gs hg;(conv=>whnf))
  | ((with_reducible refine tckd 199 ?_);refine term_b C i _ _ hi ?_;intro kte l x o gs hg;(conv=>whnf))
  | (refine loop_once [] rfl ?_;intro f;(conv=>whnf))
  | (refine⟨rfl,?_⟩;(conv=>whnf))
  | (intro hmx;(conv=>whnf))
  | ((with_reducible apply ifT_c)<;>(intro hif;(conv=>whnf)))
 all_goals first | exact hQ | exact hQ _ _ _ _ _ nd_nil | exact hQ _ _ _ _ _ hg | exact hQ _ _ _ _ _ (nd_one (.mk hg))
theorem compare_b(C:DCtx Z ts sl):DB Z X ts sl 186 [.ptr 0 0]:=by
 intro i Q R hi hQ
 refine tc_rG dtd_ok (by rfl) (by kernel_rfl) ?_
 conv in (rF _ _).body=>reduce
 conv in (rF _ _).res=>reduce
 conv=>whnf
 repeat' first
  | ((with_reducible refine tckd 79 ?_);refine dhas_tb C hi ?_;(conv=>whnf))
  | ((with_reducible refine tckd 44 ?_);refine dnow_tc C hi ?_;(conv=>whnf))
  | ((with_reducible refine tckd 114 ?_);refine dis_tb C hi ?_;(conv=>whnf))
  | ((with_reducible refine tckd 82 ?_);refine dwant_tb C hi ?_;(conv=>whnf))
  | ((with_reducible refine tckd 86 ?_);refine dwantKind_tb C hi ?_;(conv=>whnf))
  | ((with_reducible refine tckd 118 ?_);refine dbegins_tb C hi ?_;(conv=>whnf))
  | ((with_reducible refine tckd 116 ?_);refine dkind_tb C hi ?_;(conv=>whnf))
  | ((with_reducible refine tckd 193 ?_);refine doperator_tb C hi ?_;(conv=>whnf))
  | ((with_reducible refine tckd 154 ?_);refine daugment_tb C hi ?_;(conv=>whnf))
  | ((with_reducible refine tckd 151 ?_);refine atom_b C i _ _ hi ?_;intro kat l x o gs hg;(conv=>whnf))
  | ((with_reducible refine tckd 121 ?_);refine primary_b C i _ _ hi ?_;intro kpr l x o gs hg;(conv=>whnf))
  | ((with_reducible refine tckd 202 ?_);refine factor_b C i _ _ hi ?_;intro kfa l x o gs hg;(conv=>whnf))
  | ((with_reducible refine tckd 199 ?_);refine term_b C i _ _ hi ?_;intro kte l x o gs hg;(conv=>whnf))
  | ((with_reducible refine tckd 192 ?_);refine arith_b C i _ _ hi ?_;intro kar l x o gs hg;(conv=>whnf))
  | (refine loop_once [] rfl ?_;intro f;(conv=>whnf))
  | (refine⟨rfl,?_⟩;(conv=>whnf))
  | (intro hmx;(conv=>whnf))
  | ((with_reducible apply ifT_c)<;>(intro hif;(conv=>whnf)))
 all_goals first | exact hQ | exact hQ _ _ _ _ _ nd_nil | exact hQ _ _ _ _ _ hg | exact hQ _ _ _ _ _ (nd_one (.mk hg))
theorem not__b(C:DCtx Z ts sl):DB Z X ts sl 172 [.ptr 0 0]:=by
 intro i Q R hi hQ
 refine tc_rG dtd_ok (by rfl) (by kernel_rfl) ?_
 conv in (rF _ _).body=>reduce
 conv in (rF _ _).res=>reduce
 conv=>whnf
 repeat' first
  | ((with_reducible refine tckd 79 ?_);refine dhas_tb C hi ?_;(conv=>whnf))
  | ((with_reducible refine tckd 44 ?_);refine dnow_tc C hi ?_;(conv=>whnf))
  | ((with_reducible refine tckd 114 ?_);refine dis_tb C hi ?_;(conv=>whnf))
  | ((with_reducible refine tckd 82 ?_);refine dwant_tb C hi ?_;(conv=>whnf))
  | ((with_reducible refine tckd 86 ?_);refine dwantKind_tb C hi ?_;(conv=>whnf))
  | ((with_reducible refine tckd 118 ?_);refine dbegins_tb C hi ?_;(conv=>whnf))
  | ((with_reducible refine tckd 116 ?_);refine dkind_tb C hi ?_;(conv=>whnf))
  | ((with_reducible refine tckd 193 ?_);refine doperator_tb C hi ?_;(conv=>whnf))
  | ((with_reducible refine tckd 154 ?_);refine daugment_tb C hi ?_;(conv=>whnf))
  | ((with_reducible refine tckd 151 ?_);refine atom_b C i _ _ hi ?_;intro kat l x o gs hg;(conv=>whnf))
  | ((with_reducible refine tckd 121 ?_);refine primary_b C i _ _ hi ?_;intro kpr l x o gs hg;(conv=>whnf))
  | ((with_reducible refine tckd 202 ?_);refine factor_b C i _ _ hi ?_;intro kfa l x o gs hg;(conv=>whnf))
  | ((with_reducible refine tckd 199 ?_);refine term_b C i _ _ hi ?_;intro kte l x o gs hg;(conv=>whnf))
  | ((with_reducible refine tckd 192 ?_);refine arith_b C i _ _ hi ?_;intro kar l x o gs hg;(conv=>whnf))
  | ((with_reducible refine tckd 186 ?_);refine compare_b C i _ _ hi ?_;intro kco l x o gs hg;(conv=>whnf))
  | (refine loop_once [] rfl ?_;intro f;(conv=>whnf))
  | (refine⟨rfl,?_⟩;(conv=>whnf))
  | (intro hmx;(conv=>whnf))
  | ((with_reducible apply ifT_c)<;>(intro hif;(conv=>whnf)))
 all_goals first | exact hQ | exact hQ _ _ _ _ _ nd_nil | exact hQ _ _ _ _ _ hg | exact hQ _ _ _ _ _ (nd_one (.mk hg))
theorem and__b(C:DCtx Z ts sl):DB Z X ts sl 149 [.ptr 0 0]:=by
 intro i Q R hi hQ
 refine tc_rG dtd_ok (by rfl) (by kernel_rfl) ?_
 conv in (rF _ _).body=>reduce
 conv in (rF _ _).res=>reduce
 conv=>whnf
 repeat' first
  | ((with_reducible refine tckd 79 ?_);refine dhas_tb C hi ?_;(conv=>whnf))
  | ((with_reducible refine tckd 44 ?_);refine dnow_tc C hi ?_;(conv=>whnf))
  | ((with_reducible refine tckd 114 ?_);refine dis_tb C hi ?_;(conv=>whnf))
  | ((with_reducible refine tckd 82 ?_);refine dwant_tb C hi ?_;(conv=>whnf))
  | ((with_reducible refine tckd 86 ?_);refine dwantKind_tb C hi ?_;(conv=>whnf))
  | ((with_reducible refine tckd 118 ?_);refine dbegins_tb C hi ?_;(conv=>whnf))
  | ((with_reducible refine tckd 116 ?_);refine dkind_tb C hi ?_;(conv=>whnf))
  | ((with_reducible refine tckd 193 ?_);refine doperator_tb C hi ?_;(conv=>whnf))
  | ((with_reducible refine tckd 154 ?_);refine daugment_tb C hi ?_;(conv=>whnf))
  | ((with_reducible refine tckd 151 ?_);refine atom_b C i _ _ hi ?_;intro kat l x o gs hg;(conv=>whnf))
  | ((with_reducible refine tckd 121 ?_);refine primary_b C i _ _ hi ?_;intro kpr l x o gs hg;(conv=>whnf))
  | ((with_reducible refine tckd 202 ?_);refine factor_b C i _ _ hi ?_;intro kfa l x o gs hg;(conv=>whnf))
  | ((with_reducible refine tckd 199 ?_);refine term_b C i _ _ hi ?_;intro kte l x o gs hg;(conv=>whnf))
  | ((with_reducible refine tckd 192 ?_);refine arith_b C i _ _ hi ?_;intro kar l x o gs hg;(conv=>whnf))
  | ((with_reducible refine tckd 186 ?_);refine compare_b C i _ _ hi ?_;intro kco l x o gs hg;(conv=>whnf))
  | ((with_reducible refine tckd 172 ?_);refine not__b C i _ _ hi ?_;intro kno l x o gs hg;(conv=>whnf))
  | (refine loop_once [] rfl ?_;intro f;(conv=>whnf))
  | (refine⟨rfl,?_⟩;(conv=>whnf))
  | (intro hmx;(conv=>whnf))
  | ((with_reducible apply ifT_c)<;>(intro hif;(conv=>whnf)))
 all_goals first | exact hQ | exact hQ _ _ _ _ _ nd_nil | exact hQ _ _ _ _ _ hg | exact hQ _ _ _ _ _ (nd_one (.mk hg))
theorem or__b(C:DCtx Z ts sl):DB Z X ts sl 115 [.ptr 0 0]:=by
 intro i Q R hi hQ
 refine tc_rG dtd_ok (by rfl) (by kernel_rfl) ?_
 conv in (rF _ _).body=>reduce
 conv in (rF _ _).res=>reduce
 conv=>whnf
 repeat' first
  | ((with_reducible refine tckd 79 ?_);refine dhas_tb C hi ?_;(conv=>whnf))
  | ((with_reducible refine tckd 44 ?_);refine dnow_tc C hi ?_;(conv=>whnf))
  | ((with_reducible refine tckd 114 ?_);refine dis_tb C hi ?_;(conv=>whnf))
  | ((with_reducible refine tckd 82 ?_);refine dwant_tb C hi ?_;(conv=>whnf))
  | ((with_reducible refine tckd 86 ?_);refine dwantKind_tb C hi ?_;(conv=>whnf))
  | ((with_reducible refine tckd 118 ?_);refine dbegins_tb C hi ?_;(conv=>whnf))
  | ((with_reducible refine tckd 116 ?_);refine dkind_tb C hi ?_;(conv=>whnf))
  | ((with_reducible refine tckd 193 ?_);refine doperator_tb C hi ?_;(conv=>whnf))
  | ((with_reducible refine tckd 154 ?_);refine daugment_tb C hi ?_;(conv=>whnf))
  | ((with_reducible refine tckd 151 ?_);refine atom_b C i _ _ hi ?_;intro kat l x o gs hg;(conv=>whnf))
  | ((with_reducible refine tckd 121 ?_);refine primary_b C i _ _ hi ?_;intro kpr l x o gs hg;(conv=>whnf))
  | ((with_reducible refine tckd 202 ?_);refine factor_b C i _ _ hi ?_;intro kfa l x o gs hg;(conv=>whnf))
  | ((with_reducible refine tckd 199 ?_);refine term_b C i _ _ hi ?_;intro kte l x o gs hg;(conv=>whnf))
  | ((with_reducible refine tckd 192 ?_);refine arith_b C i _ _ hi ?_;intro kar l x o gs hg;(conv=>whnf))
  | ((with_reducible refine tckd 186 ?_);refine compare_b C i _ _ hi ?_;intro kco l x o gs hg;(conv=>whnf))
  | ((with_reducible refine tckd 172 ?_);refine not__b C i _ _ hi ?_;intro kno l x o gs hg;(conv=>whnf))
  | ((with_reducible refine tckd 149 ?_);refine and__b C i _ _ hi ?_;intro kan l x o gs hg;(conv=>whnf))
  | (refine loop_once [] rfl ?_;intro f;(conv=>whnf))
  | (refine⟨rfl,?_⟩;(conv=>whnf))
  | (intro hmx;(conv=>whnf))
  | ((with_reducible apply ifT_c)<;>(intro hif;(conv=>whnf)))
 all_goals first | exact hQ | exact hQ _ _ _ _ _ nd_nil | exact hQ _ _ _ _ _ hg | exact hQ _ _ _ _ _ (nd_one (.mk hg))
theorem expr_b(C:DCtx Z ts sl):DB Z X ts sl 81 [.ptr 0 0]:=by
 intro i Q R hi hQ
 refine tc_rG dtd_ok (by rfl) (by kernel_rfl) ?_
 conv in (rF _ _).body=>reduce
 conv in (rF _ _).res=>reduce
 conv=>whnf
 repeat' first
  | ((with_reducible refine tckd 79 ?_);refine dhas_tb C hi ?_;(conv=>whnf))
  | ((with_reducible refine tckd 44 ?_);refine dnow_tc C hi ?_;(conv=>whnf))
  | ((with_reducible refine tckd 114 ?_);refine dis_tb C hi ?_;(conv=>whnf))
  | ((with_reducible refine tckd 82 ?_);refine dwant_tb C hi ?_;(conv=>whnf))
  | ((with_reducible refine tckd 86 ?_);refine dwantKind_tb C hi ?_;(conv=>whnf))
  | ((with_reducible refine tckd 118 ?_);refine dbegins_tb C hi ?_;(conv=>whnf))
  | ((with_reducible refine tckd 116 ?_);refine dkind_tb C hi ?_;(conv=>whnf))
  | ((with_reducible refine tckd 193 ?_);refine doperator_tb C hi ?_;(conv=>whnf))
  | ((with_reducible refine tckd 154 ?_);refine daugment_tb C hi ?_;(conv=>whnf))
  | ((with_reducible refine tckd 151 ?_);refine atom_b C i _ _ hi ?_;intro kat l x o gs hg;(conv=>whnf))
  | ((with_reducible refine tckd 121 ?_);refine primary_b C i _ _ hi ?_;intro kpr l x o gs hg;(conv=>whnf))
  | ((with_reducible refine tckd 202 ?_);refine factor_b C i _ _ hi ?_;intro kfa l x o gs hg;(conv=>whnf))
  | ((with_reducible refine tckd 199 ?_);refine term_b C i _ _ hi ?_;intro kte l x o gs hg;(conv=>whnf))
  | ((with_reducible refine tckd 192 ?_);refine arith_b C i _ _ hi ?_;intro kar l x o gs hg;(conv=>whnf))
  | ((with_reducible refine tckd 186 ?_);refine compare_b C i _ _ hi ?_;intro kco l x o gs hg;(conv=>whnf))
  | ((with_reducible refine tckd 172 ?_);refine not__b C i _ _ hi ?_;intro kno l x o gs hg;(conv=>whnf))
  | ((with_reducible refine tckd 149 ?_);refine and__b C i _ _ hi ?_;intro kan l x o gs hg;(conv=>whnf))
  | ((with_reducible refine tckd 115 ?_);refine or__b C i _ _ hi ?_;intro kor l x o gs hg;(conv=>whnf))
  | (refine loop_once [] rfl ?_;intro f;(conv=>whnf))
  | (refine⟨rfl,?_⟩;(conv=>whnf))
  | (intro hmx;(conv=>whnf))
  | ((with_reducible apply ifT_c)<;>(intro hif;(conv=>whnf)))
 all_goals first | exact hQ | exact hQ _ _ _ _ _ nd_nil | exact hQ _ _ _ _ _ hg | exact hQ _ _ _ _ _ (nd_one (.mk hg))
theorem exprs_b(C:DCtx Z ts sl):DB Z X ts sl 85 [.ptr 0 0]:=by
 intro i Q R hi hQ
 refine tc_rG dtd_ok (by rfl) (by kernel_rfl) ?_
 conv in (rF _ _).body=>reduce
 conv in (rF _ _).res=>reduce
 conv=>whnf
 repeat' first
  | ((with_reducible refine tckd 79 ?_);refine dhas_tb C hi ?_;(conv=>whnf))
  | ((with_reducible refine tckd 44 ?_);refine dnow_tc C hi ?_;(conv=>whnf))
  | ((with_reducible refine tckd 114 ?_);refine dis_tb C hi ?_;(conv=>whnf))
  | ((with_reducible refine tckd 82 ?_);refine dwant_tb C hi ?_;(conv=>whnf))
  | ((with_reducible refine tckd 86 ?_);refine dwantKind_tb C hi ?_;(conv=>whnf))
  | ((with_reducible refine tckd 118 ?_);refine dbegins_tb C hi ?_;(conv=>whnf))
  | ((with_reducible refine tckd 116 ?_);refine dkind_tb C hi ?_;(conv=>whnf))
  | ((with_reducible refine tckd 193 ?_);refine doperator_tb C hi ?_;(conv=>whnf))
  | ((with_reducible refine tckd 154 ?_);refine daugment_tb C hi ?_;(conv=>whnf))
  | ((with_reducible refine tckd 151 ?_);refine atom_b C i _ _ hi ?_;intro kat l x o gs hg;(conv=>whnf))
  | ((with_reducible refine tckd 121 ?_);refine primary_b C i _ _ hi ?_;intro kpr l x o gs hg;(conv=>whnf))
  | ((with_reducible refine tckd 202 ?_);refine factor_b C i _ _ hi ?_;intro kfa l x o gs hg;(conv=>whnf))
  | ((with_reducible refine tckd 199 ?_);refine term_b C i _ _ hi ?_;intro kte l x o gs hg;(conv=>whnf))
  | ((with_reducible refine tckd 192 ?_);refine arith_b C i _ _ hi ?_;intro kar l x o gs hg;(conv=>whnf))
  | ((with_reducible refine tckd 186 ?_);refine compare_b C i _ _ hi ?_;intro kco l x o gs hg;(conv=>whnf))
  | ((with_reducible refine tckd 172 ?_);refine not__b C i _ _ hi ?_;intro kno l x o gs hg;(conv=>whnf))
  | ((with_reducible refine tckd 149 ?_);refine and__b C i _ _ hi ?_;intro kan l x o gs hg;(conv=>whnf))
  | ((with_reducible refine tckd 115 ?_);refine or__b C i _ _ hi ?_;intro kor l x o gs hg;(conv=>whnf))
  | ((with_reducible refine tckd 81 ?_);refine expr_b C i _ _ hi ?_;intro kex l x o gs hg;(conv=>whnf))
  | (refine loop_once [] rfl ?_;intro f;(conv=>whnf))
  | (refine⟨rfl,?_⟩;(conv=>whnf))
  | (intro hmx;(conv=>whnf))
  | ((with_reducible apply ifT_c)<;>(intro hif;(conv=>whnf)))
 all_goals first | exact hQ | exact hQ _ _ _ _ _ nd_nil | exact hQ _ _ _ _ _ hg | exact hQ _ _ _ _ _ (nd_one (.mk hg))
theorem params_b(C:DCtx Z ts sl){ln:Int}{s:ByteArray}:DB Z X ts sl 87 [.ptr 0 0,rS (.int .i64 ln),rS (.string s)]:=by
 intro i Q R hi hQ
 refine tc_rG dtd_ok (by rfl) (by kernel_rfl) ?_
 conv in (rF _ _).body=>reduce
 conv in (rF _ _).res=>reduce
 conv=>whnf
 repeat' first
  | ((with_reducible refine tckd 79 ?_);refine dhas_tb C hi ?_;(conv=>whnf))
  | ((with_reducible refine tckd 44 ?_);refine dnow_tc C hi ?_;(conv=>whnf))
  | ((with_reducible refine tckd 114 ?_);refine dis_tb C hi ?_;(conv=>whnf))
  | ((with_reducible refine tckd 82 ?_);refine dwant_tb C hi ?_;(conv=>whnf))
  | ((with_reducible refine tckd 86 ?_);refine dwantKind_tb C hi ?_;(conv=>whnf))
  | ((with_reducible refine tckd 118 ?_);refine dbegins_tb C hi ?_;(conv=>whnf))
  | ((with_reducible refine tckd 116 ?_);refine dkind_tb C hi ?_;(conv=>whnf))
  | ((with_reducible refine tckd 193 ?_);refine doperator_tb C hi ?_;(conv=>whnf))
  | ((with_reducible refine tckd 154 ?_);refine daugment_tb C hi ?_;(conv=>whnf))
  | ((with_reducible refine tckd 151 ?_);refine atom_b C i _ _ hi ?_;intro kat l x o gs hg;(conv=>whnf))
  | ((with_reducible refine tckd 121 ?_);refine primary_b C i _ _ hi ?_;intro kpr l x o gs hg;(conv=>whnf))
  | ((with_reducible refine tckd 202 ?_);refine factor_b C i _ _ hi ?_;intro kfa l x o gs hg;(conv=>whnf))
  | ((with_reducible refine tckd 199 ?_);refine term_b C i _ _ hi ?_;intro kte l x o gs hg;(conv=>whnf))
  | ((with_reducible refine tckd 192 ?_);refine arith_b C i _ _ hi ?_;intro kar l x o gs hg;(conv=>whnf))
  | ((with_reducible refine tckd 186 ?_);refine compare_b C i _ _ hi ?_;intro kco l x o gs hg;(conv=>whnf))
  | ((with_reducible refine tckd 172 ?_);refine not__b C i _ _ hi ?_;intro kno l x o gs hg;(conv=>whnf))
  | ((with_reducible refine tckd 149 ?_);refine and__b C i _ _ hi ?_;intro kan l x o gs hg;(conv=>whnf))
  | ((with_reducible refine tckd 115 ?_);refine or__b C i _ _ hi ?_;intro kor l x o gs hg;(conv=>whnf))
  | ((with_reducible refine tckd 81 ?_);refine expr_b C i _ _ hi ?_;intro kex l x o gs hg;(conv=>whnf))
  | ((with_reducible refine tckd 85 ?_);refine exprs_b C i _ _ hi ?_;intro kex l x o gs hg;(conv=>whnf))
  | (refine loop_once [] rfl ?_;intro f;(conv=>whnf))
  | (refine⟨rfl,?_⟩;(conv=>whnf))
  | (intro hmx;(conv=>whnf))
  | ((with_reducible apply ifT_c)<;>(intro hif;(conv=>whnf)))
 all_goals first | exact hQ | exact hQ _ _ _ _ _ nd_nil | exact hQ _ _ _ _ _ hg | exact hQ _ _ _ _ _ (nd_one (.mk hg))
theorem plain_b(C:DCtx Z ts sl):DB Z X ts sl 123 [.ptr 0 0]:=by
 intro i Q R hi hQ
 refine tc_rG dtd_ok (by rfl) (by kernel_rfl) ?_
 conv in (rF _ _).body=>reduce
 conv in (rF _ _).res=>reduce
 conv=>whnf
 repeat' first
  | ((with_reducible refine tckd 79 ?_);refine dhas_tb C hi ?_;(conv=>whnf))
  | ((with_reducible refine tckd 44 ?_);refine dnow_tc C hi ?_;(conv=>whnf))
  | ((with_reducible refine tckd 114 ?_);refine dis_tb C hi ?_;(conv=>whnf))
  | ((with_reducible refine tckd 82 ?_);refine dwant_tb C hi ?_;(conv=>whnf))
  | ((with_reducible refine tckd 86 ?_);refine dwantKind_tb C hi ?_;(conv=>whnf))
  | ((with_reducible refine tckd 118 ?_);refine dbegins_tb C hi ?_;(conv=>whnf))
  | ((with_reducible refine tckd 116 ?_);refine dkind_tb C hi ?_;(conv=>whnf))
  | ((with_reducible refine tckd 193 ?_);refine doperator_tb C hi ?_;(conv=>whnf))
  | ((with_reducible refine tckd 154 ?_);refine daugment_tb C hi ?_;(conv=>whnf))
  | ((with_reducible refine tckd 151 ?_);refine atom_b C i _ _ hi ?_;intro kat l x o gs hg;(conv=>whnf))
  | ((with_reducible refine tckd 121 ?_);refine primary_b C i _ _ hi ?_;intro kpr l x o gs hg;(conv=>whnf))
  | ((with_reducible refine tckd 202 ?_);refine factor_b C i _ _ hi ?_;intro kfa l x o gs hg;(conv=>whnf))
  | ((with_reducible refine tckd 199 ?_);refine term_b C i _ _ hi ?_;intro kte l x o gs hg;(conv=>whnf))
  | ((with_reducible refine tckd 192 ?_);refine arith_b C i _ _ hi ?_;intro kar l x o gs hg;(conv=>whnf))
  | ((with_reducible refine tckd 186 ?_);refine compare_b C i _ _ hi ?_;intro kco l x o gs hg;(conv=>whnf))
  | ((with_reducible refine tckd 172 ?_);refine not__b C i _ _ hi ?_;intro kno l x o gs hg;(conv=>whnf))
  | ((with_reducible refine tckd 149 ?_);refine and__b C i _ _ hi ?_;intro kan l x o gs hg;(conv=>whnf))
  | ((with_reducible refine tckd 115 ?_);refine or__b C i _ _ hi ?_;intro kor l x o gs hg;(conv=>whnf))
  | ((with_reducible refine tckd 81 ?_);refine expr_b C i _ _ hi ?_;intro kex l x o gs hg;(conv=>whnf))
  | ((with_reducible refine tckd 85 ?_);refine exprs_b C i _ _ hi ?_;intro kex l x o gs hg;(conv=>whnf))
  | ((with_reducible refine tckd 87 ?_);refine params_b C i _ _ hi ?_;intro kpa l x o gs hg;(conv=>whnf))
  | (refine loop_once [] rfl ?_;intro f;(conv=>whnf))
  | (refine⟨rfl,?_⟩;(conv=>whnf))
  | (intro hmx;(conv=>whnf))
  | ((with_reducible apply ifT_c)<;>(intro hif;(conv=>whnf)))
 all_goals first | exact hQ | exact hQ _ _ _ _ _ nd_nil | exact hQ _ _ _ _ _ hg | exact hQ _ _ _ _ _ (nd_one (.mk hg))
theorem simple_b(C:DCtx Z ts sl):DB Z X ts sl 90 [.ptr 0 0]:=by
 intro i Q R hi hQ
 refine tc_rG dtd_ok (by rfl) (by kernel_rfl) ?_
 conv in (rF _ _).body=>reduce
 conv in (rF _ _).res=>reduce
 conv=>whnf
 repeat' first
  | ((with_reducible refine tckd 79 ?_);refine dhas_tb C hi ?_;(conv=>whnf))
  | ((with_reducible refine tckd 44 ?_);refine dnow_tc C hi ?_;(conv=>whnf))
  | ((with_reducible refine tckd 114 ?_);refine dis_tb C hi ?_;(conv=>whnf))
  | ((with_reducible refine tckd 82 ?_);refine dwant_tb C hi ?_;(conv=>whnf))
  | ((with_reducible refine tckd 86 ?_);refine dwantKind_tb C hi ?_;(conv=>whnf))
  | ((with_reducible refine tckd 118 ?_);refine dbegins_tb C hi ?_;(conv=>whnf))
  | ((with_reducible refine tckd 116 ?_);refine dkind_tb C hi ?_;(conv=>whnf))
  | ((with_reducible refine tckd 193 ?_);refine doperator_tb C hi ?_;(conv=>whnf))
  | ((with_reducible refine tckd 154 ?_);refine daugment_tb C hi ?_;(conv=>whnf))
  | ((with_reducible refine tckd 151 ?_);refine atom_b C i _ _ hi ?_;intro kat l x o gs hg;(conv=>whnf))
  | ((with_reducible refine tckd 121 ?_);refine primary_b C i _ _ hi ?_;intro kpr l x o gs hg;(conv=>whnf))
  | ((with_reducible refine tckd 202 ?_);refine factor_b C i _ _ hi ?_;intro kfa l x o gs hg;(conv=>whnf))
  | ((with_reducible refine tckd 199 ?_);refine term_b C i _ _ hi ?_;intro kte l x o gs hg;(conv=>whnf))
  | ((with_reducible refine tckd 192 ?_);refine arith_b C i _ _ hi ?_;intro kar l x o gs hg;(conv=>whnf))
  | ((with_reducible refine tckd 186 ?_);refine compare_b C i _ _ hi ?_;intro kco l x o gs hg;(conv=>whnf))
  | ((with_reducible refine tckd 172 ?_);refine not__b C i _ _ hi ?_;intro kno l x o gs hg;(conv=>whnf))
  | ((with_reducible refine tckd 149 ?_);refine and__b C i _ _ hi ?_;intro kan l x o gs hg;(conv=>whnf))
  | ((with_reducible refine tckd 115 ?_);refine or__b C i _ _ hi ?_;intro kor l x o gs hg;(conv=>whnf))
  | ((with_reducible refine tckd 81 ?_);refine expr_b C i _ _ hi ?_;intro kex l x o gs hg;(conv=>whnf))
  | ((with_reducible refine tckd 85 ?_);refine exprs_b C i _ _ hi ?_;intro kex l x o gs hg;(conv=>whnf))
  | ((with_reducible refine tckd 87 ?_);refine params_b C i _ _ hi ?_;intro kpa l x o gs hg;(conv=>whnf))
  | ((with_reducible refine tckd 123 ?_);refine plain_b C i _ _ hi ?_;intro kpl l x o gs hg;(conv=>whnf))
  | (refine loop_once [] rfl ?_;intro f;(conv=>whnf))
  | (refine⟨rfl,?_⟩;(conv=>whnf))
  | (intro hmx;(conv=>whnf))
  | ((with_reducible apply ifT_c)<;>(intro hif;(conv=>whnf)))
 all_goals first | exact hQ | exact hQ _ _ _ _ _ nd_nil | exact hQ _ _ _ _ _ hg | exact hQ _ _ _ _ _ (nd_one (.mk hg))
theorem block_b(C:DCtx Z ts sl):DB Z X ts sl 83 [.ptr 0 0]:=by
 intro i Q R hi hQ
 refine tc_rG dtd_ok (by rfl) (by kernel_rfl) ?_
 conv in (rF _ _).body=>reduce
 conv in (rF _ _).res=>reduce
 conv=>whnf
 repeat' first
  | ((with_reducible refine tckd 79 ?_);refine dhas_tb C hi ?_;(conv=>whnf))
  | ((with_reducible refine tckd 44 ?_);refine dnow_tc C hi ?_;(conv=>whnf))
  | ((with_reducible refine tckd 114 ?_);refine dis_tb C hi ?_;(conv=>whnf))
  | ((with_reducible refine tckd 82 ?_);refine dwant_tb C hi ?_;(conv=>whnf))
  | ((with_reducible refine tckd 86 ?_);refine dwantKind_tb C hi ?_;(conv=>whnf))
  | ((with_reducible refine tckd 118 ?_);refine dbegins_tb C hi ?_;(conv=>whnf))
  | ((with_reducible refine tckd 116 ?_);refine dkind_tb C hi ?_;(conv=>whnf))
  | ((with_reducible refine tckd 193 ?_);refine doperator_tb C hi ?_;(conv=>whnf))
  | ((with_reducible refine tckd 154 ?_);refine daugment_tb C hi ?_;(conv=>whnf))
  | ((with_reducible refine tckd 151 ?_);refine atom_b C i _ _ hi ?_;intro kat l x o gs hg;(conv=>whnf))
  | ((with_reducible refine tckd 121 ?_);refine primary_b C i _ _ hi ?_;intro kpr l x o gs hg;(conv=>whnf))
  | ((with_reducible refine tckd 202 ?_);refine factor_b C i _ _ hi ?_;intro kfa l x o gs hg;(conv=>whnf))
  | ((with_reducible refine tckd 199 ?_);refine term_b C i _ _ hi ?_;intro kte l x o gs hg;(conv=>whnf))
  | ((with_reducible refine tckd 192 ?_);refine arith_b C i _ _ hi ?_;intro kar l x o gs hg;(conv=>whnf))
  | ((with_reducible refine tckd 186 ?_);refine compare_b C i _ _ hi ?_;intro kco l x o gs hg;(conv=>whnf))
  | ((with_reducible refine tckd 172 ?_);refine not__b C i _ _ hi ?_;intro kno l x o gs hg;(conv=>whnf))
  | ((with_reducible refine tckd 149 ?_);refine and__b C i _ _ hi ?_;intro kan l x o gs hg;(conv=>whnf))
  | ((with_reducible refine tckd 115 ?_);refine or__b C i _ _ hi ?_;intro kor l x o gs hg;(conv=>whnf))
  | ((with_reducible refine tckd 81 ?_);refine expr_b C i _ _ hi ?_;intro kex l x o gs hg;(conv=>whnf))
  | ((with_reducible refine tckd 85 ?_);refine exprs_b C i _ _ hi ?_;intro kex l x o gs hg;(conv=>whnf))
  | ((with_reducible refine tckd 87 ?_);refine params_b C i _ _ hi ?_;intro kpa l x o gs hg;(conv=>whnf))
  | ((with_reducible refine tckd 123 ?_);refine plain_b C i _ _ hi ?_;intro kpl l x o gs hg;(conv=>whnf))
  | ((with_reducible refine tckd 90 ?_);refine simple_b C i _ _ hi ?_;intro ksi l x o gs hg;(conv=>whnf))
  | (refine loop_once [] rfl ?_;intro f;(conv=>whnf))
  | (refine⟨rfl,?_⟩;(conv=>whnf))
  | (intro hmx;(conv=>whnf))
  | ((with_reducible apply ifT_c)<;>(intro hif;(conv=>whnf)))
 all_goals first | exact hQ | exact hQ _ _ _ _ _ nd_nil | exact hQ _ _ _ _ _ hg | exact hQ _ _ _ _ _ (nd_one (.mk hg))
end
end Can
end Go.Proofs.YticlaccbodpkeaaGreatDoor
end
section
namespace Go.Proofs.YticlaccbodpkeaaGreatDoor
namespace Can
open Go Go.RowKit
set_option linter.unusedSimpArgs false
set_option linter.unusedVariables false
set_option maxRecDepth 4000
attribute [local irreducible] TC isT nowT begT
def DG (Z:TP)(X:Pan)(ts:List PT)(sl:Sl)(f:Nat)(a:NT)(F:FuncId)(args:List AV):Prop:=
 ∀(i:Nat) (Q:AV→List SV→Prop) (R:Value→Prop) (E:Nat→Prop) (P:List Nd→Nat→Prop),i≤ts.length→Gd E P (gr ts f a i)→(∀e,E e→e≤ts.length→∀k l x o gs,(∀g∈gs,NdG g)→Q (gA k l x o gs) (rdSb sl e true))→(∀l j,P l j→j≤ts.length→Q (ans1 l) (rdSb sl j false))→TC Z (tblG Tryz.prog LG GG) X F args (rdD sl i false) Q R
def DGn (Z:TP)(X:Pan)(ts:List PT)(sl:Sl)(f:Nat)(a:NT)(F:FuncId)(args:List AV):Prop:=
 ∀(i:Nat) (Q:AV→List SV→Prop) (R:Value→Prop) (E:Nat→Prop) (P:List Nd→Nat→Prop),i≤ts.length→Gd E P (gr ts f a i)→(∀e,E e→e≤ts.length→∀gs:List (List SV),(∀g∈gs,NdG g)→2*gs.length≤ts.length+2→Q (.r (.c (.s (.row 5 gs)))) (rdSb sl e true))→(∀l j,P l j→j≤ts.length→Q (ansL l) (rdSb sl j false))→TC Z (tblG Tryz.prog LG GG) X F args (rdD sl i false) Q R
section
variable {Z:TP} {X:Pan} {ts:List PT} {sl:Sl} {R:Value→Prop} {Q:AV→List SV→Prop} {E:Nat→Prop} {P:List Nd→Nat→Prop} {i:Nat}
theorem dhas_st(C:DCtx Z ts sl){s:List UInt8}{A B:PR}(hG:Gd E P (if isT ts i s=true then A else B))(hs:s≠ [])(hi:i≤ts.length)(h1:i<ts.length→Gd E P A→Q (rS (.bool true)) (rdSb sl (i+1) false))(h2:Gd E P B→Q (rS (.bool false)) (rdSb sl i false)):TC Z (tblG Tryz.prog LG GG) X 79 [.ptr 0 0,rS (.string ⟨⟨s⟩⟩)] (rdD sl i false) Q R:=by
 refine dhas_tc C hs hi (fun h hl=> ?_) (fun h=> ?_)
 ·rw[if_pos h] at hG;exact h1 hl hG
 ·rw[if_neg (by rw[h];decide)] at hG;exact h2 hG
theorem dis_st(C:DCtx Z ts sl){s:List UInt8}{A B:PR}(hG:Gd E P (if isT ts i s=true then A else B))(hs:s≠ [])(hi:i≤ts.length)(h1:isT ts i s=true→i<ts.length→Gd E P A→Q (rS (.bool true)) (rdSb sl i false))(h2:isT ts i s=false→Gd E P B→Q (rS (.bool false)) (rdSb sl i false)):TC Z (tblG Tryz.prog LG GG) X 114 [.ptr 0 0,rS (.string ⟨⟨s⟩⟩)] (rdD sl i false) Q R:=by
 refine dis_tc2 C hs hi (fun h=> ?_) (fun h=> ?_)
 ·rw[if_pos h] at hG;exact h1 h (isT_lt' h) hG
 ·rw[if_neg (by rw[h];decide)] at hG;exact h2 h hG
theorem dis_stf(C:DCtx Z ts sl){s:List UInt8}{A B:PR}(hG:Gd E P (if isT ts i s=false then A else B))(hs:s≠ [])(hi:i≤ts.length)(h1:Gd E P B→Q (rS (.bool true)) (rdSb sl i false))(h2:Gd E P A→Q (rS (.bool false)) (rdSb sl i false)):TC Z (tblG Tryz.prog LG GG) X 114 [.ptr 0 0,rS (.string ⟨⟨s⟩⟩)] (rdD sl i false) Q R:=by
 refine dis_tc2 C hs hi (fun h=> ?_) (fun h=> ?_)
 ·rw[if_neg (by rw[h];decide)] at hG;exact h1 hG
 ·rw[if_pos h] at hG;exact h2 hG
theorem dwant_kn(C:DCtx Z ts sl){s:List UInt8}(hs:s≠ [])(hi:i≤ts.length)(hb:isT ts i s=true)(h1:i<ts.length→Q (.tup []) (rdSb sl (i+1) false)):TC Z (tblG Tryz.prog LG GG) X 82 [.ptr 0 0,rS (.string ⟨⟨s⟩⟩)] (rdD sl i false) Q R:=
 dwant_tc C hs hi (fun _ hl=>h1 hl) fun h=>by rw[hb] at h;cases h
theorem drd_wr(C:DCtx Z ts sl)(h:i<ts.length) : [SV.sc (.slice sl.q sl.n sl.c),SV.sc (.int .i64 (IntKind.wrap .i64 ((i:Int)+1))),SV.sc (.bool false)]=rdSb sl (i+1) false:=by
 rw[wr_inc h C.len];rfl
theorem dbegins_st(C:DCtx Z ts sl){A B:PR}(hG:Gd E P (if begT ts i=true then A else B))(hi:i≤ts.length)(h1:Gd E P A→Q (rS (.bool true)) (rdSb sl i false))(h2:Gd E P B→Q (rS (.bool false)) (rdSb sl i false)):TC Z (tblG Tryz.prog LG GG) X 118 [.ptr 0 0] (rdD sl i false) Q R:=by
 refine dbegins_tc C hi ?_
 cases h:begT ts i with
 | true=>rw[if_pos h] at hG;exact h1 hG
 | false=>rw[if_neg (by rw[h];decide)] at hG;exact h2 hG
theorem dkind_st(C:DCtx Z ts sl){k:Int}{A B:PR}(hG:Gd E P (if (nowT ts i).kind=k then A else B))(h0:k≠0)(hi:i≤ts.length)(h1:i<ts.length→Gd E P A→Q (rS (.bool true)) (rdSb sl i false))(h2:Gd E P B→Q (rS (.bool false)) (rdSb sl i false)):TC Z (tblG Tryz.prog LG GG) X 116 [.ptr 0 0,rS (.int .i64 k)] (rdD sl i false) Q R:=by
 refine dkind_tc C hi ?_
 by_cases h:(nowT ts i).kind=k
 ·rw[if_pos h] at hG;rw[decide_eq_true h];exact h1 (kd_lt (by rw[h];exact h0)) hG
 ·rw[if_neg h] at hG;rw[decide_eq_false h];exact h2 hG
theorem dwant_st(C:DCtx Z ts sl){s:List UInt8}{k:Nat→PR}(hG:Gd E P (wantB ts s i k))(hs:s≠ [])(hi:i≤ts.length)(hE:E i→Q (.tup []) (rdSb sl i true))(h1:i<ts.length→Gd E P (k (i+1))→Q (.tup []) (rdSb sl (i+1) false)):TC Z (tblG Tryz.prog LG GG) X 82 [.ptr 0 0,rS (.string ⟨⟨s⟩⟩)] (rdD sl i false) Q R:=by
 unfold wantB at hG
 refine dwant_tc C hs hi (fun h hl=> ?_) (fun h=> ?_)
 ·rw[if_pos h] at hG;exact h1 hl hG
 ·rw[if_neg (by rw[h];decide)] at hG;exact hE hG
theorem dwantK_st(C:DCtx Z ts sl){kd:Int}{k:List UInt8→Nat→PR}(hG:Gd E P (wantK ts kd i k))(h0:kd≠0)(hi:i≤ts.length)(hE:E i→Q (rS (.string ⟨⟨[]⟩⟩)) (rdSb sl i true))(h1:i<ts.length→Gd E P (k (nowT ts i).text (i+1))→Q (rS (.string ⟨⟨(nowT ts i).text⟩⟩)) (rdSb sl (i+1) false)):TC Z (tblG Tryz.prog LG GG) X 86 [.ptr 0 0,rS (.int .i64 kd)] (rdD sl i false) Q R:=by
 unfold wantK at hG
 refine dwantKind_tc C h0 hi (fun h hl=> ?_) (fun h=> ?_)
 ·rw[if_pos h] at hG;exact h1 hl hG
 ·rw[if_neg h] at hG;exact hE hG
theorem doperator_st(C:DCtx Z ts sl){A:PR}{B:Nat→Nat→PR}(hG:Gd E P (match opT ts i with | .error e=>some (.error e) | .ok (0,_)=>A | .ok (op+1,j)=>B op j))(hi:i≤ts.length)(hE : ∀e,E e→e≤ts.length→Q (rS (.int .i64 8)) (rdSb sl e true))(h0:Gd E P A→Q (rS (.int .i64 0)) (rdSb sl i false))(h1 : ∀op j,i<j→j≤ts.length→Gd E P (B op j)→Q (rS (.int .i64 ((op+1:Nat):Int))) (rdSb sl j false)):TC Z (tblG Tryz.prog LG GG) X 193 [.ptr 0 0] (rdD sl i false) Q R:=by
 have ho:=opT_gd hi
 refine doperator_tc C hi (fun e h=> ?_) (fun op j h hj=> ?_)
 ·rw[h] at hG ho;exact hE e hG ho.2
 ·rw[h] at hG ho
  cases op with
  | zero=>
    rcases ho with ⟨_,e⟩ | ⟨h,_⟩
    ·subst e;exact h0 hG
    ·exact absurd rfl h
  | succ op=>
    rcases ho with ⟨h,_⟩ | ⟨_,h2,_⟩
    ·cases h
    ·exact h1 op j h2 hj hG
theorem daugment_st(C:DCtx Z ts sl){A B:PR}(hG:Gd E P (if augT ts i=0 then A else B))(hi:i≤ts.length)(h1:augT ts i≠0→i<ts.length→Gd E P B→Q (rS (.int .i64 (augT ts i:Nat))) (rdSb sl (i+1) false))(h2:Gd E P A→Q (rS (.int .i64 0)) (rdSb sl i false)):TC Z (tblG Tryz.prog LG GG) X 154 [.ptr 0 0] (rdD sl i false) Q R:=by
 refine daugment_tc C hi (fun h hl=> ?_) (fun h=> ?_)
 ·rw[if_neg h] at hG;exact h1 h hl hG
 ·rw[if_pos h] at hG;exact h2 hG
theorem drul_st{f:Nat}{a:NT}{F:FuncId}{args:List AV}(h:DG Z X ts sl f a F args){k:Nd→Nat→PR}(hG:Gd E P (pb1 (gr ts f a i) k))(hg:a.good)(ha:a.acc=none)(hE : ∀e,E e→e≤ts.length→∀k l x o gs,(∀g∈gs,NdG g)→Q (gA k l x o gs) (rdSb sl e true))(hi:i≤ts.length)(h1 : ∀n l x o ks j,i+a.min≤j→j≤ts.length→Gd E P (k (.mk n l x o ks) j)→Q (ndA (.mk n l x o ks)) (rdSb sl j false)):TC Z (tblG Tryz.prog LG GG) X F args (rdD sl i false) Q R:=by
 rw[gd_pb1] at hG
 refine h i Q R _ _ hi (gr_post hg hi hG) (fun e he hl=>hE e he.1 hl) fun l j ⟨⟨t,e,hP⟩,hp⟩ hj=> ?_
 subst e
 obtain⟨n,l,x,o,ks⟩:=t
 exact h1 n l x o ks j hp.1 hp.2.1 hP
theorem dlst_st{f:Nat}{a:NT}{F:FuncId}{args:List AV}(h:DGn Z X ts sl f a F args){k:List Nd→Nat→PR}(hG:Gd E P (pb (gr ts f a i) k))(hg:a.good)(ha:a.acc=some (a.acc.getD 0))(hE : ∀e,E e→e≤ts.length→∀gs:List (List SV),(∀g∈gs,NdG g)→2*gs.length≤ts.length+2→Q (.r (.c (.s (.row 5 gs)))) (rdSb sl e true))(hi:i≤ts.length)(h1 : ∀l j,i≤j→j≤ts.length→2*l.length+i≤2*a.acc.getD 0+j+1→Gd E P (k l j)→Q (ansL l) (rdSb sl j false)):TC Z (tblG Tryz.prog LG GG) X F args (rdD sl i false) Q R:=by
 rw[gd_pb] at hG
 refine h i Q R _ _ hi (gr_post hg hi hG) (fun e he hl=>hE e he.1 hl) fun l j ⟨hP,hp⟩ hj=> ?_
 obtain⟨p1,p2,p3⟩:=hp
 rw[ha] at p3
 exact h1 l j (by omega) p2 p3.1 hP
theorem dtal_st{f:Nat}{a:NT}{F:FuncId}{args:List AV}(h:DG Z X ts sl f a F args)(hG:Gd E P (gr ts f a i))(hg:a.good)(ha:a.acc=none)(hE : ∀e,E e→e≤ts.length→∀k l x o gs,(∀g∈gs,NdG g)→Q (gA k l x o gs) (rdSb sl e true))(hi:i≤ts.length)(h1 : ∀n l x o ks j,i+a.min≤j→j≤ts.length→P [.mk n l x o ks] j→Q (ndA (.mk n l x o ks)) (rdSb sl j false)):TC Z (tblG Tryz.prog LG GG) X F args (rdD sl i false) Q R:=by
 refine h i Q R _ _ hi (gr_post hg hi hG) (fun e he hl=>hE e he.1 hl) fun l j ⟨hP,hp⟩ hj=> ?_
 have h3:=hp.2.2
 rw[ha] at h3
 obtain⟨t,rfl⟩:=nd_one_of h3
 obtain⟨n,l,x,o,ks⟩:=t
 exact h1 n l x o ks j hp.1 hp.2.1 hP
end
end Can
end Go.Proofs.YticlaccbodpkeaaGreatDoor
end
section
namespace Go.Proofs.YticlaccbodpkeaaGreatDoor
namespace Can
open Go Go.RowKit
set_option linter.unusedSimpArgs false
set_option linter.unusedVariables false
set_option maxRecDepth 4000
attribute [local irreducible] TC isT nowT begT
section
variable {Z:TP} {X:Pan} {R:Value→Prop} {Q:AV→List SV→Prop}
theorem dleaf_tc{k:Int}(h4:4≤k)(h7:k≤7)(hQ:Q (rS (.int .i64 (leafK k:Nat))) []):TC Z (tblG Tryz.prog LG GG) X 173 [rS (.int .i64 k)] none Q R:=by
 refine tc_rG dtd_ok (by rfl) (by kernel_rfl) ?_
 conv in (rF _ _).body=>reduce
 conv in (rF _ _).res=>reduce
 obtain rfl | rfl | rfl | rfl:k=4∨k=5∨k=6∨k=7:=by omega
 all_goals
  conv=>whnf
  exact hQ
theorem dsingle_tc{k:Nat}{l:Int}{x:List UInt8}{o:Nat}{ks:List Nd}(hQ:Q (rS (.bool (singleN (.mk k l x o ks)))) []):TC Z (tblG Tryz.prog LG GG) X 122 [ndA (.mk k l x o ks)] none Q R:=by
 have e:singleN (.mk k l x o ks)=decide (k=36∨k=45∨k=46):=rfl
 rw[e] at hQ
 refine tc_rG dtd_ok (by rfl) (by kernel_rfl) ?_
 conv in (rF _ _).body=>reduce
 conv in (rF _ _).res=>reduce
 by_cases h1:k=36
 ·subst h1
  conv=>whnf
  exact hQ
 by_cases h2:k=45
 ·subst h2
  conv=>whnf
  exact hQ
 by_cases h3:k=46
 ·subst h3
  conv=>whnf
  exact hQ
 rw[decide_eq_false (by omega)] at hQ
 conv=>whnf
 refine ifT_c (fun h=>by exfalso;simp at h;omega) fun h=> ?_
 conv=>whnf
 refine ifT_c (fun h=>by exfalso;simp at h;omega) fun h=> ?_
 conv=>whnf
 refine ifT_c (fun h=>by exfalso;simp at h;omega) fun h=> ?_
 conv=>whnf
 exact hQ
theorem dsingle_st{k:Nat}{l:Int}{x:List UInt8}{o:Nat}{ks:List Nd}{E:Nat→Prop}{P:List Nd→Nat→Prop}{A B:PR}(hG:Gd E P (if singleN (.mk k l x o ks)=true then A else B))(h1:Gd E P A→Q (rS (.bool true)) [])(h2:Gd E P B→Q (rS (.bool false)) []):TC Z (tblG Tryz.prog LG GG) X 122 [ndA (.mk k l x o ks)] none Q R:=by
 refine dsingle_tc ?_
 cases h:singleN (.mk k l x o ks) with
 | true=>rw[if_pos h] at hG;exact h1 hG
 | false=>rw[if_neg (by rw[h];decide)] at hG;exact h2 hG
theorem dplace_tc : ∀(N:Nat) (k:Nat) (l:Int) (x:List UInt8) (o:Nat) (ks:List Nd),nsz (.mk k l x o ks)<N→∀(Q:AV→List SV→Prop) (R:Value→Prop),Q (rS (.bool (placeN (.mk k l x o ks)))) []→TC Z (tblG Tryz.prog LG GG) X 150 [ndA (.mk k l x o ks)] none Q R:=by
 intro N
 induction N with
 | zero=>intro k l x o ks h;exact absurd h (Nat.not_lt_zero _)
 | succ N ih=>
 intro k l x o ks hN Q R hQ
 refine tc_rG dtd_ok (by rfl) (by kernel_rfl) ?_
 conv in (rF _ _).body=>reduce
 conv in (rF _ _).res=>reduce
 by_cases hk:k=52∨k=51
 ·have e:placeN (.mk k l x o ks)=(placesN ks && !ks.isEmpty):=if_pos hk
  rw[e] at hQ
  rcases hk with rfl | rfl
  all_goals
   conv=>whnf
   refine loop_1 3 (fun m a s=>∃i:Nat,a=rS (.int .i64 (i:Nat))∧s=⟨0,[oN (nA _ l x o ks)]⟩∧m+i=ks.length∧placesN ks=placesN (ks.drop i)) ks.length [] rfl ⟨0,rfl,rfl,rfl,rfl⟩ ?_
   rintro m a f s ⟨i,rfl,rfl,hm,hp⟩
   conv=>whnf
   intro hmx
   conv=>whnf
   refine ifT_c (fun h=> ?_) fun h=> ?_
   ·have hi:i<ks.length:=by simp[ndsS_len] at h;omega
    obtain⟨t,ht⟩ : ∃t,ks[i]? = some t:=⟨_,List.getElem?_eq_getElem hi⟩
    have hd:=placesN_drop ht
    have hlt:=nsz_lt (List.mem_of_getElem? ht) (k:=52) (l:=l) (x:=x) (o:=o)
    have hlt2:=nsz_lt (List.mem_of_getElem? ht) (k:=51) (l:=l) (x:=x) (o:=o)
    obtain⟨k1,l1,x1,o1,ks1⟩:=t
    conv=>whnf
    refine⟨rfl,i,_,rfl,ndsS_get ht,?_⟩
    conv=>whnf
    refine ih k1 l1 x1 o1 ks1 (by omega) _ _ ?_
    conv=>whnf
    cases hpl:placeN (.mk k1 l1 x1 o1 ks1) with
    | true=>
      rw[hpl,Bool.true_and] at hd
      conv=>whnf
      rw[ndsS_len] at hmx
      exact⟨m-1,[],by omega,rfl,i+1,congrArg (fun n=>rS (.int .i64 n)) (wr_inc' hi hmx),rfl,by omega,hp.trans hd⟩
    | false=>
      rw[hp,hd,hpl] at hQ
      conv=>whnf
      exact hQ
   ·have hi:i=ks.length:=by simp[ndsS_len] at h;omega
    subst hi
    have hp:placesN ks=true:=by rw[hp,List.drop_length];rfl
    rw[hp,Bool.true_and] at hQ
    conv=>whnf
    intro hmx
    conv=>whnf
    refine ifT_c (fun h=> ?_) fun h=> ?_
    ·have:ks.isEmpty=false:=by cases ks;simp[ndsS] at h;rfl
     rw[this] at hQ
     conv=>whnf
     exact hQ
    ·have:ks.isEmpty=true:=by cases ks;rfl;simp[ndsS] at h
     rw[this] at hQ
     conv=>whnf
     exact hQ
 ·have e:placeN (.mk k l x o ks)=decide (k=36∨k=45∨k=46):=if_neg hk
  have e':singleN (.mk k l x o ks)=decide (k=36∨k=45∨k=46):=rfl
  rw[e,←e'] at hQ
  conv=>whnf
  refine ifT_c (fun h=> ?_) fun h=>by exfalso;simp at h;omega
  conv=>whnf
  refine ifT_c (fun h=> ?_) fun h=>by exfalso;simp at h;omega
  conv=>whnf
  refine dsingle_tc ?_
  conv=>whnf
  cases hs:singleN (.mk k l x o ks) with
  | true=>
    rw[hs] at hQ
    conv=>whnf
    exact hQ
  | false=>
    rw[hs] at hQ
    conv=>whnf
    exact hQ
theorem dplace_st{k:Nat}{l:Int}{x:List UInt8}{o:Nat}{ks:List Nd}{E:Nat→Prop}{P:List Nd→Nat→Prop}{A B:PR}(hG:Gd E P (if placeN (.mk k l x o ks)=true then A else B))(h1:Gd E P A→Q (rS (.bool true)) [])(h2:Gd E P B→Q (rS (.bool false)) []):TC Z (tblG Tryz.prog LG GG) X 150 [ndA (.mk k l x o ks)] none Q R:=by
 refine dplace_tc _ k l x o ks (Nat.lt_succ_self _) Q R ?_
 cases h:placeN (.mk k l x o ks) with
 | true=>rw[if_pos h] at hG;exact h1 hG
 | false=>rw[if_neg (by rw[h];decide)] at hG;exact h2 hG
end
end Can
end Go.Proofs.YticlaccbodpkeaaGreatDoor
end
section
namespace Go.Proofs.YticlaccbodpkeaaGreatDoor
namespace Can
open Go Go.RowKit
set_option linter.unusedSimpArgs false
set_option linter.unusedVariables false
set_option maxRecDepth 4000
attribute [local irreducible] TC isT nowT begT
section
variable {Z:TP} {X:Pan} {R:Value→Prop} {Q:AV→List SV→Prop}
theorem dsingle_any{k l:Int}{x:ByteArray}{o:Int}{gs:List (List SV)}(hQ : ∀b,Q (rS (.bool b)) []):TC Z (tblG Tryz.prog LG GG) X 122 [gA k l x o gs] none Q R:=by
 refine tc_rG dtd_ok (by rfl) (by kernel_rfl) ?_
 conv in (rF _ _).body=>reduce
 conv in (rF _ _).res=>reduce
 conv=>whnf
 repeat' first
  | exact hQ _
  | (refine ifT_c (fun _=> ?_) (fun _=> ?_)<;>(conv=>whnf))
theorem dplace_any{L:List SV}(hn:NdG L) : ∀(k l:Int) (x:ByteArray) (o:Int) (gs:List (List SV)),L= [.sc (.int .i64 k), .sc (.int .i64 l), .sc (.string x), .sc (.int .i64 o), .row 5 gs]→∀(Q:AV→List SV→Prop) (R:Value→Prop),(∀b,Q (rS (.bool b)) [])→TC Z (tblG Tryz.prog LG GG) X 150 [gA k l x o gs] none Q R:=by
 induction hn with
 | @mk k' l' x' o' gs' hg ih=>
 intro k l x o gs e Q R hQ
 injection e with e1 e
 injection e with e2 e
 injection e with e3 e
 injection e with e4 e
 injection e with e5 e
 cases e1;cases e2;cases e3;cases e4;cases e5
 refine tc_rG dtd_ok (by rfl) (by kernel_rfl) ?_
 conv in (rF _ _).body=>reduce
 conv in (rF _ _).res=>reduce
 by_cases hk:k'=52∨k'=51
 ·rcases hk with rfl | rfl
  all_goals
   conv=>whnf
   refine loop_1 3 (fun m a s=>∃i:Nat,a=rS (.int .i64 (i:Nat))∧s=⟨0,[oN [cS (.int .i64 _),cS (.int .i64 l'),cS (.string x'),cS (.int .i64 o'), .s (.row 5 gs')]]⟩∧m+i=gs'.length) gs'.length [] rfl ⟨0,rfl,rfl,rfl⟩ ?_
   rintro m a f s ⟨i,rfl,rfl,hm⟩
   conv=>whnf
   intro hmx
   conv=>whnf
   refine ifT_c (fun h=> ?_) fun h=> ?_
   ·have hi:i<gs'.length:=by simp at h;omega
    have ht:gs'[i]? = some gs'[i]:=List.getElem?_eq_getElem hi
    obtain⟨t,ht'⟩ : ∃t,gs'[i]=t:=⟨_,rfl⟩
    rw[ht'] at ht
    have hmem:t∈gs':=List.mem_of_getElem? ht
    have ihh:=ih t hmem
    have hnt:=hg t hmem
    cases hnt with
    | @mk k1 l1 x1 o1 g1 h1=>
    conv=>whnf
    refine⟨rfl,i,_,rfl,ht,?_⟩
    conv=>whnf
    refine ihh _ _ _ _ _ rfl _ _ fun b=> ?_
    conv=>whnf
    cases b with
    | true=>
      conv=>whnf
      exact⟨m-1,[],by omega,rfl,i+1,congrArg (fun n=>rS (.int .i64 n)) (wr_inc' hi hmx),rfl,by omega⟩
    | false=>
      conv=>whnf
      exact hQ _
   ·conv=>whnf
    intro hmx
    conv=>whnf
    repeat' first
     | exact hQ _
     | (refine ifT_c (fun _=> ?_) (fun _=> ?_)<;>(conv=>whnf))
 ·conv=>whnf
  refine ifT_c (fun h=> ?_) fun h=>by exfalso;simp at h;omega
  conv=>whnf
  refine ifT_c (fun h=> ?_) fun h=>by exfalso;simp at h;omega
  conv=>whnf
  refine dsingle_any fun b=> ?_
  cases b with
  | true=>
    conv=>whnf
    exact hQ _
  | false=>
    conv=>whnf
    exact hQ _
end
end Can
end Go.Proofs.YticlaccbodpkeaaGreatDoor
end
section
namespace Go.Proofs.YticlaccbodpkeaaGreatDoor
namespace Can
open Go Go.RowKit
set_option linter.unusedSimpArgs false
set_option linter.unusedVariables false
set_option maxRecDepth 4000
attribute [local irreducible] TC isT nowT begT
section
variable {Z:TP} {X:Pan} {R:Value→Prop} {Q:AV→List SV→Prop}
theorem dheight_tc : ∀(N:Nat) (k:Nat) (l:Int) (x:List UInt8) (o:Nat) (ks:List Nd),nsz (.mk k l x o ks)<N→htL ks+1≤9223372036854775807→∀(Q:AV→List SV→Prop) (R:Value→Prop),Q (rS (.int .i64 (htL ks+1:Nat))) []→TC Z (tblG Tryz.prog LG GG) X 46 [ndA (.mk k l x o ks)] none Q R:=by
 intro N
 induction N with
 | zero=>intro k l x o ks h;exact absurd h (Nat.not_lt_zero _)
 | succ N ih=>
 intro k l x o ks hN hB Q R hQ
 refine tc_rG dtd_ok (by rfl) (by kernel_rfl) ?_
 conv in (rF _ _).body=>reduce
 conv in (rF _ _).res=>reduce
 conv=>whnf
 refine loop_2 4 3 (fun m a b s=>∃i h:Nat,a=rS (.int .i64 (i:Nat))∧b=rS (.int .i64 (h:Nat))∧s=⟨0,[oN (nA k l x o ks)]⟩∧m+i=ks.length∧max h (htL (ks.drop i))=htL ks) ks.length [] rfl ⟨0,0,rfl,rfl,rfl,rfl,Nat.zero_max _⟩ ?_
 rintro m a b f s ⟨i,h,rfl,rfl,rfl,hm,hp⟩
 conv=>whnf
 intro hmx
 conv=>whnf
 refine ifT_c (fun hc=> ?_) fun hc=> ?_
 ·have hi:i<ks.length:=by simp[ndsS_len] at hc;omega
  obtain⟨t,ht⟩ : ∃t,ks[i]? = some t:=⟨_,List.getElem?_eq_getElem hi⟩
  have hd:=htL_drop ht
  have hlt:=nsz_lt (List.mem_of_getElem? ht) (k:=k) (l:=l) (x:=x) (o:=o)
  have hht:=htL_mem (List.mem_of_getElem? ht)
  obtain⟨k1,l1,x1,o1,ks1⟩:=t
  have e1:htN (.mk k1 l1 x1 o1 ks1)=htL ks1+1:=rfl
  conv=>whnf
  refine⟨rfl,i,_,rfl,ndsS_get ht,?_⟩
  conv=>whnf
  refine ih k1 l1 x1 o1 ks1 (by omega) (by omega) _ _ ?_
  conv=>whnf
  rw[ndsS_len] at hmx
  refine⟨m-1,[],by omega,rfl,i+1,max h (htL ks1+1),congrArg (fun n=>rS (.int .i64 n)) (wr_inc' hi hmx),?_,rfl,by omega,by rw[←hp,hd,e1,Nat.max_assoc]⟩
  exact congrArg (fun n=>rS (.int .i64 n)) (max_int h (htL ks1+1))
 ·have hi:i=ks.length:=by simp[ndsS_len] at hc;omega
  subst hi
  have hp:h=htL ks:=by rw[←hp,List.drop_length];exact(Nat.max_zero _).symm
  subst hp
  conv=>whnf
  exact q_eq (congrArg (fun n=>rS (.int .i64 n)) (wr_inc' (Nat.lt_succ_self _) (by rw[maxLen_eq];omega))) rfl hQ
end
end Can
end Go.Proofs.YticlaccbodpkeaaGreatDoor
end
