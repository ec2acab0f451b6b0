/- Lex: symbols. -/
import Derived.Test.YtdfgkcoenagaaaaGreatZe
namespace Go.Proofs.YtdfgkcoenagaaaaGreat
namespace Can
open Go Go.RowKit
set_option linter.unusedSimpArgs false
set_option linter.unusedVariables false
set_option maxRecDepth 4000
theorem toN{a b:Nat}:((a:Int)+(b:Int))=((a+b:Nat):Int):=rfl
theorem byteList_one{c:UInt8}:byteList [.int .u8 (c.toNat:Int)]=some [c]:=byteList_u8s (l:= [c])
theorem hpref_wp(H:CH)(a b:List UInt8)(ha:a.length≤100000)(hb:b.length≤100000):WpF (tblG Tryz.prog LG GG) 93 [.string (str a), .string (str b)] H fun v K=>v= .bool (decide (a.take b.length=b))∧K=H:=by
 refine wpF_rG (by rfl) (by kernel_rfl) ?_;(conv in (rF _ _).body=>reduce);(conv in (rF _ _).res=>reduce)
 by_cases hl:b.length≤a.length
 ·repeat' (first | (simp (disch:=first | omega | (decide +kernel)) only[↓RD,RU,↓putF_get,↓evF_t,↓evF_c,getD_zero,getD_succ,pop,resL,resV,tupleV,↓reduceIte,Nat.reduceEqDiff,reduceCtorEq,bnd,ρ18,ρ29,str_size,str_ext,str_eq,Nat.sub_zero]) | (with_reducible first | refine condK_dec (fun _=> ?_) fun _=> ?_ | refine grd_dec (fun _=> ?_) fun _=> ?_ | refine egrd_dec (fun _=> ?_) fun _=> ?_))
  all_goals rfl
 ·have hd:decide (a.take b.length=b)=false:=decide_eq_false fun e=>by
   have:=congrArg List.length e
   simp at this;omega
  rw[hd]
  repeat' (first | (simp (disch:=first | omega | (decide +kernel)) only[↓RD,RU,↓putF_get,↓evF_t,↓evF_c,getD_zero,getD_succ,pop,resL,resV,tupleV,↓reduceIte,Nat.reduceEqDiff,reduceCtorEq,str_size]) | (with_reducible first | refine condK_dec (fun _=> ?_) fun _=> ?_ | refine grd_dec (fun _=> ?_) fun _=> ?_ | refine egrd_dec (fun _=> ?_) fun _=> ?_))
theorem hasp_wp(H:CH)(a b:List UInt8)(ha:a.length≤100000)(hb:b.length≤100000):WpF (tblG Tryz.prog LG GG) 77 [.string (str a), .string (str b)] H fun v K=>v= .bool (decide (a.take b.length=b))∧K=H:=by
 refine wpF_rG (by rfl) (by kernel_rfl) ?_;(conv in (rF _ _).body=>reduce);(conv in (rF _ _).res=>reduce)
 repeat' (first | (simp (disch:=first | omega | (decide +kernel)) only[↓RD,RU,↓putF_get,↓evF_t,↓evF_c,getD_zero,getD_succ,pop,ρ0,ρ1,↓reduceIte,Nat.reduceEqDiff,reduceCtorEq]) | (with_reducible first | refine condK_dec (fun _=> ?_) fun _=> ?_ | refine grd_dec (fun _=> ?_) fun _=> ?_ | refine egrd_dec (fun _=> ?_) fun _=> ?_))
 refine(hpref_wp H a b ha hb).mono fun v K ⟨hv,hk⟩=> ?_
 subst hv hk
 repeat' (first | (simp (disch:=first | omega | (decide +kernel)) only[↓RD,RU,↓putF_get,↓evF_t,pop,resL,resV,tupleV,↓reduceIte]) | (with_reducible first | refine condK_dec (fun _=> ?_) fun _=> ?_ | refine grd_dec (fun _=> ?_) fun _=> ?_ | refine egrd_dec (fun _=> ?_) fun _=> ?_))
 all_goals rfl
theorem hasp_iff{H:CH}{a b:List UInt8}(ha:a.length≤100000)(hb:b.length≤100000){Q:Value→CH→Prop}:WpF (tblG Tryz.prog LG GG) 77 [.string (str a), .string (str b)] H Q↔Q (.bool (decide (a.take b.length=b))) H:=wpF_iff (hasp_wp H a b ha hb)
theorem str_get!{l:List UInt8}{i:Nat}(h:i<l.length):(str l)[i]! = l[i]:=by
 have h':i<(str l).size:=h
 rw[getElem!_pos (str l) i h'];rfl
theorem firstIdx_mem{l:List UInt8}{c:UInt8}:0≤firstIdx (str l) c↔c∈l:=by
 unfold firstIdx
 cases hf:(List.range (str l).size).find? fun i=>(str l)[i]! == c with
 | some i=>
   have h1:=List.find?_some hf
   have h2:=List.mem_of_find?_eq_some hf
   have h3:i<l.length:=List.mem_range.1 h2
   rw[str_get! h3] at h1
   have:l[i]=c:=by simpa using h1
   simp only
   exact⟨fun _=>this▸List.getElem_mem h3,fun _=>by omega⟩
 | none=>
   simp only
   refine⟨fun h=>by omega,fun h=> ?_⟩
   obtain⟨i,hi,rfl⟩:=List.getElem_of_mem h
   have:=List.find?_eq_none.1 hf i (List.mem_range.2 hi)
   rw[str_get! hi] at this
   simp at this
theorem nat_u8{c:UInt8}:c.toNat.toUInt8=c:=by simp
def IxOut(H K:CH)(l:List UInt8)(c:UInt8)(v:Value):Prop:=(∃x:Int,v= .int .i64 x∧(0≤x↔c∈l))∧K=H
theorem ixl_wp(H:CH)(l:List UInt8)(c:UInt8):WpF (tblG Tryz.prog LG GG) 95 [.string (str l), .int .u8 c.toNat] H fun v K=>IxOut H K l c v:=by
 refine wpF_rG (by rfl) (by kernel_rfl) ?_;(conv in (rF _ _).body=>reduce);(conv in (rF _ _).res=>reduce)
 repeat' (first | (simp (disch:=first | omega | (decide +kernel)) only[↓RD,RU,↓putF_get,↓evF_t,↓evF_c,getD_zero,getD_succ,pop,resL,resV,tupleV,ρ0,ρ1,↓reduceIte,Nat.reduceEqDiff,Int.reduceOfNat,reduceCtorEq,ρ29,ixb_iff]) | (with_reducible first | refine condK_dec (fun _=> ?_) fun _=> ?_ | refine grd_dec (fun _=> ?_) fun _=> ?_ | refine egrd_dec (fun _=> ?_) fun _=> ?_))
 all_goals exact⟨⟨_,rfl,by rw[nat_u8];exact firstIdx_mem⟩,rfl⟩
theorem ixb_wp(H:CH)(l:List UInt8)(c:UInt8):WpF (tblG Tryz.prog LG GG) 95 [.string (str l), .int .u8 c.toNat] H fun v K=>v= .int .i64 (firstIdx (str l) c)∧K=H:=by
 refine wpF_rG (by rfl) (by kernel_rfl) ?_;(conv in (rF _ _).body=>reduce);(conv in (rF _ _).res=>reduce)
 repeat' (first | (simp (disch:=first | omega | (decide +kernel)) only[↓RD,RU,↓putF_get,↓evF_t,↓evF_c,getD_zero,getD_succ,pop,resL,resV,tupleV,ρ0,ρ1,↓reduceIte,Nat.reduceEqDiff,Int.reduceOfNat,reduceCtorEq,ρ29,ixb_iff,nat_u8]) | (with_reducible first | refine condK_dec (fun _=> ?_) fun _=> ?_ | refine grd_dec (fun _=> ?_) fun _=> ?_ | refine egrd_dec (fun _=> ?_) fun _=> ?_))
theorem idxb_wp(H:CH)(l:List UInt8)(c:UInt8):WpF (tblG Tryz.prog LG GG) 79 [.string (str l), .int .u8 c.toNat] H fun v K=>v= .int .i64 (firstIdx (str l) c)∧K=H:=by
 refine wpF_rG (by rfl) (by kernel_rfl) ?_;(conv in (rF _ _).body=>reduce);(conv in (rF _ _).res=>reduce)
 repeat' (first | (simp (disch:=first | omega | (decide +kernel)) only[↓RD,RU,↓putF_get,↓evF_t,↓evF_c,getD_zero,getD_succ,pop,ρ0,ρ1,↓reduceIte,Nat.reduceEqDiff,Int.reduceOfNat,reduceCtorEq]) | (with_reducible first | refine condK_dec (fun _=> ?_) fun _=> ?_ | refine grd_dec (fun _=> ?_) fun _=> ?_ | refine egrd_dec (fun _=> ?_) fun _=> ?_))
 refine(ixb_wp H l c).mono fun v K ⟨hv,hk⟩=> ?_
 subst hv hk
 repeat' (first | (simp (disch:=first | omega | (decide +kernel)) only[↓RD,RU,↓putF_get,↓evF_t,pop,resL,resV,tupleV,↓reduceIte]) | (with_reducible first | refine condK_dec (fun _=> ?_) fun _=> ?_ | refine grd_dec (fun _=> ?_) fun _=> ?_ | refine egrd_dec (fun _=> ?_) fun _=> ?_))
 all_goals rfl
theorem idxb_iff{H:CH}{l:List UInt8}{c:UInt8}{Q:Value→CH→Prop}:WpF (tblG Tryz.prog LG GG) 79 [.string ⟨⟨l⟩⟩, .int .u8 c.toNat] H Q↔Q (.int .i64 (firstIdx (str l) c)) H:=wpF_iff (idxb_wp H l c)
theorem idx1_wp(H:CH)(l:List UInt8)(c:UInt8):WpF (tblG Tryz.prog LG GG) 103 [.string (str l), .string (str [c])] H fun v K=>IxOut H K l c v:=by
 refine wpF_rG (by rfl) (by kernel_rfl) ?_;(conv in (rF _ _).body=>reduce);(conv in (rF _ _).res=>reduce)
 by_cases he : [c]=l
 ·repeat' (first | (simp (disch:=first | omega | (decide +kernel)) only[↓RD,RU,↓putF_get,↓evF_t,↓evF_c,getD_zero,getD_succ,pop,resL,resV,tupleV,↓reduceIte,Nat.reduceEqDiff,Int.reduceOfNat,Int.reduceNegSucc,reduceCtorEq,str_size,str_eq,he]) | (with_reducible first | refine condK_dec (fun _=> ?_) fun _=> ?_ | refine grd_dec (fun _=> ?_) fun _=> ?_ | refine egrd_dec (fun _=> ?_) fun _=> ?_))
  all_goals exact⟨⟨0,rfl,fun _=>by rw[←he];exact List.mem_singleton.2 rfl,fun _=>Int.le_refl _⟩,rfl⟩
 ·repeat' (first | (simp (disch:=first | omega | (decide +kernel)) only[↓RD,RU,↓putF_get,↓evF_t,↓evF_c,getD_zero,getD_succ,pop,ρ0,ρ1,ρ4,↓reduceIte,Nat.reduceEqDiff,Int.reduceOfNat,Int.reduceNegSucc,reduceCtorEq,ρ5,ρ7,ρ8,Int.reduceToNat,str_size,str_get,str_eq,he]) | (with_reducible first | refine condK_dec (fun _=> ?_) fun _=> ?_ | refine grd_dec (fun _=> ?_) fun _=> ?_ | refine egrd_dec (fun _=> ?_) fun _=> ?_))
  refine(ixl_wp H l c).mono fun v K ⟨⟨x,hv,hx⟩,hk⟩=> ?_
  subst hv hk
  repeat' (first | (simp (disch:=first | omega | (decide +kernel)) only[↓RD,RU,↓putF_get,↓evF_t,pop,resL,resV,tupleV,↓reduceIte]) | (with_reducible first | refine condK_dec (fun _=> ?_) fun _=> ?_ | refine grd_dec (fun _=> ?_) fun _=> ?_ | refine egrd_dec (fun _=> ?_) fun _=> ?_))
  all_goals exact⟨⟨x,rfl,hx⟩,rfl⟩
theorem index1_wp(H:CH)(l:List UInt8)(c:UInt8):WpF (tblG Tryz.prog LG GG) 94 [.string (str l), .string (str [c])] H fun v K=>IxOut H K l c v:=by
 refine wpF_rG (by rfl) (by kernel_rfl) ?_;(conv in (rF _ _).body=>reduce);(conv in (rF _ _).res=>reduce)
 repeat' (first | (simp (disch:=first | omega | (decide +kernel)) only[↓RD,RU,↓putF_get,↓evF_t,↓evF_c,getD_zero,getD_succ,pop,ρ0,ρ1,↓reduceIte,Nat.reduceEqDiff,Int.reduceOfNat,reduceCtorEq]) | (with_reducible first | refine condK_dec (fun _=> ?_) fun _=> ?_ | refine grd_dec (fun _=> ?_) fun _=> ?_ | refine egrd_dec (fun _=> ?_) fun _=> ?_))
 refine(idx1_wp H l c).mono fun v K ⟨⟨x,hv,hx⟩,hk⟩=> ?_
 subst hv hk
 repeat' (first | (simp (disch:=first | omega | (decide +kernel)) only[↓RD,RU,↓putF_get,↓evF_t,pop,resL,resV,tupleV,↓reduceIte]) | (with_reducible first | refine condK_dec (fun _=> ?_) fun _=> ?_ | refine grd_dec (fun _=> ?_) fun _=> ?_ | refine egrd_dec (fun _=> ?_) fun _=> ?_))
 all_goals exact⟨⟨x,rfl,hx⟩,rfl⟩
theorem cont1_wp(H:CH)(l:List UInt8)(c:UInt8):WpF (tblG Tryz.prog LG GG) 78 [.string (str l), .string (str [c])] H fun v K=>v= .bool (decide (c∈l))∧K=H:=by
 refine wpF_rG (by rfl) (by kernel_rfl) ?_;(conv in (rF _ _).body=>reduce);(conv in (rF _ _).res=>reduce)
 repeat' (first | (simp (disch:=first | omega | (decide +kernel)) only[↓RD,RU,↓putF_get,↓evF_t,↓evF_c,getD_zero,getD_succ,pop,ρ0,ρ1,↓reduceIte,Nat.reduceEqDiff,Int.reduceOfNat,reduceCtorEq]) | (with_reducible first | refine condK_dec (fun _=> ?_) fun _=> ?_ | refine grd_dec (fun _=> ?_) fun _=> ?_ | refine egrd_dec (fun _=> ?_) fun _=> ?_))
 refine(index1_wp H l c).mono fun v K ⟨⟨x,hv,hx⟩,hk⟩=> ?_
 subst hv hk
 repeat' (first | (simp (disch:=first | omega | (decide +kernel)) only[↓RD,RU,↓putF_get,↓evF_t,↓evF_c,pop,resL,resV,tupleV,↓reduceIte]) | (with_reducible first | refine condK_dec (fun _=> ?_) fun _=> ?_ | refine grd_dec (fun _=> ?_) fun _=> ?_ | refine egrd_dec (fun _=> ?_) fun _=> ?_))
 all_goals exact congrArg Value.bool (decide_eq_decide.2 hx)
theorem cont1_iff{H:CH}{l:List UInt8}{c:UInt8}{Q:Value→CH→Prop}:WpF (tblG Tryz.prog LG GG) 78 [.string (str l), .string (str [c])] H Q↔Q (.bool (decide (c∈l))) H:=wpF_iff (cont1_wp H l c)
theorem zeros_thirteen{z:Value}:zeros [z] 13= [z,z,z,z,z,z,z,z,z,z,z,z,z]:=by simp[zeros,List.range,List.range.loop,Nat.mod_one]
def B1:List UInt8:= [40,91,123]
def B2:List UInt8:= [41,93,125]
theorem cont_S1{H:CH}{c:UInt8}{Q:Value→CH→Prop}:WpF (tblG Tryz.prog LG GG) 78 [.string ⟨⟨[UInt8.ofNat 43,UInt8.ofNat 45,UInt8.ofNat 42,UInt8.ofNat 47,UInt8.ofNat 37,UInt8.ofNat 61,UInt8.ofNat 60,UInt8.ofNat 62,UInt8.ofNat 40,UInt8.ofNat 41,UInt8.ofNat 91,UInt8.ofNat 93,UInt8.ofNat 123,UInt8.ofNat 125,UInt8.ofNat 44,UInt8.ofNat 58,UInt8.ofNat 46]⟩⟩, .string ⟨[c].toArray⟩] H Q↔Q (.bool (decide (c∈S1))) H:=cont1_iff
theorem idx_B1{H:CH}{c:UInt8}{Q:Value→CH→Prop}:WpF (tblG Tryz.prog LG GG) 79 [.string ⟨⟨[UInt8.ofNat 40,UInt8.ofNat 91,UInt8.ofNat 123]⟩⟩, .int .u8 c.toNat] H Q↔Q (.int .i64 (firstIdx (str B1) c)) H:=idxb_iff
theorem idx_B2{H:CH}{c:UInt8}{Q:Value→CH→Prop}:WpF (tblG Tryz.prog LG GG) 79 [.string ⟨⟨[UInt8.ofNat 41,UInt8.ofNat 93,UInt8.ofNat 125]⟩⟩, .int .u8 c.toNat] H Q↔Q (.int .i64 (firstIdx (str B2) c)) H:=idxb_iff
def SY:List (List UInt8):=S3++S2
def SymOut(A K:CH)(p:Nat)(src:List UInt8)(s:RS)(vo:Value)(m:Nat)(r:Option Nat):Prop:=match r with
 | some n=>∃vt',RdAt A K p src (putS { atS s n with dep:=depT s.dep 9 ((src.drop s.pos).take n) } 9 s.line ((src.drop s.pos).take n)) vo vt' m
 | none=>BadAt A K p src s vo m
theorem sy_mem{x:List UInt8}(h:x∈SY):(x∈S3∧x.length=3)∨(x∈S2∧x.length=2):=by
 have h3 : ∀x∈S3,x.length=3:=by decide
 have h2 : ∀x∈S2,x.length=2:=by decide
 rcases List.mem_append.1 h with g | g
 ·exact .inl ⟨g,h3 x g⟩
 ·exact .inr ⟨g,h2 x g⟩
theorem sy_two{i:Nat}(h:i<SY.length)(h2:SY[i].length=2):2≤i:=by
 rcases Nat.lt_or_ge i 2 with g | g
 ·have:i=0∨i=1:=by omega
  rcases this with rfl | rfl
  ·exact absurd (show(3:Nat)=2 from h2) (by decide)
  ·exact absurd (show(3:Nat)=2 from h2) (by decide)
 ·exact g
theorem sy_take{i:Nat}(h:2≤i){y:List UInt8}(hy:y∈S3):y∈SY.take i:=by
 have:SY.take i=S3++S2.take (i-2):=by
  unfold SY
  rw[List.take_append,List.take_of_length_le (show S3.length≤i from h)];rfl
 rw[this]
 exact List.mem_append_left _ hy
theorem sy_first{l:List UInt8}{i:Nat}(h:i<SY.length)(hm:l.take SY[i].length=SY[i])(hb : ∀x∈SY.take i,l.take x.length≠x):symN l=some SY[i].length:=by
 unfold symN
 rcases sy_mem (List.getElem_mem h) with ⟨g,gl⟩ | ⟨g,gl⟩
 ·rw[gl] at hm⊢
  rw[if_pos (by rw[hm];exact g)]
 ·have hi:=sy_two h gl
  rw[gl] at hm⊢
  rw[if_neg,if_pos (by rw[hm];exact g)]
  intro hc
  have hl:(l.take 3).length=3:=by
   have h3 : ∀x∈S3,x.length=3:=by decide
   exact h3 _ hc
  exact hb _ (sy_take hi hc) (by rw[hl])
theorem sy_none{l:List UInt8}(hb : ∀x∈SY,l.take x.length≠x):symN l=if hd l∈S1.map UInt8.toNat then some 1 else none:=by
 have h3 : ∀x∈S3,x.length=3:=by decide
 have h2 : ∀x∈S2,x.length=2:=by decide
 unfold symN
 rw[if_neg,if_neg]
 ·intro hc
  exact hb _ (List.mem_append_right _ hc) (by rw[h2 _ hc])
 ·intro hc
  exact hb _ (List.mem_append_left _ hc) (by rw[h3 _ hc])
theorem symbol_wp{A K:CH}{p:Nat}{src:List UInt8}{s:RS}{vo vt:Value}{m:Nat}(h:RdAt A K p src s vo vt m)(hp:s.pos<src.length)(h0:s.err=0)(hb:s.out.length+s.opn.length<1000000)(hdp:s.dep<100000) :
 WpF (tblG Tryz.prog LG GG) 60 [.pointer (some ⟨p,0,none⟩)] K fun v K'=>SymOut A K' p src s vo m (symN (src.drop s.pos)):=by
 have hsl:=h.sl
 have hob:=h.ob
 have hpl:=h.pl
 have hln:=h.bd.line
 obtain⟨l,hl⟩ : ∃l,src.drop s.pos=l:=⟨_,rfl⟩
 have hll:l.length=src.length-s.pos:=by rw[←hl];simp
 have htk:l.take (src.length-s.pos)=l:=List.take_of_length_le (by omega)
 have hl0:0<l.length:=by omega
 unfold SymOut
 rw[hl]
 refine wpF_rG (by rfl) (by kernel_rfl) ?_;(conv in (rF _ _).body=>reduce);(conv in (rF _ _).res=>reduce)
 repeat' (first | (simp (disch:=first | omega | (decide +kernel)) only[↓RD,RU,↓putF_get,↓evF_t,↓evF_c,pop,aop,akV,isVal,Value.cells,ρ0,ρ1,ρ4,↓reduceIte,Nat.reduceAdd,Int.reduceOfNat,ρ7,ρ8,ρ17,ρ18,ρ19,ρ20,ρ21,ρ25,ρ26,bldV,Nat.reduceLeDiff,zeros_thirteen]) | (with_reducible first | refine condK_dec (fun _=> ?_) fun _=> ?_ | refine grd_dec (fun _=> ?_) fun _=> ?_ | refine egrd_dec (fun _=> ?_) fun _=> ?_))
 refine loop_w (fun n fr K1=>∃i,n=13-i∧i≤13∧fr 7= .int .i64 (i:Nat)∧(∀x∈SY.take i,l.take x.length≠x)∧K1.ob K.nx= .cells (SY.map fun x=> .string (str x)) 9 .ex∧K.nx<K1.nx∧RdAt A K1 p src s vo vt m) (n:=13) ⟨0,rfl,by omega,by(repeat' (first | (simp (disch:=first | omega | (decide +kernel)) only[↓putF_get,↓reduceIte]) | (with_reducible first | refine condK_dec (fun _=> ?_) fun _=> ?_ | refine grd_dec (fun _=> ?_) fun _=> ?_ | refine egrd_dec (fun _=> ?_) fun _=> ?_));try rfl),fun x hx=>(by simp at hx),?_,Nat.lt_succ_self _,h.mv (by(repeat (first | assumption | exact HExt.refl _ | (refine HExt.set ?_ (by first | omega | (simp only[new_nx,set_nx];omega)) _) | (refine HExt.new ?_ _))))⟩ ?_
 ·rw[new_get,if_pos rfl]
  rfl
 rintro n fr K1 ⟨i,rfl,hi13,f7,hbs,hrow,hrn,h1⟩ hag
 have hob1:=h1.ob
 have hpl1:=h1.pl
 by_cases hi:i<13
 ·have hi2:i<SY.length:=hi
  obtain⟨x,hx⟩ : ∃x,SY[i]=x:=⟨_,rfl⟩
  have hget:(SY.map fun x=>(.string (str x):Value))[i]? = some (.string (str x)):=by rw[List.getElem?_map,List.getElem?_eq_getElem hi2,hx];rfl
  have hxl:=sy_mem (List.getElem_mem hi2)
  rw[hx] at hxl
  have hxl3:2≤x.length∧x.length≤3:=by rcases hxl with ⟨_,g⟩ | ⟨_,g⟩<;>omega
  by_cases hm:l.take x.length=x
  ·have hsy:symN l=some x.length:=by rw[←hx];exact sy_first hi2 (by rw[hx];exact hm) hbs
   have hmd:decide (l.take x.length=x)=true:=decide_eq_true hm
   have hxle:x.length≤l.length:=by
    have:=congrArg List.length hm
    simp at this;omega
   rw[hsy]
   repeat' (first | (simp (disch:=first | omega | (decide +kernel)) only[↓RD,RU,↓putF_get,↓evF_t,↓evF_c,getD_zero,pop,lop,ρ0,ρ1,↓reduceIte,Nat.reduceEqDiff,reduceCtorEq,ρ5,ρ6,bnd,lenV,ρ28,ρ29,hag,f7,hrow,hget,hob1,str_size,str_ext,hl,htk,hasp_iff]) | (with_reducible first | refine condK_dec (fun _=> ?_) fun _=> ?_ | refine grd_dec (fun _=> ?_) fun _=> ?_ | refine egrd_dec (fun _=> ?_) fun _=> ?_))
   refine(put_wp h1 9 s.line x hb).mono fun v2 K2 ⟨vt2,h2⟩=> ?_
   have hob2:=h2.ob
   have hpl2:=h2.pl
   have hpos2:(putS s 9 s.line x).pos=s.pos:=rfl
   have hdep:depT s.dep 9 x=s.dep:=by
    have n1:x ∉ [[40],[91],[123]]:=fun hc=>by
     have : ∀y∈ [[(40:UInt8)],[91],[123]],y.length=1:=by decide
     have:=this x hc;omega
    have n2:x ∉ [[41],[93],[125]]:=fun hc=>by
     have : ∀y∈ [[(41:UInt8)],[93],[125]],y.length=1:=by decide
     have:=this x hc;omega
    unfold depT
    rw[if_neg (fun g=>n1 g.2),if_neg (fun g=>n2 g.2.1)]
   have h3:=h2.set (s':= { putS s 9 s.line x with pos:=s.pos+x.length }) rfl rfl ⟨by show s.pos+x.length≤_;omega,h2.bd.line,h2.bd.dep,h2.bd.err,h2.bd.wh,h2.bd.out⟩
   repeat' (first | (simp (disch:=first | omega | (decide +kernel)) only[↓RD,RU,↓putF_get,↓evF_t,getD_zero,pop,lop,wop,resL,isVal,isCell,Value.cells,↓reduceIte,Nat.reduceEqDiff,Nat.reduceAdd,reduceCtorEq,ρ5,ρ6,ρ7,ρ8,ρ17,ρ18,ρ19,ρ20,ρ22,ρ23,Kd.isRo,ρ25,ρ26,Nat.reduceLeDiff,hag,hob2,hpos2,str_size,toN]) | (with_reducible first | refine condK_dec (fun _=> ?_) fun _=> ?_ | refine grd_dec (fun _=> ?_) fun _=> ?_ | refine egrd_dec (fun _=> ?_) fun _=> ?_))
   all_goals exact⟨vt2,by rw[hm,hdep];exact h3⟩
  ·have hmd:decide (l.take x.length=x)=false:=decide_eq_false hm
   repeat' (first | (simp (disch:=first | omega | (decide +kernel)) only[↓RD,RU,↓putF_get,↓evF_t,↓evF_c,getD_zero,pop,lop,ρ0,ρ1,↓reduceIte,Nat.reduceEqDiff,reduceCtorEq,ρ5,ρ6,bnd,lenV,ρ28,ρ29,hag,f7,hrow,hget,hob1,str_size,str_ext,hl,htk,hasp_iff,n1]) | (with_reducible first | refine condK_dec (fun _=> ?_) fun _=> ?_ | refine grd_dec (fun _=> ?_) fun _=> ?_ | refine egrd_dec (fun _=> ?_) fun _=> ?_))
   all_goals
    refine⟨_,by omega,i+1,rfl,by omega,rfl,fun y hy=> ?_,hrn,h1⟩
    rw[List.take_add_one,List.getElem?_eq_getElem hi2,hx] at hy
    rcases List.mem_append.1 hy with hy | hy
    ·exact hbs y hy
    ·have:y=x:=by simpa using hy
     rw[this];exact hm
 ·have hi':i=13:=by omega
  subst hi'
  obtain⟨c,hc⟩ : ∃c,src[s.pos]=c:=⟨_,rfl⟩
  have hcg:src[s.pos]? = some c:=by rw[get_pos hp,hc]
  have hhd:hd l=c.toNat:=by rw[←hl,hd_drop hp,hc]
  have ht1:l.take 1= [c]:=by
   rw[←hl,List.drop_eq_getElem_cons hp,hc];rfl
  have hsy:=sy_none (l:=l) fun x hx=>hbs x (by rw[List.take_of_length_le (show SY.length≤13 from Nat.le_refl _)];exact hx)
  have hmemS:hd l∈S1.map UInt8.toNat↔c∈S1:=by
   rw[hhd]
   exact⟨fun h=>by obtain⟨y,hy,e⟩:=List.mem_map.1 h;rwa [←UInt8.toNat.inj e],fun h=>List.mem_map.2 ⟨c,h,rfl⟩⟩
  by_cases hcS:c∈S1
  ·have hS:decide (c∈S1)=true:=decide_eq_true hcS
   rw[hsy,if_pos (hmemS.2 hcS)]
   by_cases hb1:c∈B1
   ·have hi1:decide (0≤firstIdx (str B1) c)=true:=decide_eq_true (firstIdx_mem.2 hb1)
    have hdep:depT s.dep 9 [c]=s.dep+1:=by
     unfold depT
     rw[if_pos ⟨rfl,by simp only[B1,List.mem_cons,List.not_mem_nil,or_false] at hb1⊢;rcases hb1 with rfl | rfl | rfl<;>simp⟩]
    have h4:=(h1.mv (K':=K1.new (.cells [.int .u8 (c.toNat:Int)] 5 .ex)) (by(repeat (first | assumption | exact HExt.refl _ | (refine HExt.set ?_ (by first | omega | (simp only[new_nx,set_nx];omega)) _) | (refine HExt.new ?_ _))))).set (s':= { s with dep:=s.dep+1 }) rfl rfl ⟨h.bd.pos,h.bd.line,by show s.dep+1≤_;omega,h.bd.err,h.bd.wh,h.bd.out⟩
    repeat' (first | (simp (disch:=first | omega | (decide +kernel)) only[↓RD,RU,↓putF_get,↓putF_none,↓evF_t,↓evF_c,new_nx,set_nx,new_get,set_get,getD_zero,u_not,pop,lop,aop,wop,akV,isVal,isCell,Value.cells,ρ0,ρ1,ρ2,ρ4,↓reduceIte,Nat.reduceEqDiff,Nat.reduceAdd,reduceCtorEq,ρ5,ρ6,ρ7,ρ8,ρ15,ρ17,ρ18,ρ19,ρ20,ρ21,ρ22,ρ23,Kd.isRo,ρ25,ρ26,bldV,Nat.reduceLeDiff,zeros_one,ρ28,ρ29,hag,f7,hob1,str_get,hcg,u8k,cont_S1,idx_B1,byteList_one,hi1,n1]) | (with_reducible first | refine condK_dec (fun _=> ?_) fun _=> ?_ | refine grd_dec (fun _=> ?_) fun _=> ?_ | refine egrd_dec (fun _=> ?_) fun _=> ?_))
    all_goals
     refine(put_wp (h4.mv (by(repeat (first | assumption | exact HExt.refl _ | (refine HExt.set ?_ (by first | omega | (simp only[new_nx,set_nx];omega)) _) | (refine HExt.new ?_ _))))) 9 s.line [c] hb).mono fun v5 K5 ⟨vt5,h5⟩=> ?_
     have hob5:=h5.ob
     have hpl5:=h5.pl
     have hpos5:(putS { s with dep:=s.dep+1 } 9 s.line [c]).pos=s.pos:=rfl
     repeat' (first | (simp (disch:=first | omega | (decide +kernel)) only[↓RD,RU,↓putF_get,↓evF_t,↓evF_c,getD_zero,pop,lop,wop,resL,isVal,isCell,Value.cells,↓reduceIte,Nat.reduceEqDiff,Nat.reduceAdd,reduceCtorEq,ρ5,ρ6,ρ7,ρ8,ρ17,ρ18,ρ19,ρ20,ρ22,ρ23,Kd.isRo,ρ25,ρ26,Nat.reduceLeDiff,hag,hob5,hpos5,n1]) | (with_reducible first | refine condK_dec (fun _=> ?_) fun _=> ?_ | refine grd_dec (fun _=> ?_) fun _=> ?_ | refine egrd_dec (fun _=> ?_) fun _=> ?_))
     all_goals exact⟨vt5,by rw[ht1,hdep];exact h5.set (s':=putS { atS s 1 with dep:=s.dep+1 } 9 s.line [c]) rfl rfl ⟨by show s.pos+1≤_;omega,h5.bd.line,h5.bd.dep,h5.bd.err,h5.bd.wh,h5.bd.out⟩⟩
   ·have hi1:decide (0≤firstIdx (str B1) c)=false:=decide_eq_false fun g=>hb1 (firstIdx_mem.1 g)
    have hb1' : [c] ∉ [[(40:UInt8)],[91],[123]]:=fun g=>hb1 (by simpa[B1] using g)
    by_cases hb2:c∈B2
    ·have hi2:decide (0≤firstIdx (str B2) c)=true:=decide_eq_true (firstIdx_mem.2 hb2)
     have hb2' : [c]∈ [[(41:UInt8)],[93],[125]]:=by simpa[B2] using hb2
     by_cases hd0:0<s.dep
     ·have hdep:depT s.dep 9 [c]=s.dep-1:=by
       unfold depT
       rw[if_neg (fun g=>hb1' g.2),if_pos ⟨rfl,hb2',hd0⟩]
      have h4:=(h1.mv (K':=K1.new (.cells [.int .u8 (c.toNat:Int)] 5 .ex)) (by(repeat (first | assumption | exact HExt.refl _ | (refine HExt.set ?_ (by first | omega | (simp only[new_nx,set_nx];omega)) _) | (refine HExt.new ?_ _))))).set (s':= { s with dep:=s.dep-1 }) rfl rfl ⟨h.bd.pos,h.bd.line,by show s.dep-1≤_;omega,h.bd.err,h.bd.wh,h.bd.out⟩
      have hsub:((s.dep:Nat):Int)-1=((s.dep-1:Nat):Int):=by omega
      repeat' (first | (simp (disch:=first | omega | (decide +kernel)) only[↓RD,RU,↓putF_get,↓putF_none,↓evF_t,↓evF_c,new_nx,set_nx,new_get,set_get,getD_zero,u_not,pop,lop,aop,wop,akV,isVal,isCell,Value.cells,ρ0,ρ1,ρ2,ρ4,↓reduceIte,Nat.reduceEqDiff,Nat.reduceAdd,reduceCtorEq,ρ5,ρ6,ρ7,ρ8,ρ15,ρ17,ρ18,ρ19,ρ20,ρ21,ρ22,ρ23,Kd.isRo,ρ25,ρ26,bldV,Nat.reduceLeDiff,zeros_one,ρ28,ρ29,hag,f7,hob1,str_get,hcg,u8k,cont_S1,idx_B1,idx_B2,byteList_one,hi1,hi2,hsub]) | (with_reducible first | refine condK_dec (fun _=> ?_) fun _=> ?_ | refine grd_dec (fun _=> ?_) fun _=> ?_ | refine egrd_dec (fun _=> ?_) fun _=> ?_))
      all_goals
       refine(put_wp (h4.mv (by(repeat (first | assumption | exact HExt.refl _ | (refine HExt.set ?_ (by first | omega | (simp only[new_nx,set_nx];omega)) _) | (refine HExt.new ?_ _))))) 9 s.line [c] hb).mono fun v5 K5 ⟨vt5,h5⟩=> ?_
       have hob5:=h5.ob
       have hpl5:=h5.pl
       have hpos5:(putS { s with dep:=s.dep-1 } 9 s.line [c]).pos=s.pos:=rfl
       repeat' (first | (simp (disch:=first | omega | (decide +kernel)) only[↓RD,RU,↓putF_get,↓evF_t,↓evF_c,getD_zero,pop,lop,wop,resL,isVal,isCell,Value.cells,↓reduceIte,Nat.reduceEqDiff,Nat.reduceAdd,reduceCtorEq,ρ5,ρ6,ρ7,ρ8,ρ17,ρ18,ρ19,ρ20,ρ22,ρ23,Kd.isRo,ρ25,ρ26,Nat.reduceLeDiff,hag,hob5,hpos5,n1]) | (with_reducible first | refine condK_dec (fun _=> ?_) fun _=> ?_ | refine grd_dec (fun _=> ?_) fun _=> ?_ | refine egrd_dec (fun _=> ?_) fun _=> ?_))
       all_goals exact⟨vt5,by rw[ht1,hdep];exact h5.set (s':=putS { atS s 1 with dep:=s.dep-1 } 9 s.line [c]) rfl rfl ⟨by show s.pos+1≤_;omega,h5.bd.line,h5.bd.dep,h5.bd.err,h5.bd.wh,h5.bd.out⟩⟩
     ·have hdep:depT s.dep 9 [c]=s.dep:=by
       unfold depT
       rw[if_neg (fun g=>hb1' g.2),if_neg (fun g=>hd0 g.2.2)]
      repeat' (first | (simp (disch:=first | omega | (decide +kernel)) only[↓RD,RU,↓putF_get,↓evF_t,↓evF_c,new_nx,new_get,getD_zero,u_not,pop,lop,aop,akV,isVal,Value.cells,ρ0,ρ1,ρ2,ρ4,↓reduceIte,Nat.reduceEqDiff,reduceCtorEq,ρ5,ρ6,ρ7,ρ8,ρ15,ρ17,ρ18,ρ21,ρ25,ρ26,bldV,Nat.reduceLeDiff,zeros_one,ρ28,ρ29,hag,f7,hob1,str_get,hcg,u8k,cont_S1,idx_B1,idx_B2,byteList_one,hi1,hi2]) | (with_reducible first | refine condK_dec (fun _=> ?_) fun _=> ?_ | refine grd_dec (fun _=> ?_) fun _=> ?_ | refine egrd_dec (fun _=> ?_) fun _=> ?_))
      all_goals
       refine(put_wp (h1.mv (by(repeat (first | assumption | exact HExt.refl _ | (refine HExt.set ?_ (by first | omega | (simp only[new_nx,set_nx];omega)) _) | (refine HExt.new ?_ _))))) 9 s.line [c] hb).mono fun v5 K5 ⟨vt5,h5⟩=> ?_
       have hob5:=h5.ob
       have hpl5:=h5.pl
       have hpos5:(putS s 9 s.line [c]).pos=s.pos:=rfl
       repeat' (first | (simp (disch:=first | omega | (decide +kernel)) only[↓RD,RU,↓putF_get,↓evF_t,↓evF_c,getD_zero,pop,lop,wop,resL,isVal,isCell,Value.cells,↓reduceIte,Nat.reduceEqDiff,Nat.reduceAdd,reduceCtorEq,ρ5,ρ6,ρ7,ρ8,ρ17,ρ18,ρ19,ρ20,ρ22,ρ23,Kd.isRo,ρ25,ρ26,Nat.reduceLeDiff,hag,hob5,hpos5,n1]) | (with_reducible first | refine condK_dec (fun _=> ?_) fun _=> ?_ | refine grd_dec (fun _=> ?_) fun _=> ?_ | refine egrd_dec (fun _=> ?_) fun _=> ?_))
       all_goals exact⟨vt5,by rw[ht1,hdep];exact h5.set (s':=putS { atS s 1 with dep:=s.dep } 9 s.line [c]) rfl rfl ⟨by show s.pos+1≤_;omega,h5.bd.line,h5.bd.dep,h5.bd.err,h5.bd.wh,h5.bd.out⟩⟩
    ·have hi2:decide (0≤firstIdx (str B2) c)=false:=decide_eq_false fun g=>hb2 (firstIdx_mem.1 g)
     have hb2' : [c] ∉ [[(41:UInt8)],[93],[125]]:=fun g=>hb2 (by simpa[B2] using g)
     have hdep:depT s.dep 9 [c]=s.dep:=by
      unfold depT
      rw[if_neg (fun g=>hb1' g.2),if_neg (fun g=>hb2' g.2.1)]
     repeat' (first | (simp (disch:=first | omega | (decide +kernel)) only[↓RD,RU,↓putF_get,↓evF_t,↓evF_c,new_nx,new_get,getD_zero,u_not,pop,lop,aop,akV,isVal,Value.cells,ρ0,ρ1,ρ2,ρ4,↓reduceIte,Nat.reduceEqDiff,reduceCtorEq,ρ5,ρ6,ρ7,ρ8,ρ15,ρ17,ρ18,ρ21,ρ25,ρ26,bldV,Nat.reduceLeDiff,zeros_one,ρ28,ρ29,hag,f7,hob1,str_get,hcg,u8k,cont_S1,idx_B1,idx_B2,byteList_one,hi1,hi2]) | (with_reducible first | refine condK_dec (fun _=> ?_) fun _=> ?_ | refine grd_dec (fun _=> ?_) fun _=> ?_ | refine egrd_dec (fun _=> ?_) fun _=> ?_))
     all_goals
      refine(put_wp (h1.mv (by(repeat (first | assumption | exact HExt.refl _ | (refine HExt.set ?_ (by first | omega | (simp only[new_nx,set_nx];omega)) _) | (refine HExt.new ?_ _))))) 9 s.line [c] hb).mono fun v5 K5 ⟨vt5,h5⟩=> ?_
      have hob5:=h5.ob
      have hpl5:=h5.pl
      have hpos5:(putS s 9 s.line [c]).pos=s.pos:=rfl
      repeat' (first | (simp (disch:=first | omega | (decide +kernel)) only[↓RD,RU,↓putF_get,↓evF_t,↓evF_c,getD_zero,pop,lop,wop,resL,isVal,isCell,Value.cells,↓reduceIte,Nat.reduceEqDiff,Nat.reduceAdd,reduceCtorEq,ρ5,ρ6,ρ7,ρ8,ρ17,ρ18,ρ19,ρ20,ρ22,ρ23,Kd.isRo,ρ25,ρ26,Nat.reduceLeDiff,hag,hob5,hpos5,n1]) | (with_reducible first | refine condK_dec (fun _=> ?_) fun _=> ?_ | refine grd_dec (fun _=> ?_) fun _=> ?_ | refine egrd_dec (fun _=> ?_) fun _=> ?_))
      all_goals exact⟨vt5,by rw[ht1,hdep];exact h5.set (s':=putS { atS s 1 with dep:=s.dep } 9 s.line [c]) rfl rfl ⟨by show s.pos+1≤_;omega,h5.bd.line,h5.bd.dep,h5.bd.err,h5.bd.wh,h5.bd.out⟩⟩
  ·have hS:decide (c∈S1)=false:=decide_eq_false hcS
   rw[hsy,if_neg (fun g=>hcS (hmemS.1 g))]
   repeat' (first | (simp (disch:=first | omega | (decide +kernel)) only[↓RD,RU,↓putF_get,↓evF_t,↓evF_c,new_get,getD_zero,u_not,pop,lop,aop,akV,isVal,Value.cells,ρ0,ρ1,ρ3,ρ4,↓reduceIte,Nat.reduceEqDiff,reduceCtorEq,ρ5,ρ6,ρ7,ρ8,ρ15,ρ17,ρ18,ρ21,ρ25,ρ26,bldV,Nat.reduceLeDiff,zeros_one,ρ28,ρ29,hag,f7,hob1,str_get,hcg,u8k,cont_S1,byteList_one]) | (with_reducible first | refine condK_dec (fun _=> ?_) fun _=> ?_ | refine grd_dec (fun _=> ?_) fun _=> ?_ | refine egrd_dec (fun _=> ?_) fun _=> ?_))
   refine(fail_wp0 (h1.mv (by(repeat (first | assumption | exact HExt.refl _ | (refine HExt.set ?_ (by first | omega | (simp only[new_nx,set_nx];omega)) _) | (refine HExt.new ?_ _))))) s.line 20 hln (by decide) h0).mono fun v4 K4 ⟨h4,_⟩=> ?_
   have hob4:=h4.ob
   have hpl4:=h4.pl
   repeat' (first | (simp (disch:=first | omega | (decide +kernel)) only[↓RD,RU,↓putF_get,↓evF_t,↓evF_c,new_get,getD_zero,pop,lop,aop,akV,isVal,Value.cells,ρ0,ρ1,ρ4,↓reduceIte,Nat.reduceEqDiff,reduceCtorEq,ρ5,ρ6,ρ7,ρ8,ρ15,ρ17,ρ18,ρ21,ρ25,ρ26,bldV,Nat.reduceLeDiff,zeros_one,hag,hob4,byteList_one]) | (with_reducible first | refine condK_dec (fun _=> ?_) fun _=> ?_ | refine grd_dec (fun _=> ?_) fun _=> ?_ | refine egrd_dec (fun _=> ?_) fun _=> ?_))
   all_goals
    refine(put_wp (h4.mv (by(repeat (first | assumption | exact HExt.refl _ | (refine HExt.set ?_ (by first | omega | (simp only[new_nx,set_nx];omega)) _) | (refine HExt.new ?_ _))))) 9 s.line [c] hb).mono fun v5 K5 ⟨vt5,h5⟩=> ?_
    have hob5:=h5.ob
    have hpl5:=h5.pl
    have hpos5:(putS { s with err:=20,wh:=s.line } 9 s.line [c]).pos=s.pos:=rfl
    repeat' (first | (simp (disch:=first | omega | (decide +kernel)) only[↓RD,RU,↓putF_get,↓evF_t,↓evF_c,getD_zero,pop,lop,wop,resL,isVal,isCell,Value.cells,↓reduceIte,Nat.reduceEqDiff,Nat.reduceAdd,reduceCtorEq,ρ5,ρ6,ρ7,ρ8,ρ17,ρ18,ρ19,ρ20,ρ22,ρ23,Kd.isRo,ρ25,ρ26,Nat.reduceLeDiff,hag,hob5,hpos5,n1]) | (with_reducible first | refine condK_dec (fun _=> ?_) fun _=> ?_ | refine grd_dec (fun _=> ?_) fun _=> ?_ | refine egrd_dec (fun _=> ?_) fun _=> ?_))
    all_goals exact⟨vt5,_,h5.set (s':=putS { atS s 1 with err:=20,wh:=s.line } 9 s.line [c]) rfl rfl ⟨by show s.pos+1≤_;omega,h5.bd.line,h5.bd.dep,h5.bd.err,h5.bd.wh,h5.bd.out⟩,rfl,rfl,rfl,rfl,by simp[putS,atS],Nat.lt_succ_self _,by show s.pos+1≤_;omega,rfl⟩
end Can
end Go.Proofs.YtdfgkcoenagaaaaGreat
