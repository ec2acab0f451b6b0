/- Lex: symbols. Lex: numbers. Lex: one token; the indentation. Lex: what stands behind a row's end turns nothing in it. No program in sight. Lex: a row. Lex: the words; the program's Lex. Lex: plain laws of the rows. Lex: the program's Lex. Lex: how long the answer is; bytes; the document's Same; Lex as tokens that lie. Lex, plain: lines counted on; rows that are blank. Runs over trees: rows as pure lists. Values, and what they stand for in a canonical memory. Over any program. Runs over trees: pure operations and reads. Over any program. -/
import Derived.Test.YticlaccbodpkeaaGreatDoorYd
section
namespace Go.Proofs.YticlaccbodpkeaaGreatDoor
namespace Can
open Go Go.RowKit
set_option linter.unusedSimpArgs false
set_option linter.unusedVariables false
set_option maxRecDepth 4000
theorem toN{a b:Nat}:((a:Int)+(b:Int))=((a+b:Nat):Int):=rfl
theorem byteList_one{c:UInt8}:byteList [.int .u8 (c.toNat:Int)]=some [c]:=byteList_u8s (l:= [c])
theorem hpref_wp(H:CH)(a b:List UInt8)(ha:a.length≤100000)(hb:b.length≤100000):WpF (tblG Tryz.prog LG GG) 179 [.string (str a), .string (str b)] H fun v K=>v= .bool (decide (a.take b.length=b))∧K=H:=by
 refine wpF_rG (by rfl) (by kernel_rfl) ?_;(conv in (rF _ _).body=>reduce);(conv in (rF _ _).res=>reduce)
 by_cases hl:b.length≤a.length
 ·exact rz (an @str_size (an @str_ext (an @str_eq @Nat.sub_zero)))
  all_goals rfl
 ·have hd:decide (a.take b.length=b)=false:=decide_eq_false fun e=>by
   have:=congrArg List.length e
   simp at this;omega
  rw[hd]
  exact rz (an @str_size (an @str_ext @str_eq))
theorem hasp_wp(H:CH)(a b:List UInt8)(ha:a.length≤100000)(hb:b.length≤100000):WpF (tblG Tryz.prog LG GG) 162 [.string (str a), .string (str b)] H fun v K=>v= .bool (decide (a.take b.length=b))∧K=H:=by
 refine wpF_rG (by rfl) (by kernel_rfl) ?_;(conv in (rF _ _).body=>reduce);(conv in (rF _ _).res=>reduce)
 refine rn0 ?_
 refine(hpref_wp H a b ha hb).mono fun v K ⟨hv,hk⟩=> ?_
 subst hv hk
 exact rz0
 all_goals rfl
theorem hasp_iff{H:CH}{a b:List UInt8}(ha:a.length≤100000)(hb:b.length≤100000){Q:Value→CH→Prop}:WpF (tblG Tryz.prog LG GG) 162 [.string (str a), .string (str b)] H Q↔Q (.bool (decide (a.take b.length=b))) H:=wpF_iff (hasp_wp H a b ha hb)
theorem str_get!{l:List UInt8}{i:Nat}(h:i<l.length):(str l)[i]! = l[i]:=by
 have h':i<(str l).size:=h
 rw[getElem!_pos (str l) i h'];rfl
theorem firstIdx_mem{l:List UInt8}{c:UInt8}:0≤firstIdx (str l) c↔c∈l:=by
 unfold firstIdx
 cases hf:(List.range (str l).size).find? fun i=>(str l)[i]! == c with
 | some i=>
   have h1:=List.find?_some hf
   have h2:=List.mem_of_find?_eq_some hf
   have h3:i<l.length:=List.mem_range.1 h2
   rw[str_get! h3] at h1
   have:l[i]=c:=by simpa using h1
   simp only
   exact⟨fun _=>this▸List.getElem_mem h3,fun _=>by omega⟩
 | none=>
   simp only
   refine⟨fun h=>by omega,fun h=> ?_⟩
   obtain⟨i,hi,rfl⟩:=List.getElem_of_mem h
   have:=List.find?_eq_none.1 hf i (List.mem_range.2 hi)
   rw[str_get! hi] at this
   simp at this
theorem nat_u8{c:UInt8}:c.toNat.toUInt8=c:=by simp
def IxOut(H K:CH)(l:List UInt8)(c:UInt8)(v:Value):Prop:=(∃x:Int,v= .int .i64 x∧(0≤x↔c∈l))∧K=H
theorem ixl_wp(H:CH)(l:List UInt8)(c:UInt8):WpF (tblG Tryz.prog LG GG) 181 [.string (str l), .int .u8 c.toNat] H fun v K=>IxOut H K l c v:=by
 refine wpF_rG (by rfl) (by kernel_rfl) ?_;(conv in (rF _ _).body=>reduce);(conv in (rF _ _).res=>reduce)
 refine rn @ixb_iff ?_
 all_goals exact⟨⟨_,rfl,by rw[nat_u8];exact firstIdx_mem⟩,rfl⟩
theorem ixb_wp(H:CH)(l:List UInt8)(c:UInt8):WpF (tblG Tryz.prog LG GG) 181 [.string (str l), .int .u8 c.toNat] H fun v K=>v= .int .i64 (firstIdx (str l) c)∧K=H:=by
 refine wpF_rG (by rfl) (by kernel_rfl) ?_;(conv in (rF _ _).body=>reduce);(conv in (rF _ _).res=>reduce)
 exact rz (an @ixb_iff @nat_u8)
theorem idxb_wp(H:CH)(l:List UInt8)(c:UInt8):WpF (tblG Tryz.prog LG GG) 164 [.string (str l), .int .u8 c.toNat] H fun v K=>v= .int .i64 (firstIdx (str l) c)∧K=H:=by
 refine wpF_rG (by rfl) (by kernel_rfl) ?_;(conv in (rF _ _).body=>reduce);(conv in (rF _ _).res=>reduce)
 refine rn0 ?_
 refine(ixb_wp H l c).mono fun v K ⟨hv,hk⟩=> ?_
 subst hv hk
 exact rz0
 all_goals rfl
theorem idxb_iff{H:CH}{l:List UInt8}{c:UInt8}{Q:Value→CH→Prop}:WpF (tblG Tryz.prog LG GG) 164 [.string ⟨⟨l⟩⟩, .int .u8 c.toNat] H Q↔Q (.int .i64 (firstIdx (str l) c)) H:=wpF_iff (idxb_wp H l c)
theorem idx1_wp(H:CH)(l:List UInt8)(c:UInt8):WpF (tblG Tryz.prog LG GG) 188 [.string (str l), .string (str [c])] H fun v K=>IxOut H K l c v:=by
 refine wpF_rG (by rfl) (by kernel_rfl) ?_;(conv in (rF _ _).body=>reduce);(conv in (rF _ _).res=>reduce)
 by_cases he : [c]=l
 ·repeat' (first | (simp (disch:=first | omega | (decide +kernel)) only[↓RD,RU,↓putF_get,↓evF_t,↓evF_c,getD_zero,getD_succ,pop,resL,resV,tupleV,↓reduceIte,Nat.reduceEqDiff,Int.reduceOfNat,Int.reduceNegSucc,reduceCtorEq,str_size,str_eq,he]) | (with_reducible first | refine condK_dec (fun _=> ?_) fun _=> ?_ | refine grd_dec (fun _=> ?_) fun _=> ?_ | refine egrd_dec (fun _=> ?_) fun _=> ?_))
  all_goals exact⟨⟨0,rfl,fun _=>by rw[←he];exact List.mem_singleton.2 rfl,fun _=>Int.le_refl _⟩,rfl⟩
 ·refine rn (an @str_size (an @str_get (an @str_eq @he))) ?_
  refine(ixl_wp H l c).mono fun v K ⟨⟨x,hv,hx⟩,hk⟩=> ?_
  subst hv hk
  repeat' (first | (simp (disch:=first | omega | (decide +kernel)) only[↓RD,RU,↓putF_get,↓evF_t,pop,resL,resV,tupleV,↓reduceIte]) | (with_reducible first | refine condK_dec (fun _=> ?_) fun _=> ?_ | refine grd_dec (fun _=> ?_) fun _=> ?_ | refine egrd_dec (fun _=> ?_) fun _=> ?_))
  all_goals exact⟨⟨x,rfl,hx⟩,rfl⟩
theorem index1_wp(H:CH)(l:List UInt8)(c:UInt8):WpF (tblG Tryz.prog LG GG) 180 [.string (str l), .string (str [c])] H fun v K=>IxOut H K l c v:=by
 refine wpF_rG (by rfl) (by kernel_rfl) ?_;(conv in (rF _ _).body=>reduce);(conv in (rF _ _).res=>reduce)
 refine rn0 ?_
 refine(idx1_wp H l c).mono fun v K ⟨⟨x,hv,hx⟩,hk⟩=> ?_
 subst hv hk
 refine rn0 ?_
 all_goals exact⟨⟨x,rfl,hx⟩,rfl⟩
theorem cont1_wp(H:CH)(l:List UInt8)(c:UInt8):WpF (tblG Tryz.prog LG GG) 163 [.string (str l), .string (str [c])] H fun v K=>v= .bool (decide (c∈l))∧K=H:=by
 refine wpF_rG (by rfl) (by kernel_rfl) ?_;(conv in (rF _ _).body=>reduce);(conv in (rF _ _).res=>reduce)
 refine rn0 ?_
 refine(index1_wp H l c).mono fun v K ⟨⟨x,hv,hx⟩,hk⟩=> ?_
 subst hv hk
 refine rn0 ?_
 all_goals exact congrArg Value.bool (decide_eq_decide.2 hx)
theorem cont1_iff{H:CH}{l:List UInt8}{c:UInt8}{Q:Value→CH→Prop}:WpF (tblG Tryz.prog LG GG) 163 [.string (str l), .string (str [c])] H Q↔Q (.bool (decide (c∈l))) H:=wpF_iff (cont1_wp H l c)
theorem zeros_thirteen{z:Value}:zeros [z] 13= [z,z,z,z,z,z,z,z,z,z,z,z,z]:=by simp[zeros,List.range,List.range.loop,Nat.mod_one]
def B1:List UInt8:= [40,91,123]
def B2:List UInt8:= [41,93,125]
theorem cont_S1{H:CH}{c:UInt8}{Q:Value→CH→Prop}:WpF (tblG Tryz.prog LG GG) 163 [.string ⟨⟨[UInt8.ofNat 43,UInt8.ofNat 45,UInt8.ofNat 42,UInt8.ofNat 47,UInt8.ofNat 37,UInt8.ofNat 61,UInt8.ofNat 60,UInt8.ofNat 62,UInt8.ofNat 40,UInt8.ofNat 41,UInt8.ofNat 91,UInt8.ofNat 93,UInt8.ofNat 123,UInt8.ofNat 125,UInt8.ofNat 44,UInt8.ofNat 58,UInt8.ofNat 46]⟩⟩, .string ⟨[c].toArray⟩] H Q↔Q (.bool (decide (c∈S1))) H:=cont1_iff
theorem idx_B1{H:CH}{c:UInt8}{Q:Value→CH→Prop}:WpF (tblG Tryz.prog LG GG) 164 [.string ⟨⟨[UInt8.ofNat 40,UInt8.ofNat 91,UInt8.ofNat 123]⟩⟩, .int .u8 c.toNat] H Q↔Q (.int .i64 (firstIdx (str B1) c)) H:=idxb_iff
theorem idx_B2{H:CH}{c:UInt8}{Q:Value→CH→Prop}:WpF (tblG Tryz.prog LG GG) 164 [.string ⟨⟨[UInt8.ofNat 41,UInt8.ofNat 93,UInt8.ofNat 125]⟩⟩, .int .u8 c.toNat] H Q↔Q (.int .i64 (firstIdx (str B2) c)) H:=idxb_iff
def SY:List (List UInt8):=S3++S2
def SymOut(A K:CH)(p:Nat)(src:List UInt8)(s:RS)(vo:Value)(m:Nat)(r:Option Nat):Prop:=match r with
 | some n=>∃vt',RdAt A K p src (putS { atS s n with dep:=depT s.dep 9 ((src.drop s.pos).take n) } 9 s.line ((src.drop s.pos).take n)) vo vt' m
 | none=>BadAt A K p src s vo m
theorem sy_mem{x:List UInt8}(h:x∈SY):(x∈S3∧x.length=3)∨(x∈S2∧x.length=2):=by
 have h3 : ∀x∈S3,x.length=3:=by decide
 have h2 : ∀x∈S2,x.length=2:=by decide
 rcases List.mem_append.1 h with g | g
 ·exact .inl ⟨g,h3 x g⟩
 ·exact .inr ⟨g,h2 x g⟩
theorem sy_two{i:Nat}(h:i<SY.length)(h2:SY[i].length=2):2≤i:=by
 rcases Nat.lt_or_ge i 2 with g | g
 ·have:i=0∨i=1:=by omega
  rcases this with rfl | rfl
  ·exact absurd (show(3:Nat)=2 from h2) (by decide)
  ·exact absurd (show(3:Nat)=2 from h2) (by decide)
 ·exact g
theorem sy_take{i:Nat}(h:2≤i){y:List UInt8}(hy:y∈S3):y∈SY.take i:=by
 have:SY.take i=S3++S2.take (i-2):=by
  unfold SY
  rw[List.take_append,List.take_of_length_le (show S3.length≤i from h)];rfl
 rw[this]
 exact List.mem_append_left _ hy
theorem sy_first{l:List UInt8}{i:Nat}(h:i<SY.length)(hm:l.take SY[i].length=SY[i])(hb : ∀x∈SY.take i,l.take x.length≠x):symN l=some SY[i].length:=by
 unfold symN
 rcases sy_mem (List.getElem_mem h) with ⟨g,gl⟩ | ⟨g,gl⟩
 ·rw[gl] at hm⊢
  rw[if_pos (by rw[hm];exact g)]
 ·have hi:=sy_two h gl
  rw[gl] at hm⊢
  rw[if_neg,if_pos (by rw[hm];exact g)]
  intro hc
  have hl:(l.take 3).length=3:=by
   have h3 : ∀x∈S3,x.length=3:=by decide
   exact h3 _ hc
  exact hb _ (sy_take hi hc) (by rw[hl])
theorem sy_none{l:List UInt8}(hb : ∀x∈SY,l.take x.length≠x):symN l=if hd l∈S1.map UInt8.toNat then some 1 else none:=by
 have h3 : ∀x∈S3,x.length=3:=by decide
 have h2 : ∀x∈S2,x.length=2:=by decide
 unfold symN
 rw[if_neg,if_neg]
 ·intro hc
  exact hb _ (List.mem_append_right _ hc) (by rw[h2 _ hc])
 ·intro hc
  exact hb _ (List.mem_append_left _ hc) (by rw[h3 _ hc])
theorem symbol_wp{A K:CH}{p:Nat}{src:List UInt8}{s:RS}{vo vt:Value}{m:Nat}(h:RdAt A K p src s vo vt m)(hp:s.pos<src.length)(h0:s.err=0)(hb:s.out.length+s.opn.length<1000000)(hdp:s.dep<100000) :
 WpF (tblG Tryz.prog LG GG) 136 [.pointer (some ⟨p,0,none⟩)] K fun v K'=>SymOut A K' p src s vo m (symN (src.drop s.pos)):=by
 have hsl:=h.sl
 have hob:=h.ob
 have hpl:=h.pl
 have hln:=h.bd.line
 obtain⟨l,hl⟩ : ∃l,src.drop s.pos=l:=⟨_,rfl⟩
 have hll:l.length=src.length-s.pos:=by rw[←hl];simp
 have htk:l.take (src.length-s.pos)=l:=List.take_of_length_le (by omega)
 have hl0:0<l.length:=by omega
 unfold SymOut
 rw[hl]
 refine wpF_rG (by rfl) (by kernel_rfl) ?_;(conv in (rF _ _).body=>reduce);(conv in (rF _ _).res=>reduce)
 refine rn @zeros_thirteen ?_
 refine loop_w (fun n fr K1=>∃i,n=13-i∧i≤13∧fr 7= .int .i64 (i:Nat)∧(∀x∈SY.take i,l.take x.length≠x)∧K1.ob K.nx= .cells (SY.map fun x=> .string (str x)) 9 .ex∧K.nx<K1.nx∧RdAt A K1 p src s vo vt m) (n:=13) ⟨0,rfl,by omega,by(refine rn0 ?_;try rfl),fun x hx=>(by simp at hx),?_,Nat.lt_succ_self _,h.mv (by(repeat (first | assumption | exact HExt.refl _ | (refine HExt.set ?_ (by first | omega | (simp only[new_nx,set_nx];omega)) _) | (refine HExt.new ?_ _))))⟩ ?_
 ·rw[new_get,if_pos rfl]
  rfl
 rintro n fr K1 ⟨i,rfl,hi13,f7,hbs,hrow,hrn,h1⟩ hag
 have hob1:=h1.ob
 have hpl1:=h1.pl
 by_cases hi:i<13
 ·have hi2:i<SY.length:=hi
  obtain⟨x,hx⟩ : ∃x,SY[i]=x:=⟨_,rfl⟩
  have hget:(SY.map fun x=>(.string (str x):Value))[i]? = some (.string (str x)):=by rw[List.getElem?_map,List.getElem?_eq_getElem hi2,hx];rfl
  have hxl:=sy_mem (List.getElem_mem hi2)
  rw[hx] at hxl
  have hxl3:2≤x.length∧x.length≤3:=by rcases hxl with ⟨_,g⟩ | ⟨_,g⟩<;>omega
  by_cases hm:l.take x.length=x
  ·have hsy:symN l=some x.length:=by rw[←hx];exact sy_first hi2 (by rw[hx];exact hm) hbs
   have hmd:decide (l.take x.length=x)=true:=decide_eq_true hm
   have hxle:x.length≤l.length:=by
    have:=congrArg List.length hm
    simp at this;omega
   rw[hsy]
   refine rn (an @hag (an @f7 (an @hrow (an @hget (an @hob1 (an @str_size (an @str_ext (an @hl (an @htk (an @hasp_iff @hmd)))))))))) ?_
   refine(put_wp h1 9 s.line x hb).mono fun v2 K2 ⟨vt2,h2⟩=> ?_
   have hob2:=h2.ob
   have hpl2:=h2.pl
   have hpos2:(putS s 9 s.line x).pos=s.pos:=rfl
   have hdep:depT s.dep 9 x=s.dep:=by
    have n1:x ∉ [[40],[91],[123]]:=fun hc=>by
     have : ∀y∈ [[(40:UInt8)],[91],[123]],y.length=1:=by decide
     have:=this x hc;omega
    have n2:x ∉ [[41],[93],[125]]:=fun hc=>by
     have : ∀y∈ [[(41:UInt8)],[93],[125]],y.length=1:=by decide
     have:=this x hc;omega
    unfold depT
    rw[if_neg (fun g=>n1 g.2),if_neg (fun g=>n2 g.2.1)]
   have h3:=h2.set (s':= { putS s 9 s.line x with pos:=s.pos+x.length }) rfl rfl ⟨by show s.pos+x.length≤_;omega,h2.bd.line,h2.bd.dep,h2.bd.err,h2.bd.wh,h2.bd.out⟩
   refine rn (an @hag (an @hob2 (an @hpos2 (an @str_size @toN)))) ?_
   all_goals exact⟨vt2,by rw[hm,hdep];exact h3⟩
  ·have hmd:decide (l.take x.length=x)=false:=decide_eq_false hm
   refine rn (an @hag (an @f7 (an @hrow (an @hget (an @hob1 (an @str_size (an @str_ext (an @hl (an @htk (an @hasp_iff (an @hmd @n1))))))))))) ?_
   all_goals
    refine⟨_,by omega,i+1,rfl,by omega,rfl,fun y hy=> ?_,hrn,h1⟩
    rw[List.take_add_one,List.getElem?_eq_getElem hi2,hx] at hy
    rcases List.mem_append.1 hy with hy | hy
    ·exact hbs y hy
    ·have:y=x:=by simpa using hy
     rw[this];exact hm
 ·have hi':i=13:=by omega
  subst hi'
  obtain⟨c,hc⟩ : ∃c,src[s.pos]=c:=⟨_,rfl⟩
  have hcg:src[s.pos]? = some c:=by rw[get_pos hp,hc]
  have hhd:hd l=c.toNat:=by rw[←hl,hd_drop hp,hc]
  have ht1:l.take 1= [c]:=by
   rw[←hl,List.drop_eq_getElem_cons hp,hc];rfl
  have hsy:=sy_none (l:=l) fun x hx=>hbs x (by rw[List.take_of_length_le (show SY.length≤13 from Nat.le_refl _)];exact hx)
  have hmemS:hd l∈S1.map UInt8.toNat↔c∈S1:=by
   rw[hhd]
   exact⟨fun h=>by obtain⟨y,hy,e⟩:=List.mem_map.1 h;rwa [←UInt8.toNat.inj e],fun h=>List.mem_map.2 ⟨c,h,rfl⟩⟩
  by_cases hcS:c∈S1
  ·have hS:decide (c∈S1)=true:=decide_eq_true hcS
   rw[hsy,if_pos (hmemS.2 hcS)]
   by_cases hb1:c∈B1
   ·have hi1:decide (0≤firstIdx (str B1) c)=true:=decide_eq_true (firstIdx_mem.2 hb1)
    have hdep:depT s.dep 9 [c]=s.dep+1:=by
     unfold depT
     rw[if_pos ⟨rfl,by simp only[B1,List.mem_cons,List.not_mem_nil,or_false] at hb1⊢;rcases hb1 with rfl | rfl | rfl<;>simp⟩]
    have h4:=(h1.mv (K':=K1.new (.cells [.int .u8 (c.toNat:Int)] 5 .ex)) (by(repeat (first | assumption | exact HExt.refl _ | (refine HExt.set ?_ (by first | omega | (simp only[new_nx,set_nx];omega)) _) | (refine HExt.new ?_ _))))).set (s':= { s with dep:=s.dep+1 }) rfl rfl ⟨h.bd.pos,h.bd.line,by show s.dep+1≤_;omega,h.bd.err,h.bd.wh,h.bd.out⟩
    refine rn (an @hag (an @f7 (an @hob1 (an @str_size (an @str_get (an @hcg (an @u8k (an @cont_S1 (an @idx_B1 (an @idx_B2 (an @byteList_one (an @hS (an @hi1 @n1))))))))))))) ?_
    all_goals
     refine(put_wp (h4.mv (by(repeat (first | assumption | exact HExt.refl _ | (refine HExt.set ?_ (by first | omega | (simp only[new_nx,set_nx];omega)) _) | (refine HExt.new ?_ _))))) 9 s.line [c] hb).mono fun v5 K5 ⟨vt5,h5⟩=> ?_
     have hob5:=h5.ob
     have hpl5:=h5.pl
     have hpos5:(putS { s with dep:=s.dep+1 } 9 s.line [c]).pos=s.pos:=rfl
     refine rn (an @hag (an @hob5 (an @hpos5 @n1))) ?_
     all_goals exact⟨vt5,by rw[ht1,hdep];exact h5.set (s':=putS { atS s 1 with dep:=s.dep+1 } 9 s.line [c]) rfl rfl ⟨by show s.pos+1≤_;omega,h5.bd.line,h5.bd.dep,h5.bd.err,h5.bd.wh,h5.bd.out⟩⟩
   ·have hi1:decide (0≤firstIdx (str B1) c)=false:=decide_eq_false fun g=>hb1 (firstIdx_mem.1 g)
    have hb1' : [c] ∉ [[(40:UInt8)],[91],[123]]:=fun g=>hb1 (by simpa[B1] using g)
    by_cases hb2:c∈B2
    ·have hi2:decide (0≤firstIdx (str B2) c)=true:=decide_eq_true (firstIdx_mem.2 hb2)
     have hb2' : [c]∈ [[(41:UInt8)],[93],[125]]:=by simpa[B2] using hb2
     by_cases hd0:0<s.dep
     ·have hdep:depT s.dep 9 [c]=s.dep-1:=by
       unfold depT
       rw[if_neg (fun g=>hb1' g.2),if_pos ⟨rfl,hb2',hd0⟩]
      have h4:=(h1.mv (K':=K1.new (.cells [.int .u8 (c.toNat:Int)] 5 .ex)) (by(repeat (first | assumption | exact HExt.refl _ | (refine HExt.set ?_ (by first | omega | (simp only[new_nx,set_nx];omega)) _) | (refine HExt.new ?_ _))))).set (s':= { s with dep:=s.dep-1 }) rfl rfl ⟨h.bd.pos,h.bd.line,by show s.dep-1≤_;omega,h.bd.err,h.bd.wh,h.bd.out⟩
      have hsub:((s.dep:Nat):Int)-1=((s.dep-1:Nat):Int):=by omega
      refine rn (an @hag (an @f7 (an @hob1 (an @str_size (an @str_get (an @hcg (an @u8k (an @cont_S1 (an @idx_B1 (an @idx_B2 (an @byteList_one (an @hS (an @hi1 (an @hi2 @hsub)))))))))))))) ?_
      all_goals
       refine(put_wp (h4.mv (by(repeat (first | assumption | exact HExt.refl _ | (refine HExt.set ?_ (by first | omega | (simp only[new_nx,set_nx];omega)) _) | (refine HExt.new ?_ _))))) 9 s.line [c] hb).mono fun v5 K5 ⟨vt5,h5⟩=> ?_
       have hob5:=h5.ob
       have hpl5:=h5.pl
       have hpos5:(putS { s with dep:=s.dep-1 } 9 s.line [c]).pos=s.pos:=rfl
       refine rn (an @hag (an @hob5 (an @hpos5 @n1))) ?_
       all_goals exact⟨vt5,by rw[ht1,hdep];exact h5.set (s':=putS { atS s 1 with dep:=s.dep-1 } 9 s.line [c]) rfl rfl ⟨by show s.pos+1≤_;omega,h5.bd.line,h5.bd.dep,h5.bd.err,h5.bd.wh,h5.bd.out⟩⟩
     ·have hdep:depT s.dep 9 [c]=s.dep:=by
       unfold depT
       rw[if_neg (fun g=>hb1' g.2),if_neg (fun g=>hd0 g.2.2)]
      refine rn (an @hag (an @f7 (an @hob1 (an @str_size (an @str_get (an @hcg (an @u8k (an @cont_S1 (an @idx_B1 (an @idx_B2 (an @byteList_one (an @hS (an @hi1 @hi2))))))))))))) ?_
      all_goals
       refine(put_wp (h1.mv (by(repeat (first | assumption | exact HExt.refl _ | (refine HExt.set ?_ (by first | omega | (simp only[new_nx,set_nx];omega)) _) | (refine HExt.new ?_ _))))) 9 s.line [c] hb).mono fun v5 K5 ⟨vt5,h5⟩=> ?_
       have hob5:=h5.ob
       have hpl5:=h5.pl
       have hpos5:(putS s 9 s.line [c]).pos=s.pos:=rfl
       refine rn (an @hag (an @hob5 (an @hpos5 @n1))) ?_
       all_goals exact⟨vt5,by rw[ht1,hdep];exact h5.set (s':=putS { atS s 1 with dep:=s.dep } 9 s.line [c]) rfl rfl ⟨by show s.pos+1≤_;omega,h5.bd.line,h5.bd.dep,h5.bd.err,h5.bd.wh,h5.bd.out⟩⟩
    ·have hi2:decide (0≤firstIdx (str B2) c)=false:=decide_eq_false fun g=>hb2 (firstIdx_mem.1 g)
     have hb2' : [c] ∉ [[(41:UInt8)],[93],[125]]:=fun g=>hb2 (by simpa[B2] using g)
     have hdep:depT s.dep 9 [c]=s.dep:=by
      unfold depT
      rw[if_neg (fun g=>hb1' g.2),if_neg (fun g=>hb2' g.2.1)]
     refine rn (an @hag (an @f7 (an @hob1 (an @str_size (an @str_get (an @hcg (an @u8k (an @cont_S1 (an @idx_B1 (an @idx_B2 (an @byteList_one (an @hS (an @hi1 @hi2))))))))))))) ?_
     all_goals
      refine(put_wp (h1.mv (by(repeat (first | assumption | exact HExt.refl _ | (refine HExt.set ?_ (by first | omega | (simp only[new_nx,set_nx];omega)) _) | (refine HExt.new ?_ _))))) 9 s.line [c] hb).mono fun v5 K5 ⟨vt5,h5⟩=> ?_
      have hob5:=h5.ob
      have hpl5:=h5.pl
      have hpos5:(putS s 9 s.line [c]).pos=s.pos:=rfl
      refine rn (an @hag (an @hob5 (an @hpos5 @n1))) ?_
      all_goals exact⟨vt5,by rw[ht1,hdep];exact h5.set (s':=putS { atS s 1 with dep:=s.dep } 9 s.line [c]) rfl rfl ⟨by show s.pos+1≤_;omega,h5.bd.line,h5.bd.dep,h5.bd.err,h5.bd.wh,h5.bd.out⟩⟩
  ·have hS:decide (c∈S1)=false:=decide_eq_false hcS
   rw[hsy,if_neg (fun g=>hcS (hmemS.1 g))]
   refine rn (an @hag (an @f7 (an @hob1 (an @str_size (an @str_get (an @hcg (an @u8k (an @cont_S1 (an @idx_B1 (an @idx_B2 (an @byteList_one @hS))))))))))) ?_
   refine(fail_wp0 (h1.mv (by(repeat (first | assumption | exact HExt.refl _ | (refine HExt.set ?_ (by first | omega | (simp only[new_nx,set_nx];omega)) _) | (refine HExt.new ?_ _))))) s.line 20 hln (by decide) h0).mono fun v4 K4 ⟨h4,_⟩=> ?_
   have hob4:=h4.ob
   have hpl4:=h4.pl
   refine rn (an @hag (an @hob4 @byteList_one)) ?_
   all_goals
    refine(put_wp (h4.mv (by(repeat (first | assumption | exact HExt.refl _ | (refine HExt.set ?_ (by first | omega | (simp only[new_nx,set_nx];omega)) _) | (refine HExt.new ?_ _))))) 9 s.line [c] hb).mono fun v5 K5 ⟨vt5,h5⟩=> ?_
    have hob5:=h5.ob
    have hpl5:=h5.pl
    have hpos5:(putS { s with err:=20,wh:=s.line } 9 s.line [c]).pos=s.pos:=rfl
    refine rn (an @hag (an @hob5 (an @hpos5 @n1))) ?_
    all_goals exact⟨vt5,_,h5.set (s':=putS { atS s 1 with err:=20,wh:=s.line } 9 s.line [c]) rfl rfl ⟨by show s.pos+1≤_;omega,h5.bd.line,h5.bd.dep,h5.bd.err,h5.bd.wh,h5.bd.out⟩,rfl,rfl,rfl,rfl,by simp[putS,atS],Nat.lt_succ_self _,by show s.pos+1≤_;omega,rfl⟩
end Can
end Go.Proofs.YticlaccbodpkeaaGreatDoor
end
section
namespace Go.Proofs.YticlaccbodpkeaaGreatDoor
namespace Can
open Go Go.RowKit
set_option linter.unusedSimpArgs false
set_option linter.unusedVariables false
set_option maxRecDepth 4000
set_option maxHeartbeats 2000000
def numS (s:RS)(l:List UInt8):RS:=putS (if numBad l=true then failS (atS s (numN l)) s.line 20 else atS s (numN l)) (numK l) s.line (l.take (numN l))
theorem dig_lt{l:List UInt8}{j:Nat}(h:isDigN (hd (l.drop j))=true):j<l.length:=by
 rcases Nat.lt_or_ge j l.length with g | g
 ·exact g
 ·rw[List.drop_eq_nil_of_le g] at h;cases h
theorem let101:isLetN 101=true:=by decide
theorem let46:isLetN 46=false:=by decide
theorem digN_le{l:List UInt8}:digN l≤l.length:=nW_le
theorem fail_len{s:RS}{a b:Nat}:(failS s a b).out=s.out∧(failS s a b).opn=s.opn:=by unfold failS;split<;>exact⟨rfl,rfl⟩
theorem number_wp{A K:CH}{p:Nat}{src:List UInt8}{s:RS}{vo vt:Value}{m:Nat}(h:RdAt A K p src s vo vt m)(hp:s.pos<src.length)(hdg:isDigN (hd (src.drop s.pos))=true)(hb:s.out.length+s.opn.length<1000000) :
 WpF (tblG Tryz.prog LG GG) 134 [.pointer (some ⟨p,0,none⟩)] K fun v K'=>∃vt',RdAt A K' p src (numS s (src.drop s.pos)) vo vt' m:=by
 have hsl:=h.sl
 have hob:=h.ob
 have hpl:=h.pl
 have hln:=h.bd.line
 obtain⟨l,hl⟩ : ∃l,src.drop s.pos=l:=⟨_,rfl⟩
 have hll:l.length=src.length-s.pos:=by rw[←hl];simp
 have hdr : ∀j,src.drop (s.pos+j)=l.drop j:=fun j=>by rw[←hl,List.drop_drop]
 have hdp : ∀j:Nat,(digN (l.drop j):Nat)≤l.length-j:=fun j=>by have:=digN_le (l:=l.drop j);simpa using this
 rw[hl] at hdg⊢
 have ha0:0<digN l:=by
  have:=nW_yes (p:=isDigN) (l:=l) (j:=0) (by omega) (by simpa using hdg)
  simp only[List.drop_zero] at this
  unfold digN;omega
 refine wpF_rG (by rfl) (by kernel_rfl) ?_;(conv in (rF _ _).body=>reduce);(conv in (rF _ _).res=>reduce)
 refine rn @hob ?_
 refine(run_wp h (by omega)).mono fun v1 K1 h1=> ?_
 rw[hl] at h1
 obtain⟨a,ha⟩ : ∃a,digN l=a:=⟨_,rfl⟩
 have hal:=digN_le (l:=l)
 rw[ha] at h1 hal ha0
 have hob1:=h1.ob
 have hpl1:=h1.pl
 have hpd1:(atS s a).pos=s.pos+a:=rfl
 have p0:= @peek0 _ _ _ _ _ _ _ _ h1
 have p1:= @peek1 _ _ _ _ _ _ _ _ h1
 have p2:= @peek2 _ _ _ _ _ _ _ _ h1
 simp only[hpd1,Nat.add_assoc,hdr] at p0 p1 p2
 by_cases hf:hd (l.drop a)=46∧isDigN (hd (l.drop (a+1)))=true
 ·obtain⟨hf1,hf2⟩:=hf
  have hal2:a<l.length:=by
   have:=hd_pos (l:=l.drop a) (by omega)
   simp at this;omega
  have hA:numA l=a+1+digN (l.drop (a+1)):=by
   unfold numA fracN
   rw[ha,List.drop_drop,if_pos ⟨hf1,hf2⟩];omega
  have hF:fracN (l.drop (digN l))≠0:=by
   unfold fracN
   rw[ha,List.drop_drop,if_pos ⟨hf1,hf2⟩];omega
  refine rn (an @p0 (an @p1 (an @hf1 (an @digit_iff (an @hf2 (an @hob1 (an @hpd1 @n1))))))) ?_
  refine(run_wp (s:=atS s (a+1)) (h1.set (s':=atS s (a+1)) rfl rfl (atS_bd h.bd (by omega))) (by show s.pos+(a+1)≤_;omega)).mono fun v2 K2 h2=> ?_
  have hq:(atS s (a+1)).pos=s.pos+(a+1):=rfl
  rw[hq,hdr] at h2
  have h2:RdAt A K2 p src (atS s (numA l)) vo vt m:=by
   have e:atS (atS s (a+1)) (digN (l.drop (a+1)))=atS s (numA l):=by rw[hA];simp only[atS];congr 1;omega
   rw[←e];exact h2
  obtain⟨b,hbA⟩ : ∃b,numA l=b:=⟨_,rfl⟩
  have hbl:b≤l.length:=by have:=hdp (a+1);rw[←hbA,hA];omega
  rw[hbA] at h2
  have hob2:=h2.ob
  have hpl2:=h2.pl
  have hpd2:(atS s b).pos=s.pos+b:=rfl
  have q0:= @peek0 _ _ _ _ _ _ _ _ h2
  have q1:= @peek1 _ _ _ _ _ _ _ _ h2
  have q2:= @peek2 _ _ _ _ _ _ _ _ h2
  simp only[hpd2,Nat.add_assoc,hdr] at q0 q1 q2
  by_cases he0:hd (l.drop b)=101
  ·by_cases he1:isDigN (hd (l.drop (b+1)))=true
   ·have hE:expN (l.drop b)=2+digN (l.drop (b+2)):=by
     have hlt:b+1<l.length:=by
      rcases Nat.lt_or_ge (b+1) l.length with g | g
      ·exact g
      ·rw[List.drop_eq_nil_of_le g] at he1;cases he1
     unfold expN
     rw[if_pos he0,List.drop_drop,if_pos he1]
     have:=nW_yes (p:=isDigN) hlt he1
     unfold digN
     rw[this]
     show 1+(nW isDigN (l.drop (b+2))+1)=_
     omega
    refine rn (an @q0 (an @q1 (an @q2 (an @he0 (an @digit_iff (an @he1 (an @hob2 (an @hpd2 @n2)))))))) ?_
    refine(run_wp (s:=atS s (b+2)) (h2.set (s':=atS s (b+2)) rfl rfl (atS_bd h.bd (by omega))) (by show s.pos+(b+2)≤_;omega)).mono fun v3 K3 h3=> ?_
    have hq3:(atS s (b+2)).pos=s.pos+(b+2):=rfl
    rw[hq3,hdr] at h3
    have hN:numN l=b+(2+digN (l.drop (b+2))):=by unfold numN;rw[hbA,hE]
    have hNl:numN l≤l.length+2:=by have:=hdp (b+2);omega
    have h3:RdAt A K3 p src (atS s (numN l)) vo vt m:=by
     have e:atS (atS s (b+2)) (digN (l.drop (b+2)))=atS s (numN l):=by rw[hN];simp only[atS];congr 1;omega
     rw[←e];exact h3
    have hK:numK l=6:=by unfold numK;rw[if_neg];rintro⟨_,g⟩;rw[hbA,hE] at g;omega
    have hNN:numN l≤l.length:=by rw[hN];have:=hdp (b+2);have:=dig_lt he1;omega
    obtain⟨n,hn⟩ : ∃n,numN l=n:=⟨_,rfl⟩
    rw[hn] at h3 hNN
    have hob3:=h3.ob
    have hpl3:=h3.pl
    have hpd3:(atS s n).pos=s.pos+n:=rfl
    have r0:= @peek0 _ _ _ _ _ _ _ _ h3
    simp only[hpd3,hdr] at r0
    have hlen:(l.take n).length=n:=by simp;omega
    have hn0:0<n:=by omega
    have hget:(l.take n)[0]? = some l[0]:=by rw[List.getElem?_take,if_pos hn0];exact List.getElem?_eq_getElem _
    have hh0:hd l=l[0].toNat:=by have:=hd_drop (l:=l) (j:=0) (by omega);simpa using this
    cases hL:isLetN (hd (l.drop n)) with
    | true=>
      have hbad:numBad l=true:=by unfold numBad;rw[hn,hL];rfl
      refine rn (an @hob3 (an @hpd3 (an @str_size (an @str_get (an @str_ext (an @Nat.add_sub_cancel_left (an @hl (an @r0 (an @letter_iff (an @hL (an @hlen @hget))))))))))) ?_
      all_goals
       refine(fail_wp h3 s.line 20 (by omega) (by decide)).mono fun v4 K4 h4=> ?_
       have hob4:=h4.ob
       have hpl4:=h4.pl
       have hl4:(failS (atS s n) s.line 20).line=s.line:=by unfold failS;split<;>rfl
       refine rn (an @hob4 @hl4) ?_
       refine(put_wp h4 6 s.line (l.take n) (by rw[fail_len.1,fail_len.2];exact hb)).mono fun v5 K5 ⟨vt5,h5⟩=> ?_
       repeat' (first | (simp (disch:=first | omega | (decide +kernel)) only[↓RD,RU,resL]) | (with_reducible first | refine condK_dec (fun _=> ?_) fun _=> ?_ | refine grd_dec (fun _=> ?_) fun _=> ?_ | refine egrd_dec (fun _=> ?_) fun _=> ?_))
       all_goals exact⟨vt5,by unfold numS;rw[if_pos hbad,hn,hK];exact h5⟩
    | false=>
      repeat' (first | (simp (disch:=first | omega | (decide +kernel)) only[↓RD,RU,↓putF_get,↓evF_t,↓evF_c,getD_zero,pop,lop,ρ0,ρ1,↓reduceIte,Nat.reduceEqDiff,reduceCtorEq,ρ5,ρ6,bnd,ρ28,ρ29,hob3,hpd3,str_size,str_ext,Nat.add_sub_cancel_left,hl,r0,letter_iff,hL,hlen]) | (with_reducible first | refine condK_dec (fun _=> ?_) fun _=> ?_ | refine grd_dec (fun _=> ?_) fun _=> ?_ | refine egrd_dec (fun _=> ?_) fun _=> ?_))
      all_goals first
       | (have hbad:numBad l=true:=by
           unfold numBad;rw[hn,hK,hL];simp;omega
          refine(fail_wp h3 s.line 20 (by omega) (by decide)).mono fun v4 K4 h4=> ?_
          have hob4:=h4.ob
          have hpl4:=h4.pl
          have hl4:(failS (atS s n) s.line 20).line=s.line:=by unfold failS;split<;>rfl
          repeat' (first | (simp (disch:=first | omega | (decide +kernel)) only[↓RD,RU,↓putF_get,↓evF_t,getD_zero,pop,lop,ρ0,ρ1,↓reduceIte,Nat.reduceEqDiff,reduceCtorEq,ρ5,ρ6,hob4,hl4]) | (with_reducible first | refine condK_dec (fun _=> ?_) fun _=> ?_ | refine grd_dec (fun _=> ?_) fun _=> ?_ | refine egrd_dec (fun _=> ?_) fun _=> ?_))
          refine(put_wp h4 6 s.line (l.take n) (by rw[fail_len.1,fail_len.2];exact hb)).mono fun v5 K5 ⟨vt5,h5⟩=> ?_
          repeat' (first | (simp (disch:=first | omega | (decide +kernel)) only[↓RD,RU,resL]) | (with_reducible first | refine condK_dec (fun _=> ?_) fun _=> ?_ | refine grd_dec (fun _=> ?_) fun _=> ?_ | refine egrd_dec (fun _=> ?_) fun _=> ?_))
          all_goals exact⟨vt5,by unfold numS;rw[if_pos hbad,hn,hK];exact h5⟩)
       | (have hbad:numBad l=false:=by
           unfold numBad;rw[hn,hK,hL];simp;omega
          refine(put_wp h3 6 s.line (l.take n) hb).mono fun v5 K5 ⟨vt5,h5⟩=> ?_
          refine rn0 ?_
          all_goals exact⟨vt5,by unfold numS;rw[if_neg (by simp[hbad]),hn,hK];exact h5⟩)
   ·have he1':isDigN (hd (l.drop (b+1)))=false:=by simpa using he1
    by_cases he2:(hd (l.drop (b+1))=43∨hd (l.drop (b+1))=45)∧isDigN (hd (l.drop (b+2)))=true
    ·obtain⟨he3,he4⟩:=he2
     have hE:expN (l.drop b)=2+digN (l.drop (b+2)):=by
      unfold expN
      rw[if_pos he0,List.drop_drop,List.drop_drop,if_neg (by rw[he1'];simp),if_pos ⟨he3,he4⟩]
     rcases he3 with he3 | he3
     ·repeat' (first | (simp (disch:=first | omega | (decide +kernel)) only[↓RD,RU,↓putF_get,↓putF_none,↓evF_t,↓evF_c,getD_zero,pop,lop,wop,isVal,isCell,Value.cells,ρ0,ρ1,↓reduceIte,Nat.reduceEqDiff,Nat.reduceAdd,reduceCtorEq,ρ5,ρ6,ρ7,ρ8,ρ17,ρ18,ρ19,ρ20,ρ22,ρ23,Kd.isRo,ρ25,ρ26,Nat.reduceLeDiff,q0,q1,q2,he0,digit_iff,he3,(by simpa[he3] using he1':isDigN 43=false),he4,hob2,hpd2,n2]) | (with_reducible first | refine condK_dec (fun _=> ?_) fun _=> ?_ | refine grd_dec (fun _=> ?_) fun _=> ?_ | refine egrd_dec (fun _=> ?_) fun _=> ?_))
      refine(run_wp (s:=atS s (b+2)) (h2.set (s':=atS s (b+2)) rfl rfl (atS_bd h.bd (by omega))) (by show s.pos+(b+2)≤_;omega)).mono fun v3 K3 h3=> ?_
      have hq3:(atS s (b+2)).pos=s.pos+(b+2):=rfl
      rw[hq3,hdr] at h3
      have hN:numN l=b+(2+digN (l.drop (b+2))):=by unfold numN;rw[hbA,hE]
      have hNl:numN l≤l.length+2:=by have:=hdp (b+2);omega
      have h3:RdAt A K3 p src (atS s (numN l)) vo vt m:=by
       have e:atS (atS s (b+2)) (digN (l.drop (b+2)))=atS s (numN l):=by rw[hN];simp only[atS];congr 1;omega
       rw[←e];exact h3
      have hK:numK l=6:=by unfold numK;rw[if_neg];rintro⟨_,g⟩;rw[hbA,hE] at g;omega
      have hNN:numN l≤l.length:=by rw[hN];have:=hdp (b+2);have:=dig_lt he4;omega
      obtain⟨n,hn⟩ : ∃n,numN l=n:=⟨_,rfl⟩
      rw[hn] at h3 hNN
      have hob3:=h3.ob
      have hpl3:=h3.pl
      have hpd3:(atS s n).pos=s.pos+n:=rfl
      have r0:= @peek0 _ _ _ _ _ _ _ _ h3
      simp only[hpd3,hdr] at r0
      have hlen:(l.take n).length=n:=by simp;omega
      have hn0:0<n:=by omega
      have hget:(l.take n)[0]? = some l[0]:=by rw[List.getElem?_take,if_pos hn0];exact List.getElem?_eq_getElem _
      have hh0:hd l=l[0].toNat:=by have:=hd_drop (l:=l) (j:=0) (by omega);simpa using this
      cases hL:isLetN (hd (l.drop n)) with
      | true=>
        have hbad:numBad l=true:=by unfold numBad;rw[hn,hL];rfl
        refine rn (an @hob3 (an @hpd3 (an @str_size (an @str_get (an @str_ext (an @Nat.add_sub_cancel_left (an @hl (an @r0 (an @letter_iff (an @hL (an @hlen @hget))))))))))) ?_
        all_goals
         refine(fail_wp h3 s.line 20 (by omega) (by decide)).mono fun v4 K4 h4=> ?_
         have hob4:=h4.ob
         have hpl4:=h4.pl
         have hl4:(failS (atS s n) s.line 20).line=s.line:=by unfold failS;split<;>rfl
         refine rn (an @hob4 @hl4) ?_
         refine(put_wp h4 6 s.line (l.take n) (by rw[fail_len.1,fail_len.2];exact hb)).mono fun v5 K5 ⟨vt5,h5⟩=> ?_
         repeat' (first | (simp (disch:=first | omega | (decide +kernel)) only[↓RD,RU,resL]) | (with_reducible first | refine condK_dec (fun _=> ?_) fun _=> ?_ | refine grd_dec (fun _=> ?_) fun _=> ?_ | refine egrd_dec (fun _=> ?_) fun _=> ?_))
         all_goals exact⟨vt5,by unfold numS;rw[if_pos hbad,hn,hK];exact h5⟩
      | false=>
        repeat' (first | (simp (disch:=first | omega | (decide +kernel)) only[↓RD,RU,↓putF_get,↓evF_t,↓evF_c,getD_zero,pop,lop,ρ0,ρ1,↓reduceIte,Nat.reduceEqDiff,reduceCtorEq,ρ5,ρ6,bnd,ρ28,ρ29,hob3,hpd3,str_size,str_ext,Nat.add_sub_cancel_left,hl,r0,letter_iff,hL,hlen]) | (with_reducible first | refine condK_dec (fun _=> ?_) fun _=> ?_ | refine grd_dec (fun _=> ?_) fun _=> ?_ | refine egrd_dec (fun _=> ?_) fun _=> ?_))
        all_goals first
         | (have hbad:numBad l=true:=by
             unfold numBad;rw[hn,hK,hL];simp;omega
            refine(fail_wp h3 s.line 20 (by omega) (by decide)).mono fun v4 K4 h4=> ?_
            have hob4:=h4.ob
            have hpl4:=h4.pl
            have hl4:(failS (atS s n) s.line 20).line=s.line:=by unfold failS;split<;>rfl
            repeat' (first | (simp (disch:=first | omega | (decide +kernel)) only[↓RD,RU,↓putF_get,↓evF_t,getD_zero,pop,lop,ρ0,ρ1,↓reduceIte,Nat.reduceEqDiff,reduceCtorEq,ρ5,ρ6,hob4,hl4]) | (with_reducible first | refine condK_dec (fun _=> ?_) fun _=> ?_ | refine grd_dec (fun _=> ?_) fun _=> ?_ | refine egrd_dec (fun _=> ?_) fun _=> ?_))
            refine(put_wp h4 6 s.line (l.take n) (by rw[fail_len.1,fail_len.2];exact hb)).mono fun v5 K5 ⟨vt5,h5⟩=> ?_
            repeat' (first | (simp (disch:=first | omega | (decide +kernel)) only[↓RD,RU,resL]) | (with_reducible first | refine condK_dec (fun _=> ?_) fun _=> ?_ | refine grd_dec (fun _=> ?_) fun _=> ?_ | refine egrd_dec (fun _=> ?_) fun _=> ?_))
            all_goals exact⟨vt5,by unfold numS;rw[if_pos hbad,hn,hK];exact h5⟩)
         | (have hbad:numBad l=false:=by
             unfold numBad;rw[hn,hK,hL];simp;omega
            refine(put_wp h3 6 s.line (l.take n) hb).mono fun v5 K5 ⟨vt5,h5⟩=> ?_
            refine rn0 ?_
            all_goals exact⟨vt5,by unfold numS;rw[if_neg (by simp[hbad]),hn,hK];exact h5⟩)
     ·repeat' (first | (simp (disch:=first | omega | (decide +kernel)) only[↓RD,RU,↓putF_get,↓putF_none,↓evF_t,↓evF_c,getD_zero,pop,lop,wop,isVal,isCell,Value.cells,ρ0,ρ1,↓reduceIte,Nat.reduceEqDiff,Nat.reduceAdd,reduceCtorEq,ρ5,ρ6,ρ7,ρ8,ρ17,ρ18,ρ19,ρ20,ρ22,ρ23,Kd.isRo,ρ25,ρ26,Nat.reduceLeDiff,q0,q1,q2,he0,digit_iff,he3,(by simpa[he3] using he1':isDigN 45=false),he4,hob2,hpd2,n2]) | (with_reducible first | refine condK_dec (fun _=> ?_) fun _=> ?_ | refine grd_dec (fun _=> ?_) fun _=> ?_ | refine egrd_dec (fun _=> ?_) fun _=> ?_))
      refine(run_wp (s:=atS s (b+2)) (h2.set (s':=atS s (b+2)) rfl rfl (atS_bd h.bd (by omega))) (by show s.pos+(b+2)≤_;omega)).mono fun v3 K3 h3=> ?_
      have hq3:(atS s (b+2)).pos=s.pos+(b+2):=rfl
      rw[hq3,hdr] at h3
      have hN:numN l=b+(2+digN (l.drop (b+2))):=by unfold numN;rw[hbA,hE]
      have hNl:numN l≤l.length+2:=by have:=hdp (b+2);omega
      have h3:RdAt A K3 p src (atS s (numN l)) vo vt m:=by
       have e:atS (atS s (b+2)) (digN (l.drop (b+2)))=atS s (numN l):=by rw[hN];simp only[atS];congr 1;omega
       rw[←e];exact h3
      have hK:numK l=6:=by unfold numK;rw[if_neg];rintro⟨_,g⟩;rw[hbA,hE] at g;omega
      have hNN:numN l≤l.length:=by rw[hN];have:=hdp (b+2);have:=dig_lt he4;omega
      obtain⟨n,hn⟩ : ∃n,numN l=n:=⟨_,rfl⟩
      rw[hn] at h3 hNN
      have hob3:=h3.ob
      have hpl3:=h3.pl
      have hpd3:(atS s n).pos=s.pos+n:=rfl
      have r0:= @peek0 _ _ _ _ _ _ _ _ h3
      simp only[hpd3,hdr] at r0
      have hlen:(l.take n).length=n:=by simp;omega
      have hn0:0<n:=by omega
      have hget:(l.take n)[0]? = some l[0]:=by rw[List.getElem?_take,if_pos hn0];exact List.getElem?_eq_getElem _
      have hh0:hd l=l[0].toNat:=by have:=hd_drop (l:=l) (j:=0) (by omega);simpa using this
      cases hL:isLetN (hd (l.drop n)) with
      | true=>
        have hbad:numBad l=true:=by unfold numBad;rw[hn,hL];rfl
        refine rn (an @hob3 (an @hpd3 (an @str_size (an @str_get (an @str_ext (an @Nat.add_sub_cancel_left (an @hl (an @r0 (an @letter_iff (an @hL (an @hlen @hget))))))))))) ?_
        all_goals
         refine(fail_wp h3 s.line 20 (by omega) (by decide)).mono fun v4 K4 h4=> ?_
         have hob4:=h4.ob
         have hpl4:=h4.pl
         have hl4:(failS (atS s n) s.line 20).line=s.line:=by unfold failS;split<;>rfl
         refine rn (an @hob4 @hl4) ?_
         refine(put_wp h4 6 s.line (l.take n) (by rw[fail_len.1,fail_len.2];exact hb)).mono fun v5 K5 ⟨vt5,h5⟩=> ?_
         repeat' (first | (simp (disch:=first | omega | (decide +kernel)) only[↓RD,RU,resL]) | (with_reducible first | refine condK_dec (fun _=> ?_) fun _=> ?_ | refine grd_dec (fun _=> ?_) fun _=> ?_ | refine egrd_dec (fun _=> ?_) fun _=> ?_))
         all_goals exact⟨vt5,by unfold numS;rw[if_pos hbad,hn,hK];exact h5⟩
      | false=>
        repeat' (first | (simp (disch:=first | omega | (decide +kernel)) only[↓RD,RU,↓putF_get,↓evF_t,↓evF_c,getD_zero,pop,lop,ρ0,ρ1,↓reduceIte,Nat.reduceEqDiff,reduceCtorEq,ρ5,ρ6,bnd,ρ28,ρ29,hob3,hpd3,str_size,str_ext,Nat.add_sub_cancel_left,hl,r0,letter_iff,hL,hlen]) | (with_reducible first | refine condK_dec (fun _=> ?_) fun _=> ?_ | refine grd_dec (fun _=> ?_) fun _=> ?_ | refine egrd_dec (fun _=> ?_) fun _=> ?_))
        all_goals first
         | (have hbad:numBad l=true:=by
             unfold numBad;rw[hn,hK,hL];simp;omega
            refine(fail_wp h3 s.line 20 (by omega) (by decide)).mono fun v4 K4 h4=> ?_
            have hob4:=h4.ob
            have hpl4:=h4.pl
            have hl4:(failS (atS s n) s.line 20).line=s.line:=by unfold failS;split<;>rfl
            repeat' (first | (simp (disch:=first | omega | (decide +kernel)) only[↓RD,RU,↓putF_get,↓evF_t,getD_zero,pop,lop,ρ0,ρ1,↓reduceIte,Nat.reduceEqDiff,reduceCtorEq,ρ5,ρ6,hob4,hl4]) | (with_reducible first | refine condK_dec (fun _=> ?_) fun _=> ?_ | refine grd_dec (fun _=> ?_) fun _=> ?_ | refine egrd_dec (fun _=> ?_) fun _=> ?_))
            refine(put_wp h4 6 s.line (l.take n) (by rw[fail_len.1,fail_len.2];exact hb)).mono fun v5 K5 ⟨vt5,h5⟩=> ?_
            repeat' (first | (simp (disch:=first | omega | (decide +kernel)) only[↓RD,RU,resL]) | (with_reducible first | refine condK_dec (fun _=> ?_) fun _=> ?_ | refine grd_dec (fun _=> ?_) fun _=> ?_ | refine egrd_dec (fun _=> ?_) fun _=> ?_))
            all_goals exact⟨vt5,by unfold numS;rw[if_pos hbad,hn,hK];exact h5⟩)
         | (have hbad:numBad l=false:=by
             unfold numBad;rw[hn,hK,hL];simp;omega
            refine(put_wp h3 6 s.line (l.take n) hb).mono fun v5 K5 ⟨vt5,h5⟩=> ?_
            refine rn0 ?_
            all_goals exact⟨vt5,by unfold numS;rw[if_neg (by simp[hbad]),hn,hK];exact h5⟩)
    ·have hE:expN (l.drop b)=0:=by
      unfold expN
      rw[if_pos he0,List.drop_drop,List.drop_drop,if_neg (by rw[he1'];simp),if_neg he2]
     by_cases he5:hd (l.drop (b+1))=43∨hd (l.drop (b+1))=45
     ·have he4:isDigN (hd (l.drop (b+2)))=false:=by
       cases q:isDigN (hd (l.drop (b+2))) with
       | true=>exact absurd ⟨he5,q⟩ he2
       | false=>rfl
      rcases he5 with he3 | he3
      ·skip
       have hN:numN l=b:=by unfold numN;rw[hbA,hE];rfl
       have h3:RdAt A K2 p src (atS s (numN l)) vo vt m:=by rw[hN];exact h2
       have hK:numK l=6:=by unfold numK;rw[if_neg];rintro⟨g,_⟩;exact hF g
       have hNN:numN l≤l.length:=by rw[hN];exact hbl
       have hn:=hN
       rw[hn] at h3 hNN
       have hob3:=h3.ob
       have hpl3:=h3.pl
       have hpd3:(atS s b).pos=s.pos+b:=rfl
       have r0:= @peek0 _ _ _ _ _ _ _ _ h3
       simp only[hpd3,hdr] at r0
       have hlen:(l.take b).length=b:=by simp;omega
       have hn0:0<b:=by omega
       have hget:(l.take b)[0]? = some l[0]:=by rw[List.getElem?_take,if_pos hn0];exact List.getElem?_eq_getElem _
       have hh0:hd l=l[0].toNat:=by have:=hd_drop (l:=l) (j:=0) (by omega);simpa using this
       have hL:isLetN (hd (l.drop b))=true:=by rw[he0];rfl
       have hbad:numBad l=true:=by unfold numBad;rw[hn,hL];rfl
       repeat' (first | (simp (disch:=first | omega | (decide +kernel)) only[↓RD,RU,↓putF_get,↓evF_t,↓evF_c,getD_zero,pop,lop,ρ0,ρ1,↓reduceIte,Nat.reduceEqDiff,reduceCtorEq,ρ5,ρ6,bnd,ρ28,ρ29,q0,q1,q2,he0,digit_iff,he3,(by simpa[he3] using he1':isDigN 43=false),he4,let101,hob3,hpd3,str_size,str_ext,Nat.add_sub_cancel_left,hl,letter_iff]) | (with_reducible first | refine condK_dec (fun _=> ?_) fun _=> ?_ | refine grd_dec (fun _=> ?_) fun _=> ?_ | refine egrd_dec (fun _=> ?_) fun _=> ?_))
       all_goals
        refine(fail_wp h3 s.line 20 (by omega) (by decide)).mono fun v4 K4 h4=> ?_
        have hob4:=h4.ob
        have hpl4:=h4.pl
        have hl4:(failS (atS s b) s.line 20).line=s.line:=by unfold failS;split<;>rfl
        refine rn (an @hob4 @hl4) ?_
        refine(put_wp h4 6 s.line (l.take b) (by rw[fail_len.1,fail_len.2];exact hb)).mono fun v5 K5 ⟨vt5,h5⟩=> ?_
        refine rn0 ?_
        all_goals exact⟨vt5,by unfold numS;rw[if_pos hbad,hn,hK];exact h5⟩
      ·skip
       have hN:numN l=b:=by unfold numN;rw[hbA,hE];rfl
       have h3:RdAt A K2 p src (atS s (numN l)) vo vt m:=by rw[hN];exact h2
       have hK:numK l=6:=by unfold numK;rw[if_neg];rintro⟨g,_⟩;exact hF g
       have hNN:numN l≤l.length:=by rw[hN];exact hbl
       have hn:=hN
       rw[hn] at h3 hNN
       have hob3:=h3.ob
       have hpl3:=h3.pl
       have hpd3:(atS s b).pos=s.pos+b:=rfl
       have r0:= @peek0 _ _ _ _ _ _ _ _ h3
       simp only[hpd3,hdr] at r0
       have hlen:(l.take b).length=b:=by simp;omega
       have hn0:0<b:=by omega
       have hget:(l.take b)[0]? = some l[0]:=by rw[List.getElem?_take,if_pos hn0];exact List.getElem?_eq_getElem _
       have hh0:hd l=l[0].toNat:=by have:=hd_drop (l:=l) (j:=0) (by omega);simpa using this
       have hL:isLetN (hd (l.drop b))=true:=by rw[he0];rfl
       have hbad:numBad l=true:=by unfold numBad;rw[hn,hL];rfl
       repeat' (first | (simp (disch:=first | omega | (decide +kernel)) only[↓RD,RU,↓putF_get,↓evF_t,↓evF_c,getD_zero,pop,lop,ρ0,ρ1,↓reduceIte,Nat.reduceEqDiff,reduceCtorEq,ρ5,ρ6,bnd,ρ28,ρ29,q0,q1,q2,he0,digit_iff,he3,(by simpa[he3] using he1':isDigN 45=false),he4,let101,hob3,hpd3,str_size,str_ext,Nat.add_sub_cancel_left,hl,letter_iff]) | (with_reducible first | refine condK_dec (fun _=> ?_) fun _=> ?_ | refine grd_dec (fun _=> ?_) fun _=> ?_ | refine egrd_dec (fun _=> ?_) fun _=> ?_))
       all_goals
        refine(fail_wp h3 s.line 20 (by omega) (by decide)).mono fun v4 K4 h4=> ?_
        have hob4:=h4.ob
        have hpl4:=h4.pl
        have hl4:(failS (atS s b) s.line 20).line=s.line:=by unfold failS;split<;>rfl
        refine rn (an @hob4 @hl4) ?_
        refine(put_wp h4 6 s.line (l.take b) (by rw[fail_len.1,fail_len.2];exact hb)).mono fun v5 K5 ⟨vt5,h5⟩=> ?_
        refine rn0 ?_
        all_goals exact⟨vt5,by unfold numS;rw[if_pos hbad,hn,hK];exact h5⟩
     ·obtain⟨he6,he7⟩:hd (l.drop (b+1))≠43∧hd (l.drop (b+1))≠45:=⟨fun e=>he5 (.inl e),fun e=>he5 (.inr e)⟩
      have hN:numN l=b:=by unfold numN;rw[hbA,hE];rfl
      have h3:RdAt A K2 p src (atS s (numN l)) vo vt m:=by rw[hN];exact h2
      have hK:numK l=6:=by unfold numK;rw[if_neg];rintro⟨g,_⟩;exact hF g
      have hNN:numN l≤l.length:=by rw[hN];exact hbl
      have hn:=hN
      rw[hn] at h3 hNN
      have hob3:=h3.ob
      have hpl3:=h3.pl
      have hpd3:(atS s b).pos=s.pos+b:=rfl
      have r0:= @peek0 _ _ _ _ _ _ _ _ h3
      simp only[hpd3,hdr] at r0
      have hlen:(l.take b).length=b:=by simp;omega
      have hn0:0<b:=by omega
      have hget:(l.take b)[0]? = some l[0]:=by rw[List.getElem?_take,if_pos hn0];exact List.getElem?_eq_getElem _
      have hh0:hd l=l[0].toNat:=by have:=hd_drop (l:=l) (j:=0) (by omega);simpa using this
      have hL:isLetN (hd (l.drop b))=true:=by rw[he0];rfl
      have hbad:numBad l=true:=by unfold numBad;rw[hn,hL];rfl
      refine rn (an @q0 (an @q1 (an @q2 (an @he0 (an @digit_iff (an @he1' (an @he6 (an @he7 (an @let101 (an @hob3 (an @hpd3 (an @str_size (an @str_get (an @str_ext (an @Nat.add_sub_cancel_left (an @hl (an @r0 (an @letter_iff (an @hL (an @hlen @hget)))))))))))))))))))) ?_
      all_goals
       refine(fail_wp h3 s.line 20 (by omega) (by decide)).mono fun v4 K4 h4=> ?_
       have hob4:=h4.ob
       have hpl4:=h4.pl
       have hl4:(failS (atS s b) s.line 20).line=s.line:=by unfold failS;split<;>rfl
       refine rn (an @hob4 @hl4) ?_
       refine(put_wp h4 6 s.line (l.take b) (by rw[fail_len.1,fail_len.2];exact hb)).mono fun v5 K5 ⟨vt5,h5⟩=> ?_
       refine rn0 ?_
       all_goals exact⟨vt5,by unfold numS;rw[if_pos hbad,hn,hK];exact h5⟩
  ·have hE:expN (l.drop b)=0:=by
    unfold expN
    rw[if_neg he0]
   have hN:numN l=b:=by unfold numN;rw[hbA,hE];rfl
   have h3:RdAt A K2 p src (atS s (numN l)) vo vt m:=by rw[hN];exact h2
   have hK:numK l=6:=by unfold numK;rw[if_neg];rintro⟨g,_⟩;exact hF g
   have hNN:numN l≤l.length:=by rw[hN];exact hbl
   have hn:=hN
   rw[hn] at h3 hNN
   have hob3:=h3.ob
   have hpl3:=h3.pl
   have hpd3:(atS s b).pos=s.pos+b:=rfl
   have r0:= @peek0 _ _ _ _ _ _ _ _ h3
   simp only[hpd3,hdr] at r0
   have hlen:(l.take b).length=b:=by simp;omega
   have hn0:0<b:=by omega
   have hget:(l.take b)[0]? = some l[0]:=by rw[List.getElem?_take,if_pos hn0];exact List.getElem?_eq_getElem _
   have hh0:hd l=l[0].toNat:=by have:=hd_drop (l:=l) (j:=0) (by omega);simpa using this
   cases hL:isLetN (hd (l.drop b)) with
   | true=>
     have hbad:numBad l=true:=by unfold numBad;rw[hn,hL];rfl
     refine rn (an @q0 (an @q1 (an @q2 (an @he0 (an @digit_iff (an @hob3 (an @hpd3 (an @str_size (an @str_get (an @str_ext (an @Nat.add_sub_cancel_left (an @hl (an @r0 (an @letter_iff (an @hL (an @hlen @hget)))))))))))))))) ?_
     all_goals
      refine(fail_wp h3 s.line 20 (by omega) (by decide)).mono fun v4 K4 h4=> ?_
      have hob4:=h4.ob
      have hpl4:=h4.pl
      have hl4:(failS (atS s b) s.line 20).line=s.line:=by unfold failS;split<;>rfl
      refine rn (an @hob4 @hl4) ?_
      refine(put_wp h4 6 s.line (l.take b) (by rw[fail_len.1,fail_len.2];exact hb)).mono fun v5 K5 ⟨vt5,h5⟩=> ?_
      repeat' (first | (simp (disch:=first | omega | (decide +kernel)) only[↓RD,RU,resL]) | (with_reducible first | refine condK_dec (fun _=> ?_) fun _=> ?_ | refine grd_dec (fun _=> ?_) fun _=> ?_ | refine egrd_dec (fun _=> ?_) fun _=> ?_))
      all_goals exact⟨vt5,by unfold numS;rw[if_pos hbad,hn,hK];exact h5⟩
   | false=>
     repeat' (first | (simp (disch:=first | omega | (decide +kernel)) only[↓RD,RU,↓putF_get,↓evF_t,↓evF_c,getD_zero,pop,lop,ρ0,ρ1,↓reduceIte,Nat.reduceEqDiff,reduceCtorEq,ρ5,ρ6,bnd,ρ28,ρ29,q0,hob3,hpd3,str_size,str_ext,Nat.add_sub_cancel_left,hl,letter_iff,hL,hlen]) | (with_reducible first | refine condK_dec (fun _=> ?_) fun _=> ?_ | refine grd_dec (fun _=> ?_) fun _=> ?_ | refine egrd_dec (fun _=> ?_) fun _=> ?_))
     all_goals first
      | (have hbad:numBad l=true:=by
          unfold numBad;rw[hn,hK,hL];simp;omega
         refine(fail_wp h3 s.line 20 (by omega) (by decide)).mono fun v4 K4 h4=> ?_
         have hob4:=h4.ob
         have hpl4:=h4.pl
         have hl4:(failS (atS s b) s.line 20).line=s.line:=by unfold failS;split<;>rfl
         repeat' (first | (simp (disch:=first | omega | (decide +kernel)) only[↓RD,RU,↓putF_get,↓evF_t,getD_zero,pop,lop,ρ0,ρ1,↓reduceIte,Nat.reduceEqDiff,reduceCtorEq,ρ5,ρ6,hob4,hl4]) | (with_reducible first | refine condK_dec (fun _=> ?_) fun _=> ?_ | refine grd_dec (fun _=> ?_) fun _=> ?_ | refine egrd_dec (fun _=> ?_) fun _=> ?_))
         refine(put_wp h4 6 s.line (l.take b) (by rw[fail_len.1,fail_len.2];exact hb)).mono fun v5 K5 ⟨vt5,h5⟩=> ?_
         repeat' (first | (simp (disch:=first | omega | (decide +kernel)) only[↓RD,RU,resL]) | (with_reducible first | refine condK_dec (fun _=> ?_) fun _=> ?_ | refine grd_dec (fun _=> ?_) fun _=> ?_ | refine egrd_dec (fun _=> ?_) fun _=> ?_))
         all_goals exact⟨vt5,by unfold numS;rw[if_pos hbad,hn,hK];exact h5⟩)
      | (have hbad:numBad l=false:=by
          unfold numBad;rw[hn,hK,hL];simp;omega
         refine(put_wp h3 6 s.line (l.take b) hb).mono fun v5 K5 ⟨vt5,h5⟩=> ?_
         refine rn0 ?_
         all_goals exact⟨vt5,by unfold numS;rw[if_neg (by simp[hbad]),hn,hK];exact h5⟩)
 ·have hA:numA l=a:=by
   unfold numA fracN
   rw[ha,List.drop_drop,if_neg hf];rfl
  have hF:fracN (l.drop (digN l))=0:=by
   unfold fracN
   rw[ha,List.drop_drop,if_neg hf]
  by_cases hf1:hd (l.drop a)=46
  ·have hf2:isDigN (hd (l.drop (a+1)))=false:=by
    cases q:isDigN (hd (l.drop (a+1))) with
    | true=>exact absurd ⟨hf1,q⟩ hf
    | false=>rfl
   have hbA:=hA
   have hbl:a≤l.length:=hal
   have h2:=h1
   have hob2:=hob1
   have hpl2:=hpl1
   have hpd2:=hpd1
   by_cases he0:hd (l.drop a)=101
   ·rw[hf1] at he0;exact absurd he0 (by decide)
   ·have hE:expN (l.drop a)=0:=by
     unfold expN
     rw[if_neg he0]
    have hN:numN l=a:=by unfold numN;rw[hbA,hE];rfl
    have h3:RdAt A K1 p src (atS s (numN l)) vo vt m:=by rw[hN];exact h2
    have hK:numK l=5:=by unfold numK;rw[if_pos ⟨hF,by rw[hbA,hE]⟩]
    have hNN:numN l≤l.length:=by rw[hN];exact hbl
    have hn:=hN
    rw[hn] at h3 hNN
    have hob3:=h3.ob
    have hpl3:=h3.pl
    have hpd3:(atS s a).pos=s.pos+a:=rfl
    have r0:= @peek0 _ _ _ _ _ _ _ _ h3
    simp only[hpd3,hdr] at r0
    have hlen:(l.take a).length=a:=by simp;omega
    have hn0:0<a:=by omega
    have hget:(l.take a)[0]? = some l[0]:=by rw[List.getElem?_take,if_pos hn0];exact List.getElem?_eq_getElem _
    have hh0:hd l=l[0].toNat:=by have:=hd_drop (l:=l) (j:=0) (by omega);simpa using this
    cases hL:isLetN (hd (l.drop a)) with
    | true=>
      have hbad:numBad l=true:=by unfold numBad;rw[hn,hL];rfl
      refine rn (an @hf1 (an @hf2 (an @p0 (an @p1 (an @p2 (an @he0 (an @digit_iff (an @let46 (an @hob3 (an @hpd3 (an @str_size (an @str_get (an @str_ext (an @Nat.add_sub_cancel_left (an @hl (an @r0 (an @letter_iff (an @hL (an @hlen @hget))))))))))))))))))) ?_
      all_goals
       refine(fail_wp h3 s.line 20 (by omega) (by decide)).mono fun v4 K4 h4=> ?_
       have hob4:=h4.ob
       have hpl4:=h4.pl
       have hl4:(failS (atS s a) s.line 20).line=s.line:=by unfold failS;split<;>rfl
       refine rn (an @hob4 @hl4) ?_
       refine(put_wp h4 5 s.line (l.take a) (by rw[fail_len.1,fail_len.2];exact hb)).mono fun v5 K5 ⟨vt5,h5⟩=> ?_
       refine rn0 ?_
       all_goals exact⟨vt5,by unfold numS;rw[if_pos hbad,hn,hK];exact h5⟩
    | false=>
      refine rn (an @hf1 (an @hf2 (an @p0 (an @p1 (an @p2 (an @he0 (an @digit_iff (an @let46 (an @hob3 (an @hpd3 (an @str_size (an @str_get (an @str_ext (an @Nat.add_sub_cancel_left (an @hl (an @r0 (an @letter_iff (an @hL (an @hlen @hget))))))))))))))))))) ?_
      all_goals first
       | (have hbad:numBad l=true:=by
           unfold numBad;rw[hn,hK,hL];simp;omega
          refine(fail_wp h3 s.line 20 (by omega) (by decide)).mono fun v4 K4 h4=> ?_
          have hob4:=h4.ob
          have hpl4:=h4.pl
          have hl4:(failS (atS s a) s.line 20).line=s.line:=by unfold failS;split<;>rfl
          refine rn (an @hob4 @hl4) ?_
          refine(put_wp h4 5 s.line (l.take a) (by rw[fail_len.1,fail_len.2];exact hb)).mono fun v5 K5 ⟨vt5,h5⟩=> ?_
          refine rn0 ?_
          all_goals exact⟨vt5,by unfold numS;rw[if_pos hbad,hn,hK];exact h5⟩)
       | (have hbad:numBad l=false:=by
           unfold numBad;rw[hn,hK,hL];simp;omega
          refine(put_wp h3 5 s.line (l.take a) hb).mono fun v5 K5 ⟨vt5,h5⟩=> ?_
          exact rz0
          all_goals exact⟨vt5,by unfold numS;rw[if_neg (by simp[hbad]),hn,hK];exact h5⟩)
  ·have hbA:=hA
   have hbl:a≤l.length:=hal
   have h2:=h1
   have hob2:=hob1
   have hpl2:=hpl1
   have hpd2:=hpd1
   by_cases he0:hd (l.drop a)=101
   ·by_cases he1:isDigN (hd (l.drop (a+1)))=true
    ·have hE:expN (l.drop a)=2+digN (l.drop (a+2)):=by
      have hlt:a+1<l.length:=by
       rcases Nat.lt_or_ge (a+1) l.length with g | g
       ·exact g
       ·rw[List.drop_eq_nil_of_le g] at he1;cases he1
      unfold expN
      rw[if_pos he0,List.drop_drop,if_pos he1]
      have:=nW_yes (p:=isDigN) hlt he1
      unfold digN
      rw[this]
      show 1+(nW isDigN (l.drop (a+2))+1)=_
      omega
     refine rn (an @hf1 (an @p0 (an @p1 (an @p2 (an @he0 (an @digit_iff (an @he1 (an @hob2 (an @hpd2 @n2))))))))) ?_
     refine(run_wp (s:=atS s (a+2)) (h2.set (s':=atS s (a+2)) rfl rfl (atS_bd h.bd (by omega))) (by show s.pos+(a+2)≤_;omega)).mono fun v3 K3 h3=> ?_
     have hq3:(atS s (a+2)).pos=s.pos+(a+2):=rfl
     rw[hq3,hdr] at h3
     have hN:numN l=a+(2+digN (l.drop (a+2))):=by unfold numN;rw[hbA,hE]
     have hNl:numN l≤l.length+2:=by have:=hdp (a+2);omega
     have h3:RdAt A K3 p src (atS s (numN l)) vo vt m:=by
      have e:atS (atS s (a+2)) (digN (l.drop (a+2)))=atS s (numN l):=by rw[hN];simp only[atS];congr 1;omega
      rw[←e];exact h3
     have hK:numK l=6:=by unfold numK;rw[if_neg];rintro⟨_,g⟩;rw[hbA,hE] at g;omega
     have hNN:numN l≤l.length:=by rw[hN];have:=hdp (a+2);have:=dig_lt he1;omega
     obtain⟨n,hn⟩ : ∃n,numN l=n:=⟨_,rfl⟩
     rw[hn] at h3 hNN
     have hob3:=h3.ob
     have hpl3:=h3.pl
     have hpd3:(atS s n).pos=s.pos+n:=rfl
     have r0:= @peek0 _ _ _ _ _ _ _ _ h3
     simp only[hpd3,hdr] at r0
     have hlen:(l.take n).length=n:=by simp;omega
     have hn0:0<n:=by omega
     have hget:(l.take n)[0]? = some l[0]:=by rw[List.getElem?_take,if_pos hn0];exact List.getElem?_eq_getElem _
     have hh0:hd l=l[0].toNat:=by have:=hd_drop (l:=l) (j:=0) (by omega);simpa using this
     cases hL:isLetN (hd (l.drop n)) with
     | true=>
       have hbad:numBad l=true:=by unfold numBad;rw[hn,hL];rfl
       refine rn (an @hob3 (an @hpd3 (an @str_size (an @str_get (an @str_ext (an @Nat.add_sub_cancel_left (an @hl (an @r0 (an @letter_iff (an @hL (an @hlen @hget))))))))))) ?_
       all_goals
        refine(fail_wp h3 s.line 20 (by omega) (by decide)).mono fun v4 K4 h4=> ?_
        have hob4:=h4.ob
        have hpl4:=h4.pl
        have hl4:(failS (atS s n) s.line 20).line=s.line:=by unfold failS;split<;>rfl
        refine rn (an @hob4 @hl4) ?_
        refine(put_wp h4 6 s.line (l.take n) (by rw[fail_len.1,fail_len.2];exact hb)).mono fun v5 K5 ⟨vt5,h5⟩=> ?_
        repeat' (first | (simp (disch:=first | omega | (decide +kernel)) only[↓RD,RU,resL]) | (with_reducible first | refine condK_dec (fun _=> ?_) fun _=> ?_ | refine grd_dec (fun _=> ?_) fun _=> ?_ | refine egrd_dec (fun _=> ?_) fun _=> ?_))
        all_goals exact⟨vt5,by unfold numS;rw[if_pos hbad,hn,hK];exact h5⟩
     | false=>
       repeat' (first | (simp (disch:=first | omega | (decide +kernel)) only[↓RD,RU,↓putF_get,↓evF_t,↓evF_c,getD_zero,pop,lop,ρ0,ρ1,↓reduceIte,Nat.reduceEqDiff,reduceCtorEq,ρ5,ρ6,bnd,ρ28,ρ29,hob3,hpd3,str_size,str_ext,Nat.add_sub_cancel_left,hl,r0,letter_iff,hL,hlen]) | (with_reducible first | refine condK_dec (fun _=> ?_) fun _=> ?_ | refine grd_dec (fun _=> ?_) fun _=> ?_ | refine egrd_dec (fun _=> ?_) fun _=> ?_))
       all_goals first
        | (have hbad:numBad l=true:=by
            unfold numBad;rw[hn,hK,hL];simp;omega
           refine(fail_wp h3 s.line 20 (by omega) (by decide)).mono fun v4 K4 h4=> ?_
           have hob4:=h4.ob
           have hpl4:=h4.pl
           have hl4:(failS (atS s n) s.line 20).line=s.line:=by unfold failS;split<;>rfl
           repeat' (first | (simp (disch:=first | omega | (decide +kernel)) only[↓RD,RU,↓putF_get,↓evF_t,getD_zero,pop,lop,ρ0,ρ1,↓reduceIte,Nat.reduceEqDiff,reduceCtorEq,ρ5,ρ6,hob4,hl4]) | (with_reducible first | refine condK_dec (fun _=> ?_) fun _=> ?_ | refine grd_dec (fun _=> ?_) fun _=> ?_ | refine egrd_dec (fun _=> ?_) fun _=> ?_))
           refine(put_wp h4 6 s.line (l.take n) (by rw[fail_len.1,fail_len.2];exact hb)).mono fun v5 K5 ⟨vt5,h5⟩=> ?_
           repeat' (first | (simp (disch:=first | omega | (decide +kernel)) only[↓RD,RU,resL]) | (with_reducible first | refine condK_dec (fun _=> ?_) fun _=> ?_ | refine grd_dec (fun _=> ?_) fun _=> ?_ | refine egrd_dec (fun _=> ?_) fun _=> ?_))
           all_goals exact⟨vt5,by unfold numS;rw[if_pos hbad,hn,hK];exact h5⟩)
        | (have hbad:numBad l=false:=by
            unfold numBad;rw[hn,hK,hL];simp;omega
           refine(put_wp h3 6 s.line (l.take n) hb).mono fun v5 K5 ⟨vt5,h5⟩=> ?_
           refine rn0 ?_
           all_goals exact⟨vt5,by unfold numS;rw[if_neg (by simp[hbad]),hn,hK];exact h5⟩)
    ·have he1':isDigN (hd (l.drop (a+1)))=false:=by simpa using he1
     by_cases he2:(hd (l.drop (a+1))=43∨hd (l.drop (a+1))=45)∧isDigN (hd (l.drop (a+2)))=true
     ·obtain⟨he3,he4⟩:=he2
      have hE:expN (l.drop a)=2+digN (l.drop (a+2)):=by
       unfold expN
       rw[if_pos he0,List.drop_drop,List.drop_drop,if_neg (by rw[he1'];simp),if_pos ⟨he3,he4⟩]
      rcases he3 with he3 | he3
      ·repeat' (first | (simp (disch:=first | omega | (decide +kernel)) only[↓RD,RU,↓putF_get,↓putF_none,↓evF_t,↓evF_c,getD_zero,pop,lop,wop,isVal,isCell,Value.cells,ρ0,ρ1,↓reduceIte,Nat.reduceEqDiff,Nat.reduceAdd,reduceCtorEq,ρ5,ρ6,ρ7,ρ8,ρ17,ρ18,ρ19,ρ20,ρ22,ρ23,Kd.isRo,ρ25,ρ26,Nat.reduceLeDiff,p0,p1,p2,he0,digit_iff,he3,(by simpa[he3] using he1':isDigN 43=false),he4,hob2,hpd2,n2]) | (with_reducible first | refine condK_dec (fun _=> ?_) fun _=> ?_ | refine grd_dec (fun _=> ?_) fun _=> ?_ | refine egrd_dec (fun _=> ?_) fun _=> ?_))
       refine(run_wp (s:=atS s (a+2)) (h2.set (s':=atS s (a+2)) rfl rfl (atS_bd h.bd (by omega))) (by show s.pos+(a+2)≤_;omega)).mono fun v3 K3 h3=> ?_
       have hq3:(atS s (a+2)).pos=s.pos+(a+2):=rfl
       rw[hq3,hdr] at h3
       have hN:numN l=a+(2+digN (l.drop (a+2))):=by unfold numN;rw[hbA,hE]
       have hNl:numN l≤l.length+2:=by have:=hdp (a+2);omega
       have h3:RdAt A K3 p src (atS s (numN l)) vo vt m:=by
        have e:atS (atS s (a+2)) (digN (l.drop (a+2)))=atS s (numN l):=by rw[hN];simp only[atS];congr 1;omega
        rw[←e];exact h3
       have hK:numK l=6:=by unfold numK;rw[if_neg];rintro⟨_,g⟩;rw[hbA,hE] at g;omega
       have hNN:numN l≤l.length:=by rw[hN];have:=hdp (a+2);have:=dig_lt he4;omega
       obtain⟨n,hn⟩ : ∃n,numN l=n:=⟨_,rfl⟩
       rw[hn] at h3 hNN
       have hob3:=h3.ob
       have hpl3:=h3.pl
       have hpd3:(atS s n).pos=s.pos+n:=rfl
       have r0:= @peek0 _ _ _ _ _ _ _ _ h3
       simp only[hpd3,hdr] at r0
       have hlen:(l.take n).length=n:=by simp;omega
       have hn0:0<n:=by omega
       have hget:(l.take n)[0]? = some l[0]:=by rw[List.getElem?_take,if_pos hn0];exact List.getElem?_eq_getElem _
       have hh0:hd l=l[0].toNat:=by have:=hd_drop (l:=l) (j:=0) (by omega);simpa using this
       cases hL:isLetN (hd (l.drop n)) with
       | true=>
         have hbad:numBad l=true:=by unfold numBad;rw[hn,hL];rfl
         refine rn (an @hob3 (an @hpd3 (an @str_size (an @str_get (an @str_ext (an @Nat.add_sub_cancel_left (an @hl (an @r0 (an @letter_iff (an @hL (an @hlen @hget))))))))))) ?_
         all_goals
          refine(fail_wp h3 s.line 20 (by omega) (by decide)).mono fun v4 K4 h4=> ?_
          have hob4:=h4.ob
          have hpl4:=h4.pl
          have hl4:(failS (atS s n) s.line 20).line=s.line:=by unfold failS;split<;>rfl
          refine rn (an @hob4 @hl4) ?_
          refine(put_wp h4 6 s.line (l.take n) (by rw[fail_len.1,fail_len.2];exact hb)).mono fun v5 K5 ⟨vt5,h5⟩=> ?_
          repeat' (first | (simp (disch:=first | omega | (decide +kernel)) only[↓RD,RU,resL]) | (with_reducible first | refine condK_dec (fun _=> ?_) fun _=> ?_ | refine grd_dec (fun _=> ?_) fun _=> ?_ | refine egrd_dec (fun _=> ?_) fun _=> ?_))
          all_goals exact⟨vt5,by unfold numS;rw[if_pos hbad,hn,hK];exact h5⟩
       | false=>
         repeat' (first | (simp (disch:=first | omega | (decide +kernel)) only[↓RD,RU,↓putF_get,↓evF_t,↓evF_c,getD_zero,pop,lop,ρ0,ρ1,↓reduceIte,Nat.reduceEqDiff,reduceCtorEq,ρ5,ρ6,bnd,ρ28,ρ29,hob3,hpd3,str_size,str_ext,Nat.add_sub_cancel_left,hl,r0,letter_iff,hL,hlen]) | (with_reducible first | refine condK_dec (fun _=> ?_) fun _=> ?_ | refine grd_dec (fun _=> ?_) fun _=> ?_ | refine egrd_dec (fun _=> ?_) fun _=> ?_))
         all_goals first
          | (have hbad:numBad l=true:=by
              unfold numBad;rw[hn,hK,hL];simp;omega
             refine(fail_wp h3 s.line 20 (by omega) (by decide)).mono fun v4 K4 h4=> ?_
             have hob4:=h4.ob
             have hpl4:=h4.pl
             have hl4:(failS (atS s n) s.line 20).line=s.line:=by unfold failS;split<;>rfl
             repeat' (first | (simp (disch:=first | omega | (decide +kernel)) only[↓RD,RU,↓putF_get,↓evF_t,getD_zero,pop,lop,ρ0,ρ1,↓reduceIte,Nat.reduceEqDiff,reduceCtorEq,ρ5,ρ6,hob4,hl4]) | (with_reducible first | refine condK_dec (fun _=> ?_) fun _=> ?_ | refine grd_dec (fun _=> ?_) fun _=> ?_ | refine egrd_dec (fun _=> ?_) fun _=> ?_))
             refine(put_wp h4 6 s.line (l.take n) (by rw[fail_len.1,fail_len.2];exact hb)).mono fun v5 K5 ⟨vt5,h5⟩=> ?_
             repeat' (first | (simp (disch:=first | omega | (decide +kernel)) only[↓RD,RU,resL]) | (with_reducible first | refine condK_dec (fun _=> ?_) fun _=> ?_ | refine grd_dec (fun _=> ?_) fun _=> ?_ | refine egrd_dec (fun _=> ?_) fun _=> ?_))
             all_goals exact⟨vt5,by unfold numS;rw[if_pos hbad,hn,hK];exact h5⟩)
          | (have hbad:numBad l=false:=by
              unfold numBad;rw[hn,hK,hL];simp;omega
             refine(put_wp h3 6 s.line (l.take n) hb).mono fun v5 K5 ⟨vt5,h5⟩=> ?_
             refine rn0 ?_
             all_goals exact⟨vt5,by unfold numS;rw[if_neg (by simp[hbad]),hn,hK];exact h5⟩)
      ·repeat' (first | (simp (disch:=first | omega | (decide +kernel)) only[↓RD,RU,↓putF_get,↓putF_none,↓evF_t,↓evF_c,getD_zero,pop,lop,wop,isVal,isCell,Value.cells,ρ0,ρ1,↓reduceIte,Nat.reduceEqDiff,Nat.reduceAdd,reduceCtorEq,ρ5,ρ6,ρ7,ρ8,ρ17,ρ18,ρ19,ρ20,ρ22,ρ23,Kd.isRo,ρ25,ρ26,Nat.reduceLeDiff,p0,p1,p2,he0,digit_iff,he3,(by simpa[he3] using he1':isDigN 45=false),he4,hob2,hpd2,n2]) | (with_reducible first | refine condK_dec (fun _=> ?_) fun _=> ?_ | refine grd_dec (fun _=> ?_) fun _=> ?_ | refine egrd_dec (fun _=> ?_) fun _=> ?_))
       refine(run_wp (s:=atS s (a+2)) (h2.set (s':=atS s (a+2)) rfl rfl (atS_bd h.bd (by omega))) (by show s.pos+(a+2)≤_;omega)).mono fun v3 K3 h3=> ?_
       have hq3:(atS s (a+2)).pos=s.pos+(a+2):=rfl
       rw[hq3,hdr] at h3
       have hN:numN l=a+(2+digN (l.drop (a+2))):=by unfold numN;rw[hbA,hE]
       have hNl:numN l≤l.length+2:=by have:=hdp (a+2);omega
       have h3:RdAt A K3 p src (atS s (numN l)) vo vt m:=by
        have e:atS (atS s (a+2)) (digN (l.drop (a+2)))=atS s (numN l):=by rw[hN];simp only[atS];congr 1;omega
        rw[←e];exact h3
       have hK:numK l=6:=by unfold numK;rw[if_neg];rintro⟨_,g⟩;rw[hbA,hE] at g;omega
       have hNN:numN l≤l.length:=by rw[hN];have:=hdp (a+2);have:=dig_lt he4;omega
       obtain⟨n,hn⟩ : ∃n,numN l=n:=⟨_,rfl⟩
       rw[hn] at h3 hNN
       have hob3:=h3.ob
       have hpl3:=h3.pl
       have hpd3:(atS s n).pos=s.pos+n:=rfl
       have r0:= @peek0 _ _ _ _ _ _ _ _ h3
       simp only[hpd3,hdr] at r0
       have hlen:(l.take n).length=n:=by simp;omega
       have hn0:0<n:=by omega
       have hget:(l.take n)[0]? = some l[0]:=by rw[List.getElem?_take,if_pos hn0];exact List.getElem?_eq_getElem _
       have hh0:hd l=l[0].toNat:=by have:=hd_drop (l:=l) (j:=0) (by omega);simpa using this
       cases hL:isLetN (hd (l.drop n)) with
       | true=>
         have hbad:numBad l=true:=by unfold numBad;rw[hn,hL];rfl
         refine rn (an @hob3 (an @hpd3 (an @str_size (an @str_get (an @str_ext (an @Nat.add_sub_cancel_left (an @hl (an @r0 (an @letter_iff (an @hL (an @hlen @hget))))))))))) ?_
         all_goals
          refine(fail_wp h3 s.line 20 (by omega) (by decide)).mono fun v4 K4 h4=> ?_
          have hob4:=h4.ob
          have hpl4:=h4.pl
          have hl4:(failS (atS s n) s.line 20).line=s.line:=by unfold failS;split<;>rfl
          refine rn (an @hob4 @hl4) ?_
          refine(put_wp h4 6 s.line (l.take n) (by rw[fail_len.1,fail_len.2];exact hb)).mono fun v5 K5 ⟨vt5,h5⟩=> ?_
          repeat' (first | (simp (disch:=first | omega | (decide +kernel)) only[↓RD,RU,resL]) | (with_reducible first | refine condK_dec (fun _=> ?_) fun _=> ?_ | refine grd_dec (fun _=> ?_) fun _=> ?_ | refine egrd_dec (fun _=> ?_) fun _=> ?_))
          all_goals exact⟨vt5,by unfold numS;rw[if_pos hbad,hn,hK];exact h5⟩
       | false=>
         repeat' (first | (simp (disch:=first | omega | (decide +kernel)) only[↓RD,RU,↓putF_get,↓evF_t,↓evF_c,getD_zero,pop,lop,ρ0,ρ1,↓reduceIte,Nat.reduceEqDiff,reduceCtorEq,ρ5,ρ6,bnd,ρ28,ρ29,hob3,hpd3,str_size,str_ext,Nat.add_sub_cancel_left,hl,r0,letter_iff,hL,hlen]) | (with_reducible first | refine condK_dec (fun _=> ?_) fun _=> ?_ | refine grd_dec (fun _=> ?_) fun _=> ?_ | refine egrd_dec (fun _=> ?_) fun _=> ?_))
         all_goals first
          | (have hbad:numBad l=true:=by
              unfold numBad;rw[hn,hK,hL];simp;omega
             refine(fail_wp h3 s.line 20 (by omega) (by decide)).mono fun v4 K4 h4=> ?_
             have hob4:=h4.ob
             have hpl4:=h4.pl
             have hl4:(failS (atS s n) s.line 20).line=s.line:=by unfold failS;split<;>rfl
             repeat' (first | (simp (disch:=first | omega | (decide +kernel)) only[↓RD,RU,↓putF_get,↓evF_t,getD_zero,pop,lop,ρ0,ρ1,↓reduceIte,Nat.reduceEqDiff,reduceCtorEq,ρ5,ρ6,hob4,hl4]) | (with_reducible first | refine condK_dec (fun _=> ?_) fun _=> ?_ | refine grd_dec (fun _=> ?_) fun _=> ?_ | refine egrd_dec (fun _=> ?_) fun _=> ?_))
             refine(put_wp h4 6 s.line (l.take n) (by rw[fail_len.1,fail_len.2];exact hb)).mono fun v5 K5 ⟨vt5,h5⟩=> ?_
             repeat' (first | (simp (disch:=first | omega | (decide +kernel)) only[↓RD,RU,resL]) | (with_reducible first | refine condK_dec (fun _=> ?_) fun _=> ?_ | refine grd_dec (fun _=> ?_) fun _=> ?_ | refine egrd_dec (fun _=> ?_) fun _=> ?_))
             all_goals exact⟨vt5,by unfold numS;rw[if_pos hbad,hn,hK];exact h5⟩)
          | (have hbad:numBad l=false:=by
              unfold numBad;rw[hn,hK,hL];simp;omega
             refine(put_wp h3 6 s.line (l.take n) hb).mono fun v5 K5 ⟨vt5,h5⟩=> ?_
             refine rn0 ?_
             all_goals exact⟨vt5,by unfold numS;rw[if_neg (by simp[hbad]),hn,hK];exact h5⟩)
     ·have hE:expN (l.drop a)=0:=by
       unfold expN
       rw[if_pos he0,List.drop_drop,List.drop_drop,if_neg (by rw[he1'];simp),if_neg he2]
      by_cases he5:hd (l.drop (a+1))=43∨hd (l.drop (a+1))=45
      ·have he4:isDigN (hd (l.drop (a+2)))=false:=by
        cases q:isDigN (hd (l.drop (a+2))) with
        | true=>exact absurd ⟨he5,q⟩ he2
        | false=>rfl
       rcases he5 with he3 | he3
       ·skip
        have hN:numN l=a:=by unfold numN;rw[hbA,hE];rfl
        have h3:RdAt A K1 p src (atS s (numN l)) vo vt m:=by rw[hN];exact h2
        have hK:numK l=5:=by unfold numK;rw[if_pos ⟨hF,by rw[hbA,hE]⟩]
        have hNN:numN l≤l.length:=by rw[hN];exact hbl
        have hn:=hN
        rw[hn] at h3 hNN
        have hob3:=h3.ob
        have hpl3:=h3.pl
        have hpd3:(atS s a).pos=s.pos+a:=rfl
        have r0:= @peek0 _ _ _ _ _ _ _ _ h3
        simp only[hpd3,hdr] at r0
        have hlen:(l.take a).length=a:=by simp;omega
        have hn0:0<a:=by omega
        have hget:(l.take a)[0]? = some l[0]:=by rw[List.getElem?_take,if_pos hn0];exact List.getElem?_eq_getElem _
        have hh0:hd l=l[0].toNat:=by have:=hd_drop (l:=l) (j:=0) (by omega);simpa using this
        have hL:isLetN (hd (l.drop a))=true:=by rw[he0];rfl
        have hbad:numBad l=true:=by unfold numBad;rw[hn,hL];rfl
        repeat' (first | (simp (disch:=first | omega | (decide +kernel)) only[↓RD,RU,↓putF_get,↓evF_t,↓evF_c,getD_zero,pop,lop,ρ0,ρ1,↓reduceIte,Nat.reduceEqDiff,reduceCtorEq,ρ5,ρ6,bnd,ρ28,ρ29,p0,p1,p2,he0,digit_iff,he3,(by simpa[he3] using he1':isDigN 43=false),he4,let101,hob3,hpd3,str_size,str_ext,Nat.add_sub_cancel_left,hl,letter_iff]) | (with_reducible first | refine condK_dec (fun _=> ?_) fun _=> ?_ | refine grd_dec (fun _=> ?_) fun _=> ?_ | refine egrd_dec (fun _=> ?_) fun _=> ?_))
        all_goals
         refine(fail_wp h3 s.line 20 (by omega) (by decide)).mono fun v4 K4 h4=> ?_
         have hob4:=h4.ob
         have hpl4:=h4.pl
         have hl4:(failS (atS s a) s.line 20).line=s.line:=by unfold failS;split<;>rfl
         refine rn (an @hob4 @hl4) ?_
         refine(put_wp h4 5 s.line (l.take a) (by rw[fail_len.1,fail_len.2];exact hb)).mono fun v5 K5 ⟨vt5,h5⟩=> ?_
         refine rn0 ?_
         all_goals exact⟨vt5,by unfold numS;rw[if_pos hbad,hn,hK];exact h5⟩
       ·skip
        have hN:numN l=a:=by unfold numN;rw[hbA,hE];rfl
        have h3:RdAt A K1 p src (atS s (numN l)) vo vt m:=by rw[hN];exact h2
        have hK:numK l=5:=by unfold numK;rw[if_pos ⟨hF,by rw[hbA,hE]⟩]
        have hNN:numN l≤l.length:=by rw[hN];exact hbl
        have hn:=hN
        rw[hn] at h3 hNN
        have hob3:=h3.ob
        have hpl3:=h3.pl
        have hpd3:(atS s a).pos=s.pos+a:=rfl
        have r0:= @peek0 _ _ _ _ _ _ _ _ h3
        simp only[hpd3,hdr] at r0
        have hlen:(l.take a).length=a:=by simp;omega
        have hn0:0<a:=by omega
        have hget:(l.take a)[0]? = some l[0]:=by rw[List.getElem?_take,if_pos hn0];exact List.getElem?_eq_getElem _
        have hh0:hd l=l[0].toNat:=by have:=hd_drop (l:=l) (j:=0) (by omega);simpa using this
        have hL:isLetN (hd (l.drop a))=true:=by rw[he0];rfl
        have hbad:numBad l=true:=by unfold numBad;rw[hn,hL];rfl
        repeat' (first | (simp (disch:=first | omega | (decide +kernel)) only[↓RD,RU,↓putF_get,↓evF_t,↓evF_c,getD_zero,pop,lop,ρ0,ρ1,↓reduceIte,Nat.reduceEqDiff,reduceCtorEq,ρ5,ρ6,bnd,ρ28,ρ29,p0,p1,p2,he0,digit_iff,he3,(by simpa[he3] using he1':isDigN 45=false),he4,let101,hob3,hpd3,str_size,str_ext,Nat.add_sub_cancel_left,hl,letter_iff]) | (with_reducible first | refine condK_dec (fun _=> ?_) fun _=> ?_ | refine grd_dec (fun _=> ?_) fun _=> ?_ | refine egrd_dec (fun _=> ?_) fun _=> ?_))
        all_goals
         refine(fail_wp h3 s.line 20 (by omega) (by decide)).mono fun v4 K4 h4=> ?_
         have hob4:=h4.ob
         have hpl4:=h4.pl
         have hl4:(failS (atS s a) s.line 20).line=s.line:=by unfold failS;split<;>rfl
         refine rn (an @hob4 @hl4) ?_
         refine(put_wp h4 5 s.line (l.take a) (by rw[fail_len.1,fail_len.2];exact hb)).mono fun v5 K5 ⟨vt5,h5⟩=> ?_
         refine rn0 ?_
         all_goals exact⟨vt5,by unfold numS;rw[if_pos hbad,hn,hK];exact h5⟩
      ·obtain⟨he6,he7⟩:hd (l.drop (a+1))≠43∧hd (l.drop (a+1))≠45:=⟨fun e=>he5 (.inl e),fun e=>he5 (.inr e)⟩
       have hN:numN l=a:=by unfold numN;rw[hbA,hE];rfl
       have h3:RdAt A K1 p src (atS s (numN l)) vo vt m:=by rw[hN];exact h2
       have hK:numK l=5:=by unfold numK;rw[if_pos ⟨hF,by rw[hbA,hE]⟩]
       have hNN:numN l≤l.length:=by rw[hN];exact hbl
       have hn:=hN
       rw[hn] at h3 hNN
       have hob3:=h3.ob
       have hpl3:=h3.pl
       have hpd3:(atS s a).pos=s.pos+a:=rfl
       have r0:= @peek0 _ _ _ _ _ _ _ _ h3
       simp only[hpd3,hdr] at r0
       have hlen:(l.take a).length=a:=by simp;omega
       have hn0:0<a:=by omega
       have hget:(l.take a)[0]? = some l[0]:=by rw[List.getElem?_take,if_pos hn0];exact List.getElem?_eq_getElem _
       have hh0:hd l=l[0].toNat:=by have:=hd_drop (l:=l) (j:=0) (by omega);simpa using this
       have hL:isLetN (hd (l.drop a))=true:=by rw[he0];rfl
       have hbad:numBad l=true:=by unfold numBad;rw[hn,hL];rfl
       refine rn (an @hf1 (an @p0 (an @p1 (an @p2 (an @he0 (an @digit_iff (an @he1' (an @he6 (an @he7 (an @let101 (an @hob3 (an @hpd3 (an @str_size (an @str_get (an @str_ext (an @Nat.add_sub_cancel_left (an @hl (an @r0 (an @letter_iff (an @hL (an @hlen @hget))))))))))))))))))))) ?_
       all_goals
        refine(fail_wp h3 s.line 20 (by omega) (by decide)).mono fun v4 K4 h4=> ?_
        have hob4:=h4.ob
        have hpl4:=h4.pl
        have hl4:(failS (atS s a) s.line 20).line=s.line:=by unfold failS;split<;>rfl
        refine rn (an @hob4 @hl4) ?_
        refine(put_wp h4 5 s.line (l.take a) (by rw[fail_len.1,fail_len.2];exact hb)).mono fun v5 K5 ⟨vt5,h5⟩=> ?_
        refine rn0 ?_
        all_goals exact⟨vt5,by unfold numS;rw[if_pos hbad,hn,hK];exact h5⟩
   ·have hE:expN (l.drop a)=0:=by
     unfold expN
     rw[if_neg he0]
    have hN:numN l=a:=by unfold numN;rw[hbA,hE];rfl
    have h3:RdAt A K1 p src (atS s (numN l)) vo vt m:=by rw[hN];exact h2
    have hK:numK l=5:=by unfold numK;rw[if_pos ⟨hF,by rw[hbA,hE]⟩]
    have hNN:numN l≤l.length:=by rw[hN];exact hbl
    have hn:=hN
    rw[hn] at h3 hNN
    have hob3:=h3.ob
    have hpl3:=h3.pl
    have hpd3:(atS s a).pos=s.pos+a:=rfl
    have r0:= @peek0 _ _ _ _ _ _ _ _ h3
    simp only[hpd3,hdr] at r0
    have hlen:(l.take a).length=a:=by simp;omega
    have hn0:0<a:=by omega
    have hget:(l.take a)[0]? = some l[0]:=by rw[List.getElem?_take,if_pos hn0];exact List.getElem?_eq_getElem _
    have hh0:hd l=l[0].toNat:=by have:=hd_drop (l:=l) (j:=0) (by omega);simpa using this
    cases hL:isLetN (hd (l.drop a)) with
    | true=>
      have hbad:numBad l=true:=by unfold numBad;rw[hn,hL];rfl
      refine rn (an @hf1 (an @p0 (an @p1 (an @p2 (an @he0 (an @digit_iff (an @hob3 (an @hpd3 (an @str_size (an @str_get (an @str_ext (an @Nat.add_sub_cancel_left (an @hl (an @r0 (an @letter_iff (an @hL (an @hlen @hget))))))))))))))))) ?_
      all_goals
       refine(fail_wp h3 s.line 20 (by omega) (by decide)).mono fun v4 K4 h4=> ?_
       have hob4:=h4.ob
       have hpl4:=h4.pl
       have hl4:(failS (atS s a) s.line 20).line=s.line:=by unfold failS;split<;>rfl
       refine rn (an @hob4 @hl4) ?_
       refine(put_wp h4 5 s.line (l.take a) (by rw[fail_len.1,fail_len.2];exact hb)).mono fun v5 K5 ⟨vt5,h5⟩=> ?_
       repeat' (first | (simp (disch:=first | omega | (decide +kernel)) only[↓RD,RU,resL]) | (with_reducible first | refine condK_dec (fun _=> ?_) fun _=> ?_ | refine grd_dec (fun _=> ?_) fun _=> ?_ | refine egrd_dec (fun _=> ?_) fun _=> ?_))
       all_goals exact⟨vt5,by unfold numS;rw[if_pos hbad,hn,hK];exact h5⟩
    | false=>
      repeat' (first | (simp (disch:=first | omega | (decide +kernel)) only[↓RD,RU,↓putF_get,↓evF_t,↓evF_c,getD_zero,pop,lop,ρ0,ρ1,ρ4,↓reduceIte,Nat.reduceEqDiff,reduceCtorEq,ρ5,ρ6,bnd,Int.reduceToNat,ρ28,ρ29,p0,hob3,hpd3,str_size,str_get,str_ext,Nat.add_sub_cancel_left,hl,letter_iff,hL,hlen,hget]) | (with_reducible first | refine condK_dec (fun _=> ?_) fun _=> ?_ | refine grd_dec (fun _=> ?_) fun _=> ?_ | refine egrd_dec (fun _=> ?_) fun _=> ?_))
      all_goals first
       | (have hbad:numBad l=true:=by
           unfold numBad;rw[hn,hK,hL];simp;omega
          refine(fail_wp h3 s.line 20 (by omega) (by decide)).mono fun v4 K4 h4=> ?_
          have hob4:=h4.ob
          have hpl4:=h4.pl
          have hl4:(failS (atS s a) s.line 20).line=s.line:=by unfold failS;split<;>rfl
          repeat' (first | (simp (disch:=first | omega | (decide +kernel)) only[↓RD,RU,↓putF_get,↓evF_t,getD_zero,pop,lop,ρ0,ρ1,↓reduceIte,Nat.reduceEqDiff,reduceCtorEq,ρ5,ρ6,hob4,hl4]) | (with_reducible first | refine condK_dec (fun _=> ?_) fun _=> ?_ | refine grd_dec (fun _=> ?_) fun _=> ?_ | refine egrd_dec (fun _=> ?_) fun _=> ?_))
          refine(put_wp h4 5 s.line (l.take a) (by rw[fail_len.1,fail_len.2];exact hb)).mono fun v5 K5 ⟨vt5,h5⟩=> ?_
          repeat' (first | (simp (disch:=first | omega | (decide +kernel)) only[↓RD,RU,resL]) | (with_reducible first | refine condK_dec (fun _=> ?_) fun _=> ?_ | refine grd_dec (fun _=> ?_) fun _=> ?_ | refine egrd_dec (fun _=> ?_) fun _=> ?_))
          all_goals exact⟨vt5,by unfold numS;rw[if_pos hbad,hn,hK];exact h5⟩)
       | (have hbad:numBad l=false:=by
           unfold numBad;rw[hn,hK,hL];simp;omega
          refine(put_wp h3 5 s.line (l.take a) hb).mono fun v5 K5 ⟨vt5,h5⟩=> ?_
          refine rn0 ?_
          all_goals exact⟨vt5,by unfold numS;rw[if_neg (by simp[hbad]),hn,hK];exact h5⟩)
end Can
end Go.Proofs.YticlaccbodpkeaaGreatDoor
end
section
namespace Go.Proofs.YticlaccbodpkeaaGreatDoor
namespace Can
open Go Go.RowKit
set_option linter.unusedSimpArgs false
set_option linter.unusedVariables false
set_option maxRecDepth 4000
def TokOut(A K:CH)(p:Nat)(src:List UInt8)(s:RS)(vo:Value)(m:Nat)(r:Option (Nat×List UInt8×Nat)):Prop:=match r with
 | some (k,x,n)=>∃vt',RdAt A K p src (putS { atS s n with dep:=depT s.dep k x } k s.line x) vo vt' m
 | none=>BadAt A K p src s vo m
theorem fracN_le{l:List UInt8}:fracN l≤l.length:=by
 unfold fracN
 split
 ·rename_i g
  have h1:=dig_lt g.2
  have:=digN_le (l:=l.drop 1)
  simp only[List.length_drop] at this;omega
 ·omega
theorem expN_le{l:List UInt8}:expN l≤l.length:=by
 unfold expN
 have h1:=digN_le (l:=l.drop 1)
 have h2:=digN_le (l:=l.drop 2)
 simp only[List.length_drop] at h1 h2
 split
 ·split
  ·rename_i g;have:=dig_lt g;omega
  ·split
   ·rename_i g;have:=dig_lt g.2;omega
   ·omega
 ·omega
theorem numN_le{l:List UInt8}:numN l≤l.length:=by
 have h1:=digN_le (l:=l)
 have h2:=fracN_le (l:=l.drop (digN l))
 have h3:=expN_le (l:=l.drop (numA l))
 simp only[List.length_drop] at h2 h3
 have h4:numA l=digN l+fracN (l.drop (digN l)):=rfl
 unfold numN
 omega
theorem dep_no{d k:Nat}{x:List UInt8}(h:k≠9):depT d k x=d:=by
 unfold depT
 rw[if_neg (fun g=>h g.1),if_neg (fun g=>h g.1)]
theorem token_wp{A K:CH}{p:Nat}{src:List UInt8}{s:RS}{vo vt:Value}{m:Nat}(h:RdAt A K p src s vo vt m)(hp:s.pos<src.length)(h0:s.err=0)(hb:s.out.length+s.opn.length<1000000)(hdp:s.dep<100000) :
 WpF (tblG Tryz.prog LG GG) 98 [.pointer (some ⟨p,0,none⟩)] K fun v K'=>TokOut A K' p src s vo m (tokT (src.drop s.pos)):=by
 have hsl:=h.sl
 have hob:=h.ob
 have hpl:=h.pl
 have hg:=get_pos hp
 obtain⟨c,hc⟩ : ∃c,src[s.pos]=c:=⟨_,rfl⟩
 have hhd:hd (src.drop s.pos)=c.toNat:=by rw[hd_drop hp,hc]
 rw[hc] at hg
 refine wpF_rG (by rfl) (by kernel_rfl) ?_;(conv in (rF _ _).body=>reduce);(conv in (rF _ _).res=>reduce)
 cases hL:isLetN c.toNat with
 | true=>
   have ht:tokT (src.drop s.pos)=some (if (src.drop s.pos).take (nW isAlN (src.drop s.pos))∈wordsL then 8 else 4,(src.drop s.pos).take (nW isAlN (src.drop s.pos)),nW isAlN (src.drop s.pos)):=by
    unfold tokT;rw[hhd,if_pos hL]
   rw[ht]
   refine rn (an @hob (an @str_get (an @hg (an @letter_iff @hL)))) ?_
   refine(name_wp h hp hb).mono fun v1 K1 ⟨vt1,h1⟩=> ?_
   refine rn0 ?_
   all_goals exact⟨vt1,by rw[dep_no (by split<;>decide)];exact h1⟩
 | false=>
   cases hD:isDigN c.toNat with
   | true=>
     refine rn (an @hob (an @str_get (an @hg (an @letter_iff (an @hL (an @digit_iff @hD)))))) ?_
     refine(number_wp h hp (by rw[hhd];exact hD) hb).mono fun v1 K1 ⟨vt1,h1⟩=> ?_
     have hk9:numK (src.drop s.pos)≠9:=by unfold numK;split<;>decide
     cases hbd:numBad (src.drop s.pos) with
     | true=>
       have ht:tokT (src.drop s.pos)=none:=by
        unfold tokT;rw[hhd,if_neg (by simp[hL]),if_pos hD,if_pos hbd]
       rw[ht]
       unfold numS at h1
       rw[if_pos hbd,failS_0 (show(atS s _).err=0 from h0)] at h1
       have hnp:0<numN (src.drop s.pos):=by
        have:=nW_yes (p:=isDigN) hp (by rw[hhd];exact hD)
        unfold numN numA digN
        omega
       have hnb:s.pos+numN (src.drop s.pos)≤src.length+4:=by
        have:=numN_le (l:=src.drop s.pos)
        simp at this;omega
       refine rn0 ?_
       all_goals exact⟨vt1,_,h1,rfl,rfl,rfl,rfl,by simp[putS,atS],by show s.pos<s.pos+numN _;omega,hnb,rfl⟩
     | false=>
       have ht:tokT (src.drop s.pos)=some (numK (src.drop s.pos),(src.drop s.pos).take (numN (src.drop s.pos)),numN (src.drop s.pos)):=by
        unfold tokT;rw[hhd,if_neg (by simp[hL]),if_pos hD,if_neg (by simp[hbd])]
       rw[ht]
       unfold numS at h1
       rw[if_neg (by simp[hbd])] at h1
       repeat' (first | (simp (disch:=first | omega | (decide +kernel)) only[↓RD,RU,resL]) | (with_reducible first | refine condK_dec (fun _=> ?_) fun _=> ?_ | refine grd_dec (fun _=> ?_) fun _=> ?_ | refine egrd_dec (fun _=> ?_) fun _=> ?_))
       all_goals exact⟨vt1,by rw[dep_no hk9];exact h1⟩
   | false=>
     by_cases hq:c.toNat=39∨c.toNat=34
     ·have ht:tokT (src.drop s.pos)=(strT (hd (src.drop s.pos)) (src.drop (s.pos+1))).map fun x=>(7,x.1,x.2+1):=by
       unfold tokT;rw[hhd,if_neg (by simp[hL]),if_neg (by simp[hD]),if_pos hq,List.drop_drop]
      rw[ht]
      have fin : ∀K',TxtOut A K' p src s vo m (strT (hd (src.drop s.pos)) (src.drop (s.pos+1)))→TokOut A K' p src s vo m ((strT (hd (src.drop s.pos)) (src.drop (s.pos+1))).map fun x=>(7,x.1,x.2+1)):=fun K' g=>by
       cases hs:strT (hd (src.drop s.pos)) (src.drop (s.pos+1)) with
       | none=>rw[hs] at g;exact g
       | some x=>rw[hs] at g;obtain⟨vt2,g⟩:=g;exact⟨vt2,by rw[dep_no (by decide)];exact g⟩
      have hqr:32≤hd (src.drop s.pos)∧hd (src.drop s.pos)≠92:=by rw[hhd];omega
      repeat' (first | (simp (disch:=first | omega | (decide +kernel)) only[↓RD,RU,↓putF_get,↓evF_t,↓evF_c,getD_zero,pop,lop,ρ0,ρ1,ρ4,↓reduceIte,Nat.reduceEqDiff,Int.reduceOfNat,reduceCtorEq,ρ5,ρ6,ρ28,ρ29,hob,str_get,hg,letter_iff,hL,digit_iff,hD]) | (with_reducible first | refine condK_dec (fun _=> ?_) fun _=> ?_ | refine grd_dec (fun _=> ?_) fun _=> ?_ | refine egrd_dec (fun _=> ?_) fun _=> ?_))
      all_goals
       refine(text_wp h hp h0 hqr hb).mono fun v1 K1 h1=> ?_
       refine rn0 ?_
       all_goals exact fin _ h1
     ·have ht:tokT (src.drop s.pos)=(symN (src.drop s.pos)).map fun n=>(9,(src.drop s.pos).take n,n):=by
       unfold tokT;rw[hhd,if_neg (by simp[hL]),if_neg (by simp[hD]),if_neg hq]
      rw[ht]
      refine rn (an @hob (an @str_get (an @hg (an @letter_iff (an @hL (an @digit_iff @hD)))))) ?_
      all_goals
       refine(symbol_wp h hp h0 hb hdp).mono fun v1 K1 h1=> ?_
       refine rn0 ?_
       all_goals
        unfold SymOut at h1
        cases hs:symN (src.drop s.pos) with
        | none=>rw[hs] at h1;exact h1
        | some x=>rw[hs] at h1;exact h1
theorem opn_app{A K:CH}{v:Value}{ns:List Nat}{n:Nat}(h:OpnAt A K v ns)(hA:HExt A K)(hl:ns.length<1000000){Q:Value→CH→Prop}(k : ∀v' K',OpnAt A K' v' (ns++ [n])→HExt A K'→K.nx≤K'.nx→(∀l,l<K.nx→(∀o n c,v≠ .slice (some ⟨l,o,none⟩) n c)→K'.ob l=K.ob l)→Q v' K') :
 optW (appV 3 1 8 v [.int .i64 n] 1 K) Q:=by
 obtain⟨b,kd,c,os,rfl,h1,h2,h3,h4,h5,h6,h7,h8⟩:=h
 rw[appV_r,h3,appR_c,if_neg (by decide),if_pos ⟨rfl,rfl,h4,by omega,rfl,by omega,by rw[maxLen_eq];omega⟩,optW_some]
 have hnew : ∀H:CH,H.nx=K.nx→(H.new (.cells (os.take (ns.length*1)++ [.int .i64 (n:Int)]) 3 .gr)).ob K.nx= .cells (os.take (ns.length*1)++ [.int .i64 (n:Int)]) 3 .gr:=fun H hH=>by rw[new_get,if_pos hH.symm]
 have hcells : ∀i,i<(ns++ [n]).length→(os.take (ns.length*1)++ [.int .i64 (n:Int)])[i]? = some (.int .i64 ((ns++ [n]).getD i 0:Nat)):=fun i hi=>by
  simp only[List.length_append,List.length_singleton] at hi
  by_cases hlt:i<ns.length
  ·rw[List.getElem?_append_left (by simp;omega),List.getElem?_take,if_pos (by omega),h8 i hlt]
   simp[List.getD,List.getElem?_append_left hlt]
  ·have:i=ns.length:=by omega
   subst this
   rw[List.getElem?_append_right (by simp;omega)]
   simp[List.getD,h7]
 have hop : ∀K':CH,K'.nx=K.nx+1→K'.ob K.nx= .cells (os.take (ns.length*1)++ [.int .i64 (n:Int)]) 3 .gr→OpnAt A K' (.slice (some ⟨K.nx,0,none⟩) (ns.length+1) (ns.length+1)) (ns++ [n]):=fun K' g1 g2=>
  ⟨K.nx, .gr,ns.length+1,_,by simp,hA.nx,by omega,g2,rfl,by simp,by omega,by simp;omega,hcells⟩
 unfold appH
 split
 ·exact k _ _ (hop _ rfl (hnew K rfl)) (hA.new _) (Nat.le_succ _) fun l hl _=>by rw[new_get,if_neg (by omega)]
 ·refine k _ _ (hop _ rfl (hnew (K.set b .dead) rfl)) ((hA.set h1 _).new _) (Nat.le_succ _) fun l hl hne=> ?_
  rw[new_get,if_neg (by show ¬l=K.nx;omega),set_get,if_neg]
  rintro rfl
  exact hne _ _ _ rfl
theorem RdAt.opnv{A K K':CH}{p:Nat}{src:List UInt8}{s:RS}{vo vo' vt:Value}{m:Nat}{ns:List Nat}(h:RdAt A K p src s vo vt m)(hb:s.out.length+ns.length≤1000000)(hx:HExt A K')(hn:K.nx≤K'.nx)(hg:OpnAt A K' vo' ns)(hk : ∀l,l<K.nx→(∀o n c,vo≠ .slice (some ⟨l,o,none⟩) n c)→K'.ob l=K.ob l) :
 RdAt A (K'.set p (.cells [.string (str src), .int .i64 s.pos, .int .i64 s.line, .int .i64 s.dep,vo',vt, .map (some m), .int .i64 s.err, .int .i64 s.wh] 110 .ex)) p src { s with opn:=ns } vo' vt m∧K'.ob p=K.ob p:=by
 have hob:=h.ob
 obtain⟨b,kd,c,os,h1,h2,h3,h4,h5⟩:=h.opn
 have hne : ∀l,l≠b→∀o n c,vo≠ .slice (some ⟨l,o,none⟩) n c:=fun l hl o n c hv=>by
  rw[h1] at hv;cases hv;exact hl rfl
 have hpb:p≠b:=fun e=>by
  rw[←e,hob] at h4
  have:=(CObj.cells.inj h4).2.1
  revert this;decide
 have hmb:m≠b:=fun e=>by rw[←e,h.mp] at h4;cases h4
 have hp:=(hk p h.pl (hne p hpb)).trans hob
 have hm':=(hk m h.ml (hne m hmb)).trans h.mp
 obtain⟨b2,kd2,c2,os2,g1,g2,g3,g4,g5⟩:=hg
 have hb2p:b2≠p:=fun e=>by
  rw[e,hp] at g4
  have:=(CObj.cells.inj g4).2.1
  revert this;decide
 have hmp:m≠p:=fun e=>by rw[e,hp] at hm';cases hm'
 refine⟨⟨by rw[set_get,if_pos rfl],Nat.lt_of_lt_of_le h.pl hn,h.pa,⟨b2,kd2,c2,os2,g1,g2,g3,by rw[set_get,if_neg hb2p];exact g4,g5⟩,?_,by rw[set_get,if_neg hmp];exact hm',Nat.lt_of_lt_of_le h.ml hn,h.ma,hx.set h.pa _,⟨h.bd.pos,h.bd.line,h.bd.dep,h.bd.err,h.bd.wh,hb⟩,h.sl⟩,hk p h.pl (hne p hpb)⟩
 rcases h.out with g | ⟨b3,kd3,e3,q1,q2,q3,q4⟩
 ·exact .inl g
 ·have hb3b:b3≠b:=fun e=>by
   rw[e,h4] at q3
   have:=(CObj.cells.inj q3).2.1
   revert this;decide
  have hb3p:b3≠p:=fun e=>by
   rw[e,hob] at q3
   have:=(CObj.cells.inj q3).2.1
   revert this;decide
  exact .inr ⟨b3,kd3,e3,q1,Nat.lt_of_lt_of_le q2 hn,by rw[set_get,if_neg hb3p];exact(hk b3 q2 (hne b3 hb3b)).trans q3,q4⟩
theorem tw_spec{n:Nat} : ∀ {st:List Nat},st.getLast? = some 0→∃k,(st.takeWhile fun x=>decide (n<x)).length=k∧k<st.length∧(∀i,i<k→n<st.getD i 0)∧¬n<st.getD k 0∧(st.dropWhile fun x=>decide (n<x))=st.drop k
 | [],h=>by cases h
 | a::r,h=>by
   by_cases ha:n<a
   ·cases r with
    | nil=>simp at h;omega
    | cons b r=>
      obtain⟨k,h1,h2,h3,h4,h5⟩:=tw_spec (n:=n) (st:=b::r) (by simpa using h)
      refine⟨k+1,by rw[List.takeWhile_cons_of_pos (by simpa using ha)];simp[h1],by simp at h2⊢;omega,fun i hi=> ?_,by simpa using h4,by rw[List.dropWhile_cons_of_pos (by simpa using ha),h5];rfl⟩
      cases i with
      | zero=>exact ha
      | succ i=>simpa using h3 i (by omega)
   ·exact⟨0,by rw[List.takeWhile_cons_of_neg (by simpa using ha)];rfl,by simp,fun i hi=>absurd hi (by omega),by simpa using ha,by rw[List.dropWhile_cons_of_neg (by simpa using ha)];rfl⟩
theorem sl_open{b n c j:Nat}(h2:j+1≤c):sliceV 1 (.slice (some ⟨b,0,none⟩) n c) ((0:Nat):Int) ((j:Nat)+1:Int) (c:Int) false=some (.slice (some ⟨b,0,none⟩) (j+1) c):=by
 unfold sliceV
 simp only[Bool.false_eq_true,if_false]
 rw[if_pos (by omega),if_neg (by omega)]
 have e1:(((j:Nat):Int)+1-((0:Nat):Int)).toNat=j+1:=by omega
 have e2:((c:Int)-((0:Nat):Int)).toNat=c:=by omega
 rw[e1,e2]
 rfl
theorem okSl_of{K:CH}{b o n c e:Nat}{os:List Value}{kd:Kd}(h:K.ob b= .cells os e kd):okSl K e (.slice (some ⟨b,o,none⟩) n c)=true:=by
 simp only[okSl,h]
 cases kd<;>simp
def indS (s:RS)(st:List Nat)(n:Nat):RS:=if (indT s.line st n).2.headD 0=n then { s with out:=s.out++(indT s.line st n).1,opn:=(indT s.line st n).2.reverse } else { s with out:=s.out++(indT s.line st n).1,opn:=(indT s.line st n).2.reverse,err:=21,wh:=s.line }
theorem indent_wp{A K:CH}{p:Nat}{src:List UInt8}{s:RS}{vo vt:Value}{m:Nat}(h:RdAt A K p src s vo vt m){st:List Nat}(hst:s.opn=st.reverse)(hz:st.getLast? = some 0)(n:Nat)(hn:n≤100000)(h0:s.err=0)(hb:s.out.length+s.opn.length<400000) :
 WpF (tblG Tryz.prog LG GG) 97 [.pointer (some ⟨p,0,none⟩), .int .i64 n] K fun v K'=>∃vo' vt',RdAt A K' p src (indS s st n) vo' vt' m:=by
 have hsl:=h.sl
 have hob:=h.ob
 have hpl:=h.pl
 have hln:=h.bd.line
 have hlen:s.opn.length=st.length:=by rw[hst];simp
 have hst0:0<st.length:=by cases st with
  | nil=>cases hz
  | cons a r=>simp
 obtain⟨b,kd,c,os,hvo,o1,o2,o3,o4,o5,o6,o7,o8⟩:=h.opn
 have hget : ∀i,i<st.length→os[st.length-1-i]? = some (.int .i64 (st.getD i 0:Nat)):=fun i hi=>by
  rw[o8 _ (by omega),hst]
  congr 3
  simp only[List.getD_eq_getElem?_getD]
  rw[List.getElem?_reverse (by omega)]
  congr 2;omega
 subst hvo
 refine wpF_rG (by rfl) (by kernel_rfl) ?_;(conv in (rF _ _).body=>reduce);(conv in (rF _ _).res=>reduce)
 have hg0:=hget 0 hst0
 have hsub:((s.opn.length:Nat):Int)-1=((st.length-1-0:Nat):Int):=by omega
 by_cases hlt:st.headD 0<n
 ·have hlt':st.getD 0 0<n:=by cases st with
   | nil=>exact hlt
   | cons a r=>exact hlt
  have hind:indT s.line st n=([⟨2,s.line,[]⟩],n::st):=by unfold indT;rw[if_pos hlt]
  have hx1:HExt K (K.new (.cells [.int .i64 (n:Int)] 3 .ex)):=by(repeat (first | assumption | exact HExt.refl _ | (refine HExt.set ?_ (by first | omega | (simp only[new_nx,set_nx];omega)) _) | (refine HExt.new ?_ _)))
  have ho1:=(h.mv hx1).opn
  repeat' (first | (simp (disch:=first | omega | (decide +kernel)) only[↓r_seq,↓seqK_n,↓r_reg,↓r_cond,↓condK_t,↓i_cons,↓itemK,↓o_p,↓o_l,↓o_a,↓o_w,↓putF_get,↓evF_t,↓evF_c,new_get,optV_some,optA_some,↓wpI_nil,getD_zero,getD_succ,b_sub,b_gtr,w_i64,pop,lop,aop,akV,isVal,Value.cells,List.map_cons,List.map_nil,Option.map_some,↓reduceIte,Nat.reduceEqDiff,Int.reduceOfNat,reduceCtorEq,List.getElem?_cons_zero,List.getElem?_cons_succ,List.length_cons,List.length_nil,setc_0,srcR_c,src_r,List.take_succ_cons,List.drop_succ_cons,List.drop_zero,List.append_nil,List.take_nil,List.drop_nil,List.size_toArray,List.toList_toArray,bldV,Nat.reduceLeDiff,Nat.le_refl,zeros_one,dec_t,↓w_app,appS_some,if_pos,Nat.mul_one,Nat.zero_add,Int.toNat_natCast,and_true,hob,o3,hsub,hg0]) | (with_reducible first | refine condK_dec (fun _=> ?_) fun _=> ?_ | refine grd_dec (fun _=> ?_) fun _=> ?_ | refine egrd_dec (fun _=> ?_) fun _=> ?_))
  refine opn_app ho1 (h.E.trans hx1) (by omega) fun vo' K2 j1 j2 j3 j4=> ?_
  obtain⟨h2,e2⟩:=(h.mv hx1).opnv (by simp;omega) j2 j3 j1 j4
  have hob2:=e2.trans ((hx1.ob p hpl).trans hob)
  have j1':=j1
  obtain⟨b2,kd2,c2,os2,rfl,_⟩:=j1'
  have hll:(s.opn++ [n]).length=s.opn.length+1:=by simp
  rw[hll] at h2
  refine rn @hob2 ?_
  refine(put_wp h2 2 s.line [] (by simp;omega)).mono fun v3 K3 ⟨vt3,h3⟩=> ?_
  refine rn0 ?_
  all_goals
   have hI:indS s st n=putS { s with opn:=s.opn++ [n] } 2 s.line []:=by
    unfold indS
    rw[hind]
    show(if n=n then _ else _)=_
    rw[if_pos rfl]
    simp only[List.reverse_cons,←hst]
    rfl
   exact⟨.slice (some ⟨b2,0,none⟩) (s.opn.length+1) c2,vt3,by rw[hI];exact h3⟩
 ·obtain⟨k,hk1,hk2,hk3,hk4,hk5⟩:=tw_spec (n:=n) hz
  have hind:indT s.line st n=(List.replicate k ⟨3,s.line,[]⟩,st.drop k):=by unfold indT;rw[if_neg hlt,hk1,hk5]
  have hlt' : ¬st.getD 0 0<n:=by cases st with
   | nil=>exact absurd hst0 (by simp)
   | cons a r=>exact fun g=>hlt (by simpa using g)
  have hk0:k=0∨0<k:=by omega
  refine rn (an @hob (an @o3 (an @hsub @hg0))) ?_
  refine loop_w (fun q fr K1=>∃i vt1,q=k-i∧i≤k∧fr 4= .int .i64 ((st.length-1-i:Nat):Int)∧RdAt A K1 p src { s with out:=s.out++List.replicate i ⟨3,s.line,[]⟩ } (.slice (some ⟨b,0,none⟩) s.opn.length c) vt1 m) (n:=k) ⟨0,vt,rfl,by omega,by exact rz0,by simpa using h⟩ ?_
  rintro q fr K1 ⟨i,vt1,rfl,hi,f4,h1⟩ hag
  have hob1:=h1.ob
  have hpl1:=h1.pl
  obtain⟨b',kd',c',os',e',q1,q2,q3,q4,q5,q6,q7,q8⟩:=h1.opn
  cases e'
  have q7':s.opn.length≤os'.length:=q7
  have q5':s.opn.length≤c:=q5
  have hbp:b≠p:=fun e=>by
   rw[e,hob1] at q3
   have:=(CObj.cells.inj q3).2.1
   revert this;decide
  have hgi:os'[st.length-1-i]? = some (.int .i64 (st.getD i 0:Nat)):=by
   rw[q8 _ (by show _<s.opn.length;omega)]
   show some (Value.int .i64 ((s.opn.getD (st.length-1-i) 0:Nat):Int))=_
   rw[hst]
   congr 3
   simp only[List.getD_eq_getElem?_getD]
   rw[List.getElem?_reverse (by omega)]
   congr 2;omega
  by_cases hik:i<k
  ·have hgt:=hk3 i hik
   refine rn (an @hag (an @hob1 (an @q3 (an @f4 @hgi)))) ?_
   refine(put_wp h1 3 s.line [] (by simp;omega)).mono fun v2 K2 ⟨vt2,h2⟩=> ?_
   have hsub1:((st.length-1-i:Nat):Int)-1=((st.length-1-(i+1):Nat):Int):=by omega
   refine rn (an @f4 @hsub1) ?_
   all_goals exact⟨_,by omega,i+1,vt2,rfl,by omega,rfl,by
    have e:s.out++List.replicate (i+1) (⟨3,s.line,[]⟩:Tok)=(s.out++List.replicate i ⟨3,s.line,[]⟩)++ [⟨3,s.line,[]⟩]:=by rw[List.replicate_succ',List.append_assoc]
    rw[e];exact h2⟩
  ·have hik':i=k:=by omega
   subst hik'
   have hsv:= @sl_open b s.opn.length c (st.length-1-i) (by omega)
   have hok:=okSl_of (o:=0) (n:=s.opn.length) (c:=c) q3
   have hlen2:(st.drop i).reverse.length=st.length-1-i+1:=by simp;omega
   have hopn2:OpnAt A K1 (.slice (some ⟨b,0,none⟩) (st.length-1-i+1) c) (st.drop i).reverse:=⟨b,kd',c,os',by rw[hlen2],q1,q2,q3,q4,by omega,q6,by omega,fun j hj=>by
    rw[q8 j (by show j<s.opn.length;omega)]
    show some (Value.int .i64 ((s.opn.getD j 0:Nat):Int))=_
    rw[hst]
    congr 3
    simp only[List.getD_eq_getElem?_getD]
    rw[List.getElem?_reverse (by omega),List.getElem?_reverse (by simp;omega),List.getElem?_drop]
    congr 2
    simp;omega⟩
   obtain⟨h2,_⟩:=h1.opnv (ns:=(st.drop i).reverse) (by simp;omega) h1.E (Nat.le_refl _) hopn2 (fun _ _ _=>rfl)
   have hhd:(st.drop i).headD 0=st.getD i 0:=by
    rw[List.drop_eq_getElem_cons hk2]
    simp[List.getD,List.getElem?_eq_getElem hk2]
   by_cases hen:st.getD i 0=n
   ·have hI:indS s st n= { s with out:=s.out++List.replicate i ⟨3,s.line,[]⟩,opn:=(st.drop i).reverse }:=by
     unfold indS
     rw[hind]
     show(if (st.drop i).headD 0=n then _ else _)=_
     rw[if_pos (by rw[hhd];exact hen)]
    rw[hI]
    refine rn (an @hag (an @hob1 (an @q3 (an @f4 (an @hgi (an @hsv (an @hok @hbp))))))) ?_
    all_goals exact⟨_,_,h2⟩
   ·have hI:indS s st n= { s with out:=s.out++List.replicate i ⟨3,s.line,[]⟩,opn:=(st.drop i).reverse,err:=21,wh:=s.line }:=by
     unfold indS
     rw[hind]
     show(if (st.drop i).headD 0=n then _ else _)=_
     rw[if_neg (by rw[hhd];exact hen)]
    rw[hI]
    refine rn (an @hag (an @hob1 (an @q3 (an @f4 (an @hgi (an @hsv (an @hok @hbp))))))) ?_
    all_goals
     refine(fail_wp0 h2 s.line 21 hln (by decide) h0).mono fun v3 K3 ⟨h3,_⟩=> ?_
     refine rn0 ?_
     all_goals exact⟨_,_,h3⟩
end Can
end Go.Proofs.YticlaccbodpkeaaGreatDoor
end
section
namespace Go.Proofs.YticlaccbodpkeaaGreatDoor
namespace Can
set_option linter.unusedSimpArgs false
set_option linter.unusedVariables false
def Nl (u:List UInt8):Prop:=u= []∨∃r,u=10::r
theorem Nl.hd{u:List UInt8}(h:Nl u):hd u=0∨hd u=10:=by
 rcases h with rfl | ⟨r,rfl⟩
 ·exact .inl rfl
 ·exact .inr rfl
theorem hd_app{t u:List UInt8}(h:Nl u):hd (t++u)=hd t∨(t= []∧hd (t++u)=10):=by
 cases t with
 | nil=>
   rcases h.hd with g | g
   ·exact .inl g
   ·exact .inr ⟨rfl,g⟩
 | cons c r=>exact .inl rfl
theorem p_app{α:Type}{p:Nat→α}{t u:List UInt8}(h:Nl u)(hp:p 10=p 0):p (hd (t++u))=p (hd t):=by
 rcases hd_app (t:=t) h with g | ⟨rfl,g⟩
 ·rw[g]
 ·rw[g,hp];rfl
theorem nW_app{p:Nat→Bool}(hp:p 10=false) : ∀ {t u:List UInt8},Nl u→nW p (t++u)=nW p t
 | [],u,h=>by
   rcases h with rfl | ⟨r,rfl⟩
   ·rfl
   ·show nW p (10::r)=0
    rw[nW,if_neg (by show ¬p 10=true;simp[hp])]
 | c::t,u,h=>by
   simp only[List.cons_append,nW]
   rw[nW_app hp h]
theorem drop_app{t u:List UInt8}{j:Nat}(h:j≤t.length):(t++u).drop j=t.drop j++u:=List.drop_append_of_le_length h
theorem digN_app{t u:List UInt8}(h:Nl u):digN (t++u)=digN t:=nW_app (by decide) h
theorem digN_len{t:List UInt8}:digN t≤t.length:=nW_le
theorem hd_ne{t:List UInt8}(h:hd t≠0):1≤t.length:=hd_pos h
theorem dig_len{t:List UInt8}{j:Nat}(h:isDigN (hd (t.drop j))=true):j+1≤t.length:=by
 have:hd (t.drop j)≠0:=fun e=>by rw[e] at h;cases h
 have:=hd_pos this
 simp at this;omega
theorem fracN_app{t u:List UInt8}(h:Nl u):fracN (t++u)=fracN t:=by
 unfold fracN
 by_cases c:hd t=46
 ·have hl:=hd_ne (t:=t) (by omega)
  have e1:hd (t++u)=46:=by
   rcases hd_app (t:=t) h with g | ⟨rfl,g⟩
   ·rw[g,c]
   ·cases c
  rw[drop_app hl,p_app (p:=isDigN) h (by decide),digN_app h,e1,c]
 ·have e1:hd (t++u)≠46:=by
   rcases hd_app (t:=t) h with g | ⟨rfl,g⟩
   ·rw[g];exact c
   ·rw[g];decide
  rw[if_neg (fun g=>e1 g.1),if_neg (fun g=>c g.1)]
theorem expN_app{t u:List UInt8}(h:Nl u):expN (t++u)=expN t:=by
 unfold expN
 by_cases c:hd t=101
 ·have hl:=hd_ne (t:=t) (by omega)
  have e1:hd (t++u)=101:=by
   rcases hd_app (t:=t) h with g | ⟨rfl,g⟩
   ·rw[g,c]
   ·cases c
  rw[if_pos e1,if_pos c,drop_app hl,p_app (p:=isDigN) h (by decide),digN_app h]
  have e2:(hd (t.drop 1++u)=43∨hd (t.drop 1++u)=45)↔(hd (t.drop 1)=43∨hd (t.drop 1)=45):=by
   exact decide_eq_decide.1 (p_app (p:=fun n=>decide (n=43∨n=45)) (t:=t.drop 1) h (by decide))
  by_cases c2:hd (t.drop 1)=43∨hd (t.drop 1)=45
  ·have hl2:2≤t.length:=by
    have:=hd_ne (t:=t.drop 1) (by omega)
    simp at this;omega
   rw[drop_app hl2,p_app (p:=isDigN) h (by decide),digN_app h]
   simp only[e2]
  ·by_cases cd:isDigN (hd (t.drop 1))=true
   ·rw[if_pos cd,if_pos cd]
   ·rw[if_neg cd,if_neg cd,if_neg (fun g=>c2 (e2.1 g.1)),if_neg (fun g=>c2 g.1)]
 ·have e1:hd (t++u)≠101:=by
   rcases hd_app (t:=t) h with g | ⟨rfl,g⟩
   ·rw[g];exact c
   ·rw[g];decide
  rw[if_neg e1,if_neg c]
theorem fracN_len{l:List UInt8}:fracN l≤l.length:=by
 unfold fracN
 split
 ·rename_i g
  have h1:=dig_len g.2
  have:=digN_len (t:=l.drop 1)
  simp only[List.length_drop] at this;omega
 ·omega
theorem expN_len{l:List UInt8}:expN l≤l.length:=by
 unfold expN
 have h1:=digN_len (t:=l.drop 1)
 have h2:=digN_len (t:=l.drop 2)
 simp only[List.length_drop] at h1 h2
 split
 ·split
  ·rename_i g;have:=dig_len g;omega
  ·split
   ·rename_i g;have:=dig_len g.2;omega
   ·omega
 ·omega
theorem numA_len{l:List UInt8}:numA l≤l.length:=by
 have h1:=digN_len (t:=l)
 have h2:=fracN_len (l:=l.drop (digN l))
 simp only[List.length_drop] at h2
 unfold numA;omega
theorem numN_len{l:List UInt8}:numN l≤l.length:=by
 have h1:=numA_len (l:=l)
 have h3:=expN_len (l:=l.drop (numA l))
 simp only[List.length_drop] at h3
 unfold numN;omega
theorem numA_app{t u:List UInt8}(h:Nl u):numA (t++u)=numA t:=by
 unfold numA
 rw[digN_app h,drop_app digN_len,fracN_app h]
theorem numN_app{t u:List UInt8}(h:Nl u):numN (t++u)=numN t:=by
 unfold numN
 rw[numA_app h,drop_app numA_len,expN_app h]
theorem numK_app{t u:List UInt8}(h:Nl u):numK (t++u)=numK t:=by
 unfold numK
 rw[digN_app h,numA_app h,drop_app digN_len,drop_app numA_len,fracN_app h,expN_app h]
theorem numBad_app{t u:List UInt8}(h:Nl u)(ht:0<t.length):numBad (t++u)=numBad t:=by
 unfold numBad
 rw[numN_app h,numK_app h,drop_app numN_len,p_app (p:=isLetN) h (by decide),p_app (p:=fun n=>decide (n=46)) h (by decide)]
 have:hd (t++u)=hd t:=by
  rcases hd_app (t:=t) h with g | ⟨rfl,_⟩
  ·exact g
  ·simp at ht
 rw[this]
theorem escN_app{t u:List UInt8}(h:Nl u):escN (t++u)=escN t:=by
 unfold escN
 by_cases c:hd t=120
 ·have hl:=hd_ne (t:=t) (by omega)
  have e1:hd (t++u)=120:=by
   rcases hd_app (t:=t) h with g | ⟨rfl,g⟩
   ·rw[g,c]
   ·cases c
  rw[if_pos e1,if_pos c,drop_app hl,p_app (p:=hexN) h (by decide)]
  by_cases c2:hexN (hd (t.drop 1))<16
  ·have hl2:2≤t.length:=by
    have:hd (t.drop 1)≠0:=fun e=>by rw[e] at c2;exact absurd c2 (by decide)
    have:=hd_ne this
    simp at this;omega
   rw[drop_app hl2,p_app (p:=hexN) h (by decide)]
  ·rw[if_neg (fun g=>c2 g.1),if_neg (fun g=>c2 g.1)]
 ·have e1:hd (t++u)≠120:=by
   rcases hd_app (t:=t) h with g | ⟨rfl,g⟩
   ·rw[g];exact c
   ·rw[g];decide
  rw[if_neg e1,if_neg c,p_app (p:=stdN) h (by decide)]
theorem escN_len{l:List UInt8}{b n:Nat}(h:escN l=some (b,n)):n≤l.length:=by
 unfold escN at h
 split at h
 ·split at h
  ·rename_i g
   cases h
   have h2:hd (l.drop 2)≠0:=fun e=>by have:=g.2;rw[e] at this;exact absurd this (by decide)
   have:=hd_pos h2
   simp at this;omega
  ·cases h
 ·split at h
  ·rename_i g1 g
   cases h
   have h0:hd l≠0:=fun e=>g (by rw[e];decide)
   exact hd_pos h0
  ·cases h
theorem strN_app{q:Nat}(hq:32≤q) : ∀ {f:Nat} {t u:List UInt8},Nl u→strN q f (t++u)=strN q f t
 | 0,_,_,_=>rfl
 | f+1,t,u,h=>by
   by_cases ht:t= []
   ·subst ht
    have:hd u=0∨hd u=10:=h.hd
    simp only[List.nil_append,strN]
    rw[if_neg (by omega),if_pos (by omega),if_neg (by show ¬(0=q);omega),if_pos (by show 0<32;decide)]
   ·have hl:1≤t.length:=by
     cases t with
     | nil=>exact absurd rfl ht
     | cons c r=>simp
    have he:hd (t++u)=hd t:=by
     rcases hd_app (t:=t) h with g | ⟨rfl,_⟩
     ·exact g
     ·exact absurd rfl ht
    simp only[strN]
    rw[he,drop_app hl,strN_app hq h,escN_app h]
    cases hes:escN (t.drop 1) with
    | none=>rfl
    | some x=>
      have:=escN_len hes
      simp only[List.length_drop] at this
      simp only
      rw[drop_app (by omega),strN_app hq h]
theorem strN_fuel'{q:Nat} : ∀ {f g:Nat} {l:List UInt8},l.length<f→l.length<g→strN q f l=strN q g l
 | 0,_,_,h,_=>absurd h (by omega)
 | _,0,_,_,h=>absurd h (by omega)
 | f+1,g+1,l,hf,hg=>by
   unfold strN
   by_cases c1:hd l=q
   ·rw[if_pos c1,if_pos c1]
   rw[if_neg c1,if_neg c1]
   by_cases c2:hd l<32
   ·rw[if_pos c2,if_pos c2]
   rw[if_neg c2,if_neg c2]
   have hl:0<l.length:=hd_pos (by omega)
   by_cases c3:hd l=92
   ·rw[if_neg (by simpa using c3),if_neg (by simpa using c3)]
    cases escN (l.drop 1) with
    | none=>rfl
    | some x=>
      simp only
      rw[strN_fuel' (f:=f) (g:=g) (by simp;omega) (by simp;omega)]
   ·rw[if_pos c3,if_pos c3,strN_fuel' (f:=f) (g:=g) (by simp;omega) (by simp;omega)]
theorem strT_app{q:Nat}(hq:32≤q){t u:List UInt8}(h:Nl u):strT q (t++u)=strT q t:=by
 unfold strT
 rw[strN_app hq h]
 exact strN_fuel' (by simp;omega) (by omega)
theorem take_app{t u:List UInt8}{n:Nat}(h:n≤t.length):(t++u).take n=t.take n:=List.take_append_of_le_length h
theorem take_mem{t u:List UInt8}(h:Nl u){n:Nat}{S:List (List UInt8)}(hS : ∀x∈S,x.length=n∧(10:UInt8)∉x):(t++u).take n∈S↔t.take n∈S:=by
 by_cases hl:n≤t.length
 ·rw[take_app hl]
 ·have e2:t.take n=t:=List.take_of_length_le (by omega)
  constructor
  ·intro hm
   obtain⟨h1,h2⟩:=hS _ hm
   rcases h with rfl | ⟨r,rfl⟩
   ·simp at h1;omega
   ·exact absurd (by
     rw[List.take_append,e2]
     refine List.mem_append_right _ ?_
     obtain⟨k,hk⟩ : ∃k,n-t.length=k+1:=⟨n-t.length-1,by omega⟩
     rw[hk];simp) h2
  ·intro hm
   have:=(hS _ hm).1
   simp at this;omega
theorem symN_app{t u:List UInt8}(h:Nl u):symN (t++u)=symN t:=by
 have h3 : ∀x∈S3,x.length=3∧(10:UInt8)∉x:=by decide
 have h2 : ∀x∈S2,x.length=2∧(10:UInt8)∉x:=by decide
 have h1:=p_app (p:=fun n=>decide (n∈S1.map UInt8.toNat)) (t:=t) h (by decide)
 have h1':=decide_eq_decide.1 h1
 unfold symN
 simp only[take_mem h h3,take_mem h h2,h1']
theorem symN_len{l:List UInt8}{n:Nat}(h:symN l=some n):n≤l.length∧0<n:=by
 have h3 : ∀x∈S3,x.length=3:=by decide
 have h2 : ∀x∈S2,x.length=2:=by decide
 unfold symN at h
 split at h
 ·rename_i g;cases h
  have:=h3 _ g
  simp at this;omega
 ·split at h
  ·rename_i g;cases h
   have:=h2 _ g
   simp at this;omega
  ·split at h
   ·rename_i g;cases h
    have:hd l≠0:=fun e=>by rw[e] at g;revert g;decide
    have:=hd_pos this
    omega
   ·cases h
theorem strN_len{q:Nat} : ∀ {f:Nat} {l x:List UInt8} {n:Nat},32≤q→strN q f l=some (x,n)→n≤l.length
 | 0,_,_,_,_,h=>by cases h
 | f+1,l,x,n,hq,h=>by
   simp only[strN] at h
   split at h
   ·rename_i c;cases h;exact hd_pos (by omega)
   ·split at h
    ·cases h
    ·rename_i c1 c2
     have hl:0<l.length:=hd_pos (by omega)
     split at h
     ·rw[Option.map_eq_some_iff] at h
      obtain⟨⟨y,k⟩,h1,h2⟩:=h
      cases h2
      have:=strN_len hq h1
      simp only[List.length_drop] at this
      show k+1≤_
      omega
     ·cases hes:escN (l.drop 1) with
      | none=>rw[hes] at h;cases h
      | some z=>
        obtain⟨b,e⟩:=z
        rw[hes] at h
        simp only at h
        rw[Option.map_eq_some_iff] at h
        obtain⟨⟨y,k⟩,h1,h2⟩:=h
        cases h2
        have h3:=strN_len hq h1
        have h4:=escN_len hes
        simp only[List.length_drop] at h3 h4
        show k+(1+e)≤_
        omega
theorem nWal_app{t u:List UInt8}(h:Nl u):nW isAlN (t++u)=nW isAlN t:=nW_app (by decide) h
theorem tokT_app{t u:List UInt8}(h:Nl u)(ht:0<t.length):tokT (t++u)=tokT t:=by
 have he:hd (t++u)=hd t:=by
  rcases hd_app (t:=t) h with g | ⟨rfl,_⟩
  ·exact g
  ·simp at ht
 unfold tokT
 rw[he,nWal_app h,take_app nW_le,numBad_app h ht,numK_app h,numN_app h,take_app numN_len,symN_app h,drop_app ht]
 by_cases c:hd t=39∨hd t=34
 ·rw[if_pos c,if_pos c,strT_app (by omega) h]
 ·rw[if_neg c,if_neg c]
  cases hs:symN t with
  | none=>rfl
  | some n=>
    simp only[Option.map_some]
    rw[take_app (symN_len hs).1]
theorem tokT_len{l:List UInt8}{k n:Nat}{x:List UInt8}(h:tokT l=some (k,x,n)):0<n∧n≤l.length:=by
 unfold tokT at h
 split at h
 ·rename_i g
  cases h
  have hl:0<l.length:=hd_pos fun e=>by rw[e] at g;cases g
  have:=nW_yes (p:=isAlN) (l:=l) (j:=0) hl (by simp[isAlN,g])
  simp only[List.drop_zero] at this
  exact⟨by omega,nW_le⟩
 ·split at h
  ·rename_i g
   split at h
   ·cases h
   ·cases h
    have hl:0<l.length:=hd_pos fun e=>by rw[e] at g;cases g
    have:=nW_yes (p:=isDigN) (l:=l) (j:=0) hl (by simpa using g)
    simp only[List.drop_zero] at this
    refine⟨?_,numN_len⟩
    unfold numN numA digN
    omega
  ·split at h
   ·rename_i g
    rw[Option.map_eq_some_iff] at h
    obtain⟨⟨y,m⟩,h1,h2⟩:=h
    cases h2
    have hl:0<l.length:=hd_pos (by omega)
    have:=strN_len (by omega) h1
    simp only[List.length_drop] at this
    show 0<m+1∧m+1≤_
    omega
   ·rw[Option.map_eq_some_iff] at h
    obtain⟨m,h1,h2⟩:=h
    cases h2
    have:=symN_len h1
    omega
theorem blkN_app{t u:List UInt8}(h:Nl u):blkN (t++u)=blkN t:=by
 unfold blkN
 rw[nW_app (by decide) h,drop_app nW_le,nW_app (p:=fun n=>decide (n≠10)) (by decide) h]
 have:=p_app (p:=fun n=>decide (n=35)) (t:=t.drop (nW (fun n=>decide (n=32)) t)) h (by decide)
 simp only[decide_eq_decide.1 this]
theorem blkN_len{t:List UInt8}:blkN t≤t.length:=by
 have h1:=nW_le (p:=fun n=>decide (n=32)) (l:=t)
 unfold blkN
 split
 ·have:=nW_le (p:=fun n=>decide (n≠10)) (l:=t.drop (nW (fun n=>decide (n=32)) t))
  simp only[List.length_drop] at this
  omega
 ·exact h1
end Can
end Go.Proofs.YticlaccbodpkeaaGreatDoor
end
section
namespace Go.Proofs.YticlaccbodpkeaaGreatDoor
namespace Can
open Go Go.RowKit
set_option linter.unusedSimpArgs false
set_option linter.unusedVariables false
set_option maxRecDepth 4000
theorem depT_le{d k:Nat}{x:List UInt8}:depT d k x≤d+1:=by
 unfold depT
 (repeat' split)<;>omega
theorem toks_len{line:Nat} : ∀ {f:Nat} {t:List UInt8} {d d':Nat} {x:List Tok},toks line f t d=some (x,d')→x.length≤t.length∧d'≤d+t.length
 | 0,_,_,_,_,h=>by cases h
 | f+1,t,d,d',x,h=>by
   simp only[toks] at h
   split at h
   ·cases h;simp
   ·rename_i hb
    cases ht:tokT (t.drop (blkN t)) with
    | none=>rw[ht] at h;cases h
    | some z=>
      obtain⟨k,y,n⟩:=z
      rw[ht] at h
      simp only at h
      rw[Option.map_eq_some_iff] at h
      obtain⟨⟨xs,e⟩,h1,h2⟩:=h
      cases h2
      obtain⟨g1,g2⟩:=toks_len h1
      have g3:=tokT_len ht
      have g4:= @depT_le d k y
      simp only[List.length_drop] at g1 g2 g3
      simp only[List.length_cons]
      omega
theorem indT_len{line n:Nat}{st:List Nat}:(indT line st n).1.length+(indT line st n).2.length≤st.length+2:=by
 unfold indT
 split
 ·simp;omega
 ·have h1:(st.takeWhile fun x=>decide (n<x)).length+(st.dropWhile fun x=>decide (n<x)).length=st.length:=by
   rw[←List.length_append,List.takeWhile_append_dropWhile]
  simp only[List.length_replicate]
  omega
def RowOut(A K:CH)(p:Nat)(src:List UInt8)(s:RS)(m:Nat)(t:List UInt8)(r:Except Nat (List Tok×Nat×List Nat)):Prop:=match r with
 | .ok (x,d',st')=>∃vo' vt',RdAt A K p src { s with pos:=s.pos+t.length,dep:=d',opn:=st'.reverse,out:=s.out++x } vo' vt' m
 | .error e=>∃vo' vt' s',RdAt A K p src s' vo' vt' m∧s'.err=e∧s'.wh=s.line
structure RwB(s:RS)(t:List UInt8)(j f d:Nat)(ts:List Tok):Prop where
 tk:toks s.line (t.length+1) t s.dep=(toks s.line f (t.drop j) d).map fun y=>(ts++y.1,y.2)
 fu:t.length-j<f
 fl:f≤t.length+1
 jl:j≤t.length
 dl:d≤s.dep+j
 tl:ts.length≤j
def rwS (s:RS)(ins:List Tok)(op1:List Nat)(j d:Nat)(ts:List Tok):RS:= { s with pos:=s.pos+j,dep:=d,opn:=op1,out:=s.out++ins++ts }
theorem RwB.step{s:RS}{t:List UInt8}{j f d:Nat}{ts:List Tok}(h:RwB s t j f d ts)(hlt : ¬(t.drop j).length≤blkN (t.drop j)){k n:Nat}{x:List UInt8}(ht:tokT (t.drop (j+blkN (t.drop j)))=some (k,x,n)) :
 ∃f',f'<f∧RwB s t (j+blkN (t.drop j)+n) f' (depT d k x) (ts++ [⟨k,s.line,x⟩]):=by
 obtain⟨f',rfl⟩ : ∃f',f=f'+1:=⟨f-1,by have:=h.fu;omega⟩
 have g3:=tokT_len ht
 simp only[List.length_drop] at g3 hlt
 have hjl:=h.jl
 have hfu:=h.fu
 have hfl:=h.fl
 have hdl:=h.dl
 have htl:=h.tl
 have hd:= @depT_le d k x
 refine⟨f',Nat.lt_succ_self _,⟨?_,by omega,by omega,by omega,by omega,by simp;omega⟩⟩
 rw[h.tk]
 simp only[toks]
 rw[if_neg (by simp;omega),List.drop_drop,ht]
 simp only[List.drop_drop,←Nat.add_assoc]
 cases toks s.line f' (t.drop (j+blkN (t.drop j)+n)) (depT d k x) with
 | none=>rfl
 | some y=>simp
theorem RwB.bad{s:RS}{t:List UInt8}{j f d:Nat}{ts:List Tok}(h:RwB s t j f d ts)(hlt : ¬(t.drop j).length≤blkN (t.drop j))(ht:tokT (t.drop (j+blkN (t.drop j)))=none):toks s.line (t.length+1) t s.dep=none:=by
 obtain⟨f',rfl⟩ : ∃f',f=f'+1:=⟨f-1,by have:=h.fu;omega⟩
 rw[h.tk]
 simp only[toks]
 rw[if_neg hlt,List.drop_drop,ht]
 rfl
theorem RwB.fin{s:RS}{t:List UInt8}{j f d:Nat}{ts:List Tok}(h:RwB s t j f d ts)(hlt:(t.drop j).length≤blkN (t.drop j)):toks s.line (t.length+1) t s.dep=some (ts,d):=by
 obtain⟨f',rfl⟩ : ∃f',f=f'+1:=⟨f-1,by have:=h.fu;omega⟩
 rw[h.tk]
 simp only[toks]
 rw[if_pos hlt]
 simp
def insT (s:RS)(st:List Nat)(t:List UInt8):List Tok:=if s.dep=0 then (indT s.line st (blkN t)).1 else []
def lopT (s:RS)(st:List Nat)(t:List UInt8):List Nat:=if s.dep=0 then (indT s.line st (blkN t)).2 else st
theorem rw_step{s:RS}{ins:List Tok}{op1:List Nat}{j a n d:Nat}{ts:List Tok}{k:Nat}{x:List UInt8}:putS { atS (rwS s ins op1 (j+a) d ts) n with dep:=depT d k x } k s.line x=rwS s ins op1 (j+a+n) (depT d k x) (ts++ [⟨k,s.line,x⟩]):=by
 simp only[putS,atS,rwS,RS.mk.injEq,List.append_assoc,and_true,true_and]
 omega
def RwI (A:CH)(p:Nat)(src:List UInt8)(s:RS)(m:Nat)(st:List Nat)(t:List UInt8)(n:Nat)(v4:Value)(K1:CH):Prop:=(n=t.length+3∧v4= .bool false∧∃vo vt,RdAt A K1 p src s vo vt m)∨
    (¬t.length≤blkN t∧¬(s.dep=0∧(indT s.line st (blkN t)).2.headD 0≠blkN t)∧v4= .bool true∧
      ((∃j f d ts vo1 vt1,n=f+1∧RwB s t j f d ts∧RdAt A K1 p src (rwS s (insT s st t) (lopT s st t).reverse j d ts) vo1 vt1 m)∨
       (∃s' vo1 vt1,n=0∧toks s.line (t.length+1) t s.dep=none∧RdAt A K1 p src s' vo1 vt1 m∧s'.err=20∧s'.wh=s.line∧s'.out.length+s'.opn.length<400000∧s'.line≤100000)))
theorem rwI_tok{A K:CH}{p:Nat}{src:List UInt8}{s:RS}{m:Nat}{st:List Nat}{t:List UInt8}{j f d:Nat}{ts:List Tok}{vo:Value}(hne : ¬t.length≤blkN t)(hok : ¬(s.dep=0∧(indT s.line st (blkN t)).2.headD 0≠blkN t))(hB:RwB s t j f d ts)(hlt:j+blkN (t.drop j)<t.length)(hln:s.line≤100000)(hsl:src.length≤20000)(hb:s.out.length+s.opn.length<200000)(hins:(insT s st t).length+(lopT s st t).length≤s.opn.length+2)(hjt:t.length≤20000)
 (h:TokOut A K p src (rwS s (insT s st t) (lopT s st t).reverse (j+blkN (t.drop j)) d ts) vo m (tokT (t.drop (j+blkN (t.drop j))))) : ∃n,n<f+1∧RwI A p src s m st t n (.bool true) K:=by
 have hlt' : ¬(t.drop j).length≤blkN (t.drop j):=by simp;omega
 have htl:=hB.tl
 have hjl:=hB.jl
 cases htk:tokT (t.drop (j+blkN (t.drop j))) with
 | none=>
   rw[htk] at h
   obtain⟨vt',s',h1,h2,h3,h4,h5,h6,h7,h8,h9⟩:=h
   refine⟨0,by omega, .inr ⟨hne,hok,rfl, .inr ⟨s',vo,vt',rfl,hB.bad hlt' htk,h1,h2,h3,?_,by rw[h9];exact hln⟩⟩⟩
   rw[h5]
   simp only[rwS,List.length_append,List.length_reverse] at h6⊢
   omega
 | some z=>
   obtain⟨k,x,n⟩:=z
   rw[htk] at h
   obtain⟨vt',h1⟩:=h
   obtain⟨f',hf,hB'⟩:=hB.step hlt' htk
   have h2:RdAt A K p src (rwS s (insT s st t) (lopT s st t).reverse (j+blkN (t.drop j)+n) (depT d k x) (ts++ [⟨k,s.line,x⟩])) vo vt' m:=by
    rw[←rw_step];exact h1
   exact⟨f'+1,by omega, .inr ⟨hne,hok,rfl, .inl ⟨_,f',_,_,vo,vt',rfl,hB',h2⟩⟩⟩
set_option maxHeartbeats 1000000 in
theorem row_wp{A K:CH}{p:Nat}{src:List UInt8}{s:RS}{vo vt:Value}{m:Nat}(h:RdAt A K p src s vo vt m){st:List Nat}(hst:s.opn=st.reverse)(hz:st.getLast? = some 0)(h0:s.err=0){t u:List UInt8}(htu:src.drop s.pos=t++u)(hu:Nl u)(hnt : ∀x∈t,x.toNat≠10)(hps:s.pos≤src.length)(hb:s.out.length+s.opn.length<200000)(hdp:s.dep<50000) :
 WpF (tblG Tryz.prog LG GG) 66 [.pointer (some ⟨p,0,none⟩)] K fun v K'=>RowOut A K' p src s m t (rowT s.line t s.dep st):=by
 have hsl:=h.sl
 have hob:=h.ob
 have hpl:=h.pl
 have hln:=h.bd.line
 have hlen:src.length=s.pos+t.length+u.length:=by
  have:=congrArg List.length htu
  simp at this;omega
 have hdr : ∀q,q≤t.length→src.drop (s.pos+q)=t.drop q++u:=fun q hq=>by rw[←List.drop_drop,htu,drop_app hq]
 have hin : ∀q,q<t.length→∃c,src[s.pos+q]? = some c∧c.toNat≠10:=fun q hq=>by
  refine⟨t[q],?_,hnt _ (List.getElem_mem hq)⟩
  have:=congrArg (·[q]?) htu
  simp only[List.getElem?_drop] at this
  rw[this,List.getElem?_append_left hq,List.getElem?_eq_getElem hq]
 have hout:src.length≤s.pos+t.length∨src[s.pos+t.length]? = some 10:=by
  rcases hu with rfl | ⟨r,rfl⟩
  ·left;simp at hlen;omega
  ·right
   have:=congrArg (·[t.length]?) htu
   simp only[List.getElem?_drop] at this
   rw[this,List.getElem?_append_right (Nat.le_refl _)];simp
 have hil:= @indT_len s.line (blkN t) st
 have hstl:s.opn.length=st.length:=by rw[hst];simp
 have hins:(insT s st t).length+(lopT s st t).length≤st.length+2:=by
  unfold insT lopT
  split
  ·exact hil
  ·simp
 refine wpF_rG (by rfl) (by kernel_rfl) ?_;(conv in (rF _ _).body=>reduce);(conv in (rF _ _).res=>reduce)
 refine rn @hob ?_
 refine loop_w (fun n fr K1=>RwI A p src s m st t n (fr 4) K1) (n:=t.length+3) (.inl ⟨rfl,by repeat' (first | (simp (disch:=first | omega | (decide +kernel)) only[↓putF_get,↓reduceIte]) | (with_reducible first | refine condK_dec (fun _=> ?_) fun _=> ?_ | refine grd_dec (fun _=> ?_) fun _=> ?_ | refine egrd_dec (fun _=> ?_) fun _=> ?_)),vo,vt,h⟩) ?_
 rintro n fr K1 hI hag
 obtain⟨v4,f4⟩ : ∃v,fr 4=v:=⟨_,rfl⟩
 rw[f4] at hI
 rcases hI with ⟨rfl,rfl,vo1,vt1,h1⟩ | ⟨hne,hok,rfl,(⟨j,f,d,ts,vo1,vt1,rfl,hB,h1⟩ | ⟨s',vo1,vt1,rfl,hno,h1,he',hw',hb',hl'⟩)⟩
 ·have hob1:=h1.ob
  have hpl1:=h1.pl
  repeat' (first | (simp (disch:=first | omega | (decide +kernel)) only[↓RD,RU,↓putF_get,↓evF_t,↓evF_c,getD_zero,pop,lop,ρ0,ρ1,↓reduceIte,reduceCtorEq,ρ5,ρ6,hag,hob1,h0]) | (with_reducible first | refine condK_dec (fun _=> ?_) fun _=> ?_ | refine grd_dec (fun _=> ?_) fun _=> ?_ | refine egrd_dec (fun _=> ?_) fun _=> ?_))
  refine(blank_wp h1 (by omega)).mono fun v2 K2 h2=> ?_
  have hd0:=hdr 0 (by omega)
  simp only[Nat.add_zero,List.drop_zero] at hd0
  rw[hd0,blkN_app hu] at h2
  obtain⟨a,ha⟩ : ∃a,blkN t=a:=⟨_,rfl⟩
  have hal:=blkN_len (t:=t)
  rw[ha] at h2 hal
  have hob2:=h2.ob
  have hpl2:=h2.pl
  have hpd2:(atS s a).pos=s.pos+a:=rfl
  have hdd2:(atS s a).dep=s.dep:=rfl
  by_cases hle:t.length≤a
  ·have hae:a=t.length:=by omega
   subst hae
   have hr:rowT s.line t s.dep st= .ok ([],s.dep,st):=by unfold rowT;rw[if_pos (by omega)]
   have hfin:RowOut A K2 p src s m t (rowT s.line t s.dep st):=by
    rw[hr]
    refine⟨vo1,vt1,?_⟩
    rw[←hst,List.append_nil]
    exact h2
   rcases hout with g | g
   ·repeat' (first | (simp (disch:=first | omega | (decide +kernel)) only[↓RD,RU,↓putF_get,↓evF_t,↓evF_c,getD_zero,pop,lop,resL,↓reduceIte,Nat.reduceEqDiff,reduceCtorEq,ρ5,ρ6,ρ28,hag,hob2,hpd2,hdd2,str_size,f4]) | (with_reducible first | refine condK_dec (fun _=> ?_) fun _=> ?_ | refine grd_dec (fun _=> ?_) fun _=> ?_ | refine egrd_dec (fun _=> ?_) fun _=> ?_))
    all_goals exact hfin
   ·repeat' (first | (simp (disch:=first | omega | (decide +kernel)) only[↓RD,RU,↓putF_get,↓evF_t,↓evF_c,getD_zero,pop,lop,resL,ρ4,↓reduceIte,Nat.reduceEqDiff,reduceCtorEq,ρ5,ρ6,ρ28,ρ29,hag,hob2,hpd2,hdd2,str_size,str_get,g,f4]) | (with_reducible first | refine condK_dec (fun _=> ?_) fun _=> ?_ | refine grd_dec (fun _=> ?_) fun _=> ?_ | refine egrd_dec (fun _=> ?_) fun _=> ?_))
    all_goals exact hfin
  ·obtain⟨c,hc,hc10⟩:=hin a (by omega)
   have hle' : ¬t.length≤blkN t:=by rw[ha];exact hle
   have hB0:RwB s t 0 (t.length+1) s.dep []:=⟨by
    simp only[List.drop_zero,List.nil_append]
    cases toks s.line (t.length+1) t s.dep<;>rfl,by omega,by omega,by omega,by omega,by simp⟩
   have hb0:blkN (t.drop 0)=a:=by simpa using ha
   have hsubp:((s.pos+a:Nat):Int)-(s.pos:Int)=(a:Int):=by omega
   by_cases hdz:s.dep=0
   ·refine rn (an @hag (an @hob2 (an @hpd2 (an @str_size (an @str_get (an @hc (an @hc10 (an @f4 @hsubp)))))))) ?_
    refine(indent_wp (s:=atS s a) h2 (st:=st) hst hz a (by omega) h0 (by show s.out.length+s.opn.length<_;omega)).mono fun v3 K3 ⟨vo3,vt3,h3⟩=> ?_
    have hei:insT s st t=(indT s.line st a).1:=by unfold insT;rw[if_pos hdz,ha]
    have heo:lopT s st t=(indT s.line st a).2:=by unfold lopT;rw[if_pos hdz,ha]
    by_cases hhead:(indT s.line st a).2.headD 0=a
    ·have e:indS (atS s a) st a=rwS s (insT s st t) (lopT s st t).reverse a s.dep []:=by
      unfold indS
      rw[if_pos (show(indT (atS s a).line st a).2.headD 0=a from hhead),hei,heo]
      simp[rwS,atS]
     rw[e] at h3
     have hob3:=h3.ob
     have hpl3:=h3.pl
     have he3:(rwS s (insT s st t) (lopT s st t).reverse a s.dep []).err=0:=h0
     refine rn (an @hag (an @hob3 @he3)) ?_
     refine(token_wp h3 (by show s.pos+a<_;omega) h0 (by simp only[rwS,List.length_append,List.length_reverse,List.length_nil];omega) (by show s.dep<100000;omega)).mono fun v5 K5 h5=> ?_
     have hdt:src.drop (rwS s (insT s st t) (lopT s st t).reverse a s.dep []).pos=t.drop (a)++u:=hdr _ (by omega)
     rw[hdt,tokT_app hu (by simp;omega)] at h5
     refine rn0 ?_
     all_goals
      have hq:=rwI_tok (A:=A) (K:=K5) (p:=p) (src:=src) (m:=m) (st:=st) (vo:=vo3) hle' (fun g=>g.2 (by rw[ha];exact hhead)) hB0 (by rw[hb0];omega) hln hsl hb (by omega) (by omega) (by rw[show 0+blkN (t.drop 0)=a by omega];exact h5)
      obtain⟨q,hq1,hq2⟩:=hq
      exact⟨q,by omega,hq2⟩
    ·have e:indS (atS s a) st a= { atS s a with out:=s.out++(indT s.line st a).1,opn:=(indT s.line st a).2.reverse,err:=21,wh:=s.line }:=by
      unfold indS
      rw[if_neg (show ¬(indT (atS s a).line st a).2.headD 0=a from hhead)]
      rfl
     rw[e] at h3
     have hob3:=h3.ob
     have hpl3:=h3.pl
     have hr:rowT s.line t s.dep st= .error 21:=by
      unfold rowT
      rw[if_neg hle',if_pos ⟨hdz,by rw[ha];exact hhead⟩]
     rw[hr]
     refine rn (an @hag @hob3) ?_
     all_goals exact⟨vo3,vt3,_,h3,rfl,rfl⟩
   ·have e:atS s a=rwS s (insT s st t) (lopT s st t).reverse a s.dep []:=by
     unfold insT lopT
     rw[if_neg hdz,if_neg hdz,←hst]
     simp[rwS,atS]
    rw[e] at h2
    refine rn (an @hag (an @hob2 (an @hpd2 (an @str_size (an @str_get (an @hc (an @hc10 @f4))))))) ?_
    refine(token_wp h2 (by show s.pos+a<_;omega) h0 (by simp only[rwS,List.length_append,List.length_reverse,List.length_nil];omega) (by show s.dep<100000;omega)).mono fun v5 K5 h5=> ?_
    have hdt:src.drop (rwS s (insT s st t) (lopT s st t).reverse a s.dep []).pos=t.drop (a)++u:=hdr _ (by omega)
    rw[hdt,tokT_app hu (by simp;omega)] at h5
    refine rn0 ?_
    all_goals
     have hq:=rwI_tok (A:=A) (K:=K5) (p:=p) (src:=src) (m:=m) (st:=st) (vo:=vo1) hle' (fun g=>hdz g.1) hB0 (by rw[hb0];omega) hln hsl hb (by omega) (by omega) (by rw[show 0+blkN (t.drop 0)=a by omega];exact h5)
     obtain⟨q,hq1,hq2⟩:=hq
     exact⟨q,by omega,hq2⟩
 ·have hob1:=h1.ob
  have hpl1:=h1.pl
  have he1:(rwS s (insT s st t) (lopT s st t).reverse j d ts).err=0:=h0
  have hjl:=hB.jl
  have hdl:=hB.dl
  have htl:=hB.tl
  refine rn (an @hag (an @hob1 @he1)) ?_
  refine(blank_wp h1 (by show s.pos+j≤_;omega)).mono fun v2 K2 h2=> ?_
  have hd0:src.drop (rwS s (insT s st t) (lopT s st t).reverse j d ts).pos=t.drop j++u:=hdr j hjl
  rw[hd0,blkN_app hu] at h2
  obtain⟨a,ha⟩ : ∃a,blkN (t.drop j)=a:=⟨_,rfl⟩
  have hal:=blkN_len (t:=t.drop j)
  simp only[List.length_drop] at hal
  rw[ha] at h2 hal
  have e:atS (rwS s (insT s st t) (lopT s st t).reverse j d ts) a=rwS s (insT s st t) (lopT s st t).reverse (j+a) d ts:=by
   simp only[atS,rwS,RS.mk.injEq,and_true,true_and];omega
  rw[e] at h2
  have hob2:=h2.ob
  have hpl2:=h2.pl
  have hpd2:(rwS s (insT s st t) (lopT s st t).reverse (j+a) d ts).pos=s.pos+(j+a):=rfl
  have hdd2:(rwS s (insT s st t) (lopT s st t).reverse (j+a) d ts).dep=d:=rfl
  have hll2:(rwS s (insT s st t) (lopT s st t).reverse (j+a) d ts).line=s.line:=rfl
  by_cases hle:t.length≤j+a
  ·have hae:j+a=t.length:=by omega
   have htoks:=hB.fin (by rw[ha];simp;omega)
   have hr:rowT s.line t s.dep st= .ok (insT s st t++ts++(if d=0 then [⟨1,s.line,[]⟩] else []),d,lopT s st t):=by
    unfold rowT
    rw[if_neg hne,if_neg hok,htoks]
    rfl
   rw[hr]
   rw[hae] at h2 hob2 hpd2 hdd2 hll2
   by_cases hdz:d=0
   ·have hfin : ∀K3 vt3,RdAt A K3 p src (putS (rwS s (insT s st t) (lopT s st t).reverse t.length d ts) 1 s.line []) vo1 vt3 m→RowOut A K3 p src s m t (.ok (insT s st t++ts++ [⟨1,s.line,[]⟩],d,lopT s st t)):=fun K3 vt3 g=>by
     refine⟨vo1,vt3,?_⟩
     have:(putS (rwS s (insT s st t) (lopT s st t).reverse t.length d ts) 1 s.line [])= { s with pos:=s.pos+t.length,dep:=d,opn:=(lopT s st t).reverse,out:=s.out++(insT s st t++ts++ [⟨1,s.line,[]⟩]) }:=by simp[putS,rwS]
     rw[←this];exact g
    rw[if_pos hdz]
    rcases hout with g | g
    ·refine rn (an @hag (an @hob2 (an @hpd2 (an @hdd2 (an @hll2 (an @str_size @f4)))))) ?_
     all_goals
      refine(put_wp h2 1 s.line [] (by simp only[rwS,List.length_append,List.length_reverse,List.length_nil];omega)).mono fun v5 K5 ⟨vt5,h5⟩=> ?_
      repeat' (first | (simp (disch:=first | omega | (decide +kernel)) only[↓RD,RU,resL]) | (with_reducible first | refine condK_dec (fun _=> ?_) fun _=> ?_ | refine grd_dec (fun _=> ?_) fun _=> ?_ | refine egrd_dec (fun _=> ?_) fun _=> ?_))
      all_goals exact hfin _ _ h5
    ·repeat' (first | (simp (disch:=first | omega | (decide +kernel)) only[↓RD,RU,↓putF_get,↓evF_t,↓evF_c,getD_zero,pop,lop,ρ0,ρ1,ρ4,↓reduceIte,Nat.reduceEqDiff,reduceCtorEq,ρ5,ρ6,ρ28,ρ29,hag,hob2,hpd2,hdd2,hll2,str_size,str_get,g,f4]) | (with_reducible first | refine condK_dec (fun _=> ?_) fun _=> ?_ | refine grd_dec (fun _=> ?_) fun _=> ?_ | refine egrd_dec (fun _=> ?_) fun _=> ?_))
     all_goals
      refine(put_wp h2 1 s.line [] (by simp only[rwS,List.length_append,List.length_reverse,List.length_nil];omega)).mono fun v5 K5 ⟨vt5,h5⟩=> ?_
      refine rn0 ?_
      all_goals exact hfin _ _ h5
   ·rw[if_neg hdz,List.append_nil]
    have hfin:RowOut A K2 p src s m t (.ok (insT s st t++ts,d,lopT s st t)):=by
     refine⟨vo1,vt1,?_⟩
     rw[←List.append_assoc]
     exact h2
    rcases hout with g | g
    ·repeat' (first | (simp (disch:=first | omega | (decide +kernel)) only[↓RD,RU,↓putF_get,↓evF_t,↓evF_c,getD_zero,pop,lop,resL,↓reduceIte,Nat.reduceEqDiff,reduceCtorEq,ρ5,ρ6,ρ28,hag,hob2,hpd2,hdd2,str_size]) | (with_reducible first | refine condK_dec (fun _=> ?_) fun _=> ?_ | refine grd_dec (fun _=> ?_) fun _=> ?_ | refine egrd_dec (fun _=> ?_) fun _=> ?_))
     all_goals exact hfin
    ·repeat' (first | (simp (disch:=first | omega | (decide +kernel)) only[↓RD,RU,↓putF_get,↓evF_t,↓evF_c,getD_zero,pop,lop,resL,ρ4,↓reduceIte,Nat.reduceEqDiff,reduceCtorEq,ρ5,ρ6,ρ28,ρ29,hag,hob2,hpd2,hdd2,str_size,str_get,g]) | (with_reducible first | refine condK_dec (fun _=> ?_) fun _=> ?_ | refine grd_dec (fun _=> ?_) fun _=> ?_ | refine egrd_dec (fun _=> ?_) fun _=> ?_))
     all_goals exact hfin
  ·obtain⟨c,hc,hc10⟩:=hin (j+a) (by omega)
   refine rn (an @hag (an @hob2 (an @hpd2 (an @str_size (an @str_get (an @hc (an @hc10 @f4))))))) ?_
   refine(token_wp h2 (by show s.pos+(j+a)<_;omega) h0 (by simp only[rwS,List.length_append,List.length_reverse,List.length_nil];omega) (by show d<100000;omega)).mono fun v5 K5 h5=> ?_
   have hdt:src.drop (rwS s (insT s st t) (lopT s st t).reverse (j+a) d ts).pos=t.drop (j+a)++u:=hdr _ (by omega)
   rw[hdt,tokT_app hu (by simp;omega)] at h5
   refine rn0 ?_
   all_goals
    have hq:=rwI_tok (A:=A) (K:=K5) (p:=p) (src:=src) (m:=m) (st:=st) (vo:=vo1) hne hok hB (by rw[ha];omega) hln hsl hb (by omega) (by omega) (by rw[ha];exact h5)
    obtain⟨q,hq1,hq2⟩:=hq
    exact⟨q,by omega,hq2⟩
 ·have hob1:=h1.ob
  have hpl1:=h1.pl
  have hr:rowT s.line t s.dep st= .error 20:=by
   unfold rowT
   rw[if_neg hne,if_neg hok,hno]
  rw[hr]
  by_cases hdz:s'.dep=0
  ·refine rn (an @hag (an @hob1 (an @he' @f4))) ?_
   all_goals
    refine(put_wp h1 1 s'.line [] (by omega)).mono fun v5 K5 ⟨vt5,h5⟩=> ?_
    refine rn0 ?_
    all_goals exact⟨vo1,vt5,_,h5,he',hw'⟩
  ·refine rn (an @hag (an @hob1 (an @he' @f4))) ?_
   all_goals exact⟨vo1,vt1,_,h1,he',hw'⟩
end Can
end Go.Proofs.YticlaccbodpkeaaGreatDoor
end
section
namespace Go.Proofs.YticlaccbodpkeaaGreatDoor
namespace Can
open Go Go.RowKit
set_option linter.unusedSimpArgs false
set_option linter.unusedVariables false
set_option maxRecDepth 4000
def wE (ws:List (List UInt8)):Array MapEntry:=((ws.zipIdx).map fun x=>({ key:= .string (str x.1),val:= .int .i64 1,born:=x.2 }:MapEntry)).toArray
theorem mup_w{l n:Nat}{k:List UInt8}{ws:List (List UInt8)}{H:CH}(h1:n=ws.length)(h2:ws.contains k=false):mupV 1 l (.string ⟨⟨k⟩⟩) (.int .i64 1) H (.map (wE ws) n)=some (undef,H.set l (.map (wE (ws++ [k])) (n+1))):=by
 subst h1
 have hk:k∉ws:=by simpa using h2
 have hf:findK 1 (.string (str k)) (wE ws).toList 0=some none:=(findK_words (x:=k) (ws:=ws) (n:=0) (i:=0)).2 hk
 have hp:(wE ws).push { key:= .string (str k),val:= .int .i64 1,born:=ws.length }=wE (ws++ [k]):=by
  apply Array.ext'
  simp[wE,List.zipIdx_append]
 simp only[mupV,isKey,isVal,and_self,if_true]
 rw[show(Value.string ⟨⟨k⟩⟩)= .string (str k) from rfl,hf,←hp]
theorem mup_0{l:Nat}{k:List UInt8}{H:CH}:mupV 1 l (.string ⟨⟨k⟩⟩) (.int .i64 1) H (.map #[] 0)=some (undef,H.set l (.map (wE [k]) 1)):=mup_w (ws:= []) rfl rfl
set_option maxHeartbeats 2000000 in
theorem words_wp(H:CH):WpF (tblG Tryz.prog LG GG) 65 [] H fun v K=>v= .map (some H.nx)∧K.ob H.nx= .map wordsM 31∧K.nx=H.nx+1∧∀l,l<H.nx→K.ob l=H.ob l:=by
 refine wpF_rG (by rfl) (by kernel_rfl) ?_;(conv in (rF _ _).body=>reduce);(conv in (rF _ _).res=>reduce)
 repeat' (first | (simp (disch:=first | omega | (decide +kernel)) only[↓r_seq,↓seqK_n,↓funK_r,↓r_reg,↓i_cons,↓itemK,↓o_p,↓o_w,↓putF_get,↓putF_none,↓evF_t,↓evF_c,new_nx,set_nx,new_get,set_get,optV_some,optW_some,finK_some,↓wpI_nil,↓wpR_ret,pop,wop,resL,resV,tupleV,↓reduceIte,Nat.reduceAdd,Int.reduceOfNat,List.cons_append,List.nil_append,if_neg,true_and,mup_0,mup_w,CH.set_set]) | (with_reducible first | refine condK_dec (fun _=> ?_) fun _=> ?_ | refine grd_dec (fun _=> ?_) fun _=> ?_ | refine egrd_dec (fun _=> ?_) fun _=> ?_))
 exact⟨rfl,fun l hl=>by rw[if_neg (by omega)]⟩
end Can
end Go.Proofs.YticlaccbodpkeaaGreatDoor
end
section
namespace Go.Proofs.YticlaccbodpkeaaGreatDoor
namespace Can
open Go Go.RowKit
set_option linter.unusedSimpArgs false
set_option linter.unusedVariables false
theorem splitN_ne : ∀ {l:List UInt8},splitN l≠ []
 | []=>by simp[splitN]
 | c::r=>by
   simp only[splitN]
   split
   ·simp
   ·split<;>simp
theorem splitN_row{u:List UInt8}(hu:Nl u) : ∀ {t:List UInt8},(∀x∈t,x.toNat≠10)→splitN (t++u)=t::(match u with | []=> [] | _::r=>splitN r)
 | [],_=>by
   rcases hu with rfl | ⟨r,rfl⟩
   ·rfl
   ·simp only[List.nil_append,splitN]
    rw[if_pos (by decide)]
 | c::t,h=>by
   simp only[List.cons_append,splitN]
   rw[if_neg (h c (by simp)),splitN_row hu (fun x hx=>h x (by simp[hx]))]
def rowN (l:List UInt8):List UInt8:=l.takeWhile fun x=>decide (x.toNat≠10)
def rowU (l:List UInt8):List UInt8:=l.dropWhile fun x=>decide (x.toNat≠10)
theorem rowN_app{l:List UInt8}:l=rowN l++rowU l:=(List.takeWhile_append_dropWhile).symm
theorem rowN_no : ∀ {l:List UInt8},∀x∈rowN l,x.toNat≠10
 | [],x,h=>by cases h
 | c::r,x,h=>by
   unfold rowN at h
   rw[List.takeWhile_cons] at h
   split at h
   ·rename_i hc
    rcases List.mem_cons.1 h with rfl | h
    ·simpa using hc
    ·exact rowN_no x h
   ·cases h
theorem rowU_nl : ∀ {l:List UInt8},Nl (rowU l)
 | []=> .inl rfl
 | c::r=>by
   unfold rowU
   rw[List.dropWhile_cons]
   split
   ·exact rowU_nl
   ·rename_i hc
    refine .inr ⟨r,?_⟩
    have:c.toNat=10:=by simpa using hc
    rw[show c=10 from UInt8.toNat_inj.1 this]
theorem last_drop{p:Nat→Bool}{a:Nat}(hp:p a=false) : ∀ {l:List Nat},l.getLast? = some a→(l.dropWhile p).getLast? = some a
 | [],h=>by cases h
 | [b],h=>by
   simp at h;subst h
   simp[List.dropWhile_cons,hp]
 | b::c::l,h=>by
   rw[List.dropWhile_cons]
   split
   ·exact last_drop hp (by simpa[List.getLast?_cons_cons] using h)
   ·exact h
theorem indT_last{line n:Nat}{st:List Nat}(h:st.getLast? = some 0):(indT line st n).2.getLast? = some 0:=by
 unfold indT
 split
 ·cases st with
  | nil=>cases h
  | cons a st=>simpa[List.getLast?_cons_cons] using h
 ·exact last_drop (by simp) h
theorem rowT_ok{line d d':Nat}{t:List UInt8}{st st':List Nat}{x:List Tok}(h:rowT line t d st= .ok (x,d',st'))(hz:st.getLast? = some 0):x.length+st'.length≤st.length+t.length+3∧d'≤d+t.length∧st'.getLast? = some 0:=by
 unfold rowT at h
 split at h
 ·cases h;refine⟨by simp;omega,by omega,hz⟩
 ·split at h
  ·cases h
  ·split at h
   ·cases h
   ·rename_i ts d1 ht
    obtain⟨g1,g2⟩:=toks_len ht
    have g3:= @indT_len line (blkN t) st
    cases h
    refine⟨?_,g2,?_⟩
    ·simp only[List.length_append]
     split<;>split<;>simp only[List.length_nil,List.length_cons]<;>omega
    ·split
     ·exact indT_last hz
     ·exact hz
def mp2 (o:List Tok):Except (Nat×Nat) (List Tok×List Nat)→Except (Nat×Nat) (List Tok×List Nat)
 | .ok y=> .ok (o++y.1,y.2)
 | .error e=> .error e
theorem mp2_mp2{a b:List Tok}{r:Except (Nat×Nat) (List Tok×List Nat)}:mp2 a (mp2 b r)=mp2 (a++b) r:=by
 cases r<;>simp[mp2]
theorem rowsT_cons{line d:Nat}{t:List UInt8}{ts:List (List UInt8)}{st:List Nat}:rowsT line (t::ts) d st=match rowT line t d st with | .error e=> .error (line,e) | .ok (x,d',st')=>mp2 x (rowsT (line+1) ts d' st'):=by
 simp only[rowsT]
 cases rowT line t d st with
 | error e=>rfl
 | ok y=>
   obtain⟨x,d',st'⟩:=y
   simp only
   cases rowsT (line+1) ts d' st'<;>rfl
structure LxI(src:List UInt8)(s:RS)(st:List Nat):Prop where
 op:s.opn=st.reverse
 z:st.getLast? = some 0
 e:s.err=0
 pl:s.pos≤src.length
 bo:s.out.length+s.opn.length≤s.pos+3*s.line+1
 bd:s.dep≤s.pos
 bl:s.line≤s.pos+1
 rows:rowsT 1 (splitN src) 0 [0]=mp2 s.out (rowsT s.line (splitN (src.drop s.pos)) s.dep st)
 cnt:(splitN src).length+1=s.line+(splitN (src.drop s.pos)).length
theorem LxI.init{src:List UInt8}:LxI src ⟨0,1,0,[0],[],0,0⟩ [0]:=by
 refine⟨rfl,rfl,rfl,by simp,by simp,by simp,by simp,?_,by simp[Nat.add_comm]⟩
 simp only[List.drop_zero]
 cases rowsT 1 (splitN src) 0 [0]<;>rfl
theorem LxI.row{src:List UInt8}{s:RS}{st:List Nat}(h:LxI src s st) : ∃t u,src.drop s.pos=t++u∧Nl u∧(∀x∈t,x.toNat≠10)∧src.length=s.pos+t.length+u.length:=
 ⟨rowN (src.drop s.pos),rowU (src.drop s.pos),rowN_app,rowU_nl,rowN_no,by
   have h1:=congrArg List.length (rowN_app (l:=src.drop s.pos))
   have h2:=h.pl
   simp only[List.length_drop,List.length_append] at h1
   omega⟩
theorem LxI.err{src:List UInt8}{s:RS}{st:List Nat}(h:LxI src s st)(hl:src.length≤20000){t u:List UInt8}(htu:src.drop s.pos=t++u)(hu:Nl u)(hn : ∀x∈t,x.toNat≠10){e:Nat}(hr:rowT s.line t s.dep st= .error e):lexT src= .error (s.line,e):=by
 unfold lexT
 rw[if_neg (by omega),h.rows,htu,splitN_row hu hn,rowsT_cons,hr]
 rfl
theorem LxI.fin{src:List UInt8}{s:RS}{st:List Nat}(h:LxI src s st)(hl:src.length≤20000){t:List UInt8}(htu:src.drop s.pos=t++ [])(hn : ∀x∈t,x.toNat≠10){x:List Tok}{d':Nat}{st':List Nat}(hr:rowT s.line t s.dep st= .ok (x,d',st')):lexT src= .ok (s.out++x++endT s.line st'):=by
 have hc:=h.cnt
 rw[htu,splitN_row (.inl rfl) hn] at hc
 simp only[List.length_cons,List.length_nil] at hc
 unfold lexT
 rw[if_neg (by omega),h.rows,htu,splitN_row (.inl rfl) hn,rowsT_cons,hr,show(splitN src).length=s.line by omega]
 simp[rowsT,mp2]
theorem LxI.step{src:List UInt8}{s:RS}{st:List Nat}(h:LxI src s st){t r:List UInt8}(htu:src.drop s.pos=t++10::r)(hn : ∀x∈t,x.toNat≠10)(hlen:src.length=s.pos+t.length+(r.length+1)){x:List Tok}{d':Nat}{st':List Nat}(hr:rowT s.line t s.dep st= .ok (x,d',st')) :
 LxI src { s with pos:=s.pos+t.length+1,line:=s.line+1,dep:=d',opn:=st'.reverse,out:=s.out++x } st':=by
 obtain⟨g1,g2,g3⟩:=rowT_ok hr h.z
 have hop:=congrArg List.length h.op
 have hbo:=h.bo
 have hbd:=h.bd
 have hbl:=h.bl
 have hc:=h.cnt
 have hd:src.drop (s.pos+t.length+1)=r:=by
  rw[Nat.add_assoc,←List.drop_drop,htu]
  simp
 simp only[List.length_reverse] at hop
 rw[htu,splitN_row (.inr ⟨r,rfl⟩) hn] at hc
 simp only[List.length_cons] at hc
 refine⟨rfl,g3,h.e,by show s.pos+t.length+1≤_;omega,by simp only[List.length_append,List.length_reverse];omega,by show d'≤s.pos+t.length+1;omega,by show s.line+1≤s.pos+t.length+1+1;omega,?_,?_⟩
 ·show _=mp2 (s.out++x) (rowsT (s.line+1) (splitN (src.drop (s.pos+t.length+1))) d' st')
  rw[hd,h.rows,htu,splitN_row (.inr ⟨r,rfl⟩) hn,rowsT_cons,hr,←mp2_mp2]
 ·show _=s.line+1+(splitN (src.drop (s.pos+t.length+1))).length
  rw[hd];omega
def u8i (src:List UInt8):List Int:=src.map fun c=>(c.toNat:Int)
def b2sV (H:CH):Value→Option Value
 | .slice none 0 0=>some (.string .empty)
 | .slice (some ⟨l,o,none⟩) n _=>match H.ob l with
   | .cells cs _ _=>if o+n≤cs.length then (byteList ((cs.drop o).take n)).map fun bs=> .string ⟨bs.toArray⟩ else none
   | _=>none
 | .slice (some ⟨_,_,some _⟩) 0 _=>some (.string .empty)
 | _=>none
theorem lop_b2s{H:CH}{ev:Operand→Value}{x:Operand}:lop H ev (.b2s x)=b2sV H (ev x):=rfl
theorem byteList_ints : ∀ {src:List UInt8},byteList (src.map fun c=>Value.int .u8 (c.toNat:Int))=some src
 | []=>rfl
 | c::r=>by
   rw[List.map_cons]
   simp only[byteList]
   rw[byteList_ints]
   simp
theorem b2s_ok{H:CH}{q:Option Addr}{c:Nat}{src:List UInt8}(h:SlAt 1 (CInt .u8) H q c (u8i src)):b2sV H (.slice q src.length c)=some (.string (str src)):=by
 rcases h with ⟨h,rfl,rfl | rfl | rfl⟩ | ⟨l,o,os,e,kd,rfl,hl,hc,hm,hob,hol,hR⟩
 ·have:src= []:=by simpa[u8i] using h
  subst this;rfl
 ·have:src= []:=by simpa[u8i] using h
  subst this;rfl
 ·have:src= []:=by simpa[u8i] using h
  subst this;rfl
 ·simp only[u8i,List.length_map,Nat.mul_one] at hol hR
  simp only[b2sV,hob]
  rw[if_pos hol]
  have:(os.drop o).take src.length=src.map fun c=>Value.int .u8 (c.toNat:Int):=by
   apply List.ext_getElem
   ·simp;omega
   ·intro i h1 h2
    have h3:=(hR i (by simpa using h2)).1
    simp only[List.length_map] at h2
    have h7:((os.drop (o+i)).take 1)[0]? = some (.int .u8 (src[i].toNat:Int)):=by rw[h3];simp
    rw[List.getElem?_take_of_lt (by omega),List.getElem?_drop,Nat.add_zero] at h7
    simp only[List.getElem_take,List.getElem_drop,List.getElem_map]
    exact(List.getElem?_eq_some_iff.1 h7).2
  rw[this,byteList_ints]
  rfl
end Can
end Go.Proofs.YticlaccbodpkeaaGreatDoor
end
section
namespace Go.Proofs.YticlaccbodpkeaaGreatDoor
namespace Can
open Go Go.RowKit
set_option linter.unusedSimpArgs false
set_option linter.unusedVariables false
set_option maxRecDepth 4000
def LexOut(H K:CH)(v:Value):Except (Nat×Nat) (List Tok)→Prop
 | .ok ts=>∃vt,v= .tuple #[vt, .int .i64 0, .int .i64 0]∧Grw H 85 3 tokC K vt ts
 | .error y=>v= .tuple #[.slice none 0 0, .int .i64 y.1, .int .i64 y.2]
theorem rowT_err{line d e:Nat}{t:List UInt8}{st:List Nat}(h:rowT line t d st= .error e):e=20∨e=21:=by
 unfold rowT at h
 split at h
 ·cases h
 ·split at h
  ·cases h;exact .inr rfl
  ·split at h
   ·cases h;exact .inl rfl
   ·cases h
def LxJ (H:CH)(p:Nat)(src:List UInt8)(m n:Nat)(K:CH):Prop:=∃s st vo vt,n=src.length+1-s.pos∧LxI src s st∧RdAt H K p src s vo vt m
def LxE (H:CH)(p:Nat)(src:List UInt8)(m k:Nat)(s:RS)(vo:Value)(n:Nat)(v:Value)(K:CH):Prop:=∃i vt,n=k-i∧i≤k∧v= .int .i64 (i:Nat)∧RdAt H K p src { s with out:=s.out++List.replicate i ⟨3,s.line,[]⟩ } vo vt m
set_option maxHeartbeats 2000000 in
theorem lex_wp(H:CH){q:Option Addr}{c:Nat}{src:List UInt8}(h:SlAt 1 (CInt .u8) H q c (u8i src)) :
 WpF (tblG Tryz.prog LG GG) 37 [.slice q src.length c] H fun v K=>HExt H K∧LexOut H K v (lexT src):=by
 refine wpF_rG (by rfl) (by kernel_rfl) ?_;(conv in (rF _ _).body=>reduce);(conv in (rF _ _).res=>reduce)
 by_cases hl:20000<src.length
 ·have e:lexT src= .error (0,24):=by unfold lexT;rw[if_pos hl]
  rw[e]
  refine rn0 ?_
  all_goals exact⟨HExt.refl _,rfl⟩
 ·have hb:=b2s_ok h
  repeat' (first | (simp (disch:=first | omega | (decide +kernel)) only[↓r_seq,↓seqK_n,↓r_reg,↓r_cond,↓condK_f,↓i_cons,↓e_cons,↓r_drw2,isW,↓itemK,↓o_p,↓o_call,↓putF_get,↓evF_t,↓evF_c,optV_some,↓wpI_nil,↓wpR_skip,getD_zero,b_gtr,pop,List.map_nil,↓reduceIte,Int.reduceOfNat,reduceCtorEq,dec_f]) | (with_reducible first | refine condK_dec (fun _=> ?_) fun _=> ?_ | refine grd_dec (fun _=> ?_) fun _=> ?_ | refine egrd_dec (fun _=> ?_) fun _=> ?_))
  refine(words_wp H).mono fun v1 K1 ⟨hv1,hw1,hn1,hk1⟩=> ?_
  subst hv1
  have hx:HExt H K1:=⟨by omega,hk1⟩
  have hb1:=b2s_ok (SlAt.good (CInt.good _) hx h)
  repeat' (first | (simp (disch:=first | omega | (decide +kernel)) only[↓r_seq,↓r_block,↓seqK_n,↓eitemK,↓e_nil,↓e_cons,↓drwK,↓chk_nil,↓chk_n,agL,agE,accW_t,accW_f,isW,↓o_p,↓o_l,↓o_a,↓putF_get,↓evF_t,↓evF_c,new_nx,optV_some,optA_some,getD_zero,pop,aop,akV,isVal,Value.cells,List.map_cons,List.map_nil,Option.map_some,↓reduceIte,Nat.reduceEqDiff,Nat.reduceAdd,reduceCtorEq,List.getElem?_cons_zero,List.getElem?_cons_succ,List.length_cons,List.length_nil,setc_0,setc_s,List.drop_succ_cons,List.drop_zero,List.cons_append,List.nil_append,List.append_nil,List.drop_nil,List.size_toArray,List.toList_toArray,bldV,Nat.reduceLeDiff,Nat.le_refl,zeros_one,Nat.mul_one,Nat.zero_add,and_true,lop_b2s,hb,hb1]) | (with_reducible first | refine condK_dec (fun _=> ?_) fun _=> ?_ | refine grd_dec (fun _=> ?_) fun _=> ?_ | refine egrd_dec (fun _=> ?_) fun _=> ?_))
  obtain⟨p,hp⟩ : ∃p,K1.nx+1=p:=⟨_,rfl⟩
  refine loop_w (fun n fr K1=>LxJ H p src H.nx n K1) (n:=src.length+1) ?_ ?_
  ·refine⟨⟨0,1,0,[0],[],0,0⟩,[0], .slice (some ⟨K1.nx,0,none⟩) 1 1, .slice none 0 0,rfl,LxI.init,?_⟩
   have e1 : ¬K1.nx=p:=by omega
   have e2 : ¬H.nx=p:=by omega
   have e3 : ¬H.nx=K1.nx:=by omega
   refine⟨by simp only[new_get,new_nx,hp,if_pos];rfl,by simp only[new_nx];omega,by omega,⟨K1.nx, .ex,1,[.int .i64 0],rfl,by omega,by simp only[new_nx];omega,by simp only[new_get,new_nx,hp,if_neg e1,if_pos],rfl,by decide,by decide,by decide,fun i hi=> ?_⟩, .inl ⟨rfl,rfl⟩,by simp only[new_get,new_nx,hp,if_neg e2,if_neg e3];exact hw1,by simp only[new_nx];omega,by omega,(hx.new _).new _,⟨by decide,by decide,by decide,by decide,by decide,by decide⟩,by omega⟩
   have:i=0:=by simpa using hi
   subst this;rfl
  rintro n fr K2 ⟨⟨pos,line,dep,opn,out,err,wh⟩,st,vo,vt,rfl,hI,h2⟩ hag
  obtain rfl:err=0:=hI.e
  obtain⟨t,u,htu,hu,hnt,hlen⟩:=hI.row
  have hbo:out.length+opn.length≤pos+3*line+1:=hI.bo
  have hbd:dep≤pos:=hI.bd
  have hbl:line≤pos+1:=hI.bl
  have hpl:pos≤src.length:=hI.pl
  have hlen:src.length=pos+t.length+u.length:=hlen
  have hop:=congrArg List.length hI.op
  have hwh:wh≤100000:=h2.bd.wh
  simp only[List.length_reverse] at hop
  refine rn (an @hag @hp) ?_
  refine(row_wp h2 hI.op hI.z rfl htu hu hnt hpl (by show out.length+opn.length<_;omega) (by show dep<_;omega)).mono fun v3 K3 h3=> ?_
  cases hr:rowT line t dep st with
  | error e=>
    have hf:=hI.err (by omega) htu hu hnt hr
    have he:=rowT_err hr
    simp only[hr] at h3
    obtain⟨vo',vt',s',h4,h5,h6⟩:=h3
    have h6:s'.wh=line:=h6
    rw[hf]
    have hob4:=h4.ob
    have hpl4:=h4.pl
    refine rn (an @hag (an @hp (an @hob4 (an @h5 @h6)))) ?_
    all_goals exact⟨h4.E,rfl⟩
  | ok y=>
    obtain⟨x,d',st'⟩:=y
    simp only[hr] at h3
    obtain⟨vo',vt',h4⟩:=h3
    have h4:RdAt H K3 p src ⟨pos+t.length,line,d',st'.reverse,out++x,0,wh⟩ vo' vt' H.nx:=h4
    have hob4:=h4.ob
    have hpl4:=h4.pl
    obtain⟨g1,g2,g3⟩:=rowT_ok hr hI.z
    rcases hu with rfl | ⟨r,rfl⟩
    ·have hf:lexT src= .ok (out++x++endT line st'):=hI.fin (by omega) htu hnt hr
     rw[hf]
     have hlen:src.length=pos+t.length:=hlen
     obtain⟨b,kd,cc,os,rfl,o2⟩:=h4.opn
     have hst:0<st'.length:=by
      cases st' with
      | nil=>cases g3
      | cons a l=>simp
     repeat' (first | (simp (disch:=first | omega | (decide +kernel)) only[↓RD,RU,↓putF_get,↓evF_t,↓evF_c,pop,lop,↓reduceIte,Nat.reduceEqDiff,reduceCtorEq,ρ5,ρ6,ρ28,hag,hp,hob4,str_size,List.length_reverse]) | (with_reducible first | refine condK_dec (fun _=> ?_) fun _=> ?_ | refine grd_dec (fun _=> ?_) fun _=> ?_ | refine egrd_dec (fun _=> ?_) fun _=> ?_))
     refine loop_w (fun n fr K1=>LxE H p src H.nx (st'.length-1) ⟨pos+t.length,line,d',st'.reverse,out++x,0,wh⟩ (.slice (some ⟨b,0,none⟩) st'.reverse.length cc) n (fr 60) K1) (n:=st'.length-1) ⟨0,vt',rfl,by omega,by(repeat' (first | (simp (disch:=first | omega | (decide +kernel)) only[↓putF_get,↓reduceIte]) | (with_reducible first | refine condK_dec (fun _=> ?_) fun _=> ?_ | refine grd_dec (fun _=> ?_) fun _=> ?_ | refine egrd_dec (fun _=> ?_) fun _=> ?_));all_goals rfl),by simpa using h4⟩ ?_
     rintro n fr2 K4 ⟨i,vt5,rfl,hi,f60,h5⟩ hag2
     have hob5:=h5.ob
     have hpl5:=h5.pl
     repeat' (first | (simp (disch:=first | omega | (decide +kernel)) only[↓RD,RU,↓putF_get,↓evF_t,↓evF_c,pop,lop,ρ0,ρ1,↓reduceIte,Nat.reduceEqDiff,ρ5,ρ6,hag,hag2,hp,hob5,f60]) | (with_reducible first | refine condK_dec (fun _=> ?_) fun _=> ?_ | refine grd_dec (fun _=> ?_) fun _=> ?_ | refine egrd_dec (fun _=> ?_) fun _=> ?_))
     ·refine(put_wp h5 3 line [] (by simp only[List.length_append,List.length_reverse,List.length_replicate];omega)).mono fun v6 K6 ⟨vt6,h6⟩=> ?_
      repeat' (first | (simp (disch:=first | omega | (decide +kernel)) only[↓RD,RU,↓putF_get,↓evF_t,↓evF_c,pop,↓reduceIte,Nat.reduceEqDiff,f60]) | (with_reducible first | refine condK_dec (fun _=> ?_) fun _=> ?_ | refine grd_dec (fun _=> ?_) fun _=> ?_ | refine egrd_dec (fun _=> ?_) fun _=> ?_))
      all_goals
       refine⟨st'.length-1-(i+1),by omega,i+1,vt6,rfl,by omega,by first | rfl | (skip;all_goals rfl),?_⟩
       have e:out++x++List.replicate (i+1) (⟨3,line,[]⟩:Tok)=out++x++List.replicate i ⟨3,line,[]⟩++ [⟨3,line,[]⟩]:=by rw[List.replicate_succ',List.append_assoc];simp
       show RdAt H K6 p src ⟨pos+t.length,line,d',st'.reverse,out++x++List.replicate (i+1) ⟨3,line,[]⟩,0,wh⟩ _ vt6 H.nx
       rw[e]
       exact h6
     ·refine(put_wp h5 0 line [] (by simp only[List.length_append,List.length_reverse,List.length_replicate];omega)).mono fun v6 K6 ⟨vt6,h6⟩=> ?_
      have hob6:=h6.ob
      have hpl6:=h6.pl
      refine rn (an @hag (an @hag2 (an @hp @hob6))) ?_
      all_goals
       have ei:i=st'.length-1:=by omega
       subst ei
       refine⟨h6.E,vt6,rfl,?_⟩
       have e:out++x++endT line st'=out++x++List.replicate (st'.length-1) ⟨3,line,[]⟩++ [⟨0,line,[]⟩]:=by unfold endT;rw[List.append_assoc];simp
       rw[e]
       exact h6.out
    ·have hS:LxI src ⟨pos+t.length+1,line+1,d',st'.reverse,out++x,0,wh⟩ st':=hI.step htu hnt hlen hr
     simp only[List.length_cons] at hlen
     refine rn (an @hag (an @hp (an @hob4 @str_size))) ?_
     all_goals
      refine⟨src.length+1-(pos+t.length+1),by omega,_,st',vo',vt',rfl,hS,?_⟩
      exact RdAt.set h4 (s':=⟨pos+t.length+1,line+1,d',st'.reverse,out++x,0,wh⟩) rfl rfl ⟨by show pos+t.length+1≤_;omega,by show line+1≤_;omega,by show d'≤_;omega,by show 0≤_;omega,hwh,by simp only[List.length_append,List.length_reverse];omega⟩
end Can
end Go.Proofs.YticlaccbodpkeaaGreatDoor
end
section
namespace Go.Proofs.YticlaccbodpkeaaGreatDoor
namespace Can
open Go Go.RowKit
set_option linter.unusedSimpArgs false
set_option linter.unusedVariables false
set_option maxRecDepth 4000
theorem rowsT_len : ∀ {ts:List (List UInt8)} {line d:Nat} {st st':List Nat} {x:List Tok},rowsT line ts d st= .ok (x,st')→st.getLast? = some 0→x.length+st'.length≤st.length+(ts.map List.length).sum+3*ts.length
 | [],line,d,st,st',x,h,_=>by cases h;simp
 | t::ts,line,d,st,st',x,h,hz=>by
   rw[rowsT_cons] at h
   cases hq:rowT line t d st with
   | error e=>rw[hq] at h;cases h
   | ok y=>
     obtain⟨a,d1,st1⟩:=y
     rw[hq] at h
     simp only at h
     cases hw:rowsT (line+1) ts d1 st1 with
     | error e=>rw[hw] at h;cases h
     | ok z=>
       obtain⟨b,st2⟩:=z
       rw[hw] at h
       cases h
       obtain⟨g1,g2,g3⟩:=rowT_ok hq hz
       have:=rowsT_len hw g3
       simp only[List.length_append,List.map_cons,List.sum_cons,List.length_cons]
       omega
theorem splitN_sum : ∀ {src:List UInt8},((splitN src).map List.length).sum+(splitN src).length=src.length+1
 | []=>rfl
 | c::r=>by
   have ih:=splitN_sum (src:=r)
   simp only[splitN]
   split
   ·simp only[List.map_cons,List.sum_cons,List.length_cons,List.length_nil];omega
   ·split
    ·rename_i a b hq
     rw[hq] at ih
     simp only[List.map_cons,List.sum_cons,List.length_cons] at ih⊢
     omega
    ·rename_i hq
     exact absurd hq splitN_ne
theorem lexT_len{src:List UInt8}{ts:List Tok}(h:lexT src= .ok ts):ts.length≤100000:=by
 unfold lexT at h
 split at h
 ·cases h
 ·cases hq:rowsT 1 (splitN src) 0 [0] with
  | error e=>rw[hq] at h;cases h
  | ok y=>
    obtain⟨x,st⟩:=y
    rw[hq] at h
    cases h
    have h1:=rowsT_len hq rfl
    have h2:=splitN_sum (src:=src)
    simp only[endT,List.length_append,List.length_replicate,List.length_cons,List.length_nil] at h1⊢
    omega
theorem u8_wf{x:Int}(h:(Lit.int .u8 x).wf=true):((x.toNat.toUInt8).toNat:Int)=x:=by
 have:=bounds_u8 h
 have h1:x.toNat.toUInt8.toNat=x.toNat % 256:=by simp
 omega
theorem u8i_len{src:List UInt8}:(u8i src).length=src.length:=by simp[u8i]
end Can
end Go.Proofs.YticlaccbodpkeaaGreatDoor
end
section
namespace Go.Proofs.YticlaccbodpkeaaGreatDoor
namespace Can
set_option linter.unusedSimpArgs false
set_option linter.unusedVariables false
theorem rowsT_err2 : ∀ {ts:List (List UInt8)} {line d:Nat} {st:List Nat} {e:Nat×Nat},rowsT line ts d st= .error e→line≤e.1∧(e.2=20∨e.2=21)
 | [],line,d,st,e,h=>by cases h
 | t::ts,line,d,st,e,h=>by
   rw[rowsT_cons] at h
   cases hr:rowT line t d st with
   | error e'=>rw[hr] at h;cases h;exact⟨Nat.le_refl _,rowT_err hr⟩
   | ok y=>
     obtain⟨x,d',st'⟩:=y
     rw[hr] at h
     simp only at h
     cases hs:rowsT (line+1) ts d' st' with
     | error e2=>
       rw[hs] at h
       cases h
       have:=rowsT_err2 hs
       omega
     | ok z=>rw[hs] at h;cases h
theorem lexT_err2{src:List UInt8}{e:Nat×Nat}(hl:src.length≤20000)(h:lexT src= .error e):1≤e.1∧(e.2=20∨e.2=21):=by
 unfold lexT at h
 rw[if_neg (by omega)] at h
 cases hr:rowsT 1 (splitN src) 0 [0] with
 | error e'=>rw[hr] at h;cases h;exact rowsT_err2 hr
 | ok y=>rw[hr] at h;cases h
end Can
end Go.Proofs.YticlaccbodpkeaaGreatDoor
end
section
namespace Go.Proofs.YticlaccbodpkeaaGreatDoor
namespace Can
open Go Go.RowKit
set_option linter.unusedSimpArgs false
set_option linter.unusedVariables false
inductive R2{α β:Type}(R:α→β→Prop):List α→List β→Prop where
 | nil:R2 R [] []
 | cons {x:α} {y:β} {xs:List α} {ys:List β} (h:R x y) (t:R2 R xs ys):R2 R (x::xs) (y::ys)
theorem R2.len{α β:Type}{R:α→β→Prop} : ∀ {xs:List α} {ys:List β},R2 R xs ys→ys.length=xs.length
 | _,_, .nil=>rfl
 | _,_, .cons _ t=>by simp[t.len]
theorem R2.get{α β:Type}{R:α→β→Prop} : ∀ {xs:List α} {ys:List β},R2 R xs ys→∀ {i:Nat} {x:α},xs[i]? = some x→∃y,ys[i]? = some y∧R x y
 | _,_, .nil,i,x,h=>by simp at h
 | _,_, .cons h t,0,x,e=>by simp at e;subst e;exact⟨_,rfl,h⟩
 | _,_, .cons h t,i+1,x,e=>by simpa using t.get (i:=i) (by simpa using e)
theorem R2.app{α β:Type}{R:α→β→Prop} : ∀ {xs xs':List α} {ys ys':List β},R2 R xs ys→R2 R xs' ys'→R2 R (xs++xs') (ys++ys')
 | _,_,_,_, .nil,g=>g
 | _,_,_,_, .cons h t,g=> .cons h (t.app g)
theorem R2.take{α β:Type}{R:α→β→Prop} : ∀ {xs:List α} {ys:List β} (n:Nat),R2 R xs ys→R2 R (xs.take n) (ys.take n)
 | _,_,n, .nil=>by simpa using .nil
 | _,_,0, .cons h t=>by simpa using .nil
 | _,_,n+1, .cons h t=>by simpa using .cons h (t.take n)
theorem R2.drop{α β:Type}{R:α→β→Prop} : ∀ {xs:List α} {ys:List β} (n:Nat),R2 R xs ys→R2 R (xs.drop n) (ys.drop n)
 | _,_,n, .nil=>by simpa using .nil
 | _,_,0, .cons h t=>by simpa using .cons h t
 | _,_,n+1, .cons h t=>by simpa using t.drop n
theorem R2.mono{α β:Type}{R R':α→β→Prop}(hR : ∀x y,R x y→R' x y) : ∀ {xs:List α} {ys:List β},R2 R xs ys→R2 R' xs ys
 | _,_, .nil=> .nil
 | _,_, .cons h t=> .cons (hR _ _ h) (t.mono hR)
theorem R2.map{α β γ:Type}{R:α→β→Prop}{R':γ→β→Prop}{f:α→γ}(hR : ∀x y,R x y→R' (f x) y) : ∀ {xs:List α} {ys:List β},R2 R xs ys→R2 R' (xs.map f) ys
 | _,_, .nil=> .nil
 | _,_, .cons h t=> .cons (hR _ _ h) (t.map hR)
inductive SV where
 | sc (v:Value)
 | row (sz:Nat) (gs:List (List SV))
 | lk (x:List UInt8)
 | sub (sz:Nat) (gs:List (List SV))
inductive CV where
 | s (x:SV)
 | own (t:Nat) (e:TypeId) (sz:Nat) (gs:List (List SV))
 | bad
inductive RV where
 | c (x:CV)
 | agg (cs:List CV)
inductive AV where
 | r (x:RV)
 | ptr (o off:Nat)
 | eptr (t:Option Nat) (g:List SV) (off:Nat)
 | tup (l:List RV)
 | skip
 | bad
def ndTy:TypeId:=26
def tyB (e sz:Nat):Bool:= !(Nat.beq sz 5)||Nat.beq e ndTy
theorem tyB_ok{e sz:Nat}(h:tyB e sz=true):sz=5→e=ndTy:=fun h5=>by
 subst h5
 exact Nat.eq_of_beq_eq_true h
mutual
inductive SVR(K:CH)(A:Nat→Prop):SV→Value→Prop where
 | sc {v:Value} (h:isCell v=true):SVR K A (.sc v) v
 | row0 {sz:Nat}:SVR K A (.row sz []) (.slice none 0 0)
 | row {b sz:Nat} {os:List Value} {e:TypeId} {kd:Kd} {gs:List (List SV)} (hne:gs≠ []∧gs.length≤maxLen) (hb:A b) (ho:K.ob b= .cells os e kd) (hk:kd.isRo=false) (hg : ∀g∈gs,g.length=sz) (hs:SVRs K A gs.flatten os) (ht:sz=5→e=ndTy):SVR K A (.row sz gs) (.slice (some ⟨b,0,none⟩) gs.length gs.length)
 | lk {x:List UInt8} {v:Value} (h:isCell v=true):SVR K A (.lk x) v
 | sub0 {sz c:Nat} {q:Option Addr}:SVR K A (.sub sz []) (.slice q 0 c)
 | sub {b o c sz:Nat} {os:List Value} {e:TypeId} {kd:Kd} {gs:List (List SV)} (hne:gs≠ []∧gs.length≤maxLen) (hb:A b) (ho:K.ob b= .cells os e kd) (hg : ∀g∈gs,g.length=sz) (hl:o+gs.length*sz≤os.length) (hs:SVRs K A gs.flatten ((os.drop o).take (gs.length*sz))) (ht:sz=5→e=ndTy):SVR K A (.sub sz gs) (.slice (some ⟨b,o,none⟩) gs.length c)
inductive SVRs(K:CH)(A:Nat→Prop):List SV→List Value→Prop where
 | nil:SVRs K A [] []
 | cons {x:SV} {v:Value} {xs:List SV} {vs:List Value} (h:SVR K A x v) (t:SVRs K A xs vs):SVRs K A (x::xs) (v::vs)
end
theorem SVR.mv{K K':CH}{A A':Nat→Prop}(hA : ∀b,A b→A' b∧K'.ob b=K.ob b){x:SV}{v:Value}(h:SVR K A x v):SVR K' A' x v:=
 SVR.rec (motive_1:=fun x v _=>SVR K' A' x v) (motive_2:=fun x v _=>SVRs K' A' x v) (fun h=> .sc h) .row0 (fun hne hb ho hk hg _ ht ih=> .row hne (hA _ hb).1 ((hA _ hb).2.trans ho) hk hg ih ht) (fun h=> .lk h) .sub0 (fun hne hb ho hg hl _ ht ih=> .sub hne (hA _ hb).1 ((hA _ hb).2.trans ho) hg hl ih ht) .nil (fun _ _ i1 i2=> .cons i1 i2) h
theorem SVRs.mv{K K':CH}{A A':Nat→Prop}(hA : ∀b,A b→A' b∧K'.ob b=K.ob b){x:List SV}{v:List Value}(h:SVRs K A x v):SVRs K' A' x v:=
 SVRs.rec (motive_1:=fun x v _=>SVR K' A' x v) (motive_2:=fun x v _=>SVRs K' A' x v) (fun h=> .sc h) .row0 (fun hne hb ho hk hg _ ht ih=> .row hne (hA _ hb).1 ((hA _ hb).2.trans ho) hk hg ih ht) (fun h=> .lk h) .sub0 (fun hne hb ho hg hl _ ht ih=> .sub hne (hA _ hb).1 ((hA _ hb).2.trans ho) hg hl ih ht) .nil (fun _ _ i1 i2=> .cons i1 i2) h
theorem SVRs.r2{K:CH}{A:Nat→Prop} : ∀ {xs:List SV} {vs:List Value},SVRs K A xs vs→R2 (SVR K A) xs vs
 | [],_,h=>by cases h;exact .nil
 | x::xs,_,h=>by
   cases h with
   | cons h t=>exact .cons h t.r2
theorem R2.svrs{K:CH}{A:Nat→Prop} : ∀ {xs:List SV} {vs:List Value},R2 (SVR K A) xs vs→SVRs K A xs vs
 | _,_, .nil=> .nil
 | _,_, .cons h t=> .cons h t.svrs
abbrev rowS(sz:Nat)(gs:List (List SV)):SV:= .row sz gs
theorem SVR.cell{K:CH}{A:Nat→Prop}{x:SV}{v:Value}(h:SVR K A x v):isCell v=true:=by
 cases h with
 | sc h=>exact h
 | row0=>rfl
 | row=>rfl
 | lk h=>exact h
 | sub0=>rfl
 | sub=>rfl
structure TE where
 σ:Nat→Option Nat
 ρ:Nat→Option Nat
 hid:Nat→Prop
def Frz (K:CH)(E:TE)(b:Nat):Prop:=b<K.nx∧¬E.hid b∧(∀t,E.σ t≠some b)∧∀o,E.ρ o≠some b
inductive CVR(K:CH)(E:TE):CV→Value→Prop where
 | s {x:SV} {v:Value} (h:SVR K (Frz K E) x v):CVR K E (.s x) v
 | own0 {t sz:Nat} {e:TypeId}:CVR K E (.own t e sz []) (.slice none 0 0)
 | own {t b sz:Nat} {os:List Value} {e:TypeId} {kd:Kd} {gs:List (List SV)} (hne:gs≠ []∧gs.length≤maxLen) (hb:E.σ t=some b) (ho:K.ob b= .cells os e kd) (hk:kd.isRo=false) (hg : ∀g∈gs,g.length=sz) (hs:SVRs K (Frz K E) gs.flatten os) (ht:sz=5→e=ndTy):CVR K E (.own t e sz gs) (.slice (some ⟨b,0,none⟩) gs.length gs.length)
 | bad {v:Value} (h:isCell v=true):CVR K E .bad v
theorem CVR.cell{K:CH}{E:TE}{x:CV}{v:Value}(h:CVR K E x v):isCell v=true:=by
 cases h with
 | s h=>exact h.cell
 | own0=>rfl
 | own=>rfl
 | bad h=>exact h
inductive RVR(K:CH)(E:TE):RV→Value→Prop where
 | c {x:CV} {v:Value} (h:CVR K E x v):RVR K E (.c x) v
 | agg {cs:List CV} {vs:List Value} (h:R2 (CVR K E) cs vs):RVR K E (.agg cs) (.agg vs.toArray)
inductive AVR(K:CH)(E:TE):AV→Value→Prop where
 | r {x:RV} {v:Value} (h:RVR K E x v):AVR K E (.r x) v
 | ptr {o off l:Nat} (h:E.ρ o=some l):AVR K E (.ptr o off) (.pointer (some ⟨l,off,none⟩))
 | eptr {t:Option Nat} {g:List SV} {off b base:Nat} {os:List Value} {e:TypeId} {kd:Kd} (hb:match t with | none=>Frz K E b | some t=>E.σ t=some b) (ho:K.ob b= .cells os e kd) (hl:base+g.length≤os.length) (hs:R2 (SVR K (Frz K E)) g ((os.drop base).take g.length)):AVR K E (.eptr t g off) (.pointer (some ⟨b,base+off,none⟩))
 | tup {l:List RV} {vs:List Value} (h:R2 (RVR K E) l vs):AVR K E (.tup l) (.tuple vs.toArray)
 | skip:AVR K E .skip skipV
 | bad {v:Value}:AVR K E .bad v
inductive SA where
 | keep | fz | kill
def CV.act(g:Nat→SA):CV→CV
 | .own t e sz gs=>match g t with
   | .keep=> .own t e sz gs
   | .fz=> .s (rowS sz gs)
   | .kill=> .bad
 | x=>x
def RV.act(g:Nat→SA):RV→RV
 | .c x=> .c (x.act g)
 | .agg cs=> .agg (cs.map (CV.act g))
def AV.act(g:Nat→SA):AV→AV
 | .r x=> .r (x.act g)
 | .eptr (some t) l off=>match g t with
   | .keep=> .eptr (some t) l off
   | .fz=> .eptr none l off
   | .kill=> .bad
 | .tup l=> .tup (l.map (RV.act g))
 | x=>x
structure Mv(K:CH)(E:TE)(g:Nat→SA)(K':CH)(E':TE):Prop where
 frz : ∀b,Frz K E b→Frz K' E' b∧K'.ob b=K.ob b
 keep : ∀t b,E.σ t=some b→g t= .keep→E'.σ t=some b∧K'.ob b=K.ob b
 fz : ∀t b,E.σ t=some b→g t= .fz→Frz K' E' b∧K'.ob b=K.ob b
 rho : ∀o b,E.ρ o=some b→E'.ρ o=some b
variable {K K':CH} {E E':TE} {g:Nat→SA}
theorem CVR.mv(m:Mv K E g K' E'){x:CV}{v:Value}(h:CVR K E x v):CVR K' E' (x.act g) v:=by
 cases h with
 | s h=>exact .s (h.mv m.frz)
 | @own0 t sz e=>
   show CVR K' E' (match g t with | .keep=> .own t e sz [] | .fz=> .s (rowS sz []) | .kill=> .bad) _
   cases g t with
   | keep=>exact .own0
   | fz=>exact .s .row0
   | kill=>exact .bad rfl
 | @own t b sz os e kd gs hne hb ho hk hg hs ht=>
   show CVR K' E' (match g t with | .keep=> .own t e sz gs | .fz=> .s (rowS sz gs) | .kill=> .bad) _
   cases hgt:g t with
   | keep=>exact .own hne (m.keep t b hb hgt).1 ((m.keep t b hb hgt).2.trans ho) hk hg (hs.mv m.frz) ht
   | fz=>exact .s (.row hne (m.fz t b hb hgt).1 ((m.fz t b hb hgt).2.trans ho) hk hg (hs.mv m.frz) ht)
   | kill=>exact .bad rfl
 | bad h=>exact .bad h
theorem RVR.mv(m:Mv K E g K' E'){x:RV}{v:Value}(h:RVR K E x v):RVR K' E' (x.act g) v:=by
 cases h with
 | c h=>exact .c (h.mv m)
 | agg h=>exact .agg (h.map fun _ _ q=>q.mv m)
theorem AVR.mv(m:Mv K E g K' E'){x:AV}{v:Value}(h:AVR K E x v):AVR K' E' (x.act g) v:=by
 cases h with
 | r h=>exact .r (h.mv m)
 | ptr h=>exact .ptr (m.rho _ _ h)
 | @eptr t l off b base os e kd hb ho hl hs=>
   cases t with
   | none=>exact .eptr (t:=none) (m.frz b hb).1 ((m.frz b hb).2.trans ho) hl (hs.mono fun _ _ q=>q.mv m.frz)
   | some t=>
     show AVR K' E' (match g t with | .keep=> .eptr (some t) l off | .fz=> .eptr none l off | .kill=> .bad) _
     cases hgt:g t with
     | keep=>exact .eptr (t:=some t) (m.keep t b hb hgt).1 ((m.keep t b hb hgt).2.trans ho) hl (hs.mono fun _ _ q=>q.mv m.frz)
     | fz=>exact .eptr (t:=none) (m.fz t b hb hgt).1 ((m.fz t b hb hgt).2.trans ho) hl (hs.mono fun _ _ q=>q.mv m.frz)
     | kill=>exact .bad
 | tup h=>exact .tup (h.map fun _ _ q=>q.mv m)
 | skip=>exact .skip
 | bad=>exact .bad
structure TS where
 nt:Nat
 obs:List (Nat×TypeId×List CV)
abbrev TFr:=Nat→AV
def TS.act(g:Nat→SA)(s:TS):TS:=⟨s.nt,s.obs.map fun(v,e,cs)=>(v,e,cs.map (CV.act g))⟩
def TFr.act(g:Nat→SA)(fr:TFr):TFr:=fun t=>(fr t).act g
structure TP where
 N:Nat→Prop
 M:Nat→CObj
 J:List (List UInt8)→List Value→CH→Nat→(Nat→Prop)→Prop
 jm : ∀ {xs:List (List UInt8)} {vs:List Value} {K K':CH} {p:Nat} {W:Nat→Prop},J xs vs K p W→(∀b,W b→K'.ob b=K.ob b)→K.nx≤K'.nx→J xs vs K' p W
abbrev TP.plain(N:Nat→Prop)(M:Nat→CObj):TP:=⟨N,M,fun _ _ _ _ _=>False,fun h _ _=>h⟩
def lks:List CV→List (List UInt8)
 | []=> []
 | .s (.lk x)::r=>x::lks r
 | _::r=>lks r
def lkW:List CV→List Value→List Value
 | .s (.lk _)::r,v::vs=>v::lkW r vs
 | _::r,_::vs=>lkW r vs
 | _,_=> []
def lkO (l:List (Nat×TypeId×List CV)):List (List UInt8):=match l with
 | []=> []
 | (_,_,cs)::_=>lks cs
def JR (Z:TP)(l:List (Nat×TypeId×List CV))(K:CH)(sp:Option Nat)(W:Nat→Prop):Prop:=match l with
 | []=>∀b,¬W b
 | (_,e,cs)::_=>(lks cs= []∧∀b,¬W b)∨(lks cs≠ []∧∃p os,sp=some p∧K.ob p= .cells os e .ex∧os.length=cs.length∧Z.J (lks cs) (lkW cs os) K p W)
structure TR(Z:TP)(K0:CH)(sp:Option Nat)(W0:Nat→Prop)(K:CH)(st:TS)(fr:TFr)(cfr:Fr)(E:TE):Prop where
 nx:K0.nx≤K.nx
 keep : ∀b,b<K0.nx→sp≠some b→¬W0 b→K.ob b=K0.ob b
 prot : ∀b,Z.N b→b<K0.nx∧sp≠some b∧¬W0 b∧K.ob b=Z.M b
 hid : ∀b,E.hid b→b<K.nx∧(∀t,E.σ t≠some b)∧∀o,E.ρ o≠some b
 wr : ∃W:Nat→Prop,(∀b,W b→E.hid b∧(W0 b∨K0.nx≤b))∧JR Z st.obs K (E.ρ 0) W
 sig : ∀t b,E.σ t=some b→K0.nx≤b∧b<K.nx∧t<st.nt
 inj : ∀t t' b,E.σ t=some b→E.σ t'=some b→t=t'
 sr : ∀t o b,E.σ t=some b→E.ρ o≠some b
 rho : ∀o b,E.ρ o=some b→b<K.nx∧(K0.nx≤b∨sp=some b)∧o<st.obs.length
 rinj : ∀o o' b,E.ρ o=some b→E.ρ o'=some b→o=o'
 obs : ∀o v e cs,st.obs[o]? = some (v,e,cs)→∃b os,E.ρ o=some b∧K.ob b= .cells os e .ex∧R2 (CVR K E) cs os
 frm : ∀t,AVR K E (fr t) (cfr t)
end Can
end Go.Proofs.YticlaccbodpkeaaGreatDoor
end
section
namespace Go.Proofs.YticlaccbodpkeaaGreatDoor
namespace Can
open Go Go.RowKit
set_option linter.unusedSimpArgs false
set_option linter.unusedVariables false
theorem cells_cell{v:Value}(h:isCell v=true):v.cells= #[v]:=by cases v<;>first | rfl | cases h
theorem cell_val{v:Value}(h:isCell v=true):isVal v=true:=by cases v<;>first | rfl | cases h
abbrev cS(v:Value):CV:= .s (.sc v)
abbrev rS(v:Value):AV:= .r (.c (.s (.sc v)))
abbrev iS(n:Int):AV:= .r (.c (.s (.sc (.int .i64 n))))
def nzS:Nat:=5
def cN (v:Value):CV:=match v with
 | .slice none 0 0=> .s (.row nzS [])
 | v=> .s (.sc v)
def zCV (z:List Value):Option (List CV):=if z.all isCell=true then some (z.map cN) else none
def toAV (v:Value):AV:=match v with
 | .agg cs=>match zCV cs.toList with
   | some l=> .r (.agg l)
   | none=> .bad
 | v=>match isCell v with
   | true=> .r (.c (cN v))
   | false=> .bad
theorem cN_rel{K:CH}{E:TE}{v:Value}(h:isCell v=true):CVR K E (cN v) v:=by
 unfold cN
 split
 ·exact .s .row0
 ·exact .s (.sc h)
def AV.raw:AV→Option Value
 | .r (.c (.s (.sc v)))=>some v
 | _=>none
def tev (fr:TFr):Operand→AV
 | .tmp t=>fr t
 | .const v=>toAV v
 | _=> .bad
def AV.cvs:AV→Option (List CV)
 | .r (.c x)=>some [x]
 | .r (.agg cs)=>some cs
 | _=>none
def AV.rowOf:AV→Option (Option Nat×Option Nat×List (List SV))
 | .r (.c (.s (.row sz gs)))=>some (none,some sz,gs)
 | .r (.c (.s (.sc (.slice none 0 0))))=>some (none,none,[])
 | .r (.c (.own t _ sz gs))=>some (some t,some sz,gs)
 | _=>none
def AV.rowIx:AV→Option (Option Nat×Option Nat×List (List SV))
 | .r (.c (.s (.sub sz gs)))=>some (none,some sz,gs)
 | a=>a.rowOf
def srcOk(sz:Nat):Option Nat→Prop
 | none=>True
 | some sz'=>sz'=sz
instance {sz:Nat} : ∀ {o:Option Nat},Decidable (srcOk sz o)
 | none=>inferInstanceAs (Decidable True)
 | some sz'=>inferInstanceAs (Decidable (sz'=sz))
def lenOf:AV→Option Nat
 | .r (.c (.s (.row _ gs)))=>some gs.length
 | .r (.c (.own _ _ _ gs))=>some gs.length
 | .r (.c (.s (.sc (.slice _ n _))))=>some n
 | .r (.c (.s (.sub _ gs)))=>some gs.length
 | _=>none
def rops:POp→Option (List Operand)
 | .bin _ x y=>some [x,y]
 | .eqb _ x y=>some [x,y]
 | .un _ x=>some [x]
 | .conv _ x=>some [x]
 | .cstr x=>some [x]
 | .sidx x i=>some [x,i]
 | .lens x=>some [x]
 | .mx _ x y=>some [x,y]
 | .sstr x lo hi=>some (x::(lo.toList++hi.toList))
 | _=>none
def rev (fr:TFr)(x:Operand):Value:=((tev fr x).raw).getD undef
def tbld:List CV→List (Nat×Nat×Option (List CV))→Option (List CV)
 | z,[]=>some z
 | z,(o,s,some cs)::r=>if cs.length=s∧o+s≤z.length then tbld (z.take o++cs++z.drop (o+s)) r else none
 | _,_=>none
def tpop (fr:TFr):POp→Option AV
 | .mov x=>some (tev fr x)
 | .pick c a b=>match (tev fr c).raw with
   | some (.bool t)=>some (if t=true then tev fr a else tev fr b)
   | _=>none
 | .off x d=>match tev fr x with
   | .ptr o off=>some (.ptr o (off+d))
   | .eptr t g off=>some (.eptr t g (off+d))
   | _=>none
 | .nck x=>match tev fr x with
   | .ptr o off=>some (.ptr o off)
   | .eptr t g off=>some (.eptr t g off)
   | _=>none
 | .fld x d n=>match tev fr x,n with
   | .r (.agg cs),none=>(cs[d]?).map fun x=> .r (.c x)
   | .r (.agg cs),some m=>if d+m≤cs.length then some (.r (.agg ((cs.drop d).take m))) else none
   | _,_=>none
 | .len x=>(lenOf (tev fr x)).map fun n=>iS n
 | .idx x i sz=>match (tev fr x).rowIx,(tev fr i).raw with
   | some (t,z,gs),some (.int _ j)=>if srcOk sz z∧0≤j then (gs[j.toNat]?).map fun g=> .eptr t g 0 else none
   | _,_=>none
 | .ext x i=>match tev fr x with
   | .tup l=>(l[i]?).map .r
   | _=>none
 | .bld z ps=>match zCV z with
   | some z=>(tbld z (ps.map fun(o,s,x)=>(o,s,(tev fr x).cvs))).map fun cs=> .r (.agg cs)
   | none=>none
 | x=>match rops x with
   | some l=>if l.all (fun y=>(tev fr y).raw.isSome)=true then (pop (rev fr) x).map toAV else none
   | none=>none
variable {K K':CH} {E E':TE} {fr:TFr} {cfr:Fr}
theorem zCV_rel : ∀ {z:List Value} {l:List CV},zCV z=some l→R2 (CVR K E) l z:=fun {z l} h=>by
 unfold zCV at h
 split at h
 ·rename_i ha
  injection h with h
  subst h
  induction z with
  | nil=>exact .nil
  | cons v z ih=>
    rw[List.all_cons,Bool.and_eq_true] at ha
    exact .cons (cN_rel ha.1) (ih ha.2)
 ·cases h
theorem toAV_rel{v:Value}:AVR K E (toAV v) v:=by
 unfold toAV
 split
 ·rename_i cs
  split
  ·rename_i l hl
   exact .r (.agg (vs:=cs.toList) (zCV_rel hl))
  ·exact .bad
 ·split
  ·rename_i h;exact .r (.c (cN_rel h))
  ·exact .bad
theorem raw_rel{a:AV}{u v:Value}(h:AVR K E a v)(hr:a.raw=some u):v=u:=by
 unfold AV.raw at hr
 split at hr
 ·cases hr
  cases h with
  | r h=>
    cases h with
    | c h=>
      cases h with
      | s h=>cases h with | sc h=>rfl
 ·cases hr
theorem tev_rel(hf : ∀t,AVR K E (fr t) (cfr t))(x:Operand):AVR K E (tev fr x) (evF cfr x):=by
 cases x with
 | tmp t=>exact hf t
 | const v=>exact toAV_rel
 | _=>exact .bad
theorem cvs_rel{a:AV}{v:Value}(h:AVR K E a v){l:List CV}(hr:a.cvs=some l):R2 (CVR K E) l v.cells.toList∧isVal v=true:=by
 unfold AV.cvs at hr
 split at hr
 ·cases hr
  cases h with
  | r h=>cases h with
    | c h=>rw[cells_cell h.cell];exact⟨.cons h .nil,cell_val h.cell⟩
 ·cases hr
  cases h with
  | r h=>cases h with
    | agg h=>exact⟨h,rfl⟩
 ·cases hr
theorem AVR.ptr_inv{o off:Nat}{v:Value}(h:AVR K E (.ptr o off) v) : ∃l,E.ρ o=some l∧v= .pointer (some ⟨l,off,none⟩):=by
 cases h with
 | ptr h=>exact⟨_,h,rfl⟩
def Own (K:CH)(E:TE)(t:Option Nat)(b:Nat):Prop:=match t with
 | none=>Frz K E b
 | some t=>E.σ t=some b
theorem AVR.eptr_inv{t:Option Nat}{g:List SV}{off:Nat}{v:Value}(h:AVR K E (.eptr t g off) v) : ∃b base os e kd,Own K E t b∧K.ob b= .cells os e kd∧base+g.length≤os.length∧R2 (SVR K (Frz K E)) g ((os.drop base).take g.length)∧v= .pointer (some ⟨b,base+off,none⟩):=by
 cases h with
 | eptr hb ho hl hs=>exact⟨_,_,_,_,_,hb,ho,hl,hs,rfl⟩
theorem flat_grp{α:Type}{sz:Nat} : ∀ {gs:List (List α)},(∀g∈gs,g.length=sz)→∀ {j:Nat} {g:List α},gs[j]? = some g→(gs.flatten.drop (j*sz)).take g.length=g∧j*sz+g.length≤gs.flatten.length
 | [],_,j,g,h=>by simp at h
 | a::gs,hg,0,g,h=>by
   simp at h;subst h
   simp
 | a::gs,hg,j+1,g,h=>by
   have ha:=hg a (by simp)
   have ih:=flat_grp (gs:=gs) (fun x hx=>hg x (by simp[hx])) (j:=j) (g:=g) (by simpa using h)
   have e:(j+1)*sz=a.length+j*sz:=by rw[ha,Nat.add_mul];omega
   have hd:(a++gs.flatten).drop (a.length+j*sz)=gs.flatten.drop (j*sz):=by rw[←List.drop_drop,List.drop_left]
   rw[List.flatten_cons,e,hd]
   exact⟨ih.1,by rw[List.length_append];omega⟩
theorem flat_len'{α:Type}{sz:Nat} : ∀ {gs:List (List α)},(∀g∈gs,g.length=sz)→gs.flatten.length=gs.length*sz
 | [],_=>by simp
 | a::gs,hg=>by
   rw[List.flatten_cons,List.length_append,flat_len' fun x hx=>hg x (by simp[hx]),hg a (by simp),List.length_cons,Nat.add_mul];omega
theorem row_rel{a:AV}{v:Value}(h:AVR K E a v){t:Option Nat}{z:Option Nat}{gs:List (List SV)}(hr:a.rowOf=some (t,z,gs)):(gs= []∧v= .slice none 0 0)∨(gs≠ []∧gs.length≤maxLen)∧∃sz b os e kd,z=some sz∧Own K E t b∧K.ob b= .cells os e kd∧kd.isRo=false∧(∀g∈gs,g.length=sz)∧SVRs K (Frz K E) gs.flatten os∧v= .slice (some ⟨b,0,none⟩) gs.length gs.length:=by
 unfold AV.rowOf at hr
 split at hr
 ·cases hr
  cases h with
  | r h=>cases h with
    | c h=>cases h with
      | s h=>cases h with
        | row0=>exact .inl ⟨rfl,rfl⟩
        | row hne hb ho hk hg hs=>exact .inr ⟨hne,_,_,_,_,_,rfl,hb,ho,hk,hg,hs,rfl⟩
 ·cases hr
  exact .inl ⟨rfl,raw_rel h rfl⟩
 ·cases hr
  cases h with
  | r h=>cases h with
    | c h=>cases h with
      | own0=>exact .inl ⟨rfl,rfl⟩
      | own hne hb ho hk hg hs=>exact .inr ⟨hne,_,_,_,_,_,rfl,hb,ho,hk,hg,hs,rfl⟩
 ·cases hr
theorem ix_rel{a:AV}{v:Value}(h:AVR K E a v){t:Option Nat}{z:Option Nat}{gs:List (List SV)}(hr:a.rowIx=some (t,z,gs))(hne:gs≠ []) : ∃sz b o c os e kd,z=some sz∧Own K E t b∧K.ob b= .cells os e kd∧(∀g∈gs,g.length=sz)∧o+gs.length*sz≤os.length∧SVRs K (Frz K E) gs.flatten ((os.drop o).take (gs.length*sz))∧v= .slice (some ⟨b,o,none⟩) gs.length c:=by
 unfold AV.rowIx at hr
 split at hr
 ·cases hr
  cases h with
  | r h=>cases h with
    | c h=>cases h with
      | s h=>cases h with
        | sub0=>exact absurd rfl hne
        | sub _ hb ho hg hl hs=>exact⟨_,_,_,_,_,_,_,rfl,hb,ho,hg,hl,hs,rfl⟩
 ·rcases row_rel h hr with ⟨e,_⟩ | ⟨_,sz,b,os,e,kd,k1,k2,k3,k4,k5,k6,k7⟩
  ·exact absurd e hne
  ·have hl:os.length=gs.length*sz:=by
    rw[k6.r2.len]
    have : ∀l:List (List SV),(∀g∈l,g.length=sz)→l.flatten.length=l.length*sz:=fun l=>by
     induction l with
     | nil=>intro _;simp
     | cons a l ih=>
       intro hg
       rw[List.flatten_cons,List.length_append,ih fun x hx=>hg x (by simp[hx]),hg a (by simp),List.length_cons,Nat.add_mul];omega
    exact this gs k5
   exact⟨sz,b,0,gs.length,os,e,kd,k1,k2,k3,k5,by omega,by rw[List.drop_zero,List.take_of_length_le (by omega)];exact k6,k7⟩
theorem len_rel{a:AV}{v:Value}(h:AVR K E a v){n:Nat}(hr:lenOf a=some n) : ∃q c,v= .slice q n c:=by
 unfold lenOf at hr
 split at hr
 ·rename_i sz gs
  cases hr
  rcases row_rel (t:=none) (z:=some sz) (gs:=gs) h rfl with ⟨rfl,hv⟩ | ⟨_,_,_,_,_,_,_,_,_,_,_,_,hv⟩
  ·exact⟨_,_,hv⟩
  ·exact⟨_,_,hv⟩
 ·rename_i t e sz gs
  cases hr
  rcases row_rel (t:=some t) (z:=some sz) (gs:=gs) h rfl with ⟨rfl,hv⟩ | ⟨_,_,_,_,_,_,_,_,_,_,_,_,hv⟩
  ·exact⟨_,_,hv⟩
  ·exact⟨_,_,hv⟩
 ·cases hr
  exact⟨_,_,raw_rel h rfl⟩
 ·cases hr
  cases h with
  | r h=>cases h with
    | c h=>cases h with
      | s h=>cases h with
        | sub0=>exact⟨_,_,rfl⟩
        | sub=>exact⟨_,_,rfl⟩
 ·cases hr
theorem R2.set{α:Type}{R:α→Value→Prop}{xs us:List α}{ys vs:List Value}(h:R2 R xs ys)(g:R2 R us vs){o:Nat}:R2 R (xs.take o++us++xs.drop (o+us.length)) (setCells ys o vs):=by
 unfold setCells
 rw[g.len]
 exact((h.take o).app g).app (h.drop _)
theorem tbld_rel : ∀ {ps:List (Nat×Nat×Option (List CV))} {qs:List (Nat×Nat×Value)} {z:List CV} {zs:List Value} {cs:List CV},R2 (CVR K E) z zs→R2 (fun(p:Nat×Nat×Option (List CV)) (q:Nat×Nat×Value)=>p.1=q.1∧p.2.1=q.2.1∧∀l,p.2.2=some l→R2 (CVR K E) l q.2.2.cells.toList∧isVal q.2.2=true) ps qs→tbld z ps=some cs→∃vs,bldV zs qs=some vs∧R2 (CVR K E) cs vs
 | [],_,z,zs,cs,hz, .nil,h=>by
   cases h;exact⟨zs,rfl,hz⟩
 | (o,s,none)::ps,_,z,zs,cs,hz, .cons _ _,h=>by cases h
 | (o,s,some l)::ps,(o',s',v)::qs,z,zs,cs,hz, .cons ⟨e1,e2,e3⟩ ht,h=>by
   cases e1;cases e2
   obtain⟨g1,g2⟩:=e3 l rfl
   simp only[tbld] at h
   split at h
   ·rename_i hc
    have hsz:v.cells.size=s:=by rw[←Array.length_toList,g1.len];exact hc.1
    obtain⟨vs,k1,k2⟩:=tbld_rel (zs:=setCells zs o v.cells.toList) (by have:=hz.set g1 (o:=o);rw[hc.1] at this;exact this) ht h
    refine⟨vs,?_,k2⟩
    show(if isVal v=true∧v.cells.size=s∧o+s≤zs.length then bldV (setCells zs o v.cells.toList) qs else none)=_
    rw[if_pos ⟨g2,hsz,by rw[hz.len];exact hc.2⟩]
    exact k1
   ·cases h
theorem rpop_congr{ev ev':Operand→Value}{x:POp}{l:List Operand}(h:rops x=some l)(he : ∀y∈l,ev' y=ev y):pop ev' x=pop ev x:=by
 cases x<;>simp only[rops,Option.some.injEq,reduceCtorEq] at h<;>subst h
 case sstr x lo hi=>
  have hx:=he x (by simp)
  have hl : ∀d,bnd ev' d lo=bnd ev d lo:=fun d=>by
   cases lo with
   | none=>rfl
   | some y=>simp only[bnd,he y (by simp)]
  have hh : ∀d,bnd ev' d hi=bnd ev d hi:=fun d=>by
   cases hi with
   | none=>rfl
   | some y=>simp only[bnd,he y (by simp)]
  simp only[pop,hx,hl,hh]
 all_goals simp only[List.mem_cons,List.mem_singleton,List.not_mem_nil,or_false,forall_eq_or_imp,forall_eq] at he
 all_goals simp only[pop,he]
theorem tpop_raw(hf : ∀t,AVR K E (fr t) (cfr t)){x:POp}{a:AV}(h:(match rops x with | some l=>if l.all (fun y=>(tev fr y).raw.isSome)=true then (pop (rev fr) x).map toAV else none | none=>none)=some a) : ∃v,pop (evF cfr) x=some v∧AVR K E a v:=by
 split at h
 ·rename_i l hl
  split at h
  ·rename_i ha
   have he : ∀y∈l,evF cfr y=rev fr y:=fun y hy=>by
    have:=List.all_eq_true.1 ha y hy
    obtain⟨u,hu⟩:=Option.isSome_iff_exists.1 this
    rw[raw_rel (tev_rel hf y) hu,rev,hu];rfl
   rw[←rpop_congr hl he] at h
   cases hp:pop (evF cfr) x with
   | none=>rw[hp] at h;cases h
   | some v=>rw[hp] at h;cases h;exact⟨v,rfl,toAV_rel⟩
  ·cases h
 ·cases h
theorem tpop_sound(hf : ∀t,AVR K E (fr t) (cfr t)){x:POp}{a:AV}(h:tpop fr x=some a) : ∃v,pop (evF cfr) x=some v∧AVR K E a v:=by
 cases x with
 | mov x=>cases h;exact⟨_,rfl,tev_rel hf x⟩
 | pick c x y=>
   simp only[tpop] at h
   split at h
   ·rename_i t hc
    cases h
    have:=raw_rel (tev_rel hf c) hc
    refine⟨if t=true then evF cfr x else evF cfr y,by simp only[pop,this],?_⟩
    cases t
    ·exact tev_rel hf y
    ·exact tev_rel hf x
   ·cases h
 | off x d=>
   simp only[tpop] at h
   have hx:=tev_rel hf x
   split at h
   ·rename_i o off e
    cases h
    rw[e] at hx
    obtain⟨l,hl,hv⟩:=hx.ptr_inv
    exact⟨_,by simp only[pop,hv], .ptr hl⟩
   ·rename_i t g off e
    cases h
    rw[e] at hx
    obtain⟨b,base,os,ty,kd,hb,ho,hl,hs,hv⟩:=hx.eptr_inv
    exact⟨.pointer (some ⟨b,base+(off+d),none⟩),by simp only[pop,hv,Nat.add_assoc], .eptr hb ho hl hs⟩
   ·cases h
 | nck x=>
   simp only[tpop] at h
   have hx:=tev_rel hf x
   split at h
   ·rename_i o off e
    cases h
    rw[e] at hx
    obtain⟨l,hl,hv⟩:=hx.ptr_inv
    exact⟨_,by simp only[pop,hv], .ptr hl⟩
   ·rename_i t g off e
    cases h
    rw[e] at hx
    obtain⟨b,base,os,ty,kd,hb,ho,hl,hs,hv⟩:=hx.eptr_inv
    exact⟨_,by simp only[pop,hv], .eptr hb ho hl hs⟩
   ·cases h
 | fld x d n=>
   simp only[tpop] at h
   have hx:=tev_rel hf x
   split at h
   ·rename_i cs e
    rw[e] at hx
    cases hv:evF cfr x with
    | _=>
      rw[hv] at hx
      cases hx
      rename_i hx
      cases hx
      try(
       rename_i vs hr
       cases hc:cs[d]? with
       | none=>rw[hc] at h;cases h
       | some y=>
         rw[hc] at h;cases h
         obtain⟨v,h1,h2⟩:=hr.get hc
         exact⟨v,by simp only[pop,hv,partV,h1], .r (.c h2)⟩)
      try(rename_i hq;cases hq)
   ·rename_i cs m e
    rw[e] at hx
    split at h
    ·rename_i hle
     cases h
     cases hv:evF cfr x with
     | _=>
       rw[hv] at hx
       cases hx
       rename_i hx
       cases hx
       try(
        rename_i vs hr
        exact⟨_,by simp only[pop,hv,partV];rw[if_pos (by rw[hr.len];exact hle)], .r (.agg ((hr.drop d).take m))⟩)
       try(rename_i hq;cases hq)
    ·cases h
   ·cases h
 | len x=>
   simp only[tpop] at h
   have hx:=tev_rel hf x
   cases hl:lenOf (tev fr x) with
   | none=>rw[hl] at h;cases h
   | some n=>
     rw[hl] at h;cases h
     obtain⟨q,c,hv⟩:=len_rel hx hl
     exact⟨_,by simp only[pop,hv], .r (.c (.s (.sc rfl)))⟩
 | idx x i sz=>
   simp only[tpop] at h
   split at h
   ·rename_i t z gs k j e1 e2
    split at h
    ·rename_i hc
     obtain⟨hz,hj⟩:=hc
     cases hg:gs[j.toNat]? with
     | none=>rw[hg] at h;cases h
     | some g=>
       rw[hg] at h;cases h
       have hi:=raw_rel (tev_rel hf i) e2
       have hlt:=(List.getElem?_eq_some_iff.1 hg).1
       obtain⟨sz',b,o,c,os,ty,kd,rfl,k1,k2,k4,k6,k5,hv⟩:=ix_rel (tev_rel hf x) e1 (fun e=>by rw[e] at hg;simp at hg)
       cases hz
       obtain⟨q1,q2⟩:=flat_grp k4 hg
       refine⟨_,by simp only[pop,hv,hi];rw[if_pos ⟨hj,by omega⟩],?_⟩
       have hr:=((k5.r2.drop (j.toNat*sz)).take g.length)
       rw[q1] at hr
       have hfl:=flat_len' k4
       have e2:((((os.drop o).take (gs.length*sz)).drop (j.toNat*sz)).take g.length)=(os.drop (o+j.toNat*sz)).take g.length:=by
        rw[List.drop_take,List.take_take,List.drop_drop,Nat.min_eq_left (by omega)]
       rw[e2] at hr
       exact .eptr (base:=o+j.toNat*sz) (off:=0) k1 k2 (by omega) hr
    ·cases h
   ·cases h
 | ext x i=>
   simp only[tpop] at h
   have hx:=tev_rel hf x
   split at h
   ·rename_i l e
    rw[e] at hx
    cases hc:l[i]? with
    | none=>rw[hc] at h;cases h
    | some y=>
      rw[hc] at h;cases h
      cases hv:evF cfr x with
      | _=>
        rw[hv] at hx
        cases hx
        try(
         rename_i vs hr
         obtain⟨v,h1,h2⟩:=hr.get hc
         exact⟨v,by simp only[pop,hv];simpa using h1, .r h2⟩)
   ·cases h
 | bld z ps=>
   simp only[tpop] at h
   split at h
   ·rename_i zc hz
    cases hb:tbld zc (ps.map fun(o,s,x)=>(o,s,(tev fr x).cvs)) with
    | none=>rw[hb] at h;cases h
    | some cs=>
      rw[hb] at h;cases h
      obtain⟨vs,k1,k2⟩:=tbld_rel (K:=K) (E:=E) (qs:=ps.map fun(o,s,x)=>(o,s,evF cfr x)) (zCV_rel hz) (by
       clear hb
       induction ps with
       | nil=>exact .nil
       | cons p ps ih=>exact .cons ⟨rfl,rfl,fun l hl=>cvs_rel (tev_rel hf p.2.2) hl⟩ ih) hb
      exact⟨_,by simp only[pop];rw[k1];rfl, .r (.agg k2)⟩
   ·cases h
 | _=>exact tpop_raw hf h
end Can
end Go.Proofs.YticlaccbodpkeaaGreatDoor
end
