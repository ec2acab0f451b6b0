/- Lex: symbols. Lex: numbers. Lex: one token; the indentation. Lex: what stands behind a row's end turns nothing in it. No program in sight. Lex: a row. Lex: the words; the program's Lex. Lex: plain laws of the rows. Lex: the program's Lex. Lex: how long the answer is; bytes; the document's Same; Lex as tokens that lie. Lex, plain: lines counted on; rows that are blank. Runs over trees: rows as pure lists. Values, and what they stand for in a canonical memory. Over any program. Runs over trees: pure operations and reads. Over any program. -/
import Derived.Test.YticlaccbodpkeaaGreatDoorVa
import Derived.Test.YticlaccbodpkeaaGreatDoorVd
open Go renaming Operand → au, TypeId → aI, Value → ae
open Go.Value renaming cells → dp, int → yv
open List renaming append_assoc → rP, append_nil → jz, cons_append → jU, drop_drop → ir, drop_eq_getElem_cons → rQ, drop_eq_nil_of_le → NG, drop_nil → yA, drop_succ_cons → tR, drop_zero → ly, flatten_cons → Ce, getD_eq_getElem?_getD → yw, getElem?_append_left → tP, getElem?_append_right → uN, getElem?_cons_succ → fL, getElem?_cons_zero → fK, getElem?_drop → sP, getElem?_eq_getElem → bM, getElem?_reverse → YC, getElem?_take → ot, getElem_mem → yy, length → rN, length_append → cO, length_cons → cw, length_drop → ky, length_map → fh, length_nil → cX, length_replicate → YD, length_reverse → xc, map_cons → dG, map_nil → nz, mem_append_left → tQ, mem_append_right → Ed, mem_cons → ox, nil_append → mR, replicate → qA, size_toArray → qB, take_of_length_le → qD, toList_toArray → tS
open Nat renaming add_assoc → mP, add_mul → qC, add_sub_cancel_left → j6, le_refl → al, lt_of_lt_of_le → cj, lt_or_ge → yx, lt_succ_self → iC, mul_one → iB
open Option renaming map_eq_some_iff → nB, map_some → fg
open UInt8 renaming ofNat → ar
set_option maxRecDepth 4000
set_option maxHeartbeats 2000000
set_option linter.unusedSimpArgs false
set_option linter.unusedVariables false
namespace Go.Proofs.YticlaccbodpkeaaGreatDoor
namespace Can
section
open Go Go.RowKit
theorem toN{a b:Nat}:((a:Int)+(b:Int))=((a+b:Nat):Int):=rfl
theorem Ic{c:UInt8}:tZ [.int .u8 (c.toNat:Int)]=some [c]:=Pd (l:= [c])
theorem akw(H:CH)(a b:List UInt8)(ha:a.length<=100000)(hb:b.length<=100000):aR (ba Tryz.prog LG GG) 179 [.string (str a), .string (str b)] H λv K=>v= .bool (decide (a.take b.length=b))/\K=H:=by
 refine js Rl Kr (aV ?_);by_cases hl:b.length<=a.length
 ·exact rz (gy @cK @iw @zb @Nat.sub_zero);all_goals rfl
 have hd:decide (a.take b.length=b)=false:=decide_eq_false λe=>by
  have:=congrArg rN e;simp at this;omega
 rw[hd];exact rz (gK @cK @iw @zb)
theorem akx(H:CH)(a b:List UInt8)(ha:a.length<=100000)(hb:b.length<=100000):aR (ba Tryz.prog LG GG) 162 [.string (str a), .string (str b)] H λv K=>v= .bool (decide (a.take b.length=b))/\K=H:=by
 refine js Rl Kr (aV ?_);refine aC ?_;refine(akw H a b ha hb).mono λv K ⟨hv,hk⟩=> ?_;subst hv hk;exact aZ;all_goals rfl
theorem ab7{H:CH}{a b:List UInt8}(ha:a.length<=100000)(hb:b.length<=100000){Q:ae->CH->Prop}:aR (ba Tryz.prog LG GG) 162 [.string (str a), .string (str b)] H Q↔Q (.bool (decide (a.take b.length=b))) H:=ve (akx H a b ha hb)
theorem ab8{l:List UInt8}{i:Nat}(h:i<l.length):(str l)[i]! = l[i]:=by
 have h':i<(str l).size:=h;rw[getElem!_pos (str l) i h'];rfl
theorem Lf{l:List UInt8}{c:UInt8}:0<=firstIdx (str l) c↔c∈l:=by
 unfold firstIdx;cases a:(List.range (str l).size).find? λi=>(str l)[i]! == c with
 | some i=>
   have h1:=List.find?_some a;have h2:=List.mem_of_find?_eq_some a;have h3:i<l.length:=List.mem_range.1 h2;rw[ab8 h3] at h1;have:l[i]=c:=by simpa using h1
   simp only;exact⟨λ_=>this▸yy h3,λ_=>by omega⟩
 | none=>
   simp only;refine⟨λh=>by omega,λh=> ?_⟩;obtain⟨i,hi,rfl⟩:=List.getElem_of_mem h;have:=List.find?_eq_none.1 a i (List.mem_range.2 hi);rw[ab8 hi] at this;simp at this
theorem ab9{c:UInt8}:c.toNat.toUInt8=c:=by simp
def UH(H K:CH)(l:List UInt8)(c:UInt8)(v:ae):Prop:=(∃x:Int,v= .int .i64 x/\(0<=x↔c∈l))/\K=H
theorem aky(H:CH)(l:List UInt8)(c:UInt8):aR (ba Tryz.prog LG GG) 181 [.string (str l), .int .u8 c.toNat] H λv K=>UH H K l c v:=by
 refine js Rl Kr (aV ?_);refine rn @abZ ?_;all_goals exact⟨⟨_,rfl,by rw[ab9];exact Lf⟩,rfl⟩
theorem akz(H:CH)(l:List UInt8)(c:UInt8):aR (ba Tryz.prog LG GG) 181 [.string (str l), .int .u8 c.toNat] H λv K=>v= .int .i64 (firstIdx (str l) c)/\K=H:=by
 refine js Rl Kr (aV ?_);exact rz (an @abZ @ab9)
theorem akA(H:CH)(l:List UInt8)(c:UInt8):aR (ba Tryz.prog LG GG) 164 [.string (str l), .int .u8 c.toNat] H λv K=>v= .int .i64 (firstIdx (str l) c)/\K=H:=by
 refine js Rl Kr (aV ?_);refine aC ?_;refine(akz H l c).mono λv K ⟨hv,hk⟩=> ?_;subst hv hk;exact aZ;all_goals rfl
theorem ab'{H:CH}{l:List UInt8}{c:UInt8}{Q:ae->CH->Prop}:aR (ba Tryz.prog LG GG) 164 [.string ⟨⟨l⟩⟩, .int .u8 c.toNat] H Q↔Q (.int .i64 (firstIdx (str l) c)) H:=ve (akA H l c)
theorem akB(H:CH)(l:List UInt8)(c:UInt8):aR (ba Tryz.prog LG GG) 188 [.string (str l), .string (str [c])] H λv K=>UH H K l c v:=by
 refine js Rl Kr (aV ?_);by_cases he : [c]=l
 ·repeat' (first | (simp (disch:=first | omega | (decide +kernel)) only[↓RD,RU,↓aP,↓aT,↓bf,bK,fS,pop,bT,jc,dV,↓reduceIte,Nat.reduceEqDiff,Int.reduceOfNat,Int.reduceNegSucc,reduceCtorEq,cK,zb,he]) | ((with_reducible first|apply aF|apply aG|apply aH)<;>intro _))
  all_goals exact⟨⟨0,rfl,λ_=>by rw[<-he];exact List.mem_singleton.2 rfl,λ_=>Int.le_refl _⟩,rfl⟩
 refine rn (gy @cK @jt @zb @he) ?_;refine(aky H l c).mono λv K ⟨⟨x,hv,hx⟩,hk⟩=> ?_;subst hv hk;repeat' (first | (simp (disch:=first | omega | (decide +kernel)) only[↓RD,RU,↓aP,↓aT,pop,bT,jc,dV,↓reduceIte]) | ((with_reducible first|apply aF|apply aG|apply aH)<;>intro _))
 all_goals exact⟨⟨x,rfl,hx⟩,rfl⟩
theorem akC(H:CH)(l:List UInt8)(c:UInt8):aR (ba Tryz.prog LG GG) 180 [.string (str l), .string (str [c])] H λv K=>UH H K l c v:=by
 refine js Rl Kr (aV ?_);refine aC ?_;refine(akB H l c).mono λv K ⟨⟨x,hv,hx⟩,hk⟩=> ?_;subst hv hk;refine aC ?_;all_goals exact⟨⟨x,rfl,hx⟩,rfl⟩
theorem akD(H:CH)(l:List UInt8)(c:UInt8):aR (ba Tryz.prog LG GG) 163 [.string (str l), .string (str [c])] H λv K=>v= .bool (decide (c∈l))/\K=H:=by
 refine js Rl Kr (aV ?_);refine aC ?_;refine(akC H l c).mono λv K ⟨⟨x,hv,hx⟩,hk⟩=> ?_;subst hv hk;refine aC ?_;all_goals exact congrArg Value.bool (decide_eq_decide.2 hx)
theorem akE{H:CH}{l:List UInt8}{c:UInt8}{Q:ae->CH->Prop}:aR (ba Tryz.prog LG GG) 163 [.string (str l), .string (str [c])] H Q↔Q (.bool (decide (c∈l))) H:=ve (akD H l c)
theorem akF{z:ae}:kB [z] 13= [z,z,z,z,z,z,z,z,z,z,z,z,z]:=by simp[kB,List.range,List.range.loop,Nat.mod_one]
def B1:List UInt8:= [40,91,123]
def B2:List UInt8:= [41,93,125]
theorem Lg{H:CH}{c:UInt8}{Q:ae->CH->Prop}:aR (ba Tryz.prog LG GG) 163 [.string ⟨⟨[ar 43,ar 45,ar 42,ar 47,ar 37,ar 61,ar 60,ar 62,ar 40,ar 41,ar 91,ar 93,ar 123,ar 125,ar 44,ar 58,ar 46]⟩⟩, .string ⟨[c].toArray⟩] H Q↔Q (.bool (decide (c∈S1))) H:=akE
theorem Lh{H:CH}{c:UInt8}{Q:ae->CH->Prop}:aR (ba Tryz.prog LG GG) 164 [.string ⟨⟨[ar 40,ar 91,ar 123]⟩⟩, .int .u8 c.toNat] H Q↔Q (.int .i64 (firstIdx (str B1) c)) H:=ab'
theorem Li{H:CH}{c:UInt8}{Q:ae->CH->Prop}:aR (ba Tryz.prog LG GG) 164 [.string ⟨⟨[ar 41,ar 93,ar 125]⟩⟩, .int .u8 c.toNat] H Q↔Q (.int .i64 (firstIdx (str B2) c)) H:=ab'
def SY:List (List UInt8):=S3++S2
def UI(A K:CH)(p:Nat)(src:List UInt8)(s:RS)(vo:ae)(m:Nat)(r:Option Nat):Prop:=match r with
 | some n=>∃a,bG A K p src (ki { ax s n with dep:=nf s.dep 9 ((src.drop s.pos).take n) } 9 s.line ((src.drop s.pos).take n)) vo a m
 | none=>UE A K p src s vo m
theorem aca{x:List UInt8}(h:x∈SY):(x∈S3/\x.length=3)\/(x∈S2/\x.length=2):=by
 have h3 : ∀x∈S3,x.length=3:=by decide
 have h2 : ∀x∈S2,x.length=2:=by decide
 rcases List.mem_append.1 h with g | g
 ·exact .inl ⟨g,h3 x g⟩
 exact .inr ⟨g,h2 x g⟩
theorem akG{i:Nat}(h:i<SY.length)(h2:SY[i].length=2):2<=i:=by
 rcases yx i 2 with g | g
 ·have:i=0\/i=1:=by omega
  rcases this with rfl | rfl
  ·exact absurd (show(3:Nat)=2 from h2) de
  exact absurd (show(3:Nat)=2 from h2) de
 exact g
theorem akH{i:Nat}(h:2<=i){y:List UInt8}(a:y∈S3):y∈SY.take i:=by
 have:SY.take i=S3++S2.take (i-2):=by
  unfold SY;rw[List.take_append,qD (show S3.length<=i from h)];rfl
 rw[this];exact tQ _ a
theorem akI{l:List UInt8}{i:Nat}(h:i<SY.length)(a:l.take SY[i].length=SY[i])(hb : ∀x∈SY.take i,l.take x.length≠x):sw l=some SY[i].length:=by
 unfold sw;rcases aca (yy h) with ⟨g,b⟩ | ⟨g,b⟩
 ·rw[b] at a⊢;rw[iP (by rw[a];exact g)]
 have hi:=akG h b;rw[b] at a⊢;rw[iN,iP (by rw[a];exact g)];intro hc;have hl:(l.take 3).length=3:=by
  have h3 : ∀x∈S3,x.length=3:=by decide
  exact h3 _ hc
 exact hb _ (akH hi hc) (by rw[hl])
theorem akJ{l:List UInt8}(hb : ∀x∈SY,l.take x.length≠x):sw l=if hd l∈S1.map UInt8.toNat then some 1 else none:=by
 have h3 : ∀x∈S3,x.length=3:=by decide
 have h2 : ∀x∈S2,x.length=2:=by decide
 unfold sw;rw[iN,iN];·intro hc;exact hb _ (Ed _ hc) (by rw[h2 _ hc])
 intro hc;exact hb _ (tQ _ hc) (by rw[h3 _ hc])
theorem akK{A K:CH}{p:Nat}{src:List UInt8}{s:RS}{vo vt:ae}{m:Nat}(h:bG A K p src s vo vt m)(hp:s.pos<src.length)(Y:s.err=0)(hb:s.out.length+s.cL.length<1000000)(qU:s.dep<100000) :
 aR (ba Tryz.prog LG GG) 136 [.pointer (some ⟨p,0,none⟩)] K λv K'=>UI A K' p src s vo m (sw (src.drop s.pos)):=by
 have jV:=h.sl;have ai:=h.ob;have dK:=h.pl;have Z:=h.bd.line;obtain⟨l,hl⟩ : ∃l,src.drop s.pos=l:=⟨_,rfl⟩;have JZ:l.length=src.length-s.pos:=by rw[<-hl];simp
 have T:l.take (src.length-s.pos)=l:=qD Om;have uY:0<l.length:=by omega
 unfold UI;rw[hl];refine js Rl Kr (aV ?_);refine rn @akF ?_;refine fC (λn fr w=>∃i,n=13-i/\i<=13/\fr 7= .int .i64 (i:Nat)/\(∀x∈SY.take i,l.take x.length≠x)/\w.ob K.nx= .cells (SY.map λx=> .string (str x)) 9 .ex/\K.nx<w.nx/\bG A w p src s vo vt m) (n:=13) ⟨0,rfl,Om,by(refine aC ?_;try rfl),λx hx=>(by simp at hx),?_,iC _,h.mv (by(repeat (first | assumption | exact ag.refl _ | (refine ag.set ?_ Fo _) | (refine ag.new ?_ _))))⟩ ?_;·rw[cV,iP rfl];rfl
 rintro n fr w ⟨i,rfl,arY,f7,O,U,Lj,h1⟩ a;have t:=h1.ob;have C8:=h1.pl;by_cases hi:i<13
 ·have b:i<SY.length:=hi;obtain⟨x,hx⟩ : ∃x,SY[i]=x:=⟨_,rfl⟩;have V:(SY.map λx=>(.string (str x):ae))[i]? = some (.string (str x)):=by rw[List.getElem?_map,bM b,hx];rfl
  have W:=aca (yy b);rw[hx] at W;have arZ:2<=x.length/\x.length<=3:=by rcases W with ⟨_,g⟩ | ⟨_,g⟩<;>omega
  by_cases z:l.take x.length=x
  ·have H:sw l=some x.length:=by rw[<-hx];exact akI b (by rw[hx];exact z) O
   have P:decide (l.take x.length=x)=true:=decide_eq_true z;have ar0:x.length<=l.length:=by
    have:=congrArg rN z;simp at this;omega
   rw[H];refine rn (Sb @a @f7 @U @V @t @cK @iw @hl @T @ab7 @P) ?_;refine(dz h1 9 s.line x hb).mono λv2 K2 ⟨qS,h2⟩=> ?_;have eZ:=h2.ob;have tm:=h2.pl;have Q:(ki s 9 s.line x).pos=s.pos:=rfl;have d:nf s.dep 9 x=s.dep:=by
    have n1:x ∉ [[40],[91],[123]]:=λhc=>by
     have : ∀y∈ [[(40:UInt8)],[91],[123]],y.length=1:=by decide
     have:=this x hc;omega
    have n2:x ∉ [[41],[93],[125]]:=λhc=>by
     have : ∀y∈ [[(41:UInt8)],[93],[125]],y.length=1:=by decide
     have:=this x hc;omega
    unfold nf;rw[iN (λg=>n1 g.2),iN (λg=>n2 g.2.1)]
   have h3:=h2.set (s':= { ki s 9 s.line x with pos:=s.pos+x.length }) rfl rfl ⟨by show s.pos+x.length<=_;omega,h2.bd.line,h2.bd.dep,h2.bd.err,h2.bd.wh,h2.bd.out⟩;refine rn (iD @a @eZ @Q @cK @toN) ?_;all_goals exact⟨qS,by rw[z,d];exact h3⟩
  have P:decide (l.take x.length=x)=false:=decide_eq_false z;refine rn (yB @a @f7 @U @V @t @cK @iw @hl @T @ab7 @P @n1) ?_;all_goals
   refine⟨_,Om,i+1,rfl,Om,rfl,λy hy=> ?_,Lj,h1⟩;rw[List.take_add_one,bM b,hx] at hy;rcases List.mem_append.1 hy with hy | hy
   ·exact O y hy
   have:y=x:=by simpa using hy
   rw[this];exact z
 have qG:i=13:=by omega
 subst qG;obtain⟨c,hc⟩ : ∃c,src[s.pos]=c:=⟨_,rfl⟩;have C:src[s.pos]? = some c:=by rw[O' hp,hc]
 have vk:hd l=c.toNat:=by rw[<-hl,nX hp,hc]
 have I:l.take 1= [c]:=by
  rw[<-hl,rQ hp,hc];rfl
 have H:=akJ (l:=l) λx hx=>O x (by rw[qD (show SY.length<=13 from al _)];exact hx);have D:hd l∈S1.map UInt8.toNat↔c∈S1:=by
  rw[vk];exact⟨λh=>by obtain⟨y,hy,e⟩:=List.mem_map.1 h;rwa [<-UInt8.toNat.inj e],λh=>List.mem_map.2 ⟨c,h,rfl⟩⟩
 by_cases J:c∈S1
 ·have B:decide (c∈S1)=true:=decide_eq_true J;rw[H,iP (D.2 J)];by_cases G:c∈B1
  ·have u9:decide (0<=firstIdx (str B1) c)=true:=decide_eq_true (Lf.2 G);have d:nf s.dep 9 [c]=s.dep+1:=by
    unfold nf;rw[iP ⟨rfl,by simp only[B1,ox,List.not_mem_nil,or_false] at G⊢;rcases G with rfl | rfl | rfl<;>simp⟩]
   have h4:=(h1.mv (K':=w.new (.cells [.int .u8 (c.toNat:Int)] 5 .ex)) (by(repeat (first | assumption | exact ag.refl _ | (refine ag.set ?_ Fo _) | (refine ag.new ?_ _))))).set (s':= { s with dep:=s.dep+1 }) rfl rfl ⟨h.bd.pos,h.bd.line,by show s.dep+1<=_;omega,h.bd.err,h.bd.wh,h.bd.out⟩;refine rn (NJ @a @f7 @t @cK @jt @C @Lb @Lg @Lh @Li @Ic @B @u9 @n1) ?_;all_goals
    refine(dz (h4.mv (by(repeat (first | assumption | exact ag.refl _ | (refine ag.set ?_ Fo _) | (refine ag.new ?_ _))))) 9 s.line [c] hb).mono λv5 L ⟨j,h5⟩=> ?_;have o:=h5.ob;have M:=h5.pl;have r:(ki { s with dep:=s.dep+1 } 9 s.line [c]).pos=s.pos:=rfl;refine rn (gy @a @o @r @n1) ?_;all_goals exact⟨j,by rw[I,d];exact h5.set (s':=ki { ax s 1 with dep:=s.dep+1 } 9 s.line [c]) rfl rfl ⟨by show s.pos+1<=_;omega,h5.bd.line,h5.bd.dep,h5.bd.err,h5.bd.wh,h5.bd.out⟩⟩
  have u9:decide (0<=firstIdx (str B1) c)=false:=decide_eq_false λg=>G (Lf.1 g);have R : [c] ∉ [[(40:UInt8)],[91],[123]]:=λg=>G (by simpa[B1] using g);by_cases N:c∈B2
  ·have b:decide (0<=firstIdx (str B2) c)=true:=decide_eq_true (Lf.2 N);have S : [c]∈ [[(41:UInt8)],[93],[125]]:=by simpa[B2] using N
   by_cases X:0<s.dep
   ·have d:nf s.dep 9 [c]=s.dep-1:=by
     unfold nf;rw[iN (λg=>R g.2),iP ⟨rfl,S,X⟩]
    have h4:=(h1.mv (K':=w.new (.cells [.int .u8 (c.toNat:Int)] 5 .ex)) (by(repeat (first | assumption | exact ag.refl _ | (refine ag.set ?_ Fo _) | (refine ag.new ?_ _))))).set (s':= { s with dep:=s.dep-1 }) rfl rfl ⟨h.bd.pos,h.bd.line,by show s.dep-1<=_;omega,h.bd.err,h.bd.wh,h.bd.out⟩;have y0:((s.dep:Nat):Int)-1=((s.dep-1:Nat):Int):=by omega
    refine rn (Sc @a @f7 @t @cK @jt @C @Lb @Lg @Lh @Li @Ic @B @u9 @b @y0) ?_;all_goals
     refine(dz (h4.mv (by(repeat (first | assumption | exact ag.refl _ | (refine ag.set ?_ Fo _) | (refine ag.new ?_ _))))) 9 s.line [c] hb).mono λv5 L ⟨j,h5⟩=> ?_;have o:=h5.ob;have M:=h5.pl;have r:(ki { s with dep:=s.dep-1 } 9 s.line [c]).pos=s.pos:=rfl;refine rn (gy @a @o @r @n1) ?_;all_goals exact⟨j,by rw[I,d];exact h5.set (s':=ki { ax s 1 with dep:=s.dep-1 } 9 s.line [c]) rfl rfl ⟨by show s.pos+1<=_;omega,h5.bd.line,h5.bd.dep,h5.bd.err,h5.bd.wh,h5.bd.out⟩⟩
   have d:nf s.dep 9 [c]=s.dep:=by
    unfold nf;rw[iN (λg=>R g.2),iN (λg=>X g.2.2)]
   refine rn (NJ @a @f7 @t @cK @jt @C @Lb @Lg @Lh @Li @Ic @B @u9 @b) ?_;all_goals
    refine(dz (h1.mv (by(repeat (first | assumption | exact ag.refl _ | (refine ag.set ?_ Fo _) | (refine ag.new ?_ _))))) 9 s.line [c] hb).mono λv5 L ⟨j,h5⟩=> ?_;have o:=h5.ob;have M:=h5.pl;have r:(ki s 9 s.line [c]).pos=s.pos:=rfl;refine rn (gy @a @o @r @n1) ?_;all_goals exact⟨j,by rw[I,d];exact h5.set (s':=ki { ax s 1 with dep:=s.dep } 9 s.line [c]) rfl rfl ⟨by show s.pos+1<=_;omega,h5.bd.line,h5.bd.dep,h5.bd.err,h5.bd.wh,h5.bd.out⟩⟩
  have b:decide (0<=firstIdx (str B2) c)=false:=decide_eq_false λg=>N (Lf.1 g);have S : [c] ∉ [[(41:UInt8)],[93],[125]]:=λg=>N (by simpa[B2] using g);have d:nf s.dep 9 [c]=s.dep:=by
   unfold nf;rw[iN (λg=>R g.2),iN (λg=>S g.2.1)]
  refine rn (NJ @a @f7 @t @cK @jt @C @Lb @Lg @Lh @Li @Ic @B @u9 @b) ?_;all_goals
   refine(dz (h1.mv (by(repeat (first | assumption | exact ag.refl _ | (refine ag.set ?_ Fo _) | (refine ag.new ?_ _))))) 9 s.line [c] hb).mono λv5 L ⟨j,h5⟩=> ?_;have o:=h5.ob;have M:=h5.pl;have r:(ki s 9 s.line [c]).pos=s.pos:=rfl;refine rn (gy @a @o @r @n1) ?_;all_goals exact⟨j,by rw[I,d];exact h5.set (s':=ki { ax s 1 with dep:=s.dep } 9 s.line [c]) rfl rfl ⟨by show s.pos+1<=_;omega,h5.bd.line,h5.bd.dep,h5.bd.err,h5.bd.wh,h5.bd.out⟩⟩
 have B:decide (c∈S1)=false:=decide_eq_false J;rw[H,iN (λg=>J (D.1 g))];refine rn (yB @a @f7 @t @cK @jt @C @Lb @Lg @Lh @Li @Ic @B) ?_;refine(Pc (h1.mv (by(repeat (first | assumption | exact ag.refl _ | (refine ag.set ?_ Fo _) | (refine ag.new ?_ _))))) s.line 20 Z de Y).mono λv4 K4 ⟨h4,_⟩=> ?_;have c8:=h4.ob;have lj:=h4.pl;refine rn (gK @a @c8 @Ic) ?_;all_goals
  refine(dz (h4.mv (by(repeat (first | assumption | exact ag.refl _ | (refine ag.set ?_ Fo _) | (refine ag.new ?_ _))))) 9 s.line [c] hb).mono λv5 L ⟨j,h5⟩=> ?_;have o:=h5.ob;have M:=h5.pl;have r:(ki { s with err:=20,wh:=s.line } 9 s.line [c]).pos=s.pos:=rfl;refine rn (gy @a @o @r @n1) ?_;all_goals exact⟨j,_,h5.set (s':=ki { ax s 1 with err:=20,wh:=s.line } 9 s.line [c]) rfl rfl ⟨by show s.pos+1<=_;omega,h5.bd.line,h5.bd.dep,h5.bd.err,h5.bd.wh,h5.bd.out⟩,rfl,rfl,rfl,rfl,by simp[ki,ax],iC _,by show s.pos+1<=_;omega,rfl⟩
end
section
open Go Go.RowKit
set_option maxHeartbeats 2000000
def ii (s:RS)(l:List UInt8):RS:=ki (if cr l=true then dj (ax s (bt l)) s.line 20 else ax s (bt l)) (gv l) s.line (l.take (bt l))
theorem Bl{l:List UInt8}{j:Nat}(h:dZ (hd (l.drop j))=true):j<l.length:=by
 rcases yx j l.length with g | g
 ·exact g
 rw[NG g] at h;cases h
theorem Ie:lg 101=true:=by decide
theorem acd:lg 46=false:=by decide
theorem If{l:List UInt8}:eA l<=l.length:=wI
theorem eU{s:RS}{a b:Nat}:(dj s a b).out=s.out/\(dj s a b).cL=s.cL:=by unfold dj;split<;>exact⟨rfl,rfl⟩
theorem akM{A K:CH}{p:Nat}{src:List UInt8}{s:RS}{vo vt:ae}{m:Nat}(h:bG A K p src s vo vt m)(hp:s.pos<src.length)(hdg:dZ (hd (src.drop s.pos))=true)(hb:s.out.length+s.cL.length<1000000) :
 aR (ba Tryz.prog LG GG) 134 [.pointer (some ⟨p,0,none⟩)] K λv K'=>∃iL,bG A K' p src (ii s (src.drop s.pos)) vo iL m:=by
 have jV:=h.sl;have ai:=h.ob;have dK:=h.pl;have dP:=h.bd.line;obtain⟨l,hl⟩ : ∃l,src.drop s.pos=l:=⟨_,rfl⟩;have JZ:l.length=src.length-s.pos:=by rw[<-hl];simp
 have L : ∀j,src.drop (s.pos+j)=l.drop j:=λj=>by rw[<-hl,ir]
 have T : ∀j:Nat,(eA (l.drop j):Nat)<=l.length-j:=λj=>by have:=If (l:=l.drop j);simpa using this
 rw[hl] at hdg⊢
 have ha0:0<eA l:=by
  have:=za (p:=dZ) (l:=l) (j:=0) Om (by simpa using hdg);simp only[ly] at this;unfold eA;omega
 refine js Rl Kr (aV ?_);refine rn @ai ?_;refine(C6 h Om).mono λv1 K1 h1=> ?_;rw[hl] at h1;obtain⟨a,ha⟩ : ∃a,eA l=a:=⟨_,rfl⟩;have sB:=If (l:=l);rw[ha] at h1 sB ha0;have gM:=h1.ob;have C8:=h1.pl;have Pj:(ax s a).pos=s.pos+a:=rfl;have U:= @mD _ _ _ _ _ _ _ _ h1;have V:= @Uw _ _ _ _ _ _ _ _ h1;have p2:= @ab0 _ _ _ _ _ _ _ _ h1;simp only[Pj,mP,L] at U V p2;by_cases hf:hd (l.drop a)=46/\dZ (hd (l.drop (a+1)))=true
 ·obtain⟨W,wK⟩:=hf;have ar1:a<l.length:=by
   have:=qb (l:=l.drop a) Om;simp at this;omega
  have hA:oV l=a+1+eA (l.drop (a+1)):=by
   unfold oV sv;rw[ha,ir,iP ⟨W,wK⟩];omega
  have hF:sv (l.drop (eA l))≠0:=by
   unfold sv;rw[ha,ir,iP ⟨W,wK⟩];omega
  refine rn (oA @U @V @W @kM @wK @gM @Pj @n1) ?_;refine(C6 (s:=ax s (a+1)) (h1.set (s':=ax s (a+1)) rfl rfl (vj h.bd Om)) (by show s.pos+(a+1)<=_;omega)).mono λv2 K2 h2=> ?_;have hq:(ax s (a+1)).pos=s.pos+(a+1):=rfl;rw[hq,L] at h2;have h2:bG A K2 p src (ax s (oV l)) vo vt m:=by
   have e:ax (ax s (a+1)) (eA (l.drop (a+1)))=ax s (oV l):=by rw[hA];simp only[ax];congr 1;omega
   rw[<-e];exact h2
  obtain⟨b,G⟩ : ∃b,oV l=b:=⟨_,rfl⟩;have X:b<=l.length:=by have:=T (a+1);rw[<-G,hA];omega
  rw[G] at h2;have eZ:=h2.ob;have tm:=h2.pl;have ig:(ax s b).pos=s.pos+b:=rfl;have q0:= @mD _ _ _ _ _ _ _ _ h2;have q1:= @Uw _ _ _ _ _ _ _ _ h2;have q2:= @ab0 _ _ _ _ _ _ _ _ h2;simp only[ig,mP,L] at q0 q1 q2;by_cases B:hd (l.drop b)=101
  ·by_cases P:dZ (hd (l.drop (b+1)))=true
   ·have C:kI (l.drop b)=2+eA (l.drop (b+2)):=by
     have aN:b+1<l.length:=by
      rcases yx (b+1) l.length with g | g
      ·exact g
      rw[NG g] at P;cases P
     unfold kI;rw[iP B,ir,iP P];have:=za (p:=dZ) aN P;unfold eA;rw[this];show 1+(nW dZ (l.drop (b+2))+1)=_;omega
    refine rn (Eh @q0 @q1 @q2 @B @kM @P @eZ @ig @n2) ?_;refine(C6 (s:=ax s (b+2)) (h2.set (s':=ax s (b+2)) rfl rfl (vj h.bd Om)) (by show s.pos+(b+2)<=_;omega)).mono λv3 Y h3=> ?_;have Z:(ax s (b+2)).pos=s.pos+(b+2):=rfl;rw[Z,L] at h3;have t:bt l=b+(2+eA (l.drop (b+2))):=by unfold bt;rw[G,C]
    have Ig:bt l<=l.length+2:=by have:=T (b+2);omega
    have h3:bG A Y p src (ax s (bt l)) vo vt m:=by
     have e:ax (ax s (b+2)) (eA (l.drop (b+2)))=ax s (bt l):=by rw[t];simp only[ax];congr 1;omega
     rw[<-e];exact h3
    have i:gv l=6:=by unfold gv;rw[iN];rintro⟨_,g⟩;rw[G,C] at g;omega
    have H:bt l<=l.length:=by rw[t];have:=T (b+2);have:=Bl P;omega
    obtain⟨n,hn⟩ : ∃n,bt l=n:=⟨_,rfl⟩;rw[hn] at h3 H;have z:=h3.ob;have R:=h3.pl;have u:(ax s n).pos=s.pos+n:=rfl;have w:= @mD _ _ _ _ _ _ _ _ h3;simp only[u,L] at w;have c:(l.take n).length=n:=by simp;omega
    have I:0<n:=by omega
    have J:(l.take n)[0]? = some l[0]:=by rw[ot,iP I];exact bM _
    have S:hd l=l[0].toNat:=by have:=nX (l:=l) (j:=0) Om;simpa using this
    cases d:lg (hd (l.drop n)) with
    | true=>
      have o:cr l=true:=by unfold cr;rw[hn,d];rfl
      refine rn (yB @z @u @cK @jt @iw @j6 @hl @w @ju @d @c @J) ?_;all_goals
       refine(lG h3 s.line 20 Om de).mono λv4 M h4=> ?_;have x:=h4.ob;have N:=h4.pl;have y:(dj (ax s n) s.line 20).line=s.line:=by unfold dj;split<;>rfl
       refine rn (an @x @y) ?_;refine(dz h4 6 s.line (l.take n) (by rw[eU.1,eU.2];exact hb)).mono λv5 D ⟨r,h5⟩=> ?_;repeat' (first | (simp (disch:=first | omega | (decide +kernel)) only[↓RD,RU,bT]) | ((with_reducible first|apply aF|apply aG|apply aH)<;>intro _))
       all_goals exact⟨r,by unfold ii;rw[iP o,hn,i];exact h5⟩
    | false=>
      repeat' (first | (simp (disch:=first | omega | (decide +kernel)) only[↓RD,RU,↓aP,↓aT,↓bf,bK,pop,aD,ρ0,ρ1,↓reduceIte,Nat.reduceEqDiff,reduceCtorEq,ρ5,ρ6,fF,ρ28,ρ29,z,u,cK,iw,j6,hl,w,ju,d,c]) | ((with_reducible first|apply aF|apply aG|apply aH)<;>intro _))
      all_goals first
       | (have o:cr l=true:=by
           unfold cr;rw[hn,i,d];simp;omega
          refine(lG h3 s.line 20 Om de).mono λv4 M h4=> ?_;have x:=h4.ob;have N:=h4.pl;have y:(dj (ax s n) s.line 20).line=s.line:=by unfold dj;split<;>rfl
          repeat' (first | (simp (disch:=first | omega | (decide +kernel)) only[↓RD,RU,↓aP,↓aT,bK,pop,aD,ρ0,ρ1,↓reduceIte,Nat.reduceEqDiff,reduceCtorEq,ρ5,ρ6,x,y]) | ((with_reducible first|apply aF|apply aG|apply aH)<;>intro _))
          refine(dz h4 6 s.line (l.take n) (by rw[eU.1,eU.2];exact hb)).mono λv5 D ⟨r,h5⟩=> ?_;repeat' (first | (simp (disch:=first | omega | (decide +kernel)) only[↓RD,RU,bT]) | ((with_reducible first|apply aF|apply aG|apply aH)<;>intro _))
          all_goals exact⟨r,by unfold ii;rw[iP o,hn,i];exact h5⟩)
       | (have o:cr l=false:=by
           unfold cr;rw[hn,i,d];simp;omega
          refine(dz h3 6 s.line (l.take n) hb).mono λv5 D ⟨r,h5⟩=> ?_;refine aC ?_;all_goals exact⟨r,by unfold ii;rw[iN (by simp[o]),hn,i];exact h5⟩)
   have Q:dZ (hd (l.drop (b+1)))=false:=by simpa using P
   by_cases qg:(hd (l.drop (b+1))=43\/hd (l.drop (b+1))=45)/\dZ (hd (l.drop (b+2)))=true
   ·obtain⟨jC,O⟩:=qg;have C:kI (l.drop b)=2+eA (l.drop (b+2)):=by
     unfold kI;rw[iP B,ir,ir,iN (by rw[Q];simp),iP ⟨jC,O⟩]
    rcases jC with jC | jC
    ·repeat' (first | (simp (disch:=first | omega | (decide +kernel)) only[↓RD,RU,↓aP,↓ez,↓aT,↓bf,bK,pop,aD,bD,isVal,bu,dp,ρ0,ρ1,↓reduceIte,Nat.reduceEqDiff,Nat.reduceAdd,reduceCtorEq,ρ5,ρ6,ρ7,ρ8,ρ17,ρ18,ρ19,ρ20,ρ22,ρ23,Kd.cD,ρ25,ρ26,Nat.reduceLeDiff,q0,q1,q2,B,kM,jC,(by simpa[jC] using Q:dZ 43=false),O,eZ,ig,n2]) | ((with_reducible first|apply aF|apply aG|apply aH)<;>intro _))
     refine(C6 (s:=ax s (b+2)) (h2.set (s':=ax s (b+2)) rfl rfl (vj h.bd Om)) (by show s.pos+(b+2)<=_;omega)).mono λv3 Y h3=> ?_;have Z:(ax s (b+2)).pos=s.pos+(b+2):=rfl;rw[Z,L] at h3;have t:bt l=b+(2+eA (l.drop (b+2))):=by unfold bt;rw[G,C]
     have Ig:bt l<=l.length+2:=by have:=T (b+2);omega
     have h3:bG A Y p src (ax s (bt l)) vo vt m:=by
      have e:ax (ax s (b+2)) (eA (l.drop (b+2)))=ax s (bt l):=by rw[t];simp only[ax];congr 1;omega
      rw[<-e];exact h3
     have i:gv l=6:=by unfold gv;rw[iN];rintro⟨_,g⟩;rw[G,C] at g;omega
     have H:bt l<=l.length:=by rw[t];have:=T (b+2);have:=Bl O;omega
     obtain⟨n,hn⟩ : ∃n,bt l=n:=⟨_,rfl⟩;rw[hn] at h3 H;have z:=h3.ob;have R:=h3.pl;have u:(ax s n).pos=s.pos+n:=rfl;have w:= @mD _ _ _ _ _ _ _ _ h3;simp only[u,L] at w;have c:(l.take n).length=n:=by simp;omega
     have I:0<n:=by omega
     have J:(l.take n)[0]? = some l[0]:=by rw[ot,iP I];exact bM _
     have S:hd l=l[0].toNat:=by have:=nX (l:=l) (j:=0) Om;simpa using this
     cases d:lg (hd (l.drop n)) with
     | true=>
       have o:cr l=true:=by unfold cr;rw[hn,d];rfl
       refine rn (yB @z @u @cK @jt @iw @j6 @hl @w @ju @d @c @J) ?_;all_goals
        refine(lG h3 s.line 20 Om de).mono λv4 M h4=> ?_;have x:=h4.ob;have N:=h4.pl;have y:(dj (ax s n) s.line 20).line=s.line:=by unfold dj;split<;>rfl
        refine rn (an @x @y) ?_;refine(dz h4 6 s.line (l.take n) (by rw[eU.1,eU.2];exact hb)).mono λv5 D ⟨r,h5⟩=> ?_;repeat' (first | (simp (disch:=first | omega | (decide +kernel)) only[↓RD,RU,bT]) | ((with_reducible first|apply aF|apply aG|apply aH)<;>intro _))
        all_goals exact⟨r,by unfold ii;rw[iP o,hn,i];exact h5⟩
     | false=>
       repeat' (first | (simp (disch:=first | omega | (decide +kernel)) only[↓RD,RU,↓aP,↓aT,↓bf,bK,pop,aD,ρ0,ρ1,↓reduceIte,Nat.reduceEqDiff,reduceCtorEq,ρ5,ρ6,fF,ρ28,ρ29,z,u,cK,iw,j6,hl,w,ju,d,c]) | ((with_reducible first|apply aF|apply aG|apply aH)<;>intro _))
       all_goals first
        | (have o:cr l=true:=by
            unfold cr;rw[hn,i,d];simp;omega
           refine(lG h3 s.line 20 Om de).mono λv4 M h4=> ?_;have x:=h4.ob;have N:=h4.pl;have y:(dj (ax s n) s.line 20).line=s.line:=by unfold dj;split<;>rfl
           repeat' (first | (simp (disch:=first | omega | (decide +kernel)) only[↓RD,RU,↓aP,↓aT,bK,pop,aD,ρ0,ρ1,↓reduceIte,Nat.reduceEqDiff,reduceCtorEq,ρ5,ρ6,x,y]) | ((with_reducible first|apply aF|apply aG|apply aH)<;>intro _))
           refine(dz h4 6 s.line (l.take n) (by rw[eU.1,eU.2];exact hb)).mono λv5 D ⟨r,h5⟩=> ?_;repeat' (first | (simp (disch:=first | omega | (decide +kernel)) only[↓RD,RU,bT]) | ((with_reducible first|apply aF|apply aG|apply aH)<;>intro _))
           all_goals exact⟨r,by unfold ii;rw[iP o,hn,i];exact h5⟩)
        | (have o:cr l=false:=by
            unfold cr;rw[hn,i,d];simp;omega
           refine(dz h3 6 s.line (l.take n) hb).mono λv5 D ⟨r,h5⟩=> ?_;refine aC ?_;all_goals exact⟨r,by unfold ii;rw[iN (by simp[o]),hn,i];exact h5⟩)
    repeat' (first | (simp (disch:=first | omega | (decide +kernel)) only[↓RD,RU,↓aP,↓ez,↓aT,↓bf,bK,pop,aD,bD,isVal,bu,dp,ρ0,ρ1,↓reduceIte,Nat.reduceEqDiff,Nat.reduceAdd,reduceCtorEq,ρ5,ρ6,ρ7,ρ8,ρ17,ρ18,ρ19,ρ20,ρ22,ρ23,Kd.cD,ρ25,ρ26,Nat.reduceLeDiff,q0,q1,q2,B,kM,jC,(by simpa[jC] using Q:dZ 45=false),O,eZ,ig,n2]) | ((with_reducible first|apply aF|apply aG|apply aH)<;>intro _))
    refine(C6 (s:=ax s (b+2)) (h2.set (s':=ax s (b+2)) rfl rfl (vj h.bd Om)) (by show s.pos+(b+2)<=_;omega)).mono λv3 Y h3=> ?_;have Z:(ax s (b+2)).pos=s.pos+(b+2):=rfl;rw[Z,L] at h3;have t:bt l=b+(2+eA (l.drop (b+2))):=by unfold bt;rw[G,C]
    have Ig:bt l<=l.length+2:=by have:=T (b+2);omega
    have h3:bG A Y p src (ax s (bt l)) vo vt m:=by
     have e:ax (ax s (b+2)) (eA (l.drop (b+2)))=ax s (bt l):=by rw[t];simp only[ax];congr 1;omega
     rw[<-e];exact h3
    have i:gv l=6:=by unfold gv;rw[iN];rintro⟨_,g⟩;rw[G,C] at g;omega
    have H:bt l<=l.length:=by rw[t];have:=T (b+2);have:=Bl O;omega
    obtain⟨n,hn⟩ : ∃n,bt l=n:=⟨_,rfl⟩;rw[hn] at h3 H;have z:=h3.ob;have R:=h3.pl;have u:(ax s n).pos=s.pos+n:=rfl;have w:= @mD _ _ _ _ _ _ _ _ h3;simp only[u,L] at w;have c:(l.take n).length=n:=by simp;omega
    have I:0<n:=by omega
    have J:(l.take n)[0]? = some l[0]:=by rw[ot,iP I];exact bM _
    have S:hd l=l[0].toNat:=by have:=nX (l:=l) (j:=0) Om;simpa using this
    cases d:lg (hd (l.drop n)) with
    | true=>
      have o:cr l=true:=by unfold cr;rw[hn,d];rfl
      refine rn (yB @z @u @cK @jt @iw @j6 @hl @w @ju @d @c @J) ?_;all_goals
       refine(lG h3 s.line 20 Om de).mono λv4 M h4=> ?_;have x:=h4.ob;have N:=h4.pl;have y:(dj (ax s n) s.line 20).line=s.line:=by unfold dj;split<;>rfl
       refine rn (an @x @y) ?_;refine(dz h4 6 s.line (l.take n) (by rw[eU.1,eU.2];exact hb)).mono λv5 D ⟨r,h5⟩=> ?_;repeat' (first | (simp (disch:=first | omega | (decide +kernel)) only[↓RD,RU,bT]) | ((with_reducible first|apply aF|apply aG|apply aH)<;>intro _))
       all_goals exact⟨r,by unfold ii;rw[iP o,hn,i];exact h5⟩
    | false=>
      repeat' (first | (simp (disch:=first | omega | (decide +kernel)) only[↓RD,RU,↓aP,↓aT,↓bf,bK,pop,aD,ρ0,ρ1,↓reduceIte,Nat.reduceEqDiff,reduceCtorEq,ρ5,ρ6,fF,ρ28,ρ29,z,u,cK,iw,j6,hl,w,ju,d,c]) | ((with_reducible first|apply aF|apply aG|apply aH)<;>intro _))
      all_goals first
       | (have o:cr l=true:=by
           unfold cr;rw[hn,i,d];simp;omega
          refine(lG h3 s.line 20 Om de).mono λv4 M h4=> ?_;have x:=h4.ob;have N:=h4.pl;have y:(dj (ax s n) s.line 20).line=s.line:=by unfold dj;split<;>rfl
          repeat' (first | (simp (disch:=first | omega | (decide +kernel)) only[↓RD,RU,↓aP,↓aT,bK,pop,aD,ρ0,ρ1,↓reduceIte,Nat.reduceEqDiff,reduceCtorEq,ρ5,ρ6,x,y]) | ((with_reducible first|apply aF|apply aG|apply aH)<;>intro _))
          refine(dz h4 6 s.line (l.take n) (by rw[eU.1,eU.2];exact hb)).mono λv5 D ⟨r,h5⟩=> ?_;repeat' (first | (simp (disch:=first | omega | (decide +kernel)) only[↓RD,RU,bT]) | ((with_reducible first|apply aF|apply aG|apply aH)<;>intro _))
          all_goals exact⟨r,by unfold ii;rw[iP o,hn,i];exact h5⟩)
       | (have o:cr l=false:=by
           unfold cr;rw[hn,i,d];simp;omega
          refine(dz h3 6 s.line (l.take n) hb).mono λv5 D ⟨r,h5⟩=> ?_;refine aC ?_;all_goals exact⟨r,by unfold ii;rw[iN (by simp[o]),hn,i];exact h5⟩)
   have C:kI (l.drop b)=0:=by
    unfold kI;rw[iP B,ir,ir,iN (by rw[Q];simp),iN qg]
   by_cases Bm:hd (l.drop (b+1))=43\/hd (l.drop (b+1))=45
   ·have O:dZ (hd (l.drop (b+2)))=false:=by
     cases q:dZ (hd (l.drop (b+2))) with
     | true=>exact absurd ⟨Bm,q⟩ qg
     | false=>rfl
    rcases Bm with jC | jC
    ·skip
     have t:bt l=b:=by unfold bt;rw[G,C];rfl
     have h3:bG A K2 p src (ax s (bt l)) vo vt m:=by rw[t];exact h2
     have i:gv l=6:=by unfold gv;rw[iN];rintro⟨g,_⟩;exact hF g
     have H:bt l<=l.length:=by rw[t];exact X
     have hn:=t;rw[hn] at h3 H;have z:=h3.ob;have R:=h3.pl;have u:(ax s b).pos=s.pos+b:=rfl;have w:= @mD _ _ _ _ _ _ _ _ h3;simp only[u,L] at w;have c:(l.take b).length=b:=by simp;omega
     have I:0<b:=by omega
     have J:(l.take b)[0]? = some l[0]:=by rw[ot,iP I];exact bM _
     have S:hd l=l[0].toNat:=by have:=nX (l:=l) (j:=0) Om;simpa using this
     have d:lg (hd (l.drop b))=true:=by rw[B];rfl
     have o:cr l=true:=by unfold cr;rw[hn,d];rfl
     repeat' (first | (simp (disch:=first | omega | (decide +kernel)) only[↓RD,RU,↓aP,↓aT,↓bf,bK,pop,aD,ρ0,ρ1,↓reduceIte,Nat.reduceEqDiff,reduceCtorEq,ρ5,ρ6,fF,ρ28,ρ29,q0,q1,q2,B,kM,jC,(by simpa[jC] using Q:dZ 43=false),O,Ie,z,u,cK,iw,j6,hl,ju]) | ((with_reducible first|apply aF|apply aG|apply aH)<;>intro _))
     all_goals
      refine(lG h3 s.line 20 Om de).mono λv4 M h4=> ?_;have x:=h4.ob;have N:=h4.pl;have y:(dj (ax s b) s.line 20).line=s.line:=by unfold dj;split<;>rfl
      refine rn (an @x @y) ?_;refine(dz h4 6 s.line (l.take b) (by rw[eU.1,eU.2];exact hb)).mono λv5 D ⟨r,h5⟩=> ?_;refine aC ?_;all_goals exact⟨r,by unfold ii;rw[iP o,hn,i];exact h5⟩
    skip
    have t:bt l=b:=by unfold bt;rw[G,C];rfl
    have h3:bG A K2 p src (ax s (bt l)) vo vt m:=by rw[t];exact h2
    have i:gv l=6:=by unfold gv;rw[iN];rintro⟨g,_⟩;exact hF g
    have H:bt l<=l.length:=by rw[t];exact X
    have hn:=t;rw[hn] at h3 H;have z:=h3.ob;have R:=h3.pl;have u:(ax s b).pos=s.pos+b:=rfl;have w:= @mD _ _ _ _ _ _ _ _ h3;simp only[u,L] at w;have c:(l.take b).length=b:=by simp;omega
    have I:0<b:=by omega
    have J:(l.take b)[0]? = some l[0]:=by rw[ot,iP I];exact bM _
    have S:hd l=l[0].toNat:=by have:=nX (l:=l) (j:=0) Om;simpa using this
    have d:lg (hd (l.drop b))=true:=by rw[B];rfl
    have o:cr l=true:=by unfold cr;rw[hn,d];rfl
    repeat' (first | (simp (disch:=first | omega | (decide +kernel)) only[↓RD,RU,↓aP,↓aT,↓bf,bK,pop,aD,ρ0,ρ1,↓reduceIte,Nat.reduceEqDiff,reduceCtorEq,ρ5,ρ6,fF,ρ28,ρ29,q0,q1,q2,B,kM,jC,(by simpa[jC] using Q:dZ 45=false),O,Ie,z,u,cK,iw,j6,hl,ju]) | ((with_reducible first|apply aF|apply aG|apply aH)<;>intro _))
    all_goals
     refine(lG h3 s.line 20 Om de).mono λv4 M h4=> ?_;have x:=h4.ob;have N:=h4.pl;have y:(dj (ax s b) s.line 20).line=s.line:=by unfold dj;split<;>rfl
     refine rn (an @x @y) ?_;refine(dz h4 6 s.line (l.take b) (by rw[eU.1,eU.2];exact hb)).mono λv5 D ⟨r,h5⟩=> ?_;refine aC ?_;all_goals exact⟨r,by unfold ii;rw[iP o,hn,i];exact h5⟩
   obtain⟨UL,UM⟩:hd (l.drop (b+1))≠43/\hd (l.drop (b+1))≠45:=⟨λe=>Bm (.inl e),λe=>Bm (.inr e)⟩;have t:bt l=b:=by unfold bt;rw[G,C];rfl
   have h3:bG A K2 p src (ax s (bt l)) vo vt m:=by rw[t];exact h2
   have i:gv l=6:=by unfold gv;rw[iN];rintro⟨g,_⟩;exact hF g
   have H:bt l<=l.length:=by rw[t];exact X
   have hn:=t;rw[hn] at h3 H;have z:=h3.ob;have R:=h3.pl;have u:(ax s b).pos=s.pos+b:=rfl;have w:= @mD _ _ _ _ _ _ _ _ h3;simp only[u,L] at w;have c:(l.take b).length=b:=by simp;omega
   have I:0<b:=by omega
   have J:(l.take b)[0]? = some l[0]:=by rw[ot,iP I];exact bM _
   have S:hd l=l[0].toNat:=by have:=nX (l:=l) (j:=0) Om;simpa using this
   have d:lg (hd (l.drop b))=true:=by rw[B];rfl
   have o:cr l=true:=by unfold cr;rw[hn,d];rfl
   refine rn (agG @q0 @q1 @q2 @B @kM @Q @UL @UM @Ie @z @u @cK @jt @iw @j6 @hl @w @ju @d @c @J) ?_;all_goals
    refine(lG h3 s.line 20 Om de).mono λv4 M h4=> ?_;have x:=h4.ob;have N:=h4.pl;have y:(dj (ax s b) s.line 20).line=s.line:=by unfold dj;split<;>rfl
    refine rn (an @x @y) ?_;refine(dz h4 6 s.line (l.take b) (by rw[eU.1,eU.2];exact hb)).mono λv5 D ⟨r,h5⟩=> ?_;refine aC ?_;all_goals exact⟨r,by unfold ii;rw[iP o,hn,i];exact h5⟩
  have C:kI (l.drop b)=0:=by
   unfold kI;rw[iN B]
  have t:bt l=b:=by unfold bt;rw[G,C];rfl
  have h3:bG A K2 p src (ax s (bt l)) vo vt m:=by rw[t];exact h2
  have i:gv l=6:=by unfold gv;rw[iN];rintro⟨g,_⟩;exact hF g
  have H:bt l<=l.length:=by rw[t];exact X
  have hn:=t;rw[hn] at h3 H;have z:=h3.ob;have R:=h3.pl;have u:(ax s b).pos=s.pos+b:=rfl;have w:= @mD _ _ _ _ _ _ _ _ h3;simp only[u,L] at w;have c:(l.take b).length=b:=by simp;omega
  have I:0<b:=by omega
  have J:(l.take b)[0]? = some l[0]:=by rw[ot,iP I];exact bM _
  have S:hd l=l[0].toNat:=by have:=nX (l:=l) (j:=0) Om;simpa using this
  cases d:lg (hd (l.drop b)) with
  | true=>
    have o:cr l=true:=by unfold cr;rw[hn,d];rfl
    refine rn (agD @q0 @q1 @q2 @B @kM @z @u @cK @jt @iw @j6 @hl @w @ju @d @c @J) ?_;all_goals
     refine(lG h3 s.line 20 Om de).mono λv4 M h4=> ?_;have x:=h4.ob;have N:=h4.pl;have y:(dj (ax s b) s.line 20).line=s.line:=by unfold dj;split<;>rfl
     refine rn (an @x @y) ?_;refine(dz h4 6 s.line (l.take b) (by rw[eU.1,eU.2];exact hb)).mono λv5 D ⟨r,h5⟩=> ?_;repeat' (first | (simp (disch:=first | omega | (decide +kernel)) only[↓RD,RU,bT]) | ((with_reducible first|apply aF|apply aG|apply aH)<;>intro _))
     all_goals exact⟨r,by unfold ii;rw[iP o,hn,i];exact h5⟩
  | false=>
    repeat' (first | (simp (disch:=first | omega | (decide +kernel)) only[↓RD,RU,↓aP,↓aT,↓bf,bK,pop,aD,ρ0,ρ1,↓reduceIte,Nat.reduceEqDiff,reduceCtorEq,ρ5,ρ6,fF,ρ28,ρ29,q0,z,u,cK,iw,j6,hl,ju,d,c]) | ((with_reducible first|apply aF|apply aG|apply aH)<;>intro _))
    all_goals first
     | (have o:cr l=true:=by
         unfold cr;rw[hn,i,d];simp;omega
        refine(lG h3 s.line 20 Om de).mono λv4 M h4=> ?_;have x:=h4.ob;have N:=h4.pl;have y:(dj (ax s b) s.line 20).line=s.line:=by unfold dj;split<;>rfl
        repeat' (first | (simp (disch:=first | omega | (decide +kernel)) only[↓RD,RU,↓aP,↓aT,bK,pop,aD,ρ0,ρ1,↓reduceIte,Nat.reduceEqDiff,reduceCtorEq,ρ5,ρ6,x,y]) | ((with_reducible first|apply aF|apply aG|apply aH)<;>intro _))
        refine(dz h4 6 s.line (l.take b) (by rw[eU.1,eU.2];exact hb)).mono λv5 D ⟨r,h5⟩=> ?_;repeat' (first | (simp (disch:=first | omega | (decide +kernel)) only[↓RD,RU,bT]) | ((with_reducible first|apply aF|apply aG|apply aH)<;>intro _))
        all_goals exact⟨r,by unfold ii;rw[iP o,hn,i];exact h5⟩)
     | (have o:cr l=false:=by
         unfold cr;rw[hn,i,d];simp;omega
        refine(dz h3 6 s.line (l.take b) hb).mono λv5 D ⟨r,h5⟩=> ?_;refine aC ?_;all_goals exact⟨r,by unfold ii;rw[iN (by simp[o]),hn,i];exact h5⟩)
 have hA:oV l=a:=by
  unfold oV sv;rw[ha,ir,iN hf];rfl
 have hF:sv (l.drop (eA l))=0:=by
  unfold sv;rw[ha,ir,iN hf]
 by_cases W:hd (l.drop a)=46
 ·have wK:dZ (hd (l.drop (a+1)))=false:=by
   cases q:dZ (hd (l.drop (a+1))) with
   | true=>exact absurd ⟨W,q⟩ hf
   | false=>rfl
  have G:=hA;have X:a<=l.length:=sB;have h2:=h1;have eZ:=gM;have tm:=C8;have ig:=Pj;by_cases B:hd (l.drop a)=101
  ·rw[W] at B;exact absurd B de
  have C:kI (l.drop a)=0:=by
   unfold kI;rw[iN B]
  have t:bt l=a:=by unfold bt;rw[G,C];rfl
  have h3:bG A K1 p src (ax s (bt l)) vo vt m:=by rw[t];exact h2
  have i:gv l=5:=by unfold gv;rw[iP ⟨hF,by rw[G,C]⟩]
  have H:bt l<=l.length:=by rw[t];exact X
  have hn:=t;rw[hn] at h3 H;have z:=h3.ob;have R:=h3.pl;have u:(ax s a).pos=s.pos+a:=rfl;have w:= @mD _ _ _ _ _ _ _ _ h3;simp only[u,L] at w;have c:(l.take a).length=a:=by simp;omega
  have I:0<a:=by omega
  have J:(l.take a)[0]? = some l[0]:=by rw[ot,iP I];exact bM _
  have S:hd l=l[0].toNat:=by have:=nX (l:=l) (j:=0) Om;simpa using this
  cases d:lg (hd (l.drop a)) with
  | true=>
    have o:cr l=true:=by unfold cr;rw[hn,d];rfl
    refine rn (YM @W @wK @U @V @p2 @B @kM @acd @z @u @cK @jt @iw @j6 @hl @w @ju @d @c @J) ?_;all_goals
     refine(lG h3 s.line 20 Om de).mono λv4 M h4=> ?_;have x:=h4.ob;have N:=h4.pl;have y:(dj (ax s a) s.line 20).line=s.line:=by unfold dj;split<;>rfl
     refine rn (an @x @y) ?_;refine(dz h4 5 s.line (l.take a) (by rw[eU.1,eU.2];exact hb)).mono λv5 D ⟨r,h5⟩=> ?_;refine aC ?_;all_goals exact⟨r,by unfold ii;rw[iP o,hn,i];exact h5⟩
  | false=>
    refine rn (YM @W @wK @U @V @p2 @B @kM @acd @z @u @cK @jt @iw @j6 @hl @w @ju @d @c @J) ?_;all_goals first
     | (have o:cr l=true:=by
         unfold cr;rw[hn,i,d];simp;omega
        refine(lG h3 s.line 20 Om de).mono λv4 M h4=> ?_;have x:=h4.ob;have N:=h4.pl;have y:(dj (ax s a) s.line 20).line=s.line:=by unfold dj;split<;>rfl
        refine rn (an @x @y) ?_;refine(dz h4 5 s.line (l.take a) (by rw[eU.1,eU.2];exact hb)).mono λv5 D ⟨r,h5⟩=> ?_;refine aC ?_;all_goals exact⟨r,by unfold ii;rw[iP o,hn,i];exact h5⟩)
     | (have o:cr l=false:=by
         unfold cr;rw[hn,i,d];simp;omega
        refine(dz h3 5 s.line (l.take a) hb).mono λv5 D ⟨r,h5⟩=> ?_;exact aZ;all_goals exact⟨r,by unfold ii;rw[iN (by simp[o]),hn,i];exact h5⟩)
 have G:=hA;have X:a<=l.length:=sB;have h2:=h1;have eZ:=gM;have tm:=C8;have ig:=Pj;by_cases B:hd (l.drop a)=101
 ·by_cases P:dZ (hd (l.drop (a+1)))=true
  ·have C:kI (l.drop a)=2+eA (l.drop (a+2)):=by
    have aN:a+1<l.length:=by
     rcases yx (a+1) l.length with g | g
     ·exact g
     rw[NG g] at P;cases P
    unfold kI;rw[iP B,ir,iP P];have:=za (p:=dZ) aN P;unfold eA;rw[this];show 1+(nW dZ (l.drop (a+2))+1)=_;omega
   refine rn (xf @W @U @V @p2 @B @kM @P @eZ @ig @n2) ?_;refine(C6 (s:=ax s (a+2)) (h2.set (s':=ax s (a+2)) rfl rfl (vj h.bd Om)) (by show s.pos+(a+2)<=_;omega)).mono λv3 Y h3=> ?_;have Z:(ax s (a+2)).pos=s.pos+(a+2):=rfl;rw[Z,L] at h3;have t:bt l=a+(2+eA (l.drop (a+2))):=by unfold bt;rw[G,C]
   have Ig:bt l<=l.length+2:=by have:=T (a+2);omega
   have h3:bG A Y p src (ax s (bt l)) vo vt m:=by
    have e:ax (ax s (a+2)) (eA (l.drop (a+2)))=ax s (bt l):=by rw[t];simp only[ax];congr 1;omega
    rw[<-e];exact h3
   have i:gv l=6:=by unfold gv;rw[iN];rintro⟨_,g⟩;rw[G,C] at g;omega
   have H:bt l<=l.length:=by rw[t];have:=T (a+2);have:=Bl P;omega
   obtain⟨n,hn⟩ : ∃n,bt l=n:=⟨_,rfl⟩;rw[hn] at h3 H;have z:=h3.ob;have R:=h3.pl;have u:(ax s n).pos=s.pos+n:=rfl;have w:= @mD _ _ _ _ _ _ _ _ h3;simp only[u,L] at w;have c:(l.take n).length=n:=by simp;omega
   have I:0<n:=by omega
   have J:(l.take n)[0]? = some l[0]:=by rw[ot,iP I];exact bM _
   have S:hd l=l[0].toNat:=by have:=nX (l:=l) (j:=0) Om;simpa using this
   cases d:lg (hd (l.drop n)) with
   | true=>
     have o:cr l=true:=by unfold cr;rw[hn,d];rfl
     refine rn (yB @z @u @cK @jt @iw @j6 @hl @w @ju @d @c @J) ?_;all_goals
      refine(lG h3 s.line 20 Om de).mono λv4 M h4=> ?_;have x:=h4.ob;have N:=h4.pl;have y:(dj (ax s n) s.line 20).line=s.line:=by unfold dj;split<;>rfl
      refine rn (an @x @y) ?_;refine(dz h4 6 s.line (l.take n) (by rw[eU.1,eU.2];exact hb)).mono λv5 D ⟨r,h5⟩=> ?_;repeat' (first | (simp (disch:=first | omega | (decide +kernel)) only[↓RD,RU,bT]) | ((with_reducible first|apply aF|apply aG|apply aH)<;>intro _))
      all_goals exact⟨r,by unfold ii;rw[iP o,hn,i];exact h5⟩
   | false=>
     repeat' (first | (simp (disch:=first | omega | (decide +kernel)) only[↓RD,RU,↓aP,↓aT,↓bf,bK,pop,aD,ρ0,ρ1,↓reduceIte,Nat.reduceEqDiff,reduceCtorEq,ρ5,ρ6,fF,ρ28,ρ29,z,u,cK,iw,j6,hl,w,ju,d,c]) | ((with_reducible first|apply aF|apply aG|apply aH)<;>intro _))
     all_goals first
      | (have o:cr l=true:=by
          unfold cr;rw[hn,i,d];simp;omega
         refine(lG h3 s.line 20 Om de).mono λv4 M h4=> ?_;have x:=h4.ob;have N:=h4.pl;have y:(dj (ax s n) s.line 20).line=s.line:=by unfold dj;split<;>rfl
         repeat' (first | (simp (disch:=first | omega | (decide +kernel)) only[↓RD,RU,↓aP,↓aT,bK,pop,aD,ρ0,ρ1,↓reduceIte,Nat.reduceEqDiff,reduceCtorEq,ρ5,ρ6,x,y]) | ((with_reducible first|apply aF|apply aG|apply aH)<;>intro _))
         refine(dz h4 6 s.line (l.take n) (by rw[eU.1,eU.2];exact hb)).mono λv5 D ⟨r,h5⟩=> ?_;repeat' (first | (simp (disch:=first | omega | (decide +kernel)) only[↓RD,RU,bT]) | ((with_reducible first|apply aF|apply aG|apply aH)<;>intro _))
         all_goals exact⟨r,by unfold ii;rw[iP o,hn,i];exact h5⟩)
      | (have o:cr l=false:=by
          unfold cr;rw[hn,i,d];simp;omega
         refine(dz h3 6 s.line (l.take n) hb).mono λv5 D ⟨r,h5⟩=> ?_;refine aC ?_;all_goals exact⟨r,by unfold ii;rw[iN (by simp[o]),hn,i];exact h5⟩)
  have Q:dZ (hd (l.drop (a+1)))=false:=by simpa using P
  by_cases qg:(hd (l.drop (a+1))=43\/hd (l.drop (a+1))=45)/\dZ (hd (l.drop (a+2)))=true
  ·obtain⟨jC,O⟩:=qg;have C:kI (l.drop a)=2+eA (l.drop (a+2)):=by
    unfold kI;rw[iP B,ir,ir,iN (by rw[Q];simp),iP ⟨jC,O⟩]
   rcases jC with jC | jC
   ·repeat' (first | (simp (disch:=first | omega | (decide +kernel)) only[↓RD,RU,↓aP,↓ez,↓aT,↓bf,bK,pop,aD,bD,isVal,bu,dp,ρ0,ρ1,↓reduceIte,Nat.reduceEqDiff,Nat.reduceAdd,reduceCtorEq,ρ5,ρ6,ρ7,ρ8,ρ17,ρ18,ρ19,ρ20,ρ22,ρ23,Kd.cD,ρ25,ρ26,Nat.reduceLeDiff,U,V,p2,B,kM,jC,(by simpa[jC] using Q:dZ 43=false),O,eZ,ig,n2]) | ((with_reducible first|apply aF|apply aG|apply aH)<;>intro _))
    refine(C6 (s:=ax s (a+2)) (h2.set (s':=ax s (a+2)) rfl rfl (vj h.bd Om)) (by show s.pos+(a+2)<=_;omega)).mono λv3 Y h3=> ?_;have Z:(ax s (a+2)).pos=s.pos+(a+2):=rfl;rw[Z,L] at h3;have t:bt l=a+(2+eA (l.drop (a+2))):=by unfold bt;rw[G,C]
    have Ig:bt l<=l.length+2:=by have:=T (a+2);omega
    have h3:bG A Y p src (ax s (bt l)) vo vt m:=by
     have e:ax (ax s (a+2)) (eA (l.drop (a+2)))=ax s (bt l):=by rw[t];simp only[ax];congr 1;omega
     rw[<-e];exact h3
    have i:gv l=6:=by unfold gv;rw[iN];rintro⟨_,g⟩;rw[G,C] at g;omega
    have H:bt l<=l.length:=by rw[t];have:=T (a+2);have:=Bl O;omega
    obtain⟨n,hn⟩ : ∃n,bt l=n:=⟨_,rfl⟩;rw[hn] at h3 H;have z:=h3.ob;have R:=h3.pl;have u:(ax s n).pos=s.pos+n:=rfl;have w:= @mD _ _ _ _ _ _ _ _ h3;simp only[u,L] at w;have c:(l.take n).length=n:=by simp;omega
    have I:0<n:=by omega
    have J:(l.take n)[0]? = some l[0]:=by rw[ot,iP I];exact bM _
    have S:hd l=l[0].toNat:=by have:=nX (l:=l) (j:=0) Om;simpa using this
    cases d:lg (hd (l.drop n)) with
    | true=>
      have o:cr l=true:=by unfold cr;rw[hn,d];rfl
      refine rn (yB @z @u @cK @jt @iw @j6 @hl @w @ju @d @c @J) ?_;all_goals
       refine(lG h3 s.line 20 Om de).mono λv4 M h4=> ?_;have x:=h4.ob;have N:=h4.pl;have y:(dj (ax s n) s.line 20).line=s.line:=by unfold dj;split<;>rfl
       refine rn (an @x @y) ?_;refine(dz h4 6 s.line (l.take n) (by rw[eU.1,eU.2];exact hb)).mono λv5 D ⟨r,h5⟩=> ?_;repeat' (first | (simp (disch:=first | omega | (decide +kernel)) only[↓RD,RU,bT]) | ((with_reducible first|apply aF|apply aG|apply aH)<;>intro _))
       all_goals exact⟨r,by unfold ii;rw[iP o,hn,i];exact h5⟩
    | false=>
      repeat' (first | (simp (disch:=first | omega | (decide +kernel)) only[↓RD,RU,↓aP,↓aT,↓bf,bK,pop,aD,ρ0,ρ1,↓reduceIte,Nat.reduceEqDiff,reduceCtorEq,ρ5,ρ6,fF,ρ28,ρ29,z,u,cK,iw,j6,hl,w,ju,d,c]) | ((with_reducible first|apply aF|apply aG|apply aH)<;>intro _))
      all_goals first
       | (have o:cr l=true:=by
           unfold cr;rw[hn,i,d];simp;omega
          refine(lG h3 s.line 20 Om de).mono λv4 M h4=> ?_;have x:=h4.ob;have N:=h4.pl;have y:(dj (ax s n) s.line 20).line=s.line:=by unfold dj;split<;>rfl
          repeat' (first | (simp (disch:=first | omega | (decide +kernel)) only[↓RD,RU,↓aP,↓aT,bK,pop,aD,ρ0,ρ1,↓reduceIte,Nat.reduceEqDiff,reduceCtorEq,ρ5,ρ6,x,y]) | ((with_reducible first|apply aF|apply aG|apply aH)<;>intro _))
          refine(dz h4 6 s.line (l.take n) (by rw[eU.1,eU.2];exact hb)).mono λv5 D ⟨r,h5⟩=> ?_;repeat' (first | (simp (disch:=first | omega | (decide +kernel)) only[↓RD,RU,bT]) | ((with_reducible first|apply aF|apply aG|apply aH)<;>intro _))
          all_goals exact⟨r,by unfold ii;rw[iP o,hn,i];exact h5⟩)
       | (have o:cr l=false:=by
           unfold cr;rw[hn,i,d];simp;omega
          refine(dz h3 6 s.line (l.take n) hb).mono λv5 D ⟨r,h5⟩=> ?_;refine aC ?_;all_goals exact⟨r,by unfold ii;rw[iN (by simp[o]),hn,i];exact h5⟩)
   repeat' (first | (simp (disch:=first | omega | (decide +kernel)) only[↓RD,RU,↓aP,↓ez,↓aT,↓bf,bK,pop,aD,bD,isVal,bu,dp,ρ0,ρ1,↓reduceIte,Nat.reduceEqDiff,Nat.reduceAdd,reduceCtorEq,ρ5,ρ6,ρ7,ρ8,ρ17,ρ18,ρ19,ρ20,ρ22,ρ23,Kd.cD,ρ25,ρ26,Nat.reduceLeDiff,U,V,p2,B,kM,jC,(by simpa[jC] using Q:dZ 45=false),O,eZ,ig,n2]) | ((with_reducible first|apply aF|apply aG|apply aH)<;>intro _))
   refine(C6 (s:=ax s (a+2)) (h2.set (s':=ax s (a+2)) rfl rfl (vj h.bd Om)) (by show s.pos+(a+2)<=_;omega)).mono λv3 Y h3=> ?_;have Z:(ax s (a+2)).pos=s.pos+(a+2):=rfl;rw[Z,L] at h3;have t:bt l=a+(2+eA (l.drop (a+2))):=by unfold bt;rw[G,C]
   have Ig:bt l<=l.length+2:=by have:=T (a+2);omega
   have h3:bG A Y p src (ax s (bt l)) vo vt m:=by
    have e:ax (ax s (a+2)) (eA (l.drop (a+2)))=ax s (bt l):=by rw[t];simp only[ax];congr 1;omega
    rw[<-e];exact h3
   have i:gv l=6:=by unfold gv;rw[iN];rintro⟨_,g⟩;rw[G,C] at g;omega
   have H:bt l<=l.length:=by rw[t];have:=T (a+2);have:=Bl O;omega
   obtain⟨n,hn⟩ : ∃n,bt l=n:=⟨_,rfl⟩;rw[hn] at h3 H;have z:=h3.ob;have R:=h3.pl;have u:(ax s n).pos=s.pos+n:=rfl;have w:= @mD _ _ _ _ _ _ _ _ h3;simp only[u,L] at w;have c:(l.take n).length=n:=by simp;omega
   have I:0<n:=by omega
   have J:(l.take n)[0]? = some l[0]:=by rw[ot,iP I];exact bM _
   have S:hd l=l[0].toNat:=by have:=nX (l:=l) (j:=0) Om;simpa using this
   cases d:lg (hd (l.drop n)) with
   | true=>
     have o:cr l=true:=by unfold cr;rw[hn,d];rfl
     refine rn (yB @z @u @cK @jt @iw @j6 @hl @w @ju @d @c @J) ?_;all_goals
      refine(lG h3 s.line 20 Om de).mono λv4 M h4=> ?_;have x:=h4.ob;have N:=h4.pl;have y:(dj (ax s n) s.line 20).line=s.line:=by unfold dj;split<;>rfl
      refine rn (an @x @y) ?_;refine(dz h4 6 s.line (l.take n) (by rw[eU.1,eU.2];exact hb)).mono λv5 D ⟨r,h5⟩=> ?_;repeat' (first | (simp (disch:=first | omega | (decide +kernel)) only[↓RD,RU,bT]) | ((with_reducible first|apply aF|apply aG|apply aH)<;>intro _))
      all_goals exact⟨r,by unfold ii;rw[iP o,hn,i];exact h5⟩
   | false=>
     repeat' (first | (simp (disch:=first | omega | (decide +kernel)) only[↓RD,RU,↓aP,↓aT,↓bf,bK,pop,aD,ρ0,ρ1,↓reduceIte,Nat.reduceEqDiff,reduceCtorEq,ρ5,ρ6,fF,ρ28,ρ29,z,u,cK,iw,j6,hl,w,ju,d,c]) | ((with_reducible first|apply aF|apply aG|apply aH)<;>intro _))
     all_goals first
      | (have o:cr l=true:=by
          unfold cr;rw[hn,i,d];simp;omega
         refine(lG h3 s.line 20 Om de).mono λv4 M h4=> ?_;have x:=h4.ob;have N:=h4.pl;have y:(dj (ax s n) s.line 20).line=s.line:=by unfold dj;split<;>rfl
         repeat' (first | (simp (disch:=first | omega | (decide +kernel)) only[↓RD,RU,↓aP,↓aT,bK,pop,aD,ρ0,ρ1,↓reduceIte,Nat.reduceEqDiff,reduceCtorEq,ρ5,ρ6,x,y]) | ((with_reducible first|apply aF|apply aG|apply aH)<;>intro _))
         refine(dz h4 6 s.line (l.take n) (by rw[eU.1,eU.2];exact hb)).mono λv5 D ⟨r,h5⟩=> ?_;repeat' (first | (simp (disch:=first | omega | (decide +kernel)) only[↓RD,RU,bT]) | ((with_reducible first|apply aF|apply aG|apply aH)<;>intro _))
         all_goals exact⟨r,by unfold ii;rw[iP o,hn,i];exact h5⟩)
      | (have o:cr l=false:=by
          unfold cr;rw[hn,i,d];simp;omega
         refine(dz h3 6 s.line (l.take n) hb).mono λv5 D ⟨r,h5⟩=> ?_;refine aC ?_;all_goals exact⟨r,by unfold ii;rw[iN (by simp[o]),hn,i];exact h5⟩)
  have C:kI (l.drop a)=0:=by
   unfold kI;rw[iP B,ir,ir,iN (by rw[Q];simp),iN qg]
  by_cases Bm:hd (l.drop (a+1))=43\/hd (l.drop (a+1))=45
  ·have O:dZ (hd (l.drop (a+2)))=false:=by
    cases q:dZ (hd (l.drop (a+2))) with
    | true=>exact absurd ⟨Bm,q⟩ qg
    | false=>rfl
   rcases Bm with jC | jC
   ·skip
    have t:bt l=a:=by unfold bt;rw[G,C];rfl
    have h3:bG A K1 p src (ax s (bt l)) vo vt m:=by rw[t];exact h2
    have i:gv l=5:=by unfold gv;rw[iP ⟨hF,by rw[G,C]⟩]
    have H:bt l<=l.length:=by rw[t];exact X
    have hn:=t;rw[hn] at h3 H;have z:=h3.ob;have R:=h3.pl;have u:(ax s a).pos=s.pos+a:=rfl;have w:= @mD _ _ _ _ _ _ _ _ h3;simp only[u,L] at w;have c:(l.take a).length=a:=by simp;omega
    have I:0<a:=by omega
    have J:(l.take a)[0]? = some l[0]:=by rw[ot,iP I];exact bM _
    have S:hd l=l[0].toNat:=by have:=nX (l:=l) (j:=0) Om;simpa using this
    have d:lg (hd (l.drop a))=true:=by rw[B];rfl
    have o:cr l=true:=by unfold cr;rw[hn,d];rfl
    repeat' (first | (simp (disch:=first | omega | (decide +kernel)) only[↓RD,RU,↓aP,↓aT,↓bf,bK,pop,aD,ρ0,ρ1,↓reduceIte,Nat.reduceEqDiff,reduceCtorEq,ρ5,ρ6,fF,ρ28,ρ29,U,V,p2,B,kM,jC,(by simpa[jC] using Q:dZ 43=false),O,Ie,z,u,cK,iw,j6,hl,ju]) | ((with_reducible first|apply aF|apply aG|apply aH)<;>intro _))
    all_goals
     refine(lG h3 s.line 20 Om de).mono λv4 M h4=> ?_;have x:=h4.ob;have N:=h4.pl;have y:(dj (ax s a) s.line 20).line=s.line:=by unfold dj;split<;>rfl
     refine rn (an @x @y) ?_;refine(dz h4 5 s.line (l.take a) (by rw[eU.1,eU.2];exact hb)).mono λv5 D ⟨r,h5⟩=> ?_;refine aC ?_;all_goals exact⟨r,by unfold ii;rw[iP o,hn,i];exact h5⟩
   skip
   have t:bt l=a:=by unfold bt;rw[G,C];rfl
   have h3:bG A K1 p src (ax s (bt l)) vo vt m:=by rw[t];exact h2
   have i:gv l=5:=by unfold gv;rw[iP ⟨hF,by rw[G,C]⟩]
   have H:bt l<=l.length:=by rw[t];exact X
   have hn:=t;rw[hn] at h3 H;have z:=h3.ob;have R:=h3.pl;have u:(ax s a).pos=s.pos+a:=rfl;have w:= @mD _ _ _ _ _ _ _ _ h3;simp only[u,L] at w;have c:(l.take a).length=a:=by simp;omega
   have I:0<a:=by omega
   have J:(l.take a)[0]? = some l[0]:=by rw[ot,iP I];exact bM _
   have S:hd l=l[0].toNat:=by have:=nX (l:=l) (j:=0) Om;simpa using this
   have d:lg (hd (l.drop a))=true:=by rw[B];rfl
   have o:cr l=true:=by unfold cr;rw[hn,d];rfl
   repeat' (first | (simp (disch:=first | omega | (decide +kernel)) only[↓RD,RU,↓aP,↓aT,↓bf,bK,pop,aD,ρ0,ρ1,↓reduceIte,Nat.reduceEqDiff,reduceCtorEq,ρ5,ρ6,fF,ρ28,ρ29,U,V,p2,B,kM,jC,(by simpa[jC] using Q:dZ 45=false),O,Ie,z,u,cK,iw,j6,hl,ju]) | ((with_reducible first|apply aF|apply aG|apply aH)<;>intro _))
   all_goals
    refine(lG h3 s.line 20 Om de).mono λv4 M h4=> ?_;have x:=h4.ob;have N:=h4.pl;have y:(dj (ax s a) s.line 20).line=s.line:=by unfold dj;split<;>rfl
    refine rn (an @x @y) ?_;refine(dz h4 5 s.line (l.take a) (by rw[eU.1,eU.2];exact hb)).mono λv5 D ⟨r,h5⟩=> ?_;refine aC ?_;all_goals exact⟨r,by unfold ii;rw[iP o,hn,i];exact h5⟩
  obtain⟨UL,UM⟩:hd (l.drop (a+1))≠43/\hd (l.drop (a+1))≠45:=⟨λe=>Bm (.inl e),λe=>Bm (.inr e)⟩;have t:bt l=a:=by unfold bt;rw[G,C];rfl
  have h3:bG A K1 p src (ax s (bt l)) vo vt m:=by rw[t];exact h2
  have i:gv l=5:=by unfold gv;rw[iP ⟨hF,by rw[G,C]⟩]
  have H:bt l<=l.length:=by rw[t];exact X
  have hn:=t;rw[hn] at h3 H;have z:=h3.ob;have R:=h3.pl;have u:(ax s a).pos=s.pos+a:=rfl;have w:= @mD _ _ _ _ _ _ _ _ h3;simp only[u,L] at w;have c:(l.take a).length=a:=by simp;omega
  have I:0<a:=by omega
  have J:(l.take a)[0]? = some l[0]:=by rw[ot,iP I];exact bM _
  have S:hd l=l[0].toNat:=by have:=nX (l:=l) (j:=0) Om;simpa using this
  have d:lg (hd (l.drop a))=true:=by rw[B];rfl
  have o:cr l=true:=by unfold cr;rw[hn,d];rfl
  refine rn (agH @W @U @V @p2 @B @kM @Q @UL @UM @Ie @z @u @cK @jt @iw @j6 @hl @w @ju @d @c @J) ?_;all_goals
   refine(lG h3 s.line 20 Om de).mono λv4 M h4=> ?_;have x:=h4.ob;have N:=h4.pl;have y:(dj (ax s a) s.line 20).line=s.line:=by unfold dj;split<;>rfl
   refine rn (an @x @y) ?_;refine(dz h4 5 s.line (l.take a) (by rw[eU.1,eU.2];exact hb)).mono λv5 D ⟨r,h5⟩=> ?_;refine aC ?_;all_goals exact⟨r,by unfold ii;rw[iP o,hn,i];exact h5⟩
 have C:kI (l.drop a)=0:=by
  unfold kI;rw[iN B]
 have t:bt l=a:=by unfold bt;rw[G,C];rfl
 have h3:bG A K1 p src (ax s (bt l)) vo vt m:=by rw[t];exact h2
 have i:gv l=5:=by unfold gv;rw[iP ⟨hF,by rw[G,C]⟩]
 have H:bt l<=l.length:=by rw[t];exact X
 have hn:=t;rw[hn] at h3 H;have z:=h3.ob;have R:=h3.pl;have u:(ax s a).pos=s.pos+a:=rfl;have w:= @mD _ _ _ _ _ _ _ _ h3;simp only[u,L] at w;have c:(l.take a).length=a:=by simp;omega
 have I:0<a:=by omega
 have J:(l.take a)[0]? = some l[0]:=by rw[ot,iP I];exact bM _
 have S:hd l=l[0].toNat:=by have:=nX (l:=l) (j:=0) Om;simpa using this
 cases d:lg (hd (l.drop a)) with
 | true=>
   have o:cr l=true:=by unfold cr;rw[hn,d];rfl
   refine rn (agF @W @U @V @p2 @B @kM @z @u @cK @jt @iw @j6 @hl @w @ju @d @c @J) ?_;all_goals
    refine(lG h3 s.line 20 Om de).mono λv4 M h4=> ?_;have x:=h4.ob;have N:=h4.pl;have y:(dj (ax s a) s.line 20).line=s.line:=by unfold dj;split<;>rfl
    refine rn (an @x @y) ?_;refine(dz h4 5 s.line (l.take a) (by rw[eU.1,eU.2];exact hb)).mono λv5 D ⟨r,h5⟩=> ?_;repeat' (first | (simp (disch:=first | omega | (decide +kernel)) only[↓RD,RU,bT]) | ((with_reducible first|apply aF|apply aG|apply aH)<;>intro _))
    all_goals exact⟨r,by unfold ii;rw[iP o,hn,i];exact h5⟩
 | false=>
   repeat' (first | (simp (disch:=first | omega | (decide +kernel)) only[↓RD,RU,↓aP,↓aT,↓bf,bK,pop,aD,ρ0,ρ1,ρ4,↓reduceIte,Nat.reduceEqDiff,reduceCtorEq,ρ5,ρ6,fF,Int.reduceToNat,ρ28,ρ29,U,z,u,cK,jt,iw,j6,hl,ju,d,c,J]) | ((with_reducible first|apply aF|apply aG|apply aH)<;>intro _))
   all_goals first
    | (have o:cr l=true:=by
        unfold cr;rw[hn,i,d];simp;omega
       refine(lG h3 s.line 20 Om de).mono λv4 M h4=> ?_;have x:=h4.ob;have N:=h4.pl;have y:(dj (ax s a) s.line 20).line=s.line:=by unfold dj;split<;>rfl
       repeat' (first | (simp (disch:=first | omega | (decide +kernel)) only[↓RD,RU,↓aP,↓aT,bK,pop,aD,ρ0,ρ1,↓reduceIte,Nat.reduceEqDiff,reduceCtorEq,ρ5,ρ6,x,y]) | ((with_reducible first|apply aF|apply aG|apply aH)<;>intro _))
       refine(dz h4 5 s.line (l.take a) (by rw[eU.1,eU.2];exact hb)).mono λv5 D ⟨r,h5⟩=> ?_;repeat' (first | (simp (disch:=first | omega | (decide +kernel)) only[↓RD,RU,bT]) | ((with_reducible first|apply aF|apply aG|apply aH)<;>intro _))
       all_goals exact⟨r,by unfold ii;rw[iP o,hn,i];exact h5⟩)
    | (have o:cr l=false:=by
        unfold cr;rw[hn,i,d];simp;omega
       refine(dz h3 5 s.line (l.take a) hb).mono λv5 D ⟨r,h5⟩=> ?_;refine aC ?_;all_goals exact⟨r,by unfold ii;rw[iN (by simp[o]),hn,i];exact h5⟩)
end
section
open Go Go.RowKit
def UN(A K:CH)(p:Nat)(src:List UInt8)(s:RS)(vo:ae)(m:Nat)(r:Option (Nat×List UInt8×Nat)):Prop:=match r with
 | some (k,x,n)=>∃a,bG A K p src (ki { ax s n with dep:=nf s.dep k x } k s.line x) vo a m
 | none=>UE A K p src s vo m
theorem akN{l:List UInt8}:sv l<=l.length:=by
 unfold sv;split;·rename_i g;have h1:=Bl g.2;have:=If (l:=l.drop 1);simp only[ky] at this;omega
 omega
theorem akO{l:List UInt8}:kI l<=l.length:=by
 unfold kI;have h1:=If (l:=l.drop 1);have h2:=If (l:=l.drop 2);simp only[ky] at h1 h2;split
 ·split;·rename_i g;have:=Bl g;omega
  split;·rename_i g;have:=Bl g.2;omega
  omega
 omega
theorem akP{l:List UInt8}:bt l<=l.length:=by
 have h1:=If (l:=l);have h2:=akN (l:=l.drop (eA l));have h3:=akO (l:=l.drop (oV l));simp only[ky] at h2 h3;have h4:oV l=eA l+sv (l.drop (eA l)):=rfl;unfold bt;omega
theorem UO{d k:Nat}{x:List UInt8}(h:k≠9):nf d k x=d:=by
 unfold nf;rw[iN (λg=>h g.1),iN (λg=>h g.1)]
theorem UP{A K:CH}{p:Nat}{src:List UInt8}{s:RS}{vo vt:ae}{m:Nat}(h:bG A K p src s vo vt m)(hp:s.pos<src.length)(r:s.err=0)(hb:s.out.length+s.cL.length<1000000)(z:s.dep<100000) :
 aR (ba Tryz.prog LG GG) 98 [.pointer (some ⟨p,0,none⟩)] K λv K'=>UN A K' p src s vo m (kg (src.drop s.pos)):=by
 have G:=h.sl;have i:=h.ob;have H:=h.pl;have hg:=O' hp;obtain⟨c,hc⟩ : ∃c,src[s.pos]=c:=⟨_,rfl⟩;have d:hd (src.drop s.pos)=c.toNat:=by rw[nX hp,hc]
 rw[hc] at hg;refine js Rl Kr (aV ?_);cases a:lg c.toNat with
 | true=>
   have ht:kg (src.drop s.pos)=some (if (src.drop s.pos).take (nW lW (src.drop s.pos))∈vi then 8 else 4,(src.drop s.pos).take (nW lW (src.drop s.pos)),nW lW (src.drop s.pos)):=by
    unfold kg;rw[d,iP a]
   rw[ht];refine rn (iD @i @jt @hg @ju @a) ?_;refine(akp h hp hb).mono λt u ⟨j,h1⟩=> ?_;refine aC ?_;all_goals exact⟨j,by rw[UO (by split<;>decide)];exact h1⟩
 | false=>
   cases b:dZ c.toNat with
   | true=>
     refine rn (rT @i @jt @hg @ju @a @kM @b) ?_;refine(akM h hp (by rw[d];exact b) hb).mono λt u ⟨j,h1⟩=> ?_;have B:gv (src.drop s.pos)≠9:=by unfold gv;split<;>decide
     cases o:cr (src.drop s.pos) with
     | true=>
       have ht:kg (src.drop s.pos)=none:=by
        unfold kg;rw[d,iN (by simp[a]),iP b,iP o]
       rw[ht];unfold ii at h1;rw[iP o,UA (show(ax s _).err=0 from r)] at h1;have I:0<bt (src.drop s.pos):=by
        have:=za (p:=dZ) hp (by rw[d];exact b);unfold bt oV eA;omega
       have C:s.pos+bt (src.drop s.pos)<=src.length+4:=by
        have:=akP (l:=src.drop s.pos);simp at this;omega
       refine aC ?_;all_goals exact⟨j,_,h1,rfl,rfl,rfl,rfl,by simp[ki,ax],by show s.pos<s.pos+bt _;omega,C,rfl⟩
     | false=>
       have ht:kg (src.drop s.pos)=some (gv (src.drop s.pos),(src.drop s.pos).take (bt (src.drop s.pos)),bt (src.drop s.pos)):=by
        unfold kg;rw[d,iN (by simp[a]),iP b,iN (by simp[o])]
       rw[ht];unfold ii at h1;rw[iN (by simp[o])] at h1;repeat' (first | (simp (disch:=first | omega | (decide +kernel)) only[↓RD,RU,bT]) | ((with_reducible first|apply aF|apply aG|apply aH)<;>intro _))
       all_goals exact⟨j,by rw[UO B];exact h1⟩
   | false=>
     by_cases y:c.toNat=39\/c.toNat=34
     ·have ht:kg (src.drop s.pos)=(qd (hd (src.drop s.pos)) (src.drop (s.pos+1))).map λx=>(7,x.1,x.2+1):=by
       unfold kg;rw[d,iN (by simp[a]),iN (by simp[b]),iP y,ir]
      rw[ht];have fin : ∀K',UF A K' p src s vo m (qd (hd (src.drop s.pos)) (src.drop (s.pos+1)))->UN A K' p src s vo m ((qd (hd (src.drop s.pos)) (src.drop (s.pos+1))).map λx=>(7,x.1,x.2+1)):=λK' g=>by
       cases hs:qd (hd (src.drop s.pos)) (src.drop (s.pos+1)) with
       | none=>rw[hs] at g;exact g
       | some x=>rw[hs] at g;obtain⟨D,g⟩:=g;exact⟨D,by rw[UO de];exact g⟩
      have w:32<=hd (src.drop s.pos)/\hd (src.drop s.pos)≠92:=by rw[d];omega
      repeat' (first | (simp (disch:=first | omega | (decide +kernel)) only[↓RD,RU,↓aP,↓aT,↓bf,bK,pop,aD,ρ0,ρ1,ρ4,↓reduceIte,Nat.reduceEqDiff,Int.reduceOfNat,reduceCtorEq,ρ5,ρ6,ρ28,ρ29,i,jt,hg,ju,a,kM,b]) | ((with_reducible first|apply aF|apply aG|apply aH)<;>intro _))
      all_goals
       refine(aku h hp r w hb).mono λt u h1=> ?_;refine aC ?_;all_goals exact fin _ h1
     have ht:kg (src.drop s.pos)=(sw (src.drop s.pos)).map λn=>(9,(src.drop s.pos).take n,n):=by
      unfold kg;rw[d,iN (by simp[a]),iN (by simp[b]),iN y]
     rw[ht];refine rn (rT @i @jt @hg @ju @a @kM @b) ?_;all_goals
      refine(akK h hp r hb z).mono λt u h1=> ?_;refine aC ?_;all_goals
       unfold UI at h1;cases hs:sw (src.drop s.pos) with
       | none=>rw[hs] at h1;exact h1
       | some x=>rw[hs] at h1;exact h1
theorem akQ{A K:CH}{v:ae}{ns:List Nat}{n:Nat}(h:Ia A K v ns)(hA:ag A K)(hl:ns.length<1000000){Q:ae->CH->Prop}(k : ∀v' K',Ia A K' v' (ns++ [n])->ag A K'->K.nx<=K'.nx->(∀l,l<K.nx->(∀o n c,v≠ .slice (some ⟨l,o,none⟩) n c)->K'.ob l=K.ob l)->Q v' K') :
 CU (p9 3 1 8 v [.int .i64 n] 1 K) Q:=by
 obtain⟨b,kd,c,os,rfl,h1,h2,h3,h4,h5,r,f,j⟩:=h;rw[Ud,h3,Uc,iN de,iP ⟨rfl,rfl,h4,Om,rfl,Om,by rw[gZ];omega⟩,pE];have a : ∀H:CH,H.nx=K.nx->(H.new (.cells (os.take (ns.length*1)++ [.int .i64 (n:Int)]) 3 .gr)).ob K.nx= .cells (os.take (ns.length*1)++ [.int .i64 (n:Int)]) 3 .gr:=λH m=>by rw[cV,iP m.symm]
 have q : ∀i,i<(ns++ [n]).length->(os.take (ns.length*1)++ [.int .i64 (n:Int)])[i]? = some (.int .i64 ((ns++ [n]).getD i 0:Nat)):=λi hi=>by
  simp only[cO,List.length_singleton] at hi;by_cases d:i<ns.length
  ·rw[tP Sq,ot,iP Om,j i d];simp[List.getD,tP d]
  have:i=ns.length:=by omega
  subst this;rw[uN Sq];simp[List.getD,f]
 have e : ∀K':CH,K'.nx=K.nx+1->K'.ob K.nx= .cells (os.take (ns.length*1)++ [.int .i64 (n:Int)]) 3 .gr->Ia A K' (.slice (some ⟨K.nx,0,none⟩) (ns.length+1) (ns.length+1)) (ns++ [n]):=λK' g1 g2=>
  ⟨K.nx, .gr,ns.length+1,_,Sm,hA.nx,Om,g2,rfl,Sm,Om,Sq,q⟩
 unfold kC;split;·exact k _ _ (e _ rfl (a K rfl)) (hA.new _) (Nat.le_succ _) λl hl _=>by rw[cV,iN Om]
 refine k _ _ (e _ rfl (a (K.set b .dead) rfl)) ((hA.set h1 _).new _) (Nat.le_succ _) λl hl aA=> ?_;rw[cV,iN (by show ¬l=K.nx;omega),bP,iN];rintro rfl;exact aA _ _ _ rfl
theorem bG.ace{A K K':CH}{p:Nat}{src:List UInt8}{s:RS}{vo j vt:ae}{m:Nat}{ns:List Nat}(h:bG A K p src s vo vt m)(hb:s.out.length+ns.length<=1000000)(hx:ag A K')(hn:K.nx<=K'.nx)(hg:Ia A K' j ns)(hk : ∀l,l<K.nx->(∀o n c,vo≠ .slice (some ⟨l,o,none⟩) n c)->K'.ob l=K.ob l) :
 bG A (K'.set p (.cells [.string (str src), .int .i64 s.pos, .int .i64 s.line, .int .i64 s.dep,j,vt, .map (some m), .int .i64 s.err, .int .i64 s.wh] 110 .ex)) p src { s with cL:=ns } j vt m/\K'.ob p=K.ob p:=by
 have k:=h.ob;obtain⟨b,kd,c,os,h1,h2,h3,h4,h5⟩:=h.cL;have aA : ∀l,l≠b->∀o n c,vo≠ .slice (some ⟨l,o,none⟩) n c:=λl hl o n c hv=>by
  rw[h1] at hv;cases hv;exact hl rfl
 have t:p≠b:=λe=>by
  rw[<-e,k] at h4;have:=(cy.cells.inj h4).2.1;revert this;decide
 have q:m≠b:=λe=>by rw[<-e,h.mp] at h4;cases h4
 have hp:=(hk p h.pl (aA p t)).trans k;have r:=(hk m h.ml (aA m q)).trans h.mp;obtain⟨u,w,x,y,g1,g2,g3,g4,g5⟩:=hg;have a:u≠p:=λe=>by
  rw[e,hp] at g4;have:=(cy.cells.inj g4).2.1;revert this;decide
 have z:m≠p:=λe=>by rw[e,hp] at r;cases r
 refine⟨⟨by rw[bP,iP rfl],cj h.pl hn,h.pa,⟨u,w,x,y,g1,g2,g3,by rw[bP,iN a];exact g4,g5⟩,?_,by rw[bP,iN z];exact r,cj h.ml hn,h.ma,hx.set h.pa _,⟨h.bd.pos,h.bd.line,h.bd.dep,h.bd.err,h.bd.wh,hb⟩,h.sl⟩,hk p h.pl (aA p t)⟩;rcases h.out with g | ⟨b3,B,C,D,v,d,F⟩
 ·exact .inl g
 have f:b3≠b:=λe=>by
  rw[e,h4] at d;have:=(cy.cells.inj d).2.1;revert this;decide
 have i:b3≠p:=λe=>by
  rw[e,k] at d;have:=(cy.cells.inj d).2.1;revert this;decide
 exact .inr ⟨b3,B,C,D,cj v hn,by rw[bP,iN i];exact(hk b3 v (aA b3 f)).trans d,F⟩
theorem acf{n:Nat} : ∀ {st:List Nat},st.getLast? = some 0->∃k,(st.takeWhile λx=>decide (n<x)).length=k/\k<st.length/\(∀i,i<k->n<st.getD i 0)/\¬n<st.getD k 0/\(st.dropWhile λx=>decide (n<x))=st.drop k
 | [],h=>by cases h
 | a::r,h=>by
   by_cases ha:n<a
   ·cases r with
    | nil=>simp at h;omega
    | cons b r=>
      obtain⟨k,h1,h2,h3,h4,h5⟩:=acf (n:=n) (st:=b::r) (by simpa using h);refine⟨k+1,by rw[List.takeWhile_cons_of_pos (by simpa using ha)];simp[h1],by simp at h2⊢;omega,λi hi=> ?_,by simpa using h4,by rw[List.dropWhile_cons_of_pos (by simpa using ha),h5];rfl⟩;cases i with
      | zero=>exact ha
      | succ i=>simpa using h3 i Om
   exact⟨0,by rw[List.takeWhile_cons_of_neg (by simpa using ha)];rfl,Sm,λi hi=>absurd hi Om,by simpa using ha,by rw[List.dropWhile_cons_of_neg (by simpa using ha)];rfl⟩
theorem akR{b n c j:Nat}(h2:j+1<=c):sX 1 (.slice (some ⟨b,0,none⟩) n c) ((0:Nat):Int) ((j:Nat)+1:Int) (c:Int) false=some (.slice (some ⟨b,0,none⟩) (j+1) c):=by
 unfold sX;simp only[Bool.false_eq_true,iF];rw[iP Om,iN Om];have a:(((j:Nat):Int)+1-((0:Nat):Int)).toNat=j+1:=by omega
 have d:((c:Int)-((0:Nat):Int)).toNat=c:=by omega
 rw[a,d];rfl
theorem akS{K:CH}{b o n c e:Nat}{os:List ae}{kd:Kd}(h:K.ob b= .cells os e kd):pT K e (.slice (some ⟨b,o,none⟩) n c)=true:=by
 simp only[pT,h];cases kd<;>simp
def xO (s:RS)(st:List Nat)(n:Nat):RS:=if (jP s.line st n).2.headD 0=n then { s with out:=s.out++(jP s.line st n).1,cL:=(jP s.line st n).2.reverse } else { s with out:=s.out++(jP s.line st n).1,cL:=(jP s.line st n).2.reverse,err:=21,wh:=s.line }
theorem akT{A K:CH}{p:Nat}{src:List UInt8}{s:RS}{vo vt:ae}{m:Nat}(h:bG A K p src s vo vt m){st:List Nat}(t:s.cL=st.reverse)(hz:st.getLast? = some 0)(n:Nat)(hn:n<=100000)(h0:s.err=0)(hb:s.out.length+s.cL.length<400000) :
 aR (ba Tryz.prog LG GG) 97 [.pointer (some ⟨p,0,none⟩), .int .i64 n] K λv K'=>∃M iL,bG A K' p src (xO s st n) M iL m:=by
 have jV:=h.sl;have B:=h.ob;have dK:=h.pl;have dP:=h.bd.line;have N:s.cL.length=st.length:=by rw[t];simp
 have O:0<st.length:=by cases st with
  | nil=>cases hz
  | cons a r=>simp
 obtain⟨b,kd,c,os,xQ,o1,o2,o3,o4,o5,o6,o7,o8⟩:=h.cL;have fW : ∀i,i<st.length->os[st.length-1-i]? = some (.int .i64 (st.getD i 0:Nat)):=λi hi=>by
  rw[o8 _ Om,t];congr 3
  simp only[yw];rw[YC Om];congr 2;omega
 subst xQ;refine js Rl Kr (aV ?_);have P:=fW 0 O;have Q:((s.cL.length:Nat):Int)-1=((st.length-1-0:Nat):Int):=by omega
 by_cases u:st.headD 0<n
 ·have G1:st.getD 0 0<n:=by cases st with
   | nil=>exact u
   | cons a r=>exact u
  have x:jP s.line st n=([⟨2,s.line,[]⟩],n::st):=by unfold jP;rw[iP u]
  have y:ag K (K.new (.cells [.int .i64 (n:Int)] 3 .ex)):=by(repeat (first | assumption | exact ag.refl _ | (refine ag.set ?_ Fo _) | (refine ag.new ?_ _)))
  have vn:=(h.mv y).cL;repeat' (first | (simp (disch:=first | omega | (decide +kernel)) only[↓eF,↓dy,↓gX,↓gO,↓iI,↓eR,↓eS,↓dY,↓fB,↓ti,↓mz,↓aP,↓aT,↓bf,cV,dX,th,↓eQ,bK,fS,T4,jM,gY,pop,aD,da,fj,isVal,dp,dG,nz,fg,↓reduceIte,Nat.reduceEqDiff,Int.reduceOfNat,reduceCtorEq,fK,fL,cw,cX,qM,qQ,xI,List.take_succ_cons,tR,ly,jz,List.take_nil,yA,qB,tS,iv,Nat.reduceLeDiff,al,wB,iK,↓xH,qP,iP,iB,Nat.zero_add,Int.toNat_natCast,and_true,B,o3,Q,P]) | ((with_reducible first|apply aF|apply aG|apply aH)<;>intro _))
  refine akQ vn (h.E.trans y) Om λM K2 R j2 j3 j4=> ?_;obtain⟨h2,e2⟩:=(h.mv y).ace Sq j2 j3 R j4;have eZ:=e2.trans ((y.ob p dK).trans B);have Ib:=R;obtain⟨b2,lh,c2,oW,rfl,_⟩:=Ib;have JZ:(s.cL++ [n]).length=s.cL.length+1:=by simp
  rw[JZ] at h2;refine rn @eZ ?_;refine(dz h2 2 s.line [] Sq).mono λv3 K3 ⟨Fg,h3⟩=> ?_;refine aC ?_;all_goals
   have w:xO s st n=ki { s with cL:=s.cL++ [n] } 2 s.line []:=by
    unfold xO;rw[x];show(if n=n then _ else _)=_;rw[iP rfl];simp only[List.reverse_cons,<-t];rfl
   exact⟨.slice (some ⟨b2,0,none⟩) (s.cL.length+1) c2,Fg,by rw[w];exact h3⟩
 obtain⟨k,kH,S,xR,Da,C⟩:=acf (n:=n) hz;have x:jP s.line st n=(qA k ⟨3,s.line,[]⟩,st.drop k):=by unfold jP;rw[iN u,kH,C]
 have G1 : ¬st.getD 0 0<n:=by cases st with
  | nil=>exact absurd O Sm
  | cons a r=>exactλg=>u (by simpa using g)
 have jr:k=0\/0<k:=by omega
 refine rn (gy @B @o3 @Q @P) ?_;refine fC (λq fr D=>∃i T,q=k-i/\i<=k/\fr 4= .int .i64 ((st.length-1-i:Nat):Int)/\bG A D p src { s with out:=s.out++qA i ⟨3,s.line,[]⟩ } (.slice (some ⟨b,0,none⟩) s.cL.length c) T m) (n:=k) ⟨0,vt,rfl,Om,by exact aZ,by simpa using h⟩ ?_;rintro q fr D ⟨i,T,rfl,hi,f4,h1⟩ G;have z:=h1.ob;have C8:=h1.pl;obtain⟨b',nV,c',d,e',q1,q2,l,q4,q5,q6,q7,U⟩:=h1.cL;cases e';have q7':s.cL.length<=d.length:=q7;have q5':s.cL.length<=c:=q5;have V:b≠p:=λe=>by
  rw[e,z] at l;have:=(cy.cells.inj l).2.1;revert this;decide
 have H:d[st.length-1-i]? = some (.int .i64 (st.getD i 0:Nat)):=by
  rw[U _ (by show _<s.cL.length;omega)];show some (yv .i64 ((s.cL.getD (st.length-1-i) 0:Nat):Int))=_;rw[t];congr 3
  simp only[yw];rw[YC Om];congr 2;omega
 by_cases fP:i<k
 ·have zd:=xR i fP;refine rn (iD @G @z @l @f4 @H) ?_;refine(dz h1 3 s.line [] Sq).mono λv2 K2 ⟨qS,h2⟩=> ?_;have KD:((st.length-1-i:Nat):Int)-1=((st.length-1-(i+1):Nat):Int):=by omega
  refine rn (an @f4 @KD) ?_;all_goals exact⟨_,Om,i+1,qS,rfl,Om,rfl,by
   have e:s.out++qA (i+1) (⟨3,s.line,[]⟩:Tok)=(s.out++qA i ⟨3,s.line,[]⟩)++ [⟨3,s.line,[]⟩]:=by rw[List.replicate_succ',rP]
   rw[e];exact h2⟩
 have I:i=k:=by omega
 subst I;have W:= @akR b s.cL.length c (st.length-1-i) Om;have X:=akS (o:=0) (n:=s.cL.length) (c:=c) l;have J:(st.drop i).reverse.length=st.length-1-i+1:=by simp;omega
 have L:Ia A D (.slice (some ⟨b,0,none⟩) (st.length-1-i+1) c) (st.drop i).reverse:=⟨b,nV,c,d,by rw[J],q1,q2,l,q4,Om,q6,Om,λj hj=>by
  rw[U j (by show j<s.cL.length;omega)];show some (yv .i64 ((s.cL.getD j 0:Nat):Int))=_;rw[t];congr 3
  simp only[yw];rw[YC Om,YC Sq,sP];congr 2
  simp;omega⟩
 obtain⟨h2,_⟩:=h1.ace (ns:=(st.drop i).reverse) Sq h1.E (al _) L (λ_ _ _=>rfl);have Y:(st.drop i).headD 0=st.getD i 0:=by
  rw[rQ S];simp[List.getD,bM S]
 by_cases Z:st.getD i 0=n
 ·have w:xO s st n= { s with out:=s.out++qA i ⟨3,s.line,[]⟩,cL:=(st.drop i).reverse }:=by
   unfold xO;rw[x];show(if (st.drop i).headD 0=n then _ else _)=_;rw[iP (by rw[Y];exact Z)]
  rw[w];refine rn (oA @G @z @l @f4 @H @W @X @V) ?_;all_goals exact⟨_,_,h2⟩
 have w:xO s st n= { s with out:=s.out++qA i ⟨3,s.line,[]⟩,cL:=(st.drop i).reverse,err:=21,wh:=s.line }:=by
  unfold xO;rw[x];show(if (st.drop i).headD 0=n then _ else _)=_;rw[iN (by rw[Y];exact Z)]
 rw[w];refine rn (oA @G @z @l @f4 @H @W @X @V) ?_;all_goals
  refine(Pc h2 s.line 21 dP de h0).mono λv3 K3 ⟨h3,_⟩=> ?_;refine aC ?_;all_goals exact⟨_,_,h3⟩
end
section
def Nl (u:List UInt8):Prop:=u= []\/∃r,u=10::r
theorem Nl.hd{u:List UInt8}(h:Nl u):hd u=0\/hd u=10:=by
 rcases h with rfl | ⟨r,rfl⟩
 ·exact .inl rfl
 exact .inr rfl
theorem zf{t u:List UInt8}(h:Nl u):hd (t++u)=hd t\/(t= []/\hd (t++u)=10):=by
 cases t with
 | nil=>
   rcases h.hd with g | g
   ·exact .inl g
   exact .inr ⟨rfl,g⟩
 | cons c r=>exact .inl rfl
theorem xT{α:Type}{p:Nat->α}{t u:List UInt8}(h:Nl u)(hp:p 10=p 0):p (hd (t++u))=p (hd t):=by
 rcases zf (t:=t) h with g | ⟨rfl,g⟩
 ·rw[g]
 rw[g,hp];rfl
theorem Ll{p:Nat->Bool}(hp:p 10=false) : ∀ {t u:List UInt8},Nl u->nW p (t++u)=nW p t
 | [],u,h=>by
   rcases h with rfl | ⟨r,rfl⟩
   ·rfl
   show nW p (10::r)=0;rw[nW,iN (by show ¬p 10=true;simp[hp])]
 | c::t,u,h=>by
   simp only[jU,nW];rw[Ll hp h]
theorem tr{t u:List UInt8}{j:Nat}(h:j<=t.length):(t++u).drop j=t.drop j++u:=List.drop_append_of_le_length h
theorem Lm{t u:List UInt8}(h:Nl u):eA (t++u)=eA t:=Ll de h
theorem Ih{t:List UInt8}:eA t<=t.length:=wI
theorem Ln{t:List UInt8}(h:hd t≠0):1<=t.length:=qb h
theorem UT{t:List UInt8}{j:Nat}(h:dZ (hd (t.drop j))=true):j+1<=t.length:=by
 have:hd (t.drop j)≠0:=λe=>by rw[e] at h;cases h
 have:=qb this;simp at this;omega
theorem acg{t u:List UInt8}(h:Nl u):sv (t++u)=sv t:=by
 unfold sv;by_cases c:hd t=46
 ·have hl:=Ln (t:=t) Om;have a:hd (t++u)=46:=by
   rcases zf (t:=t) h with g | ⟨rfl,g⟩
   ·rw[g,c]
   cases c
  rw[tr hl,xT (p:=dZ) h de,Lm h,a,c]
 have a:hd (t++u)≠46:=by
  rcases zf (t:=t) h with g | ⟨rfl,g⟩
  ·rw[g];exact c
  rw[g];decide
 rw[iN (λg=>a g.1),iN (λg=>c g.1)]
theorem ach{t u:List UInt8}(h:Nl u):kI (t++u)=kI t:=by
 unfold kI;by_cases c:hd t=101
 ·have hl:=Ln (t:=t) Om;have b:hd (t++u)=101:=by
   rcases zf (t:=t) h with g | ⟨rfl,g⟩
   ·rw[g,c]
   cases c
  rw[iP b,iP c,tr hl,xT (p:=dZ) h de,Lm h];have d:(hd (t.drop 1++u)=43\/hd (t.drop 1++u)=45)↔(hd (t.drop 1)=43\/hd (t.drop 1)=45):=by
   exact decide_eq_decide.1 (xT (p:=λn=>decide (n=43\/n=45)) (t:=t.drop 1) h de)
  by_cases e:hd (t.drop 1)=43\/hd (t.drop 1)=45
  ·have f:2<=t.length:=by
    have:=Ln (t:=t.drop 1) Om;simp at this;omega
   rw[tr f,xT (p:=dZ) h de,Lm h];simp only[d]
  by_cases a:dZ (hd (t.drop 1))=true
  ·rw[iP a,iP a]
  rw[iN a,iN a,iN (λg=>e (d.1 g.1)),iN (λg=>e g.1)]
 have b:hd (t++u)≠101:=by
  rcases zf (t:=t) h with g | ⟨rfl,g⟩
  ·rw[g];exact c
  rw[g];decide
 rw[iN b,iN c]
theorem akY{l:List UInt8}:sv l<=l.length:=by
 unfold sv;split;·rename_i g;have h1:=UT g.2;have:=Ih (t:=l.drop 1);simp only[ky] at this;omega
 omega
theorem akZ{l:List UInt8}:kI l<=l.length:=by
 unfold kI;have h1:=Ih (t:=l.drop 1);have h2:=Ih (t:=l.drop 2);simp only[ky] at h1 h2;split
 ·split;·rename_i g;have:=UT g;omega
  split;·rename_i g;have:=UT g.2;omega
  omega
 omega
theorem UU{l:List UInt8}:oV l<=l.length:=by
 have h1:=Ih (t:=l);have h2:=akY (l:=l.drop (eA l));simp only[ky] at h2;unfold oV;omega
theorem UV{l:List UInt8}:bt l<=l.length:=by
 have h1:=UU (l:=l);have h3:=akZ (l:=l.drop (oV l));simp only[ky] at h3;unfold bt;omega
theorem aci{t u:List UInt8}(h:Nl u):oV (t++u)=oV t:=by
 unfold oV;rw[Lm h,tr Ih,acg h]
theorem acj{t u:List UInt8}(h:Nl u):bt (t++u)=bt t:=by
 unfold bt;rw[aci h,tr UU,ach h]
theorem ack{t u:List UInt8}(h:Nl u):gv (t++u)=gv t:=by
 unfold gv;rw[Lm h,aci h,tr Ih,tr UU,acg h,ach h]
theorem ak0{t u:List UInt8}(h:Nl u)(ht:0<t.length):cr (t++u)=cr t:=by
 unfold cr;rw[acj h,ack h,tr UV,xT (p:=lg) h de,xT (p:=λn=>decide (n=46)) h de];have:hd (t++u)=hd t:=by
  rcases zf (t:=t) h with g | ⟨rfl,_⟩
  ·exact g
  simp at ht
 rw[this]
theorem ak1{t u:List UInt8}(h:Nl u):jO (t++u)=jO t:=by
 unfold jO;by_cases c:hd t=120
 ·have hl:=Ln (t:=t) Om;have b:hd (t++u)=120:=by
   rcases zf (t:=t) h with g | ⟨rfl,g⟩
   ·rw[g,c]
   cases c
  rw[iP b,iP c,tr hl,xT (p:=qc) h de];by_cases a:qc (hd (t.drop 1))<16
  ·have d:2<=t.length:=by
    have:hd (t.drop 1)≠0:=λe=>by rw[e] at a;exact absurd a de
    have:=Ln this;simp at this;omega
   rw[tr d,xT (p:=qc) h de]
  rw[iN (λg=>a g.1),iN (λg=>a g.1)]
 have b:hd (t++u)≠120:=by
  rcases zf (t:=t) h with g | ⟨rfl,g⟩
  ·rw[g];exact c
  rw[g];decide
 rw[iN b,iN c,xT (p:=KZ) h de]
theorem acl{l:List UInt8}{b n:Nat}(h:jO l=some (b,n)):n<=l.length:=by
 unfold jO at h;split at h
 ·split at h
  ·rename_i g;cases h;have h2:hd (l.drop 2)≠0:=λe=>by have:=g.2;rw[e] at this;exact absurd this de
   have:=qb h2;simp at this;omega
  cases h
 split at h
 ·rename_i g1 g;cases h;have a:hd l≠0:=λe=>g (by rw[e];decide);exact qb a
 cases h
theorem UW{q:Nat}(a:32<=q) : ∀ {f:Nat} {t u:List UInt8},Nl u->kJ q f (t++u)=kJ q f t
 | 0,_,_,_=>rfl
 | f+1,t,u,h=>by
   by_cases ht:t= []
   ·subst ht;have:hd u=0\/hd u=10:=h.hd;simp only[mR,kJ];rw[iN Om,iP Om,iN (by show ¬(0=q);omega),iP (by show 0<32;decide)]
   have hl:1<=t.length:=by
    cases t with
    | nil=>exact absurd rfl ht
    | cons c r=>simp
   have he:hd (t++u)=hd t:=by
    rcases zf (t:=t) h with g | ⟨rfl,_⟩
    ·exact g
    exact absurd rfl ht
   simp only[kJ];rw[he,tr hl,UW a h,ak1 h];cases b:jO (t.drop 1) with
   | none=>rfl
   | some x=>
     have:=acl b;simp only[ky] at this;simp only;rw[tr Om,UW a h]
theorem UX{q:Nat} : ∀ {f g:Nat} {l:List UInt8},l.length<f->l.length<g->kJ q f l=kJ q g l
 | 0,_,_,h,_=>absurd h Om
 | _,0,_,_,h=>absurd h Om
 | f+1,g+1,l,c,hg=>by
   unfold kJ;by_cases a:hd l=q
   ·rw[iP a,iP a]
   rw[iN a,iN a];by_cases b:hd l<32
   ·rw[iP b,iP b]
   rw[iN b,iN b];have hl:0<l.length:=qb Om;by_cases c3:hd l=92
   ·rw[iN (by simpa using c3),iN (by simpa using c3)];cases jO (l.drop 1) with
    | none=>rfl
    | some x=>
      simp only;rw[UX (f:=f) (g:=g) Sq Sq]
   rw[iP c3,iP c3,UX (f:=f) (g:=g) Sq Sq]
theorem ak2{q:Nat}(a:32<=q){t u:List UInt8}(h:Nl u):qd q (t++u)=qd q t:=by
 unfold qd;rw[UW a h];exact UX Sq Om
theorem Pm{t u:List UInt8}{n:Nat}(h:n<=t.length):(t++u).take n=t.take n:=List.take_append_of_le_length h
theorem acm{t u:List UInt8}(h:Nl u){n:Nat}{S:List (List UInt8)}(b : ∀x∈S,x.length=n/\(10:UInt8)∉x):(t++u).take n∈S↔t.take n∈S:=by
 by_cases hl:n<=t.length
 ·rw[Pm hl]
 have c:t.take n=t:=qD Om;constructor
 ·intro a;obtain⟨h1,h2⟩:=b _ a;rcases h with rfl | ⟨r,rfl⟩
  ·simp at h1;omega
  exact absurd (by
   rw[List.take_append,c];refine Ed _ ?_;obtain⟨k,hk⟩ : ∃k,n-t.length=k+1:=⟨n-t.length-1,Om⟩;rw[hk];simp) h2
 intro a;have:=(b _ a).1;simp at this;omega
theorem ak3{t u:List UInt8}(h:Nl u):sw (t++u)=sw t:=by
 have h3 : ∀x∈S3,x.length=3/\(10:UInt8)∉x:=by decide
 have h2 : ∀x∈S2,x.length=2/\(10:UInt8)∉x:=by decide
 have h1:=xT (p:=λn=>decide (n∈S1.map UInt8.toNat)) (t:=t) h de;have a:=decide_eq_decide.1 h1;unfold sw;simp only[acm h h3,acm h h2,a]
theorem acn{l:List UInt8}{n:Nat}(h:sw l=some n):n<=l.length/\0<n:=by
 have h3 : ∀x∈S3,x.length=3:=by decide
 have h2 : ∀x∈S2,x.length=2:=by decide
 unfold sw at h;split at h;·rename_i g;cases h;have:=h3 _ g;simp at this;omega
 split at h;·rename_i g;cases h;have:=h2 _ g;simp at this;omega
 split at h
 ·rename_i g;cases h;have:hd l≠0:=λe=>by rw[e] at g;revert g;decide
  have:=qb this;omega
 cases h
theorem UY{q:Nat} : ∀ {f:Nat} {l x:List UInt8} {n:Nat},32<=q->kJ q f l=some (x,n)->n<=l.length
 | 0,_,_,_,_,h=>by cases h
 | f+1,l,x,n,d,h=>by
   simp only[kJ] at h;split at h;·rename_i c;cases h;exact qb Om
   split at h;·cases h
   rename_i i j;have hl:0<l.length:=qb Om;split at h;·rw[nB] at h;obtain⟨⟨y,k⟩,h1,h2⟩:=h;cases h2;have:=UY d h1;simp only[ky] at this;show k+1<=_;omega
   cases a:jO (l.drop 1) with
   | none=>rw[a] at h;cases h
   | some z=>
     obtain⟨b,e⟩:=z;rw[a] at h;simp only at h;rw[nB] at h;obtain⟨⟨y,k⟩,h1,h2⟩:=h;cases h2;have h3:=UY d h1;have h4:=acl a;simp only[ky] at h3 h4;show k+(1+e)<=_;omega
theorem ak4{t u:List UInt8}(h:Nl u):nW lW (t++u)=nW lW t:=Ll de h
theorem UZ{t u:List UInt8}(h:Nl u)(ht:0<t.length):kg (t++u)=kg t:=by
 have he:hd (t++u)=hd t:=by
  rcases zf (t:=t) h with g | ⟨rfl,_⟩
  ·exact g
  simp at ht
 unfold kg;rw[he,ak4 h,Pm wI,ak0 h ht,ack h,acj h,Pm UV,ak3 h,tr ht];by_cases c:hd t=39\/hd t=34
 ·rw[iP c,iP c,ak2 Om h]
 rw[iN c,iN c];cases hs:sw t with
 | none=>rfl
 | some n=>
   simp only[fg];rw[Pm (acn hs).1]
theorem U0{l:List UInt8}{k n:Nat}{x:List UInt8}(h:kg l=some (k,x,n)):0<n/\n<=l.length:=by
 unfold kg at h;split at h
 ·rename_i g;cases h;have hl:0<l.length:=qb λe=>by rw[e] at g;cases g
  have:=za (p:=lW) (l:=l) (j:=0) hl (by simp[lW,g]);simp only[ly] at this;exact⟨Om,wI⟩
 split at h
 ·rename_i g;split at h;·cases h
  cases h;have hl:0<l.length:=qb λe=>by rw[e] at g;cases g
  have:=za (p:=dZ) (l:=l) (j:=0) hl (by simpa using g);simp only[ly] at this;refine⟨?_,UV⟩;unfold bt oV eA;omega
 split at h;·rename_i g;rw[nB] at h;obtain⟨⟨y,m⟩,h1,h2⟩:=h;cases h2;have hl:0<l.length:=qb Om;have:=UY Om h1;simp only[ky] at this;show 0<m+1/\m+1<=_;omega
 rw[nB] at h;obtain⟨m,h1,h2⟩:=h;cases h2;have:=acn h1;omega
theorem aco{t u:List UInt8}(h:Nl u):eB (t++u)=eB t:=by
 unfold eB;rw[Ll de h,tr wI,Ll (p:=λn=>decide (n≠10)) de h];have:=xT (p:=λn=>decide (n=35)) (t:=t.drop (nW (λn=>decide (n=32)) t)) h de;simp only[decide_eq_decide.1 this]
theorem acp{t:List UInt8}:eB t<=t.length:=by
 have h1:=wI (p:=λn=>decide (n=32)) (l:=t);unfold eB;split;·have:=wI (p:=λn=>decide (n≠10)) (l:=t.drop (nW (λn=>decide (n=32)) t));simp only[ky] at this;omega
 exact h1
end
section
open Go Go.RowKit
theorem acq{d k:Nat}{x:List UInt8}:nf d k x<=d+1:=by
 unfold nf
 (repeat' split)<;>omega
theorem acr{line:Nat} : ∀ {f:Nat} {t:List UInt8} {d d':Nat} {x:List Tok},qe line f t d=some (x,d')->x.length<=t.length/\d'<=d+t.length
 | 0,_,_,_,_,h=>by cases h
 | f+1,t,d,d',x,h=>by
   simp only[qe] at h;split at h;·cases h;simp
   rename_i hb;cases ht:kg (t.drop (eB t)) with
   | none=>rw[ht] at h;cases h
   | some z=>
     obtain⟨k,y,n⟩:=z;rw[ht] at h;simp only at h;rw[nB] at h;obtain⟨⟨xs,e⟩,h1,h2⟩:=h;cases h2;obtain⟨g1,g2⟩:=acr h1;have g3:=U0 ht;have g4:= @acq d k y;simp only[ky] at g1 g2 g3;simp only[cw];omega
theorem acs{line n:Nat}{st:List Nat}:(jP line st n).1.length+(jP line st n).2.length<=st.length+2:=by
 unfold jP;split;·simp;omega
 have h1:(st.takeWhile λx=>decide (n<x)).length+(st.dropWhile λx=>decide (n<x)).length=st.length:=by
  rw[<-cO,List.takeWhile_append_dropWhile]
 simp only[YD];omega
def Pn(A K:CH)(p:Nat)(src:List UInt8)(s:RS)(m:Nat)(t:List UInt8)(r:Except Nat (List Tok×Nat×List Nat)):Prop:=match r with
 | .ok (x,d,aX)=>∃a b,bG A K p src { s with pos:=s.pos+t.length,dep:=d,cL:=aX.reverse,out:=s.out++x } a b m
 | .error e=>∃a b c,bG A K p src c a b m/\c.err=e/\c.wh=s.line
structure zg(s:RS)(t:List UInt8)(j f d:Nat)(ts:List Tok):Prop where
 tk:qe s.line (t.length+1) t s.dep=(qe s.line f (t.drop j) d).map λy=>(ts++y.1,y.2)
 fu:t.length-j<f
 fl:f<=t.length+1
 jl:j<=t.length
 dl:d<=s.dep+j
 tl:ts.length<=j
def jD (s:RS)(ins:List Tok)(a:List Nat)(j d:Nat)(ts:List Tok):RS:= { s with pos:=s.pos+j,dep:=d,cL:=a,out:=s.out++ins++ts }
theorem zg.step{s:RS}{t:List UInt8}{j f d:Nat}{ts:List Tok}(h:zg s t j f d ts)(b : ¬(t.drop j).length<=eB (t.drop j)){k n:Nat}{x:List UInt8}(ht:kg (t.drop (j+eB (t.drop j)))=some (k,x,n)) :
 ∃a,a<f/\zg s t (j+eB (t.drop j)+n) a (nf d k x) (ts++ [⟨k,s.line,x⟩]):=by
 obtain⟨a,rfl⟩ : ∃a,f=a+1:=⟨f-1,by have:=h.fu;omega⟩;have g3:=U0 ht;simp only[ky] at g3 b;have e:=h.jl;have c:=h.fu;have i:=h.fl;have l:=h.dl;have m:=h.tl;have hd:= @acq d k x;refine⟨a,iC _,⟨?_,Om,Om,Om,Om,Sq⟩⟩;rw[h.tk];simp only[qe];rw[iN Sq,ir,ht];simp only[ir,<-mP];cases qe s.line a (t.drop (j+eB (t.drop j)+n)) (nf d k x) with
 | none=>rfl
 | some y=>simp
theorem zg.bad{s:RS}{t:List UInt8}{j f d:Nat}{ts:List Tok}(h:zg s t j f d ts)(b : ¬(t.drop j).length<=eB (t.drop j))(ht:kg (t.drop (j+eB (t.drop j)))=none):qe s.line (t.length+1) t s.dep=none:=by
 obtain⟨a,rfl⟩ : ∃a,f=a+1:=⟨f-1,by have:=h.fu;omega⟩;rw[h.tk];simp only[qe];rw[iN b,ir,ht];rfl
theorem zg.fin{s:RS}{t:List UInt8}{j f d:Nat}{ts:List Tok}(h:zg s t j f d ts)(b:(t.drop j).length<=eB (t.drop j)):qe s.line (t.length+1) t s.dep=some (ts,d):=by
 obtain⟨a,rfl⟩ : ∃a,f=a+1:=⟨f-1,by have:=h.fu;omega⟩;rw[h.tk];simp only[qe];rw[iP b];simp
def kj (s:RS)(st:List Nat)(t:List UInt8):List Tok:=if s.dep=0 then (jP s.line st (eB t)).1 else []
def ko (s:RS)(st:List Nat)(t:List UInt8):List Nat:=if s.dep=0 then (jP s.line st (eB t)).2 else st
theorem ak5{s:RS}{ins:List Tok}{b:List Nat}{j a n d:Nat}{ts:List Tok}{k:Nat}{x:List UInt8}:ki { ax (jD s ins b (j+a) d ts) n with dep:=nf d k x } k s.line x=jD s ins b (j+a+n) (nf d k x) (ts++ [⟨k,s.line,x⟩]):=by
 simp only[ki,ax,jD,RS.mk.injEq,rP,and_true,true_and];omega
def RwI (A:CH)(p:Nat)(src:List UInt8)(s:RS)(m:Nat)(st:List Nat)(t:List UInt8)(n:Nat)(v4:ae)(b:CH):Prop:=(n=t.length+3/\v4= .bool false/\∃vo vt,bG A b p src s vo vt m)\/
    (¬t.length<=eB t/\¬(s.dep=0/\(jP s.line st (eB t)).2.headD 0≠eB t)/\v4= .bool true/\
      ((∃j f d ts c e,n=f+1/\zg s t j f d ts/\bG A b p src (jD s (kj s st t) (ko s st t).reverse j d ts) c e m)\/
       (∃a c e,n=0/\qe s.line (t.length+1) t s.dep=none/\bG A b p src a c e m/\a.err=20/\a.wh=s.line/\a.out.length+a.cL.length<400000/\a.line<=100000)))
theorem U1{A K:CH}{p:Nat}{src:List UInt8}{s:RS}{m:Nat}{st:List Nat}{t:List UInt8}{j f d:Nat}{ts:List Tok}{vo:ae}(aA : ¬t.length<=eB t)(i : ¬(s.dep=0/\(jP s.line st (eB t)).2.headD 0≠eB t))(a:zg s t j f d ts)(B:j+eB (t.drop j)<t.length)(q:s.line<=100000)(C:src.length<=20000)(hb:s.out.length+s.cL.length<200000)(r:(kj s st t).length+(ko s st t).length<=s.cL.length+2)(u:t.length<=20000)
 (h:UN A K p src (jD s (kj s st t) (ko s st t).reverse (j+eB (t.drop j)) d ts) vo m (kg (t.drop (j+eB (t.drop j))))) : ∃n,n<f+1/\RwI A p src s m st t n (.bool true) K:=by
 have l : ¬(t.drop j).length<=eB (t.drop j):=by simp;omega
 have D:=a.tl;have F:=a.jl;cases b:kg (t.drop (j+eB (t.drop j))) with
 | none=>
   rw[b] at h;obtain⟨c,v,h1,h2,h3,h4,h5,w,G,H,y⟩:=h;refine⟨0,Om, .inr ⟨aA,i,rfl, .inr ⟨v,vo,c,rfl,a.bad l b,h1,h2,h3,?_,by rw[y];exact q⟩⟩⟩;rw[h5];simp only[jD,cO,xc] at w⊢;omega
 | some z=>
   obtain⟨k,x,n⟩:=z;rw[b] at h;obtain⟨c,h1⟩:=h;obtain⟨o,I,e⟩:=a.step l b;have h2:bG A K p src (jD s (kj s st t) (ko s st t).reverse (j+eB (t.drop j)+n) (nf d k x) (ts++ [⟨k,s.line,x⟩])) vo c m:=by
    rw[<-ak5];exact h1
   exact⟨o+1,Om, .inr ⟨aA,i,rfl, .inl ⟨_,o,_,_,vo,c,rfl,e,h2⟩⟩⟩
theorem ak7{A K:CH}{p:Nat}{src:List UInt8}{s:RS}{vo vt:ae}{m:Nat}(h:bG A K p src s vo vt m){st:List Nat}(U:s.cL=st.reverse)(hz:st.getLast? = some 0)(D:s.err=0){t u:List UInt8}(V:src.drop s.pos=t++u)(hu:Nl u)(kc : ∀x∈t,x.toNat≠10)(iZ:s.pos<=src.length)(hb:s.out.length+s.cL.length<200000)(qU:s.dep<50000) :
 aR (ba Tryz.prog LG GG) 66 [.pointer (some ⟨p,0,none⟩)] K λv K'=>Pn A K' p src s m t (jW s.line t s.dep st):=by
 have jV:=h.sl;have ai:=h.ob;have dK:=h.pl;have dP:=h.bd.line;have I:src.length=s.pos+t.length+u.length:=by
  have:=congrArg rN V;simp at this;omega
 have J : ∀q,q<=t.length->src.drop (s.pos+q)=t.drop q++u:=λq i=>by rw[<-ir,V,tr i]
 have sZ : ∀q,q<t.length->∃c,src[s.pos+q]? = some c/\c.toNat≠10:=λq i=>by
  refine⟨t[q],?_,kc _ (yy i)⟩;have:=congrArg (·[q]?) V;simp only[sP] at this;rw[this,tP i,bM i]
 have fN:src.length<=s.pos+t.length\/src[s.pos+t.length]? = some 10:=by
  rcases hu with rfl | ⟨r,rfl⟩
  ·left;simp at I;omega
  right;have:=congrArg (·[t.length]?) V;simp only[sP] at this;rw[this,uN (al _)];simp
 have aw:= @acs s.line (eB t) st;have ar2:s.cL.length=st.length:=by rw[U];simp
 have ak6:(kj s st t).length+(ko s st t).length<=st.length+2:=by
  unfold kj ko;split;·exact aw
  simp
 refine js Rl Kr (aV ?_);refine rn @ai ?_;refine fC (λn fr K1=>RwI A p src s m st t n (fr 4) K1) (n:=t.length+3) (.inl ⟨rfl,by repeat' (first | (simp (disch:=first | omega | (decide +kernel)) only[↓aP,↓reduceIte]) | ((with_reducible first|apply aF|apply aG|apply aH)<;>intro _)),vo,vt,h⟩) ?_;rintro n fr K1 hI b;obtain⟨v4,f4⟩ : ∃v,fr 4=v:=⟨_,rfl⟩;rw[f4] at hI;rcases hI with ⟨rfl,rfl,w,L,h1⟩ | ⟨aA,bC,rfl,(⟨j,f,d,ts,w,L,rfl,M,h1⟩ | ⟨s',w,L,rfl,mE,h1,W,Ho,gL,iu⟩)⟩
 ·have H:=h1.ob;have C8:=h1.pl;repeat' (first | (simp (disch:=first | omega | (decide +kernel)) only[↓RD,RU,↓aP,↓aT,↓bf,bK,pop,aD,ρ0,ρ1,↓reduceIte,reduceCtorEq,ρ5,ρ6,b,H,D]) | ((with_reducible first|apply aF|apply aG|apply aH)<;>intro _))
  refine(ab2 h1 Om).mono λv2 K2 h2=> ?_;have X:=J 0 Om;simp only[Nat.add_zero,ly] at X;rw[X,aco hu] at h2;obtain⟨a,ha⟩ : ∃a,eB t=a:=⟨_,rfl⟩;have Y:=acp (t:=t);rw[ha] at h2 Y;have l:=h2.ob;have tm:=h2.pl;have o:(ax s a).pos=s.pos+a:=rfl;have z:(ax s a).dep=s.dep:=rfl;by_cases N:t.length<=a
  ·have U2:a=t.length:=by omega
   subst U2;have G:jW s.line t s.dep st= .ok ([],s.dep,st):=by unfold jW;rw[iP Om]
   have B:Pn A K2 p src s m t (jW s.line t s.dep st):=by
    rw[G];refine⟨w,L,?_⟩;rw[<-U,jz];exact h2
   rcases fN with g | g
   ·repeat' (first | (simp (disch:=first | omega | (decide +kernel)) only[↓RD,RU,↓aP,↓aT,↓bf,bK,pop,aD,bT,↓reduceIte,Nat.reduceEqDiff,reduceCtorEq,ρ5,ρ6,ρ28,b,l,o,z,cK,f4]) | ((with_reducible first|apply aF|apply aG|apply aH)<;>intro _))
    all_goals exact B
   repeat' (first | (simp (disch:=first | omega | (decide +kernel)) only[↓RD,RU,↓aP,↓aT,↓bf,bK,pop,aD,bT,ρ4,↓reduceIte,Nat.reduceEqDiff,reduceCtorEq,ρ5,ρ6,ρ28,ρ29,b,l,o,z,cK,jt,g,f4]) | ((with_reducible first|apply aF|apply aG|apply aH)<;>intro _))
   all_goals exact B
  obtain⟨c,hc,Z⟩:=sZ a Om;have U3 : ¬t.length<=eB t:=by rw[ha];exact N
  have O:zg s t 0 (t.length+1) s.dep []:=⟨by
   simp only[ly,mR];cases qe s.line (t.length+1) t s.dep<;>rfl,Om,Om,Om,Om,Sm⟩
  have P:eB (t.drop 0)=a:=by simpa using ha
  have ak8:((s.pos+a:Nat):Int)-(s.pos:Int)=(a:Int):=by omega
  by_cases y:s.dep=0
  ·refine rn (Eh @b @l @o @cK @jt @hc @Z @f4 @ak8) ?_;refine(akT (s:=ax s a) h2 (st:=st) U hz a Om D (by show s.out.length+s.cL.length<_;omega)).mono λv3 K3 ⟨Q,R,h3⟩=> ?_;have hei:kj s st t=(jP s.line st a).1:=by unfold kj;rw[iP y,ha]
   have heo:ko s st t=(jP s.line st a).2:=by unfold ko;rw[iP y,ha]
   by_cases Pp:(jP s.line st a).2.headD 0=a
   ·have e:xO (ax s a) st a=jD s (kj s st t) (ko s st t).reverse a s.dep []:=by
     unfold xO;rw[iP (show(jP (ax s a).line st a).2.headD 0=a from Pp),hei,heo];simp[jD,ax]
    rw[e] at h3;have fH:=h3.ob;have qX:=h3.pl;have jC:(jD s (kj s st t) (ko s st t).reverse a s.dep []).err=0:=D;refine rn (gK @b @fH @jC) ?_;refine(UP h3 (by show s.pos+a<_;omega) D (by simp only[jD,cO,xc,cX];omega) (by show s.dep<100000;omega)).mono λv5 C h5=> ?_;have S:src.drop (jD s (kj s st t) (ko s st t).reverse a s.dep []).pos=t.drop (a)++u:=J _ Om;rw[S,UZ hu Sq] at h5;refine aC ?_;all_goals
     have i:=U1 (A:=A) (K:=C) (p:=p) (src:=src) (m:=m) (st:=st) (vo:=Q) U3 (λg=>g.2 (by rw[ha];exact Pp)) O (by rw[P];omega) dP jV hb Om Om (by rw[show 0+eB (t.drop 0)=a by omega];exact h5);obtain⟨q,sg,T⟩:=i;exact⟨q,Om,T⟩
   have e:xO (ax s a) st a= { ax s a with out:=s.out++(jP s.line st a).1,cL:=(jP s.line st a).2.reverse,err:=21,wh:=s.line }:=by
    unfold xO;rw[iN (show ¬(jP (ax s a).line st a).2.headD 0=a from Pp)];rfl
   rw[e] at h3;have fH:=h3.ob;have qX:=h3.pl;have G:jW s.line t s.dep st= .error 21:=by
    unfold jW;rw[iN U3,iP ⟨y,by rw[ha];exact Pp⟩]
   rw[G];refine rn (an @b @fH) ?_;all_goals exact⟨Q,R,_,h3,rfl,rfl⟩
  have e:ax s a=jD s (kj s st t) (ko s st t).reverse a s.dep []:=by
   unfold kj ko;rw[iN y,iN y,<-U];simp[jD,ax]
  rw[e] at h2;refine rn (oA @b @l @o @cK @jt @hc @Z @f4) ?_;refine(UP h2 (by show s.pos+a<_;omega) D (by simp only[jD,cO,xc,cX];omega) (by show s.dep<100000;omega)).mono λv5 C h5=> ?_;have S:src.drop (jD s (kj s st t) (ko s st t).reverse a s.dep []).pos=t.drop (a)++u:=J _ Om;rw[S,UZ hu Sq] at h5;refine aC ?_;all_goals
   have i:=U1 (A:=A) (K:=C) (p:=p) (src:=src) (m:=m) (st:=st) (vo:=w) U3 (λg=>y g.1) O (by rw[P];omega) dP jV hb Om Om (by rw[show 0+eB (t.drop 0)=a by omega];exact h5);obtain⟨q,sg,T⟩:=i;exact⟨q,Om,T⟩
 ·have H:=h1.ob;have C8:=h1.pl;have qV:(jD s (kj s st t) (ko s st t).reverse j d ts).err=0:=D;have fX:=M.jl;have wJ:=M.dl;have EJ:=M.tl;refine rn (gK @b @H @qV) ?_;refine(ab2 h1 (by show s.pos+j<=_;omega)).mono λv2 K2 h2=> ?_;have X:src.drop (jD s (kj s st t) (ko s st t).reverse j d ts).pos=t.drop j++u:=J j fX;rw[X,aco hu] at h2;obtain⟨a,ha⟩ : ∃a,eB (t.drop j)=a:=⟨_,rfl⟩;have Y:=acp (t:=t.drop j);simp only[ky] at Y;rw[ha] at h2 Y;have e:ax (jD s (kj s st t) (ko s st t).reverse j d ts) a=jD s (kj s st t) (ko s st t).reverse (j+a) d ts:=by
   simp only[ax,jD,RS.mk.injEq,and_true,true_and];omega
  rw[e] at h2;have l:=h2.ob;have tm:=h2.pl;have o:(jD s (kj s st t) (ko s st t).reverse (j+a) d ts).pos=s.pos+(j+a):=rfl;have z:(jD s (kj s st t) (ko s st t).reverse (j+a) d ts).dep=d:=rfl;have U4:(jD s (kj s st t) (ko s st t).reverse (j+a) d ts).line=s.line:=rfl;by_cases N:t.length<=j+a
  ·have U2:j+a=t.length:=by omega
   have ak9:=M.fin (by rw[ha];simp;omega);have G:jW s.line t s.dep st= .ok (kj s st t++ts++(if d=0 then [⟨1,s.line,[]⟩] else []),d,ko s st t):=by
    unfold jW;rw[iN aA,iN bC,ak9];rfl
   rw[G];rw[U2] at h2 l o z U4;by_cases y:d=0
   ·have B : ∀K3 R,bG A K3 p src (ki (jD s (kj s st t) (ko s st t).reverse t.length d ts) 1 s.line []) w R m->Pn A K3 p src s m t (.ok (kj s st t++ts++ [⟨1,s.line,[]⟩],d,ko s st t)):=λK3 R g=>by
     refine⟨w,R,?_⟩;have:(ki (jD s (kj s st t) (ko s st t).reverse t.length d ts) 1 s.line [])= { s with pos:=s.pos+t.length,dep:=d,cL:=(ko s st t).reverse,out:=s.out++(kj s st t++ts++ [⟨1,s.line,[]⟩]) }:=by simp[ki,jD]
     rw[<-this];exact g
    rw[iP y];rcases fN with g | g
    ·refine rn (rT @b @l @o @z @U4 @cK @f4) ?_;all_goals
      refine(dz h2 1 s.line [] (by simp only[jD,cO,xc,cX];omega)).mono λv5 C ⟨bI,h5⟩=> ?_;repeat' (first | (simp (disch:=first | omega | (decide +kernel)) only[↓RD,RU,bT]) | ((with_reducible first|apply aF|apply aG|apply aH)<;>intro _))
      all_goals exact B _ _ h5
    repeat' (first | (simp (disch:=first | omega | (decide +kernel)) only[↓RD,RU,↓aP,↓aT,↓bf,bK,pop,aD,ρ0,ρ1,ρ4,↓reduceIte,Nat.reduceEqDiff,reduceCtorEq,ρ5,ρ6,ρ28,ρ29,b,l,o,z,U4,cK,jt,g,f4]) | ((with_reducible first|apply aF|apply aG|apply aH)<;>intro _))
    all_goals
     refine(dz h2 1 s.line [] (by simp only[jD,cO,xc,cX];omega)).mono λv5 C ⟨bI,h5⟩=> ?_;refine aC ?_;all_goals exact B _ _ h5
   rw[iN y,jz];have B:Pn A K2 p src s m t (.ok (kj s st t++ts,d,ko s st t)):=by
    refine⟨w,L,?_⟩;rw[<-rP];exact h2
   rcases fN with g | g
   ·repeat' (first | (simp (disch:=first | omega | (decide +kernel)) only[↓RD,RU,↓aP,↓aT,↓bf,bK,pop,aD,bT,↓reduceIte,Nat.reduceEqDiff,reduceCtorEq,ρ5,ρ6,ρ28,b,l,o,z,cK]) | ((with_reducible first|apply aF|apply aG|apply aH)<;>intro _))
    all_goals exact B
   repeat' (first | (simp (disch:=first | omega | (decide +kernel)) only[↓RD,RU,↓aP,↓aT,↓bf,bK,pop,aD,bT,ρ4,↓reduceIte,Nat.reduceEqDiff,reduceCtorEq,ρ5,ρ6,ρ28,ρ29,b,l,o,z,cK,jt,g]) | ((with_reducible first|apply aF|apply aG|apply aH)<;>intro _))
   all_goals exact B
  obtain⟨c,hc,Z⟩:=sZ (j+a) Om;refine rn (oA @b @l @o @cK @jt @hc @Z @f4) ?_;refine(UP h2 (by show s.pos+(j+a)<_;omega) D (by simp only[jD,cO,xc,cX];omega) (by show d<100000;omega)).mono λv5 C h5=> ?_;have S:src.drop (jD s (kj s st t) (ko s st t).reverse (j+a) d ts).pos=t.drop (j+a)++u:=J _ Om;rw[S,UZ hu Sq] at h5;refine aC ?_;all_goals
   have i:=U1 (A:=A) (K:=C) (p:=p) (src:=src) (m:=m) (st:=st) (vo:=w) aA bC M (by rw[ha];omega) dP jV hb Om Om (by rw[ha];exact h5);obtain⟨q,sg,T⟩:=i;exact⟨q,Om,T⟩
 have H:=h1.ob;have C8:=h1.pl;have G:jW s.line t s.dep st= .error 20:=by
  unfold jW;rw[iN aA,iN bC,mE]
 rw[G];by_cases y:s'.dep=0
 ·refine rn (gy @b @H @W @f4) ?_;all_goals
   refine(dz h1 1 s'.line [] Om).mono λv5 C ⟨bI,h5⟩=> ?_;refine aC ?_;all_goals exact⟨w,bI,_,h5,W,Ho⟩
 refine rn (gy @b @H @W @f4) ?_;all_goals exact⟨w,L,_,h1,W,Ho⟩
def wE (ws:List (List UInt8)):Array MapEntry:=((ws.zipIdx).map λx=>({ key:= .string (str x.1),val:= .int .i64 1,born:=x.2 }:MapEntry)).toArray
theorem acu{l n:Nat}{k:List UInt8}{ws:List (List UInt8)}{H:CH}(h1:n=ws.length)(h2:ws.contains k=false):uX 1 l (.string ⟨⟨k⟩⟩) (.int .i64 1) H (.map (wE ws) n)=some (undef,H.set l (.map (wE (ws++ [k])) (n+1))):=by
 subst h1;have hk:k∉ws:=by simpa using h2
 have a:mj 1 (.string (str k)) (wE ws).toList 0=some none:=(C7 (x:=k) (ws:=ws) (n:=0) (i:=0)).2 hk;have hp:(wE ws).push { key:= .string (str k),val:= .int .i64 1,born:=ws.length }=wE (ws++ [k]):=by
  apply Array.ext';simp[wE,List.zipIdx_append]
 simp only[uX,isKey,isVal,and_self,iT];rw[show(Value.string ⟨⟨k⟩⟩)= .string (str k) from rfl,a,<-hp]
theorem ak'{l:Nat}{k:List UInt8}{H:CH}:uX 1 l (.string ⟨⟨k⟩⟩) (.int .i64 1) H (.map #[] 0)=some (undef,H.set l (.map (wE [k]) 1)):=acu (ws:= []) rfl rfl
theorem ala(H:CH):aR (ba Tryz.prog LG GG) 65 [] H λv K=>v= .map (some H.nx)/\K.ob H.nx= .map C5 31/\K.nx=H.nx+1/\∀l,l<H.nx->K.ob l=H.ob l:=by
 refine js Rl Kr (aV ?_);repeat' (first | (simp (disch:=first | omega | (decide +kernel)) only[↓eF,↓dy,↓KJ,↓gX,↓eR,↓eS,↓dY,↓mz,↓aP,↓ez,↓aT,↓bf,gJ,qE,cV,bP,dX,pE,CW,↓eQ,↓nN,pop,bD,bT,jc,dV,↓reduceIte,Nat.reduceAdd,Int.reduceOfNat,jU,mR,iN,true_and,ak',acu,CH.set_set]) | ((with_reducible first|apply aF|apply aG|apply aH)<;>intro _))
 exact⟨rfl,λl hl=>by rw[iN Om]⟩
end
section
open Go Go.RowKit
theorem alb : ∀ {l:List UInt8},kK l≠ []
 | []=>by simp[kK]
 | c::r=>by
   simp only[kK];split;·simp
   split<;>simp
theorem Ii{u:List UInt8}(hu:Nl u) : ∀ {t:List UInt8},(∀x∈t,x.toNat≠10)->kK (t++u)=t::(match u with | []=> [] | _::r=>kK r)
 | [],_=>by
   rcases hu with rfl | ⟨r,rfl⟩
   ·rfl
   simp only[mR,kK];rw[iP de]
 | c::t,h=>by
   simp only[jU,kK];rw[iN (h c Sm),Ii hu (λx hx=>h x (by simp[hx]))]
def Pq (l:List UInt8):List UInt8:=l.takeWhile λx=>decide (x.toNat≠10)
def Ps (l:List UInt8):List UInt8:=l.dropWhile λx=>decide (x.toNat≠10)
theorem acv{l:List UInt8}:l=Pq l++Ps l:=(List.takeWhile_append_dropWhile).symm
theorem acw : ∀ {l:List UInt8},∀x∈Pq l,x.toNat≠10
 | [],x,h=>by cases h
 | c::r,x,h=>by
   unfold Pq at h;rw[List.takeWhile_cons] at h;split at h
   ·rename_i hc;rcases List.mem_cons.1 h with rfl | h
    ·simpa using hc
    exact acw x h
   cases h
theorem acx : ∀ {l:List UInt8},Nl (Ps l)
 | []=> .inl rfl
 | c::r=>by
   unfold Ps;rw[List.dropWhile_cons];split;·exact acx
   rename_i hc;refine .inr ⟨r,?_⟩;have:c.toNat=10:=by simpa using hc
   rw[show c=10 from UInt8.toNat_inj.1 this]
theorem acy{p:Nat->Bool}{a:Nat}(hp:p a=false) : ∀ {l:List Nat},l.getLast? = some a->(l.dropWhile p).getLast? = some a
 | [],h=>by cases h
 | [b],h=>by
   simp at h;subst h;simp[List.dropWhile_cons,hp]
 | b::c::l,h=>by
   rw[List.dropWhile_cons];split;·exact acy hp (by simpa[List.getLast?_cons_cons] using h)
   exact h
theorem alc{line n:Nat}{st:List Nat}(h:st.getLast? = some 0):(jP line st n).2.getLast? = some 0:=by
 unfold jP;split
 ·cases st with
  | nil=>cases h
  | cons a st=>simpa[List.getLast?_cons_cons] using h
 exact acy Sm h
theorem U5{line d d':Nat}{t:List UInt8}{st aX:List Nat}{x:List Tok}(h:jW line t d st= .ok (x,d',aX))(hz:st.getLast? = some 0):x.length+aX.length<=st.length+t.length+3/\d'<=d+t.length/\aX.getLast? = some 0:=by
 unfold jW at h;split at h;·cases h;refine⟨Sq,Om,hz⟩
 split at h;·cases h
 split at h;·cases h
 rename_i ts d1 ht;obtain⟨g1,g2⟩:=acr ht;have g3:= @acs line (eB t) st;cases h;refine⟨?_,g2,?_⟩
 ·simp only[cO];split<;>split<;>simp only[cX,cw]<;>omega
 split;·exact alc hz
 exact hz
def Dc (o:List Tok):Except (Nat×Nat) (List Tok×List Nat)->Except (Nat×Nat) (List Tok×List Nat)
 | .ok y=> .ok (o++y.1,y.2)
 | .error e=> .error e
theorem ald{a b:List Tok}{r:Except (Nat×Nat) (List Tok×List Nat)}:Dc a (Dc b r)=Dc (a++b) r:=by
 cases r<;>simp[Dc]
theorem Fh{line d:Nat}{t:List UInt8}{ts:List (List UInt8)}{st:List Nat}:mB line (t::ts) d st=match jW line t d st with | .error e=> .error (line,e) | .ok (x,d',aX)=>Dc x (mB (line+1) ts d' aX):=by
 simp only[mB];cases jW line t d st with
 | error e=>rfl
 | ok y=>
   obtain⟨x,d',aX⟩:=y;simp only;cases mB (line+1) ts d' aX<;>rfl
structure uo(src:List UInt8)(s:RS)(st:List Nat):Prop where
 op:s.cL=st.reverse
 z:st.getLast? = some 0
 e:s.err=0
 pl:s.pos<=src.length
 bo:s.out.length+s.cL.length<=s.pos+3*s.line+1
 bd:s.dep<=s.pos
 bl:s.line<=s.pos+1
 rows:mB 1 (kK src) 0 [0]=Dc s.out (mB s.line (kK (src.drop s.pos)) s.dep st)
 lT:(kK src).length+1=s.line+(kK (src.drop s.pos)).length
theorem uo.init{src:List UInt8}:uo src ⟨0,1,0,[0],[],0,0⟩ [0]:=by
 refine⟨rfl,rfl,rfl,Sm,Sm,Sm,Sm,?_,by simp[Nat.add_comm]⟩;simp only[ly];cases mB 1 (kK src) 0 [0]<;>rfl
theorem uo.row{src:List UInt8}{s:RS}{st:List Nat}(h:uo src s st) : ∃t u,src.drop s.pos=t++u/\Nl u/\(∀x∈t,x.toNat≠10)/\src.length=s.pos+t.length+u.length:=
 ⟨Pq (src.drop s.pos),Ps (src.drop s.pos),acv,acx,acw,by
   have h1:=congrArg rN (acv (l:=src.drop s.pos));have h2:=h.pl;simp only[ky,cO] at h1;omega⟩
theorem uo.err{src:List UInt8}{s:RS}{st:List Nat}(h:uo src s st)(hl:src.length<=20000){t u:List UInt8}(a:src.drop s.pos=t++u)(hu:Nl u)(hn : ∀x∈t,x.toNat≠10){e:Nat}(b:jW s.line t s.dep st= .error e):kL src= .error (s.line,e):=by
 unfold kL;rw[iN Om,h.rows,a,Ii hu hn,Fh,b];rfl
theorem uo.fin{src:List UInt8}{s:RS}{st:List Nat}(h:uo src s st)(hl:src.length<=20000){t:List UInt8}(a:src.drop s.pos=t++ [])(hn : ∀x∈t,x.toNat≠10){x:List Tok}{d':Nat}{aX:List Nat}(b:jW s.line t s.dep st= .ok (x,d',aX)):kL src= .ok (s.out++x++C1 s.line aX):=by
 have hc:=h.lT;rw[a,Ii (.inl rfl) hn] at hc;simp only[cw,cX] at hc;unfold kL;rw[iN Om,h.rows,a,Ii (.inl rfl) hn,Fh,b,show(kK src).length=s.line by omega];simp[mB,Dc]
theorem uo.step{src:List UInt8}{s:RS}{st:List Nat}(h:uo src s st){t r:List UInt8}(a:src.drop s.pos=t++10::r)(hn : ∀x∈t,x.toNat≠10)(b:src.length=s.pos+t.length+(r.length+1)){x:List Tok}{d':Nat}{aX:List Nat}(c:jW s.line t s.dep st= .ok (x,d',aX)) :
 uo src { s with pos:=s.pos+t.length+1,line:=s.line+1,dep:=d',cL:=aX.reverse,out:=s.out++x } aX:=by
 obtain⟨g1,g2,g3⟩:=U5 c h.z;have d:=congrArg rN h.op;have f:=h.bo;have i:=h.bd;have j:=h.bl;have hc:=h.lT;have hd:src.drop (s.pos+t.length+1)=r:=by
  rw[mP,<-ir,a];simp
 simp only[xc] at d;rw[a,Ii (.inr ⟨r,rfl⟩) hn] at hc;simp only[cw] at hc;refine⟨rfl,g3,h.e,by show s.pos+t.length+1<=_;omega,by simp only[cO,xc];omega,by show d'<=s.pos+t.length+1;omega,by show s.line+1<=s.pos+t.length+1+1;omega,?_,?_⟩;·show _=Dc (s.out++x) (mB (s.line+1) (kK (src.drop (s.pos+t.length+1))) d' aX);rw[hd,h.rows,a,Ii (.inr ⟨r,rfl⟩) hn,Fh,c,<-ald]
 show _=s.line+1+(kK (src.drop (s.pos+t.length+1))).length;rw[hd];omega
def mF (src:List UInt8):List Int:=src.map λc=>(c.toNat:Int)
def U6 (H:CH):ae->Option ae
 | .slice none 0 0=>some (.string .empty)
 | .slice (some ⟨l,o,none⟩) n _=>match H.ob l with
   | .cells cs _ _=>if o+n<=cs.length then (tZ ((cs.drop o).take n)).map λbs=> .string ⟨bs.toArray⟩ else none
   | _=>none
 | .slice (some ⟨_,_,some _⟩) 0 _=>some (.string .empty)
 | _=>none
theorem ale{H:CH}{ev:au->ae}{x:au}:aD H ev (.b2s x)=U6 H (ev x):=rfl
theorem acz : ∀ {src:List UInt8},tZ (src.map λc=>yv .u8 (c.toNat:Int))=some src
 | []=>rfl
 | c::r=>by
   rw[dG];simp only[tZ];rw[acz];simp
theorem acA{H:CH}{q:Option Addr}{c:Nat}{src:List UInt8}(h:gU 1 (pG .u8) H q c (mF src)):U6 H (.slice q src.length c)=some (.string (str src)):=by
 rcases h with ⟨h,rfl,rfl | rfl | rfl⟩ | ⟨l,o,os,e,kd,rfl,hl,hc,j,f,a,b⟩
 ·have:src= []:=by simpa[mF] using h
  subst this;rfl
 ·have:src= []:=by simpa[mF] using h
  subst this;rfl
 ·have:src= []:=by simpa[mF] using h
  subst this;rfl
 simp only[mF,fh,iB] at a b;simp only[U6,f];rw[iP a];have:(os.drop o).take src.length=src.map λc=>yv .u8 (c.toNat:Int):=by
  apply List.ext_getElem;·simp;omega
  intro i h1 h2;have h3:=(b i (by simpa using h2)).1;simp only[fh] at h2;have d:((os.drop (o+i)).take 1)[0]? = some (.int .u8 (src[i].toNat:Int)):=by rw[h3];simp
  rw[List.getElem?_take_of_lt Om,sP,Nat.add_zero] at d;simp only[List.getElem_take,List.getElem_drop,List.getElem_map];exact(List.getElem?_eq_some_iff.1 d).2
 rw[this,acz];rfl
end
section
open Go Go.RowKit
def U7(H K:CH)(v:ae):Except (Nat×Nat) (List Tok)->Prop
 | .ok ts=>∃vt,v= .tuple #[vt, .int .i64 0, .int .i64 0]/\gP H 85 3 C4 K vt ts
 | .error y=>v= .tuple #[.slice none 0 0, .int .i64 y.1, .int .i64 y.2]
theorem acB{line d e:Nat}{t:List UInt8}{st:List Nat}(h:jW line t d st= .error e):e=20\/e=21:=by
 unfold jW at h;split at h;·cases h
 split at h;·cases h;exact .inr rfl
 split at h;·cases h;exact .inl rfl
 cases h
def LxJ (H:CH)(p:Nat)(src:List UInt8)(m n:Nat)(K:CH):Prop:=∃s st vo vt,n=src.length+1-s.pos/\uo src s st/\bG H K p src s vo vt m
def LxE (H:CH)(p:Nat)(src:List UInt8)(m k:Nat)(s:RS)(vo:ae)(n:Nat)(v:ae)(K:CH):Prop:=∃i vt,n=k-i/\i<=k/\v= .int .i64 (i:Nat)/\bG H K p src { s with out:=s.out++qA i ⟨3,s.line,[]⟩ } vo vt m
theorem alf(H:CH){q:Option Addr}{c:Nat}{src:List UInt8}(h:gU 1 (pG .u8) H q c (mF src)) :
 aR (ba Tryz.prog LG GG) 37 [.slice q src.length c] H λv K=>ag H K/\U7 H K v (kL src):=by
 refine js Rl Kr (aV ?_);by_cases hl:20000<src.length
 ·have e:kL src= .error (0,24):=by unfold kL;rw[iP hl]
  rw[e];refine aC ?_;all_goals exact⟨ag.refl _,rfl⟩
 have hb:=acA h;repeat' (first | (simp (disch:=first | omega | (decide +kernel)) only[↓eF,↓dy,↓gX,↓gO,↓qL,↓eR,↓y8,↓KP,bS,↓eS,↓dY,↓KK,↓aP,↓aT,↓bf,dX,↓eQ,↓nM,bK,jM,pop,nz,↓reduceIte,Int.reduceOfNat,reduceCtorEq,qN]) | ((with_reducible first|apply aF|apply aG|apply aH)<;>intro _))
 refine(ala H).mono λv1 m ⟨J,R,eG,S⟩=> ?_;subst J;have hx:ag H m:=⟨Om,S⟩;have T:=acA (gU.jN (pG.jN _) hx h);repeat' (first | (simp (disch:=first | omega | (decide +kernel)) only[↓eF,↓pF,↓dy,↓Bc,↓HQ,↓y8,↓HT,↓HV,↓HX,HY,HU,sq,oO,bS,↓dY,↓fB,↓ti,↓aP,↓aT,↓bf,gJ,dX,th,bK,pop,da,fj,isVal,dp,dG,nz,fg,↓reduceIte,Nat.reduceEqDiff,Nat.reduceAdd,reduceCtorEq,fK,fL,cw,cX,qM,EY,tR,ly,jU,mR,jz,yA,qB,tS,iv,Nat.reduceLeDiff,al,wB,iB,Nat.zero_add,and_true,ale,hb,T]) | ((with_reducible first|apply aF|apply aG|apply aH)<;>intro _))
 obtain⟨p,hp⟩ : ∃p,m.nx+1=p:=⟨_,rfl⟩;refine fC (λn fr m=>LxJ H p src H.nx n m) (n:=src.length+1) ?_ ?_
 ·refine⟨⟨0,1,0,[0],[],0,0⟩,[0], .slice (some ⟨m.nx,0,none⟩) 1 1, .slice none 0 0,rfl,uo.init,?_⟩;have U : ¬m.nx=p:=by omega
  have V : ¬H.nx=p:=by omega
  have W : ¬H.nx=m.nx:=by omega
  refine⟨by simp only[cV,gJ,hp,iP];rfl,by simp only[gJ];omega,Om,⟨m.nx, .ex,1,[.int .i64 0],rfl,Om,by simp only[gJ];omega,by simp only[cV,gJ,hp,iN U,iP],rfl,de,de,de,λi hi=> ?_⟩, .inl ⟨rfl,rfl⟩,by simp only[cV,gJ,hp,iN V,iN W];exact R,by simp only[gJ];omega,Om,(hx.new _).new _,⟨de,de,de,de,de,de⟩,Om⟩;have:i=0:=by simpa using hi
  subst this;rfl
 rintro n fr K2 ⟨⟨pos,line,dep,cL,out,err,wh⟩,st,vo,vt,rfl,j,h2⟩ w;obtain rfl:err=0:=j.e;obtain⟨t,u,B,hu,C,d⟩:=j.row;have X:out.length+cL.length<=pos+3*line+1:=j.bo;have uW:dep<=pos:=j.bd;have dN:line<=pos+1:=j.bl;have Y:pos<=src.length:=j.pl;have d:src.length=pos+t.length+u.length:=d;have Z:=congrArg rN j.op;have L:wh<=100000:=h2.bd.wh;simp only[xc] at Z;refine rn (an @w @hp) ?_;refine(ak7 h2 j.op j.z rfl B hu C Y (by show out.length+cL.length<_;omega) (by show dep<_;omega)).mono λv3 K3 h3=> ?_;cases s:jW line t dep st with
 | error e=>
   have M:=j.err Om B hu C s;have he:=acB s;simp only[s] at h3;obtain⟨N,D,O,h4,h5,o⟩:=h3;have o:O.wh=line:=o;rw[M];have G:=h4.ob;have lj:=h4.pl;refine rn (iD @w @hp @G @h5 @o) ?_;all_goals exact⟨h4.E,rfl⟩
 | ok y=>
   obtain⟨x,A,aX⟩:=y;simp only[s] at h3;obtain⟨N,D,h4⟩:=h3;have h4:bG H K3 p src ⟨pos+t.length,line,A,aX.reverse,out++x,0,wh⟩ N D H.nx:=h4;have G:=h4.ob;have lj:=h4.pl;obtain⟨g1,g2,g3⟩:=U5 s j.z;rcases hu with rfl | ⟨r,rfl⟩
   ·have M:kL src= .ok (out++x++C1 line aX):=j.fin Om B C s;rw[M];have d:src.length=pos+t.length:=d;obtain⟨b,kd,cc,os,rfl,o2⟩:=h4.cL;have aL:0<aX.length:=by
     cases aX with
     | nil=>cases g3
     | cons a l=>simp
    repeat' (first | (simp (disch:=first | omega | (decide +kernel)) only[↓RD,RU,↓aP,↓aT,↓bf,pop,aD,↓reduceIte,Nat.reduceEqDiff,reduceCtorEq,ρ5,ρ6,ρ28,w,hp,G,cK,xc]) | ((with_reducible first|apply aF|apply aG|apply aH)<;>intro _))
    refine fC (λn fr m=>LxE H p src H.nx (aX.length-1) ⟨pos+t.length,line,A,aX.reverse,out++x,0,wh⟩ (.slice (some ⟨b,0,none⟩) aX.reverse.length cc) n (fr 60) m) (n:=aX.length-1) ⟨0,D,rfl,Om,by(repeat' (first | (simp (disch:=first | omega | (decide +kernel)) only[↓aP,↓reduceIte]) | ((with_reducible first|apply aF|apply aG|apply aH)<;>intro _));all_goals rfl),by simpa using h4⟩ ?_;rintro n aS K4 ⟨i,bI,rfl,hi,f60,h5⟩ P;have ng:=h5.ob;have Fc:=h5.pl;repeat' (first | (simp (disch:=first | omega | (decide +kernel)) only[↓RD,RU,↓aP,↓aT,↓bf,pop,aD,ρ0,ρ1,↓reduceIte,Nat.reduceEqDiff,ρ5,ρ6,w,P,hp,ng,f60]) | ((with_reducible first|apply aF|apply aG|apply aH)<;>intro _))
    ·refine(dz h5 3 line [] (by simp only[cO,xc,YD];omega)).mono λv6 Q ⟨I,o⟩=> ?_;repeat' (first | (simp (disch:=first | omega | (decide +kernel)) only[↓RD,RU,↓aP,↓aT,↓bf,pop,↓reduceIte,Nat.reduceEqDiff,f60]) | ((with_reducible first|apply aF|apply aG|apply aH)<;>intro _))
     all_goals
      refine⟨aX.length-1-(i+1),Om,i+1,I,rfl,Om,by first | rfl | (skip;all_goals rfl),?_⟩;have e:out++x++qA (i+1) (⟨3,line,[]⟩:Tok)=out++x++qA i ⟨3,line,[]⟩++ [⟨3,line,[]⟩]:=by rw[List.replicate_succ',rP];simp
      show bG H Q p src ⟨pos+t.length,line,A,aX.reverse,out++x++qA (i+1) ⟨3,line,[]⟩,0,wh⟩ _ I H.nx;rw[e];exact o
    refine(dz h5 0 line [] (by simp only[cO,xc,YD];omega)).mono λv6 Q ⟨I,o⟩=> ?_;have uq:=o.ob;have ar3:=o.pl;refine rn (gy @w @P @hp @uq) ?_;all_goals
     have ei:i=aX.length-1:=by omega
     subst ei;refine⟨o.E,I,rfl,?_⟩;have e:out++x++C1 line aX=out++x++qA (aX.length-1) ⟨3,line,[]⟩++ [⟨0,line,[]⟩]:=by unfold C1;rw[rP];simp
     rw[e];exact o.out
   have hS:uo src ⟨pos+t.length+1,line+1,A,aX.reverse,out++x,0,wh⟩ aX:=j.step B C d s;simp only[cw] at d;refine rn (gy @w @hp @G @cK) ?_;all_goals
    refine⟨src.length+1-(pos+t.length+1),Om,_,aX,N,D,rfl,hS,?_⟩;exact bG.set h4 (s':=⟨pos+t.length+1,line+1,A,aX.reverse,out++x,0,wh⟩) rfl rfl ⟨by show pos+t.length+1<=_;omega,by show line+1<=_;omega,by show A<=_;omega,by show 0<=_;omega,L,by simp only[cO,xc];omega⟩
theorem acC : ∀ {ts:List (List UInt8)} {line d:Nat} {st aX:List Nat} {x:List Tok},mB line ts d st= .ok (x,aX)->st.getLast? = some 0->x.length+aX.length<=st.length+(ts.map rN).sum+3*ts.length
 | [],line,d,st,aX,x,h,_=>by cases h;simp
 | t::ts,line,d,st,aX,x,h,hz=>by
   rw[Fh] at h;cases c:jW line t d st with
   | error e=>rw[c] at h;cases h
   | ok y=>
     obtain⟨a,d1,f⟩:=y;rw[c] at h;simp only at h;cases hw:mB (line+1) ts d1 f with
     | error e=>rw[hw] at h;cases h
     | ok z=>
       obtain⟨b,i⟩:=z;rw[hw] at h;cases h;obtain⟨g1,g2,g3⟩:=U5 c hz;have:=acC hw g3;simp only[cO,dG,List.sum_cons,cw];omega
theorem U9 : ∀ {src:List UInt8},((kK src).map rN).sum+(kK src).length=src.length+1
 | []=>rfl
 | c::r=>by
   have e:=U9 (src:=r);simp only[kK];split;·simp only[dG,List.sum_cons,cw,cX];omega
   split;·rename_i a b d;rw[d] at e;simp only[dG,List.sum_cons,cw] at e⊢;omega
   rename_i d;exact absurd d alb
theorem U'{src:List UInt8}{ts:List Tok}(h:kL src= .ok ts):ts.length<=100000:=by
 unfold kL at h;split at h;·cases h
 cases a:mB 1 (kK src) 0 [0] with
 | error e=>rw[a] at h;cases h
 | ok y=>
   obtain⟨x,st⟩:=y;rw[a] at h;cases h;have h1:=acC a rfl;have h2:=U9 (src:=src);simp only[C1,cO,YD,cw,cX] at h1⊢;omega
theorem alg{x:Int}(h:(Lit.int .u8 x).wf=true):((x.toNat.toUInt8).toNat:Int)=x:=by
 have:=bounds_u8 h;have h1:x.toNat.toUInt8.toNat=x.toNat % 256:=by simp
 omega
theorem Dd{src:List UInt8}:(mF src).length=src.length:=by simp[mF]
end
section
theorem acD : ∀ {ts:List (List UInt8)} {line d:Nat} {st:List Nat} {e:Nat×Nat},mB line ts d st= .error e->line<=e.1/\(e.2=20\/e.2=21)
 | [],line,d,st,e,h=>by cases h
 | t::ts,line,d,st,e,h=>by
   rw[Fh] at h;cases a:jW line t d st with
   | error e'=>rw[a] at h;cases h;exact⟨al _,acB a⟩
   | ok y=>
     obtain⟨x,b,aX⟩:=y;rw[a] at h;simp only at h;cases hs:mB (line+1) ts b aX with
     | error c=>
       rw[hs] at h;cases h;have:=acD hs;omega
     | ok z=>rw[hs] at h;cases h
theorem acE{src:List UInt8}{e:Nat×Nat}(hl:src.length<=20000)(h:kL src= .error e):1<=e.1/\(e.2=20\/e.2=21):=by
 unfold kL at h;rw[iN Om] at h;cases a:mB 1 (kK src) 0 [0] with
 | error e'=>rw[a] at h;cases h;exact acD a
 | ok y=>rw[a] at h;cases h
end
section
open Go Go.RowKit
inductive R2{α β:Type}(R:α->β->Prop):List α->List β->Prop where
 | nil:R2 R [] []
 | cons {x:α} {y:β} {xs:List α} {ys:List β} (h:R x y) (t:R2 R xs ys):R2 R (x::xs) (y::ys)
theorem R2.len{α β:Type}{R:α->β->Prop} : ∀ {xs:List α} {ys:List β},R2 R xs ys->ys.length=xs.length
 | _,_, .nil=>rfl
 | _,_, .cons _ t=>by simp[t.len]
theorem R2.get{α β:Type}{R:α->β->Prop} : ∀ {xs:List α} {ys:List β},R2 R xs ys->∀ {i:Nat} {x:α},xs[i]? = some x->∃y,ys[i]? = some y/\R x y
 | _,_, .nil,i,x,h=>by simp at h
 | _,_, .cons h t,0,x,e=>by simp at e;subst e;exact⟨_,rfl,h⟩
 | _,_, .cons h t,i+1,x,e=>by simpa using t.get (i:=i) (by simpa using e)
theorem R2.app{α β:Type}{R:α->β->Prop} : ∀ {xs a:List α} {ys b:List β},R2 R xs ys->R2 R a b->R2 R (xs++a) (ys++b)
 | _,_,_,_, .nil,g=>g
 | _,_,_,_, .cons h t,g=> .cons h (t.app g)
theorem R2.take{α β:Type}{R:α->β->Prop} : ∀ {xs:List α} {ys:List β} (n:Nat),R2 R xs ys->R2 R (xs.take n) (ys.take n)
 | _,_,n, .nil=>by simpa using .nil
 | _,_,0, .cons h t=>by simpa using .nil
 | _,_,n+1, .cons h t=>by simpa using .cons h (t.take n)
theorem R2.drop{α β:Type}{R:α->β->Prop} : ∀ {xs:List α} {ys:List β} (n:Nat),R2 R xs ys->R2 R (xs.drop n) (ys.drop n)
 | _,_,n, .nil=>by simpa using .nil
 | _,_,0, .cons h t=>by simpa using .cons h t
 | _,_,n+1, .cons h t=>by simpa using t.drop n
theorem R2.mono{α β:Type}{R a:α->β->Prop}(b : ∀x y,R x y->a x y) : ∀ {xs:List α} {ys:List β},R2 R xs ys->R2 a xs ys
 | _,_, .nil=> .nil
 | _,_, .cons h t=> .cons (b _ _ h) (t.mono b)
theorem R2.map{α β γ:Type}{R:α->β->Prop}{a:γ->β->Prop}{f:α->γ}(b : ∀x y,R x y->a (f x) y) : ∀ {xs:List α} {ys:List β},R2 R xs ys->R2 a (xs.map f) ys
 | _,_, .nil=> .nil
 | _,_, .cons h t=> .cons (b _ _ h) (t.map b)
inductive SV where
 | sc (v:ae)
 | row (sz:Nat) (gs:List (List SV))
 | lk (x:List UInt8)
 | sub (sz:Nat) (gs:List (List SV))
inductive CV where
 | s (x:SV)
 | own (t:Nat) (e:aI) (sz:Nat) (gs:List (List SV))
 | bad
inductive RV where
 | c (x:CV)
 | agg (cs:List CV)
inductive AV where
 | r (x:RV)
 | ptr (o off:Nat)
 | fT (t:Option Nat) (g:List SV) (off:Nat)
 | jX (l:List RV)
 | skip
 | bad
def Bp:aI:=26
def Lp (e sz:Nat):Bool:= !(Nat.beq sz 5)||Nat.beq e Bp
theorem acF{e sz:Nat}(h:Lp e sz=true):sz=5->e=Bp:=λh5=>by
 subst h5;exact Nat.eq_of_beq_eq_true h
mutual
inductive eJ(K:CH)(A:Nat->Prop):SV->ae->Prop where
 | sc {v:ae} (h:bu v=true):eJ K A (.sc v) v
 | pI {sz:Nat}:eJ K A (.row sz []) (.slice none 0 0)
 | row {b sz:Nat} {os:List ae} {e:aI} {kd:Kd} {gs:List (List SV)} (aA:gs≠ []/\gs.length<=maxLen) (hb:A b) (ho:K.ob b= .cells os e kd) (hk:kd.cD=false) (hg : ∀g∈gs,g.length=sz) (hs:b9 K A gs.flatten os) (ht:sz=5->e=Bp):eJ K A (.row sz gs) (.slice (some ⟨b,0,none⟩) gs.length gs.length)
 | lk {x:List UInt8} {v:ae} (h:bu v=true):eJ K A (.lk x) v
 | zi {sz c:Nat} {q:Option Addr}:eJ K A (.sub sz []) (.slice q 0 c)
 | sub {b o c sz:Nat} {os:List ae} {e:aI} {kd:Kd} {gs:List (List SV)} (aA:gs≠ []/\gs.length<=maxLen) (hb:A b) (ho:K.ob b= .cells os e kd) (hg : ∀g∈gs,g.length=sz) (hl:o+gs.length*sz<=os.length) (hs:b9 K A gs.flatten ((os.drop o).take (gs.length*sz))) (ht:sz=5->e=Bp):eJ K A (.sub sz gs) (.slice (some ⟨b,o,none⟩) gs.length c)
inductive b9(K:CH)(A:Nat->Prop):List SV->List ae->Prop where
 | nil:b9 K A [] []
 | cons {x:SV} {v:ae} {xs:List SV} {vs:List ae} (h:eJ K A x v) (t:b9 K A xs vs):b9 K A (x::xs) (v::vs)
end
theorem eJ.mv{K K':CH}{A a:Nat->Prop}(hA : ∀b,A b->a b/\K'.ob b=K.ob b){x:SV}{v:ae}(h:eJ K A x v):eJ K' a x v:=
 eJ.rec (motive_1:=λx v _=>eJ K' a x v) (motive_2:=λx v _=>b9 K' a x v) (λh=> .sc h) .pI (λaA hb ho hk hg _ ht c=> .row aA (hA _ hb).1 ((hA _ hb).2.trans ho) hk hg c ht) (λh=> .lk h) .zi (λaA hb ho hg hl _ ht c=> .sub aA (hA _ hb).1 ((hA _ hb).2.trans ho) hg hl c ht) .nil (λ_ _ i1 i2=> .cons i1 i2) h
theorem b9.mv{K K':CH}{A a:Nat->Prop}(hA : ∀b,A b->a b/\K'.ob b=K.ob b){x:List SV}{v:List ae}(h:b9 K A x v):b9 K' a x v:=
 b9.rec (motive_1:=λx v _=>eJ K' a x v) (motive_2:=λx v _=>b9 K' a x v) (λh=> .sc h) .pI (λaA hb ho hk hg _ ht c=> .row aA (hA _ hb).1 ((hA _ hb).2.trans ho) hk hg c ht) (λh=> .lk h) .zi (λaA hb ho hg hl _ ht c=> .sub aA (hA _ hb).1 ((hA _ hb).2.trans ho) hg hl c ht) .nil (λ_ _ i1 i2=> .cons i1 i2) h
theorem b9.r2{K:CH}{A:Nat->Prop} : ∀ {xs:List SV} {vs:List ae},b9 K A xs vs->R2 (eJ K A) xs vs
 | [],_,h=>by cases h;exact .nil
 | x::xs,_,h=>by
   cases h with
   | cons h t=>exact .cons h t.r2
theorem R2.Lq{K:CH}{A:Nat->Prop} : ∀ {xs:List SV} {vs:List ae},R2 (eJ K A) xs vs->b9 K A xs vs
 | _,_, .nil=> .nil
 | _,_, .cons h t=> .cons h t.Lq
abbrev vq(sz:Nat)(gs:List (List SV)):SV:= .row sz gs
theorem eJ.cell{K:CH}{A:Nat->Prop}{x:SV}{v:ae}(h:eJ K A x v):bu v=true:=by
 cases h with
 | sc h=>exact h
 | pI=>rfl
 | row=>rfl
 | lk h=>exact h
 | zi=>rfl
 | sub=>rfl
structure TE where
 σ:Nat->Option Nat
 ρ:Nat->Option Nat
 hid:Nat->Prop
def dE (K:CH)(E:TE)(b:Nat):Prop:=b<K.nx/\¬E.hid b/\(∀t,E.σ t≠some b)/\∀o,E.ρ o≠some b
inductive fo(K:CH)(E:TE):CV->ae->Prop where
 | s {x:SV} {v:ae} (h:eJ K (dE K E) x v):fo K E (.s x) v
 | vr {t sz:Nat} {e:aI}:fo K E (.own t e sz []) (.slice none 0 0)
 | own {t b sz:Nat} {os:List ae} {e:aI} {kd:Kd} {gs:List (List SV)} (aA:gs≠ []/\gs.length<=maxLen) (hb:E.σ t=some b) (ho:K.ob b= .cells os e kd) (hk:kd.cD=false) (hg : ∀g∈gs,g.length=sz) (hs:b9 K (dE K E) gs.flatten os) (ht:sz=5->e=Bp):fo K E (.own t e sz gs) (.slice (some ⟨b,0,none⟩) gs.length gs.length)
 | bad {v:ae} (h:bu v=true):fo K E .bad v
theorem fo.cell{K:CH}{E:TE}{x:CV}{v:ae}(h:fo K E x v):bu v=true:=by
 cases h with
 | s h=>exact h.cell
 | vr=>rfl
 | own=>rfl
 | bad h=>exact h
inductive qh(K:CH)(E:TE):RV->ae->Prop where
 | c {x:CV} {v:ae} (h:fo K E x v):qh K E (.c x) v
 | agg {cs:List CV} {vs:List ae} (h:R2 (fo K E) cs vs):qh K E (.agg cs) (.agg vs.toArray)
inductive bX(K:CH)(E:TE):AV->ae->Prop where
 | r {x:RV} {v:ae} (h:qh K E x v):bX K E (.r x) v
 | ptr {o off l:Nat} (h:E.ρ o=some l):bX K E (.ptr o off) (.pointer (some ⟨l,off,none⟩))
 | fT {t:Option Nat} {g:List SV} {off b base:Nat} {os:List ae} {e:aI} {kd:Kd} (hb:match t with | none=>dE K E b | some t=>E.σ t=some b) (ho:K.ob b= .cells os e kd) (hl:base+g.length<=os.length) (hs:R2 (eJ K (dE K E)) g ((os.drop base).take g.length)):bX K E (.fT t g off) (.pointer (some ⟨b,base+off,none⟩))
 | jX {l:List RV} {vs:List ae} (h:R2 (qh K E) l vs):bX K E (.jX l) (.tuple vs.toArray)
 | skip:bX K E .skip kD
 | bad {v:ae}:bX K E .bad v
inductive SA where
 | cP | fz | kill
def CV.act(g:Nat->SA):CV->CV
 | .own t e sz gs=>match g t with
   | .cP=> .own t e sz gs
   | .fz=> .s (vq sz gs)
   | .kill=> .bad
 | x=>x
def RV.act(g:Nat->SA):RV->RV
 | .c x=> .c (x.act g)
 | .agg cs=> .agg (cs.map (CV.act g))
def AV.act(g:Nat->SA):AV->AV
 | .r x=> .r (x.act g)
 | .fT (some t) l off=>match g t with
   | .cP=> .fT (some t) l off
   | .fz=> .fT none l off
   | .kill=> .bad
 | .jX l=> .jX (l.map (RV.act g))
 | x=>x
structure Mv(K:CH)(E:TE)(g:Nat->SA)(K':CH)(E':TE):Prop where
 jb : ∀b,dE K E b->dE K' E' b/\K'.ob b=K.ob b
 cP : ∀t b,E.σ t=some b->g t= .cP->E'.σ t=some b/\K'.ob b=K.ob b
 fz : ∀t b,E.σ t=some b->g t= .fz->dE K' E' b/\K'.ob b=K.ob b
 ej : ∀o b,E.ρ o=some b->E'.ρ o=some b
variable {K K':CH} {E E':TE} {g:Nat->SA}
theorem fo.mv(m:Mv K E g K' E'){x:CV}{v:ae}(h:fo K E x v):fo K' E' (x.act g) v:=by
 cases h with
 | s h=>exact .s (h.mv m.jb)
 | @vr t sz e=>
   show fo K' E' (match g t with | .cP=> .own t e sz [] | .fz=> .s (vq sz []) | .kill=> .bad) _;cases g t with
   | cP=>exact .vr
   | fz=>exact .s .pI
   | kill=>exact .bad rfl
 | @own t b sz os e kd gs aA hb ho hk hg hs ht=>
   show fo K' E' (match g t with | .cP=> .own t e sz gs | .fz=> .s (vq sz gs) | .kill=> .bad) _;cases a:g t with
   | cP=>exact .own aA (m.cP t b hb a).1 ((m.cP t b hb a).2.trans ho) hk hg (hs.mv m.jb) ht
   | fz=>exact .s (.row aA (m.fz t b hb a).1 ((m.fz t b hb a).2.trans ho) hk hg (hs.mv m.jb) ht)
   | kill=>exact .bad rfl
 | bad h=>exact .bad h
theorem qh.mv(m:Mv K E g K' E'){x:RV}{v:ae}(h:qh K E x v):qh K' E' (x.act g) v:=by
 cases h with
 | c h=>exact .c (h.mv m)
 | agg h=>exact .agg (h.map λ_ _ q=>q.mv m)
theorem bX.mv(m:Mv K E g K' E'){x:AV}{v:ae}(h:bX K E x v):bX K' E' (x.act g) v:=by
 cases h with
 | r h=>exact .r (h.mv m)
 | ptr h=>exact .ptr (m.ej _ _ h)
 | @fT t l off b base os e kd hb ho hl hs=>
   cases t with
   | none=>exact .fT (t:=none) (m.jb b hb).1 ((m.jb b hb).2.trans ho) hl (hs.mono λ_ _ q=>q.mv m.jb)
   | some t=>
     show bX K' E' (match g t with | .cP=> .fT (some t) l off | .fz=> .fT none l off | .kill=> .bad) _;cases a:g t with
     | cP=>exact .fT (t:=some t) (m.cP t b hb a).1 ((m.cP t b hb a).2.trans ho) hl (hs.mono λ_ _ q=>q.mv m.jb)
     | fz=>exact .fT (t:=none) (m.fz t b hb a).1 ((m.fz t b hb a).2.trans ho) hl (hs.mono λ_ _ q=>q.mv m.jb)
     | kill=>exact .bad
 | jX h=>exact .jX (h.map λ_ _ q=>q.mv m)
 | skip=>exact .skip
 | bad=>exact .bad
structure TS where
 nt:Nat
 av:List (Nat×aI×List CV)
abbrev aM:=Nat->AV
def TS.act(g:Nat->SA)(s:TS):TS:=⟨s.nt,s.av.map λ(v,e,cs)=>(v,e,cs.map (CV.act g))⟩
def aM.act(g:Nat->SA)(fr:aM):aM:=λt=>(fr t).act g
structure TP where
 N:Nat->Prop
 M:Nat->cy
 J:List (List UInt8)->List ae->CH->Nat->(Nat->Prop)->Prop
 jm : ∀ {xs:List (List UInt8)} {vs:List ae} {K K':CH} {p:Nat} {W:Nat->Prop},J xs vs K p W->(∀b,W b->K'.ob b=K.ob b)->K.nx<=K'.nx->J xs vs K' p W
abbrev TP.plain(N:Nat->Prop)(M:Nat->cy):TP:=⟨N,M,λ_ _ _ _ _=>False,λh _ _=>h⟩
def fp:List CV->List (List UInt8)
 | []=> []
 | .s (.lk x)::r=>x::fp r
 | _::r=>fp r
def kO:List CV->List ae->List ae
 | .s (.lk _)::r,v::vs=>v::kO r vs
 | _::r,_::vs=>kO r vs
 | _,_=> []
def lkO (l:List (Nat×aI×List CV)):List (List UInt8):=match l with
 | []=> []
 | (_,_,cs)::_=>fp cs
def JR (Z:TP)(l:List (Nat×aI×List CV))(K:CH)(sp:Option Nat)(W:Nat->Prop):Prop:=match l with
 | []=>∀b,¬W b
 | (_,e,cs)::_=>(fp cs= []/\∀b,¬W b)\/(fp cs≠ []/\∃p os,sp=some p/\K.ob p= .cells os e .ex/\os.length=cs.length/\Z.J (fp cs) (kO cs os) K p W)
structure TR(Z:TP)(K0:CH)(sp:Option Nat)(W0:Nat->Prop)(K:CH)(st:TS)(fr:aM)(aK:Fr)(E:TE):Prop where
 nx:K0.nx<=K.nx
 cP : ∀b,b<K0.nx->sp≠some b->¬W0 b->K.ob b=K0.ob b
 ur : ∀b,Z.N b->b<K0.nx/\sp≠some b/\¬W0 b/\K.ob b=Z.M b
 hid : ∀b,E.hid b->b<K.nx/\(∀t,E.σ t≠some b)/\∀o,E.ρ o≠some b
 wr : ∃W:Nat->Prop,(∀b,W b->E.hid b/\(W0 b\/K0.nx<=b))/\JR Z st.av K (E.ρ 0) W
 sig : ∀t b,E.σ t=some b->K0.nx<=b/\b<K.nx/\t<st.nt
 inj : ∀t t' b,E.σ t=some b->E.σ t'=some b->t=t'
 sr : ∀t o b,E.σ t=some b->E.ρ o≠some b
 ej : ∀o b,E.ρ o=some b->b<K.nx/\(K0.nx<=b\/sp=some b)/\o<st.av.length
 sC : ∀o o' b,E.ρ o=some b->E.ρ o'=some b->o=o'
 av : ∀o v e cs,st.av[o]? = some (v,e,cs)->∃b os,E.ρ o=some b/\K.ob b= .cells os e .ex/\R2 (fo K E) cs os
 gx : ∀t,bX K E (fr t) (aK t)
end
section
open Go Go.RowKit
theorem alh{v:ae}(h:bu v=true):v.cells= #[v]:=by cases v<;>first | rfl | cases h
theorem ali{v:ae}(h:bu v=true):isVal v=true:=by cases v<;>first | rfl | cases h
abbrev cS(v:ae):CV:= .s (.sc v)
abbrev rS(v:ae):AV:= .r (.c (.s (.sc v)))
abbrev iS(n:Int):AV:= .r (.c (.s (.sc (.int .i64 n))))
def nzS:Nat:=5
def cN (v:ae):CV:=match v with
 | .slice none 0 0=> .s (.row nzS [])
 | v=> .s (.sc v)
def Fi (z:List ae):Option (List CV):=if z.all bu=true then some (z.map cN) else none
def Lr (v:ae):AV:=match v with
 | .agg cs=>match Fi cs.toList with
   | some l=> .r (.agg l)
   | none=> .bad
 | v=>match bu v with
   | true=> .r (.c (cN v))
   | false=> .bad
theorem acG{K:CH}{E:TE}{v:ae}(h:bu v=true):fo K E (cN v) v:=by
 unfold cN;split;·exact .s .pI
 exact .s (.sc h)
def AV.raw:AV->Option ae
 | .r (.c (.s (.sc v)))=>some v
 | _=>none
def eC (fr:aM):au->AV
 | .tmp t=>fr t
 | .const v=>Lr v
 | _=> .bad
def AV.wM:AV->Option (List CV)
 | .r (.c x)=>some [x]
 | .r (.agg cs)=>some cs
 | _=>none
def AV.rowOf:AV->Option (Option Nat×Option Nat×List (List SV))
 | .r (.c (.s (.row sz gs)))=>some (none,some sz,gs)
 | .r (.c (.s (.sc (.slice none 0 0))))=>some (none,none,[])
 | .r (.c (.own t _ sz gs))=>some (some t,some sz,gs)
 | _=>none
def AV.Pu:AV->Option (Option Nat×Option Nat×List (List SV))
 | .r (.c (.s (.sub sz gs)))=>some (none,some sz,gs)
 | a=>a.rowOf
def Ij(sz:Nat):Option Nat->Prop
 | none=>True
 | some oD=>oD=sz
instance {sz:Nat} : ∀ {o:Option Nat},Decidable (Ij sz o)
 | none=>inferInstanceAs (Decidable True)
 | some oD=>inferInstanceAs (Decidable (oD=sz))
def lenOf:AV->Option Nat
 | .r (.c (.s (.row _ gs)))=>some gs.length
 | .r (.c (.own _ _ _ gs))=>some gs.length
 | .r (.c (.s (.sc (.slice _ n _))))=>some n
 | .r (.c (.s (.sub _ gs)))=>some gs.length
 | _=>none
def Pv:dJ->Option (List au)
 | .bin _ x y=>some [x,y]
 | .Em _ x y=>some [x,y]
 | .un _ x=>some [x]
 | .conv _ x=>some [x]
 | .G3 x=>some [x]
 | .G4 x i=>some [x,i]
 | .lens x=>some [x]
 | .mx _ x y=>some [x,y]
 | .En x lo hi=>some (x::(lo.toList++hi.toList))
 | _=>none
def rev (fr:aM)(x:au):ae:=((eC fr x).raw).getD undef
def Ls:List CV->List (Nat×Nat×Option (List CV))->Option (List CV)
 | z,[]=>some z
 | z,(o,s,some cs)::r=>if cs.length=s/\o+s<=z.length then Ls (z.take o++cs++z.drop (o+s)) r else none
 | _,_=>none
def sD (fr:aM):dJ->Option AV
 | .vZ x=>some (eC fr x)
 | .pick c a b=>match (eC fr c).raw with
   | some (.bool t)=>some (if t=true then eC fr a else eC fr b)
   | _=>none
 | .off x d=>match eC fr x with
   | .ptr o off=>some (.ptr o (off+d))
   | .fT t g off=>some (.fT t g (off+d))
   | _=>none
 | .Eo x=>match eC fr x with
   | .ptr o off=>some (.ptr o off)
   | .fT t g off=>some (.fT t g off)
   | _=>none
 | .kW x d n=>match eC fr x,n with
   | .r (.agg cs),none=>(cs[d]?).map λx=> .r (.c x)
   | .r (.agg cs),some m=>if d+m<=cs.length then some (.r (.agg ((cs.drop d).take m))) else none
   | _,_=>none
 | .len x=>(lenOf (eC fr x)).map λn=>iS n
 | .idx x i sz=>match (eC fr x).Pu,(eC fr i).raw with
   | some (t,z,gs),some (.int _ j)=>if Ij sz z/\0<=j then (gs[j.toNat]?).map λg=> .fT t g 0 else none
   | _,_=>none
 | .ext x i=>match eC fr x with
   | .jX l=>(l[i]?).map .r
   | _=>none
 | .As z ps=>match Fi z with
   | some z=>(Ls z (ps.map λ(o,s,x)=>(o,s,(eC fr x).wM))).map λcs=> .r (.agg cs)
   | none=>none
 | x=>match Pv x with
   | some l=>if l.all (λy=>(eC fr y).raw.isSome)=true then (pop (rev fr) x).map Lr else none
   | none=>none
variable {K K':CH} {E E':TE} {fr:aM} {aK:Fr}
theorem Va : ∀ {z:List ae} {l:List CV},Fi z=some l->R2 (fo K E) l z:=λ{z l} h=>by
 unfold Fi at h;split at h
 ·rename_i ha;injection h with h
  subst h;induction z with
  | nil=>exact .nil
  | cons v z a=>
    rw[List.all_cons,Bool.and_eq_true] at ha;exact .cons (acG ha.1) (a ha.2)
 cases h
theorem acH{v:ae}:bX K E (Lr v) v:=by
 unfold Lr;split
 ·rename_i cs;split;·rename_i l hl;exact .r (.agg (vs:=cs.toList) (Va hl))
  exact .bad
 split;·rename_i h;exact .r (.c (acG h))
 exact .bad
theorem ut{a:AV}{u v:ae}(h:bX K E a v)(b:a.raw=some u):v=u:=by
 unfold AV.raw at b;split at b
 ·cases b;cases h with
  | r h=>
    cases h with
    | c h=>
      cases h with
      | s h=>cases h with | sc h=>rfl
 cases b
theorem jR(a : ∀t,bX K E (fr t) (aK t))(x:au):bX K E (eC fr x) (aJ aK x):=by
 cases x with
 | tmp t=>exact a t
 | const v=>exact acH
 | _=>exact .bad
theorem Lt{a:AV}{v:ae}(h:bX K E a v){l:List CV}(b:a.wM=some l):R2 (fo K E) l v.cells.toList/\isVal v=true:=by
 unfold AV.wM at b;split at b
 ·cases b;cases h with
  | r h=>cases h with
    | c h=>rw[alh h.cell];exact⟨.cons h .nil,ali h.cell⟩
 ·cases b;cases h with
  | r h=>cases h with
    | agg h=>exact⟨h,rfl⟩
 cases b
theorem bX.xU{o off:Nat}{v:ae}(h:bX K E (.ptr o off) v) : ∃l,E.ρ o=some l/\v= .pointer (some ⟨l,off,none⟩):=by
 cases h with
 | ptr h=>exact⟨_,h,rfl⟩
def Own (K:CH)(E:TE)(t:Option Nat)(b:Nat):Prop:=match t with
 | none=>dE K E b
 | some t=>E.σ t=some b
theorem bX.Pw{t:Option Nat}{g:List SV}{off:Nat}{v:ae}(h:bX K E (.fT t g off) v) : ∃b base os e kd,Own K E t b/\K.ob b= .cells os e kd/\base+g.length<=os.length/\R2 (eJ K (dE K E)) g ((os.drop base).take g.length)/\v= .pointer (some ⟨b,base+off,none⟩):=by
 cases h with
 | fT hb ho hl hs=>exact⟨_,_,_,_,_,hb,ho,hl,hs,rfl⟩
theorem Px{α:Type}{sz:Nat} : ∀ {gs:List (List α)},(∀g∈gs,g.length=sz)->∀ {j:Nat} {g:List α},gs[j]? = some g->(gs.flatten.drop (j*sz)).take g.length=g/\j*sz+g.length<=gs.flatten.length
 | [],_,j,g,h=>by simp at h
 | a::gs,hg,0,g,h=>by
   simp at h;subst h;simp
 | a::gs,hg,j+1,g,h=>by
   have ha:=hg a Sm;have b:=Px (gs:=gs) (λx hx=>hg x (by simp[hx])) (j:=j) (g:=g) (by simpa using h);have e:(j+1)*sz=a.length+j*sz:=by rw[ha,qC];omega
   have hd:(a++gs.flatten).drop (a.length+j*sz)=gs.flatten.drop (j*sz):=by rw[<-ir,List.drop_left]
   rw[Ce,e,hd];exact⟨b.1,by rw[cO];omega⟩
theorem Fj{α:Type}{sz:Nat} : ∀ {gs:List (List α)},(∀g∈gs,g.length=sz)->gs.flatten.length=gs.length*sz
 | [],_=>by simp
 | a::gs,hg=>by
   rw[Ce,cO,Fj λx hx=>hg x (by simp[hx]),hg a Sm,cw,qC];omega
theorem Fk{a:AV}{v:ae}(h:bX K E a v){t:Option Nat}{z:Option Nat}{gs:List (List SV)}(d:a.rowOf=some (t,z,gs)):(gs= []/\v= .slice none 0 0)\/(gs≠ []/\gs.length<=maxLen)/\∃sz b os e kd,z=some sz/\Own K E t b/\K.ob b= .cells os e kd/\kd.cD=false/\(∀g∈gs,g.length=sz)/\b9 K (dE K E) gs.flatten os/\v= .slice (some ⟨b,0,none⟩) gs.length gs.length:=by
 unfold AV.rowOf at d;split at d
 ·cases d;cases h with
  | r h=>cases h with
    | c h=>cases h with
      | s h=>cases h with
        | pI=>exact .inl ⟨rfl,rfl⟩
        | row aA hb ho hk hg hs=>exact .inr ⟨aA,_,_,_,_,_,rfl,hb,ho,hk,hg,hs,rfl⟩
 ·cases d;exact .inl ⟨rfl,ut h rfl⟩
 ·cases d;cases h with
  | r h=>cases h with
    | c h=>cases h with
      | vr=>exact .inl ⟨rfl,rfl⟩
      | own aA hb ho hk hg hs=>exact .inr ⟨aA,_,_,_,_,_,rfl,hb,ho,hk,hg,hs,rfl⟩
 cases d
theorem alj{a:AV}{v:ae}(h:bX K E a v){t:Option Nat}{z:Option Nat}{gs:List (List SV)}(d:a.Pu=some (t,z,gs))(aA:gs≠ []) : ∃sz b o c os e kd,z=some sz/\Own K E t b/\K.ob b= .cells os e kd/\(∀g∈gs,g.length=sz)/\o+gs.length*sz<=os.length/\b9 K (dE K E) gs.flatten ((os.drop o).take (gs.length*sz))/\v= .slice (some ⟨b,o,none⟩) gs.length c:=by
 unfold AV.Pu at d;split at d
 ·cases d;cases h with
  | r h=>cases h with
    | c h=>cases h with
      | s h=>cases h with
        | zi=>exact absurd rfl aA
        | sub _ hb ho hg hl hs=>exact⟨_,_,_,_,_,_,_,rfl,hb,ho,hg,hl,hs,rfl⟩
 rcases Fk h d with ⟨e,_⟩ | ⟨_,sz,b,os,e,kd,j,k,m,u,f,i,n⟩
 ·exact absurd e aA
 have hl:os.length=gs.length*sz:=by
  rw[i.r2.len];have : ∀l:List (List SV),(∀g∈l,g.length=sz)->l.flatten.length=l.length*sz:=λl=>by
   induction l with
   | nil=>intro _;simp
   | cons a l q=>
     intro hg;rw[Ce,cO,q λx hx=>hg x (by simp[hx]),hg a Sm,cw,qC];omega
  exact this gs f
 exact⟨sz,b,0,gs.length,os,e,kd,j,k,m,f,Om,by rw[ly,qD Om];exact i,n⟩
theorem alk{a:AV}{v:ae}(h:bX K E a v){n:Nat}(b:lenOf a=some n) : ∃q c,v= .slice q n c:=by
 unfold lenOf at b;split at b
 ·rename_i sz gs;cases b;rcases Fk (t:=none) (z:=some sz) (gs:=gs) h rfl with ⟨rfl,hv⟩ | ⟨_,_,_,_,_,_,_,_,_,_,_,_,hv⟩
  ·exact⟨_,_,hv⟩
  exact⟨_,_,hv⟩
 ·rename_i t e sz gs;cases b;rcases Fk (t:=some t) (z:=some sz) (gs:=gs) h rfl with ⟨rfl,hv⟩ | ⟨_,_,_,_,_,_,_,_,_,_,_,_,hv⟩
  ·exact⟨_,_,hv⟩
  exact⟨_,_,hv⟩
 ·cases b;exact⟨_,_,ut h rfl⟩
 ·cases b;cases h with
  | r h=>cases h with
    | c h=>cases h with
      | s h=>cases h with
        | zi=>exact⟨_,_,rfl⟩
        | sub=>exact⟨_,_,rfl⟩
 cases b
theorem R2.set{α:Type}{R:α->ae->Prop}{xs us:List α}{ys vs:List ae}(h:R2 R xs ys)(g:R2 R us vs){o:Nat}:R2 R (xs.take o++us++xs.drop (o+us.length)) (setCells ys o vs):=by
 unfold setCells;rw[g.len];exact((h.take o).app g).app (h.drop _)
theorem acI : ∀ {ps:List (Nat×Nat×Option (List CV))} {qs:List (Nat×Nat×ae)} {z:List CV} {zs:List ae} {cs:List CV},R2 (fo K E) z zs->R2 (λ(p:Nat×Nat×Option (List CV)) (q:Nat×Nat×ae)=>p.1=q.1/\p.2.1=q.2.1/\∀l,p.2.2=some l->R2 (fo K E) l q.2.2.cells.toList/\isVal q.2.2=true) ps qs->Ls z ps=some cs->∃vs,iv zs qs=some vs/\R2 (fo K E) cs vs
 | [],_,z,zs,cs,hz, .nil,h=>by
   cases h;exact⟨zs,rfl,hz⟩
 | (o,s,none)::ps,_,z,zs,cs,hz, .cons _ _,h=>by cases h
 | (o,s,some l)::ps,(o',i,v)::qs,z,zs,cs,hz, .cons ⟨a,b,c⟩ ht,h=>by
   cases a;cases b;obtain⟨g1,g2⟩:=c l rfl;simp only[Ls] at h;split at h
   ·rename_i hc;have d:v.cells.size=s:=by rw[<-Array.length_toList,g1.len];exact hc.1
    obtain⟨vs,e,f⟩:=acI (zs:=setCells zs o v.cells.toList) (by have:=hz.set g1 (o:=o);rw[hc.1] at this;exact this) ht h;refine⟨vs,?_,f⟩;show(if isVal v=true/\v.cells.size=s/\o+s<=zs.length then iv (setCells zs o v.cells.toList) qs else none)=_;rw[iP ⟨g2,d,by rw[hz.len];exact hc.2⟩];exact e
   cases h
theorem alm{ev ev':au->ae}{x:dJ}{l:List au}(h:Pv x=some l)(he : ∀y∈l,ev' y=ev y):pop ev' x=pop ev x:=by
 cases x<;>simp only[Pv,Option.some.injEq,reduceCtorEq] at h<;>subst h;case En x lo hi=>
  have hx:=he x Sm;have hl : ∀d,fF ev' d lo=fF ev d lo:=λd=>by
   cases lo with
   | none=>rfl
   | some y=>simp only[fF,he y Sm]
  have hh : ∀d,fF ev' d hi=fF ev d hi:=λd=>by
   cases hi with
   | none=>rfl
   | some y=>simp only[fF,he y Sm]
  simp only[pop,hx,hl,hh]
 all_goals simp only[ox,List.mem_singleton,List.not_mem_nil,or_false,forall_eq_or_imp,forall_eq] at he
 all_goals simp only[pop,he]
theorem aln(b : ∀t,bX K E (fr t) (aK t)){x:dJ}{a:AV}(h:(match Pv x with | some l=>if l.all (λy=>(eC fr y).raw.isSome)=true then (pop (rev fr) x).map Lr else none | none=>none)=some a) : ∃v,pop (aJ aK) x=some v/\bX K E a v:=by
 split at h
 ·rename_i l hl;split at h
  ·rename_i ha;have he : ∀y∈l,aJ aK y=rev fr y:=λy c=>by
    have:=List.all_eq_true.1 ha y c;obtain⟨u,hu⟩:=Option.isSome_iff_exists.1 this;rw[ut (jR b y) hu,rev,hu];rfl
   rw[<-alm hl he] at h;cases hp:pop (aJ aK) x with
   | none=>rw[hp] at h;cases h
   | some v=>rw[hp] at h;cases h;exact⟨v,rfl,acH⟩
  cases h
 cases h
theorem acJ(f : ∀t,bX K E (fr t) (aK t)){x:dJ}{a:AV}(h:sD fr x=some a) : ∃v,pop (aJ aK) x=some v/\bX K E a v:=by
 cases x with
 | vZ x=>cases h;exact⟨_,rfl,jR f x⟩
 | pick c x y=>
   simp only[sD] at h;split at h
   ·rename_i t hc;cases h;have:=ut (jR f c) hc;refine⟨if t=true then aJ aK x else aJ aK y,by simp only[pop,this],?_⟩;cases t;·exact jR f y
    exact jR f x
   cases h
 | off x d=>
   simp only[sD] at h;have hx:=jR f x;split at h;·rename_i o off e;cases h;rw[e] at hx;obtain⟨l,hl,hv⟩:=hx.xU;exact⟨_,by simp only[pop,hv], .ptr hl⟩
   ·rename_i t g off e;cases h;rw[e] at hx;obtain⟨b,base,os,F,kd,hb,ho,hl,hs,hv⟩:=hx.Pw;exact⟨.pointer (some ⟨b,base+(off+d),none⟩),by simp only[pop,hv,mP], .fT hb ho hl hs⟩
   cases h
 | Eo x=>
   simp only[sD] at h;have hx:=jR f x;split at h;·rename_i o off e;cases h;rw[e] at hx;obtain⟨l,hl,hv⟩:=hx.xU;exact⟨_,by simp only[pop,hv], .ptr hl⟩
   ·rename_i t g off e;cases h;rw[e] at hx;obtain⟨b,base,os,F,kd,hb,ho,hl,hs,hv⟩:=hx.Pw;exact⟨_,by simp only[pop,hv], .fT hb ho hl hs⟩
   cases h
 | kW x d n=>
   simp only[sD] at h;have hx:=jR f x;split at h
   ·rename_i cs e;rw[e] at hx;cases hv:aJ aK x with
    | _=>
      rw[hv] at hx;cases hx;rename_i hx;cases hx;try(
       rename_i vs u;cases hc:cs[d]? with
       | none=>rw[hc] at h;cases h
       | some y=>
         rw[hc] at h;cases h;obtain⟨v,h1,h2⟩:=u.get hc;exact⟨v,by simp only[pop,hv,wb,h1], .r (.c h2)⟩)
      try(rename_i w;cases w)
   ·rename_i cs m e;rw[e] at hx;split at h
    ·rename_i A;cases h;cases hv:aJ aK x with
     | _=>
       rw[hv] at hx;cases hx;rename_i hx;cases hx;try(
        rename_i vs u;exact⟨_,by simp only[pop,hv,wb];rw[iP (by rw[u.len];exact A)], .r (.agg ((u.drop d).take m))⟩)
       try(rename_i w;cases w)
    cases h
   cases h
 | len x=>
   simp only[sD] at h;have hx:=jR f x;cases hl:lenOf (eC fr x) with
   | none=>rw[hl] at h;cases h
   | some n=>
     rw[hl] at h;cases h;obtain⟨q,c,hv⟩:=alk hx hl;exact⟨_,by simp only[pop,hv], .r (.c (.s (.sc rfl)))⟩
 | idx x i sz=>
   simp only[sD] at h;split at h
   ·rename_i t z gs k j H B;split at h
    ·rename_i hc;obtain⟨hz,I⟩:=hc;cases hg:gs[j.toNat]? with
     | none=>rw[hg] at h;cases h
     | some g=>
       rw[hg] at h;cases h;have hi:=ut (jR f i) B;have O:=(List.getElem?_eq_some_iff.1 hg).1;obtain⟨oD,b,o,c,os,F,kd,rfl,C,D,G,P,J,hv⟩:=alj (jR f x) H (λe=>by rw[e] at hg;simp at hg);cases hz;obtain⟨L,Q⟩:=Px G hg;refine⟨_,by simp only[pop,hv,hi];rw[iP ⟨I,Om⟩],?_⟩;have u:=((J.r2.drop (j.toNat*sz)).take g.length);rw[L] at u;have R:=Fj G;have B:((((os.drop o).take (gs.length*sz)).drop (j.toNat*sz)).take g.length)=(os.drop (o+j.toNat*sz)).take g.length:=by
        rw[List.drop_take,List.take_take,ir,Nat.min_eq_left Om]
       rw[B] at u;exact .fT (base:=o+j.toNat*sz) (off:=0) C D Om u
    cases h
   cases h
 | ext x i=>
   simp only[sD] at h;have hx:=jR f x;split at h
   ·rename_i l e;rw[e] at hx;cases hc:l[i]? with
    | none=>rw[hc] at h;cases h
    | some y=>
      rw[hc] at h;cases h;cases hv:aJ aK x with
      | _=>
        rw[hv] at hx;cases hx;try(
         rename_i vs u;obtain⟨v,h1,h2⟩:=u.get hc;exact⟨v,by simp only[pop,hv];simpa using h1, .r h2⟩)
   cases h
 | As z ps=>
   simp only[sD] at h;split at h
   ·rename_i M hz;cases hb:Ls M (ps.map λ(o,s,x)=>(o,s,(eC fr x).wM)) with
    | none=>rw[hb] at h;cases h
    | some cs=>
      rw[hb] at h;cases h;obtain⟨vs,C,D⟩:=acI (K:=K) (E:=E) (qs:=ps.map λ(o,s,x)=>(o,s,aJ aK x)) (Va hz) (by
       clear hb;induction ps with
       | nil=>exact .nil
       | cons p ps N=>exact .cons ⟨rfl,rfl,λl hl=>Lt (jR f p.2.2) hl⟩ N) hb
      exact⟨_,by simp only[pop];rw[C];rfl, .r (.agg D)⟩
   cases h
 | _=>exact aln f h
end
end Can
end Go.Proofs.YticlaccbodpkeaaGreatDoor
