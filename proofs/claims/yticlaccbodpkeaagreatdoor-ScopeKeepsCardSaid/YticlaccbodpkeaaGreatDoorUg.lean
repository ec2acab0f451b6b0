/- Parse, the document: its rules, as runs over trees, along the grammar; where a token can't stand, on in bad mode. (Printed by tools/gendw.py.). Parse, the document: its rules, as runs over trees, along the grammar; where a token can't stand, on in bad mode. (Printed by tools/gendw.py.). Parse, the document: its rules, as runs over trees, along the grammar; where a token can't stand, on in bad mode. (Printed by tools/gendw.py.). Parse, the document: screeref05.Parse answers parseT. Parse, the document: screeref05.Parse in a memory. Parse, its laws: the sources of the example, where Lex is told. Canonical runs: a table with functions of which it is told what they do. Over any program. Parse, its laws: the table in which it is told what Parse does; Same of trees. Parse, its laws: Source; the example holds. Parse, its laws: the example holds. Parse, its laws: tokens that grow; Same of two trees. Parse: how many kids a node has: not more than half as many as there are tokens, and a few. No program in sight. Parse, its laws: trees in memory, copied. ScopeKeeps: trees in memory, wiped. Scope: the renaming as a function of trees. No program in sight. Itoa, told: a number's text; the library's table lies where it lay. without, by the kit's walk: the names but those of parameters, in whatever order the map is gone through. without, told: the names but those of parameters, as a function. Rename: what is told, and what lies in the memory; kid. Rename: places, with. Rename: rows of nodes  -/
import Derived.Test.YticlaccbodpkeaaGreatDoorUf
import Derived.Test.YticlaccbodpkeaaGreatDoorUe
import Derived.Test.YticlaccbodpkeaaGreatDoorUd
import Derived.Shelf.LaysM
import Derived.Shelf.Strconv.Itoa3
import Derived.Test.YticlaccbodpkeaaGreatDoorChecked
import Derived.WalkKit
import Derived.Maps.Ext
import Derived.Maps.RangeWalk
import Derived.Maps.OwnSet
import Derived.StringKeys
import Derived.IntWalk
import Derived.Test.YticlaccbodpkeaaGreatDoorUa
open Bool renaming and_true → pL, not_eq_true' → zT, true_and → Jn
open Go renaming Addr → cB, DataW → pK, FuncId → aS, Value → ae, World → ay
open Go.Value renaming cells → ci, int → o7
open Go.World renaming cell?_of_block → SE
open List renaming append_assoc → oY, append_nil → gY, cons_append → gZ, drop → DY, drop_eq_getElem_cons → mz, drop_length → yu, ext_getElem → N0, flatMap_append → zZ, flatMap_cons → tw, getElem?_append_left → qo, getElem?_append_right → su, getElem?_drop → pI, getElem?_eq_getElem → cj, getElem?_eq_none → uA, getElem?_take_of_lt → sA, length_append → cG, length_cons → bN, length_map → eR, length_nil → bZ, length_take → kW, map_cons → c8, mem_cons_of_mem → jJ, mem_cons_self → lA, mem_of_getElem? → fD, take → DX, take_append_drop → yv, take_length → ng, take_of_length_le → ux, take_succ_cons → qx, take_succ_eq_append_getElem → pJ, take_zero → vU
open Nat renaming add_assoc → oa, le_add_right → N8, le_max_left → yr, le_max_right → yt, le_refl → ai, le_succ → mC, le_succ_of_le → xc, le_trans → cy, lt_irrefl → Jm, lt_of_lt_of_le → cQ, lt_succ_of_lt → qu, lt_succ_self → fN, mul_le_mul_right → zU, not_lt_zero → fW, strongRecOn → Sw, succ_mul → N6, zero_add → ba, zero_le → bR, zero_mul → xf
open Option renaming map_some → dC
open SizeOf renaming sizeOf → fc
set_option maxRecDepth 4000
set_option maxHeartbeats 8000000
set_option linter.unusedSimpArgs false
set_option linter.unusedVariables false
namespace Go.Proofs.YticlaccbodpkeaaGreatDoor
namespace Can
section
open Go Go.RowKit
attribute [local irreducible] TC ap aC jb gK
section
variable {Z:TP} {X:dz} {ts:List PT} {sl:Sl} {f:Nat}
theorem amF(C:cr Z ts sl)(ih : ∀g,g<=f->jn Z X ts sl g):DG Z X ts sl (f+1) .compare 186 [.ptr 0 0]:=by
 intro i Q R E P hi hG hE hQ;have bA:=ih f (ai f);have d:=C.len;have jQ:=hG;simp only[gr] at hG;refine dm dp Rl Kr (aK ?_)
 conv=>whnf
 exact j6
theorem amG(C:cr Z ts sl)(ih : ∀g,g<=f->jn Z X ts sl g):DG Z X ts sl (f+1) .arith 192 [.ptr 0 0]:=by
 intro i Q R E P hi hG hE hQ;have bA:=ih f (ai f);have d:=C.len;have jQ:=hG;simp only[gr] at hG;refine dm dp Rl Kr (aK ?_)
 conv=>whnf
 exact j6
theorem amH(C:cr Z ts sl)(ih : ∀g,g<=f->jn Z X ts sl g):DG Z X ts sl (f+1) .term 199 [.ptr 0 0]:=by
 intro i Q R E P hi hG hE hQ;have bA:=ih f (ai f);have d:=C.len;have jQ:=hG;simp only[gr] at hG;refine dm dp Rl Kr (aK ?_)
 conv=>whnf
 exact j6
theorem amI(C:cr Z ts sl)(ih : ∀g,g<=f->jn Z X ts sl g):DG Z X ts sl (f+1) .exprs 85 [.ptr 0 0]:=by
 intro i Q R E P hi hG hE hQ;have bA:=ih f (ai f);have d:=C.len;have jQ:=hG;simp only[gr] at hG;refine dm dp Rl Kr (aK ?_)
 conv=>whnf
 exact j6
theorem amJ(C:cr Z ts sl)(ih : ∀g,g<=f->jn Z X ts sl g) : ∀(cl:List UInt8),cl≠ []->Mo Z X ts sl (f+1) (.row cl []) 88 [.ptr 0 0,rS (.string ⟨⟨cl⟩⟩)]:=by
 intro cl cl_ne i Q R E P hi hG hE hQ;have bA:=ih f (ai f);have d:=C.len;have jQ:=hG;simp only[gr] at hG;refine dm dp Rl Kr (aK ?_)
 conv=>whnf
 exact j6
theorem amK(C:cr Z ts sl)(ih : ∀g,g<=f->jn Z X ts sl g) : ∀(k:Nat) (l:Int) (x:List UInt8) (o:Nat) (ks:List Nd),DG Z X ts sl (f+1) (.index (.mk k l x o ks)) 152 [.ptr 0 0,vi (.mk k l x o ks)]:=by
 intro k l x o ks i Q R E P hi hG hE hQ;have bA:=ih f (ai f);have d:=C.len;have jQ:=hG;simp only[gr] at hG;refine dm dp Rl Kr (aK ?_)
 conv=>whnf
 exact j6
theorem amL(C:cr Z ts sl)(ih : ∀g,g<=f->jn Z X ts sl g) : ∀(ln:Int),DG Z X ts sl (f+1) (.ze ln) 175 [.ptr 0 0,rS (.int .i64 ln)]:=by
 intro ln i Q R E P hi hG hE hQ;have bA:=ih f (ai f);have d:=C.len;have jQ:=hG;simp only[gr] at hG;refine dm dp Rl Kr (aK ?_)
 conv=>whnf
 exact j6
end
end
section
open Go Go.RowKit
attribute [local irreducible] TC ap aC jb gK
section
variable {Z:TP} {X:dz} {ts:List PT} {sl:Sl} {f:Nat}
theorem amM(C:cr Z ts sl)(ih : ∀g,g<=f->jn Z X ts sl g):DG Z X ts sl (f+1) .primary 121 [.ptr 0 0]:=by
 intro i Q R E P hi hG hE hQ;have bA:=ih f (ai f);have d:=C.len;have jQ:=hG;simp only[gr] at hG;refine dm dp Rl Kr (aK ?_)
 conv=>whnf
 exact j6
theorem amN(C:cr Z ts sl)(ih : ∀g,g<=f->jn Z X ts sl g):DG Z X ts sl (f+1) .places 84 [.ptr 0 0]:=by
 intro i Q R E P hi hG hE hQ;have bA:=ih f (ai f);have d:=C.len;have jQ:=hG;simp only[gr] at hG;refine dm dp Rl Kr (aK ?_)
 conv=>whnf
 exact j6
theorem amO(C:cr Z ts sl)(ih : ∀g,g<=f->jn Z X ts sl g):DG Z X ts sl (f+1) .plain 123 [.ptr 0 0]:=by
 intro i Q R E P hi hG hE hQ;have bA:=ih f (ai f);have d:=C.len;have jQ:=hG;simp only[gr] at hG;refine dm dp Rl Kr (aK ?_)
 conv=>whnf
 exact j6
theorem amP(C:cr Z ts sl)(ih : ∀g,g<=f->jn Z X ts sl g):DG Z X ts sl (f+1) .block 83 [.ptr 0 0]:=by
 intro i Q R E P hi hG hE hQ;have bA:=ih f (ai f);have d:=C.len;have jQ:=hG;simp only[gr] at hG;refine dm dp Rl Kr (aK ?_)
 conv=>whnf
 exact j6
theorem amQ(C:cr Z ts sl)(ih : ∀g,g<=f->jn Z X ts sl g):Mo Z X ts sl (f+1) (.clauses []) 187 [.ptr 0 0]:=by
 intro i Q R E P hi hG hE hQ;have bA:=ih f (ai f);have d:=C.len;have jQ:=hG;simp only[gr] at hG;refine dm dp Rl Kr (aK ?_)
 conv=>whnf
 exact j6
theorem amR(C:cr Z ts sl)(ih : ∀g,g<=f->jn Z X ts sl g) : ∀(ln:Int),DG Z X ts sl (f+1) (.list ln) 174 [.ptr 0 0,rS (.int .i64 ln)]:=by
 intro ln i Q R E P hi hG hE hQ;have bA:=ih f (ai f);have d:=C.len;have jQ:=hG;simp only[gr] at hG;refine dm dp Rl Kr (aK ?_)
 conv=>whnf
 exact j6
theorem amS(C:cr Z ts sl)(ih : ∀g,g<=f->jn Z X ts sl g) : ∀(ln:Int),DG Z X ts sl (f+1) (.ifs ln) 80 [.ptr 0 0,rS (.int .i64 ln)]:=by
 intro ln i Q R E P hi hG hE hQ;have bA:=ih f (ai f);have d:=C.len;have jQ:=hG;simp only[gr] at hG;refine dm dp Rl Kr (aK ?_)
 conv=>whnf
 exact j6
end
end
section
open Go Go.RowKit
attribute [local irreducible] TC ap aC jb gK
section
variable {Z:TP} {X:dz} {ts:List PT} {sl:Sl} {f:Nat}
theorem amT:jn Z X ts sl 0:=by
 constructor;all_goals (intros;intro i Q R E P hi a b c;exact a.elim)
theorem amU(C:cr Z ts sl)(a : ∀g,g<=f->jn Z X ts sl g):jn Z X ts sl (f+1):=⟨amo C a,amp C a,amw C a,amq C a,amF C a,amG C a,amH C a,amx C a,amM C a,amy C a,amI C a,amr C a,amN C a,ams C a,amO C a,amt C a,amP C a,amz C a,amA C a,amJ C a,amK C a,amQ C a,amR C a,amL C a,amB C a,amu C a,amS C a,amv C a⟩
theorem amV(C:cr Z ts sl) : ∀f,jn Z X ts sl f:=by
 intro f;induction f using Sw with
 | _ f a=>
   cases f with
   | zero=>exact amT
   | succ f=>exact amU C λg hg=>a g Om
end
end
section
open Go Go.RowKit
attribute [local irreducible] TC ap aC jb gK
abbrev QF(n:Nd):RV:= .agg [cS (.int .i64 (n.kind:Nat)),cS (.int .i64 n.line),cS (.string ⟨⟨n.text⟩⟩),cS (.int .i64 (n.op:Nat)), .s (.row 5 (cT n.kids))]
theorem amW{Z:TP}{X:dz}{ts:List PT}{sl:Sl}{R:ae->Prop}{Q:AV->List SV->Prop}(C:cr Z ts sl)(u : ∀n l e,l8 ts=(n,l,e)->Q (.iC [QF n, .c (cS (.int .i64 l)), .c (cS (.int .i64 e))]) []):TC Z (bF Tryz.prog LG GG) X 23 [rS (.slice sl.q sl.n sl.c)] none Q R:=by
 have a:=alp (ts:=ts);have A:=C.len;obtain⟨E,B⟩ : ∃E:Nat->Prop,E=λe=>gr ts (ts.length*64+100) (.top []) 0=some (.error e):=⟨_,rfl⟩;obtain⟨P,w⟩ : ∃P:List Nd->Nat->Prop,P=λl j=>gr ts (ts.length*64+100) (.top []) 0=some (.ok (l,j))/\gk l+1<=64*ts.length+2:=⟨_,rfl⟩;rw[<-B,<-w] at a;refine dm dp Rl Kr (aK ?_)
 conv=>whnf
 refine lq C (bR _) ?_;conv=>whnf
 refine sU (λm s=>(∃acc j c,Fc acc c/\s=⟨1,[oN jk,im sl j false,oN (nC 1 (Bf (aC ts 0).line acc) [] 0 c)]⟩/\j<=ts.length/\m<=ts.length*64+100/\2*acc.length<=j/\Gd E P (gr ts m (.top acc) j))\/(∃j gs ln,s=⟨1,[oN jk,im sl j true,oN (nG 1 ln ⟨⟨[]⟩⟩ 0 (.own 0 26 5 gs))]⟩/\j<=ts.length/\E j)) (ts.length*64+100) [99] rfl (.inl ⟨[],_,_, .inl ⟨rfl,rfl⟩,rfl,Om,ai _,by simp only[bZ];omega,a⟩) ?_;rintro m f1 s (⟨acc,j,c,hA,rfl,D,qM,F,a⟩ | ⟨j,gs,ln,rfl,D,he⟩);rotate_left
 ·conv=>whnf
  refine lq C D ?_;conv=>whnf
  have h:=u wL (aC ts j).line 22 (by rw[B] at he;unfold l8;rw[he]);exact h
 rcases m with _ | m
 ·exact a.elim
 have t:=amV C (X:=X) m;simp only[gr] at a;rcases hA with ⟨rfl,rfl⟩ | ⟨aB,rfl⟩
 rotate_left
 rcases acc with _ | ⟨⟨d,g,i,o,r⟩,acc⟩
 ·exact absurd rfl aB
 ·try simp only[bN,bZ] at F
  conv=>whnf
  refine lq C Om ?_;conv=>whnf
  generalize hk:((aC ts j).kind != Int.ofNat 0)=x;cases x
  ·have b:(aC ts j).kind=0:=by simpa using hk
   rw[iP b] at a;conv=>whnf
   rw[w] at a;obtain⟨v,G⟩:=a;refine adF (vj (.mk 1 (Bf (aC ts 0).line (Nd.mk d g i o r::acc)) [] 0 (Nd.mk d g i o r::acc))+1) 1 (Bf (aC ts 0).line (Nd.mk d g i o r::acc)) [] 0 (Nd.mk d g i o r::acc) (fN _) Om _ _ ?_;conv=>whnf
   refine eO (λh=> ?_) (λh=> ?_)
   ·have y:60<gk (Nd.mk d g i o r::acc)+1:=Int.ofNat_lt.1 (by simpa using h);conv=>whnf
    exact u wL 0 11 (by unfold l8;rw[v];exact iP y)
   have y : ¬ 60<gk (Nd.mk d g i o r::acc)+1:=λh2=>absurd (Int.ofNat_lt.2 h2) (by simpa using h);conv=>whnf
   exact u (nd 1 (Bf (aC ts 0).line (Nd.mk d g i o r::acc)) (Nd.mk d g i o r::acc)) 0 0 (by unfold l8;rw[v];exact iN y)
  have b : ¬(aC ts j).kind=0:=by simpa using hk
  rw[iN b] at a;have H:=zh b;conv=>whnf
  repeat' first
   | (refine jP t.stmt a Tv rfl (λe he I J K L ob M N=> ?_) Om (λn1 O S T U V z W a=> ?_)<;>(try simp only[NT.min] at z)<;>(conv=>whnf))
   | (intro (Y:_<=maxLen);conv=>whnf)
   | exact⟨m,[2],Om,rfl, .inl ⟨_,_,_,Ib rfl,rfl,Om,Om,(by simp only[cG,bN,bZ] at *;omega),a⟩⟩
   | exact⟨m,[2],Om,rfl, .inr ⟨_,_,_,rfl,Om,he⟩⟩
   | (refine⟨rfl,0,_,rfl,rfl,?_⟩;conv=>whnf)
   | (refine⟨rfl,?_⟩;conv=>whnf)
   | (refine⟨VY (by simp only[cG,bN,bZ,jG];omega),?_⟩;conv=>whnf)
 try simp only[bN,bZ] at F
 conv=>whnf
 refine lq C Om ?_;conv=>whnf
 generalize hk:((aC ts j).kind != Int.ofNat 0)=x;cases x
 ·have b:(aC ts j).kind=0:=by simpa using hk
  rw[iP b] at a;conv=>whnf
  rw[w] at a;obtain⟨v,G⟩:=a;refine adF (vj (.mk 1 (Bf (aC ts 0).line ([])) [] 0 ([]))+1) 1 (Bf (aC ts 0).line ([])) [] 0 ([]) (fN _) Om _ _ ?_;conv=>whnf
  exact u (nd 1 (Bf (aC ts 0).line []) []) 0 0 (by unfold l8;rw[v];rfl)
 have b : ¬(aC ts j).kind=0:=by simpa using hk
 rw[iN b] at a;have H:=zh b;conv=>whnf
 repeat' first
  | (refine jP t.stmt a Tv rfl (λe he I J K L ob M N=> ?_) Om (λn1 O S T U V z W a=> ?_)<;>(try simp only[NT.min] at z)<;>(conv=>whnf))
  | (intro (Y:_<=maxLen);conv=>whnf)
  | exact⟨m,[2],Om,rfl, .inl ⟨_,_,_,Ib rfl,rfl,Om,Om,(by simp only[cG,bN,bZ] at *;omega),a⟩⟩
  | exact⟨m,[2],Om,rfl, .inr ⟨_,_,_,rfl,Om,he⟩⟩
  | (refine⟨rfl,0,_,rfl,rfl,?_⟩;conv=>whnf)
  | (refine⟨rfl,?_⟩;conv=>whnf)
  | (refine⟨VY (by simp only[cG,bN,bZ,jG];omega),?_⟩;conv=>whnf)
end
section
open Go Go.RowKit
def Wy (H:CH)(ts:List PT)(v:ae)(K:CH):Prop:=ag H K/\∃os,v= .tuple #[.agg os.toArray, .int .i64 (l8 ts).2.1, .int .i64 (l8 ts).2.2]/\bK K (λb=>H.nx<=b/\b<K.nx) (cF (l8 ts).1) os
theorem amX{K:CH}{E:TE}{n:Nd}{v:ae}(h:pz K E (QF n) v) : ∃os,v= .agg os.toArray/\bK K (ei K E) (cF n) os:=by
 obtain⟨k,l,x,o,ks⟩:=n;generalize hx:QF (.mk k l x o ks)=x at h;cases h with
 | c=>cases hx
 | @agg cs vs h=>
   injection hx with hx
   subst hx;refine⟨vs,rfl,?_⟩;cases h with | cons a h=>
   cases h with | cons a2 h=>
   cases h with | cons a3 h=>
   cases h with | cons a4 h=>
   cases h with | cons a5 h=>
   cases h;rw[Ie a,Ie a2,Ie a3,Ie a4];refine .cons (.sc rfl) (.cons (.sc rfl) (.cons (.sc rfl) (.cons (.sc rfl) (.cons ?_ .nil))));cases a5 with
   | s h=>exact h
theorem amY{H:CH}{sl:Sl}{ts:List PT}(h:ig 3 tX H sl.q sl.c ts)(hn:sl.n=ts.length)(d:ts.length<=4398046510976):aQ (bF Tryz.prog LG GG) 23 [.slice sl.q sl.n sl.c] H λv K=>Wy H ts v K:=by
 have C:cr (V2 H sl) ts sl:=⟨alk h hn,d⟩;have hT:=amW (X:=pX) (R:=λ_=>False) (Q:=λa _=>a= .iC [QF (l8 ts).1, .c (cS (.int .i64 (l8 ts).2.1)), .c (cS (.int .i64 (l8 ts).2.2))]) C λn l e he=>by rw[he]
 rcases hT H none (λb=>b<H.nx) (λ_=>False) [.slice sl.q sl.n sl.c] (λ_ h=>⟨h,Sm⟩) (λ_ h=>h.elim) (λb hb=>⟨alj h hb,Sm,id,rfl⟩) (.cons (Ia rfl) .nil) rfl (λ_ h=>h) with h | ⟨n,v,H',_,h⟩
 ·refine h.mono λv K' ⟨h1,h2,lI,W',a,j,g,h3,_,_,_,h4⟩=> ?_;subst h4;refine⟨⟨h1,λb hb=>h2 b hb Sm id⟩,?_⟩;cases h3 with
  | iC h3=>
    cases h3 with | cons i h3=>
    cases h3 with | cons a2 h3=>
    cases h3 with | cons a3 h3=>
    cases h3;obtain⟨os,rfl,hs⟩:=amX i;refine⟨os,?_,hs.mv λb hb=>⟨⟨Nat.le_of_not_lt λq=>hb.2.1 (g.up b q),hb.1⟩,rfl⟩⟩;cases a2 with | c a2=>
    cases a3 with | c a3=>
    rw[Ie a2,Ie a3]
 exact h.2.2.elim
def qd (t:Tok):PT:=⟨t.kind,t.line,t.text⟩
theorem amZ(t:Tok):jF (qd t)=AX t:=rfl
theorem adI : ∀ts:List Tok,(ts.map qd).flatMap jF=ts.flatMap AX
 | []=>rfl
 | t::ts=>by rw[c8,tw,tw,adI ts,amZ]
theorem am0{A K:CH}{v:ae}{ts:List Tok}(h:eV A 85 3 AX K v ts):eV A 85 3 jF K v (ts.map qd):=by
 rcases h with ⟨rfl,rfl⟩ | ⟨b,kd,rfl,h1,h2,h3,h4⟩
 ·exact .inl ⟨rfl,rfl⟩
 exact .inr ⟨b,kd,by rw[eR],h1,h2,by rw[adI];exact h3,h4⟩
def iE(src:List UInt8):Nd×Int×Int:=match lC src with
 | .ok ts=>l8 (ts.map qd)
 | .error y=>(wL,y.1,y.2)
end
section
open Go Go.RowKit
variable {P:Program}
abbrev Spec:=aS->List ae->CH->ae->CH->Prop
open Classical in
noncomputable def tell(P:Program)(S:Spec)(f:aS)(args:List ae)(H:CH):Option (ae×CH):=
 if h : ∃r:ae×CH,S f args H r.1 r.2/\∀B,HC P B f args H r.1 r.2 then some h.choose else none
noncomputable def vw(P:Program)(L:List aS)(G:aS->List ae->Option ae)(a:List aS)(S:Spec):cw:=
 ⟨oA P (λN ops=>lX P N ops),Kg P (λN ops=>lX P N ops),λf=>a.elem f||L.elem f,⟨λf args H=>if a.elem f then tell P S f args H else (G f args).map λv=>(v,H),λ_ _ _=>none⟩⟩
theorem QG{B:Nat}{L:List aS}{G:aS->List ae->Option ae}{b:List aS}{S:Spec}(a : ∀f args v,G f args=some v->KZ P f args v):ww P B (vw P L G b S):=by
 refine⟨(La (B:=B) (L:=L) a).fn,(La (B:=B) (L:=L) a).loop,⟨λf args H v H' h=> ?_,λl args H v H' h=>(by cases h)⟩⟩;have h':(if b.elem f then tell P S f args H else (G f args).map λv=>(v,H))=some (v,H'):=h;split at h'
 ·unfold tell at h';split at h';·rename_i hx;have hc:=hx.choose_spec.2 B;rw[Option.some.inj h'] at hc;exact .inl ⟨hc.1,hc.2⟩
  cases h'
 exact(La (B:=B) (L:=L) a).ext.1 f args H v H' h'
theorem Dg{L:List aS}{G:aS->List ae->Option ae}{a:List aS}{S:Spec}{f:aS}(b:a.elem f=true){args:List ae}{H:CH}{Q:ae->CH->Prop}(h : ∃v H',S f args H v H'/\∀B,HC P B f args H v H')(c : ∀v H',S f args H v H'->Q v H'):aQ (vw P L G a S) f args H Q:=by
 obtain⟨v,H',h1,h2⟩:=h;have hx : ∃r:ae×CH,S f args H r.1 r.2/\∀B,HC P B f args H r.1 r.2:=⟨(v,H'),h1,h2⟩;refine⟨1,hx.choose.1,hx.choose.2,?_,c _ _ hx.choose_spec.1⟩;simp only[uQ,dH];have he:(vw P L G a S).ext f=true:=by show(a.elem f||L.elem f)=true;rw[b];rfl
 rw[iP he];show(if a.elem f then tell P S f args H else (G f args).map λv=>(v,H))=_;rw[iP b];unfold tell;rw[dif_pos hx]
theorem am1{L:List aS}{G:aS->List ae->Option ae}{a:List aS}{S:Spec}{f:aS}{args:List ae}{v:ae}(hs:a.elem f=false)(c:L.elem f=true)(hv:G f args=some v){H:CH}{Q:ae->CH->Prop}:aQ (vw P L G a S) f args H Q↔Q v H:=by
 have b : ∀n,uQ (vw P L G a S) (n+1) f args H=some (v,H):=λn=>by
  simp only[uQ,dH];have he:(vw P L G a S).ext f=true:=by show(a.elem f||L.elem f)=true;rw[c,hs];rfl
  rw[iP he];show(if a.elem f then tell P S f args H else (G f args).map λv=>(v,H))=_;rw[iN (by rw[hs];decide),hv];rfl
 constructor
 ·rintro⟨n,u,H',h1,h2⟩;cases n with
  | zero=>simp[uQ,dH] at h1
  | succ n=>rw[b n] at h1;cases h1;exact h2
 exactλh=>⟨1,v,H,b 0,h⟩
theorem adJ{L:List aS}{G:aS->List ae->Option ae}{a:List aS}{S:Spec}{f:Nat}(h:(oA P (λN ops=>lX P N ops) f).isSome=true):(vw P L G a S).fn f=some (rF P f):=by
 unfold rF;show oA P (λN ops=>lX P N ops) f=some ((oA P (λN ops=>lX P N ops) f).getD ⟨0,[], .skip⟩);cases b:oA P (λN ops=>lX P N ops) f with
 | none=>rw[b] at h;cases h
 | some r=>rfl
theorem dq{L:List aS}{G:aS->List ae->Option ae}{a:List aS}{S:Spec}{f:Nat}(he:(a.elem f||L.elem f)=false)(h:(oA P (λN ops=>lX P N ops) f).isSome=true){args:List ae}{H:CH}{Q:ae->CH->Prop}(k:dh (vw P L G a S) (rF P f).body (λt=>args.getD t undef) H (AS (rF P f).res Q)):aQ (vw P L G a S) f args H Q:=
 Uh he (adJ h) k
theorem adK{T:cw}(hT : ∀B,ww P B T){f:aS}{args:List ae}{H:CH}{Q:ae->CH->Prop}(hc:pP P f=true)(h:aQ T f args H Q) : ∃v H',Q v H'/\∀B,HC P B f args H v H':=by
 obtain⟨n,v,H',h1,h2⟩:=h;exact⟨v,H',h2,λB=>⟨hc,fun β w b a ha=>callsIn_wide.2 (Eu (hT B) h1 a ha hc)⟩⟩
end
section
open Go Go.RowKit
mutual
def zm(ln:Bool):Nd->Nd->Bool
 | .mk k l x o ks, .mk k' l' x' o' fg=>decide (k=k')&&decide (x=x')&&decide (o=o')&&decide (ks.length=fg.length)&&(!ln||decide (l=l'))&&Dh ln ks fg
def Dh(ln:Bool):List Nd->List Nd->Bool
 | n::ks,n'::fg=>zm ln n n'&&Dh ln ks fg
 | _,_=>true
end
def adL (args:List ae)(H:CH)(v:ae)(H':CH):Prop:=∀q c src,args= [.slice q src.length c]->ig 1 (pY .u8) H q c (l6 src)->ag H H'/\UL H H' v (lC src)
def SP:Spec:=λf args H v H'=>(f=38->∀(sl:Sl) (ts:List PT),args= [.slice sl.q sl.n sl.c]->ig 3 tX H sl.q sl.c ts->sl.n=ts.length->ts.length<=4398046510976->alo H ts v H')/\(f=37->adL args H v H')/\(f=23->∀(sl:Sl) (ts:List PT),args= [.slice sl.q sl.n sl.c]->ig 3 tX H sl.q sl.c ts->sl.n=ts.length->ts.length<=4398046510976->Wy H ts v H')/\(f=22->adL args H v H')
noncomputable abbrev TL:cw:=vw Tryz.prog LG GG [38,37,23,22] SP
theorem adM{B:Nat}:ww Tryz.prog B TL:=QG Lb
theorem am2{a b:PT}(h:jF a=jF b):a=b:=by
 cases a;cases b;simp only[jF,List.cons.injEq,Value.int.injEq,Value.string.injEq,true_and,and_true] at h;obtain⟨rfl,rfl,h⟩:=h;injection h with h
 injection h with h
 subst h;rfl
theorem am3{H:CH}{q:Option cB}{c:Nat}{ts us:List PT}(h:ig 3 tX H q c ts)(g:ig 3 tX H q c us)(hl:ts.length=us.length):ts=us:=by
 refine N0 hl λi h1 h2=> ?_;obtain⟨l,o,os,e,kd,d,j,_,_,k,_⟩:=Qn h h1;obtain⟨l',o',m,e',n,a,b,_,_,r2,_⟩:=Qn g h2;rw[d] at a;cases a;rw[j] at b;cases b;exact am2 (k.symm.trans r2)
theorem am4{H:CH}{q:Option cB}{c:Nat}{a b:List UInt8}(h:ig 1 (pY .u8) H q c (l6 a))(g:ig 1 (pY .u8) H q c (l6 b))(hl:a.length=b.length):a=b:=by
 have h1:=abQ h;have h2:=abQ g;rw[CQ] at h1 h2;rw[hl,h2] at h1;injection h1 with h1
 injection h1 with h1 _
 rw[Pn,Pn] at h1;refine N0 hl λi i1 i2=> ?_;have:=congrArg (λl=>l[i]?) h1;simp only[l6,List.getElem?_map,cj i1,cj i2,dC,Option.some.injEq,Value.int.injEq,true_and] at this;exact UInt8.toNat.inj Om
theorem am5{H:CH}{q:Option cB}{c:Nat}{src:List UInt8}(h:ig 1 (pY .u8) H q c (l6 src)):aQ TL 22 [.slice q src.length c] H λv K=>ag H K/\UL H K v (lC src):=by
 obtain⟨v,K,h1,h2⟩:=adK (T:=(bF Tryz.prog LG GG)) (λB=>abW) Kr (alO H h);refine Dg rfl ⟨v,K,⟨λe=>(by cases e),λe=>(by cases e),λe=>(by cases e),λ_ d c' a he h'=> ?_⟩,h2⟩ λv K b=>b.2.2.2 rfl q c src rfl h;simp only[List.cons.injEq,Value.slice.injEq,and_true] at he;obtain⟨rfl,hl,rfl⟩:=he;rw[am4 h' h hl.symm];exact h1
theorem am6{H:CH}{sl:Sl}{ts:List PT}(h:ig 3 tX H sl.q sl.c ts)(hn:sl.n=ts.length)(a:ts.length<=4398046510976):aQ TL 23 [.slice sl.q sl.n sl.c] H λv H'=>Wy H ts v H':=by
 obtain⟨v,H',h1,h2⟩:=adK (T:=(bF Tryz.prog LG GG)) (λB=>abW) Kr (amY h hn a);refine Dg rfl ⟨v,H',⟨λe=>(by cases e),λe=>(by cases e),λ_ b d he h' g _=> ?_,λe=>by cases e⟩,h2⟩ λv H' i=>i.2.2.1 rfl sl ts rfl h hn a;cases sl;cases b;cases he;rw[am3 h' h (g.symm.trans hn)];exact h1
theorem am7{D:TD}{Z:TP}{X:dz}(a:y0 TL D){R:ae->Prop}{f:Nat}(he:TL.ext f=false)(h:(oA Tryz.prog (λN ops=>lX Tryz.prog N ops) f).isSome=true){args:List AV}{self:Self}{Q:AV->List SV->Prop}(k:lJ Z TL X D R (rF Tryz.prog f).body (λt=>args.getD t .bad) (bU self) (LJ (rF Tryz.prog f).res self Q)):TC Z TL X f args self Q R:=
 acV a he (adJ h) k
def D0:TD:=⟨[]⟩
theorem am8:y0 TL D0:=⟨λf a=>by cases a⟩
theorem am9{ln:Bool}{ks fg:List Nd}{i:Nat}{t t':Nd}(h:ks[i]? = some t)(h':fg[i]? = some t'):Dh ln (ks.drop i) (fg.drop i)=(zm ln t t'&&Dh ln (ks.drop (i+1)) (fg.drop (i+1))):=by
 obtain⟨hi,rfl⟩:=List.getElem?_eq_some_iff.1 h;obtain⟨a,rfl⟩:=List.getElem?_eq_some_iff.1 h';rw[mz hi,mz a];rfl
section
variable {Z:TP} {X:dz}
attribute [local irreducible] TC
theorem am'(ln:Bool) : ∀(N:Nat) (k:Nat) (l:Int) (x:List UInt8) (o:Nat) (ks:List Nd) (k':Nat) (l':Int) (x':List UInt8) (o':Nat) (fg:List Nd),vj (.mk k l x o ks)<N->∀(Q:AV->List SV->Prop) (R:ae->Prop),Q (rS (.bool (zm ln (.mk k l x o ks) (.mk k' l' x' o' fg)))) []->TC Z TL X 9 [vi (.mk k l x o ks),vi (.mk k' l' x' o' fg),rS (.bool ln)] none Q R:=by
 intro N;induction N with
 | zero=>intro k l x o ks k' l' x' o' fg h;exact absurd h (fW _)
 | succ N M=>
 intro k l x o ks k' l' x' o' fg Y Q R c;refine am7 am8 Rl Kr (aK ?_)
 conv=>whnf
 have O:zm ln (.mk k l x o ks) (.mk k' l' x' o' fg)=(decide (k=k')&&decide (x=x')&&decide (o=o')&&decide (ks.length=fg.length)&&(!ln||decide (l=l'))&&Dh ln ks fg):=rfl;rw[O] at c;generalize h1:((k:Int) != (k':Int))=S;cases S;case true=>
  have:k≠k':=by have h : ¬(k:Int)=(k':Int):=(by simpa using h1);omega
  rw[decide_eq_false this] at c;conv=>whnf
  exact c
 have j:k=k':=by have h:(k:Int)=(k':Int):=(by simpa using h1);omega
 conv=>whnf
 generalize h2:(!((pS x).toList==(pS x').toList))=T;have u : ∀a b:List UInt8,((pS a).toList==(pS b).toList)=decide (a=b):=λa b=>by
  have h : ∀l:List UInt8,(pS l).toList=l:=λl=>by simp[ByteArray.toList_eq]
  rw[h,h];by_cases e:a=b
  ·simp[e]
  rw[decide_eq_false e];simpa using e
 rw[u] at h2;cases T;case true=>
  have:x≠x':=by simpa using h2
  rw[decide_eq_true j,decide_eq_false this] at c;conv=>whnf
  exact c
 have v:x=x':=by simpa using h2
 conv=>whnf
 generalize h3:((o:Int) != (o':Int))=b3;cases b3;case true=>
  have:o≠o':=by have h : ¬(o:Int)=(o':Int):=(by simpa using h3);omega
  rw[decide_eq_true j,decide_eq_true v,decide_eq_false this] at c;conv=>whnf
  exact c
 have z:o=o':=by have h:(o:Int)=(o':Int):=(by simpa using h3);omega
 conv=>whnf
 intro wS;conv=>whnf
 intro nP;conv=>whnf
 generalize h4:(((cT ks).length:Int) != ((cT fg).length:Int))=b4;rw[jG,jG] at h4;cases b4;case true=>
  have:ks.length≠fg.length:=by have h : ¬(ks.length:Int)=(fg.length:Int):=(by simpa using h4);omega
  rw[decide_eq_true j,decide_eq_true v,decide_eq_true z,decide_eq_false this] at c;conv=>whnf
  exact c
 have U:ks.length=fg.length:=by have h:(ks.length:Int)=(fg.length:Int):=(by simpa using h4);omega
 rw[decide_eq_true j,decide_eq_true v,decide_eq_true z,decide_eq_true U] at c;have hb:l≠l'/\ln=true\/(!ln||decide (l=l'))=true:=by
  cases ln;·exact .inr rfl
  by_cases h:l=l'
  ·exact .inr (by simp[h])
  exact .inl ⟨h,rfl⟩
 rcases hb with ⟨hb,rfl⟩ | hb
 ·rw[decide_eq_false hb] at c;conv=>whnf
  generalize h5:(l != l')=w;cases w;case false=>exact absurd (by simpa using h5) hb
  conv=>whnf
  exact c
 rw[hb] at c;simp only[Jn] at c;obtain⟨d,y⟩ : ∃d:List Nd->List Nd->Bool,d=Dh ln:=⟨_,rfl⟩;obtain⟨r,g⟩ : ∃r:Nd->Nd->Bool,r=zm ln:=⟨_,rfl⟩;have V : ∀ys,d [] ys=true:=λys=>by rw[y];rfl
 have W : ∀(i:Nat) (t t':Nd),ks[i]? = some t->fg[i]? = some t'->d (ks.drop i) (fg.drop i)=(r t t'&&d (ks.drop (i+1)) (fg.drop (i+1))):=λi t t' h h'=>by rw[y,g];exact am9 h h'
 rw[<-y] at c;cases ln;rotate_left
 conv=>whnf
 generalize h5:(l != l')=w;cases w;rotate_left
 exact absurd (by simpa using hb) (by simpa using h5);all_goals
  conv=>whnf
  refine HU 7 (λm a s=>∃i:Nat,a=rS (.int .i64 (i:Nat))/\s=⟨0,[oN (nA k l x o ks),oN (nA k' l' x' o' fg)]⟩/\m+i=ks.length/\d ks fg=d (ks.drop i) (fg.drop i)) ks.length [] rfl ⟨0,rfl,rfl,rfl,rfl⟩ ?_;rintro m a f s ⟨i,rfl,rfl,hm,hp⟩;conv=>whnf
  intro A;conv=>whnf
  refine eO (λhc=> ?_) λhc=> ?_
  ·have hi:i<ks.length:=by simp[jG] at hc;omega
   obtain⟨t,ht⟩ : ∃t,ks[i]? = some t:=⟨_,cj hi⟩;obtain⟨t',B⟩ : ∃t,fg[i]? = some t:=⟨_,cj Om⟩;rw[W i t t' ht B] at hp;have aU:=Ic (fD ht) (k:=k) (l:=l) (x:=x) (o:=o);obtain⟨C,D,E,F,G⟩:=t;obtain⟨H,I,J,K,L⟩:=t';conv=>whnf
   refine⟨rfl,i,_,rfl,Fb ht,?_⟩;conv=>whnf
   refine⟨rfl,i,_,rfl,Fb B,?_⟩;conv=>whnf
   refine M C D E F G H I J K L Om _ _ ?_;conv=>whnf
   rw[<-g];generalize uT:r (Nd.mk C D E F G) (Nd.mk H I J K L)=bs at hp⊢;cases bs
   ·rw[Bool.false_and] at hp;rw[hp] at c;conv=>whnf
    exact c
   rw[Jn] at hp;rw[jG] at A;conv=>whnf
   exact⟨m-1,[],Om,rfl,i+1,congrArg (λn=>rS (.int .i64 n)) (LU hi A),rfl,Om,hp⟩
  have hi:i=ks.length:=by simp[jG] at hc;omega
  subst hi;have hp:d ks fg=true:=by rw[hp,yu];exact V _
  rw[hp] at c;conv=>whnf
  exact c
end
theorem ana{K:CH}{b:Nat}{ts:List PT}{e:TypeId}{k:Kd}(hb:b<K.nx)(ho:K.ob b= .cells ((ts.map jF).flatten) e k)(hl:ts.length<=maxLen):ig 3 tX K (some ⟨b,0,none⟩) ts.length ts:=by
 have a:((ts.map jF).flatten).length=ts.length*3:=by
  rw[ES (sz:=3) (λg hg=>by obtain⟨t,_,rfl⟩:=List.mem_map.1 hg;rfl),eR]
 refine .inr ⟨b,0,_,e,k,rfl,hb,ai _,hl,ho,Om,λi h=> ?_⟩;have hg:(ts.map jF)[i]? = some (jF ts[i]):=by simp[h]
 have:=(PE (sz:=3) (gs:=ts.map jF) (λg hg=>by obtain⟨t,_,rfl⟩:=List.mem_map.1 hg;rfl) hg).1;show((((ts.map jF).flatten).drop (0+i*3)).take 3)=jF ts[i];rw[ba];exact this
theorem BA{K:CH}{A:Nat->Prop}{t:Nd}{os:List ae}(h:bK K A (cF t) os) : ∃k l x o a b c,os= [.int .i64 k, .int .i64 l, .string x, .int .i64 o, .slice a b c]:=by
 cases t;cases h with | cons d h=>
 cases h with | cons a2 h=>
 cases h with | cons a3 h=>
 cases h with | cons a4 h=>
 cases h with | cons a5 h=>
 cases h;cases d;cases a2;cases a3;cases a4;obtain⟨a,b,c,rfl⟩:=aln a5;exact⟨_,_,_,_,_,_,_,rfl⟩
theorem anb{src:List UInt8}{ts:List Tok}(h:lC src= .ok ts):(ts.map qd).length<=100000:=by
 rw[eR];exact UO h
theorem ane{A K:CH}{v:ae}{ts:List PT}(h:eV A 85 3 jF K v ts)(a:ts.length<=9223372036854775807) : ∃q c,v= .slice q ts.length c/\ig 3 tX K q c ts:=by
 rcases h with ⟨rfl,rfl⟩ | ⟨b,kd,rfl,h1,h2,h3,h4⟩
 ·exact⟨none,0,rfl, .inl ⟨rfl,rfl, .inl rfl⟩⟩
 refine⟨_,_,rfl,?_⟩;have e:ts.flatMap jF=(ts.map jF).flatten:=by rw[List.flatMap_def]
 rw[e] at h3;exact ana h2 h3 (by rw[gE];exact a)
theorem Ix{K:CH}{A:Nat->Prop}{k:Nat}{l:Int}{x:List UInt8}{o:Nat}{ks:List Nd}{rest:List SV}{os:List ae}(h:bK K A (cF (.mk k l x o ks)++rest) os) : ∃w os',os= .int .i64 (k:Nat):: .int .i64 l:: .string ⟨⟨x⟩⟩:: .int .i64 (o:Nat)::w::os'/\fk K A (.row 5 (cT ks)) w/\bK K A rest os':=by
 cases h with | cons a h=>
 cases h with | cons a2 h=>
 cases h with | cons a3 h=>
 cases h with | cons a4 h=>
 cases h with | cons a5 h=>
 cases a;cases a2;cases a3;cases a4;exact⟨_,_,rfl,a5,h⟩
theorem adN(ln:Bool){K:CH}{A B:Nat->Prop}(hA : ∀b,A b->b<K.nx)(d : ∀b,B b->b<K.nx){a b:Nd}{os os':List ae}(h:bK K A (cF a) os)(h':bK K B (cF b) os'):aQ TL 9 [.agg os.toArray, .agg os'.toArray, .bool ln] K λv K'=>ag K K'/\v= .bool (zm ln a b):=by
 obtain⟨k,l,x,o,ks⟩:=a;obtain⟨k',l',x',o',fg⟩:=b;obtain⟨w,_,rfl,hw,hn⟩:=Ix (rest:= []) (by simpa using h);cases hn;obtain⟨w',_,rfl,e,hn⟩:=Ix (rest:= []) (by simpa using h');cases hn;have c:=adj hA (k:=k) (l:=l) (x:=x) (o:=o) hw;have r2:=adj d (k:=k') (l:=l') (x:=x') (o:=o') e;refine(alm (X:=pX) (am' ln (vj (.mk k l x o ks)+1) k l x o ks k' l' x' o' fg (fN _) (λa _=>a=rS (.bool (zm ln (.mk k l x o ks) (.mk k' l' x' o' fg)))) _ rfl) ?_).mono λv K' ⟨h1,a,g,h2,h3⟩=>⟨h1,by subst h3;exact uZ h2 rfl⟩;cases c with | cons c _=>
 cases r2 with | cons r2 _=>
 exact .cons c (.cons r2 (.cons (Ia rfl) .nil))
theorem Mp{ks:List Nd} : ∀g∈cT ks,g.length=5:=by
 induction ks with
 | nil=>intro g hg;cases hg
 | cons n ks a=>
   intro g hg;rcases List.mem_cons.1 hg with rfl | hg
   ·exact ada
   exact a g hg
theorem anf{K:CH}{A:Nat->Prop}{ks:List Nd}{os:List ae}(h:bK K A (cT ks).flatten os):os.length=ks.length*5/\∀i t,ks[i]? = some t->i*5+5<=os.length/\bK K A (cF t) ((os.drop (i*5)).take 5):=by
 have hl:os.length=ks.length*5:=by rw[h.r2.len,ES Mp,jG]
 refine⟨hl,λi t ht=> ?_⟩;have h1:=PE (Mp (ks:=ks)) (Fb ht);rw[ada] at h1;have:=(h.r2.drop (i*5)).take 5;rw[h1.1] at this;exact⟨by obtain⟨hi,_⟩:=List.getElem?_eq_some_iff.1 ht;omega,this.Lg⟩
theorem lr{K:CH}{A:Nat->Prop}{ks:List Nd}{w:ae}(h:fk K A (.row 5 (cT ks)) w) : ∃q,w= .slice q ks.length ks.length/\ks.length<=maxLen/\(ks= []->q=none)/\∀i t,ks[i]? = some t->∃b cs e kd,q=some ⟨b,0,none⟩/\A b/\K.ob b= .cells cs e kd/\kd.bY=false/\cs.length=ks.length*5/\i*5+5<=cs.length/\bK K A (cF t) ((cs.drop (i*5)).take 5):=by
 have hl:(cT ks).length=ks.length:=jG;generalize hg:cT ks=gs at h hl;cases h with
 | qI=>
   have:ks= []:=List.length_eq_zero_iff.1 (by simpa using hl.symm);subst this;exact⟨none,rfl,bR _,λ_=>rfl,λi t h=>by simp at h⟩
 | row aB hb ho hk a hs=>
   rw[hl];refine⟨_,rfl,by rw[<-hl];exact aB.2,λe=> ?_,λi t ht=> ?_⟩;·subst e;exact absurd (by rw[<-hg];rfl) aB.1
   rw[<-hg] at hs;obtain⟨h1,h2⟩:=anf hs;exact⟨_,_,_,_,rfl,hb,ho,hk,h1,(h2 i t ht).1,(h2 i t ht).2⟩
mutual
theorem WA{ln:Bool} : ∀t:Nd,zm ln t t=true
 | .mk k l x o ks=>by
   simp only[zm,adO ks,decide_true,Bool.or_true,pL]
theorem adO{ln:Bool} : ∀ks:List Nd,Dh ln ks ks=true
 | []=>rfl
 | n::ks=>by
   show(zm ln n n&&Dh ln ks ks)=true;rw[WA n,adO ks];rfl
end
end
section
mutual
def jI (B:Nat):Nd->Prop
 | .mk _ _ _ _ ks=>2*ks.length<=B+16/\lM B ks
def lM (B:Nat):List Nd->Prop
 | []=>True
 | n::ks=>jI B n/\lM B ks
end
mutual
theorem adP{B B':Nat}(h:B<=B') : ∀n:Nd,jI B n->jI B' n
 | .mk _ _ _ _ ks,g=>⟨cy g.1 Om,QH h ks g.2⟩
theorem QH{B B':Nat}(h:B<=B') : ∀l:List Nd,lM B l->lM B' l
 | [],_=>trivial
 | n::l,g=>⟨adP h n g.1,QH h l g.2⟩
end
theorem adQ{B B':Nat}{n:Nd}(g:jI B n)(h:B<=B'):jI B' n:=adP h n g
theorem WB{B B':Nat}{l:List Nd}(g:lM B l)(h:B<=B'):lM B' l:=QH h l g
theorem QI{B:Nat} : ∀ {a b:List Nd},lM B (a++b)↔lM B a/\lM B b
 | [],b=>by simp[lM]
 | n::a,b=>by simp only[gZ,lM,QI,and_assoc]
theorem Iy{B:Nat} : ∀ {l:List Nd} {n:Nd},lM B l->n∈l->jI B n
 | m::l,n,h,hn=>by
   rcases List.mem_cons.1 hn with rfl | hn
   ·exact h.1
   exact Iy h.2 hn
theorem ang{B:Nat}{ks:List Nd}{k:Nat}{l:Int}{x:List UInt8}{o:Nat}(h:jI B (.mk k l x o ks)){i:Nat}{t:Nd}(ht:ks[i]? = some t):jI B t:=Iy h.2 (fD ht)
def KB (L:Nat):PR->Prop
 | some (.ok (l,j))=>L<=j/\lM j l/\2*l.length<=j+6
 | _=>True
theorem KB.anh{L a:Nat}{r:PR}(h:KB a r)(b:L<=a):KB L r:=by
 match r,h with
 | none,_=>exact trivial
 | some (.error e),_=>exact trivial
 | some (.ok (l,j)),h=>exact⟨cy b h.1,h.2⟩
theorem Mq{c:Prop}[Decidable c]{L:Nat}{a b:PR}(h1:KB L a)(h2:KB L b):KB L (if c then a else b):=by
 split;·exact h1
 exact h2
theorem ani{ts:List PT}{s:List UInt8}{i L:Nat}{k:Nat->PR}(h:KB L (k (i+1))):KB L (gW ts s i k):=Mq h trivial
theorem anj{ts:List PT}{kd:Int}{i L:Nat}{k:List UInt8->Nat->PR}(h : ∀x,KB L (k x (i+1))):KB L (mS ts kd i k):=Mq (h _) trivial
theorem adR{L a:Nat}{r:PR}{k:List Nd->Nat->PR}(h:KB a r)(hk : ∀l j,a<=j->lM j l->2*l.length<=j+6->KB L (k l j)):KB L (pb r k):=by
 match r,h with
 | none,_=>exact trivial
 | some (.error e),_=>exact trivial
 | some (.ok (l,j)),h=>exact hk l j h.1 h.2.1 h.2.2
theorem QJ{L a:Nat}{r:PR}{k:Nd->Nat->PR}(h:KB a r)(hk : ∀n j,a<=j->jI j n->KB L (k n j)):KB L (bG r k):=adR h λl j h1 h2 _=>by
 match l,h2 with
 | [],_=>exact trivial
 | _::_::_,_=>exact trivial
 | [n],h2=>exact hk n j h1 h2.1
theorem ank{L e:Nat}:KB L (some (.error e)):=trivial
theorem anl{L j:Nat}{l:List Nd}(h1:L<=j)(h2:lM j l)(h3:2*l.length<=j+6):KB L (some (.ok (l,j))):=⟨h1,h2,h3⟩
theorem WC{L j:Nat}{n:Nd}(h1:L<=j)(h2:jI j n):KB L (bV n j):=⟨h1,⟨h2,trivial⟩,Sm⟩
def NT.kd(i:Nat):NT->Prop
 | .params _ _ acc | .row _ acc | .wJ _ acc | .clauses acc | .zf _ acc | .placesL _ acc | .names _ _ acc | .mg _ acc | .zg acc | .p9 acc | .top acc=>lM i acc/\2*acc.length<=i+4
 | .sV _ acc=>lM i acc/\2*acc.length<=i+6
 | .cmpL n acc=>jI i n/\lM i acc/\2*acc.length<=i+4
 | .Bg n | .Bh n | .zd n | .wK n | .xN n | .index n=>jI i n
 | _=>True
def anm (ts:List PT)(f:Nat):Prop:=∀a i,a.kd i->KB (i+a.min) (gr ts f a i)
def QK (p:Nat):Except Nat (Nat×Nat)->Prop
 | .error _=>True
 | .ok (op,j)=>op≠0->p+1<=j
theorem ann{c:Prop}[Decidable c]{p:Nat}{a b:Except Nat (Nat×Nat)}(h1:QK p a)(h2:QK p b):QK p (if c then a else b):=by
 split;·exact h1
 exact h2
theorem ano(ts:List PT)(p:Nat):QK p (ji ts p):=by
 unfold ji;repeat' first
  | (with_reducible refine ann ?_ ?_)
  | exact trivial
  | exactλ_=>ai _
  | exactλh=>absurd rfl h
  | exactλ_=>(show p+1<=p+2 by omega)
theorem adS{ts:List PT}{p L:Nat}{A:PR}{B:Nat->Nat->PR}(hA:KB L A)(a : ∀op j,p+1<=j->KB L (B op j)):KB L (match ji ts p with | .error e=>some (.error e) | .ok (0,_)=>A | .ok (op+1,j)=>B op j):=by
 have h:=ano ts p;match ji ts p,h with
 | .error e,_=>exact trivial
 | .ok (0,_),_=>exact hA
 | .ok (op+1,j),h=>exact a op j (h Om)
theorem anp{ts:List PT} : ∀f,anm ts f:=by
 intro f;induction f with
 | zero=>intro a i h;exact trivial
 | succ f d=>
 have h1 : ∀a i L,a.kd i->L<=i+a.min->KB L (gr ts f a i):=λa i L h o=>(d a i h).anh o;have e : ∀(all:Bool) i,KB (i+1) (gr ts f (if all=true then .exprs else .expr) i):=λall i=>by
  cases all;·exact d .expr i trivial
  exact d .exprs i trivial
 intro a i ha;cases a;case mg l acc=>
  obtain⟨c,g⟩:=ha;simp only[gr];refine Mq ?_ (WC (ai _) ⟨Om,c⟩);cases q:acc.getLast? with
  | none=>exact trivial
  | some n=>exact Mq (QJ (d .value (i+1) trivial) λv j b hv=>h1 _ _ _ ⟨QI.2 ⟨QH (by have b:i+1+1<=j:=b;omega) _ c,hv,trivial⟩,by have b:i+1+1<=j:=b;simp only[cG,bN,bZ];omega⟩ (by have b:i+1+1<=j:=b;show i+0<=j+0;omega)) trivial
 case cmpL n acc=>
  obtain⟨hn,c,g⟩:=ha;simp only[gr];refine adS (WC (ai _) ?_) λop j b=>QJ (d .arith j trivial) λm k hk e=>h1 _ _ _ ⟨adQ hn (by have hk:j+1<=k:=hk;omega),QI.2 ⟨WB c (by have hk:j+1<=k:=hk;omega),⟨Sm,e,trivial⟩,trivial⟩,by have hk:j+1<=k:=hk;simp only[cG,bN,bZ];omega⟩ (by have hk:j+1<=k:=hk;show i+0<=k+0;omega);split;·exact hn
  exact⟨by simp only[bN];omega,hn,c⟩
 all_goals simp only[NT.kd] at ha
 all_goals simp only[gr,NT.min]
 all_goals (repeat' first
  | exact ank
  | (simp only[NT.min] at b)
  | (with_reducible refine Mq ?_ ?_)
  | (with_reducible refine adS ?_ λop j b=> ?_)
  | (with_reducible refine ani ?_)
  | (with_reducible refine anj λx=> ?_)
  | (with_reducible refine QJ (e _ _) λn j b hn=> ?_)
  | (with_reducible refine QJ (h1 _ _ _ ?_ (ai _)) λn j b hn=> ?_)
  | (with_reducible refine adR (h1 _ _ _ ?_ (ai _)) λl j b hn hl=> ?_)
  | (with_reducible refine WC ?_ ?_)
  | (with_reducible refine anl ?_ ?_ ?_)
  | (with_reducible refine h1 _ _ _ ?_ ?_)
  | (with_reducible assumption)
  | exact True.intro
  | omega
  | (obtain⟨c,g⟩:=ha)
  | (obtain⟨r,s⟩:=g)
  | (simp only[NT.min,NT.kd,lM,jI,QI,cG,bN,bZ,and_true,true_and])
  | (refine⟨?_,?_⟩)
  | exact adQ (by with_reducible assumption) Om
  | exact WB (by with_reducible assumption) Om)
end
section
open Go Go.RowKit
structure NC where
 k:Int
 l:Int
 x:ByteArray
 o:Int
 a:Option cB
 n:Nat
 c:Nat
def oT (c:NC):List ae:= [.int .i64 c.k, .int .i64 c.l, .string c.x, .int .i64 c.o, .slice c.a c.n c.c]
theorem anq : ∀x:NC,(oT x).length=5/\(oT x).all a8=true:=λx=>⟨rfl,rfl⟩
theorem WD{K:CH}{A:Nat->Prop}{t:Nd}{os:List ae}(h:bK K A (cF t) os) : ∃c,os=oT c:=by
 obtain⟨k,l,x,o,a,b,d,rfl⟩:=BA h;exact⟨⟨k,l,x,o,a,b,d⟩,rfl⟩
theorem adT{α:Type}{A K:CH}{e sz bytes:Nat}{f:α->List ae}(d : ∀x,(f x).length=sz/\(f x).all a8=true){v:ae}{xs:List α}{y:α}(hg:eV A e sz f K v xs)(hb:(xs.length+1)*bytes<=140737488355328)(i:xs.length+1<=9223372036854775807){us:List ae}(hu:us=f y)
 {Q:ae->CH->Prop} (k : ∀K',K'.ob K.nx= .cells ((xs++ [y]).flatMap f) e .gr->K'.nx=K.nx+1->(∀l,l<K.nx->(∀o n c,v≠ .slice (some ⟨l,o,none⟩) n c)->K'.ob l=K.ob l)->Q (.slice (some ⟨K.nx,0,none⟩) (xs.length+1) (xs.length+1)) K'):uV (lY e sz bytes v us 1 K) Q:=by
 subst hu;have g:=(d y).2;rcases hg with ⟨rfl,rfl⟩ | ⟨b,kd,rfl,h1,h2,h3,j⟩
 ·simp only[lY,Nat.one_ne_zero,iF];rw[iP ⟨g,by simpa using hb,by rw[gE];omega⟩];exact k _ (by simp[bS]) rfl λl hl _=>by rw[bS,iN Om]
 have a:(xs.flatMap f).length=xs.length*sz:=Pm (λx=>(d x).1) xs;have m : ∀o,(iY (kd.jv&&decide (xs.length<xs.length+1)) K b o).nx=K.nx+1:=λo=>by unfold iY;split<;>rfl
 have q : ∀o,(iY (kd.jv&&decide (xs.length<xs.length+1)) K b o).ob K.nx=o:=λo=>by
  unfold iY;split<;>(simp only[CH.new,CH.set];simp)
 have r : ∀o l,l<K.nx->l≠b->(iY (kd.jv&&decide (xs.length<xs.length+1)) K b o).ob l=K.ob l:=λo l hl hb=>by
  unfold iY;split;·rw[bS,iN Om]
  rw[bS,iN (by show l≠K.nx;omega),br,iN hb]
 simp only[lY,h3,Nat.one_ne_zero,iF];rw[iP ⟨trivial,trivial,j,by rw[a];exact ai _,g,hb,by rw[gE];exact i⟩];refine k _ ?_ (m _) λl hl aB=>r _ l hl ?_;·rw[q,<-a,ng,zZ];simp
 rintro rfl;exact aB _ _ _ rfl
def anr (K d:CH)(k:Nat)(l:Int)(x:List UInt8)(o:Nat)(ks:List Nd)(n:Nat)(v4:ae)(a:CH):Prop:=∃(i:Nat) (v:ae) (acc:List NC),n=ks.length-i/\i<=ks.length/\v4= .int .i64 (i:Nat)/\a.ob K.nx= .cells [.int .i64 (k:Nat), .int .i64 l, .string ⟨⟨x⟩⟩, .int .i64 (o:Nat),v] 26 .ex/\a.ob (K.nx+1)= .cells [.int .i64 0, .int .i64 0, .string ⟨⟨[]⟩⟩, .int .i64 0, .slice none 0 0] 26 .ex/\K.nx+2<=a.nx/\ag K a/\acc.length=i/\(i=0->v= .slice none 0 0)/\eV d 26 5 oT a v acc/\
 bK a (λb=>K.nx+2<=b/\b<a.nx/\∀o n c,v≠ .slice (some ⟨b,o,none⟩) n c) (cT (ks.take i)).flatten (acc.flatMap oT)
def CpQ (K:CH)(t:Nd)(v:ae)(K':CH):Prop:=ag K K'/\∃os,v= .agg os.toArray/\bK K' (λb=>K.nx<=b/\b<K'.nx) (cF t) os
theorem ant : ∀(N B:Nat) (t:Nd),vj t<N->jI B t->B+16<=4398046511104->∀(K:CH) (A:Nat->Prop) (os:List ae),(∀b,A b->b<K.nx)->bK K A (cF t) os->aQ TL 12 [.agg os.toArray] K λv K'=>CpQ K t v K':=by
 intro N;induction N with
 | zero=>intro B t h;exact absurd h (fW _)
 | succ N ih=>
 rintro B ⟨k,l,x,o,ks⟩ hN R I K A os hA hs;obtain⟨w,_,rfl,hw,hn⟩:=Ix (rest:= []) (by simpa using hs);cases hn;obtain⟨q,rfl,nQ,hq0,hq⟩:=lr hw;refine dq Rl Kr (aK ?_)
 refine aM ?_;refine ef (λn fr d=>anr K ((K.new (.cells [.int .i64 0] 26 .ex)).new (.cells [.int .i64 0] 26 .ex)) k l x o ks n (fr 4) d) (n:=ks.length) ⟨0, .slice none 0 0,[],rfl,bR _,by(refine aM ?_;all_goals rfl),by exact aV,by exact aV,by exact aV,(((ag.refl K).new _).new _).set (ai _) _,rfl,λ_=>rfl, .inl ⟨rfl,rfl⟩,by simp only[vU];exact .nil⟩ ?_;rintro n fr d ⟨i,v,acc,rfl,hi,f4,C,J,cK,hx,D,Ac,L,M⟩ E;by_cases u:i<ks.length
 ·obtain⟨t,ht⟩ : ∃t,ks[i]? = some t:=⟨_,cj u⟩;obtain⟨b,cs,e,kd,fM,hb,ob,eg,dw,mj,S⟩:=hq i t ht;have Fs:b<K.nx:=hA b hb;have s7:=(hx.ob b Fs).trans ob;obtain⟨j,T⟩:=WD S;have O:DX 5 (DY (i*5) cs)= [.int .i64 j.k, .int .i64 j.l, .string j.x, .int .i64 j.o, .slice j.a j.n j.c]:=T;have aU:=Ic (fD ht) (k:=k) (l:=l) (x:=x) (o:=o);have U:=ih B t Om (ang R ht) I d A _ (λb hb=>cQ (hA b hb) hx.nx) (S.mv λb hb=>⟨hb,hx.ob b (hA b hb)⟩);rw[T] at U;refine rn (qz @E @f4 @fM @s7 @O @C @J @ba) ?_;refine U.mono ?_;rintro r m ⟨s,l9,rfl,V⟩;obtain⟨nd,rfl⟩:=WD V;have Q:=(s.ob _ (show K.nx<d.nx by omega)).trans C;have Iz:=(s.ob _ (show K.nx+1<d.nx by omega)).trans J;repeat' (first | (simp (disch:=first | omega | (decide +kernel)) only[↓RD,RU,qG,nK,bT,↓aH,↓aL,bS,pop,aD,cq,db,isVal,ci,ρ0,ρ1,ρ4,↓reduceIte,Nat.reduceEqDiff,Nat.reduceAdd,reduceCtorEq,ρ5,ρ6,ρ7,ρ8,kQ,ρ15,ρ16,ρ18,ρ19,ρ20,ρ25,ρ26,dv,Nat.reduceLeDiff,kO,E,Q,xf,jU,oT]) | ((with_reducible first|apply aE|apply aF|apply aG)<;>intro _))
  have fF:=hx.trans s;have j0:=s.nx;have mV:=R.1;have G : ∀b o n c,v= .slice (some ⟨b,o,none⟩) n c->K.nx+2<=b/\b<d.nx:=λb o n c e=>by
   rcases L with ⟨_,g⟩ | ⟨b',mT,g,g1,g2,_⟩
   ·rw[g] at e;cases e
   rw[g] at e;cases e;exact⟨g1,g2⟩
  refine adT (A:=(K.new (.cells [.int .i64 0] 26 .ex)).new (.cells [.int .i64 0] 26 .ex)) (f:=oT) (y:=nd) anq ((L.ext s).ext ((ag.refl m).new _)) Om Om rfl λH k1 k2 k3=> ?_;have z : ∀b,b<m.nx->(∀o n c,v≠ .slice (some ⟨b,o,none⟩) n c)->H.ob b=m.ob b:=λb hb hv=>(k3 b (qu hb) hv).trans (bL Om);have WE:=(z K.nx Om λo n c e=>by have:=G _ _ _ _ e;omega).trans Q;have WF:=(z (K.nx+1) Om λo n c e=>by have:=G _ _ _ _ e;omega).trans Iz;have pC:H.nx=m.nx+2:=k2;refine rn (o8 @E @f4 @WE @C @Q @ba) ?_;have aB : ∀b,b≠K.nx->∀o',(H.set K.nx o').ob b=H.ob b:=λb hb o'=>by rw[br,iN hb]
  have sb:ks.take (i+1)=ks.take i++ [t]:=by
   obtain⟨_,e⟩:=List.getElem?_eq_some_iff.1 ht;rw[pJ u,e]
  refine⟨ks.length-(i+1),Om,i+1, .slice (some ⟨m.nx+1,0,none⟩) (acc.length+1) (acc.length+1),acc++ [nd],rfl,u,rfl,by rw[br,iP rfl],(aB _ Om _).trans WF,by rw[kf];omega,⟨by rw[kf];omega,λb hb=> ?_⟩,by simp[D],λe=>by omega, .inr ⟨m.nx+1, .gr,Sm,by show K.nx+2<=m.nx+1;omega,by rw[kf];omega,(aB _ Om _).trans k1,rfl⟩,?_⟩;·rw[aB b Om,z b Om λo n c e=>by have:=G _ _ _ _ e;omega];exact fF.ob b hb
  rw[sb,H9,List.flatten_append,zZ];refine bK.app (M.mv λb ⟨g1,g2,g3⟩=>⟨⟨g1,by rw[kf];omega,λo n c e=>by cases e;omega⟩,by rw[aB b Om,z b Om g3];exact s.ob b g2⟩) ?_;have e1:(cT [t]).flatten=cF t:=by simp[cT]
  have e2 : [nd].flatMap oT=oT nd:=by simp
  rw[e1,e2];exact V.mv λb ⟨g1,g2⟩=>⟨⟨Om,by rw[kf];omega,λo n c e=>by cases e;omega⟩,by rw[aB b Om,z b g2 λo n c e=>by have:=G _ _ _ _ e;omega]⟩
 have u:i=ks.length:=by omega
 subst u;rw[ng] at M;have hw : ∃W Y vc,v= .slice W Y vc/\fk d (λb=>K.nx+2<=b/\b<d.nx) (.row 5 (cT ks)) v:=by
  rcases L with ⟨e,rfl⟩ | ⟨b,kd,rfl,g1,g2,g3,g4⟩
  ·have:ks= []:=by rw[e] at D;exact List.length_eq_zero_iff.1 D.symm
   subst this;exact⟨_,_,_,rfl, .qI⟩
  refine⟨_,_,_,rfl,?_⟩;rw[D];rcases Nat.eq_zero_or_pos ks.length with g | g
  ·have:=Ac g;cases this
  have e:=fk.row (A:=λb=>K.nx+2<=b/\b<d.nx) (sz:=5) (gs:=cT ks) ⟨λe=>by rw[<-jG (a:=ks),e] at g;exact absurd g (Jm _),by rw[jG];exact nQ⟩ ⟨g1,g2⟩ g3 g4 Mp (M.mv λb hb=>⟨⟨hb.1,hb.2.1⟩,rfl⟩);rw[jG] at e;first | exact e | exact e λ_=>rfl
 obtain⟨W,Y,vc,rfl,hw⟩:=hw;refine rn (jz @E @f4 @C @J) ?_;refine⟨hx.set Om _,[_,_,_,_,_],rfl, .cons (.sc rfl) (.cons (.sc rfl) (.cons (.sc rfl) (.cons (.sc rfl) (.cons (hw.mv λb hb=>⟨⟨Om,hb.2⟩,?_⟩) .nil))))⟩;rw[br,iN Om]
end
section
open Go Go.RowKit
inductive NU(K:CH)(R:Nat->Prop):Nat->NC->Prop
 | leaf {m:Nat} {c:NC} (h:c.n=0):NU K R m c
 | row {m:Nat} {c:NC} {b:Nat} {cs:List ae} {e:TypeId} {kd:Kd} (d:Nat->NC) (ha:c.a=some ⟨b,0,none⟩) (hb:R b) (ho:K.ob b= .cells cs e kd) (hk:kd.bY=false) (hl:cs.length=c.n*5) (hn:c.n<=maxLen) (hd : ∀i,i<c.n->(cs.drop (i*5)).take 5=oT (d i)) (hs : ∀i,i<c.n->NU K R m (d i)):NU K R (m+1) c
def QL (k:Int):NC:=⟨k,0,⟨⟨[]⟩⟩,0,none,0,0⟩
structure Mk(k:Int)(R:Nat->Prop)(K K':CH):Prop where
 nx:K.nx<=K'.nx
 out : ∀b,¬R b->b<K.nx->K'.ob b=K.ob b
 QM : ∀b cs e kd,R b->K.ob b= .cells cs e kd->∃cs',K'.ob b= .cells cs' e kd/\cs'.length=cs.length/\∀i,i*5+5<=cs.length->(cs'.drop (i*5)).take 5=(cs.drop (i*5)).take 5\/(cs'.drop (i*5)).take 5=oT (QL k)
theorem Mk.trans{k:Int}{R:Nat->Prop}{K a c:CH}(h:Mk k R K a)(g:Mk k R a c):Mk k R K c:=⟨cy h.nx g.nx,λb hb hl=>(g.out b hb (cQ hl h.nx)).trans (h.out b hb hl),λb cs e kd hb ho=>by
 obtain⟨d,j,l,m⟩:=h.QM b cs e kd hb ho;obtain⟨n,o,q,s2⟩:=g.QM b d e kd hb j;refine⟨n,o,q.trans l,λi hi=> ?_⟩;rcases s2 i Om with h2 | h2
 ·rw[h2];exact m i hi
 exact .inr h2⟩
open Classical in
theorem NU.mk{k:Int}{R:Nat->Prop}{K K':CH}(g:Mk k R K K'){m:Nat}{c:NC}(h:NU K R m c):NU K' R m c:=by
 induction h with
 | leaf h=>exact .leaf h
 | @row m c b cs e kd d ha hb ho hk hl hn hd hs a=>
   obtain⟨cs',o',l',j⟩:=g.QM b cs e kd hb ho;refine .row (λi=>if (cs'.drop (i*5)).take 5=(cs.drop (i*5)).take 5 then d i else QL k) ha hb o' hk (l'.trans hl) hn (λi hi=> ?_) λi hi=> ?_
   ·by_cases e:(cs'.drop (i*5)).take 5=(cs.drop (i*5)).take 5
    ·rw[iP e,e];exact hd i hi
    rw[iN e];rcases j i Om with h | h
    ·exact absurd h e
    exact h
   by_cases e:(cs'.drop (i*5)).take 5=(cs.drop (i*5)).take 5
   ·rw[iP e];exact a i hi
   rw[iN e];exact .leaf rfl
theorem anv{cs vs:List ae}{i:Nat}(h:i*5+5<=cs.length)(hv:vs.length=5):(setCells cs (i*5) vs).length=cs.length:=by
 unfold setCells;simp only[cG,kW,List.length_drop,hv];omega
theorem anw{cs vs:List ae}{i j:Nat}(h:i*5+5<=cs.length)(hv:vs.length=5):((setCells cs (i*5) vs).drop (j*5)).take 5=if j=i then vs else (cs.drop (j*5)).take 5:=by
 apply List.ext_getElem?;intro n;by_cases hn:n<5
 ·rw[sA hn,pI];unfold setCells;by_cases e:j=i
  ·subst e;rw[iP rfl,oY,su (by rw[kW];omega),kW,Nat.min_eq_left Om,qo Om];congr 1;omega
  rw[iN e,sA hn,pI];rcases Nat.lt_or_ge j i with g | g
  ·rw[oY,qo (by rw[kW];omega),sA Om]
  rw[su (by rw[cG,kW];omega),pI,cG,kW,hv];congr 1;omega
 rw[uA (by rw[kW];omega)];split;·rw[uA Om]
 rw[uA (by rw[kW];omega)]
theorem anx{k:Int}{R:Nat->Prop}{K:CH}{b i:Nat}{cs:List ae}{e:TypeId}{kd:Kd}(hb:R b)(ho:K.ob b= .cells cs e kd)(hi:i*5+5<=cs.length):Mk k R K (K.set b (.cells (setCells cs (i*5) (oT (QL k))) e kd)):=
 ⟨ai _,λc d _=>by rw[br,iN (λe=>d (by rw[e];exact hb))],λc cs' e' l d a=>by
   by_cases g:c=b
   ·subst g;rw[ho] at a;cases a;refine⟨_,by rw[br,iP rfl],anv hi rfl,λj m=> ?_⟩;rw[anw hi rfl];by_cases h:j=i
    ·rw[iP h];exact .inr rfl
    rw[iN h];exact .inl rfl
   exact⟨cs',by rw[br,iN g];exact a,rfl,λ_ _=> .inl rfl⟩⟩
theorem anz{K:CH}{A R:Nat->Prop}(m : ∀b,A b->R b) : ∀(N:Nat) (t:Nd),vj t<N->∀(c:NC),bK K A (cF t) (oT c)->NU K R N c:=by
 intro N;induction N with
 | zero=>intro t h;exact absurd h (fW _)
 | succ N v=>
 rintro⟨k,l,x,o,ks⟩ r c hs;obtain⟨w,_,he,hw,hn⟩:=Ix (rest:= []) (by simpa using hs);cases hn;obtain⟨q,rfl,y,z,s⟩:=lr hw;obtain⟨B,cl,C,co,ca,cn,D⟩:=c;cases he;rcases Nat.eq_zero_or_pos ks.length with g | g
 ·exact .leaf g
 have n : ∀i,i<ks.length->∃d,∀b cs e kd,ca=some ⟨b,0,none⟩->K.ob b= .cells cs e kd->(cs.drop (i*5)).take 5=oT d/\NU K R N d:=λi hi=>by
  have ht:ks[i]? = some ks[i]:=cj hi;obtain⟨b,cs,e,kd,a,_,j,_,_,_,u⟩:=s i _ ht;obtain⟨d,hd⟩:=WD u;refine⟨d,λE cs' e' F g1 g2=> ?_⟩;have a:ca=_:=a;rw[a] at g1;cases g1;rw[j] at g2;cases g2;have G:=Ic (fD ht) (k:=k) (l:=cl) (x:=x) (o:=o);have r:vj (.mk k cl x o ks)<N+1:=r;exact⟨hd,v ks[i] Om d (by rw[<-hd];exact u)⟩
 obtain⟨b,cs,e,kd,a,hb,j,hk,hl,_,_⟩:=s 0 _ (cj g);refine .row (λi=>if h:i<ks.length then (n i h).choose else QL 0) a (m b hb) j hk hl y (λi hi=> ?_) λi hi=> ?_;·have hi:i<ks.length:=hi;rw[dif_pos hi];exact((n i hi).choose_spec b cs e kd a j).1
 have hi:i<ks.length:=hi;rw[dif_pos hi];exact((n i hi).choose_spec b cs e kd a j).2
def MkJ (K:CH)(R:Nat->Prop)(c:NC)(n:Nat)(v4:ae)(b:CH):Prop:=∃i:Nat,n=c.n-i/\i<=c.n/\v4= .int .i64 (i:Nat)/\b.ob K.nx= .cells [.int .i64 c.k, .int .i64 c.l, .string c.x, .int .i64 c.o, .slice c.a c.n c.c] 26 .ex/\K.nx<b.nx/\Mk (-1) R K b
theorem adU{R:Nat->Prop}{c:NC}{K:CH}(m : ∀b,R b->b<K.nx)(hn:c.n<=9223372036854775807)
 (C : ∀i,i<c.n->∀g,Mk (-1) R K g->∃b cs e kd d,c.a=some ⟨b,0,none⟩/\R b/\g.ob b= .cells cs e kd/\kd.bY=false/\cs.length=c.n*5/\(cs.drop (i*5)).take 5=oT d/\aQ TL 16 [.agg (oT d).toArray] g λv K'=>Mk (-1) R g K') :
 aQ TL 16 [.agg (oT c).toArray] K λv K'=>Mk (-1) R K K':=by
 have hp : ¬R K.nx:=λh=>absurd (m _ h) (Jm _);refine dq Rl Kr (aK ?_)
 repeat' (first | (simp (disch:=first | omega | (decide +kernel)) only[↓RD,RU,↓aL,↓bf,cZ,pop,cq,db,isVal,ci,↓reduceIte,Int.reduceOfNat,Int.reduceNegSucc,ρ26,oT]) | ((with_reducible first|apply aE|apply aF|apply aG)<;>intro _))
 refine ef (λn fr g=>MkJ K R c n (fr 2) g) (n:=c.n) ⟨0,rfl,bR _,by(refine aM ?_;all_goals rfl),by exact aV,fN _,⟨mC _,λb _ hb=>bL Om,λb cs e kd hb ho=>⟨cs,(bL (Nat.ne_of_lt (m b hb))).trans ho,rfl,λ_ _=> .inl rfl⟩⟩⟩ ?_;rintro n fr g ⟨i,rfl,hi,f4,r,D,s⟩ t;by_cases z:i<c.n
 ·obtain⟨b,cs,e,kd,d,ha,hb,ho,hk,hl,hd,hw⟩:=C i z g s;have E:DX 5 (DY (i*5) cs)= [.int .i64 d.k, .int .i64 d.l, .string d.x, .int .i64 d.o, .slice d.a d.n d.c]:=hd;have G:i*5+5<=cs.length:=by omega
  have J:=m b hb;refine rn (qz @t @f4 @r @ha @ho @E @hl @ba) ?_;refine hw.mono ?_;rintro v L j;have A:=(j.out _ hp D).trans r;obtain⟨H,B,I,_⟩:=j.QM b cs e kd hb ho;have M:=j.nx;have u:i*5+5<=H.length:=by omega
  have w:=I.trans hl;have y:i*5+5<=c.n*5:=by omega
  repeat' (first | (simp (disch:=first | omega | (decide +kernel)) only[↓cE,↓pU,↓pW,↓ez,↓c9,↓da,↓cM,↓dL,↓iB,↓aH,↓dA,↓aL,↓bf,cL,lj,↓di,gh,eU,pop,aD,bq,isVal,a8,ci,c8,List.map_nil,dC,↓reduceIte,Nat.reduceEqDiff,Nat.reduceAdd,List.getElem?_cons_zero,List.getElem?_cons_succ,bN,bZ,jD,List.drop_succ_cons,List.drop_zero,gZ,List.nil_append,List.all_cons,List.all_nil,pL,List.size_toArray,List.toList_toArray,dv,Nat.reduceLeDiff,iP,ba,Int.toNat_natCast,and_true,t,f4,A,ha,B,w,hk,ba,y]) | ((with_reducible first|apply aE|apply aF|apply aG)<;>intro _))
  exact⟨c.n-(i+1),Om,i+1,rfl,z,rfl,(br.trans (iN Om)).trans A,by rw[kf];omega,(s.trans j).trans (anx hb B u)⟩
 refine rn (gS @t @f4 @r) ?_;exact s
theorem anD(R:Nat->Prop) : ∀(m:Nat) (c:NC) (K:CH),NU K R m c->(∀b,R b->b<K.nx)->aQ TL 16 [.agg (oT c).toArray] K λv K'=>Mk (-1) R K K':=by
 intro m;induction m with
 | zero=>
   intro c K h a;cases h with | leaf e=>exact adU a Om λi hi=>by omega
 | succ m j=>
   intro c K h a;refine adU a (by cases h with | leaf e=>omega | row d ha hb ho hk hl hn hd hs=>rw[<-gE];exact hn) λi hi k g=> ?_;have h1:=h.mk g;cases h1 with
   | leaf e=>omega
   | row d ha hb ho hk hl hn hd hs=>exact⟨_,_,_,_,d i,ha,hb,ho,hk,hl,hd i hi,j _ _ (hs i hi) λb hb=>cQ (a b hb) g.nx⟩
end
section
abbrev Bs:=List UInt8
mutual
def fG:Nd->List Bs
 | .mk k _ x _ ks=>if k=36 then [x] else if k=52\/k=51 then eP ks else []
def eP:List Nd->List Bs
 | []=> []
 | n::ks=>fG n++eP ks
end
def cV:List Nd->Nd
 | n::_=>n
 | []=> .mk 0 0 [] 0 []
def iM:List Nd->List Bs
 | []=> []
 | n::ks=>(if n.kind=58 then fG (cV n.kids) else [])++iM ks
def wo (ρ:Bs->Nat)(ps:List Nd):Bs->Nat:=λy=>if y∈ps.map Nd.text then 0 else ρ y
def wi (ρ:Bs->Nat)(own:List Bs)(c:Nat):Bs->Nat:=λy=>if y∈own then c else ρ y
variable (it:Nat->Bs)
mutual
def dS (ρ:Bs->Nat)(c:Nat):Nd->Nd×Nat
 | .mk k l x o ks=>if k=55\/k=56\/k=57 then
    let r:=fH (wi ρ (iM ks) (c+1)) ρ true (c+1) ks
    (.mk k l x o r.1,r.2)
   else
    let r:=jo (if k=8\/k=50 then wo ρ (cV ks).kids else ρ) c ks
    (.mk k l (if k=36/\0<ρ x then x++ [46]++it (ρ x) else x) o r.1,r.2)
def jo (ρ:Bs->Nat)(c:Nat):List Nd->List Nd×Nat
 | []=>([],c)
 | n::ks=>let a:=dS ρ c n;let r:=jo ρ a.2 ks;(a.1::r.1,r.2)
def fH (ρ ρ0:Bs->Nat)(first:Bool)(c:Nat):List Nd->List Nd×Nat
 | []=>([],c)
 | .mk k l x o [p,e]::ns=>if k=58/\first=true then
    let a:=dS ρ c p
    let b:=dS ρ0 a.2 e
    let r:=fH ρ ρ0 false b.2 ns
    (.mk k l x o [a.1,b.1]::r.1,r.2)
   else
    let a:=dS ρ c (.mk k l x o [p,e])
    let r:=fH ρ ρ0 first a.2 ns
    (a.1::r.1,r.2)
 | n::ns=>let a:=dS ρ c n;let r:=fH ρ ρ0 first a.2 ns;(a.1::r.1,r.2)
end
mutual
def rnd (deep:Nat):Nd->Nd->Bool
 | .mk k l x o ks, .mk k' l' x' o' fg=>decide (k=k')&&decide (l=l')&&decide (o=o')&&decide (ks.length=fg.length) &&
   (decide (x=x')||(decide (k=36)&&decide (0<(if k=55\/k=56\/k=57 then deep+1 else deep))&&decide (x.length+2<=x'.length)&&decide (x'.take x.length=x)&&decide (x'[x.length]? = some 46)))&&QN (if k=55\/k=56\/k=57 then deep+1 else deep) ks fg
def QN (deep:Nat):List Nd->List Nd->Bool
 | n::ks,n'::fg=>rnd deep n n'&&QN deep ks fg
 | _,_=>true
end
def R1 (N:Nat):Prop:=∀(n:Nd) (ρ:Bs->Nat) (deep c:Nat),fc n<N->((∃y,0<ρ y)->0<deep)->rnd deep n (dS it ρ c n).1=true
def T3 (N:Nat):Prop:=∀(ks:List Nd) (ρ:Bs->Nat) (deep c:Nat),fc ks<N->((∃y,0<ρ y)->0<deep)->QN deep ks (jo it ρ c ks).1=true
def R3 (N:Nat):Prop:=∀(ks:List Nd) (ρ ρ0:Bs->Nat) (f:Bool) (deep c:Nat),fc ks<N->0<deep->QN deep ks (fH it ρ ρ0 f c ks).1=true
end
section
open Go Go.Shelf
def anE:Go.Shelf.Ren:=⟨fun | 171=>26 | 243=>47 | 246=>91 | 283=>124 | 284=>125 | 285=>126 | 286=>127 | 129=>156 | 317=>155 | 318=>157 | 319=>158 | 320=>159 | 337=>176 | 338=>177 | n=>n,fun | 3=>3 | 9=>9 | 2=>2 | 4=>4 | 171=>131 | 0=>0 | 53=>132 | 37=>22 | 5=>5 | 173=>135 | 212=>143 | 51=>144 | 20=>20 | 213=>145 | 46=>146 | 232=>154 | 233=>155 | n=>n,fun | 17=>0 | 18=>1 | 19=>2 | n=>n⟩
theorem anF:Go.Proofs.LaysM.n171 Tryz.prog anE:= {
 mixed:=by kernel_rfl
 f129:=Tryz.func156.trans (congrArg some Kr)
 f171:=Tryz.func26.trans (congrArg some Kr)
 f243:=Tryz.func47.trans (congrArg some Kr)
 f246:=Tryz.func91.trans (congrArg some Kr)
 f283:=Tryz.func124.trans (congrArg some Kr)
 f284:=Tryz.func125.trans (congrArg some Kr)
 f285:=Tryz.func126.trans (congrArg some Kr)
 f286:=Tryz.func127.trans (congrArg some Kr)
 f317:=Tryz.func155.trans (congrArg some Kr)
 f318:=Tryz.func157.trans (congrArg some Kr)
 f319:=Tryz.func158.trans (congrArg some Kr)
 f320:=Tryz.func159.trans (congrArg some Kr)
 f337:=Tryz.func176.trans (congrArg some Kr)
 f338:=Tryz.func177.trans (congrArg some Kr)
 t0:=Tryz.underlying0
 a0:=Tryz.isAgg0
 z0:=Tryz.sizeOf0
 v0:=Tryz.zeroValue0
 t2:=Tryz.underlying2
 a2:=Tryz.isAgg2
 z2:=Tryz.sizeOf2
 v2:=Tryz.zeroValue2
 t3:=Tryz.underlying3
 a3:=Tryz.isAgg3
 z3:=Tryz.sizeOf3
 v3:=Tryz.zeroValue3
 t4:=Tryz.underlying4
 a4:=Tryz.isAgg4
 z4:=Tryz.sizeOf4
 v4:=Tryz.zeroValue4
 t5:=Tryz.underlying5
 a5:=Tryz.isAgg5
 z5:=Tryz.sizeOf5
 v5:=Tryz.zeroValue5
 t9:=Tryz.underlying9
 a9:=Tryz.isAgg9
 z9:=Tryz.sizeOf9
 v9:=Tryz.zeroValue9
 t20:=Tryz.underlying20
 a20:=Tryz.isAgg20
 z20:=Tryz.sizeOf20
 v20:=Tryz.zeroValue20
 t37:=Tryz.underlying22
 a37:=Tryz.isAgg22
 z37:=Tryz.sizeOf22
 v37:=Tryz.zeroValue22
 t46:=Tryz.underlying146
 a46:=Tryz.isAgg146
 z46:=Tryz.sizeOf146
 v46:=Tryz.zeroValue146
 t51:=Tryz.underlying144
 a51:=Tryz.isAgg144
 z51:=Tryz.sizeOf144
 v51:=Tryz.zeroValue144
 t53:=Tryz.underlying132
 a53:=Tryz.isAgg132
 z53:=Tryz.sizeOf132
 v53:=Tryz.zeroValue132
 t171:=Tryz.underlying131
 a171:=Tryz.isAgg131
 z171:=Tryz.sizeOf131
 v171:=Tryz.zeroValue131
 t173:=Tryz.underlying135
 a173:=Tryz.isAgg135
 z173:=Tryz.sizeOf135
 v173:=Tryz.zeroValue135
 t212:=Tryz.underlying143
 a212:=Tryz.isAgg143
 z212:=Tryz.sizeOf143
 v212:=Tryz.zeroValue143
 t213:=Tryz.underlying145
 a213:=Tryz.isAgg145
 z213:=Tryz.sizeOf145
 t232:=Tryz.underlying154
 a232:=Tryz.isAgg154
 z232:=Tryz.sizeOf154
 v232:=Tryz.zeroValue154
 t233:=Tryz.underlying155
 a233:=Tryz.isAgg155
 z233:=Tryz.sizeOf155
 v233:=Tryz.zeroValue155
 g17:=by kernel_rfl
 g18:=by kernel_rfl
 g19:=by kernel_rfl
 i0:=by kernel_rfl
 i2:=by kernel_rfl
 i3:=by kernel_rfl
 i4:=by kernel_rfl
 i5:=by kernel_rfl
 i9:=by kernel_rfl
 i20:=by kernel_rfl
 i37:=by kernel_rfl
 i46:=by kernel_rfl
 i51:=by kernel_rfl
 i53:=by kernel_rfl
 i171:=by kernel_rfl
 i173:=by kernel_rfl
 i212:=by kernel_rfl
 i232:=by kernel_rfl
 i233:=by kernel_rfl
 m17:=by kernel_rfl
 m18:=by kernel_rfl
 m19:=by kernel_rfl }
open Go Go.RowKit Go.Sort Go.Lib
def BB:List ae:=Lib.pow10Tab.map λz=>o7 .u64 z
def wT(H:CH):Prop:=0<H.nx/\∃e,H.ob 0= .cells BB e .ro
theorem wT.hx{H K:CH}(h:wT H)(hx:ag H K):wT K:=⟨cQ h.1 hx.nx,let ⟨e,he⟩:=h.2;⟨e,(hx.ob 0 h.1).trans he⟩⟩
theorem anG{B:Nat}{β:Nat->aA}{H:CH}{w:ay}(c:aP Tryz.prog B β H w)(h:wT H):Lib.TabIs Tryz.prog w "internal/strconv.uint64pow10" .u64 Lib.pow10Tab:=by
 obtain⟨_,e,he⟩:=h;obtain⟨b,sz,n,j,cs',e',fr,h1,h2,h3,h4,h5,o,k,p⟩:=c.cells he;have hb:b=(0,0):=c.ro _ _ _ _ j;subst hb;have hn:BB.length=n:=(k rfl).2;unfold Lib.TabIs World.var?;rw[show Tryz.prog.globalNamed "internal/strconv.uint64pow10" = some 0 by kernel_rfl];simp only[Option.bind_some,h1];congr 1
 refine Array.ext (by rw[h2,<-hn];simp[BB]) λi d q=> ?_;have hi:i<BB.length:=by rw[hn,<-h2];exact d
 obtain⟨v',l,g⟩:=h4 i BB[i] (cj hi);have a:cs'[i]? = some v':=l;rw[Array.getElem?_eq_getElem d] at a;have m:BB[i]= .int .u64 (Lib.pow10Tab[i]'(by simpa[BB] using hi)):=by simp[BB]
 rw[m] at g;cases g;have:=Option.some.inj a;rw[this];simp[BB]
theorem anH(w:ay)(k:Nat):(w.drewN k).heap=w.heap/\(w.drewN k).os=w.os/\(w.drewN k).tape=w.tape/\(w.drewN k).output=w.output:=⟨rfl,rfl,rfl,rfl⟩
theorem anI{B:Nat}{H:CH}(h:wT H)(n:Int)(d : -9223372036854775808<=n)(h1:n<=9223372036854775807):HC Tryz.prog B 26 [.int .i64 n] H (.string ⟨(Lib.itoa n).toArray⟩) H:=by
 refine⟨Kr,fun β w m a ha=> ?_⟩;obtain rfl:=Tk (args:= [.int .i64 n]) rfl ha;refine callsIn_wide.2 ((Any.strconv_Itoa anF n d h1 w (anG a h)).mono λe w' ⟨he,k,os,hw⟩=> ?_);subst hw;obtain⟨c,g,i,j⟩:=anH w k;have hs:(w.drewN k).heap.size=w.heap.size:=by rw[c]
 have hh : ∀b,b<w.heap.size->(grow (w.drewN k) os).heap[b]? = w.heap[b]? :=λb hb=>by
  show((w.drewN k).heap++os)[b]? = _;rw[Array.getElem?_append_left Om,c]
 have hz:w.heap.size<=(grow (w.drewN k) os).heap.size:=by
  show _<=((w.drewN k).heap++os).size;rw[Array.size_append];omega
 exact⟨_,β,he, .string _,⟨λl=>(a.iV l).mono (eS.refl β) λb hb=>hh b (Ck a hb),a.nx,a.inj,cy a.base hz,a.ro⟩,⟨g,i,j,hz,λb hb ho=>⟨hh b hb,ho⟩,eS.refl β⟩⟩
end
section
open Go Go.RowKit Go.Maps
theorem IA:Keyed Tryz.prog 9:=string_keyed Tryz.underlying9
theorem adV{key:ae}{a:Lit}(h:Go.keyOf Tryz.prog 9 key=some a) : ∃x:ByteArray,key= .string x:=by
 cases key<;>simp[Go.keyOf,mapKey,Tryz.underlying9] at h;exact⟨_,rfl⟩
theorem anJ{key:ae}{a:Lit}(h:Go.keyOf Tryz.prog 9 key=some a):WideAt.IsKeyLit a:=by
 cases key<;>simp[Go.keyOf,mapKey,Tryz.underlying9] at h;obtain⟨_,rfl⟩:=h;trivial
noncomputable abbrev eI(H:Type):ae->Option (pK H×List MemPlace):=plainElem Tryz.prog 3
def BC{H:Type}(D:pK H):List ByteArray->pK H
 | []=>D
 | x::xs=>BC (D.del (.string x.data.toList)) xs
theorem adW{H:Type}(x:ByteArray) : ∀(l:List ByteArray) (D:pK H),BC D (l++ [x])=(BC D l).del (.string x.data.toList)
 | [],_=>rfl
 | y::l,D=>adW x l _
theorem anK{H:Type}{D:pK H}{l:List ByteArray}{k:Nat}(h:k<l.length):BC D (l.take (k+1))=(BC D (l.take k)).del (.string l[k].data.toList):=by
 rw[List.take_add_one,cj h];exact adW _ _ _
theorem anL{k m:Nat}(h:k<m)(a:m<=9223372036854775807):wrap64 ((k:Int)+1)=((k+1:Nat):Int):=by
 unfold wrap64;omega
set_option maxRecDepth 100000 in
theorem anM{H:Type}(b n:Nat)(D0:pK H)(w:ay)(B:w.ownsMap Tryz.prog 9 (eI H) b n D0)(ZY:Maps.size D0<=maxLen)(pa:Option cB)(m V:Nat)(xs:List ByteArray)(hm:xs.length=m)(W:m<=maxLen)
 (hp : ∀i (h:i<xs.length),∃(p o:Nat) (M N O:Int) (Q:Option cB) (n4 C:Nat),pa=some ⟨p,o,none⟩/\p<w.heap.size/\w.cell? ⟨p,o+i*5,none⟩=some (.int .i64 M)/\w.cell? ⟨p,o+i*5+1,none⟩=some (.int .i64 N)/\w.cell? ⟨p,o+i*5+2,none⟩=some (.string xs[i])/\w.cell? ⟨p,o+i*5+3,none⟩=some (.int .i64 O)/\w.cell? ⟨p,o+i*5+4,none⟩=some (.slice Q n4 C)/\xs[i].size<=maxLen) :
 Calls Tryz.prog 27 #[.map (some b), .slice pa m V] w λe w'=>e= .returned (.map (some w.heap.size))/\w'.ownsMap Tryz.prog 9 (eI H) w.heap.size (Maps.size D0) (BC D0 xs)/\Below w.heap.size w w':=by
 have pd:= @run_makeMap Tryz.prog;have fO:=B.lt;have Y:(w.alloc (.map #[] 0)).heap.size=w.heap.size+1:=by simp
 go_enter Tryz.func27,Tryz.ntmps27
 go_wp2_with (first
  | (at_range;refine wpList_range_own _ rfl _ 56 rfl 9 3 IA Tryz.underlying56 _ b n _ rfl (B.alloc _) ?_;intro w0 l R oR)
  | go_in)
 go_frame
 rw[Y] at l oR⊢
 go_loopw [13] (λ_ wr=>∃(left:Lit->Bool) (nz:Nat) (q:pK H),wr.ranges Tryz.prog 9 (eI H) b (w.heap.size+1) n D0 left nz/\nz<=Maps.size D0/\
  wr.ownsMap Tryz.prog 9 (eI H) w.heap.size (Maps.size D0-nz) q/\Maps.Agree q D0 left/\Below w.heap.size w wr)
  (λ_ wr=>wr.rangeLeft b (w.heap.size+1))
 case atStart=>
  exact⟨_,_, .map [],l,ai _,((World.ownsMap_made _ _ _ _).kept R Sm).mono (bR _),agree_start D0,((Below.refl _ _).alloc (ai _) _).grown R Sm (λj g=>by cases g)⟩
 case round=>
  obtain⟨left,nz,q,r,pO,z,hA,A⟩:=hrel
  go_wp2_with (first
   | (at_next;refine wpList_next_ranges _ rfl _ rfl 9 IA (eI H) Value.string (o7 .i64) (λ_ _ h=>adV h) (λv y hv=>by obtain⟨c,rfl,_⟩:=plainElem_int_inv Tryz.underlying3 hv;exact⟨c,rfl⟩) b (w.heap.size+1) n _ _ _ rfl r ?_ ?_)
   | go_in)
  ·
   intro D wv
   go_wp2
   subst D;have e:=agree_end hA wv (z.canon IA) (B.canon IA);subst e
   go_loopw [23] (λi E=>∃k:Nat,k<=m/\i= .int .i64 k/\E.ownsMap Tryz.prog 9 (eI H) w.heap.size (Maps.size q) (BC q (xs.take k))/\Below w.heap.size w E) (λi _=>m-(intOf i).toNat)
   case atStart=>exact⟨0,bR _,rfl,by simpa[BC] using z,A⟩
   case round=>
    obtain⟨k,hk,rfl,s,t⟩:=hrel;by_cases F:k<m
    ·obtain⟨p,o,M,N,O,Q,n4,q4,rfl,gy,c0,c1,c2,c3,C,eN⟩:=hp k Om;have hb:=t.block p gy;have d0:=(SE (a:=⟨p,o+k*5,none⟩) hb).trans c0;have d1:=(SE (a:=⟨p,o+k*5+1,none⟩) hb).trans c1;have d2:=(SE (a:=⟨p,o+k*5+2,none⟩) hb).trans c2;have d3:=(SE (a:=⟨p,o+k*5+3,none⟩) hb).trans c3;have d4:=(SE (a:=⟨p,o+k*5+4,none⟩) hb).trans C
     go_wp2_with (first
      | (at_delete;refine wpList_delete_own _ rfl _ _ 56 9 rfl 3 IA Tryz.underlying56 _ w.heap.size _ _ rfl (s.alloc _) _ _ rfl (WideMaps.keyOf_string_mk Tryz.underlying9 eN) ?_;intro w3 G I;go_frame)
      | go_in)
     rw[anL F W];refine⟨⟨k+1,Om,rfl,?_,?_⟩,?_⟩;·rw[anK Om];exact G
     ·exact(t.alloc t.size _).grown I.grown (by have:=t.size;simp;omega) (λj g=>by cases g;exact ai _)
     simp only[intOf];omega
    have:k=m:=by omega
    subst this
    go_wp2
    go_ret
    rw[ux Om] at s;exact⟨rfl,s,t⟩
  
  intro x c kl d ps w1 J S ZQ hv fq K F T iz G6;have L:=z.kept T Sm
  go_wp2_with (first
   | (at_mapUpdate;refine wpList_mapUpdate_own _ rfl _ _ _ 56 rfl 9 3 IA Tryz.underlying56 _ w.heap.size _ _ rfl L Om _ _ _ rfl rfl S d ps hv ?_;intro E s U;go_frame)
   | go_in)
  have u:=K.kept U (λe=>by have:=Option.some.inj e;omega) (λe=>by have:=Option.some.inj e;omega)
  go_roundw
  case rel=>
   exact⟨_,J,_,u,Om,s.mono Om,agree_step hA z.isMap (anJ S) fq,
    (A.grown T A.size (λj g=>by cases g;exact mC _)).grown U (by have:=A.size;omega) (λj g=>by cases g;exact ai _)⟩
  case measure=>rw[u.left_eq,r.left_eq];exact F
end
section
open Go Go.RowKit Go.Maps Go.WideElems
def oU (H:CH)(l:Nat)(f:ByteArray->Option Int)(k:Nat):Prop:=H.ob l= .fm f k\/(H.ob l= .map #[] 0/\f=(λ_=>none)/\k=0)
theorem oU.rel{B:Nat}{β:Nat->aA}{H:CH}{w:ay}(a:aP Tryz.prog B β H w){l k:Nat}{f:ByteArray->Option Int}(h:oU H l f k) : ∃b,β l= .obj b/\B<=b/\Ci w b f k:=by
 rcases h with h | ⟨h,rfl,rfl⟩
 ·exact a.Tb h
 obtain⟨b,h1,h2,c,h3,h4,_⟩:=a.GV h;have:c= #[]:=Array.eq_empty_of_size_eq_zero h4;subst this;exact⟨b,h1,h2,#[],0,h3,Sm,Sm,Sm,λs n e=>(by cases e),ai _,bR _,Sm,Sm⟩
abbrev DU:=pK Unit
theorem anS{w:ay}{b k:Nat}{f:ByteArray->Option Int}(h:Ci w b f k) : ∃l:List (Lit×DU),w.ownsMap Tryz.prog 9 (eI Unit) b k (.map l)/\l.length<=k/\∀p,p∈l↔∃s n,p=(.string s.data.toList, .lit (.int .i64 n))/\f s=some n:=by
 obtain⟨es,clock,h1,h2,h3,h4,h5,i,o,q,r⟩:=h;have j : ∀e∈es.toList,∀s n,e.key= .string s->e.val= .int .i64 n->s.size<=maxLen->(Lit.int .i64 n).wf=true->WideElems.rd (H:=Unit) Tryz.prog 9 (eI Unit) e=some (.string s.data.toList, .lit (.int .i64 n)):=λe he s n a c d g=>by
  have hk:Go.keyOf Tryz.prog 9 e.key=some (.string s.data.toList):=by rw[a];exact WideMaps.keyOf_string_mk Tryz.underlying9 d
  have hv:eI Unit e.val=some (.lit (.int .i64 n),[]):=by rw[c];exact plainElem_int Tryz.underlying3 g
  obtain⟨key,val,born⟩:=e;exact WideElems.rd_mk hk hv
 have t:Fit Tryz.prog 9 (eI Unit) es clock:=by
  refine⟨cy i o,(MapKept.stamped_iff _ _).2 ⟨q,?_,h3⟩,λe he=> ?_⟩;·unfold List.Nodup;rw[List.pairwise_map];exact r
  obtain⟨s,n,a,c,d,g⟩:=h2 e he;exact⟨_,j e he s n a c d g⟩
 refine⟨_,⟨es,clock,h1,t,i,rfl⟩,?_,λp=> ?_⟩;·rw[(WideShapes.sorted_perm _).length_eq,eR];simpa using i
 rw[mem_sorted,List.mem_map];constructor;·rintro⟨e,he,rfl⟩;obtain⟨s,n,a,c,d,g⟩:=h2 e he;exact⟨s,n,WideElems.rg_of (j e he s n a c d g),h4 e he s n a c⟩
 rintro⟨s,n,rfl,u⟩;obtain⟨e,he,a,c⟩:=h5 s n u;obtain⟨y,n',m,r2,v,x⟩:=h2 e he;rw[a] at m;cases m;rw[c] at r2;cases r2;exact⟨e,he,WideElems.rg_of (j e he _ _ a c v x)⟩
theorem anT{w:ay}{b n:Nat}{f:ByteArray->Option Int}{l:List (Lit×DU)}(C:w.ownsMap Tryz.prog 9 (eI Unit) b n (.map l))(hn:n<=maxLen)(h : ∀p,p∈l↔∃s m,p=(.string s.data.toList, .lit (.int .i64 m))/\f s=some m):Ci w b f n:=by
 obtain⟨es,clock,h1,x,h2,D⟩:=C;have hl:l=(es.toList.map (WideElems.rg Tryz.prog 9 (eI Unit))).foldr DataW.insert []:=by injection D
 obtain⟨E,s2,F⟩:=(MapKept.stamped_iff _ _).1 x.stamped;have i : ∀e∈es.toList,∃s m,e.key= .string s/\e.val= .int .i64 m/\s.size<=maxLen/\(Lit.int .i64 m).wf=true/\WideElems.rg (H:=Unit) Tryz.prog 9 (eI Unit) e=(.string s.data.toList, .lit (.int .i64 m)):=λe he=>by
  obtain⟨y,j⟩:=x.reads e he;have hk:=WideElems.rd_key j;obtain⟨z,hz,A⟩:=WideElems.rd_val j;obtain⟨s,hs⟩:=adV hk;obtain⟨m,d,k,hw⟩:=plainElem_int_inv Tryz.underlying3 hz;rw[hs] at hk;have B:s.size<=maxLen/\y.1= .string s.data.toList:=by
   simp[Go.keyOf,mapKey,Tryz.underlying9] at hk;exact⟨hk.1,hk.2.symm⟩
  refine⟨s,m,hs,d,B.1,hw,?_⟩;rw[WideElems.rg_of j];obtain⟨G,I⟩:=y;rw[k] at A;have J:I=_:=A;have o:G=_:=B.2;rw[J,o]
 refine⟨es,clock,h1,λe he=> ?_,F,λe he s m q r=> ?_,λs m t=> ?_,h2,hn,E,?_⟩;·obtain⟨s,m,q,r,K,L,_⟩:=i e he;exact⟨s,m,q,r,K,L⟩
 ·obtain⟨u,M,g,r2,N,O,v⟩:=i e he;rw[q] at g;cases g;rw[r] at r2;cases r2;have d:(Lit.string s.data.toList,(DataW.lit (.int .i64 m):DU))∈l:=by
   rw[hl,mem_sorted];exact List.mem_map.2 ⟨e,he,v⟩
  obtain⟨s2,m2,o,t⟩:=(h _).1 d;injection o with c a
  injection c with c
  injection a with a
  injection a with _ a
  subst a;have:s=s2:=by
   cases s;cases s2;congr 1
   exact Array.toList_inj.1 c
  rw[this];exact t
 ·have d:=(h _).2 ⟨s,m,rfl,t⟩;rw[hl,mem_sorted] at d;obtain⟨e,he,h5⟩:=List.mem_map.1 d;obtain⟨u,M,g,r2,N,O,v⟩:=i e he;rw[v] at h5;injection h5 with c a
  injection c with c
  injection a with a
  injection a with _ a
  subst a;have:u=s:=by
   cases s;cases u;congr 1
   exact Array.toList_inj.1 c
  subst this;exact⟨e,he,g,r2⟩
 have:=s2;unfold List.Nodup at this;rw[List.pairwise_map] at this;exact this
theorem adZ : ∀(xs:List ByteArray) (l:List (Lit×DU)),∃l',BC (.map l) xs= .map l'/\∀p,p∈l'↔p∈l/\∀x∈xs,p.1.sameKey (.string x.data.toList)=false
 | [],l=>⟨l,rfl,λp=>by simp⟩
 | x::xs,l=>by
   obtain⟨l',h1,h2⟩:=adZ xs (l.filter λp=> !p.1.sameKey (.string x.data.toList));refine⟨l',h1,λp=> ?_⟩;rw[h2 p,List.mem_filter];simp only[zT,List.mem_cons,forall_eq_or_imp,and_assoc]
def Ft(H:CH)(q:Option cB)(xs:List ByteArray):Prop:=∀i (h:i<xs.length),∃p o cs e kd a b c d n4 g,q=some ⟨p,o,none⟩/\H.ob p= .cells cs e kd/\(cs.drop (o+i*5)).take 5= [.int .i64 a, .int .i64 b, .string xs[i], .int .i64 c, .slice d n4 g]/\xs[i].size<=maxLen
def zn (f:ByteArray->Option Int)(xs:List ByteArray):ByteArray->Option Int:=λs=>if xs.any (λx=>decide (x=s))=true then none else f s
theorem anU{a b:ByteArray}(h:a.data.toList=b.data.toList):a=b:=by
 cases a;cases b;congr 1
 exact Array.toList_inj.1 h
theorem anV{cs:List ae}{n:Nat}{a b c d e:ae}(h:(cs.drop n).take 5= [a,b,c,d,e]):cs[n]? = some a/\cs[n+1]? = some b/\cs[n+2]? = some c/\cs[n+3]? = some d/\cs[n+4]? = some e:=by
 have g : ∀j,j<5->cs[n+j]? = ([a,b,c,d,e]:List ae)[j]? :=λj i=>by
  rw[<-h,sA i,pI]
 exact⟨g 0 de,g 1 de,g 2 de,g 3 de,g 4 de⟩
theorem anW{B:Nat}{H:CH}{l k m c:Nat}{f:ByteArray->Option Int}{q:Option cB}{xs:List ByteArray}(hl:oU H l f k)(W:xs.length=m)(hp:Ft H q xs) :
 HC Tryz.prog B 27 [.map (some l), .slice q m c] H (.map (some H.nx)) (H.new (.fm (zn f xs) k)):=by
 refine⟨Kr,fun β w Y d ha=> ?_⟩;obtain⟨F,v2,rfl,qL,I⟩ : ∃F v2,Y= [F,v2]/\VR β (.map (some l)) F/\VR β (.slice q m c) v2:=by
  obtain⟨h1,h2⟩:=ha;match Y,h1 with
  | [a,b],_=>
    obtain⟨v',q1,q2⟩:=h2 0 _ rfl;cases q1;obtain⟨OL,J,r2⟩:=h2 1 _ rfl;cases J;exact⟨a,b,rfl,q2,r2⟩
 obtain⟨b,hb,hB,K⟩:=hl.rel d;obtain rfl:F= .map (some b):=by cases qL with | map h=>rw[hb] at h;cases h;rfl
 have C:=K;obtain⟨L,oF,M,hL⟩:=anS K;have D:k<=maxLen:=by obtain⟨_,_,_,_,_,_,_,_,h,_⟩:=C;exact h
 obtain⟨pa,N,rfl,nQ,O⟩ : ∃pa N,v2= .slice pa m N/\m<=maxLen/\∀p o,q=some ⟨p,o,none⟩->0<m->(∃cs e kd,H.ob p= .cells cs e kd)->∃r:Nat×Nat,∃sz n kd,β p= .live r sz n kd/\pa=some ⟨r.1,o+r.2,none⟩:=by
  have J':0<m->∃p o cs e kd,q=some ⟨p,o,none⟩/\H.ob p= .cells cs e kd:=λQ=>by
   obtain⟨p,o,cs,e,kd,_,_,_,_,_,_,h1,h2,_⟩:=hp 0 Om;exact⟨p,o,cs,e,kd,h1,h2⟩
  clear oF hL M K C hp W;generalize hc:c=c0 at I;generalize pd:m=m0 at I;cases I with
  | Af=>exact⟨none,0,rfl,Om,λp o e h=>by omega⟩
  | sl h h1 h2 h3 h4 h5=>subst pd;exact⟨_,_,rfl,cy h1 (cy h2 h3),λp o e _ _=>by cases e;exact⟨_,_,_,_,h,rfl⟩⟩
  | xi a=>exact⟨_,_,rfl,Om,λp o e h=>by omega⟩
  | yy a c=>exact⟨_,_,rfl,Om,λp o e h=>by omega⟩
  | rq a h h2=>
    subst pd;by_cases Q:0<m
    ·obtain⟨p,o,cs,e,kd,g1,g2⟩:=J' Q;cases g1;obtain⟨_,_,_,g3,_⟩:=d.cells g2;rw[h] at g3;cases g3
    exact⟨_,_,rfl,Om,λp o e h=>absurd h Q⟩
  | ru a h=>exact⟨_,_,rfl,Om,λp o e h=>by omega⟩
 have AW : ∀i (h:i<xs.length),∃(p o:Nat) (R S T:Int) (u4:Option cB) (n4 c4:Nat),pa=some ⟨p,o,none⟩/\p<w.heap.size/\w.cell? ⟨p,o+i*5,none⟩=some (.int .i64 R)/\w.cell? ⟨p,o+i*5+1,none⟩=some (.int .i64 S)/\w.cell? ⟨p,o+i*5+2,none⟩=some (.string xs[i])/\w.cell? ⟨p,o+i*5+3,none⟩=some (.int .i64 T)/\w.cell? ⟨p,o+i*5+4,none⟩=some (.slice u4 n4 c4)/\xs[i].size<=maxLen:=λi hi=>by
  obtain⟨p,o,cs,e,kd,R,S,T,q4,n4,c4,rfl,ak,hd,eN⟩:=hp i hi;obtain⟨r,sz,n,mT,hβ,rfl⟩:=O p o rfl Om ⟨_,_,_,ak⟩;obtain⟨g0,g1,g2,g3,g4⟩:=anV hd;obtain⟨sT,E,mH,cs',e',fr,h1,h2,h3,h4,_⟩:=d.live hβ;rw[ak] at mH;cases mH;have cell : ∀j v,cs[o+i*5+j]? = some v->∃u,w.cell? ⟨r.1,o+r.2+i*5+j,none⟩=some u/\VR β v u:=λj v hv=>by
   obtain⟨u,a,b⟩:=h4 _ v hv;refine⟨u,?_,b⟩;have e:o+r.2+i*5+j=o+i*5+j+r.2:=by omega
   rw[e];simp[World.cell?,h1,a]
  obtain⟨w0,r0,s0⟩:=cell 0 _ g0;obtain⟨w1,J,s1⟩:=cell 1 _ g1;obtain⟨w2,r2,s2⟩:=cell 2 _ g2;obtain⟨w3,r3,s3⟩:=cell 3 _ g3;obtain⟨w4,r4,s4⟩:=cell 4 _ g4;cases s0;cases s1;cases s2;cases s3;obtain⟨a4,b4,U,rfl⟩ : ∃a4 b4 U,w4= .slice a4 b4 U:=by
   cases s4<;>exact⟨_,_,_,rfl⟩
  exact⟨_,_,R,S,T,a4,b4,U,rfl,(Array.getElem?_eq_some_iff.1 h1).1,r0,J,r2,r3,r4,eN⟩
 have WI:=anM b k (.map L) w oF (cy M D) pa m N xs W nQ AW;obtain⟨L',Mw,WJ⟩:=adZ xs L;refine callsIn_wide.2 (WI.mono λe w' ⟨he,ho,y⟩=> ?_);rw[Mw] at ho;have V:Ci w' w.heap.size (zn f xs) k:=anT (ho.mono M) D λp=>by
  rw[WJ p,hL p];constructor
  ·rintro⟨⟨s,n,rfl,z⟩,hx⟩;refine⟨s,n,rfl,?_⟩;unfold zn;rw[iN];·exact z
   intro ha;obtain⟨x,bH,bJ⟩:=List.any_eq_true.1 ha;have:=of_decide_eq_true bJ;subst this;have:=hx x bH;rw[WideAt.sameKey_self (a:= .string x.data.toList) trivial] at this;cases this
  rintro⟨s,n,rfl,z⟩;unfold zn at z;split at z;·cases z
  rename_i ha;refine⟨⟨s,n,rfl,z⟩,λx hx=>Maps.sameKey_ne λe=>ha ?_⟩;injection e with e
  exact List.any_eq_true.2 ⟨x,hx,decide_eq_true (anU e).symm⟩
 have nu:=d.od;have iJ:eS β (dE β H.nx (.obj w.heap.size)):=λl=>by
  by_cases hl:l=H.nx
  ·subst hl;exact .inr (.inl nu)
  exact .inl (dT hl)
 have t : ∀b,b<w.heap.size->w'.heap[b]? = w.heap[b]? :=λb hb=>y.block b hb;refine⟨_,dE β H.nx (.obj w.heap.size),he, .map eE,⟨λl'=> ?_,λl' eu=> ?_,λl1 l2 A g1 g2=> ?_,cy d.base y.size,d.ro.dE λ_ _ _ e=>(by cases e)⟩,⟨y.os,y.tape,y.output,y.size,λA hO gO=>⟨t A hO,λl' g=> ?_⟩,iJ⟩⟩
 ·by_cases e:l'=H.nx
  ·subst e;rw[eE];show Cj _ _ _ _ _ (if H.nx=H.nx then _ else _);rw[iP rfl];exact⟨d.base,V⟩
  rw[dT e];show Cj _ _ _ _ _ (if l'=H.nx then _ else _);rw[iN e];exact(d.iV l').mono iJ λb hb=>t b (Ck d hb)
 ·have dV:H.nx+1<=l':=eu;show(if l'=H.nx then _ else _)=_;rw[iN Om];exact d.nx l' Om
 ·by_cases G:l1=H.nx<;>by_cases E:l2=H.nx
  ·rw[G,E]
  ·subst G;rw[eE] at g1;rw[dT E] at g2;have:=(tE d g2).2;have:w.heap.size=A:=g1;omega
  ·subst E;rw[eE] at g2;rw[dT G] at g1;have:=(tE d g1).2;have:w.heap.size=A:=g2;omega
  rw[dT G] at g1;rw[dT E] at g2;exact d.inj _ _ A g1 g2
 by_cases e:l'=H.nx
 ·subst e;rw[eE] at g;have:w.heap.size=A:=g;omega
 rw[dT e] at g;exact gO l' g
end
section
open Go Go.RowKit
abbrev tx(x:Bs):ByteArray:=⟨⟨x⟩⟩
def cP (n:Nat):Bs:=Lib.itoa (n:Int)
def SR:Spec:=λf args H v H'=>(f=26->∃n,args= [.int .i64 n]/\v= .string ⟨(Lib.itoa n).toArray⟩/\H'=H)/\
 (f=27->∃l k q c xs f,args= [.map (some l), .slice q xs.length c]/\oU H l f k/\Ft H q xs/\v= .map (some H.nx)/\H'=H.new (.fm (zn f xs) k))
noncomputable abbrev gH:cw:=vw Tryz.prog LG GG [26,27] SR
theorem anY{B:Nat}:ww Tryz.prog B gH:=QG Lb
theorem anZ{H:CH}(h:wT H){n:Int}(a : -9223372036854775808<=n)(h1:n<=9223372036854775807):aQ gH 26 [.int .i64 n] H λv K=>v= .string ⟨(Lib.itoa n).toArray⟩/\K=H:=by
 refine Dg Rl ⟨_,_,⟨λ_=>⟨n,rfl,rfl,rfl⟩,λe=>by cases e⟩,λB=>anI h n a h1⟩ λv H' b=> ?_;obtain⟨n',e,h2,h3⟩:=b.1 rfl;cases e;exact⟨h2,h3⟩
theorem an0{H:CH}{l k k':Nat}{f a:ByteArray->Option Int}(h:oU H l f k)(h':oU H l a k'):f=a/\k=k':=by
 rcases h with h | ⟨h,rfl,rfl⟩<;>rcases h' with h' | ⟨h',rfl,rfl⟩
 ·rw[h] at h';cases h';exact⟨rfl,rfl⟩
 ·rw[h] at h';cases h'
 ·rw[h] at h';cases h'
 exact⟨rfl,rfl⟩
theorem an1{H:CH}{q:Option cB}{xs ys:List ByteArray}(h:Ft H q xs)(h':Ft H q ys)(hl:xs.length=ys.length):xs=ys:=by
 refine N0 hl λi h1 h2=> ?_;obtain⟨p,o,cs,e,kd,c,d,g,j,n4,k,rfl,a2,a3,_⟩:=h i h1;obtain⟨l,o',cs',e',m,_,_,_,_,_,_,b,a,b3,_⟩:=h' i h2;cases b;rw[a2] at a;cases a;rw[a3] at b3;simp only[List.cons.injEq,Value.int.injEq,Value.string.injEq,true_and,and_true] at b3;exact b3.2.2.1
theorem ad1{H:CH}{l k m c:Nat}{f:ByteArray->Option Int}{q:Option cB}{xs:List ByteArray}(hl:oU H l f k)(a:xs.length=m)(hp:Ft H q xs) :
 aQ gH 27 [.map (some l), .slice q m c] H λv K=>v= .map (some H.nx)/\K=H.new (.fm (zn f xs) k):=by
 subst a;refine Dg Rl ⟨_,_,⟨λe=>(by cases e),λ_=>⟨l,k,q,c,xs,f,rfl,hl,hp,rfl,rfl⟩⟩,λB=>anW hl rfl hp⟩ λv H' b=> ?_;obtain⟨l',k',g,c',i,j,e,g1,g2,g3,g4⟩:=b.2 rfl;simp only[List.cons.injEq,Value.map.injEq,Option.some.injEq,Value.slice.injEq,and_true] at e;obtain⟨rfl,rfl,d,rfl⟩:=e;obtain⟨rfl,rfl⟩:=an0 hl g1;obtain rfl:=an1 hp g2 d;exact⟨g3,g4⟩
def RF (ρ:Bs->Nat)(f:ByteArray->Option Int):Prop:=∀y,(f (tx y)).getD 0=(ρ y:Int)
theorem RF.nil:RF (λ_=>0) (λ_=>none):=λ_=>rfl
theorem RF.wo{ρ:Bs->Nat}{f:ByteArray->Option Int}(h:RF ρ f)(ps:List Nd):RF (wo ρ ps) (zn f (ps.map λn=>tx n.text)):=λy=>by
 unfold Can.wo zn;by_cases a:y∈ps.map Nd.text
 ·rw[iP a,iP];·rfl
  obtain⟨n,hn,e⟩:=List.mem_map.1 a;exact List.any_eq_true.2 ⟨tx n.text,List.mem_map.2 ⟨n,hn,rfl⟩,decide_eq_true (by rw[e])⟩
 rw[iN a,iN];·exact h y
 intro ha;obtain⟨x,hx,e⟩:=List.any_eq_true.1 ha;obtain⟨n,hn,rfl⟩:=List.mem_map.1 hx;have e:=of_decide_eq_true e;exact a (List.mem_map.2 ⟨n,hn,congrArg (λb:ByteArray=>b.data.toList) e⟩)
def txL (n:Nd):Prop:=n.text.length<=1099511627776
theorem an2{K:CH}{A:Nat->Prop}{ks:List Nd}{w:ae}(h:fk K A (.row 5 (cT ks)) w)(ht : ∀n∈ks,txL n) : ∃q,w= .slice q ks.length ks.length/\Ft K q (ks.map λn=>tx n.text):=by
 obtain⟨q,rfl,h1,h2,h3⟩:=lr h;refine⟨q,rfl,λi hi=> ?_⟩;have c:i<ks.length:=by simpa using hi
 obtain⟨b,cs,e,kd,rfl,hA,g,s,t,h5,hs⟩:=h3 i ks[i] (cj c);have d:=ht ks[i] (List.getElem_mem c);cases hn:ks[i] with
 | mk k l x o fg=>
   rw[hn] at hs d;obtain⟨w',a,j,m,p⟩:=Ix (rest:= []) (by rw[gY];exact hs);have:a= []:=by cases p;rfl
   subst this;obtain⟨r,rfl,_⟩:=lr m;refine⟨b,0,cs,e,kd,(k:Nat),l,(o:Nat),r,fg.length,fg.length,rfl,g,?_,?_⟩;·rw[ba,j];simp[hn,Nd.text]
   simp only[List.getElem_map,hn];have:x.length<=1099511627776:=d;show x.length<=maxLen;rw[gE];omega
theorem iq{K:CH}{A:Nat->Prop}{k:Nat}{l:Int}{x:Bs}{o:Nat}{ks:List Nd}{os:List ae}(h:bK K A (cF (.mk k l x o ks)) os) : ∃q,os= [.int .i64 (k:Nat), .int .i64 l, .string (tx x), .int .i64 (o:Nat), .slice q ks.length ks.length]/\fk K A (.row 5 (cT ks)) (.slice q ks.length ks.length):=by
 obtain⟨w,a,rfl,h2,h3⟩:=Ix (rest:= []) (by rw[gY];exact h);have:a= []:=by cases h3;rfl
 subst this;obtain⟨q,rfl,_⟩:=lr h2;exact⟨q,rfl,h2⟩
theorem an3{K:CH}{A:Nat->Prop}:bK K A (cF (.mk 0 0 [] 0 [])) [.int .i64 0, .int .i64 0, .string ⟨⟨[]⟩⟩, .int .i64 0, .slice none 0 0]:= .cons (.sc rfl) (.cons (.sc rfl) (.cons (.sc rfl) (.cons (.sc rfl) (.cons .qI .nil))))
theorem Mx{K:CH}{A:Nat->Prop}{n:Nd}{os:List ae}(h:bK K A (cF n) os)(hA : ∀b,A b->b<K.nx):aQ gH 28 [.agg os.toArray, .int .i64 0] K λv K'=>∃os',v= .agg os'.toArray/\ag K K'/\bK K A (cF (cV n.kids)) os':=by
 obtain⟨k,l,x,o,ks⟩:=n;obtain⟨q,rfl,c⟩:=iq h;obtain⟨w,e,y,d,g⟩:=lr c;cases e;cases ks with
 | nil=>
   obtain rfl:=d rfl;refine dq Rl Kr (aK ?_);refine aM ?_;refine⟨_,rfl,by(repeat (first | assumption | exact ag.refl _ | (refine ag.set ?_ Fo _) | (refine ag.new ?_ _))),an3⟩
 | cons i ks=>
   obtain⟨b,cs,e,kd,rfl,j,m,z,B,h5,hs⟩:=g 0 i rfl;have hb:=hA b j;obtain⟨os',a⟩ : ∃os',(cs.drop (0*5)).take 5=os':=⟨_,rfl⟩;rw[a] at hs;have r:os'.length=5:=by rw[<-a];simp;simp at h5;omega
   obtain⟨k',l',x',o',C,D,E,s⟩:=BA hs;have t:os'.all a8=true:=by rw[s];rfl
   have u:5<=cs.length:=by omega
   refine dq Rl Kr (aK ?_);refine rn (jL @m @a @r @t @u) ?_;refine⟨os',by rw[ux Om],by(repeat (first | assumption | exact ag.refl _ | (refine ag.set ?_ Fo _) | (refine ag.new ?_ _))),hs⟩
structure dr(c:Nat)(H K:CH):Prop where
 nx:H.nx<=K.nx
 ob : ∀l,l<H.nx->l≠c->K.ob l=H.ob l
theorem dr.refl{c:Nat}(H:CH):dr c H H:=⟨ai _,λ_ _ _=>rfl⟩
theorem dr.trans{c:Nat}{A H K:CH}(h:dr c A H)(k:dr c H K):dr c A K:=⟨cy h.nx k.nx,λl hl hc=>(k.ob l (cQ hl h.nx) hc).trans (h.ob l hl hc)⟩
theorem ag.ex{c:Nat}{H K:CH}(h:ag H K):dr c H K:=⟨h.nx,λl hl _=>h.ob l hl⟩
theorem dr.new{c:Nat}{A H:CH}(h:dr c A H)(o:dD):dr c A (H.new o):=h.trans ((ag.refl H).new o).ex
theorem dr.set{c:Nat}{A H:CH}(h:dr c A H){l:Nat}(hl:A.nx<=l\/l=c)(o:dD):dr c A (H.set l o):=⟨h.nx,λk hk hc=>by simp only[CH.set];rw[iN Om];exact h.ob k hk hc⟩
theorem dr.ext{c:Nat}{H K:CH}(h:dr c H K)(hc:H.nx<=c):ag H K:=⟨h.nx,λl hl=>h.ob l hl Om⟩
abbrev pN(n:Nat):ae:= .pointer (some ⟨n,0,none⟩)
def My (f:ByteArray->Option Int)(c:Nat)(x:Bs):ByteArray->Option Int:=λt=>if t=tx x then some (c:Int) else f t
def ud (f:ByteArray->Option Int)(c:Nat)(xs:List Bs):ByteArray->Option Int:=xs.foldl (λf x=>My f c x) f
theorem ad2{f:ByteArray->Option Int}{c:Nat}{xs ys:List Bs}:ud f c (xs++ys)=ud (ud f c xs) c ys:=List.foldl_append ..
theorem RF.up{ρ:Bs->Nat}{f:ByteArray->Option Int}(h:RF ρ f)(c:Nat)(x:Bs):RF (λy=>if y=x then c else ρ y) (My f c x):=λy=>by
 unfold My;by_cases e:y=x
 ·subst e;simp
 have:tx y≠tx x:=λh=>e (congrArg (λb:ByteArray=>b.data.toList) h);simp only[iN e,iN this];exact h y
theorem RF.ud{c:Nat} : ∀ {xs:List Bs} {ρ:Bs->Nat} {f:ByteArray->Option Int},RF ρ f->RF (wi ρ xs c) (ud f c xs)
 | [],ρ,f,h=>λy=>by simpa[wi,Can.ud] using h y
 | x::xs,ρ,f,h=>λy=>by
   have:=RF.ud (xs:=xs) (c:=c) (h.up c x) y;rw[show Can.ud f c (x::xs)=Can.ud (My f c x) c xs from rfl,this];unfold wi;by_cases e:y=x
   ·subst e;simp
   simp[e]
mutual
def zo:Nd->Prop
 | .mk _ _ x _ ks=>x.length<=1099511627776/\BD ks
def BD:List Nd->Prop
 | []=>True
 | n::ks=>zo n/\BD ks
end
theorem Fu : ∀ {ks:List Nd} {n:Nd},BD ks->n∈ks->zo n
 | m::ks,n,h,hn=>by
   rcases List.mem_cons.1 hn with rfl | hn
   ·exact h.1
   exact Fu h.2 hn
theorem ad3{ks:List Nd}(h:BD ks):zo (cV ks):=by
 cases ks with
 | nil=>exact⟨bR _,trivial⟩
 | cons n ks=>exact h.1
theorem BE : ∀ {ks:List Nd} {n:Nd},n∈ks->eX n<=gk ks
 | m::ks,n,hn=>by
   simp only[gk];rcases List.mem_cons.1 hn with rfl | hn
   ·exact yr _ _
   exact cy (BE hn) (yt _ _)
theorem an4{K:CH}{x:Bs}{bc bm l c k:Nat}{f:ByteArray->Option Int}(hx:x.length<=1099511627776)(hc:K.ob bc= .cells [.int .i64 (c:Nat)] 3 .ex)(a:K.ob bm= .cells [.map (some l)] 56 .ex)(b:K.ob l= .fm f k)(g:c<=4611686018427387904)(hk:k<=4611686018427387904) :
 aQ gH 49 [.string (tx x),pN bc,pN bm] K λv K'=>K'=K.set l (.fm (My f c x) (k+1)):=by
 have hs:(tx x).size<=9223372036854775807:=by show x.length<=_;omega
 have hw:(Lit.int .i64 (c:Nat)).wf=true:=by
  simp[Lit.wf,IntKind.min,IntKind.max,IntKind.signed,IntKind.bits];omega
 have d:k+1<=9223372036854775807:=by omega
 refine dq Rl Kr (aK ?_);refine rn (o8 @hc @a @b @hs @hw @d) ?_;rfl
theorem Mz : ∀ {a b:List Nd},eP (a++b)=eP a++eP b
 | [],b=>rfl
 | n::a,b=>by simp only[gZ,eP,Mz,oY]
theorem ad4{i:Nat}{ks:List Nd}:(eP (ks.take i)).length<=(eP ks).length:=by
 conv=>rhs;rw[<-yv i ks,Mz,cG]
 exact N8 _ _
def PlJ (K:CH)(l:Nat)(ks:List Nd)(f:ByteArray->Option Int)(c k n:Nat)(v:ae)(a:CH):Prop:=∃i:Nat,n=ks.length-i/\i<=ks.length/\v= .int .i64 (i:Nat)/\dr l K a/\a.ob l= .fm (ud f c (eP (ks.take i))) (k+(eP (ks.take i)).length)
theorem an5{bc bm l c:Nat}(B:c<=4611686018427387904) : ∀(N:Nat) (t:Nd),eX t<=N->zo t->∀(K:CH) (A:Nat->Prop) (os:List ae) (f:ByteArray->Option Int) (k:Nat),bK K A (cF t) os->(∀b,A b->b<K.nx/\b≠l)->K.ob bc= .cells [.int .i64 (c:Nat)] 3 .ex->K.ob bm= .cells [.map (some l)] 56 .ex->K.ob l= .fm f k->bc<K.nx->bm<K.nx->l<K.nx->k+(fG t).length<=4611686018427387904->aQ gH 48 [.agg os.toArray, .func (.func 49) #[] #[pN bc,pN bm]] K λv K'=>dr l K K'/\K'.ob l= .fm (ud f c (fG t)) (k+(fG t).length):=by
 intro N;induction N with
 | zero=>intro t h;cases t;simp[eX] at h
 | succ N C=>
 rintro⟨tk,tl,x,o,ks⟩ D hT K A os f k hs hA hc j d E G hl hk;obtain⟨q,rfl,H⟩:=iq hs;obtain⟨Y,e,I,lV,J⟩:=lr H;cases e;rw[gE] at I;have L:bc≠l:=λe=>by rw[e,d] at hc;cases hc
 have M:bm≠l:=λe=>by rw[e,d] at j;cases j
 by_cases s:tk=36
 ·subst s;rw[fG,iP rfl] at hk;refine dq Rl Kr (aK ?_);refine aM ?_;refine(an4 (K:=K.new _) (l:=l) (f:=f) (k:=k) hT.1 (by rw[bL Om];exact hc) (by rw[bL Om];exact j) (by rw[bL Om];exact d) B (by simp at hk;omega)).mono λv K' e=> ?_;subst e;refine aM ?_;rw[fG,iP rfl];exact⟨((dr.refl K).new _).set (.inr rfl) _,rfl⟩
 by_cases h5:tk=52\/tk=51
 ·rcases h5 with rfl | rfl
  all_goals
   rw[fG,iN de,iP de] at hk⊢;refine dq Rl Kr (aK ?_);refine aM ?_;refine ef (λn fr a=>PlJ K l ks f c k n (fr 20) a) (n:=ks.length) ⟨0,rfl,bR _,by(refine aM ?_;all_goals rfl),(dr.refl K).new _,by rw[bL Om,d];rfl⟩ ?_;rintro n fr a ⟨i,rfl,hi,f20,hx,ho⟩ m;by_cases g:i<ks.length
   ·obtain⟨t,ht⟩ : ∃t,ks[i]? = some t:=⟨_,cj g⟩;obtain⟨b,cs,e,kd,O,hb,ob,eg,dw,mj,u⟩:=J i t ht;have Q:=(hx.ob b (hA b hb).1 (hA b hb).2).trans ob;obtain⟨k',l',x',o',R,S,T,w⟩:=BA u;have cK:=hx.nx;have U:ks.take (i+1)=ks.take i++ [t]:=by
     obtain⟨_,e⟩:=List.getElem?_eq_some_iff.1 ht;rw[pJ g,e]
    have y:eP (ks.take (i+1))=eP (ks.take i)++fG t:=by rw[U,Mz];simp[eP]
    have r:=ad4 (i:=i+1) (ks:=ks);rw[y,cG] at r;have z:=C t (cy (BE (fD ht)) (by simp only[eX] at D;omega)) (Fu hT.2 (fD ht)) (a.new (.cells [.int .i64 k', .int .i64 l', .string x', .int .i64 o', .slice R S T] 26 .ex)) A _ _ _ (u.mv λb hb=>⟨hb,by rw[bL (by have:=(hA b hb).1;omega)];exact hx.ob b (hA b hb).1 (hA b hb).2⟩) (λb hb=>⟨by have:=(hA b hb).1;show b<a.nx+1;omega,(hA b hb).2⟩) (by rw[bL Om,hx.ob bc E L];exact hc) (by rw[bL Om,hx.ob bm G M];exact j) (by rw[bL Om];exact ho) (by show bc<a.nx+1;omega) (by show bm<a.nx+1;omega) (by show l<a.nx+1;omega) Om;rw[w] at z;refine rn (uF @m @f20 @O @Q @w @ba @oQ) ?_;refine z.mono λv K2 ⟨V,W⟩=> ?_;refine rn (an @m @f20) ?_;exact⟨ks.length-(i+1),Om,i+1,rfl,g,rfl,(hx.new _).trans V,by rw[W,y,ad2,cG,oa]⟩
   have g:i=ks.length:=by omega
   subst g;rw[ng] at ho;refine rn (an @m @f20) ?_;exact⟨hx,ho⟩
 refine dq Rl Kr (aK ?_);refine aM ?_;rw[fG,iN s,iN h5];exact⟨(dr.refl K).new _,d⟩
theorem WM : ∀ {a b:List Nd},iM (a++b)=iM a++iM b
 | [],b=>rfl
 | n::a,b=>by simp only[gZ,iM,WM,oY]
theorem an6{i:Nat}{ks:List Nd}:(iM (ks.take i)).length<=(iM ks).length:=by
 conv=>rhs;rw[<-yv i ks,WM,cG]
 exact N8 _ _
theorem an7{f:ByteArray->Option Int}:zn f []=f:=by
 funext s
 unfold zn;rw[iN];simp
theorem oU.ext{K K':CH}{l k:Nat}{f:ByteArray->Option Int}(h:oU K l f k)(e:K'.ob l=K.ob l):oU K' l f k:=by unfold oU;rw[e];exact h
theorem an8{K:CH}{q:Option cB}:Ft K q []:=λi h=>absurd h (fW _)
def WiJ (K:CH)(ks:List Nd)(f:ByteArray->Option Int)(c k n:Nat)(v:ae)(a:CH):Prop:=∃i:Nat,n=ks.length-i/\i<=ks.length/\v= .int .i64 (i:Nat)/\ag K a/\K.nx+3<=a.nx/\a.ob K.nx= .cells [.int .i64 (c:Nat)] 3 .ex/\a.ob (K.nx+2)= .cells [.map (some (K.nx+1))] 56 .ex/\a.ob (K.nx+1)= .fm (ud f c (iM (ks.take i))) (k+(iM (ks.take i)).length)
theorem an9{K:CH}{A:Nat->Prop}{ks:List Nd}{q:Option cB}{l k c:Nat}{f:ByteArray->Option Int}(N:fk K A (.row 5 (cT ks)) (.slice q ks.length ks.length))(hA : ∀b,A b->b<K.nx)(hT:BD ks)(O:oU K l f k)(hl:l<K.nx)(Q:c<=4611686018427387904)(hk:k+(iM ks).length<=4611686018427387904) :
 aQ gH 29 [.map (some l), .slice q ks.length ks.length, .int .i64 (c:Nat)] K λv K'=>∃l',v= .map (some l')/\ag K K'/\K.nx<=l'/\l'<K'.nx/\K'.ob l'= .fm (ud f c (iM ks)) (k+(iM ks).length):=by
 obtain⟨q',e,R,lV,S⟩:=lr N;cases e;rw[gE] at R;refine dq Rl Kr (aK ?_);refine aM ?_;refine(ad1 (xs:= []) (O.ext (bL Om)) rfl an8).mono λv K0 ⟨T,x⟩=> ?_;subst T x;rw[an7];refine aM ?_;refine ef (λn fr a=>WiJ K ks f c k n (fr 14) a) (n:=ks.length) ⟨0,rfl,bR _,by(refine aM ?_;all_goals rfl),by(repeat (first | assumption | exact ag.refl _ | (refine ag.set ?_ Fo _) | (refine ag.new ?_ _))),ai _,by exact aV,by exact aV,by refine aM ?_;rfl⟩ ?_;rintro n fr a ⟨i,rfl,hi,f14,hx,U,y,s,u⟩ m;by_cases j:i<ks.length
 ·obtain⟨t,ht⟩ : ∃t,ks[i]? = some t:=⟨_,cj j⟩;obtain⟨b,cs,e,kd,C,hb,ob,eg,dw,mj,D⟩:=S i t ht;have V:=hA b hb;have E:=(hx.ob b V).trans ob;obtain⟨tk,tl,G,H,d⟩:=t;obtain⟨W,z,_⟩:=iq D;have Y:ks.take (i+1)=ks.take i++ [.mk tk tl G H d]:=by
   obtain⟨_,e⟩:=List.getElem?_eq_some_iff.1 ht;rw[pJ j,e]
  have o:iM (ks.take (i+1))=iM (ks.take i)++(if tk=58 then fG (cV d) else []):=by
   rw[Y,WM];show _++((if tk=58 then fG (cV d) else [])++ [])=_;rw[gY]
  have r:=an6 (i:=i+1) (ks:=ks);rw[o,cG] at r;have B:=Fu hT (fD ht);by_cases I:tk=58
  ·subst I;rw[iP rfl] at o r;have J:=Mx (K:=a.new (.cells [.int .i64 ((58:Nat):Int), .int .i64 tl, .string (tx G), .int .i64 (H:Nat), .slice W d.length d.length] 26 .ex)) (A:=A) (D.mv λb hb=>⟨hb,by rw[bL (by have:=(hA b hb);have:=hx.nx;omega)];exact hx.ob b (hA b hb)⟩) (λb hb=>by have:=hA b hb;have:=hx.nx;show b<a.nx+1;omega);rw[z] at J;refine rn (uF @m @f14 @C @E @z @ba @oQ) ?_;refine J.mono λv L ⟨l9,x,M,iL⟩=> ?_;subst x;refine rn @m ?_;have g:ag a L:=((ag.refl a).new _).trans M;have j0:=g.nx;have EC:=an5 (bc:=K.nx) (bm:=K.nx+2) (l:=K.nx+1) Q (eX (cV d)) (cV d) (ai _) (ad3 B.2) L A l9 _ _ (iL.mv λb hb=>⟨hb,M.ob b (by have:=hA b hb;have:=hx.nx;show b<a.nx+1;omega)⟩) (λb hb=>by have:=hA b hb;have:=hx.nx;omega) ((g.ob _ Om).trans y) ((g.ob _ Om).trans s) ((g.ob _ Om).trans u) Om Om Om Om;refine EC.mono λv K3 ⟨w,o4⟩=> ?_;have Br:=w.nx;refine rn (an @m @f14) ?_;exact⟨ks.length-(i+1),Om,i+1,rfl,j,rfl,⟨Om,λb hb=>(w.ob b Om Om).trans ((g.ob b Om).trans (hx.ob b hb))⟩,Om,(w.ob _ Om Om).trans ((g.ob _ Om).trans y),(w.ob _ Om Om).trans ((g.ob _ Om).trans s),by rw[o4,o,ad2,cG,oa]⟩
  rw[iN I,gY] at o;have e58:((tk:Nat):Int)≠58:=by omega
  refine rn (uF @m @f14 @C @E @z @ba @oQ) ?_;exact⟨ks.length-(i+1),Om,i+1,rfl,j,rfl,hx.new _,xc U,(bL Om).trans y,(bL Om).trans s,by rw[o];exact(bL Om).trans u⟩
 have j:i=ks.length:=by omega
 subst j;rw[ng] at u;refine rn (gS @m @f14 @s) ?_;exact⟨_,rfl,hx,Om,Om,u⟩
structure N5 where
 k:Int
 l:Int
 x:ByteArray
 o:Int
 a:Option cB
 n:Nat
 c:Nat
def eB (c:N5):List ae:= [.int .i64 c.k, .int .i64 c.l, .string c.x, .int .i64 c.o, .slice c.a c.n c.c]
theorem an' : ∀x:N5,(eB x).length=5/\(eB x).all a8=true:=λx=>⟨rfl,rfl⟩
theorem qN{K:CH}{A:Nat->Prop}{t:Nd}{os:List ae}(h:bK K A (cF t) os) : ∃c,os=eB c:=by
 obtain⟨k,l,x,o,a,b,d,rfl⟩:=BA h;exact⟨⟨k,l,x,o,a,b,d⟩,rfl⟩
theorem Di{α:Type}{A K:CH}{e sz bytes:Nat}{f:α->List ae}(d : ∀x,(f x).length=sz/\(f x).all a8=true){v:ae}{xs:List α}{y:α}(hg:eV A e sz f K v xs)(hb:(xs.length+1)*bytes<=140737488355328)(i:xs.length+1<=9223372036854775807){us:List ae}(hu:us=f y)
 {Q:ae->CH->Prop} (k : ∀K',K'.ob K.nx= .cells ((xs++ [y]).flatMap f) e .gr->K'.nx=K.nx+1->(∀l,l<K.nx->(∀o n c,v≠ .slice (some ⟨l,o,none⟩) n c)->K'.ob l=K.ob l)->Q (.slice (some ⟨K.nx,0,none⟩) (xs.length+1) (xs.length+1)) K'):uV (lY e sz bytes v us 1 K) Q:=by
 subst hu;have g:=(d y).2;rcases hg with ⟨rfl,rfl⟩ | ⟨b,kd,rfl,h1,h2,h3,j⟩
 ·simp only[lY,Nat.one_ne_zero,iF];rw[iP ⟨g,by simpa using hb,by rw[gE];omega⟩];exact k _ (by simp[bS]) rfl λl hl _=>by rw[bS,iN Om]
 have a:(xs.flatMap f).length=xs.length*sz:=Pm (λx=>(d x).1) xs;have m : ∀o,(iY (kd.jv&&decide (xs.length<xs.length+1)) K b o).nx=K.nx+1:=λo=>by unfold iY;split<;>rfl
 have q : ∀o,(iY (kd.jv&&decide (xs.length<xs.length+1)) K b o).ob K.nx=o:=λo=>by
  unfold iY;split<;>(simp only[CH.new,CH.set];simp)
 have r : ∀o l,l<K.nx->l≠b->(iY (kd.jv&&decide (xs.length<xs.length+1)) K b o).ob l=K.ob l:=λo l hl hb=>by
  unfold iY;split;·rw[bS,iN Om]
  rw[bS,iN (by show l≠K.nx;omega),br,iN hb]
 simp only[lY,h3,Nat.one_ne_zero,iF];rw[iP ⟨trivial,trivial,j,by rw[a];exact ai _,g,hb,by rw[gE];exact i⟩];refine k _ ?_ (m _) λl hl aB=>r _ l hl ?_;·rw[q,<-a,ng,zZ];simp
 rintro rfl;exact aB _ _ _ rfl
abbrev ir(v:ae)(b:Nat):Prop:=∀o n c,v≠ .slice (some ⟨b,o,none⟩) n c
def L1 (N:Nat):Prop:=∀(n:Nd) (ρ:Bs->Nat) (c:Nat),fc n<N->c<=(dS cP ρ c n).2/\(dS cP ρ c n).2<=c+cu n
def L2 (N:Nat):Prop:=∀(ks:List Nd) (ρ:Bs->Nat) (c:Nat),fc ks<N->c<=(jo cP ρ c ks).2/\(jo cP ρ c ks).2<=c+aZ ks
def L3 (N:Nat):Prop:=∀(ks:List Nd) (ρ ρ0:Bs->Nat) (f:Bool) (c:Nat),fc ks<N->c<=(fH cP ρ ρ0 f c ks).2/\(fH cP ρ ρ0 f c ks).2<=c+aZ ks
theorem ad5(it:Nat->Bs)(ρ ρ0:Bs->Nat)(f:Bool)(c:Nat)(n:Nd)(ns:List Nd):(∃k l x o p e,n= .mk k l x o [p,e]/\k=58/\f=true/\fH it ρ ρ0 f c (n::ns)=(.mk k l x o [(dS it ρ c p).1,(dS it ρ0 (dS it ρ c p).2 e).1]::(fH it ρ ρ0 false (dS it ρ0 (dS it ρ c p).2 e).2 ns).1,(fH it ρ ρ0 false (dS it ρ0 (dS it ρ c p).2 e).2 ns).2))\/(¬(n.kind=58/\f=true/\n.kids.length=2)/\fH it ρ ρ0 f c (n::ns)=((dS it ρ c n).1::(fH it ρ ρ0 f (dS it ρ c n).2 ns).1,(fH it ρ ρ0 f (dS it ρ c n).2 ns).2)):=by
 by_cases h2 : ∃a b,n.kids= [a,b]
 ·obtain⟨k,l,x,o,ks⟩:=n;obtain⟨a,b,rfl⟩:=h2;by_cases hk:k=58/\f=true
  ·refine .inl ⟨k,l,x,o,a,b,rfl,hk.1,hk.2,?_⟩;rw[fH,iP hk]
  refine .inr ⟨λh=>hk ⟨h.1,h.2.1⟩,?_⟩;rw[fH,iN hk]
 refine .inr ⟨λh=>h2 ?_,?_⟩
 ·match hn:n.kids,h.2.2 with
  | [a,b],_=>exact⟨a,b,rfl⟩
 rw[fH];exactλk l x o p e h=>h2 ⟨p,e,by rw[h];rfl⟩
theorem aoa(N:Nat):L1 N/\L2 N/\L3 N:=by
 induction N with
 | zero=>exact⟨λ_ _ _ h=>absurd h (fW _),λ_ _ _ h=>absurd h (fW _),λ_ _ _ _ _ h=>absurd h (fW _)⟩
 | succ N b=>
   obtain⟨i1,i2,i3⟩:=b;refine⟨λn ρ c h=> ?_,λks ρ c h=> ?_,λks ρ ρ0 f c h=> ?_⟩
   ·obtain⟨k,l,x,o,ks⟩:=n;have hs:fc ks<N:=by simp at h;omega
    rw[dS,cu];split;·have:=i3 ks (wi ρ (iM ks) (c+1)) ρ true (c+1) hs;exact⟨by show c<=(fH cP _ _ _ _ _).2;omega,by show(fH cP _ _ _ _ _).2<=_;omega⟩
    have:=i2 ks (if k=8\/k=50 then wo ρ (cV ks).kids else ρ) c hs;exact⟨by show c<=(jo cP _ _ _).2;omega,by show(jo cP _ _ _).2<=_;omega⟩
   ·cases ks with
    | nil=>exact⟨ai _,ai _⟩
    | cons n ks=>
      simp at h;have h1:=i1 n ρ c Om;have h2:=i2 ks ρ (dS cP ρ c n).2 Om;rw[jo,aZ];exact⟨by show c<=(jo cP _ _ _).2;omega,by show(jo cP _ _ _).2<=_;omega⟩
   cases ks with
   | nil=>exact⟨by simp[fH],by simp[fH,aZ]⟩
   | cons n ks=>
     rcases ad5 cP ρ ρ0 f c n ks with ⟨k,l,x,o,p,e,rfl,_,_,a⟩ | ⟨_,a⟩
     ·simp at h;have h1:=i1 p ρ c Om;have h2:=i1 e ρ0 (dS cP ρ c p).2 Om;have h3:=i3 ks ρ ρ0 false (dS cP ρ0 (dS cP ρ c p).2 e).2 Om;rw[a];simp only[aZ,cu];exact⟨by show c<=(fH cP _ _ _ _ _).2;omega,by show(fH cP _ _ _ _ _).2<=_;omega⟩
     simp at h;have h1:=i1 n ρ c Om;have h2:=i3 ks ρ ρ0 f (dS cP ρ c n).2 Om;rw[a];simp only[aZ];exact⟨by show c<=(fH cP _ _ _ _ _).2;omega,by show(fH cP _ _ _ _ _).2<=_;omega⟩
theorem MC(n:Nd)(ρ:Bs->Nat)(c:Nat):c<=(dS cP ρ c n).2/\(dS cP ρ c n).2<=c+cu n:=(aoa (fc n+1)).1 n ρ c (fN _)
def kx(K0 a:CH)(v:ae)(ns:List Nd):Prop:=∃acc:List N5,acc.length=ns.length/\(ns= []->v= .slice none 0 0)/\eV K0 26 5 eB a v acc/\bK a (λb=>K0.nx<=b/\b<a.nx/\ir v b) (cT ns).flatten (acc.flatMap eB)
theorem kx.nil{K0 a:CH}:kx K0 a (.slice none 0 0) []:=⟨[],rfl,λ_=>rfl, .inl ⟨rfl,rfl⟩, .nil⟩
theorem kx.QO{K0 a:CH}{v:ae}{ns:List Nd}(h:kx K0 a v ns){b o n c:Nat}(e:v= .slice (some ⟨b,o,none⟩) n c):K0.nx<=b/\b<a.nx:=by
 obtain⟨acc,_,_,d,_⟩:=h;rcases d with ⟨_,g⟩ | ⟨i,j,g,g1,g2,_⟩
 ·rw[g] at e;cases e
 rw[g] at e;cases e;exact⟨g1,g2⟩
theorem kx.mv{K0 a c:CH}{v:ae}{ns:List Nd}(h:kx K0 a v ns)(hn:a.nx<=c.nx)(hx : ∀b,K0.nx<=b->b<a.nx->c.ob b=a.ob b):kx K0 c v ns:=by
 obtain⟨acc,h1,h2,e,i⟩:=h;refine⟨acc,h1,h2,?_,i.mv λb hb=>⟨⟨hb.1,Om,hb.2.2⟩,hx b hb.1 hb.2.1⟩⟩;rcases e with g | ⟨d,j,g,g1,g2,g3,g4⟩
 ·exact .inl g
 exact .inr ⟨d,j,g,g1,Om,(hx d g1 g2).trans g3,g4⟩
theorem kx.ex{K0 a c:CH}{v:ae}{ns:List Nd}(h:kx K0 a v ns){bc:Nat}(hx:dr bc a c)(hb:bc<K0.nx):kx K0 c v ns:=h.mv hx.nx λb h1 h2=>hx.ob b h2 Om
theorem kx.app{K0 a:CH}{v:ae}{ns:List Nd}{n:Nd}{nd:N5}(h:kx K0 a v ns)(g:K0.nx<=a.nx)(hs:bK a (λb=>K0.nx<=b/\b<a.nx/\ir v b) (cF n) (eB nd))(hl:ns.length<=2199023255551){Q:ae->CH->Prop}(k : ∀v' K',a.nx<=K'.nx->(∀l,l<K0.nx->K'.ob l=a.ob l)->kx K0 K' v' (ns++ [n])->Q v' K'):uV (lY 26 5 64 v (eB nd) 1 a) Q:=by
 have i:= @kx.QO _ _ _ _ h;obtain⟨acc,h1,h2,j,m⟩:=h;refine Di (y:=nd) an' j Om Om rfl λK' q t d=>k _ _ Om (λl hl=>d l Om λo n c e=>by have:=(i e).1;omega) ⟨acc++ [nd],by simp[h1],λe=>by simp at e, .inr ⟨a.nx, .gr,Sm,g,Om,q,rfl⟩,?_⟩;rw[H9,List.flatten_append,zZ];refine bK.app (m.mv λb ⟨g1,g2,g3⟩=>⟨⟨g1,Om,λo n c e=>by cases e;omega⟩,d b g2 g3⟩) ?_;have r:(cT [n]).flatten=cF n:=by simp[cT]
 have s : [nd].flatMap eB=eB nd:=by simp
 rw[r,s];exact hs.mv λb ⟨g1,g2,g3⟩=>⟨⟨g1,Om,λo n c e=>by cases e;omega⟩,d b g2 g3⟩
theorem kx.done{K0 c:CH}{v:ae}{ns:List Nd}(h:kx K0 c v ns)(hl:ns.length<=2199023255552) : ∃d,v= .slice d ns.length ns.length/\fk c (λb=>K0.nx<=b/\b<c.nx) (.row 5 (cT ns)) v:=by
 obtain⟨acc,h1,h2,g,i⟩:=h;by_cases hn:ns= []
 ·subst hn;rw[h2 rfl];exact⟨none,rfl, .qI⟩
 rcases g with ⟨e,rfl⟩ | ⟨b,kd,rfl,g1,g2,g3,g4⟩
 ·rw[e] at h1;exact absurd (List.length_eq_zero_iff.1 h1.symm) hn
 refine⟨_,by rw[h1],?_⟩;have e:=fk.row (A:=λb=>K0.nx<=b/\b<c.nx) (sz:=5) (gs:=cT ns) ⟨λe=>hn (List.length_eq_zero_iff.1 (by rw[<-jG (a:=ns),e];rfl)),by rw[jG,gE];omega⟩ ⟨g1,g2⟩ g3 g4 Mp (i.mv λb hb=>⟨⟨hb.1,hb.2.1⟩,rfl⟩) (λ_=>by rfl);rw[jG] at e;rw[h1];exact e
structure WK(K:CH)(bc bw be c:Nat):Prop where
 c:K.ob bc= .cells [.int .i64 (c:Nat)] 3 .ex
 w : ∃e,K.ob bw= .cells [.func (.func 25) #[] #[pN bc,pN bw,pN be]] e .ex
 e : ∃e,K.ob be= .cells [.func (.func 24) #[] #[pN bw]] e .ex
 lt:bc<K.nx/\bw<K.nx/\be<K.nx
 pw:wT K
theorem WK.ex{K K':CH}{bc bw be c c':Nat}(h:WK K bc bw be c)(hx:dr bc K K')(hc:K'.ob bc= .cells [.int .i64 (c':Nat)] 3 .ex):WK K' bc bw be c':=by
 obtain⟨a,h1⟩:=h.w;obtain⟨b,h2⟩:=h.e;obtain⟨d,g,h3⟩:=h.pw;obtain⟨j,i,l3⟩:=h.lt;have hn:=hx.nx;have n1:bw≠bc:=λe=>by rw[e,h.c] at h1;cases h1
 have n2:be≠bc:=λe=>by rw[e,h.c] at h2;cases h2
 have n3:0≠bc:=λe=>by rw[e,h.c] at h3;cases h3
 exact⟨hc,⟨a,(hx.ob _ i n1).trans h1⟩,⟨b,(hx.ob _ l3 n2).trans h2⟩,⟨Om,Om,Om⟩,Om,g,(hx.ob _ d n3).trans h3⟩
theorem WK.hx{K K':CH}{bc bw be c:Nat}(h:WK K bc bw be c)(hx:ag K K'):WK K' bc bw be c:=h.ex hx.ex ((hx.ob _ h.lt.1).trans h.c)
theorem oU.ex{K K':CH}{l k bc:Nat}{f:ByteArray->Option Int}(h:oU K l f k)(hl:l<K.nx)(hx:dr bc K K')(hb : ∃cs e kd,K.ob bc= .cells cs e kd):oU K' l f k:=h.ext (hx.ob l hl λe=>by
 obtain⟨cs,e',kd,hb⟩:=hb;subst e;rcases h with h | ⟨h,_⟩<;>(rw[hb] at h;cases h))
def RnQ (K:CH)(bc:Nat)(r:Nd×Nat)(v:ae)(K':CH):Prop:=dr bc K K'/\K'.ob bc= .cells [.int .i64 (r.2:Nat)] 3 .ex/\∃os,v= .agg os.toArray/\bK K' (λb=>K.nx<=b/\b<K'.nx) (cF r.1) os
def MD(S B bc bw be N:Nat):Prop:=∀(t:Nd),eX t<=N->cu t<=S->jI B t->zo t->∀(K:CH) (A:Nat->Prop) (os:List ae) (ρ:Bs->Nat) (f:ByteArray->Option Int) (k l c:Nat),bK K A (cF t) os->(∀b,A b->b<K.nx/\b≠bc)->WK K bc bw be c->oU K l f k->l<K.nx->RF ρ f->(∀y,ρ y<=c)->c+cu t<=2305843009213693952->k+N*S<=2305843009213693952->aQ gH 25 [.agg os.toArray, .map (some l),pN bc,pN bw,pN be] K (RnQ K bc (dS cP ρ c t))
def EaQ (K:CH)(bc:Nat)(r:List Nd×Nat)(v:ae)(K':CH):Prop:=dr bc K K'/\K'.ob bc= .cells [.int .i64 (r.2:Nat)] 3 .ex/\fk K' (λb=>K.nx<=b/\b<K'.nx) (.row 5 (cT r.1)) v
def EaJ (K0:CH)(bc bw be:Nat)(ρ:Bs->Nat)(d:Nat)(ks:List Nd)(n:Nat)(e a:ae)(b:CH):Prop:=∃(i c:Nat) (ns:List Nd),n=ks.length-i/\i<=ks.length/\a= .int .i64 (i:Nat)/\dr bc K0 b/\WK b bc bw be c/\d<=c/\c+aZ (ks.drop i)<=2305843009213693952/\ns.length=i/\kx K0 b e ns/\jo cP ρ d ks=(ns++(jo cP ρ c (ks.drop i)).1,(jo cP ρ c (ks.drop i)).2)
theorem aob{S B bc bw be N:Nat}(Y:MD S B bc bw be N)(hB:B+16<=4398046511104){ks:List Nd}(hh:gk ks<=N)(hz:aZ ks<=S)(jY:2*ks.length<=B+16)(iA:lM B ks)(hT:BD ks){K:CH}{A:Nat->Prop}{q:Option cB}{ρ:Bs->Nat}{f:ByteArray->Option Int}{k l c:Nat}(dJ:fk K A (.row 5 (cT ks)) (.slice q ks.length ks.length))(hA : ∀b,A b->b<K.nx/\b≠bc)(hw:WK K bc bw be c)(hf:oU K l f k)(hl:l<K.nx)(hr:RF ρ f)(hρ : ∀y,ρ y<=c)(hc:c+aZ ks<=2305843009213693952)(hk:k+N*S<=2305843009213693952) :
 aQ gH 24 [.slice q ks.length ks.length, .map (some l),pN bw] K (EaQ K bc (jo cP ρ c ks)):=by
 obtain⟨q',e,cW,lV,fq⟩:=lr dJ;cases e;rw[gE] at cW;refine dq Rl Kr (aK ?_);refine aM ?_;refine ef (λn fr a=>EaJ K bc bw be ρ c ks n (fr 6) (fr 11) a) (n:=ks.length) ⟨0,c,[],rfl,bR _,by(refine aM ?_;all_goals rfl),dr.refl K,hw,ai _,hc,rfl,by(refine aM ?_;exact kx.nil),rfl⟩ ?_;rintro n fr a ⟨i,g,ns,rfl,hi,f11,hx,r,D,iz,ME,s,u⟩ x;have cK:=hx.nx;obtain⟨E,lw,le⟩:=hw.lt;by_cases j:i<ks.length
 ·obtain⟨t,ht⟩ : ∃t,ks[i]? = some t:=⟨_,cj j⟩;obtain⟨b,cs,e,kd,fM,hb,ob,eg,dw,mj,G⟩:=fq i t ht;have s7:=(hx.ob b (hA b hb).1 (hA b hb).2).trans ob;obtain⟨k',l',x',o',H,I,J,L⟩:=BA G;have z:=fD ht;have M:ks.drop i=t::ks.drop (i+1):=by
   obtain⟨_,e⟩:=List.getElem?_eq_some_iff.1 ht;rw[mz j,e]
  obtain⟨ew,CJ⟩:=r.w;have eN:cu t+aZ (ks.drop (i+1))=aZ (ks.drop i):=by rw[M];rfl
  have QP:cu t<=aZ ks:=by
   have e:aZ ks=aZ (ks.take i)+aZ (ks.drop i):=by rw[<-C8,yv]
   omega
  have m:ag a (a.new (.cells [.int .i64 k', .int .i64 l', .string x', .int .i64 o', .slice H I J] 26 .ex)):=(ag.refl a).new _;have O:=Y t (cy (BE z) hh) Om (Iy iA z) (Fu hT z) (a.new (.cells [.int .i64 k', .int .i64 l', .string x', .int .i64 o', .slice H I J] 26 .ex)) A _ ρ f k l g (G.mv λb hb=>⟨hb,(m.ob _ (by have:=(hA b hb).1;omega)).trans (hx.ob b (hA b hb).1 (hA b hb).2)⟩) (λb hb=>⟨by have:=(hA b hb).1;show b<a.nx+1;omega,(hA b hb).2⟩) (r.hx m) ((hf.ex hl hx ⟨_,_,_,hw.c⟩).ext (m.ob _ Om)) (by show l<a.nx+1;omega) hr (λy=>cy (hρ y) D) Om hk;rw[L] at O;refine rn (qz @x @f11 @fM @s7 @L @CJ @ba @oQ) ?_;refine O.mono λv d ⟨Q,o2,l9,e2,R⟩=> ?_;subst e2;obtain⟨nd,rfl⟩:=qN R;repeat' (first | (simp (disch:=first | omega | (decide +kernel)) only[↓RD,RU,↓aH,↓aL,bS,cq,db,isVal,ci,ρ0,ρ1,ρ4,↓reduceIte,Nat.reduceEqDiff,Nat.reduceAdd,reduceCtorEq,ρ7,ρ8,kQ,ρ15,ρ16,ρ18,ρ19,ρ20,ρ25,ρ26,dv,Nat.reduceLeDiff,kO,eB,xf,jU]) | ((with_reducible first|apply aE|apply aF|apply aG)<;>intro _))
  have j0:a.nx+1<=d.nx:=Q.nx;have fF:dr bc a d:=m.ex.trans Q;have C:ag d (d.new (.cells (eB nd) 26 .ex)):=(ag.refl d).new _;have T:dr bc a (d.new (.cells (eB nd) 26 .ex)):=fF.trans C.ex;refine kx.app (n:=(dS cP ρ g t).1) (s.ex T E) (by show K.nx<=d.nx+1;omega) (R.mv λb hb=>⟨⟨by have:=hb.1;have:a.nx+1<=b:=this;omega,qu hb.2,λo n c e=>by have:=(s.QO e).2;have:a.nx+1<=b:=hb.1;omega⟩,C.ob b hb.2⟩) Om λv' K3 k1 U k3=> ?_;refine rn (an @x @f11) ?_;have V:dr bc K K3:=⟨cy (by show K.nx<=d.nx+1;omega) k1,λb hb W=>(U b hb).trans ((T.ob b Om W).trans (hx.ob b hb W))⟩;refine⟨ks.length-(i+1),Om,i+1,(dS cP ρ g t).2,ns++ [(dS cP ρ g t).1],rfl,j,rfl,V,hw.ex V ((U bc E).trans ((C.ob bc Om).trans o2)),?_,?_,by simp[ME],k3,?_⟩;·exact cy D (MC _ _ _).1
  ·have:=(MC t ρ g).2;omega
  rw[u,M,jo];simp
 have j:i=ks.length:=by omega
 subst j;rw[yu] at u;refine rn (an @x @f11) ?_;obtain⟨va,ev,hv⟩:=s.done Om;have e1:jo cP ρ c ks=(ns,g):=by rw[u];simp[jo]
 rw[e1];exact⟨hx,r.c,hv⟩
noncomputable def WN:bQ:=match (rF Tryz.prog 25).body with
 | .seq _ (.seq (.seq _ (.block _ (.seq _ (.cond _ _ (.seq _ (.cond _ _ (.seq _ (.cond _ (.seq _ (.seq _ (.seq _ (.seq _ (.seq _ (.seq (.seq _ (.block _ L)) _)))))) _)))))))) _)=>L
 | _=> .skip
def CoJ (K0:CH)(bc bw be:Nat)(σ ρ:Bs->Nat)(g:Nat)(ks:List Nd)(n:Nat)(a b d:ae)(e:CH):Prop:=∃(i c:Nat) (first:Bool) (ns:List Nd),n=ks.length-i/\i<=ks.length/\a= .bool first/\d= .int .i64 (i:Nat)/\dr bc K0 e/\WK e bc bw be c/\g<=c/\c+aZ (ks.drop i)<=2305843009213693952/\ns.length=i/\kx K0 e b ns/\fH cP σ ρ true g ks=(ns++(fH cP σ ρ first c (ks.drop i)).1,(fH cP σ ρ first c (ks.drop i)).2)
theorem iu{K:CH}{o:dD}:(K.new o).ob K.nx=o:=by rw[bS,iP rfl]
theorem zn1:DY 5 (jU [.int .i64 0, .int .i64 0, .string ⟨⟨[]⟩⟩, .int .i64 0, .slice none 0 0] 5)= []:=rfl
theorem zn2:DY 5 (DY 5 (jU [.int .i64 0, .int .i64 0, .string ⟨⟨[]⟩⟩, .int .i64 0, .slice none 0 0] (2*5)))= []:=rfl
theorem aoc{K d i g j:CH}{bc:Nat}{v:ae}{ns:List Nd}{n4 l:N5}{a b:Nd}{k2 o2:Nat}{l2:Int}{x2:Bs}{s t o1 Iz:dD}(u:kx K d v ns)(m:bc<K.nx)(E:K.nx<=d.nx)(w:dr bc (d.new s) i)(x:dr bc (i.new t) g)(z:bK i (λb=>(d.new s).nx<=b/\b<i.nx) (cF a) (eB n4))(A:bK g (λb=>(i.new t).nx<=b/\b<g.nx) (cF b) (eB l))
 (e:j=((g.new (.cells (eB n4++eB l) 26 .ex)).set d.nx o1).new Iz):kx K j v ns/\bK j (λb=>K.nx<=b/\b<j.nx/\ir v b) (cF (.mk k2 l2 x2 o2 [a,b])) (eB ⟨(k2:Nat),l2,tx x2,(o2:Nat),some ⟨g.nx,0,none⟩,2,2⟩)/\dr bc d j/\j.nx=g.nx+2/\j.ob bc=g.ob bc:=by
 have F:d.nx+1<=i.nx:=w.nx;have B:i.nx+1<=g.nx:=x.nx;have k : ∀b,b<g.nx->b≠d.nx->j.ob b=g.ob b:=λb h1 h2=>by
  rw[e,bL (by show b≠g.nx+1;omega),cO h2,bL Om]
 have y : ∀b,b<i.nx->b≠bc->g.ob b=i.ob b:=λb h1 h2=>(x.ob b (by show b<i.nx+1;omega) h2).trans (bL Om);have C : ∀b,b<d.nx->b≠bc->i.ob b=d.ob b:=λb h1 h2=>(w.ob b (by show b<d.nx+1;omega) h2).trans (bL Om);have q:j.nx=g.nx+2:=by rw[e];rfl
 have r:j.ob g.nx= .cells (eB n4++eB l) 26 .ex:=by
  rw[e,bL (by show g.nx≠g.nx+1;omega),cO Om,iu]
 have D:= @kx.QO _ _ _ _ u;have off : ∀b,d.nx<=b->ir v b:=λb hb o n c e=>by have:=(D e).2;omega
 have hx:dr bc d j:=⟨Om,λb h1 h2=>(k b Om Om).trans ((y b Om h2).trans (C b h1 h2))⟩;refine⟨u.ex hx m, .cons (.sc rfl) (.cons (.sc rfl) (.cons (.sc rfl) (.cons (.sc rfl) (.cons (fk.row (sz:=5) (gs:=cT [a,b]) ⟨λh=>(by simp[cT] at h),by rw[jG,gE];show 2<=_;omega⟩ ⟨Om,Om,off _ Om⟩ r rfl Mp ?_ (λ_=>by rfl)) .nil)))),hx,q,k bc Om Om⟩;rw[show(cT [a,b]).flatten=cF a++cF b by simp[cT]];exact bK.app (z.mv λb ⟨h1,h2⟩=>⟨⟨by have:d.nx+1<=b:=h1;omega,Om,off b (by have:d.nx+1<=b:=h1;omega)⟩,(k b Om (by have:d.nx+1<=b:=h1;omega)).trans (y b h2 (by have:d.nx+1<=b:=h1;omega))⟩) (A.mv λb ⟨h1,h2⟩=>⟨⟨by have:i.nx+1<=b:=h1;omega,Om,off b (by have:i.nx+1<=b:=h1;omega)⟩,k b h2 (by have:i.nx+1<=b:=h1;omega)⟩)
theorem aod{S B bc bw be N:Nat}(hB:B+16<=4398046511104)(ih:MD S B bc bw be N){ks:List Nd}(hh:gk ks<=N)(hz:aZ ks<=S)(jY:2*ks.length<=B+16)(iA:lM B ks)(hT:BD ks){K:CH}{A:Nat->Prop}{q:Option cB}{ρ σ:Bs->Nat}{f f1:ByteArray->Option Int}{k r l C c:Nat}(dJ:fk K A (.row 5 (cT ks)) (.slice q ks.length ks.length))(hA : ∀b,A b->b<K.nx/\b≠bc)(hw:WK K bc bw be c)
 (hf:oU K l f k) (hl:l<K.nx) (hr:RF ρ f) (hρ : ∀y,ρ y<=c) (pj:oU K C f1 r) (eF:C<K.nx) (yH:RF σ f1) (hσ : ∀y,σ y<=c) (hc:c+aZ ks<=2305843009213693952) (hk:k+N*S<=2305843009213693952) (I:r+N*S<=2305843009213693952) {fr:Fr} (KH:fr 1= .map (some C)) (f3:fr 3=pN bw) (f9:fr 9= .map (some l)) (f53:fr 53= .slice q ks.length ks.length) (f54:fr 54= .int .i64 (ks.length:Nat)) (f10:fr 10= .bool true) (f11:fr 11= .slice none 0 0) (f55:fr 55= .int .i64 0) {Q:bp->Fr->CH->Prop}
 (hQ : ∀fr' a ns c',fr' 5=fr 5->fr' 7=fr 7->dr bc K a->WK a bc bw be c'->kx K a (fr' 11) ns->fH cP σ ρ true c ks=(ns,c')->ns.length=ks.length->Q (.exit 1) fr' a):dh gH WN fr K Q:=by
 obtain⟨q',e,cW,lV,fq⟩:=lr dJ;cases e;rw[gE] at cW;obtain⟨lc,lw,le⟩:=hw.lt;have e:WN=_:=rfl;conv at e=>rhs;reduce
 rw[e];clear e;refine ef (λn fr a=>CoJ K bc bw be σ ρ c ks n (fr 10) (fr 11) (fr 55) a) (n:=ks.length) ⟨0,c,true,[],rfl,bR _,f10,f55,dr.refl K,hw,ai _,hc,rfl,by rw[f11];exact kx.nil,rfl⟩ ?_;rintro n fr a ⟨i,j,first,ns,rfl,hi,f10,f55,hx,G,yX,iz,ME,nF,J⟩ m;have cK:=hx.nx;have L : ∀b,A b->a.ob b=K.ob b:=λb hb=>hx.ob b (hA b hb).1 (hA b hb).2;by_cases H:i<ks.length
 ·obtain⟨t,ht⟩ : ∃t,ks[i]? = some t:=⟨_,cj H⟩;obtain⟨b,cs,e,kd,fM,hb,ob,eg,dw,mj,aW⟩:=fq i t ht;have s7:=(L b hb).trans ob;have M:=fD ht;have jH:ks.drop i=t::ks.drop (i+1):=by
   obtain⟨_,e⟩:=List.getElem?_eq_some_iff.1 ht;rw[mz H,e]
  obtain⟨ew,CJ⟩:=G.w;rw[jH] at J;have QP:cu t+aZ (ks.drop (i+1))=aZ (ks.drop i):=by rw[jH];rfl
  have arM:aZ ks=aZ (ks.take i)+aZ (ks.drop i):=by rw[<-C8,yv]
  have QD:=BE M;rcases ad5 cP σ ρ first j t (ks.drop (i+1)) with ⟨D,s,u,x,p,E,rfl,rfl,rfl,er⟩ | ⟨mh,er⟩
  ·obtain⟨tq,dt,O⟩:=iq aW;obtain⟨tq',e',_,_,QS⟩:=lr O;cases e';obtain⟨R,sT,e2,mU,rfl,WO,IB,_,MG,_,kN⟩:=QS 0 p rfl;obtain⟨b3,cs3,e3,kd3,e4,_,T,_,_,_,eC⟩:=QS 1 E rfl;cases e4;rw[IB] at T;cases T;obtain⟨np,U⟩:=qN kN;obtain⟨ne,aB⟩:=qN eC;have V:sT.length=10:=MG;have W:=(L R WO).trans IB;have hb2n:=(hA R WO).1;have g:ag a (a.new (.cells [.int .i64 ((58:Nat):Int), .int .i64 s, .string (tx u), .int .i64 (x:Nat), .slice (some ⟨R,0,none⟩) 2 2] 26 .ex)):=(ag.refl a).new _;have arN:cu (.mk 58 s u x [p,E])=cu p+(cu E+0)+1:=rfl;simp only[eX,gk] at QD;have Y:=(Iy iA M).2;have QT:=(Fu hT M).2;have ad9:=ih p Om Om Y.1 QT.1 _ A _ σ f1 r C j (kN.mv λb hb=>⟨hb,(g.ob b (by have:=(hA b hb).1;omega)).trans (L b hb)⟩) (λb hb=>⟨by have:=(hA b hb).1;have:=g.nx;omega,(hA b hb).2⟩) (G.hx g) ((pj.ex eF hx ⟨_,_,_,hw.c⟩).ext (g.ob C Om)) (by have:=g.nx;omega) yH (λy=>cy (hσ y) yX) Om I;rw[U] at ad9;repeat' (first | (simp (disch:=first | omega | (decide +kernel)) only[↓RD,RU,↓aH,↓dA,↓aL,↓bf,bS,pop,aD,cq,bq,db,isVal,a8,ci,ρ0,ρ1,↓reduceIte,Nat.reduceEqDiff,Nat.reduceAdd,Int.reduceOfNat,ρ5,ρ6,ρ7,ρ8,ρ17,ρ19,ρ20,ρ21,ρ22,ρ23,Kd.bY,ρ25,ρ26,Nat.reduceLeDiff,Int.reduceToNat,ρ28,ρ29,m,KH,f3,f53,f54,f10,f55,fM,s7,dt,CJ,oQ,W,U,V,eB]) | ((with_reducible first|apply aE|apply aF|apply aG)<;>intro _))
   refine ad9.mono λv d ⟨z,BF,Me,ev,vB⟩=> ?_;subst ev;obtain⟨n4,rfl⟩:=qN vB;have Br:a.nx+1<=d.nx:=z.nx;have hw4:WK d bc bw be _:=(G.hx g).ex z BF;have MH:dr bc a d:=g.ex.trans z;have oB4:=(z.ob a.nx (fN _) Om).trans iu;have h4:ag d (d.new (.cells (eB n4) 26 .ex)):=(ag.refl d).new _;have WP:=MC p σ j;obtain⟨ew4,Dk⟩:=hw4.w;have ad':=ih E Om Om Y.2.1 QT.2.1 _ A _ ρ f k l _ (eC.mv λb hb=>⟨hb,(h4.ob b (by have:=(hA b hb).1;omega)).trans ((MH.ob b (by have:=(hA b hb).1;omega) (hA b hb).2).trans (L b hb))⟩) (λb hb=>⟨by have:=(hA b hb).1;have:=h4.nx;omega,(hA b hb).2⟩) (hw4.hx h4) (((hf.ex hl hx ⟨_,_,_,hw.c⟩).ex Om MH ⟨_,_,_,G.c⟩).ext (h4.ob l Om)) (by have:=h4.nx;omega) hr (λy=>by have:=hρ y;omega) Om hk;rw[aB] at ad';have aoe:=(MH.ob R Om (hA R WO).2).trans W;repeat' (first | (simp (disch:=first | omega | (decide +kernel)) only[↓RD,RU,nK,bT,↓aH,↓dA,↓aL,↓bf,bS,pop,aD,cq,bq,db,isVal,a8,ci,ρ0,ρ1,↓reduceIte,Nat.reduceEqDiff,Nat.reduceAdd,ρ5,ρ6,ρ7,ρ8,ρ17,ρ19,ρ20,ρ21,ρ22,ρ23,Kd.bY,ρ25,ρ26,Int.reduceToNat,m,f3,f9,Dk,oB4,aoe,aB,V,eB,oQ]) | ((with_reducible first|apply aE|apply aF|apply aG)<;>intro _))
   refine ad'.mono λv K5 ⟨mn,zr,WQ,ev,zq⟩=> ?_;subst ev;obtain⟨n5,rfl⟩:=qN zq;have rU:d.nx+1<=K5.nx:=mn.nx;have oB5:=(mn.ob a.nx (by show a.nx<d.nx+1;omega) Om).trans ((h4.ob _ Om).trans oB4);have IC:=(mn.ob d.nx (fN _) Om).trans iu;repeat' (first | (simp (disch:=first | omega | (decide +kernel)) only[↓RD,RU,qG,nK,bT,↓aH,↓dA,↓aL,jK,kf,bS,br,pop,aD,cq,bq,db,isVal,a8,ci,ρ0,ρ1,ρ4,↓reduceIte,Nat.reduceEqDiff,Nat.reduceAdd,reduceCtorEq,ρ5,ρ6,ρ7,ρ8,kQ,ρ15,ρ17,ρ18,ρ19,ρ20,ρ21,ρ22,ρ23,Kd.bY,ρ25,ρ26,dv,Nat.reduceLeDiff,kO,oB5,IC,eB,xf,zn1,zn2]) | ((with_reducible first|apply aE|apply aF|apply aG)<;>intro _))
   obtain⟨g1,g2,g3,g4,g5⟩:=aoc (k2:=58) (l2:=s) (x2:=u) (o2:=x) (K:=K) (o1:= .cells [.int .i64 ((58:Nat):Int), .int .i64 s, .string (tx u), .int .i64 (x:Nat), .slice (some ⟨K5.nx,0,none⟩) 2 2] 26 .ex) (Iz:= .cells [.int .i64 ((58:Nat):Int), .int .i64 s, .string (tx u), .int .i64 (x:Nat), .slice (some ⟨K5.nx,0,none⟩) 2 2] 26 .ex) nF lc cK z mn vB zq rfl;have arO:=MC E ρ (dS cP σ j p).2;refine kx.app (nd:=⟨((58:Nat):Int),s,tx u,(x:Nat),some ⟨K5.nx,0,none⟩,2,2⟩) g1 (cy cK g3.nx) g2 Om λv' K6 r D k3=> ?_;refine rn (an @m @f55) ?_;have iD:dr bc K K6:=⟨cy cK (cy g3.nx r),λb hb zp=>(D b hb).trans ((g3.ob b Om zp).trans (hx.ob b hb zp))⟩;refine⟨ks.length-(i+1),Om,i+1,(dS cP ρ (dS cP σ j p).2 E).2,false,ns++ [.mk 58 s u x [(dS cP σ j p).1,(dS cP ρ (dS cP σ j p).2 E).1]],rfl,H,rfl,rfl,iD,hw.ex iD ((D bc lc).trans (g5.trans zr)),Om,Om,by simp[ME],k3,?_⟩;rw[J,er];simp
  obtain⟨tk,tl,MA,to,vA⟩:=t;obtain⟨tq,dt,O⟩:=iq aW;have g:ag a (a.new (.cells [.int .i64 (tk:Nat), .int .i64 tl, .string (tx MA), .int .i64 (to:Nat), .slice tq vA.length vA.length] 26 .ex)):=(ag.refl a).new _;have iZ:=ih (.mk tk tl MA to vA) Om Om (Iy iA M) (Fu hT M) _ A _ σ f1 r C j (aW.mv λb hb=>⟨hb,(g.ob b (by have:=(hA b hb).1;omega)).trans (L b hb)⟩) (λb hb=>⟨by have:=(hA b hb).1;have:=g.nx;omega,(hA b hb).2⟩) (G.hx g) ((pj.ex eF hx ⟨_,_,_,hw.c⟩).ext (g.ob C Om)) (by have:=g.nx;omega) yH (λy=>cy (hσ y) yX) Om I;rw[dt] at iZ;have mh : ¬(tk=58/\first=true/\vA.length=2):=mh;have kN:tk≠58\/(tk=58/\(first=false\/(first=true/\vA.length≠2))):=by
   cases first<;>simp at mh⊢<;>omega
  rcases kN with MB | ⟨rfl,rfl | ⟨rfl,h2⟩⟩
  all_goals
   refine rn (Y7 @m @KH @f3 @f9 @f53 @f54 @f10 @f55 @fM @s7 @dt @CJ @ba @oQ) ?_;refine iZ.mono λv d ⟨z,BF,Me,ev,vB⟩=> ?_;subst ev;obtain⟨n4,rfl⟩:=qN vB;have Br:a.nx+1<=d.nx:=z.nx;have MH:dr bc a d:=g.ex.trans z;repeat' (first | (simp (disch:=first | omega | (decide +kernel)) only[↓RD,RU,↓aH,↓aL,bS,cq,db,isVal,ci,ρ0,ρ1,ρ4,↓reduceIte,Nat.reduceEqDiff,Nat.reduceAdd,reduceCtorEq,ρ7,ρ8,kQ,ρ15,ρ18,ρ25,ρ26,dv,Nat.reduceLeDiff,kO,eB,xf,zn1]) | ((with_reducible first|apply aE|apply aF|apply aG)<;>intro _))
   have h4:ag d (d.new (.cells (eB n4) 26 .ex)):=(ag.refl d).new _;have C9:dr bc a (d.new (.cells (eB n4) 26 .ex)):=MH.trans h4.ex;have WP:=λt=>MC t σ j;refine kx.app (nd:=n4) (nF.ex C9 lc) (by show K.nx<=d.nx+1;omega) (vB.mv λb hb=>⟨⟨by have:a.nx+1<=b:=hb.1;omega,qu hb.2,λo n c e=>by have:=(nF.QO e).2;have:a.nx+1<=b:=hb.1;omega⟩,h4.ob b hb.2⟩) Om λv' K6 r D k3=> ?_;refine rn (an @m @f55) ?_;have iD:dr bc K K6:=⟨cy cK (cy C9.nx r),λb hb zp=>(D b hb).trans ((C9.ob b Om zp).trans (hx.ob b hb zp))⟩;refine⟨ks.length-(i+1),Om,i+1,_,_,_,rfl,H,by(refine rn (an @m @f10) ?_;all_goals rfl),rfl,iD,hw.ex iD ((D bc lc).trans ((h4.ob bc Om).trans BF)),cy yX (WP _).1,cy (Nat.add_le_add_right (WP _).2 _) Om,by simp[ME],k3,?_⟩;rw[J,er];simp
 have H:i=ks.length:=by omega
 subst H;rw[yu] at J;refine rn (jz @m @f53 @f54 @f55) ?_;exact hQ _ _ ns j (by((first | assumption | simp only[aH,dA,Nat.reduceEqDiff,↓reduceIte]);exact m 5 rfl)) (by((first | assumption | simp only[aH,dA,Nat.reduceEqDiff,↓reduceIte]);exact m 7 rfl)) hx G nF (by rw[J];simp[fH]) ME
theorem QU{T:cw}{a b t:bQ}{fr:Fr}{H:CH}{Q:bp->Fr->CH->Prop}(M:bp->Fr->CH->Prop)(h1:dh T (.seq a b) fr H M)(h2 : ∀x fr' H',M x fr' H'->CI T t Q x fr' H'):dh T (.seq a (.seq b t)) fr H Q:=by
 rw[dx] at h1⊢
 refine h1.mono λx fr' H' h=> ?_;cases x with
 | normal=>
   rw[cE] at h⊢;rw[dx];exact dh.mono h h2
 | ret=>exact h2 .ret fr' H' h
 | exit i=>exact h2 (.exit i) fr' H' h
theorem MI{o o':Option ae}{K:ae->CH->Prop}{H:CH}(h:o=o')(g:EI o' K H):EI o K H:=h▸g
mutual
theorem aea : ∀n:Nd,(fG n).length<=cu n
 | .mk k l x o ks=>by
   rw[fG,cu];split;·simp
   split;·exact xc (aeb ks)
   simp
theorem aeb : ∀ks:List Nd,(eP ks).length<=aZ ks
 | []=>ai _
 | n::ks=>by
   rw[eP,aZ,cG];have:=aea n;have:=aeb ks;omega
end
theorem aof{k:Nat}{l:Int}{x:Bs}{o:Nat}{ks:List Nd}:cu (.mk k l x o ks)=aZ ks+1:=rfl
theorem aog{ks:List Nd}:cu (cV ks)<=aZ ks+1:=by
 cases ks with
 | nil=>exact ai _
 | cons n ks=>simp only[cV,aZ];omega
theorem WR : ∀ks:List Nd,(iM ks).length<=aZ ks
 | []=>ai _
 | n::ks=>by
   rw[iM,aZ,cG];have:=WR ks;obtain⟨k,l,x,o,ts⟩:=n;have h1:=aea (cV ts);have h2:=aog (ks:=ts);rw[aof];split;·show(fG (cV ts)).length+_<=_;omega
   simp;omega
theorem aoh(u:Nat):Lib.nDigits u<=u+1:=by
 induction u using Sw with
 | _ u a=>
   by_cases h:u<10
   ·rw[Lib.nDigits_small h];omega
   rw[Lib.nDigits_big h];have:=a (u / 10) Om;omega
theorem aec(n:Nat):(cP n).length<=n+1:=by
 unfold cP;rw[Lib.itoa_nonneg,Lib.decDigits_length];exact aoh n
theorem QV{a b:ByteArray}(h:a.size+b.size<=9223372036854775807):bP (binOp .add 0 (.string a) (.string b))=some (.string (a++b)):=by
 show bP (Op.stringOp .add a b)=_;simp only[Op.stringOp];rw[iN (by rw[show IntKind.i64.max=9223372036854775807 from rfl];omega)];rfl
def WkM (K:CH)(bc be c k:Nat)(t:Nd)(q:Option cB)(r:Nd×Nat)(x:bp)(fr:Fr)(H:CH):Prop:=
 (x= .normal/\∃(x':Bs) (l':Nat) (a:ByteArray->Option Int) (ρ':Bs->Nat),fr 1= .map (some l')/\fr 4=pN be/\fr 5=pN K.nx/\fr 7=pN (K.nx+1)/\ag K H/\K.nx+2<=H.nx/\H.ob K.nx= .cells [.int .i64 (t.kind:Nat), .int .i64 t.line, .string (tx x'), .int .i64 (t.op:Nat), .slice q t.kids.length t.kids.length] 26 .ex/\H.ob (K.nx+1)= .cells [.int .i64 0, .int .i64 0, .string ⟨⟨[]⟩⟩, .int .i64 0, .slice none 0 0] 26 .ex/\oU H l' a k/\l'<H.nx/\RF ρ' a/\(∀y,ρ' y<=c)/\r=(.mk t.kind t.line x' t.op (jo cP ρ' c t.kids).1,(jo cP ρ' c t.kids).2))
 \/(x= .ret/\AS [.kZ 5 7] (RnQ K bc r) x fr H)
theorem aoi{ρ:Bs->Nat}{own:List Bs}{d c:Nat}(h1 : ∀y,ρ y<=c)(h2:d<=c) : ∀y,wi ρ own d y<=c:=λy=>by
 unfold wi;split;·exact h2
 exact h1 y
theorem aoj{S B bc bw be N:Nat}(W:B+16<=4398046511104)(Y:MD S B bc bw be N):MD S B bc bw be (N+1):=by
 rintro⟨tk,tl,x,o,ks⟩ hN hz t hT K A os ρ f k l c hs hA hw m hl i j hc hk;obtain⟨q,rfl,I⟩:=iq hs;obtain⟨lc,lw,le⟩:=hw.lt;obtain⟨q',e,cW,lV,fq⟩:=lr I;cases e;rw[gE] at cW;refine dq Rl Kr (aK ?_);refine QU (WkM K bc be c k (.mk tk tl x o ks) q (dS cP ρ c (.mk tk tl x o ks))) ?_ ?_
 ·by_cases lu:tk=36
  ·subst lu;obtain⟨fx,hfx⟩ : ∃n:Nat,(f (tx x)).getD 0=(n:Int):=⟨_,i x⟩;have nE:uO 1 (.int .i64 0) false (.string (tx x)) (K.ob l)=some (.int .i64 (ρ x:Nat)):=by
    have:=i x;rcases m with h | ⟨h,rfl,rfl⟩
    ·rw[h];show uN _ _ (some ((f (tx x)).map λn=>(0, .int .i64 n)))=_;rw[<-this];cases f (tx x)<;>rfl
    rw[h];show some (o7 .i64 0)=_;rw[<-this];rfl
   repeat' (first | (simp (disch:=first | omega | (decide +kernel)) only[↓RD,RU,↓aH,↓aL,↓bf,jK,bS,cZ,eT,pop,aD,cq,db,isVal,ci,↓reduceIte,Nat.reduceEqDiff,Int.reduceOfNat,reduceCtorEq,ρ5,ρ6,ρ26,uO,uN,isKey,ρ28]) | ((with_reducible first|apply aE|apply aF|apply aG)<;>intro _))
   refine MI nE ?_;repeat' (first | (simp (disch:=first | omega | (decide +kernel)) only[↓RD,RU,nK,bT,↓aH,↓aL,↓bf,pop,ρ0,ρ1,↓reduceIte,Nat.reduceEqDiff]) | ((with_reducible first|apply aE|apply aF|apply aG)<;>intro _))
   ·refine(anZ ((hw.pw.hx ((ag.refl K).new _)).hx ((ag.refl _).new _)) Om (by have:=j x;omega)).mono λv K' ⟨u,w⟩=> ?_;subst u w;have au:=aec (ρ x);have hρx:=j x;have xr:x.length<=1099511627776:=hT.1;have a1:bP (binOp .add 0 (.string ⟨#[46]⟩) (.string ⟨(Lib.itoa (ρ x:Nat)).toArray⟩))=some (.string (tx ([46]++cP (ρ x)))):=QV (a:=tx [46]) (b:=tx (cP (ρ x))) (by show 1+(cP (ρ x)).length<=_;omega);have a2:bP (binOp .add 0 (.string (tx x)) (.string (tx ([46]++cP (ρ x)))))=some (.string (tx (x++([46]++cP (ρ x))))):=QV (by show x.length+([46]++cP (ρ x)).length<=_;simp;omega);refine aM ?_;refine MI a1 ?_;refine aM ?_;refine MI a2 ?_;refine aM ?_;refine .inl ⟨rfl,x++([46]++cP (ρ x)),l,f,ρ,by(exact aV;all_goals rfl),by(exact aV;all_goals rfl),by(exact aV;all_goals rfl),by(exact aV;all_goals rfl),by(repeat (first | assumption | exact ag.refl _ | (refine ag.set ?_ Fo _) | (refine ag.new ?_ _))),ai _,by(refine aM ?_;all_goals rfl),by repeat' (first | (simp (disch:=first | omega | (decide +kernel)) only[RU,jK,bS,br,↓reduceIte]) | ((with_reducible first|apply aE|apply aF|apply aG)<;>intro _)),m.ext (by repeat' (first | (simp (disch:=first | omega | (decide +kernel)) only[RU,jK,bS,br]) | ((with_reducible first|apply aE|apply aF|apply aG)<;>intro _))),Fo,i,j,?_⟩;rw[dS,iN Om,iN Om,iP ⟨rfl,Om⟩,oY];rfl
   refine .inl ⟨rfl,x,l,f,ρ,by(exact aV;all_goals rfl),by(exact aV;all_goals rfl),by(exact aV;all_goals rfl),by(exact aV;all_goals rfl),by(repeat (first | assumption | exact ag.refl _ | (refine ag.set ?_ Fo _) | (refine ag.new ?_ _))),ai _,by(refine aM ?_;all_goals rfl),by exact aV,m.ext (by exact aV),Fo,i,j,?_⟩;rw[dS,iN Om,iN Om,iN Om];rfl
  by_cases QW:tk=50\/tk=8
  ·have ya:=Mx (K:=(K.new (.cells [.int .i64 (tk:Nat), .int .i64 tl, .string (tx x), .int .i64 (o:Nat), .slice q ks.length ks.length] 26 .ex)).new (.cells [.int .i64 0, .int .i64 0, .string ⟨⟨[]⟩⟩, .int .i64 0, .slice none 0 0] 26 .ex)) (A:=A) (hs.mv λb hb=>⟨hb,by have:=(hA b hb).1;rw[bL (by show b≠K.nx+1;omega),bL Om]⟩) (λb hb=>by have:=(hA b hb).1;show b<K.nx+1+1;omega);rcases QW with rfl | rfl
   all_goals
    refine aM ?_;refine ya.mono λv g ⟨l9,w,d,iL⟩=> ?_;subst w;obtain⟨pk,pl,px,po,M,ia⟩ : ∃pk pl px po M,cV ks= .mk pk pl px po M:=by cases cV ks;exact⟨_,_,_,_,_,rfl⟩
    have z:=ad3 hT.2;have MJ:bK g A (cF (cV ks)) l9:=iL.mv λb hb=>⟨hb,d.ob b (by have:=(hA b hb).1;show b<K.nx+1+1;omega)⟩;rw[ia] at MJ z;obtain⟨q2,rfl,WS⟩:=iq MJ;obtain⟨q3,e3,hp⟩:=an2 WS λn hn=>by
     have:=Fu z.2 hn;obtain⟨_,_,_,_,_⟩:=n;exact this.1
    cases e3;have j0:K.nx+1+1<=g.nx:=d.nx;have r:ag K g:=(((ag.refl K).new _).new _).trans d;refine aM ?_;refine(ad1 (m.ext (r.ob _ hl)) Sm hp).mono λv K3 ⟨u,w⟩=> ?_;subst u w;refine aM ?_;refine .inl ⟨rfl,x,g.nx,_,wo ρ (cV ks).kids,by(exact aV;all_goals rfl),by(exact aV;all_goals rfl),by(exact aV;all_goals rfl),by(exact aV;all_goals rfl),r.new _,Fo,?_,?_, .inl (by rw[bS,iP rfl]),Fo,by rw[ia];exact i.wo M,λy=> ?_,?_⟩;·rw[bL Om,d.ob _ (by show K.nx<K.nx+1+1;omega)];refine aM ?_;all_goals rfl
    ·rw[bL Om,d.ob _ (by show K.nx+1<K.nx+1+1;omega)];exact aV;all_goals rfl
    ·unfold wo;split;·omega
     exact j y
    rw[dS,iN Om,iP Om,iN Om];rfl
  by_cases C:tk=55\/tk=56\/tk=57
  ·have O:=hw.c;have mi:bc≠K.nx:=by omega
   have fE:bc≠K.nx+1:=by omega
   have Q:=an9 (q:=q) (l:=l) (k:=k) (c:=c+1) (f:=f) (ks:=ks) (A:=A) (K:=((K.new (.cells [.int .i64 (tk:Nat), .int .i64 tl, .string (tx x), .int .i64 (o:Nat), .slice q ks.length ks.length] 26 .ex)).new (.cells [.int .i64 0, .int .i64 0, .string ⟨⟨[]⟩⟩, .int .i64 0, .slice none 0 0] 26 .ex)).set bc (.cells [.int .i64 ((c:Int)+1)] 3 .ex)) (I.mv λb hb=>⟨hb,by have:=hA b hb;rw[cO Om,bL (by show b≠K.nx+1;omega),bL Om]⟩) (λb hb=>by have:=(hA b hb).1;show b<K.nx+1+1;omega) hT.2 ((m.ex (K':=((K.new _).new _).set bc _) hl ((((dr.refl K).new _).new _).set (.inr rfl) _) ⟨_,_,_,O⟩)) (by show l<K.nx+1+1;omega) Om (by have:=WR ks;have:aZ ks+1<=S:=hz;rw[N6] at hk;omega);rcases C with rfl | rfl | rfl
   all_goals
    refine rn (gS @O @mi @fE) ?_;refine Q.mono λv g ⟨l1,u,d,eF,R,s⟩=> ?_;subst u;have j0:K.nx+1+1<=g.nx:=d.nx;have eF:K.nx+1+1<=l1:=eF;have oB:=(d.ob K.nx (by show K.nx<K.nx+1+1;omega)).trans ((cO Om).trans ((bL (by show K.nx≠K.nx+1;omega)).trans (iu)));have oZ:=(d.ob (K.nx+1) (by show K.nx+1<K.nx+1+1;omega)).trans ((cO Om).trans (iu (K:=K.new _)));have oC:g.ob bc= .cells [.int .i64 ((c+1:Nat):Int)] 3 .ex:=(d.ob bc (by show bc<K.nx+1+1;omega)).trans (by rw[br,iP rfl];rfl);have J:dr bc K g:=((((dr.refl K).new _).new _).set (.inr rfl) _).trans d.ex;have SZ:WK g bc bw be (c+1):=hw.ex J oC;refine rn @oB ?_;have T:WN=_:=rfl;conv at T=>rhs;reduce
    simp only[Int.reduceOfNat,Int.reduceNegSucc] at T;rw[<-T];have tI:aZ ks+1<=S:=hz;have Eb:c+(aZ ks+1)<=2305843009213693952:=hc;have oF:=WR ks;have U:gk ks<=N:=by simp only[eX] at hN;omega
    have xo:k+S+N*S<=2305843009213693952:=by rw[N6] at hk;omega
    refine aod W Y U Om t.1 t.2 hT.2 (A:=A) (I.mv λb hb=>⟨hb,J.ob b (hA b hb).1 (hA b hb).2⟩) (λb hb=>⟨by have:=(hA b hb).1;omega,(hA b hb).2⟩) SZ (m.ex hl J ⟨_,_,_,O⟩) Om i (λy=>cy (j y) (mC _)) (.inl s) R i.ud (aoi (λy=>cy (j y) (mC _)) (ai _)) Om Om Om (by exact aV) (by exact aV) (by exact aV) (by exact aV) (by exact aV) (by exact aV) (by exact aV) (by exact aV) λfr K3 ns c' f5 f7 r Dj nF qO hU=> ?_;have tY:fr 5=pN K.nx:=f5.trans (by exact aV);have D:fr 7=pN (K.nx+1):=f7.trans (by exact aV);obtain⟨va,f11,hv⟩:=nF.done (by have:=t.1;omega);have pC:=r.nx;have E:=(r.ob K.nx Om Om).trans oB;have G:=(r.ob (K.nx+1) Om Om).trans oZ;refine rn (jL @tY @D @f11 @E @G) ?_;refine .inr ⟨rfl,?_⟩;refine rn (jL @tY @D @f11 @E @G) ?_;rw[dS,iP de];have L:fH cP (wi ρ (iM ks) (c+1)) ρ true (c+1) ks=(ns,c'):=qO;have iD:dr bc K K3:=J.trans r;refine⟨(iD.set Om _).set Om _,?_,[_,_,_,_,_],rfl,?_⟩;·rw[cO Om,cO Om,L];exact Dj.c
    rw[L];rw[f11] at hv;exact .cons (.sc rfl) (.cons (.sc rfl) (.cons (.sc rfl) (.cons (.sc rfl) (.cons (hv.mv λb hb=>⟨⟨Om,hb.2⟩,by rw[cO Om,cO Om]⟩) .nil))))
  refine aM ?_;refine .inl ⟨rfl,x,l,f,ρ,by(exact aV;all_goals rfl),by(exact aV;all_goals rfl),by(exact aV;all_goals rfl),by(exact aV;all_goals rfl),by(repeat (first | assumption | exact ag.refl _ | (refine ag.set ?_ Fo _) | (refine ag.new ?_ _))),ai _,by(refine aM ?_;all_goals rfl),by exact aV,m.ext (by exact aV),Fo,i,j,?_⟩;rw[dS,iN C,iN Om,iN Om];rfl
 rintro x1 fr H (⟨rfl,x',l',f',ρ',f1,f4,f5,f7,hx,hn,s,o2,Ct,eu,xw,V,L⟩ | ⟨rfl,h⟩)
 ·rw[L];have s:H.ob K.nx= .cells [.int .i64 (tk:Nat), .int .i64 tl, .string (tx x'), .int .i64 (o:Nat), .slice q ks.length ks.length] 26 .ex:=s;obtain⟨e4,o4⟩:=(hw.hx hx).e;have U:gk ks<=N:=by simp only[eX] at hN;omega
  have tI:aZ ks+1<=S:=hz;have Eb:c+(aZ ks+1)<=2305843009213693952:=hc;have xo:k+N*S<=2305843009213693952:=by rw[N6] at hk;omega
  have iZ:=aob Y W U Om t.1 t.2 hT.2 (K:=H) (A:=A) (I.mv λb hb=>⟨hb,hx.ob b (hA b hb).1⟩) (λb hb=>⟨by have:=(hA b hb).1;have:=hx.nx;omega,(hA b hb).2⟩) (hw.hx hx) Ct eu xw V Om xo;refine rn (uF @f1 @f4 @f5 @f7 @s @o2 @o4) ?_;refine iZ.mono λv g ⟨d,o3,hv⟩=> ?_;obtain⟨va,rfl,_⟩:=lr hv;have j0:=d.nx;have Mr:=(d.ob _ Om Om).trans s;have Iz:=(d.ob _ Om Om).trans o2;refine rn (o8 @f1 @f4 @f5 @f7 @Mr @Iz) ?_;have ep:dr bc K g:=hx.ex.trans d;refine⟨(ep.set Om _).set Om _,?_,[_,_,_,_,_],rfl, .cons (.sc rfl) (.cons (.sc rfl) (.cons (.sc rfl) (.cons (.sc rfl) (.cons (hv.mv λb hb=>⟨⟨Om,hb.2⟩,?_⟩) .nil))))⟩;·rw[cO Om,cO Om];exact o3
  rw[cO Om,cO Om]
 exact h
theorem aed{S B bc bw be:Nat}(a:B+16<=4398046511104) : ∀N,MD S B bc bw be N
 | 0=>λt h=>by cases t;simp[eX] at h
 | N+1=>aoj a (aed a N)
abbrev lx(t:Nd):Nd:=(dS cP (λ_=>0) 0 t).1
theorem aee{B:Nat}(i:B+16<=4398046511104){t:Nd}(hh:eX t<=1000)(hz:cu t<=1125899906842624)(j:jI B t)(hT:zo t){K:CH}{A:Nat->Prop}{os:List ae}(hs:bK K A (cF t) os)(hA : ∀b,A b->b<K.nx)(hp:wT K):aQ gH 10 [.agg os.toArray] K λv K'=>ag K K'/\∃os',v= .agg os'.toArray/\bK K' (λb=>K.nx<=b/\b<K'.nx) (cF (lx t)) os':=by
 obtain⟨nt,d⟩:=qN hs;have l:os.length=5:=by rw[d];rfl
 have m:os.all a8=true:=by rw[d];rfl
 have n:DX 5 os=os:=ux Om;refine dq Rl Kr (aK ?_);refine rn (gS @l @m @n) ?_;refine(aed (S:=1125899906842624) (bc:=K.nx+1+1) (bw:=K.nx+1+1+1) (be:=K.nx+1+1+1+1) i 1000 t hh hz j hT _ A os (λ_=>0) (λ_=>none) 0 (K.nx+1+1+1+1+1) 0 (hs.mv λb hb=>⟨hb,by have:=hA b hb;exact aV⟩) (λb hb=>⟨cQ (hA b hb) Fo,by have:=hA b hb;omega⟩) ⟨by(refine aM ?_;all_goals rfl),⟨_,by(refine aM ?_;all_goals rfl)⟩,⟨_,by(refine aM ?_;all_goals rfl)⟩,⟨Fo,Fo,Fo⟩,hp.hx (by(repeat (first | assumption | exact ag.refl _ | (refine ag.set ?_ Fo _) | (refine ag.new ?_ _))))⟩ (.inr ⟨by exact aV,rfl,rfl⟩) Fo RF.nil (λ_=>ai _) Om Om).mono λv a ⟨c,u,w,o,g⟩=> ?_;subst o;have x:K.nx+1+1+1+1+1+1<=a.nx:=c.nx;obtain⟨n2,rfl⟩:=qN g;have r:a.ob (K.nx+1)= .cells [.int .i64 0, .int .i64 0, .string ⟨⟨[]⟩⟩, .int .i64 0, .slice none 0 0] 26 .ex:=(c.ob (K.nx+1) Fo Om).trans (by(exact aV;all_goals rfl));have s:dr (K.nx+1+1) K a:=dr.trans (ag.ex (by(repeat (first | assumption | exact ag.refl _ | (refine ag.set ?_ Fo _) | (refine ag.new ?_ _))))) c;repeat' (first | (simp (disch:=first | omega | (decide +kernel)) only[↓RD,RU,↓aH,↓dA,↓aL,kf,br,aD,bq,cY,fQ,dU,isVal,a8,ci,↓reduceIte,Nat.reduceEqDiff,Nat.reduceAdd,ρ7,ρ8,ρ15,ρ17,ρ18,ρ21,ρ22,ρ23,Kd.bY,ρ25,ρ26,eB,r]) | ((with_reducible first|apply aE|apply aF|apply aG)<;>intro _))
 refine⟨(s.ext Om).set Om _,eB n2,rfl,g.mv λb hb=> ?_⟩;have y:K.nx+1+1+1+1+1+1<=b:=hb.1;exact⟨⟨Om,hb.2⟩,cO Om⟩
end
section
def qP(k:Nat)(x:List UInt8):Prop:=∃l n,mF l=some (k,x,n)
def eK (n:Nd):Prop:=30<=n.kind/\n.kind<=57/\n.kind≠43/\n.kind≠48
def qe (l:List Nd):Prop:=∀n∈l,eK n
def sK (n:Nd):Prop:=2<=n.kind/\n.kind<=20
def QX (l:List Nd):Prop:=l≠ []/\∀n∈l,sK n
def Fv:List Nd->Bool
 | c::_=>decide (c.kind=58)
 | []=>false
def vC (l:List Nd):Prop:=∀n∈l,n.kind=58\/n.kind=59
def vK (n:Nd):Prop:=eK n\/n.kind=60
def s9 (l:List Nd):Prop:=∀n∈l,n.kind=36
def yb (l:List Nd):Prop:=∀n∈l,n.kind=21
def gm (k:Nat)(x:List UInt8)(o:Nat)(ks:List Nd):Prop:=
 (k=30/\qP 5 x/\o=0/\ks= [])\/(k=31/\qP 6 x/\o=0/\ks= [])\/(k=32/\qP 7 x/\o=0/\ks= [])\/(k=36/\qP 4 x/\o=0/\ks= [])\/
 ((k=33\/k=34\/k=35\/k=48\/k=11\/k=12\/k=13)/\x= []/\o=0/\ks= [])\/
 (k=37/\x= []/\1<=o/\o<=7/\∃a b,ks= [a,b]/\eK a/\eK b)\/(k=38/\x= []/\(o=1\/o=2)/\∃a,ks= [a]/\eK a)\/
 ((k=39\/k=40)/\x= []/\o=0/\∃a b,ks= [a,b]/\eK a/\eK b)\/(k=41/\x= []/\o=0/\∃a,ks= [a]/\eK a)\/
 (k=42/\x= []/\o=0/\∃a l,ks=a::l/\eK a/\l≠ []/\∀n∈l,n.kind=43)\/(k=43/\x= []/\1<=o/\o<=10/\∃a,ks= [a]/\eK a)\/
 (k=44/\x= []/\o=0/\∃a l,ks=a::l/\eK a/\qe l)\/(k=45/\qP 4 x/\o=0/\∃a,ks= [a]/\eK a)\/(k=46/\x= []/\o=0/\∃a b,ks= [a,b]/\eK a/\eK b)\/
 (k=47/\x= []/\o=0/\∃a b c,ks= [a,b,c]/\eK a/\(eK b\/b.kind=48)/\(eK c\/c.kind=48))\/(k=49/\x= []/\o=0/\∃a b c,ks= [a,b,c]/\eK a/\eK b/\eK c)\/
 (k=50/\x= []/\o=0/\∃p e,ks= [p,e]/\p.kind=23/\eK e)\/(k=23/\x= []/\o=0/\s9 ks)\/
 ((k=51\/k=52)/\x= []/\o=0/\qe ks)\/(k=53/\x= []/\o=0/\ks≠ []/\qe ks)\/(k=54/\x= []/\o=0/\ks.length % 2=0/\qe ks)\/
 ((k=55\/k=56)/\x= []/\o=0/\∃e l,ks=e::l/\eK e/\Fv l=true/\vC l)\/(k=57/\x= []/\o=0/\∃a b l,ks=a::b::l/\eK a/\eK b/\Fv l=true/\vC l)\/
 (k=58/\x= []/\o=0/\∃a b,ks= [a,b]/\eK a/\gK a=true/\eK b)\/(k=59/\x= []/\o=0/\∃a,ks= [a]/\eK a)\/
 ((k=60\/k=10\/k=14)/\x= []/\o=0/\(ks= []\/∃a,ks= [a]/\eK a))\/(k=20/\x= []/\o=0/\∃a,ks= [a]/\eK a)\/
 (k=2/\x= []/\o=0/\∃a,ks= [a]/\vK a)\/(k=3/\x= []/\o=0/\∃l v,ks=l++ [v]/\l≠ []/\vK v/\∀n∈l,eK n/\gK n=true)\/
 (k=4/\x= []/\1<=o/\o<=7/\∃a b,ks= [a,b]/\eK a/\zb a=true/\eK b)\/(k=19/\x= []/\o=0/\∃a,ks= [a]/\eK a/\zb a=true)\/
 ((k=17\/k=18)/\x= []/\o=0/\ks≠ []/\s9 ks)\/(k=1/\x= []/\o=0/\QX ks)\/
 (k=5/\x= []/\o=0/\∃a b l,ks=a::b::l/\eK a/\b.kind=1/\(l= []\/∃e,l= [e]/\e.kind=1))\/(k=6/\x= []/\o=0/\∃a b,ks= [a,b]/\eK a/\b.kind=1)\/
 (k=7/\x= []/\o=0/\∃a b c,ks= [a,b,c]/\eK a/\gK a=true/\eK b/\c.kind=1)\/(k=8/\qP 4 x/\o=0/\∃a b,ks= [a,b]/\a.kind=23/\b.kind=1)\/
 (k=9/\qP 4 x/\o=0/\∃a b,ks= [a,b]/\a.kind=24/\b.kind=1)\/(k=24/\x= []/\o=0/\qe ks)\/
 (k=15/\x= []/\o=0/\∃b l,ks=b::l/\b.kind=1/\l≠ []/\∃h t,l=h++t/\yb h/\(∀n∈h.dropLast,n.kids.length=2)/\(t= []\/∃y,t= [y]/\y.kind=22))\/
 (k=21/\((x= []/\∃b,ks= [b]/\b.kind=1)\/((x= []\/qP 4 x)/\∃e b,ks= [e,b]/\eK e/\b.kind=1))/\o=0)\/(k=22/\x= []/\o=0/\∃b,ks= [b]/\b.kind=1)\/
 (k=16/\(x= []\/qP 4 x)/\o=0/\∃e b,ks= [e,b]/\eK e/\b.kind=1)
mutual
def mY:Nd->Prop
 | .mk k _ x o ks=>gm k x o ks/\fB ks
def fB:List Nd->Prop
 | []=>True
 | n::ks=>mY n/\fB ks
end
theorem qg : ∀ {a b:List Nd},fB (a++b)↔fB a/\fB b
 | [],b=>by simp[fB]
 | n::a,b=>by simp only[gZ,fB,qg,and_assoc]
def TW (P:List Nd->Prop):PR->Prop
 | some (.ok (l,_))=>P l
 | _=>True
abbrev xE:List Nd->Prop:=λl=>∃n,l= [n]/\mY n/\eK n
abbrev xP:List Nd->Prop:=λl=>∃n,l= [n]/\mY n/\eK n/\gK n=true
abbrev xV:List Nd->Prop:=λl=>∃n,l= [n]/\mY n/\vK n
abbrev xS:List Nd->Prop:=λl=>∃n,l= [n]/\mY n/\sK n
abbrev xK(k:Nat):List Nd->Prop:=λl=>∃n,l= [n]/\mY n/\n.kind=k
def NT.out(ts:List PT)(i:Nat):NT->List Nd->Prop
 | .one | .places | .placesL _ _=>xP
 | .value=>xV
 | .simple | .plain | .mg _ _ | .stmt | .names _ _ _ | .ifs _ | .tries _ | .sV _ _=>xS
 | .maybe k _ _=>xK k
 | .block | .zg _=>xK 1
 | .params _ _ _=>xK 23
 | .row _ _=>λl=>fB l/\qe l
 | .clauses acc=>λl=>fB l/\vC l/\(acc= []->ap ts i H6=true->Fv l=true)/\(acc≠ []->Fv l=Fv acc)
 | .p9 _=>λl=>∃b h,l=b::h/\fB l/\b.kind=1/\yb h/\∀n∈h.dropLast,n.kids.length=2
 | .top _=>λl=>fB l/\∀n∈l,sK n
 | _=>xE
def NT.ly(ts:List PT)(i:Nat):NT->Prop
 | .params _ _ acc=>fB acc/\s9 acc
 | .row _ acc | .wJ _ acc=>fB acc/\qe acc
 | .Bg n | .Bh n | .zd n | .wK n | .xN n | .index n=>mY n/\eK n
 | .cmpL n acc=>mY n/\eK n/\fB acc/\∀m∈acc,m.kind=43
 | .clauses acc=>fB acc/\vC acc
 | .zf _ acc=>fB acc/\qe acc/\acc.length % 2=0
 | .placesL _ acc=>fB acc/\qe acc/\kq acc=true/\acc≠ []
 | .names k _ acc=>(k=17\/k=18)/\fB acc/\s9 acc
 | .maybe k _ _=>k=60\/k=10\/k=14
 | .mg _ acc=>fB acc/\(∃l v,acc=l++ [v]/\vK v/\∀n∈l,eK n/\gK n=true)/\(2<=acc.length\/ap ts i VA=true)
 | .zg acc=>fB acc/\∀n∈acc,sK n
 | .p9 acc=>∃b h,acc=b::h/\fB acc/\b.kind=1/\yb h/\∀n∈h,n.kids.length=2
 | .sV _ acc=>∃b h,acc=b::h/\fB acc/\b.kind=1/\yb h/\∀n∈h.dropLast,n.kids.length=2
 | .top acc=>fB acc/\∀n∈acc,sK n
 | _=>True
def zt (ts:List PT)(f:Nat):Prop:=∀a i,a.ly ts i->TW (a.out ts i) (gr ts f a i)
theorem qh{c:Prop}[Decidable c]{P:List Nd->Prop}{a b:PR}(h1:c->TW P a)(h2 : ¬c->TW P b):TW P (if c then a else b):=by
 split;·exact h1 ‹_›
 exact h2 ‹_›
theorem Fw{ts:List PT}{s:List UInt8}{i:Nat}{P:List Nd->Prop}{k:Nat->PR}(h:TW P (k (i+1))):TW P (gW ts s i k):=qh (λ_=>h) λ_=>trivial
theorem QY{ts:List PT}{kd:Int}{i:Nat}{P:List Nd->Prop}{k:List UInt8->Nat->PR}(h:(aC ts i).kind=kd->TW P (k (aC ts i).text (i+1))):TW P (mS ts kd i k):=qh h λ_=>trivial
theorem QZ{r:PR}{P Q:List Nd->Prop}{k:List Nd->Nat->PR}(h:TW Q r)(hk : ∀l j,Q l->TW P (k l j)):TW P (pb r k):=by
 match r,h with
 | none,_=>exact trivial
 | some (.error e),_=>exact trivial
 | some (.ok (l,j)),h=>exact hk l j h
theorem ug{r:PR}{P Q:List Nd->Prop}{k:Nd->Nat->PR}(h:TW Q r)(hk : ∀n j,Q [n]->TW P (k n j)):TW P (bG r k):=QZ h λl j h2=>by
 match l,h2 with
 | [],_=>exact trivial
 | _::_::_,_=>exact trivial
 | [n],h2=>exact hk n j h2
theorem Fx{P:List Nd->Prop}{e:Nat}:TW P (some (.error e)):=trivial
theorem MK{P:List Nd->Prop}{j:Nat}{l:List Nd}(h2:P l):TW P (some (.ok (l,j))):=h2
theorem vD{P:List Nd->Prop}{j:Nat}{n:Nd}(h2:P [n]):TW P (bV n j):=h2
theorem aom{ts:List PT}{p:Nat}{P:List Nd->Prop}{A:PR}{B:Nat->Nat->PR}(hA:TW P A)(a : ∀op j,op+1<=10->TW P (B op j)):TW P (match ji ts p with | .error e=>some (.error e) | .ok (0,_)=>A | .ok (op+1,j)=>B op j):=by
 have h : ∀o j,ji ts p= .ok (o,j)->o<=10:=by
  intro o j h;unfold ji at h
  (repeat' split at h)<;>first | (cases h;omega) | cases h
 match b:ji ts p with
 | .error e=>exact trivial
 | .ok (0,_)=>exact hA
 | .ok (op+1,j)=>exact a op j (h _ _ b)
end
section
variable (it:Nat->Bs)
def BG (own:List Bs)(ps:List Nd):List Bs:=own.filter λy=> !decide (y∈ps.map Nd.text)
mutual
def ta (own:List Bs)(t:Bs):Nd->Nd
 | .mk k l x o ks=>if k=36/\x∈own then .mk k l (x++t) o ks else .mk k l x o (nR (if k=50 then BG own (cV ks).kids else own) t ks)
def nR(own:List Bs)(t:Bs):List Nd->List Nd
 | []=> []
 | n::ks=>ta own t n::nR own t ks
end
def ML(own:List Bs)(t:Bs):List Nd->List Nd
 | a::b::r=>ta own t a::b::nR own t r
 | ks=>nR own t ks
def qQ(own:List Bs)(t:Bs)(a:Bool):List Nd->List Nd
 | []=> []
 | .mk k l x o ks::ns=>if k=58/\a=true then .mk k l x o (ML own t ks)::qQ own t false ns else ta own t (.mk k l x o ks)::qQ own t a ns
mutual
def dy (c:Nat):Nd->Nd×Nat
 | .mk k l x o ks=>if k=55\/k=56\/k=57 then
    let r:=fC (c+1) ks
    (.mk k l x o (qQ (iM r.1) (46::it (c+1)) true r.1),r.2)
   else
    let r:=fC c ks
    (.mk k l x o r.1,r.2)
def fC(c:Nat):List Nd->List Nd×Nat
 | []=>([],c)
 | n::ks=>let a:=dy c n;let r:=fC a.2 ks;(a.1::r.1,r.2)
end
abbrev qi:=List (List Bs×Nat)
def dK:qi->Bs->Nat
 | [],_=>0
 | (o,i)::L,y=>if y∈o then i else dK L y
def tc:qi->Nd->Nd
 | [],n=>n
 | (o,i)::L,n=>tc L (ta o (46::it i) n)
def td:qi->List Nd->List Nd
 | [],n=>n
 | (o,i)::L,n=>td L (nR o (46::it i) n)
def zu (L:qi):Prop:=∀p∈L,0<p.2/\∀y∈p.1,(46:UInt8)∉y
def Dl (L:qi)(ps:List Nd):qi:=L.map λp=>(BG p.1 ps,p.2)
theorem WV(ps:List Nd) : ∀(L:qi),dK (Dl L ps)=wo (dK L) ps
 | []=>by funext y;simp[Dl,dK,wo]
 | (o,i)::L=>by
   have a:=WV ps L;funext y
   show(if y∈BG o ps then i else dK (Dl L ps) y)=_;rw[a];unfold wo BG;simp only[dK,List.mem_filter,zT,decide_eq_false_iff_not];by_cases h:y∈ps.map Nd.text<;>by_cases h2:y∈o<;>simp[h,h2]
theorem Q0 : ∀(L:qi),td it L []= []
 | []=>rfl
 | (o,i)::L=>by simp only[td,nR];exact Q0 L
theorem Fy : ∀(L:qi) (n:Nd) (ks:List Nd),td it L (n::ks)=tc it L n::td it L ks
 | [],_,_=>rfl
 | (o,i)::L,n,ks=>by simp only[td,nR,tc];exact Fy L _ _
theorem MN{k:Nat}(h1:k≠36)(h2:k≠50)(l:Int)(x:Bs)(o:Nat) : ∀(L:qi) (ks:List Nd),tc it L (.mk k l x o ks)= .mk k l x o (td it L ks)
 | [],_=>rfl
 | (w,i)::L,ks=>by
   simp only[tc,td,ta,h1,h2,false_and,iF];exact MN h1 h2 l x o L _
theorem aef{x t:Bs}(hd:(46:UInt8)∈x)(l:Int)(o:Nat) : ∀(L:qi),zu L->tc it L (.mk 36 l x o [])= .mk 36 l x o []
 | [],_=>rfl
 | (w,i)::L,h=>by
   have hx:x∉w:=λe=>(h (w,i) (lA ..)).2 x e hd;simp only[tc,ta,hx,and_false,iF,nR];exact aef (t:=t) hd l o L λp hp=>h p (jJ _ hp)
theorem aeg(x:Bs)(l:Int)(o:Nat) : ∀(L:qi),zu L->tc it L (.mk 36 l x o [])= .mk 36 l (if 0<dK L x then x++46::it (dK L x) else x) o []
 | [],_=>by simp[tc,dK]
 | (w,i)::L,h=>by
   have h':zu L:=λp hp=>h p (jJ _ hp);by_cases hx:x∈w
   ·have hi:=(h (w,i) (lA ..)).1;simp only[tc,ta,hx,and_self,iT,dK];rw[iP hi];exact aef it (t:= []) Sm l o L h'
   simp only[tc,ta,hx,and_false,iF,nR,dK];exact aeg x l o L h'
theorem WW(ps:List Nd)(a : ∀n∈ps,n.kind=36/\n.kids= []) : ∀(qs:List Nd) (o:List Bs) (t:Bs),(∀n∈qs,n∈ps)->nR (BG o ps) t qs=qs
 | [],_,_,_=>rfl
 | n::qs,o,t,h=>by
   have hn:=h n (lA ..);have b:=a n hn;rw[nR,WW ps a qs o t λm c=>h m (jJ _ c)];congr 1
   obtain⟨k,l,x,o',ks⟩:=n;obtain⟨rfl,rfl⟩:k=36/\ks= []:=b;have hx:x∉BG o ps:=λe=>by
    unfold BG at e;have:=(List.mem_filter.1 e).2;simp only[zT,decide_eq_false_iff_not] at this;exact this (List.mem_map.2 ⟨_,hn,rfl⟩)
   simp only[ta,hx,and_false,iF,nR]
theorem aeh(ps:List Nd)(b : ∀n∈ps,n.kind=36/\n.kids= [])(l lp:Int)(x a:Bs)(o op:Nat) : ∀(L:qi) (r:List Nd),tc it L (.mk 50 l x o (.mk 23 lp a op ps::r))= .mk 50 l x o (.mk 23 lp a op ps::td it (Dl L ps) r)
 | [],_=>rfl
 | (w,i)::L,r=>by
   have e:ta w (46::it i) (.mk 50 l x o (.mk 23 lp a op ps::r))= .mk 50 l x o (.mk 23 lp a op ps::nR (BG w ps) (46::it i) r):=by
    simp only[ta,nR,cV,Nd.kids,show ¬((50:Nat)=36) by decide,show ¬((23:Nat)=36) by decide,show ¬((23:Nat)=50) by decide,false_and,iF,iT];rw[WW ps b ps w _ λ_ h=>h]
   rw[tc,e];exact aeh ps b l lp x a o op L _
theorem aei(c:Nat) : ∀n:Nd,(dy it c n).1.kind=n.kind
 | .mk k l x o ks=>by
   rw[dy];split<;>rfl
theorem zv{c:Nat}:fC it c []=([],c):=by rw[fC]
theorem zw{c:Nat}{n:Nd}{ks:List Nd}:fC it c (n::ks)=((dy it c n).1::(fC it (dy it c n).2 ks).1,(fC it (dy it c n).2 ks).2):=by rw[fC]
theorem BH{c k:Nat}(h : ¬(k=55\/k=56\/k=57)){l:Int}{x:Bs}{o:Nat}{ks:List Nd}:dy it c (.mk k l x o ks)=(.mk k l x o (fC it c ks).1,(fC it c ks).2):=by rw[dy,iN h]
theorem Dm{k:Nat}{l:Int}{x:Bs}{o:Nat}{ks:List Nd}:fG (.mk k l x o ks)=if k=36 then [x] else if k=52\/k=51 then eP ks else []:=by rw[fG]
def P1 (N:Nat):Prop:=∀(n:Nd) (c:Nat),fc n<N->fG (dy it c n).1=fG n
def P2 (N:Nat):Prop:=∀(ks:List Nd) (c:Nat),fc ks<N->eP (fC it c ks).1=eP ks
theorem aon(N:Nat):P1 it N/\P2 it N:=by
 induction N with
 | zero=>exact⟨λ_ _ h=>absurd h (fW _),λ_ _ h=>absurd h (fW _)⟩
 | succ N a=>
   refine⟨λn c b=> ?_,λks c b=> ?_⟩
   ·obtain⟨k,l,x,o,ks⟩:=n;have hs:fc ks<N:=by simp at b;omega
    by_cases hk:k=55\/k=56\/k=57
    ·rw[dy,iP hk];show fG (.mk k l x o _)=_;rw[Dm,Dm,iN Om,iN Om,iN Om,iN Om]
    rw[BH it hk];show fG (.mk k l x o (fC it c ks).1)=_;rw[Dm,Dm,a.2 ks c hs]
   cases ks with
   | nil=>rw[zv]
   | cons n ks=>
     simp at b;rw[zw];show eP ((dy it c n).1::(fC it (dy it c n).2 ks).1)=_;rw[eP,eP,a.1 n c Om,a.2 ks _ Om]
theorem aoo(n:Nd)(c:Nat):fG (dy it c n).1=fG n:=(aon it (fc n+1)).1 n c (fN _)
theorem aej : ∀(ks:List Nd) (c:Nat),iM (fC it c ks).1=iM ks
 | [],c=>by rw[zv]
 | n::ks,c=>by
   rw[zw];show iM ((dy it c n).1::(fC it (dy it c n).2 ks).1)=_;rw[iM,iM,aej ks,aei];congr 1
   by_cases h:n.kind=58
   ·rw[iP h,iP h];obtain⟨k,l,x,o,fg⟩:=n;obtain rfl:k=58:=h;rw[BH it de];show fG (cV (fC it c fg).1)=fG (cV fg);cases fg with
    | nil=>rw[zv]
    | cons a r=>
      rw[zw];exact aoo it a c
   rw[iN h,iN h]
theorem aek{p:Nat->Bool} : ∀ {l:List UInt8},∀c∈l.take (nW p l),p c.toNat=true
 | [],c,hc=>(by cases hc)
 | a::l,c,hc=>by
   rw[nW] at hc;split at hc
   ·rename_i ha;rw[qx] at hc;rcases List.mem_cons.1 hc with rfl | hc
    ·exact ha
    exact aek c hc
   cases hc
theorem aoq{x:Bs}(h:qP 4 x):(46:UInt8)∉x:=by
 obtain⟨l,n,h⟩:=h;unfold mF at h;split at h;·simp only[Option.some.injEq,Prod.mk.injEq] at h;obtain⟨_,rfl,_⟩:=h;intro hx;exact absurd (aek (p:=kY) _ hx) de
 split at h
 ·split at h;·cases h
  have:Cf l≠4:=by
   unfold Cf;split<;>decide
  simp only[Option.some.injEq,Prod.mk.injEq] at h;exact absurd h.1 this
 split at h
 ·cases hs:uI (hd l) (l.drop 1) with
  | none=>rw[hs] at h;cases h
  | some z=>rw[hs] at h;cases h
 cases hs:uJ l with
 | none=>rw[hs] at h;cases h
 | some z=>rw[hs] at h;cases h
theorem ael : ∀ {ks:List Nd} {n:Nd},fB ks->n∈ks->mY n
 | m::ks,n,h,hn=>by
   rcases List.mem_cons.1 hn with rfl | hn
   ·exact h.1
   exact ael h.2 hn
theorem Q3{k:Nat}{x:Bs}{o:Nat}{ks:List Nd}(h:gm k x o ks)(hk:23<=k) : ∀n∈ks,23<=n.kind:=by
 unfold gm at h;simp only[eK,qe,vC,s9,vK] at h;intro n hn;rcases h with h | h | h | h | h | h | h | h | h | h | h | h | h | h | h | h | h | h | h | h | h | h | h | h | h | h | h | h | h | h | h | h | h | h | h | h | h | h | h | h | h | h
 all_goals first
  | (exfalso;have:=h.1;omega)
  | (obtain⟨_,_,_,rfl⟩:=h;cases hn)
  | grind
theorem Q4{x:Bs}{o:Nat}{ks:List Nd}(h:gm 36 x o ks):ks= []/\qP 4 x:=by
 unfold gm at h;simp at h;exact⟨h.2.2,h.1⟩
theorem aor{x:Bs}{o:Nat}{ks:List Nd}(h:gm 50 x o ks) : ∃p e,ks= [p,e]/\p.kind=23:=by
 unfold gm at h;simp at h;obtain⟨_,_,p,e,h1,h2,_⟩:=h;exact⟨p,e,h1,h2⟩
theorem aos{x:Bs}{o:Nat}{ks:List Nd}(h:gm 23 x o ks):s9 ks:=by
 unfold gm at h;simp at h;exact h.2.2
theorem aem{x:Bs}{o:Nat}{ks:List Nd}(h:gm 58 x o ks) : ∃a b,ks= [a,b]:=by
 unfold gm at h;simp at h;obtain⟨_,_,p,e,h1,_⟩:=h;exact⟨p,e,h1⟩
theorem aot{ps:List Nd}(h:s9 ps)(hw:fB ps) : ∀n∈ps,n.kind=36/\n.kids= []:=λn hn=>by
 have h1:=h n hn;have h2:=ael hw hn;obtain⟨k,l,x,o,ks⟩:=n;obtain rfl:k=36:=h1;exact⟨rfl,(Q4 h2.1).1⟩
def Q1 (N:Nat):Prop:=∀(n:Nd),fc n<N->mY n->∀y∈fG n,(46:UInt8)∉y
def Q2 (N:Nat):Prop:=∀(ks:List Nd),fc ks<N->fB ks->∀y∈eP ks,(46:UInt8)∉y
theorem aou(N:Nat):Q1 N/\Q2 N:=by
 induction N with
 | zero=>exact⟨λ_ h=>absurd h (fW _),λ_ h=>absurd h (fW _)⟩
 | succ N a=>
   refine⟨λn b hw y hy=> ?_,λks b hw y hy=> ?_⟩
   ·obtain⟨k,l,x,o,ks⟩:=n;have hs:fc ks<N:=by simp at b;omega
    rw[Dm] at hy;split at hy;·rename_i c;subst c;rw[List.mem_singleton] at hy;subst hy;exact aoq (Q4 hw.1).2
    split at hy;·exact a.2 ks hs hw.2 y hy
    cases hy
   cases ks with
   | nil=>rw[eP] at hy;cases hy
   | cons n ks=>
     simp at b;rw[eP] at hy;rcases List.mem_append.1 hy with hy | hy
     ·exact a.1 n Om hw.1 y hy
     exact a.2 ks Om hw.2 y hy
theorem aen : ∀ {ks:List Nd},fB ks->∀y∈iM ks,(46:UInt8)∉y
 | [],_,y,hy=>by rw[iM] at hy;cases hy
 | n::ks,hw,y,hy=>by
   rw[iM] at hy;rcases List.mem_append.1 hy with hy | hy
   ·split at hy
    ·have hk:mY (cV n.kids)\/n.kids= []:=by
      obtain⟨k,l,x,o,fg⟩:=n;cases fg with
      | nil=>exact .inr rfl
      | cons a r=>exact .inl hw.1.2.1
     rcases hk with hk | hk
     ·exact(aou (fc (cV n.kids)+1)).1 _ (fN _) hk y hy
     rw[hk] at hy;simp[cV,fG] at hy
    cases hy
   exact aen hw.2 y hy
theorem aeo(ps:List Nd)(a : ∀n∈ps,n.kind=36/\n.kids= []) : ∀(L:qi),td it (Dl L ps) ps=ps
 | []=>rfl
 | (o,i)::L=>by
   show td it (Dl L ps) (nR (BG o ps) (46::it i) ps)=ps;rw[WW ps a ps o _ λ_ h=>h];exact aeo ps a L
theorem aov(ps:List Nd)(a : ∀n∈ps,n.kind=36/\n.kids= [])(c:Nat):fC it c ps=(ps,c):=by
 induction ps with
 | nil=>rw[zv]
 | cons n ps b=>
   have h1:=a n (lA ..);obtain⟨k,l,x,o,ks⟩:=n;obtain⟨rfl,rfl⟩:k=36/\ks= []:=h1;rw[zw,BH it de,zv];show(_::(fC it c ps).1,(fC it c ps).2)=_;rw[b λm d=>a m (jJ _ d)]
theorem aow{L:qi}(h:zu L)(ps:List Nd):zu (Dl L ps):=λp hp=>by
 obtain⟨q,a,rfl⟩:=List.mem_map.1 hp;exact⟨(h q a).1,λy b=>(h q a).2 y (List.mem_filter.1 b).1⟩
def M1 (N:Nat):Prop:=∀(n:Nd) (L:qi) (c:Nat),fc n<N->mY n->zu L->(L= []\/23<=n.kind)->dS it (dK L) c n=(tc it L (dy it c n).1,(dy it c n).2)
def M2 (N:Nat):Prop:=∀(ks:List Nd) (L:qi) (c:Nat),fc ks<N->fB ks->zu L->(L= []\/∀n∈ks,23<=n.kind)->jo it (dK L) c ks=(td it L (fC it c ks).1,(fC it c ks).2)
def M3 (N:Nat):Prop:=∀(ks:List Nd) (L:qi) (w:List Bs) (i:Nat) (a:Bool) (c:Nat),fc ks<N->fB ks->zu L->zu ((w,i)::L)->(∀n∈ks,23<=n.kind)->fH it (dK ((w,i)::L)) (dK L) a c ks=(td it L (qQ w (46::it i) a (fC it c ks).1),(fC it c ks).2)
theorem aox{N:Nat}(g:M2 it N)(q:M3 it N):M1 it (N+1):=by
 intro n L c r hw a hk;obtain⟨k,l,x,o,ks⟩:=n;have hs:fc ks<N:=by simp at r;omega
 have i:L= []\/23<=k:=hk;have s:L= []\/∀n∈ks,23<=n.kind:=i.imp id λh=>Q3 hw.1 h;by_cases hc:k=55\/k=56\/k=57
 ·have ho:zu ((iM ks,c+1)::L):=λp hp=>by
   rcases List.mem_cons.1 hp with rfl | hp
   ·exact⟨Nat.succ_pos _,aen hw.2⟩
   exact a p hp
  have:=q ks L (iM ks) (c+1) true (c+1) hs hw.2 a ho (Q3 hw.1 Om);rw[dS,iP hc,dy,iP hc];show(Nd.mk k l x o (fH it (dK ((iM ks,c+1)::L)) (dK L) true (c+1) ks).1,_)=_;rw[show wi (dK L) (iM ks) (c+1)=dK ((iM ks,c+1)::L) from rfl,this];show _=(tc it L (.mk k l x o (qQ (iM (fC it (c+1) ks).1) (46::it (c+1)) true (fC it (c+1) ks).1)),_);rw[MN it Om Om,aej]
 by_cases j:k=36
 ·subst j;obtain⟨rfl,ht⟩:=Q4 hw.1;rw[dS,iN hc,BH it hc,zv,aeg it x l o L a];simp[jo]
 by_cases m:k=50
 ·subst m;obtain⟨p,e,rfl,hp⟩:=aor hw.1;obtain⟨t,lp,b,op,ps⟩:=p;obtain rfl:t=23:=hp;have d:=aot (aos hw.2.1.1) hw.2.1.2;have u:=aow a ps;have:=g [.mk 23 lp b op ps,e] (Dl L ps) c hs hw.2 u (.inr (Q3 hw.1 de));rw[dS,iN hc,BH it hc];show(Nd.mk 50 l (if (50:Nat)=36/\0<dK L x then x++ [46]++it (dK L x) else x) o (jo it (wo (dK L) ps) c [.mk 23 lp b op ps,e]).1,(jo it (wo (dK L) ps) c [.mk 23 lp b op ps,e]).2)=_;rw[<-WV,this,iN Om];simp only[zw,zv,BH it (show ¬((23:Nat)=55\/(23:Nat)=56\/(23:Nat)=57) by decide),aov it ps d];rw[aeh it ps d,Fy,MN it de de,aeo it ps d]
 rw[dS,iN hc,BH it hc];have e:jo it (if k=8\/k=50 then wo (dK L) (cV ks).kids else dK L) c ks=jo it (dK L) c ks:=by
  by_cases v:k=8
  ·have hl:L= []:=i.resolve_right Om;subst hl;rw[iP (.inl v),<-WV];rfl
  rw[iN Om]
 show(Nd.mk k l (if k=36/\0<dK L x then x++ [46]++it (dK L x) else x) o (jo it (if k=8\/k=50 then wo (dK L) (cV ks).kids else dK L) c ks).1,(jo it (if k=8\/k=50 then wo (dK L) (cV ks).kids else dK L) c ks).2)=_;rw[e,g ks L c hs hw.2 a s,iN Om,MN it j m]
theorem aoy{N:Nat}(b:M1 it N)(d:M2 it N):M2 it (N+1):=by
 intro ks L c e hw a hk;cases ks with
 | nil=>rw[jo,zv,Q0]
 | cons n ks=>
   simp at e;rw[jo,zw];show(_::_,_)=_;rw[b n L c Om hw.1 a (hk.imp id λh=>h n (lA ..))];show(_::(jo it (dK L) (dy it c n).2 ks).1,(jo it (dK L) (dy it c n).2 ks).2)=_;rw[d ks L _ Om hw.2 a (hk.imp id λh m g=>h m (jJ _ g)),Fy]
theorem aoz{c:Nat}{l:Int}{x:Bs}{o:Nat}{p e:Nd}:dy it c (.mk 58 l x o [p,e])=(.mk 58 l x o [(dy it c p).1,(dy it (dy it c p).2 e).1],(dy it (dy it c p).2 e).2):=by
 rw[BH it de,zw,zw,zv]
theorem aoA{N:Nat}(q:M1 it N)(u:M3 it N):M3 it (N+1):=by
 intro ks L w i d c v hw r g hk;cases ks with
 | nil=>rw[zv];simp[fH,qQ,Q0]
 | cons n ks=>
   have B:=hk n (lA ..);have y : ∀m∈ks,23<=m.kind:=λm C=>hk m (jJ _ C);by_cases j:n.kind=58/\d=true
   ·obtain⟨k,l,x,o,kk⟩:=n;obtain⟨D,rfl⟩:k=58/\d=true:=j;subst D;obtain⟨p,e,rfl⟩:=aem hw.1.1;have z:=Q3 hw.1.1 de;simp at v;rw[fH,iP ⟨rfl,rfl⟩,zw,aoz];have s:=q p ((w,i)::L) c Om hw.1.2.1 g (.inr (z p Sm));have E:=q e L (dy it c p).2 Om hw.1.2.2.1 r (.inr (z e Sm));have t:=u ks L w i false (dy it (dy it c p).2 e).2 Om hw.2 r g y;rw[s];show(Nd.mk 58 l x o [_,(dS it (dK L) (dy it c p).2 e).1]::(fH it (dK ((w,i)::L)) (dK L) false (dS it (dK L) (dy it c p).2 e).2 ks).1,(fH it (dK ((w,i)::L)) (dK L) false (dS it (dK L) (dy it c p).2 e).2 ks).2)=_;rw[E];show(Nd.mk 58 l x o [_,_]::(fH it (dK ((w,i)::L)) (dK L) false (dy it (dy it c p).2 e).2 ks).1,(fH it (dK ((w,i)::L)) (dK L) false (dy it (dy it c p).2 e).2 ks).2)=_;rw[t];show _=(td it L (qQ w (46::it i) true (.mk 58 l x o [(dy it c p).1,(dy it (dy it c p).2 e).1]::(fC it (dy it (dy it c p).2 e).2 ks).1)),_);rw[qQ,iP ⟨rfl,rfl⟩,Fy,MN it de de,ML,nR,Fy,Fy,Q0];rfl
   have F:fH it (dK ((w,i)::L)) (dK L) d c (n::ks)=((dS it (dK ((w,i)::L)) c n).1::(fH it (dK ((w,i)::L)) (dK L) d (dS it (dK ((w,i)::L)) c n).2 ks).1,(fH it (dK ((w,i)::L)) (dK L) d (dS it (dK ((w,i)::L)) c n).2 ks).2):=by
    obtain⟨k,l,x,o,kk⟩:=n;by_cases h2 : ∃a b,kk= [a,b]
    ·obtain⟨a,b,rfl⟩:=h2;have G : ¬(k=58/\d=true):=j;rw[fH,iN G]
    rw[fH];exactλk l x o p e h=>h2 ⟨p,e,by cases h;rfl⟩
   simp at v;have s:=q n ((w,i)::L) c Om hw.1 g (.inr B);have t:=u ks L w i d (dy it c n).2 Om hw.2 r g y;rw[F,s];show(_::(fH it (dK ((w,i)::L)) (dK L) d (dy it c n).2 ks).1,(fH it (dK ((w,i)::L)) (dK L) d (dy it c n).2 ks).2)=_;rw[t,zw];have A:=aei it c n;obtain⟨k',l',x',o',H,I⟩ : ∃k l x o kk,(dy it c n).1= .mk k l x o kk:=by
    cases (dy it c n).1;exact⟨_,_,_,_,_,rfl⟩
   show _=(td it L (qQ w (46::it i) d ((dy it c n).1::_)),_);rw[I] at A⊢;rw[qQ,iN (by rw[<-show k'=n.kind from A] at j;exact j),Fy];rfl
theorem aoB(N:Nat):M1 it N/\M2 it N/\M3 it N:=by
 induction N with
 | zero=>exact⟨λ_ _ _ h=>absurd h (fW _),λ_ _ _ h=>absurd h (fW _),λ_ _ _ _ _ _ h=>absurd h (fW _)⟩
 | succ N a=>exact⟨aox it a.2.1 a.2.2,aoy it a.1 a.2.1,aoA it a.1 a.2.2⟩
end
section
mutual
def WX:Nd->Prop
 | .mk k _ _ _ ks=>((k=36->ks= [])/\(k=55\/k=56\/k=57->ks≠ []))/\(k=58->ks.length=2)/\WY ks
def WY:List Nd->Prop
 | []=>True
 | n::ks=>WX n/\WY ks
end
mutual
def qS (M:Nat):Nd->Prop
 | .mk _ _ x _ ks=>x.length<=M/\te M ks
def te (M:Nat):List Nd->Prop
 | []=>True
 | n::ks=>qS M n/\te M ks
end
theorem Q6{M:Nat} : ∀ {ks:List Nd} {n:Nd},te M ks->n∈ks->qS M n
 | m::ks,n,h,hn=>by
   rcases List.mem_cons.1 hn with rfl | hn
   ·exact h.1
   exact Q6 h.2 hn
theorem aoC(own:List Bs)(t:Bs) : ∀(a:List Nd),(nR own t a).length=a.length
 | []=>rfl
 | n::a=>by simp only[nR,bN,aoC own t a]
mutual
def nk:Nd->Nd
 | .mk k _ _ _ ks=> .mk k 0 [] 0 (kS ks)
def kS:List Nd->List Nd
 | []=> []
 | n::ks=>nk n::kS ks
end
theorem WZ : ∀ks:List Nd,(kS ks).length=ks.length
 | []=>rfl
 | n::ks=>by simp only[kS,bN,WZ ks]
mutual
theorem W9 : ∀n:Nd,eX (nk n)=eX n
 | .mk k l x o ks=>by simp only[nk,eX,aep ks]
theorem aep : ∀ks:List Nd,gk (kS ks)=gk ks
 | []=>rfl
 | n::ks=>by simp only[kS,gk,W9 n,aep ks]
end
mutual
theorem Xa : ∀n:Nd,cu (nk n)=cu n
 | .mk k l x o ks=>by simp only[nk,cu,aeq ks]
theorem aeq : ∀ks:List Nd,aZ (kS ks)=aZ ks
 | []=>rfl
 | n::ks=>by simp only[kS,aZ,Xa n,aeq ks]
end
mutual
theorem Xb(B:Nat) : ∀n:Nd,jI B (nk n)↔jI B n
 | .mk k l x o ks=>by simp only[nk,jI,WZ,aer B ks]
theorem aer(B:Nat) : ∀ks:List Nd,lM B (kS ks)↔lM B ks
 | []=>Iff.rfl
 | n::ks=>by simp only[kS,lM,Xb B n,aer B ks]
end
mutual
theorem Xc(own:List Bs)(t:Bs) : ∀n:Nd,nk (ta own t n)=nk n
 | .mk k l x o ks=>by
   rw[ta];split;·simp only[nk]
   simp only[nk];rw[Q7 _ t ks]
theorem Q7(own:List Bs)(t:Bs) : ∀ks:List Nd,kS (nR own t ks)=kS ks
 | []=>rfl
 | n::ks=>by simp only[nR,kS];rw[Xc own t n,Q7 own t ks]
end
theorem aoD(own:List Bs)(t:Bs)(ks:List Nd):kS (ML own t ks)=kS ks:=by
 match ks with
 | []=>rfl
 | [a]=>exact Q7 own t [a]
 | a::b::r=>simp only[ML,kS];rw[Xc,Q7]
theorem Xd(own:List Bs)(t:Bs) : ∀(ks:List Nd) (f:Bool),kS (qQ own t f ks)=kS ks
 | [],f=>by simp[qQ]
 | .mk k l x o ks::ns,f=>by
   rw[qQ];split;·simp only[kS,nk];rw[aoD,Xd own t ns]
   simp only[kS];rw[Xc,Xd own t ns]
variable (it:Nat->Bs)
mutual
theorem aes(c:Nat) : ∀n:Nd,nk (dy it c n).1=nk n
 | .mk k l x o ks=>by
   rw[dy];split;·show nk (.mk k l x o (qQ _ _ true (fC it (c+1) ks).1))=_;simp only[nk];rw[Xd,Xe (c+1) ks]
   show nk (.mk k l x o (fC it c ks).1)=_;simp only[nk];rw[Xe c ks]
theorem Xe(c:Nat) : ∀ks:List Nd,kS (fC it c ks).1=kS ks
 | []=>by rw[fC]
 | n::ks=>by
   rw[fC];show kS ((dy it c n).1::(fC it (dy it c n).2 ks).1)=_;simp only[kS];rw[aes c n,Xe _ ks]
end
mutual
theorem Q8{M M':Nat}(h:M<=M') : ∀n:Nd,qS M n->qS M' n
 | .mk k l x o ks,g=>⟨cy g.1 h,MO h ks g.2⟩
theorem MO{M M':Nat}(h:M<=M') : ∀ks:List Nd,te M ks->te M' ks
 | [],_=>trivial
 | n::ks,g=>⟨Q8 h n g.1,MO h ks g.2⟩
end
mutual
theorem Xf{M T:Nat}{t:Bs}(ht:t.length<=T) : ∀(n:Nd) (own:List Bs),qS M n->qS (M+T) (ta own t n)
 | .mk k l x o ks,own,g=>by
   rw[ta];split;·exact⟨by rw[cG];have:=g.1;omega,MO Om ks g.2⟩
   exact⟨cy g.1 Om,Q9 ht ks _ g.2⟩
theorem Q9{M T:Nat}{t:Bs}(ht:t.length<=T) : ∀(ks:List Nd) (own:List Bs),te M ks->te (M+T) (nR own t ks)
 | [],_,_=>trivial
 | n::ks,own,g=>⟨Xf ht n own g.1,Q9 ht ks own g.2⟩
end
theorem aoE{M T:Nat}{t:Bs}(ht:t.length<=T)(own:List Bs)(ks:List Nd)(g:te M ks):te (M+T) (ML own t ks):=by
 match ks,g with
 | [],_=>trivial
 | [a],g=>exact Q9 ht [a] own g
 | a::b::r,g=>exact⟨Xf ht a own g.1,Q8 Om b g.2.1,Q9 ht r own g.2.2⟩
theorem Xg{M T:Nat}{t:Bs}(ht:t.length<=T)(own:List Bs) : ∀(ks:List Nd) (f:Bool),te M ks->te (M+T) (qQ own t f ks)
 | [],f,_=>by simp[qQ,te]
 | .mk k l x o ks::ns,f,g=>by
   rw[qQ];split;·exact⟨⟨cy g.1.1 Om,aoE ht own ks g.1.2⟩,Xg ht own ns _ g.2⟩
   exact⟨Xf ht _ own g.1,Xg ht own ns _ g.2⟩
mutual
theorem aet(c:Nat) : ∀n:Nd,c<=(dy it c n).2/\(dy it c n).2<=c+cu n
 | .mk k l x o ks=>by
   rw[dy,cu];split;·have:=Xh (c+1) ks;exact⟨by show c<=(fC it (c+1) ks).2;omega,by show(fC it (c+1) ks).2<=_;omega⟩
   have:=Xh c ks;exact⟨by show c<=(fC it c ks).2;omega,by show(fC it c ks).2<=_;omega⟩
theorem Xh(c:Nat) : ∀ks:List Nd,c<=(fC it c ks).2/\(fC it c ks).2<=c+aZ ks
 | []=>by rw[fC];exact⟨ai _,ai _⟩
 | n::ks=>by
   rw[fC,aZ];have h1:=aet c n;have h2:=Xh (dy it c n).2 ks;exact⟨by show c<=(fC it (dy it c n).2 ks).2;omega,by show(fC it (dy it c n).2 ks).2<=_;omega⟩
end
mutual
theorem aeu{M C T:Nat}(hT : ∀i,i<=C->(it i).length+1<=T) : ∀(n:Nd) (c:Nat),c+cu n<=C->qS M n->qS (M+eX n*T) (dy it c n).1
 | .mk k l x o ks,c,hc,g=>by
   rw[cu] at hc;rw[dy,eX,N6];split;·refine⟨cy g.1 Om,?_⟩;rw[<-oa];exact Xg (by rw[bN];exact hT _ Om) _ _ _ (Xi hT ks (c+1) Om g.2)
   exact⟨cy g.1 Om,MO Om _ (Xi hT ks c Om g.2)⟩
theorem Xi{M C T:Nat}(hT : ∀i,i<=C->(it i).length+1<=T) : ∀(ks:List Nd) (c:Nat),c+aZ ks<=C->te M ks->te (M+gk ks*T) (fC it c ks).1
 | [],c,_,_=>by rw[fC];exact trivial
 | n::ks,c,hc,g=>by
   rw[aZ] at hc;rw[fC,gk];have h1:=aet it c n;refine⟨Q8 (Nat.add_le_add_left (zU _ (yr _ _)) _) _ (aeu hT n c Om g.1),MO (Nat.add_le_add_left (zU _ (yt _ _)) _) _ (Xi hT ks _ Om g.2)⟩
end
theorem aoF{k:Nat}{x:Bs}{o:Nat}{ks:List Nd}(h:gm k x o ks)(hk:k=55\/k=56\/k=57):ks≠ []:=by
 rcases hk with rfl | rfl | rfl
 all_goals
  unfold gm at h;simp at h;rintro rfl;simp at h
theorem aev : ∀n:Nd,mY n->WX n
 | .mk k l x o ks,h=>by
   refine⟨⟨λe=> ?_,λe=>aoF h.1 e⟩,λe=> ?_,c ks h.2⟩;·subst e;exact(Q4 h.1).1
   subst e;obtain⟨a,b,rfl⟩:=aem h.1;rfl
where c : ∀ks:List Nd,fB ks->WY ks
 | [],_=>trivial
 | n::ks,h=>⟨aev n h.1,c ks h.2⟩
end
section
structure Wh where
 f:Nat
 lp:Bool
 hd:Bool
 mb:Bool
abbrev Ev:=Nd×Wh
def Wh.no(h:Wh):Wh:=⟨h.f,h.lp,h.hd,false⟩
def Wh.me(h:Wh):Wh:=⟨h.f,h.lp,h.hd,true⟩
def uh (k c:Nat)(h:Wh):Wh:=if k=8\/k=50 then ⟨c,false,false,false⟩ else ⟨h.f,decide (k=6\/k=7)||h.lp,decide (k=21)||h.hd,false⟩
mutual
def bu (c:Nat)(h:Wh):Nd->List Ev×Nat
 | .mk k l x o ks=>if k=9 then (match ks with
    | [a, .mk bk bl bx bo bs]=>let r:=bu c h.no a;let s:=iO r.2 h.no bs;((.mk k l x o [a, .mk bk bl bx bo bs],h)::(r.1++s.1),s.2)
    | ks=>([(.mk k l x o ks,h)],c))
   else let r:=pE (if k=8\/k=50 then c+1 else c) (uh k (c+1) h) ks;((.mk k l x o ks,h)::r.1,r.2)
def pE (c:Nat)(h:Wh):List Nd->List Ev×Nat
 | []=>([],c)
 | n::ks=>let r:=bu c h n;let s:=pE r.2 h ks;(r.1++s.1,s.2)
def iO (c:Nat)(h:Wh):List Nd->List Ev×Nat
 | []=>([],c)
 | .mk k l x o (p::v::r)::ms=>if k=3 then let a:=bu c h v;let s:=iO a.2 h ms;((.mk k l x o (p::v::r),h.me)::(a.1++s.1),s.2)
   else let a:=bu c h.me (.mk k l x o (p::v::r));let s:=iO a.2 h ms;(a.1++s.1,s.2)
 | n::ms=>let a:=bu c h.me n;let s:=iO a.2 h ms;(a.1++s.1,s.2)
end
mutual
def nS:Nd->Prop
 | .mk k _ _ _ ks=>((k=9\/k=8\/k=50->ks.length=2)/\(k=3->2<=ks.length))/\lz ks
def lz:List Nd->Prop
 | []=>True
 | n::ks=>nS n/\lz ks
end
mutual
theorem Xj : ∀n:Nd,nS (nk n)↔nS n
 | .mk k l x o ks=>by simp only[nk,nS,WZ,aew ks]
theorem aew : ∀ks:List Nd,lz (kS ks)↔lz ks
 | []=>Iff.rfl
 | n::ks=>by simp only[kS,lz,Xj n,aew ks]
end
theorem MP : ∀ {ks:List Nd} {n:Nd},lz ks->n∈ks->nS n
 | m::ks,n,h,hn=>by
   rcases List.mem_cons.1 hn with rfl | hn
   ·exact h.1
   exact MP h.2 hn
structure al where
 nm:Bs
 par:Int
 ps:List Bs
 ls:List Bs
 cs:List Bs
 fs:List Bs
 gen:Bool
 g:List Bs
 o:List Bs
def tf (n:Nd):Bool:=decide (n.kind=8\/n.kind=50)
def sg:al:=⟨[109,97,105,110],-1,[],[],[],[],false,[],[]⟩
def MQ (e:Ev):al:=⟨if e.1.kind=8 then e.1.text else [108,97,109,98,100,97],e.2.f,(cV e.1.kids).kids.map Nd.text,[],[],[],false,[],[]⟩
def kT (es:List Ev):List al:=sg::(es.filter λe=>tf e.1).map MQ
def Dn (e:Ev)(F:al):al:= { F with g:=if e.1.kind=17 then F.g++e.1.kids.map Nd.text else F.g,o:=if e.1.kind=18 then F.o++e.1.kids.map Nd.text else F.o,gen:=F.gen||decide (e.1.kind=60) }
def yc (f:Nat)(F:al)(s:Bs):al:=if s= []\/s∈F.ps\/s∈F.ls\/s∈F.g\/s∈F.o\/(f=0/\(46:UInt8)∉s) then F else { F with ls:=F.ls++ [s] }
def kz (e:Ev):List Bs:=
 if e.1.kind=3 then (if e.2.mb=true then [] else eP e.1.kids.dropLast)
 else if e.1.kind=4\/e.1.kind=7\/e.1.kind=58 then fG (cV e.1.kids)
 else if e.1.kind=19 then (if (cV e.1.kids).kind=36 then [(cV e.1.kids).text] else [])
 else if e.1.kind=8 then (if e.2.mb=true then [] else [e.1.text])
 else if e.1.kind=9\/e.1.kind=16\/e.1.kind=21 then [e.1.text]
 else []
def tg (e:Ev)(F:al):al:=(kz e).foldl (yc e.2.f) F
def fo (fns:List al)(i:Nat)(u:al->al):List al:=fns.modify i u
def ui (fns:List al)(es:List Ev):List al:=es.foldl (λfns e=>fo fns e.2.f (Dn e)) fns
def vE (fns:List al)(es:List Ev):List al:=es.foldl (λfns e=>fo fns e.2.f (tg e)) fns
def jp(es:List Ev):List al:=vE (ui (kT es) es) es
def al.binds(F:al)(s:Bs):Prop:=s∈F.ps\/s∈F.ls
instance (F:al) (s:Bs):Decidable (F.binds s):=inferInstanceAs (Decidable (_\/_))
def Do (fns:List al)(s:Bs)(least:Int):Nat->Int->Bool
 | 0,_=>false
 | n+1,g=>if g<least then false else match fns[g.toNat]? with
   | none=>false
   | some G=>if G.binds s then true else if s∈G.g then false else Do fns s least n G.par
def mZ(fns:List al)(f:Nat)(s:Bs)(least:Int):Bool:=match fns[f]? with
 | none=>false
 | some F=>Do fns s least fns.length F.par
def th (n:Nd):Bool:=decide (n.kind=8\/n.kind=11)||(decide (n.kind=2)&&decide ((cV n.kids).kind=32))||(decide (n.kind=3)&&decide (n.kids.length=2)&&decide ((cV n.kids).kind=36))
def Dp:List Bs->Bool
 | []=>false
 | x::r=>decide (x∈r)||Dp r
def jy(fns:List al)(e:Ev):Bool:=
 let G:=fns.getD e.2.f sg
 if (e.1.kind=10\/e.1.kind=60)/\e.2.f=0 then true
 else if (e.1.kind=12\/e.1.kind=13)/\e.2.lp=false then true
 else if e.1.kind=14/\e.1.kids= []/\e.2.hd=false then true
 else if e.1.kind=23/\Dp (e.1.kids.map Nd.text)=true then true
 else if e.1.kind=17/\(e.1.kids.any λk=>decide (k.text∈G.ps)||decide (k.text∈G.o))=true then true
 else if e.1.kind=18/\(e.1.kids.any λk=>decide (e.2.f=0)||decide (k.text∈G.ps) || !mZ fns e.2.f k.text 1)=true then true
 else e.2.mb && !th e.1
def eQ(fns:List al)(f:Nat)(s:Bs):List al:=fo fns f λF=>if s= []\/F.binds s\/s∈F.g\/s∈F.fs\/mZ fns f s 0=false then F else { F with fs:=F.fs++ [s] }
def nT (F:al)(s:Bs):al:=if F.binds s\/s∈F.fs then F else { F with fs:=F.fs++ [s] }
def zx(fns:List al)(f g:Nat):List al:=fo fns f λF=>((fns.getD g sg).fs).foldl nT F
mutual
def cD (st:List al×Nat)(f:Nat)(mb:Bool):Nd->List al×Nat
 | .mk k l x o ks=>if k=17 then st
   else if k=8\/k=50 then (match ks with
    | [p,b]=>let r:=cD (if k=8/\mb=false then eQ st.1 f x else st.1,st.2+1) (st.2+1) false b;(zx r.1 f (st.2+1),r.2)
    | ks=>st)
   else if k=9 then (match ks with
    | [a, .mk bk bl bx bo bs]=>jq (cD (eQ st.1 f x,st.2) f false a) f bs
    | ks=>st)
   else mr (if k=36\/k=16\/k=21 then (eQ st.1 f x,st.2) else st) f ks
def mr (st:List al×Nat)(f:Nat):List Nd->List al×Nat
 | []=>st
 | n::ks=>mr (cD st f false n) f ks
def jq (st:List al×Nat)(f:Nat):List Nd->List al×Nat
 | []=>st
 | .mk k l x o (p::v::r)::ms=>if k=3 then jq (cD st f false v) f ms else jq (cD st f true (.mk k l x o (p::v::r))) f ms
 | n::ms=>jq (cD st f true n) f ms
end
def vF(fns:List al)(f:Nat):List Bs:=(fns.filter λG=>decide (G.par=(f:Int))).flatMap al.fs
def sh (tk:List Bs):List Bs->List Bs->List Bs
 | [],cs=>cs
 | s::r,cs=>sh tk r (if s∈tk/\s∉cs then cs++ [s] else cs)
def qT (fns:List al)(f:Nat)(F:al):al:= { F with cs:=sh (vF fns f) (F.ps++F.ls) [] }
def uj (t:Nd):Except Int (List al):=
 let es:=(bu 0 ⟨0,false,false,false⟩ t).1
 let fns:=jp es
 match es.find? (jy fns) with
 | some e=> .error e.1.line
 | none=>let fr:=(cD (fns,0) 0 false t).1;.ok (fr.mapIdx λf F=>qT fr f F)
end
section
open Go Go.RowKit
theorem aoG{T:cw}{a t:bQ}{fr:Fr}{H:CH}{Q:bp->Fr->CH->Prop}(M:bp->Fr->CH->Prop)(h1:dh T a fr H M)(h2 : ∀x fr' H',M x fr' H'->CI T t Q x fr' H'):dh T (.seq a t) fr H Q:=by
 rw[dx];exact h1.mono h2
def fU (x:Bs):List ae:= [.string (tx x)]
theorem BI : ∀x:Bs,(fU x).length=1/\(fU x).all a8=true:=λ_=>⟨rfl,rfl⟩
theorem zy : ∀xs:List Bs,xs.flatMap fU=xs.map λx=>Value.string (tx x)
 | []=>rfl
 | a::r=>by rw[tw,zy];rfl
def NL (K:CH)(v:ae)(xs:List Bs):Prop:=∃q c,v= .slice q xs.length c/\ig 1 (λ_ cs x=>cs= [.string (tx x)]) K q c xs
theorem NL.nil{K:CH}:NL K (.slice none 0 0) []:=⟨none,0,rfl, .inl ⟨rfl,rfl, .inl rfl⟩⟩
theorem NL.ext{K K':CH}{v:ae}{xs:List Bs}(h:NL K v xs)(hx:ag K K'):NL K' v xs:=by
 obtain⟨q,c,rfl,h⟩:=h;exact⟨q,c,rfl,ig.jX (λ_ _ _ _ _ h=>h) hx h⟩
theorem NL.len{K:CH}{v:ae}{xs:List Bs}(h:NL K v xs) : ∃q c,v= .slice q xs.length c/\xs.length<=c/\c<=maxLen:=by
 obtain⟨q,c,rfl,h⟩:=h;rcases h with ⟨rfl,rfl,_⟩ | ⟨l,o,os,e,kd,rfl,_,h2,h3,_⟩
 ·exact⟨q,0,rfl,ai _,bR _⟩
 exact⟨_,c,rfl,h2,h3⟩
theorem NL.cell{K:CH}{v:ae}{xs:List Bs}(h:NL K v xs){i:Nat}(hi:i<xs.length) : ∃l o c os e kd,v= .slice (some ⟨l,o,none⟩) xs.length c/\K.ob l= .cells os e kd/\o+xs.length<=os.length/\os[o+i]? = some (.string (tx xs[i])):=by
 obtain⟨q,c,rfl,h⟩:=h;rcases h with ⟨rfl,_⟩ | ⟨l,o,os,e,kd,rfl,h1,h2,h3,h4,h5,a⟩
 ·cases hi
 have g:=a i hi;simp only[Nat.mul_one] at g h5;rw[mz Om] at g;simp only[qx,vU,List.cons.injEq,and_true] at g;exact⟨l,o,c,os,e,kd,rfl,h4,h5,by rw[cj Om,g]⟩
abbrev Dq(A K:CH)(v:ae)(xs:List Bs):Prop:=eV A 9 1 fU K v xs
theorem Dq.nl{A K:CH}{v:ae}{xs:List Bs}(h:Dq A K v xs)(a:xs.length<=9223372036854775807):NL K v xs:=by
 rcases h with ⟨rfl,rfl⟩ | ⟨b,kd,rfl,h1,h2,h3,h4⟩
 ·exact NL.nil
 rw[zy] at h3;refine⟨_,_,rfl, .inr ⟨b,0,_,_,_,rfl,h2,ai _,by rw[gE];omega,h3,Sm,λi hi=> ?_⟩⟩;rw[ba,Nat.mul_one,mz (by simpa using hi)];simp
structure GS(K K':CH)(v v':ae):Prop where
 nx:K.nx<=K'.nx
 ob : ∀b,b<K.nx->ir v b->K'.ob b=K.ob b
 off : ∀b,b<K.nx->ir v b->ir v' b
theorem GS.trans{K K' a:CH}{v v' v2:ae}(h:GS K K' v v')(g:GS K' a v' v2):GS K a v v2:=⟨cy h.nx g.nx,λb hb ho=>(g.ob b (cQ hb h.nx) (h.off b hb ho)).trans (h.ob b hb ho),λb hb ho=>g.off b (cQ hb h.nx) (h.off b hb ho)⟩
theorem GS.ext{K K':CH}{v:ae}(h:ag K K'):GS K K' v v:=⟨h.nx,λb hb _=>h.ob b hb,λ_ _ h=>h⟩
theorem eV.nx{α:Type}{A:CH}{e sz:Nat}{f:α->List ae}{K K':CH}{v:ae}{xs:List α}(h:eV A e sz f K v xs)(hn:K.nx<=K'.nx)(hx : ∀b,A.nx<=b->b<K.nx->(∃n c,v= .slice (some ⟨b,0,none⟩) n c)->K'.ob b=K.ob b):eV A e sz f K' v xs:=by
 rcases h with h | ⟨b,kd,rfl,h1,h2,h3,h4⟩
 ·exact .inl h
 exact .inr ⟨b,kd,rfl,h1,Om,(hx b h1 h2 ⟨_,_,rfl⟩).trans h3,h4⟩
theorem aoH{A K:CH}{v:ae}{xs:List Bs}{y:Bs}(hg:Dq A K v xs)(hA:A.nx<=K.nx)(hb:xs.length+1<=4398046511104){us:List ae}(hu:us=fU y){Q:ae->CH->Prop}(k : ∀v' K',Dq A K' v' (xs++ [y])->GS K K' v v'->Q v' K'):uV (lY 9 1 16 v us 1 K) Q:=
 Di BI hg Om Om hu λK' a g d=>k _ _ (.inr ⟨K.nx, .gr,Sm,hA,Om,a,rfl⟩) ⟨Om,d,λb hb _ o n c e=>by cases e;omega⟩
theorem aex{cs:List ae}{j:Nat}{a0 a a2 a3 a4:ae}(h:(cs.drop j).take 5= [a0,a,a2,a3,a4]):cs[j]? = some a0/\cs[j+1]? = some a/\cs[j+2]? = some a2/\cs[j+3]? = some a3/\cs[j+4]? = some a4:=by
 have e : ∀k,k<5->cs[j+k]? = ([a0,a,a2,a3,a4]:List ae)[k]? :=λk hk=>by
  rw[<-h,sA hk,pI]
 exact⟨e 0 Om,e 1 Om,e 2 Om,e 3 Om,e 4 Om⟩
theorem Dq.aey{A K:CH}{v:ae}{xs:List Bs}(h:Dq A K v xs){b:Nat}(hb:b<A.nx):ir v b:=λo n c e=>by
 rcases h with ⟨_,g⟩ | ⟨a,d,g,g1,g2,_⟩
 ·rw[g] at e;cases e
 rw[g] at e;cases e;omega
end
end Can
end Go.Proofs.YticlaccbodpkeaaGreatDoor
