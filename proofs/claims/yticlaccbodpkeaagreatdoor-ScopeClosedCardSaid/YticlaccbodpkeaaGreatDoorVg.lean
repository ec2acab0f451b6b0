/- Parse, the program: the closure that Parse defers. Parse, the program: its small steps, as runs over trees. Parse, the program: steps along the grammar. Parse: how high the trees are. No program in sight. (Printed by tools/genpsh.py.). Parse, the program: leaf, single, place. Parse, the program: its rules, as runs over trees, along the grammar. (Printed by tools/genpw3.py.). Parse, the program: all its rules, along the grammar. (Printed by tools/genpw3.py.). Parse, the program: parse.Parse, ahead of its deferred call. Parse, the program: parse.Parse answers parseT. Lex, the document: words, symbols, names. Lex, the document: digits, blanks, base, stands. Lex, the document: number. Lex, the document: text. Lex, the document: next. Lex, the document: lines. Lex, the document: what is open and what is out. Lex, the document: Lex. Parse, the document: the reader in memory; its looks at a token. (Printed by tools/gendoc.py.). Parse, the document: the reader as the one object of runs over trees; nodes of any content. Parse, the document: its small steps, as runs over trees. Parse, the document: its rules when a token has been found that can't stand there: nothing more is read. (Printed by tools/gendb.py.). Parse, the document: steps along the grammar, in good mode. (Printed by tools/gendd.py.). Parse, the document: leaf, single, place. (Printed by tools/gende.py.). Parse, the document: single and place, asked of a node of any content. Parse, the document: Height. (Printed by tools/ -/
import Derived.Test.YticlaccbodpkeaaGreatDoorVd
import Derived.Test.YticlaccbodpkeaaGreatDoorVf
import Derived.Test.YticlaccbodpkeaaGreatDoorVe
import Derived.Test.YticlaccbodpkeaaGreatDoorVa
open Array renaming getD_eq_getD_getElem? → ou, getElem?_setIfInBounds → R9
open Bool renaming false_eq_true → iV
open Go renaming Addr → cm, FuncId → aU, TypeId → aI, Value → ae, World → aq
open Go.Fence renaming wide → iW
open Go.Value renaming cells → dp
open List renaming append_assoc → rP, append_nil → jz, cons_append → jU, drop_eq_getElem_cons → rQ, drop_length → Ak, ext_getElem → NA, flatMap_append → NF, flatMap_cons → vU, getElem?_eq_getElem → bM, length_append → cO, length_cons → cw, length_map → fh, length_nil → cX, mem_of_getElem? → fi, take_append_drop → Al, take_length → pQ, take_succ_eq_append_getElem → rL
open Nat renaming add_assoc → mP, le_add_right → NH, le_max_left → wX, le_max_right → wY, le_refl → al, le_trans → bW, lt_of_lt_of_le → cj, lt_succ_of_lt → yu, lt_succ_self → iC, not_lt_zero → fM, zero_add → bJ, zero_le → cx, zero_mul → xb
open Option renaming getD_some → sR
open SizeOf renaming sizeOf → dR
open True renaming intro → D7
set_option maxRecDepth 4000
set_option maxHeartbeats 8000000
set_option linter.unusedSimpArgs false
set_option linter.unusedVariables false
namespace Go.Proofs.YticlaccbodpkeaaGreatDoor
namespace Can
section
open Go Go.RowKit
theorem amn:abL Tryz.prog 68 3:=by
 intro args w ha;match args,ha with
 | [d,v2,v3],_=>
   refine callsDIn_of_wpSIn Tryz.func68 rfl trivial λa cs hu=> ?_;have c:(Tryz.f68).ntmps=20:=by rfl
   rw[c];apply wpSIn_seq;apply wpSIn_region;simp[wpOpsSIn,go_sem,recoverD,hu,Exit.thenS];refine wpSIn_of_wpIn rfl (wpIn_seq (wpIn_region ?_));simp[wpOpsIn,go_sem];refine wpIn_cond_false (by simp[Act.eval]) (wpIn_skip ?_);simp[bodyPostS,results,Tryz.f68];cases a;simp_all
def V':Code->Array Oper
 | .seq _ b=>V' b
 | .cond _ a _=>V' a
 | .region _ ops _=>ops
 | _=> #[]
noncomputable def IC:Array Oper:=V' ((Tryz.f68).body.getD .skip)
noncomputable def FF:jB:=(kf Tryz.prog 20 IC).getD ⟨[],[],none⟩
theorem amo:CB Tryz.prog 20 IC FF/\CD Tryz.prog 20 IC FF:=by
 refine OG ?_;unfold FF;have h:(kf Tryz.prog 20 IC).isSome=true:=by kernel_rfl
 cases a:kf Tryz.prog 20 IC with
 | none=>rw[a] at h;cases h
 | some l=>rfl
def Dn (H:CH)(l:Int):CH:=(H.new (.cells [.int .i64 0] 116 .ex)).set H.nx (.cells [.int .i64 l] 116 .ex)
def L9 (args:List ae)(v:ae)(H H':CH):Prop:=args.length=3/\∃l,v=nZ l/\cM (ba Tryz.prog LG GG) (.lB FF) (λt=>if t=4 then .pointer (some ⟨H.nx,0,none⟩) else args.getD t undef) (Dn H l) λx _ K=>x= .normal/\K=H'
noncomputable def Ma:Code:=match (Tryz.f68).body with
 | some (.seq _ (.seq _ (.cond _ x _)))=>x
 | _=> .skip
noncomputable def gd0:Array Oper:=match (Tryz.f68).body with
 | some (.seq (.region _ ops _) _)=>ops
 | _=> #[]
noncomputable def gd1:Array Oper:=match (Tryz.f68).body with
 | some (.seq _ (.seq (.region _ ops _) _))=>ops
 | _=> #[]
noncomputable def uw:Array Oper:=match Ma with
 | .seq (.region _ ops _) _=>ops
 | _=> #[]
noncomputable def gd3:Array Oper:=match Ma with
 | .seq _ (.seq (.seq (.region _ ops _) _) _)=>ops
 | _=> #[]
noncomputable def gd4:Code:=match Ma with
 | .seq _ (.seq (.seq _ (.cond _ x _)) _)=>x
 | _=> .skip
theorem amp{j:Act->aq->Prop}{m:Exit->Act->aq->Prop}{a:Act}{w:aq}{l:Int}(h3:a.tmps.getD 3 undef=nZ l)(hs:20<=a.tmps.size)
 (k : ∀a',a'.defers=a.defers->20<=a'.tmps.size->(∀t,t<3->a'.tmps.getD t undef=a.tmps.getD t undef)->a'.tmps.getD 12 undef= .agg #[.int .i64 l]->a'.tmps.getD 13 undef= .bool true->j a' w):wpOpsIn iW 0 Tryz.prog uw (O1 j m) [0,1,2,3,4] a w:=by
 have n : ∀(xt:aI) (v:ae) (w:aq),(Instr.typeAssert (.iface 116 v) xt 116 true).run Tryz.prog w= .ok (.tuple #[v, .bool true]) w:=λxt v w=>by kernel_rfl
 have o:9<a.tmps.size:=by omega
 have g:10<a.tmps.size:=by omega
 have h:11<a.tmps.size:=by omega
 have c:12<a.tmps.size:=by omega
 have d:13<a.tmps.size:=by omega
 unfold nZ at h3;simp only[ou] at h3 k;have e:uw=_:=rfl;conv at e=>rhs;whnf
 rw[e];simp[wpOpsIn,go_sem,O1,n,h3,o,g,h,c,d];refine k _ rfl (by simpa using hs) (λt ht=> ?_) ?_ ?_
 ·have g9:9≠t:=by omega
  have g10:10≠t:=by omega
  have g11:11≠t:=by omega
  have g12:12≠t:=by omega
  have g13:13≠t:=by omega
  simp[R9,g9,g10,g11,g12,g13]
 ·simp[R9,c]
 simp[R9,d]
noncomputable def Mb:List Item:=(tg Tryz.prog 20 uw (uw.toList.drop 5)).getD []
theorem amq:tg Tryz.prog 20 uw (uw.toList.drop 5)=some Mb:=by
 unfold Mb;have h:(tg Tryz.prog 20 uw (uw.toList.drop 5)).isSome=true:=by kernel_rfl
 cases a:tg Tryz.prog 20 uw (uw.toList.drop 5) with
 | none=>rw[a] at h;cases h
 | some l=>rfl
theorem amr{H:CH}{l:Int}{fr:Fr}(a:fr 12= .agg #[.int .i64 l])(c:fr 13= .bool true):pB (ba Tryz.prog LG GG) Mb fr H λaj H1=>aj 0=fr 0/\aj 1=fr 1/\aj 2=fr 2/\aj 4= .pointer (some ⟨H.nx,0,none⟩)/\aj 5= .bool true/\H1=Dn H l:=by
 unfold Dn;conv in Mb=>reduce
 exact rz (an @a @c)
theorem ams{B:Nat}{β:Nat->aB}{w:aq}{c d g r v2 v3:ae}{l:Int}{H H':CH}{a:Act}{Q:Exit->Act->aq->Prop}(G:aE Tryz.prog B β H w)(I:aQ β [c,d,g] [r,v2,v3])(J:L9 [c,d,g] (nZ l) H H')(h3:a.tmps.getD 3 undef=nZ l)(hs:20<=a.tmps.size)
 (ha : ∀i,i<3->a.tmps.getD i undef= [r,v2,v3].getD i undef)
 (L : ∀β' w' a',aE Tryz.prog B β' H' w'->bB β w β' w'->a'.defers=a.defers->Q .normal a' w'):Ma.wpIn iW 0 Tryz.prog Q a w:=by
 obtain⟨_,l',hl,n,x,v,K',h,rfl,rfl⟩:=J;have hl:l'=l:=by
  unfold nZ at hl;injection hl with _ hl
  injection hl with hl
  simpa using hl.symm
 subst hl;show(Code.seq (.region 2 uw false) (.seq (.seq (.region 3 gd3 false) (.cond (.tmp 15) gd4 .skip)) (.region 5 IC true))).wpIn iW 0 Tryz.prog Q a w;refine wpIn_seq_k λK M=>wpIn_region ?_;show wpOpsIn iW 0 Tryz.prog uw _ ([0,1,2,3,4]++ [5,6,7]) a w;refine KT [5,6,7] [0,1,2,3,4] a w (amp h3 hs λA N O s S T=> ?_);have U:FR β 20 (λt=>if t<3 then [c,d,g].getD t undef else if t=12 then .agg #[.int .i64 l'] else if t=13 then .bool true else undef) A:=by
  refine⟨O,λt=> ?_⟩;show VR β (if t<3 then [c,d,g].getD t undef else if t=12 then .agg #[.int .i64 l'] else if t=13 then .bool true else undef) _;split
  ·rename_i ht;rw[s t ht,ha t ht];obtain⟨z,V,z2⟩:=I.2 t ([c,d,g].getD t undef) (by
    obtain rfl | rfl | rfl:t=0\/t=1\/t=2:=by omega
    all_goals rfl)
   have e : [r,v2,v3].getD t undef=z:=by rw[List.getD_eq_getElem?_getD,V];rfl
   rw[e];exact z2
  split;·rename_i e;subst e;rw[S];exact Hn rfl β
  split;·rename_i e;subst e;rw[T];exact .bool _
  exact .undef _
 obtain⟨m,aj,H1,Y,g0,g1,g2,g4,g5,rfl⟩:=amr (H:=H) (l:=l') (fr:=λt=>if t<3 then [c,d,g].getD t undef else if t=12 then .agg #[.int .i64 l'] else if t=13 then .bool true else undef) rfl rfl;obtain⟨hl,ui⟩:=J' amq;refine J3 (ro:=none) (uZ La m) [5,6,7] Mb β _ aj H _ A w (by rw[hl];rfl) (λk h1 h2=> ?_) G U Y fun β2 w2 a2 q1 q2 j q4=> ?_
 ·have hk:k<(uw.toList.drop 5).length:=by rw[<-hl];exact h1
  refine⟨(uw.toList.drop 5)[k],?_,ui k h1 hk⟩;have xR:k<3:=by simpa using h2
  obtain rfl | rfl | rfl:k=0\/k=1\/k=2:=by omega
  all_goals rfl
 refine M _ _ ?_;have h5:a2.tmps.getD 5 undef= .bool true:=by
  have:=j.2 5;rw[g5] at this;exact this.Aw
 have iH:=j.1;refine wpIn_seq (wpIn_seq (wpIn_region ?_));have C:gd3=_:=rfl;conv at C=>rhs;whnf
 rw[C];have u:14<a2.tmps.size:=by omega
 have o:15<a2.tmps.size:=by omega
 simp only[ou] at h5;simp[wpOpsIn,go_sem,h5,u,o];refine wpIn_cond_false (by simp[Act.eval,R9,o]) (wpIn_skip ?_);have Ct:tc (cU (ba Tryz.prog LG GG) n) FF (λt=>if t=4 then .pointer (some ⟨H.nx,0,none⟩) else [c,d,g].getD t undef) (Dn H l')=some (v,K'):=by
  simp only[br] at h;cases D:tc (cU (ba Tryz.prog LG GG) n) FF (λt=>if t=4 then .pointer (some ⟨H.nx,0,none⟩) else [c,d,g].getD t undef) (Dn H l') with
  | none=>rw[D] at h;simp at h
  | some q=>rw[D] at h;simp at h;rw[<-h.1,<-h.2]
 refine amo.1 B _ none β2 _ v _ K' _ w2 5 Q (uZ La n) q1 ?_ Ct fun β3 w3 a3 p1 p2 p3 p4=>L β3 w3 a3 p1 (q2.trans p2) (p4.trans (q4.trans N));refine⟨by simpa using iH,λt=> ?_⟩;by_cases p:t=15
 ·subst p;exact .undef _
 by_cases F:t=14
 ·subst F;exact .undef _
 have e : ∀z y:ae,((a2.tmps.setIfInBounds 14 z).setIfInBounds 15 y).getD t undef=a2.tmps.getD t undef:=λz y=>by
  have g14:14≠t:=λe=>F e.symm;have g15:15≠t:=λe=>p e.symm;simp[ou,R9,g14,g15]
 show VR β2 (if t=4 then .pointer (some ⟨H.nx,0,none⟩) else [c,d,g].getD t undef) (Array.getD _ t undef);rw[e];split;·rename_i h4;subst h4;rw[<-g4];exact j.2 4
 match t with
 | 0=>have:=j.2 0;rw[g0] at this;exact this
 | 1=>have:=j.2 1;rw[g1] at this;exact this
 | 2=>have:=j.2 2;rw[g2] at this;exact this
 | n+3=>exact .undef _
theorem amt{B:Nat}:abM Tryz.prog B 68 L9:=by
 intro β w args k v v' H H' m d hv e;obtain⟨a,l,n,_⟩:=id e;subst n;have o:v'=nZ l:=by
  unfold nZ at hv⊢
  cases hv with
  | iface t hx=>rw[N8 rfl hx]
 subst o;match args,a,k,d with
 | [x,y,z],_,[A,v2,v3],d=>
   refine callsDIn_of_wpSIn (c:= .seq (.region 0 gd0 false) (.seq (.region 1 gd1 false) (.cond (.tmp 8) Ma .skip))) Tryz.func68 rfl trivial λC cs hu=> ?_;have q:(Tryz.f68).ntmps=20:=by rfl
   rw[q];have g:gd0=_:=rfl;conv at g=>rhs;whnf
   have j:gd1=_:=rfl;conv at j=>rhs;whnf
   rw[g,j];apply wpSIn_seq;apply wpSIn_region;simp[wpOpsSIn,go_sem,recoverD,hu,Exit.thenS];refine wpSIn_of_wpIn rfl (wpIn_seq (wpIn_region ?_));simp[wpOpsIn,go_sem,nZ];refine wpIn_cond_true (by simp[Act.eval]) (ams (l:=l) m d e (by simp[nZ]) Sm (λi hi=> ?_) fun β' w' D r s u=> ?_)
   ·obtain rfl | rfl | rfl:i=0\/i=1\/i=2:=by omega
    all_goals simp
   simp[bodyPostS,results,Tryz.f68];exact⟨u,β',r,s⟩
end
section
open Go Go.RowKit
attribute [local irreducible] TC ap ay iX
section
variable {Z:TP} {X:cY} {W:Int->ae} {ts:List PT} {sl:Sl} {R:ae->Prop} {Q:AV->List SV->Prop} {E:Nat->Prop} {P:List Nd->Nat->Prop} {i:Nat}
theorem adJ(C:dB Z X W ts sl)(h:i<ts.length){a:AV}(d:Q a (gS sl (i+1))):Q a [SV.sc (.slice sl.q sl.n sl.c),SV.sc (.int .i64 (IntKind.wrap .i64 ((i:Int)+1)))]:=by
 rw[adF h C.len];exact d
theorem wN(C:dB Z X W ts sl){s:List UInt8}(hs:s≠ [])(hi:i<=ts.length)(h1:ap ts i s=true->Q (rS (.bool true)) (gS sl i))(h2:ap ts i s=false->Q (rS (.bool false)) (gS sl i)):TC Z (ba Tryz.prog LG GG) X 137 [.ptr 0 0,rS (.string ⟨⟨s⟩⟩)] (jv sl i) Q R:=by
 refine adI C hs hi ?_;cases hb:ap ts i s with
 | true=>exact h1 hb
 | false=>exact h2 hb
theorem pK(C:dB Z X W ts sl){s:List UInt8}(hs:s≠ [])(hi:i<=ts.length)(h1:ap ts i s=true->i<ts.length->Q (rS (.bool true)) (gS sl (i+1)))(h2:ap ts i s=false->Q (rS (.bool false)) (gS sl i)):TC Z (ba Tryz.prog LG GG) X 99 [.ptr 0 0,rS (.string ⟨⟨s⟩⟩)] (jv sl i) Q R:=by
 refine hO gC Rl Kr (aV ?_)
 conv=>whnf
 refine adI C hs hi ?_;cases hb:ap ts i s with
 | false=>
   conv=>whnf
   exact h2 hb
 | true=>
   conv=>whnf
   exact adJ C (FC hb) (h1 hb (FC hb))
theorem Wb(C:dB Z X W ts sl){s:List UInt8}(hs:s≠ [])(hi:i<=ts.length)(h1:ap ts i s=true->i<ts.length->Q (.jX []) (gS sl (i+1)))(h2:ap ts i s=false->R (W (ay ts i).line)):TC Z (ba Tryz.prog LG GG) X 102 [.ptr 0 0,rS (.string ⟨⟨s⟩⟩)] (jv sl i) Q R:=by
 refine hO gC Rl Kr (aV ?_)
 conv=>whnf
 refine pK C hs hi (λhb hl=> ?_) (λhb=> ?_)
 ·conv=>whnf
  exact h1 hb hl
 conv=>whnf
 exact C.fail i _ _ hi (h2 hb)
theorem amu(C:dB Z X W ts sl){k:Int}(a:k≠0)(hi:i<=ts.length)(h1:(ay ts i).kind=k->i<ts.length->Q (rS (.string ⟨⟨(ay ts i).text⟩⟩)) (gS sl (i+1)))(h2:(ay ts i).kind≠k->R (W (ay ts i).line)):TC Z (ba Tryz.prog LG GG) X 106 [.ptr 0 0,rS (.int .i64 k)] (jv sl i) Q R:=by
 refine hO gC Rl Kr (aV ?_)
 conv=>whnf
 refine IB C hi ?_;conv=>whnf
 refine o9 (λhb=> ?_) (λhb=> ?_)
 ·conv=>whnf
  refine C.fail i _ _ hi (h2 ?_);simpa using hb
 have hk:(ay ts i).kind=k:=by simpa using hb
 have hl:i<ts.length:=Bz (by rw[hk];exact a);conv=>whnf
 exact adJ C hl (h1 hk hl)
theorem amv(C:dB Z X W ts sl)(hi:i<=ts.length)(a:Q (rS (.bool (iX ts i))) (gS sl i)):TC Z (ba Tryz.prog LG GG) X 142 [.ptr 0 0] (jv sl i) Q R:=by
 refine hO gC Rl Kr (aV ?_)
 conv=>whnf
 refine IB C hi ?_;obtain⟨t,ht⟩ : ∃t,ay ts i=t:=⟨_,rfl⟩;have hw:= @alZ ts i;have hs:= @al0 ts i;have hk:= @alX ts i;have hn:= @alY ts i;rw[ht] at hw hs hk hn⊢;obtain⟨kd,ln,tx⟩:=t;by_cases m:kd=4
 ·subst m;rw[hk (show(4:Int)<=4/\(4:Int)<=7 by decide)] at a;conv=>whnf
  exact a
 by_cases n:kd=5
 ·subst n;rw[hk (show(4:Int)<=5/\(5:Int)<=7 by decide)] at a;conv=>whnf
  exact a
 by_cases o:kd=6
 ·subst o;rw[hk (show(4:Int)<=6/\(6:Int)<=7 by decide)] at a;conv=>whnf
  exact a
 by_cases r:kd=7
 ·subst r;rw[hk (show(4:Int)<=7/\(7:Int)<=7 by decide)] at a;conv=>whnf
  exact a
 by_cases j:kd=8
 ·subst j;conv=>whnf
  refine wN C de hi (λ(c:ap ts i Ei=true)=> ?_) λ(c:ap ts i Ei=false)=> ?_
  ·conv=>whnf
   rw[hw rfl,c] at a;exact a
  conv=>whnf
  refine wN C de hi (λ(d:ap ts i uR=true)=> ?_) λ(d:ap ts i uR=false)=> ?_
  ·conv=>whnf
   rw[hw rfl,c,d] at a;exact a
  conv=>whnf
  refine wN C de hi (λ(g:ap ts i GR=true)=> ?_) λ(g:ap ts i GR=false)=> ?_
  ·conv=>whnf
   rw[hw rfl,c,d,g] at a;exact a
  conv=>whnf
  refine wN C de hi (λ(b3:ap ts i GU=true)=> ?_) λ(b3:ap ts i GU=false)=> ?_
  ·conv=>whnf
   rw[hw rfl,c,d,g,b3] at a;exact a
  conv=>whnf
  refine wN C de hi (λ(b4:ap ts i GV=true)=> ?_) λ(b4:ap ts i GV=false)=> ?_
  ·conv=>whnf
   rw[hw rfl,c,d,g,b3,b4] at a;exact a
  conv=>whnf
  rw[hw rfl,c,d,g,b3,b4] at a;exact a
 by_cases l:kd=9
 ·subst l;conv=>whnf
  refine wN C de hi (λ(c:ap ts i Ci=true)=> ?_) λ(c:ap ts i Ci=false)=> ?_
  ·conv=>whnf
   rw[hs rfl,c] at a;exact a
  conv=>whnf
  refine wN C de hi (λ(d:ap ts i Cj=true)=> ?_) λ(d:ap ts i Cj=false)=> ?_
  ·conv=>whnf
   rw[hs rfl,c,d] at a;exact a
  conv=>whnf
  refine wN C de hi (λ(g:ap ts i An=true)=> ?_) λ(g:ap ts i An=false)=> ?_
  ·conv=>whnf
   rw[hs rfl,c,d,g] at a;exact a
  conv=>whnf
  refine wN C de hi (λ(b3:ap ts i Ej=true)=> ?_) λ(b3:ap ts i Ej=false)=> ?_
  ·conv=>whnf
   rw[hs rfl,c,d,g,b3] at a;exact a
  conv=>whnf
  refine wN C de hi (λ(b4:ap ts i GQ=true)=> ?_) λ(b4:ap ts i GQ=false)=> ?_
  ·conv=>whnf
   rw[hs rfl,c,d,g,b3,b4] at a;exact a
  conv=>whnf
  rw[hs rfl,c,d,g,b3,b4] at a;exact a
 rw[hn (by simp only;omega) j l] at a;conv=>whnf
 refine o9 (λh=>absurd (by simpa using h) m) λ_=> ?_;conv=>whnf
 refine o9 (λh=>absurd (by simpa using h) n) λ_=> ?_;conv=>whnf
 refine o9 (λh=>absurd (by simpa using h) o) λ_=> ?_;conv=>whnf
 refine o9 (λh=>absurd (by simpa using h) r) λ_=> ?_;conv=>whnf
 refine o9 (λh=>absurd (by simpa using h) j) λ_=> ?_;conv=>whnf
 refine o9 (λh=>absurd (by simpa using h) l) λ_=> ?_;conv=>whnf
 exact a
theorem amw(C:dB Z X W ts sl)(hi:i<=ts.length)(h1:j7 ts i≠0->i<ts.length->Q (rS (.int .i64 (j7 ts i:Nat))) (gS sl (i+1)))(h2:j7 ts i=0->Q (rS (.int .i64 0)) (gS sl i)):TC Z (ba Tryz.prog LG GG) X 171 [.ptr 0 0] (jv sl i) Q R:=by
 refine hO gC Rl Kr (aV ?_)
 conv=>whnf
 refine pK C de hi (λ(a:ap ts i Sp=true) hl=> ?_) (λ(a:ap ts i Sp=false)=> ?_)
 ·conv=>whnf
  have e:j7 ts i=1:=by simp[j7,a]
  have h1:=h1 (by rw[e];decide) hl;rw[e] at h1;exact h1
 conv=>whnf
 refine pK C de hi (λ(c:ap ts i Sr=true) hl=> ?_) (λ(c:ap ts i Sr=false)=> ?_)
 ·conv=>whnf
  have e:j7 ts i=2:=by simp[j7,a,c]
  have h1:=h1 (by rw[e];decide) hl;rw[e] at h1;exact h1
 conv=>whnf
 refine pK C de hi (λ(d:ap ts i Ss=true) hl=> ?_) (λ(d:ap ts i Ss=false)=> ?_)
 ·conv=>whnf
  have e:j7 ts i=3:=by simp[j7,a,c,d]
  have h1:=h1 (by rw[e];decide) hl;rw[e] at h1;exact h1
 conv=>whnf
 refine pK C de hi (λ(b3:ap ts i St=true) hl=> ?_) (λ(b3:ap ts i St=false)=> ?_)
 ·conv=>whnf
  have e:j7 ts i=4:=by simp[j7,a,c,d,b3]
  have h1:=h1 (by rw[e];decide) hl;rw[e] at h1;exact h1
 conv=>whnf
 refine pK C de hi (λ(b4:ap ts i Su=true) hl=> ?_) (λ(b4:ap ts i Su=false)=> ?_)
 ·conv=>whnf
  have e:j7 ts i=5:=by simp[j7,a,c,d,b3,b4]
  have h1:=h1 (by rw[e];decide) hl;rw[e] at h1;exact h1
 conv=>whnf
 refine pK C de hi (λ(g:ap ts i Sv=true) hl=> ?_) (λ(g:ap ts i Sv=false)=> ?_)
 ·conv=>whnf
  have e:j7 ts i=6:=by simp[j7,a,c,d,b3,b4,g]
  have h1:=h1 (by rw[e];decide) hl;rw[e] at h1;exact h1
 conv=>whnf
 refine pK C de hi (λ(j:ap ts i Sw=true) hl=> ?_) (λ(j:ap ts i Sw=false)=> ?_)
 ·conv=>whnf
  have e:j7 ts i=7:=by simp[j7,a,c,d,b3,b4,g,j]
  have h1:=h1 (by rw[e];decide) hl;rw[e] at h1;exact h1
 conv=>whnf
 exact h2 (by simp[j7,a,c,d,b3,b4,g,j])
theorem amx(C:dB Z X W ts sl)(hi:i<=ts.length)(s : ∀e,jk ts i= .error e->R (W (ay ts e).line))(d : ∀op j,jk ts i= .ok (op,j)->j<=ts.length->Q (rS (.int .i64 (op:Nat))) (gS sl j)):TC Z (ba Tryz.prog LG GG) X 198 [.ptr 0 0] (jv sl i) Q R:=by
 refine hO gC Rl Kr (aV ?_)
 conv=>whnf
 refine pK C de hi (λ(a:ap ts i Se=true) hl=> ?_) (λ(a:ap ts i Se=false)=> ?_)
 ·conv=>whnf
  exact d 1 (i+1) (by simp[jk,a]) hl
 conv=>whnf
 refine pK C de hi (λ(c:ap ts i Sf=true) hl=> ?_) (λ(c:ap ts i Sf=false)=> ?_)
 ·conv=>whnf
  exact d 2 (i+1) (by simp[jk,a,c]) hl
 conv=>whnf
 refine pK C de hi (λ(g:ap ts i Sg=true) hl=> ?_) (λ(g:ap ts i Sg=false)=> ?_)
 ·conv=>whnf
  exact d 3 (i+1) (by simp[jk,a,c,g]) hl
 conv=>whnf
 refine pK C de hi (λ(b3:ap ts i Sh=true) hl=> ?_) (λ(b3:ap ts i Sh=false)=> ?_)
 ·conv=>whnf
  exact d 4 (i+1) (by simp[jk,a,c,g,b3]) hl
 conv=>whnf
 refine pK C de hi (λ(b4:ap ts i Si=true) hl=> ?_) (λ(b4:ap ts i Si=false)=> ?_)
 ·conv=>whnf
  exact d 5 (i+1) (by simp[jk,a,c,g,b3,b4]) hl
 conv=>whnf
 refine pK C de hi (λ(l:ap ts i Sj=true) hl=> ?_) (λ(l:ap ts i Sj=false)=> ?_)
 ·conv=>whnf
  exact d 6 (i+1) (by simp[jk,a,c,g,b3,b4,l]) hl
 conv=>whnf
 refine pK C de hi (λ(m:ap ts i Ch=true) hl=> ?_) (λ(m:ap ts i Ch=false)=> ?_)
 ·conv=>whnf
  exact d 7 (i+1) (by simp[jk,a,c,g,b3,b4,l,m]) hl
 conv=>whnf
 refine pK C de hi (λ(o:ap ts i uR=true) hl=> ?_) (λ(o:ap ts i uR=false)=> ?_)
 ·conv=>whnf
  refine Wb C de hl (λ(n:ap ts (i+1) Ch=true) hl=> ?_) (λ(n:ap ts (i+1) Ch=false)=> ?_)
  ·conv=>whnf
   exact d 8 (i+2) (by simp[jk,a,c,g,b3,b4,l,m,o,n]) hl
  exact s (i+1) (by simp[jk,a,c,g,b3,b4,l,m,o,n])
 conv=>whnf
 refine pK C de hi (λ(r:ap ts i Sk=true) hl=> ?_) (λ(r:ap ts i Sk=false)=> ?_)
 ·conv=>whnf
  refine pK C de hl (λ(n:ap ts (i+1) uR=true) hl=> ?_) (λ(n:ap ts (i+1) uR=false)=> ?_)
  ·conv=>whnf
   exact d 10 (i+2) (by simp[jk,a,c,g,b3,b4,l,m,o,r,n]) hl
  conv=>whnf
  exact d 9 (i+1) (by simp[jk,a,c,g,b3,b4,l,m,o,r,n]) hl
 conv=>whnf
 exact d 0 i (by simp[jk,a,c,g,b3,b4,l,m,o,r]) hi
end
end
section
open Go Go.RowKit
attribute [local irreducible] TC ap ay iX
theorem Wd{ts:List PT}{f:Nat}{a:NT}{i:Nat}(hg:a.jN)(hi:i<=ts.length){E:Nat->Prop}{P:List Nd->Nat->Prop}(h:Gd E P (gr ts f a i)):Gd (λe=>E e/\e<=ts.length) (λl j=>P l j/\a.post i ts.length l j) (gr ts f a i):=by
 cases c:gr ts f a i with
 | none=>rw[c] at h;exact h
 | some r=>
   have h1:=BB (ts:=ts) (max f (ts.length*64+a.lU+1)) a i hg hi Om;rw[ama (wX ..) c] at h1;rw[c] at h;match r,h,h1 with
   | .error e,h,h1=>exact⟨h,h1.2⟩
   | .ok (l,j),h,h1=>exact⟨h,h1⟩
def dL:List Nd->AV
 | [t]=>ya t
 | _=> .bad
def ID (l:List Nd):AV:= .r (.c (.s (.row 5 (cZ l))))
def FG (acc:List Nd)(c:CV):Prop:=(acc= []/\c= .s (.row 5 []))\/(acc≠ []/\c= .own 0 26 5 (cZ acc))
theorem Md{acc:List Nd}{t:Nd}{g:List (List SV)}(h:g=cZ acc++ [dr t]):FG (acc++ [t]) (.own 0 26 5 g):= .inr ⟨Sm,by rw[h,LY];rfl⟩
theorem Do{acc:List Nd}{t:Nd}:cZ (acc++ [t])=cZ acc++ [dr t]:=by rw[LY];rfl
theorem amy{a b c d:CV}{acc:List Nd}{t:Nd}{g:List (List SV)}(h:g=cZ acc++ [dr t]):AV.r (.agg [a,b,c,d,CV.s (.row 5 g)])=AV.r (.agg [a,b,c,d,CV.s (.row 5 (cZ (acc++ [t])))]):=by rw[h,Do]
theorem amz{acc:List Nd}{t:Nd}{g:List (List SV)}(h:g=cZ acc++ [dr t]):AV.r (.c (CV.s (.row 5 g)))=AV.r (.c (CV.s (.row 5 (cZ (acc++ [t]))))):=by rw[h,Do]
theorem amA{acc:List Nd}(aA:acc≠ [])(a:(cZ acc).length<=maxLen):IntKind.wrap .i64 (((cZ acc).length:Int)-1)=((acc.length-1:Nat):Int):=by
 rw[ql] at a⊢;rw[gZ] at a;have:acc.length≠0:=λe=>aA (List.length_eq_zero_iff.1 e);rw[gY Om Om];omega
theorem amB{acc:List Nd}{t:Nd}(h:acc.getLast? = some t):acc[acc.length-1]? = some t:=by rw[<-h,List.getLast?_eq_getElem?]
theorem amC{E:Nat->Prop}{P:List Nd->Nat->Prop}{t:Nd}{j:Nat}{k:Nd->Nat->PR}(h:Gd E (λl j=>∃t,l= [t]/\Gd E P (k t j)) (bR t j)):Gd E P (k t j):=by
 obtain⟨t',e,h⟩:=h;cases e;exact h
theorem bdA{m:Nat}(h:m<=2199023255552):BdA m 64:=⟨Om,by rw[gZ];omega⟩
theorem We{Q:AV->List SV->Prop}{a a':AV}{s s':List SV}(ha:a=a')(hs:s=s')(h:Q a' s'):Q a s:=by rw[ha,hs];exact h
theorem amD{E:Nat->Prop}{P:List Nd->Nat->Prop}{acc:List Nd}{A B:PR}{b:Bool}{a no:Prop}(c:Gd E P (if acc.length=1 then A else B))(hb:b=true↔acc.length=1)(h1:Gd E P A->a)(h2:Gd E P B->no):Bu b a no:=by
 refine o9 (λh=> ?_) λh=> ?_;·rw[iP (hb.1 h)] at c;exact h1 c
 rw[iN (λg=>by rw[hb.2 g] at h;cases h)] at c;exact h2 c
theorem amE{p q:Prop}[Decidable p][Decidable q]{a b:PR}:(if p/\q then a else b)=if p then (if q then a else b) else b:=by
 by_cases hp:p<;>by_cases c:q<;>simp[hp,c]
abbrev oN(cs:List CV):Nat×aI×List CV:=(0,26,cs)
abbrev tv:List CV:= [cS (.int .i64 0),cS (.int .i64 0),cS (.string ⟨⟨[]⟩⟩),cS (.int .i64 0), .s (.row 5 [])]
abbrev nC(k:Nat)(l:Int)(x:List UInt8)(o:Nat)(c:CV):List CV:= [cS (.int .i64 (k:Nat)),cS (.int .i64 l),cS (.string ⟨⟨x⟩⟩),cS (.int .i64 (o:Nat)),c]
abbrev nA(k:Nat)(l:Int)(x:List UInt8)(o:Nat)(ks:List Nd):List CV:=nC k l x o (.s (.row 5 (cZ ks)))
abbrev oR(sl:Sl)(j:Nat):Nat×aI×List CV:=(0,114,[cS (.slice sl.q sl.n sl.c),cS (.int .i64 (j:Nat))])
def PC (Z:TP)(X:cY)(W:Int->ae)(ts:List PT)(sl:Sl)(f:Nat)(a:NT)(F:aU)(args:List AV)(c:List Nd->AV):Prop:=
 ∀(i:Nat) (Q:AV->List SV->Prop) (R:ae->Prop) (E:Nat->Prop) (P:List Nd->Nat->Prop),i<=ts.length->Gd E P (gr ts f a i)->(∀e,E e->R (W (ay ts e).line))->(∀l j,P l j->j<=ts.length->Q (c l) (gS sl j))->TC Z (ba Tryz.prog LG GG) X F args (jv sl i) Q R
section
variable {Z:TP} {X:cY} {W:Int->ae} {ts:List PT} {sl:Sl} {R:ae->Prop} {Q:AV->List SV->Prop} {E:Nat->Prop} {P:List Nd->Nat->Prop} {i:Nat}
theorem amF(C:dB Z X W ts sl){s:List UInt8}{A B:PR}(a:Gd E P (if ap ts i s=true then A else B))(hs:s≠ [])(hi:i<=ts.length)(h1:i<ts.length->Gd E P A->Q (rS (.bool true)) (gS sl (i+1)))(h2:Gd E P B->Q (rS (.bool false)) (gS sl i)):TC Z (ba Tryz.prog LG GG) X 99 [.ptr 0 0,rS (.string ⟨⟨s⟩⟩)] (jv sl i) Q R:=by
 refine pK C hs hi (λh hl=> ?_) (λh=> ?_);·rw[iP h] at a;exact h1 hl a
 rw[iN (by rw[h];decide)] at a;exact h2 a
theorem amG(C:dB Z X W ts sl){s:List UInt8}{A B:PR}(a:Gd E P (if ap ts i s=true then A else B))(hs:s≠ [])(hi:i<=ts.length)(h1:ap ts i s=true->i<ts.length->Gd E P A->Q (rS (.bool true)) (gS sl i))(h2:ap ts i s=false->Gd E P B->Q (rS (.bool false)) (gS sl i)):TC Z (ba Tryz.prog LG GG) X 137 [.ptr 0 0,rS (.string ⟨⟨s⟩⟩)] (jv sl i) Q R:=by
 refine wN C hs hi (λh=> ?_) (λh=> ?_);·rw[iP h] at a;exact h1 h (FC h) a
 rw[iN (by rw[h];decide)] at a;exact h2 h a
theorem amH(C:dB Z X W ts sl){s:List UInt8}{A B:PR}(a:Gd E P (if ap ts i s=false then A else B))(hs:s≠ [])(hi:i<=ts.length)(h1:Gd E P B->Q (rS (.bool true)) (gS sl i))(h2:Gd E P A->Q (rS (.bool false)) (gS sl i)):TC Z (ba Tryz.prog LG GG) X 137 [.ptr 0 0,rS (.string ⟨⟨s⟩⟩)] (jv sl i) Q R:=by
 refine wN C hs hi (λh=> ?_) (λh=> ?_);·rw[iN (by rw[h];decide)] at a;exact h1 a
 rw[iP h] at a;exact h2 a
theorem amI(C:dB Z X W ts sl){s:List UInt8}(hs:s≠ [])(hi:i<=ts.length)(hb:ap ts i s=true)(h1:i<ts.length->Q (.jX []) (gS sl (i+1))):TC Z (ba Tryz.prog LG GG) X 102 [.ptr 0 0,rS (.string ⟨⟨s⟩⟩)] (jv sl i) Q R:=
 Wb C hs hi (λ_ hl=>h1 hl) λh=>by rw[hb] at h;cases h
theorem Wf(C:dB Z X W ts sl)(h:i<ts.length) : [SV.sc (.slice sl.q sl.n sl.c),SV.sc (.int .i64 (IntKind.wrap .i64 ((i:Int)+1)))]=gS sl (i+1):=by
 rw[adF h C.len];rfl
theorem amJ(C:dB Z X W ts sl){A B:PR}(a:Gd E P (if iX ts i=true then A else B))(hi:i<=ts.length)(h1:Gd E P A->Q (rS (.bool true)) (gS sl i))(h2:Gd E P B->Q (rS (.bool false)) (gS sl i)):TC Z (ba Tryz.prog LG GG) X 142 [.ptr 0 0] (jv sl i) Q R:=by
 refine amv C hi ?_;cases h:iX ts i with
 | true=>rw[iP h] at a;exact h1 a
 | false=>rw[iN (by rw[h];decide)] at a;exact h2 a
theorem amK(C:dB Z X W ts sl){k:Int}{A B:PR}(a:Gd E P (if (ay ts i).kind=k then A else B))(c:k≠0)(hi:i<=ts.length)(h1:i<ts.length->Gd E P A->Q (rS (.bool true)) (gS sl i))(h2:Gd E P B->Q (rS (.bool false)) (gS sl i)):TC Z (ba Tryz.prog LG GG) X 140 [.ptr 0 0,rS (.int .i64 k)] (jv sl i) Q R:=by
 refine amh C hi ?_;by_cases h:(ay ts i).kind=k
 ·rw[iP h] at a;rw[decide_eq_true h];exact h1 (Bz (by rw[h];exact c)) a
 rw[iN h] at a;rw[decide_eq_false h];exact h2 a
theorem amL(C:dB Z X W ts sl){s:List UInt8}{k:Nat->PR}(a:Gd E P (gV ts s i k))(hs:s≠ [])(hi:i<=ts.length)(c : ∀e,E e->R (W (ay ts e).line))(h1:i<ts.length->Gd E P (k (i+1))->Q (.jX []) (gS sl (i+1))):TC Z (ba Tryz.prog LG GG) X 102 [.ptr 0 0,rS (.string ⟨⟨s⟩⟩)] (jv sl i) Q R:=by
 unfold gV at a;refine Wb C hs hi (λh hl=> ?_) (λh=> ?_);·rw[iP h] at a;exact h1 hl a
 rw[iN (by rw[h];decide)] at a;exact c _ a
theorem amM(C:dB Z X W ts sl){kd:Int}{k:List UInt8->Nat->PR}(a:Gd E P (mS ts kd i k))(c:kd≠0)(hi:i<=ts.length)(d : ∀e,E e->R (W (ay ts e).line))(h1:i<ts.length->Gd E P (k (ay ts i).text (i+1))->Q (rS (.string ⟨⟨(ay ts i).text⟩⟩)) (gS sl (i+1))):TC Z (ba Tryz.prog LG GG) X 106 [.ptr 0 0,rS (.int .i64 kd)] (jv sl i) Q R:=by
 unfold mS at a;refine amu C c hi (λh hl=> ?_) (λh=> ?_);·rw[iP h] at a;exact h1 hl a
 rw[iN h] at a;exact d _ a
theorem amN(C:dB Z X W ts sl)(hi:i<=ts.length)(a:Gd E P (some (.error i)))(c : ∀e,E e->R (W (ay ts e).line)):TC Z (ba Tryz.prog LG GG) X 139 [.ptr 0 0] (jv sl i) Q R:=C.fail i Q R hi (c i a)
theorem amO(C:dB Z X W ts sl){A:PR}{B:Nat->Nat->PR}(a:Gd E P (match jk ts i with | .error e=>some (.error e) | .ok (0,_)=>A | .ok (op+1,j)=>B op j))(hi:i<=ts.length)(c : ∀e,E e->R (W (ay ts e).line))(d:Gd E P A->Q (rS (.int .i64 0)) (gS sl i))(h1 : ∀op j,i<j->j<=ts.length->Gd E P (B op j)->Q (rS (.int .i64 ((op+1:Nat):Int))) (gS sl j)):TC Z (ba Tryz.prog LG GG) X 198 [.ptr 0 0] (jv sl i) Q R:=by
 have ho:=V1 hi;refine amx C hi (λe h=> ?_) (λop j h g=> ?_);·rw[h] at a;exact c e a
 rw[h] at a ho;cases op with
 | zero=>
   rcases ho with ⟨_,e⟩ | ⟨h,_⟩
   ·subst e;exact d a
   exact absurd rfl h
 | succ op=>
   rcases ho with ⟨h,_⟩ | ⟨_,h2,_⟩
   ·cases h
   exact h1 op j h2 g a
theorem amP(C:dB Z X W ts sl){A B:PR}(a:Gd E P (if j7 ts i=0 then A else B))(hi:i<=ts.length)(h1:j7 ts i≠0->i<ts.length->Gd E P B->Q (rS (.int .i64 (j7 ts i:Nat))) (gS sl (i+1)))(h2:Gd E P A->Q (rS (.int .i64 0)) (gS sl i)):TC Z (ba Tryz.prog LG GG) X 171 [.ptr 0 0] (jv sl i) Q R:=by
 refine amw C hi (λh hl=> ?_) (λh=> ?_);·rw[iN h] at a;exact h1 h hl a
 rw[iP h] at a;exact h2 a
theorem kp{f:Nat}{a:NT}{F:aU}{args:List AV}(h:PC Z X W ts sl f a F args dL){k:Nd->Nat->PR}(c:Gd E P (bF (gr ts f a i) k))(hg:a.jN)(ha:a.acc=none)(d : ∀e,E e->R (W (ay ts e).line))(hi:i<=ts.length)(h1 : ∀n l x o ks j,i+a.min<=j->j<=ts.length->Gd E P (k (.mk n l x o ks) j)->Q (ya (.mk n l x o ks)) (gS sl j)):TC Z (ba Tryz.prog LG GG) X F args (jv sl i) Q R:=by
 rw[LW] at c;refine h i Q R _ _ hi (Wd hg hi c) (λe he=>d e he.1) λl j ⟨⟨t,e,g⟩,hp⟩ m=> ?_;subst e;obtain⟨n,l,x,o,ks⟩:=t;exact h1 n l x o ks j hp.1 hp.2.1 g
theorem adK{f:Nat}{a:NT}{F:aU}{args:List AV}(h:PC Z X W ts sl f a F args ID){k:List Nd->Nat->PR}(c:Gd E P (pb (gr ts f a i) k))(hg:a.jN)(ha:a.acc=some (a.acc.getD 0))(g : ∀e,E e->R (W (ay ts e).line))(hi:i<=ts.length)(h1 : ∀l j,i<=j->j<=ts.length->2*l.length+i<=2*a.acc.getD 0+j+1->Gd E P (k l j)->Q (ID l) (gS sl j)):TC Z (ba Tryz.prog LG GG) X F args (jv sl i) Q R:=by
 rw[Qg] at c;refine h i Q R _ _ hi (Wd hg hi c) (λe he=>g e he.1) λl j ⟨m,hp⟩ o=> ?_;obtain⟨q,n,d⟩:=hp;rw[ha] at d;exact h1 l j Om n d.1 m
theorem lr{f:Nat}{a:NT}{F:aU}{args:List AV}(h:PC Z X W ts sl f a F args dL)(c:Gd E P (gr ts f a i))(hg:a.jN)(ha:a.acc=none)(d : ∀e,E e->R (W (ay ts e).line))(hi:i<=ts.length)(h1 : ∀n l x o ks j,i+a.min<=j->j<=ts.length->P [.mk n l x o ks] j->Q (ya (.mk n l x o ks)) (gS sl j)):TC Z (ba Tryz.prog LG GG) X F args (jv sl i) Q R:=by
 refine h i Q R _ _ hi (Wd hg hi c) (λe he=>d e he.1) λl j ⟨g,hp⟩ k=> ?_;have h3:=hp.2.2;rw[ha] at h3;obtain⟨t,rfl⟩:=VY h3;obtain⟨n,l,x,o,ks⟩:=t;exact h1 n l x o ks j hp.1 hp.2.1 g
end
end
section
mutual
def eV:Nd->Nat
 | .mk _ _ _ _ ks=>eD ks+1
def eD:List Nd->Nat
 | []=>0
 | n::ks=>max (eV n) (eD ks)
end
theorem amQ{ks:List Nd}{i:Nat}{t:Nd}(h:ks[i]? = some t):eD (ks.drop i)=max (eV t) (eD (ks.drop (i+1))):=by
 obtain⟨hi,rfl⟩:=List.getElem?_eq_some_iff.1 h;rw[rQ hi];rfl
theorem adL : ∀ {ks:List Nd} {t:Nd},t∈ks->eV t<=eD ks
 | n::ks,t,h=>by
   rcases List.mem_cons.1 h with rfl | h
   ·exact wX _ _
   exact bW (adL h) (wY _ _)
mutual
def cf:Nd->Nat
 | .mk _ _ _ _ ks=>a8 ks+1
def a8:List Nd->Nat
 | []=>0
 | n::ks=>cf n+a8 ks
end
mutual
theorem amR : ∀n:Nd,eV n<=cf n
 | .mk _ _ _ _ ks=>Nat.succ_le_succ (Wg ks)
theorem Wg : ∀ks:List Nd,eD ks<=a8 ks
 | []=>al _
 | n::ks=>Nat.max_le.2 ⟨bW (amR n) (NH _ _),bW (Wg ks) (Nat.le_add_left _ _)⟩
end
theorem Dp : ∀ {a b:List Nd},a8 (a++b)=a8 a+a8 b
 | [],b=>(bJ _).symm
 | n::a,b=>by simp only[jU,a8,Dp,mP]
def NT.sz:NT->Nat
 | .params _ _ c=>a8 c
 | .row _ b=>a8 b
 | .vX _ b=>a8 b
 | .Ao a=>cf a
 | .Ap a=>cf a
 | .cmpL a b=>cf a+a8 b
 | .yE a=>cf a
 | .vY a=>cf a
 | .xh a=>cf a
 | .index a=>cf a
 | .clauses a=>a8 a
 | .yG _ b=>a8 b
 | .placesL _ b=>a8 b
 | .names _ _ c=>a8 c
 | .mg _ b=>a8 b
 | .yH a=>a8 a
 | .pV a=>a8 a
 | .sU _ b=>a8 b
 | .top a=>a8 a
 | _=>0
def NT.lo:NT->Nat
 | .atom=>50
 | .primary=>50
 | .rU=>50
 | .term=>50
 | .arith=>50
 | .compare=>49
 | .expr=>49
 | .exprs=>48
 | .one=>50
 | .places=>49
 | .value=>47
 | .plain=>40
 | .simple=>40
 | .block=>30
 | .stmt=>30
 | .ifs _=>20
 | .not=>49
 | .and=>49
 | .or=>49
 | _=>0
def NT.ad:NT->Nat
 | .vX _ _=>1
 | .cmpL _ _=>1
 | .yG _ _=>1
 | .placesL _ _=>1
 | .params _ _ _=>1
 | .maybe _ _ _=>1
 | .mg _ _=>1
 | .list _=>1
 | .yF _=>1
 | .sU _ _=>1
 | _=>0
def l6 (P:List Nd->Nat->Prop)(r:PR):Prop:=Gd (λ_=>True) P r
theorem Wi{E E':Nat->Prop}{P a:List Nd->Nat->Prop}{r:PR}(h:Gd E P r)(h':Gd E' a r):Gd (λe=>E e/\E' e) (λl j=>P l j/\a l j) r:=by
 match r,h,h' with
 | some (.error e),h,h'=>exact⟨h,h'⟩
 | some (.ok (l,j)),h,h'=>exact⟨h,h'⟩
theorem amS{ts:List PT}{s:List UInt8}{i:Nat}{a b:PR}{P:List Nd->Nat->Prop}(h1:i<ts.length->l6 P a)(h2:l6 P b):l6 P (if ap ts i s=true then a else b):=adw h1 h2
theorem amT{c:Prop}[Decidable c]{a b:PR}{P:List Nd->Nat->Prop}(h1:c->l6 P a)(h2 : ¬c->l6 P b):l6 P (if c then a else b):=adx h1 h2
theorem amU{ts:List PT}{s:List UInt8}{i:Nat}{k:Nat->PR}{P:List Nd->Nat->Prop}(h2:i<ts.length->l6 P (k (i+1))):l6 P (gV ts s i k):=adt trivial h2
theorem amV{ts:List PT}{kd:Int}(a:kd≠0){i:Nat}{k:List UInt8->Nat->PR}{P:List Nd->Nat->Prop}(h2:i<ts.length->l6 P (k (ay ts i).text (i+1))):l6 P (mS ts kd i k):=adu a trivial h2
theorem amW{t:Nd}{j:Nat}{P:List Nd->Nat->Prop}(h:P [t] j):l6 P (bR t j):=h
theorem amX{l:List Nd}{j:Nat}{P:List Nd->Nat->Prop}(h:P l j):l6 P (some (.ok (l,j))):=h
theorem adM{e:Nat}{P:List Nd->Nat->Prop}:l6 P (some (.error e)):=trivial
def BF (ts:List PT)(f:Nat):Prop:=∀(a:NT) (i:Nat),a.jN->i<=ts.length->ts.length*64+a.lU<f+i*64->l6 (λl j=>a8 l+64*i+a.lo<=a.sz+64*j+a.ad) (gr ts f a i)
theorem BF.one{ts:List PT}{f:Nat}(h:BF ts f){a:NT}{i:Nat}{P:List Nd->Nat->Prop}{k:Nd->Nat->PR}(hg:a.jN)(hi:i<=ts.length)(c:ts.length*64+a.lU<f+i*64)(ha:a.acc=none)(d : ∀t j,i+a.min<=j->j<=ts.length->cf t+64*i+a.lo<=a.sz+64*j+a.ad->l6 P (k t j)):l6 P (bF (gr ts f a i) k):=by
 unfold l6;rw[LW];refine(Wi (BB f a i hg hi c) (h a i hg hi c)).mono (λ_ _=>trivial) λl j h=> ?_;obtain⟨⟨h1,h2,h3⟩,h4⟩:=h;rw[ha] at h3;obtain⟨t,rfl⟩:=VY h3;exact⟨t,rfl,d t j h1 h2 h4⟩
theorem BF.V0{ts:List PT}{f:Nat}(h:BF ts f){a:NT}{i:Nat}{P:List Nd->Nat->Prop}{k:List Nd->Nat->PR}(hg:a.jN)(hi:i<=ts.length)(c:ts.length*64+a.lU<f+i*64)(d : ∀l j,i+a.min<=j->j<=ts.length->a8 l+64*i+a.lo<=a.sz+64*j+a.ad->l6 P (k l j)):l6 P (pb (gr ts f a i) k):=by
 unfold l6;rw[Qg];refine(Wi (BB f a i hg hi c) (h a i hg hi c)).mono (λ_ _=>trivial) λl j h=> ?_;obtain⟨⟨h1,h2,h3⟩,h4⟩:=h;exact d l j h1 h2 h4
theorem BF.AC{ts:List PT}{f:Nat}(h:BF ts f){a:NT}{i:Nat}{P:List Nd->Nat->Prop}(hg:a.jN)(hi:i<=ts.length)(c:ts.length*64+a.lU<f+i*64)(d : ∀l j,i+a.min<=j->j<=ts.length->a8 l+64*i+a.lo<=a.sz+64*j+a.ad->P l j):l6 P (gr ts f a i):=
 (Wi (BB f a i hg hi c) (h a i hg hi c)).mono (λ_ _=>trivial) λl j ⟨⟨h1,h2,h3⟩,h4⟩=>d l j h1 h2 h4
theorem adN{ts:List PT}{i:Nat}(hi:i<=ts.length){P:List Nd->Nat->Prop}{A:PR}{B:Nat->Nat->PR}(hA:l6 P A)(a : ∀op j,i<j->j<=ts.length->l6 P (B op j)):l6 P (match jk ts i with | .error e=>some (.error e) | .ok (0,_)=>A | .ok (op+1,j)=>B op j):=by
 have ho:=V1 hi;match jk ts i,ho with
 | .error e,ho=>exact adM
 | .ok (0,_),_=>exact hA
 | .ok (op+1,j),ho=>
   rcases ho with ⟨h,_⟩ | ⟨_,h1,h2⟩
   ·cases h
   exact a op j h1 h2
theorem amY{ts:List PT}{f:Nat}(d:BF ts f):BF ts (f+1):=by
 intro a i hg hi e;cases a;case' maybe k l c=>cases c
 case' mg l acc=>obtain⟨t,ht⟩:=VZ hg
 case' cmpL n acc=>cases hb:acc.isEmpty
 all_goals first | simp only[gr,ht] | simp only[gr,hb,iV,iF,iT] | simp only[gr,iV,iF,iT]
 case' cmpL.false=>refine adN hi ?_ λop j h1 h2=> ?_
 case' cmpL.true=>refine adN hi ?_ λop j h1 h2=> ?_
 all_goals (repeat' first | (have g:=Bz (by rw[h];decide);clear h) | (have g:=Bz (i:=i) (ts:=ts) Om;clear h) | (have g:=ady h;clear h) | (with_reducible refine amS (λh=> ?_) ?_) | ((with_reducible refine amU ?_);intro h) | ((with_reducible refine amV ?_ ?_);decide;intro h) | (with_reducible exact adM) | ((with_reducible refine amW ?_);simp only[NT.min,NT.sz,NT.lo,NT.ad,cf,a8,Dp];omega) | ((with_reducible refine amX ?_);simp only[NT.min,NT.sz,NT.lo,NT.ad,cf,a8,Dp];omega) | ((with_reducible refine d.one ?_ ?_ ?_ ?_ ?_);(first | exact D7 | simp[NT.jN]);omega;simp only[NT.lU] at e⊢;omega;rfl;intro t j g1 g3 g7;simp only[NT.min,NT.sz,NT.lo,NT.ad,cf,a8,Dp] at g1 g7) | ((with_reducible refine d.V0 ?_ ?_ ?_ ?_);(first | exact D7 | simp[NT.jN]);omega;simp only[NT.lU] at e⊢;omega;intro l j g1 g3 g7;simp only[NT.min,NT.sz,NT.lo,NT.ad,cf,a8,Dp] at g1 g7) | ((with_reducible refine d.AC ?_ ?_ ?_ ?_);(first | exact D7 | simp[NT.jN]);omega;simp only[NT.lU] at e⊢;omega;intro l j g1 g3 g7;simp only[NT.min,NT.sz,NT.lo,NT.ad,cf,a8,Dp] at g1 g7⊢;omega) | (with_reducible refine amT (λh=> ?_) (λh=> ?_)))
theorem Ql{ts:List PT} : ∀f,BF ts f
 | 0=>λa i _ hi h=>by omega
 | f+1=>amY (Ql f)
end
section
open Go Go.RowKit
attribute [local irreducible] TC ap ay iX
theorem Wj{i n:Nat}(h:i<n)(hn:n<=maxLen):(IntKind.wrap .i64 ((i:Int)+1))=((i+1:Nat):Int):=by
 rw[gZ] at hn;rw[gY Om Om];omega
section
variable {Z:TP} {X:cY} {R:ae->Prop} {Q:AV->List SV->Prop}
theorem amZ{k:Int}(h4:4<=k)(c:k<=7)(a:Q (rS (.int .i64 (GY k:Nat))) []):TC Z (ba Tryz.prog LG GG) X 183 [rS (.int .i64 k)] none Q R:=by
 refine hO gC Rl Kr (aV ?_)
 obtain rfl | rfl | rfl | rfl:k=4\/k=5\/k=6\/k=7:=by omega
 all_goals
  conv=>whnf
  exact a
theorem adO{k:Nat}{l:Int}{x:List UInt8}{o:Nat}{ks:List Nd}(a:Q (rS (.bool (yD (.mk k l x o ks)))) []):TC Z (ba Tryz.prog LG GG) X 146 [ya (.mk k l x o ks)] none Q R:=by
 have e:yD (.mk k l x o ks)=decide (k=36\/k=45\/k=46):=rfl;rw[e] at a;refine hO gC Rl Kr (aV ?_)
 by_cases h1:k=36
 ·subst h1;conv=>whnf
  exact a
 by_cases h2:k=45
 ·subst h2;conv=>whnf
  exact a
 by_cases h3:k=46
 ·subst h3;conv=>whnf
  exact a
 rw[decide_eq_false Om] at a;conv=>whnf
 refine o9 (λh=>by exfalso;simp at h;omega) λh=> ?_;conv=>whnf
 refine o9 (λh=>by exfalso;simp at h;omega) λh=> ?_;conv=>whnf
 refine o9 (λh=>by exfalso;simp at h;omega) λh=> ?_;conv=>whnf
 exact a
theorem am0{k:Nat}{l:Int}{x:List UInt8}{o:Nat}{ks:List Nd}{E:Nat->Prop}{P:List Nd->Nat->Prop}{A B:PR}(a:Gd E P (if yD (.mk k l x o ks)=true then A else B))(h1:Gd E P A->Q (rS (.bool true)) [])(h2:Gd E P B->Q (rS (.bool false)) []):TC Z (ba Tryz.prog LG GG) X 146 [ya (.mk k l x o ks)] none Q R:=by
 refine adO ?_;cases h:yD (.mk k l x o ks) with
 | true=>rw[iP h] at a;exact h1 a
 | false=>rw[iN (by rw[h];decide)] at a;exact h2 a
theorem am1{ks:List Nd}{i:Nat}{t:Nd}(h:ks[i]? = some t):kz (ks.drop i)=(gz t&&kz (ks.drop (i+1))):=by
 obtain⟨hi,rfl⟩:=List.getElem?_eq_some_iff.1 h;rw[rQ hi];rfl
noncomputable def IE:Nd->Nat:=λt=>dR t
theorem Wk{k:Nat}{l:Int}{x:List UInt8}{o:Nat}{ks:List Nd}{t:Nd}(h:t∈ks):IE t<IE (.mk k l x o ks):=by
 have h1:=List.sizeOf_lt_of_mem h;unfold IE;rw[Nd.mk.sizeOf_spec];omega
theorem am2 : ∀(N:Nat) (k:Nat) (l:Int) (x:List UInt8) (o:Nat) (ks:List Nd),IE (.mk k l x o ks)<N->∀(Q:AV->List SV->Prop) (R:ae->Prop),Q (rS (.bool (gz (.mk k l x o ks)))) []->TC Z (ba Tryz.prog LG GG) X 167 [ya (.mk k l x o ks)] none Q R:=by
 intro N;induction N with
 | zero=>intro k l x o ks h;exact absurd h (fM _)
 | succ N y=>
 intro k l x o ks z Q R c;refine hO gC Rl Kr (aV ?_)
 by_cases hk:k=52\/k=51
 ·have e:gz (.mk k l x o ks)=(kz ks && !ks.isEmpty):=iP hk;rw[e] at c;rcases hk with rfl | rfl
  all_goals
   conv=>whnf
   refine Qf 3 (λm a s=>∃i:Nat,a=rS (.int .i64 (i:Nat))/\s=⟨0,[oN (nA _ l x o ks)]⟩/\m+i=ks.length/\kz ks=kz (ks.drop i)) ks.length [] rfl ⟨0,rfl,rfl,rfl,rfl⟩ ?_;rintro m a f s ⟨i,rfl,rfl,A,hp⟩;conv=>whnf
   intro d;conv=>whnf
   refine o9 (λh=> ?_) λh=> ?_
   ·have hi:i<ks.length:=by simp[ql] at h;omega
    obtain⟨t,ht⟩ : ∃t,ks[i]? = some t:=⟨_,bM hi⟩;have hd:=am1 ht;have B:=Wk (fi ht) (k:=52) (l:=l) (x:=x) (o:=o);have C:=Wk (fi ht) (k:=51) (l:=l) (x:=x) (o:=o);obtain⟨g,j,r,u,v⟩:=t;conv=>whnf
    refine⟨rfl,i,_,rfl,LZ ht,?_⟩;conv=>whnf
    refine y g j r u v Om _ _ ?_;conv=>whnf
    cases w:gz (.mk g j r u v) with
    | true=>
      rw[w,Bool.true_and] at hd;conv=>whnf
      rw[ql] at d;exact⟨m-1,[],Om,rfl,i+1,congrArg (λn=>rS (.int .i64 n)) (Wj hi d),rfl,Om,hp.trans hd⟩
    | false=>
      rw[hp,hd,w] at c;conv=>whnf
      exact c
   have hi:i=ks.length:=by simp[ql] at h;omega
   subst hi;have hp:kz ks=true:=by rw[hp,Ak];rfl
   rw[hp,Bool.true_and] at c;conv=>whnf
   intro d;conv=>whnf
   refine o9 (λh=> ?_) λh=> ?_
   ·have:ks.isEmpty=false:=by cases ks;simp[cZ] at h;rfl
    rw[this] at c;conv=>whnf
    exact c
   have:ks.isEmpty=true:=by cases ks;rfl;simp[cZ] at h
   rw[this] at c;conv=>whnf
   exact c
 have e:gz (.mk k l x o ks)=decide (k=36\/k=45\/k=46):=iN hk;have e':yD (.mk k l x o ks)=decide (k=36\/k=45\/k=46):=rfl;rw[e,<-e'] at c;conv=>whnf
 refine o9 (λh=> ?_) λh=>by exfalso;simp at h;omega
 conv=>whnf
 refine o9 (λh=> ?_) λh=>by exfalso;simp at h;omega
 conv=>whnf
 refine adO ?_;conv=>whnf
 cases hs:yD (.mk k l x o ks) with
 | true=>
   rw[hs] at c;conv=>whnf
   exact c
 | false=>
   rw[hs] at c;conv=>whnf
   exact c
theorem am3{k:Nat}{l:Int}{x:List UInt8}{o:Nat}{ks:List Nd}{E:Nat->Prop}{P:List Nd->Nat->Prop}{A B:PR}(a:Gd E P (if gz (.mk k l x o ks)=true then A else B))(h1:Gd E P A->Q (rS (.bool true)) [])(h2:Gd E P B->Q (rS (.bool false)) []):TC Z (ba Tryz.prog LG GG) X 167 [ya (.mk k l x o ks)] none Q R:=by
 refine am2 _ k l x o ks (iC _) Q R ?_;cases h:gz (.mk k l x o ks) with
 | true=>rw[iP h] at a;exact h1 a
 | false=>rw[iN (by rw[h];decide)] at a;exact h2 a
theorem am4(a b:Nat):(if true=true then (if ((b:Nat):Int)>(a:Nat) then ((b:Nat):Int) else (a:Nat)) else if ((b:Nat):Int)<(a:Nat) then ((b:Nat):Int) else (a:Nat))=((max a b:Nat):Int):=by
 rw[iP rfl];split<;>omega
theorem am5 : ∀(N:Nat) (k:Nat) (l:Int) (x:List UInt8) (o:Nat) (ks:List Nd),IE (.mk k l x o ks)<N->eD ks+1<=9223372036854775807->∀(Q:AV->List SV->Prop) (R:ae->Prop),Q (rS (.int .i64 (eD ks+1:Nat))) []->TC Z (ba Tryz.prog LG GG) X 72 [ya (.mk k l x o ks)] none Q R:=by
 intro N;induction N with
 | zero=>intro k l x o ks h;exact absurd h (fM _)
 | succ N v=>
 intro k l x o ks z A Q R w;refine hO gC Rl Kr (aV ?_)
 conv=>whnf
 refine alW 4 3 (λm a b s=>∃i h:Nat,a=rS (.int .i64 (i:Nat))/\b=rS (.int .i64 (h:Nat))/\s=⟨0,[oN (nA k l x o ks)]⟩/\m+i=ks.length/\max h (eD (ks.drop i))=eD ks) ks.length [] rfl ⟨0,0,rfl,rfl,rfl,rfl,Nat.zero_max _⟩ ?_;rintro m a b f s ⟨i,h,rfl,rfl,rfl,B,hp⟩;conv=>whnf
 intro d;conv=>whnf
 refine o9 (λhc=> ?_) λhc=> ?_
 ·have hi:i<ks.length:=by simp[ql] at hc;omega
  obtain⟨t,ht⟩ : ∃t,ks[i]? = some t:=⟨_,bM hi⟩;have hd:=amQ ht;have C:=Wk (fi ht) (k:=k) (l:=l) (x:=x) (o:=o);have D:=adL (fi ht);obtain⟨g,j,r,u,c⟩:=t;have y:eV (.mk g j r u c)=eD c+1:=rfl;conv=>whnf
  refine⟨rfl,i,_,rfl,LZ ht,?_⟩;conv=>whnf
  refine v g j r u c Om Om _ _ ?_;conv=>whnf
  rw[ql] at d;refine⟨m-1,[],Om,rfl,i+1,max h (eD c+1),congrArg (λn=>rS (.int .i64 n)) (Wj hi d),?_,rfl,Om,by rw[<-hp,hd,y,Nat.max_assoc]⟩;exact congrArg (λn=>rS (.int .i64 n)) (am4 h (eD c+1))
 have hi:i=ks.length:=by simp[ql] at hc;omega
 subst hi;have hp:h=eD ks:=by rw[<-hp,Ak];exact(Nat.max_zero _).symm
 subst hp;conv=>whnf
 exact We (congrArg (λn=>rS (.int .i64 n)) (Wj (iC _) (by rw[gZ];omega))) rfl w
end
end
section
open Go Go.RowKit
attribute [local irreducible] TC ap ay iX gz
structure je(Z:TP)(X:cY)(W:Int->ae)(ts:List PT)(sl:Sl)(g:Nat):Prop where
 expr:PC Z X W ts sl g .expr 101 [.ptr 0 0] dL
 or_:PC Z X W ts sl g .or 138 [.ptr 0 0] dL
 and_:PC Z X W ts sl g .and 166 [.ptr 0 0] dL
 not_:PC Z X W ts sl g .not 182 [.ptr 0 0] dL
 compare:PC Z X W ts sl g .compare 190 [.ptr 0 0] dL
 arith:PC Z X W ts sl g .arith 197 [.ptr 0 0] dL
 term:PC Z X W ts sl g .term 201 [.ptr 0 0] dL
 rU:PC Z X W ts sl g .rU 203 [.ptr 0 0] dL
 primary:PC Z X W ts sl g .primary 145 [.ptr 0 0] dL
 atom:PC Z X W ts sl g .atom 168 [.ptr 0 0] dL
 exprs:PC Z X W ts sl g .exprs 105 [.ptr 0 0] dL
 one:PC Z X W ts sl g .one 141 [.ptr 0 0] dL
 places:PC Z X W ts sl g .places 104 [.ptr 0 0] dL
 simple:PC Z X W ts sl g .simple 110 [.ptr 0 0] dL
 plain:PC Z X W ts sl g .plain 147 [.ptr 0 0] dL
 value:PC Z X W ts sl g .value 170 [.ptr 0 0] dL
 block:PC Z X W ts sl g .block 103 [.ptr 0 0] dL
 stmt:PC Z X W ts sl g .stmt 71 [.ptr 0 0] dL
 params : ∀(cl:List UInt8) (ln:Int),cl≠ []->PC Z X W ts sl g (.params cl ln []) 107 [.ptr 0 0,rS (.int .i64 ln),rS (.string ⟨⟨cl⟩⟩)] dL
 row : ∀(cl:List UInt8),cl≠ []->PC Z X W ts sl g (.row cl []) 108 [.ptr 0 0,rS (.string ⟨⟨cl⟩⟩)] ID
 index : ∀(k:Nat) (l:Int) (x:List UInt8) (o:Nat) (ks:List Nd),PC Z X W ts sl g (.index (.mk k l x o ks)) 169 [.ptr 0 0,ya (.mk k l x o ks)] dL
 clauses:PC Z X W ts sl g (.clauses []) 191 [.ptr 0 0] ID
 list : ∀(ln:Int),PC Z X W ts sl g (.list ln) 184 [.ptr 0 0,rS (.int .i64 ln)] dL
 yF : ∀(ln:Int),PC Z X W ts sl g (.yF ln) 185 [.ptr 0 0,rS (.int .i64 ln)] dL
 names : ∀(k:Nat) (ln:Int),PC Z X W ts sl g (.names k ln []) 144 [.ptr 0 0,rS (.int .i64 (k:Nat)),rS (.int .i64 ln)] dL
 maybe : ∀(k:Nat) (ln:Int) (all:Bool),PC Z X W ts sl g (.maybe k ln all) 143 [.ptr 0 0,rS (.int .i64 (k:Nat)),rS (.int .i64 ln),rS (.bool all)] dL
 ifs : ∀(ln:Int),PC Z X W ts sl g (.ifs ln) 100 [.ptr 0 0,rS (.int .i64 ln)] dL
 tries : ∀(ln:Int),PC Z X W ts sl g (.tries ln) 109 [.ptr 0 0,rS (.int .i64 ln)] dL
theorem gD{Z:TP}{X:cY}{args:List AV}{self:Self}{Q:AV->List SV->Prop}{R:ae->Prop}(g:aU)(h:TC Z (ba Tryz.prog LG GG) X g args self Q R):TC Z (ba Tryz.prog LG GG) X g args self Q R:=h
set_option maxRecDepth 1000000 in
theorem kq{Pz:Prop}(hz:Pz:=by
 repeat' first
  | ((with_reducible refine gD 99 ?_);first | (refine amF C hG (by first | decide | exact cl_ne) Om (λhl hG=> ?_) (λhG=> ?_)<;>(conv=>whnf)))
  | ((with_reducible refine gD 70 ?_);first | (refine IB C Om ?_;conv=>whnf))
  | ((with_reducible refine gD 102 ?_);first | (refine amL C hG (by first | decide | exact cl_ne) Om He ?_;intro hl hG;conv=>whnf) | (refine amI C de Om hb ?_;intro hl;conv=>whnf))
  | ((with_reducible refine gD 137 ?_);first | (refine amG C hG (by first | decide | exact cl_ne) Om (λhb hl hG=> ?_) (λhb hG=> ?_)<;>(conv=>whnf)) | (refine amH C hG (by first | decide | exact cl_ne) Om (λhG=> ?_) (λhG=> ?_)<;>(conv=>whnf)))
  | ((with_reducible refine gD 106 ?_);first | (refine amM C hG de Om He ?_;intro hl hG;conv=>whnf))
  | ((with_reducible refine gD 142 ?_);first | (refine amJ C hG Om (λhG=> ?_) (λhG=> ?_)<;>(conv=>whnf)))
  | ((with_reducible refine gD 140 ?_);first | (refine amK C hG de Om (λhl hG=> ?_) (λhG=> ?_)<;>(conv=>whnf)))
  | ((with_reducible refine gD 101 ?_);first | (refine kp bv.expr hG Tv rfl He Om ?_;intro n1 l1 x1 o1 cg j1 aO cW hG;simp only[NT.min] at aO;conv=>whnf) | (refine lr bv.expr hG Tv rfl He Om ?_;intro n1 l1 x1 o1 cg j1 aO cW hG;simp only[NT.min] at aO;conv=>whnf))
  | ((with_reducible refine gD 138 ?_);first | (refine kp bv.or_ hG Tv rfl He Om ?_;intro n1 l1 x1 o1 cg j1 aO cW hG;simp only[NT.min] at aO;conv=>whnf) | (refine lr bv.or_ hG Tv rfl He Om ?_;intro n1 l1 x1 o1 cg j1 aO cW hG;simp only[NT.min] at aO;conv=>whnf))
  | ((with_reducible refine gD 166 ?_);first | (refine kp bv.and_ hG Tv rfl He Om ?_;intro n1 l1 x1 o1 cg j1 aO cW hG;simp only[NT.min] at aO;conv=>whnf) | (refine lr bv.and_ hG Tv rfl He Om ?_;intro n1 l1 x1 o1 cg j1 aO cW hG;simp only[NT.min] at aO;conv=>whnf))
  | ((with_reducible refine gD 182 ?_);first | (refine kp bv.not_ hG Tv rfl He Om ?_;intro n1 l1 x1 o1 cg j1 aO cW hG;simp only[NT.min] at aO;conv=>whnf) | (refine lr bv.not_ hG Tv rfl He Om ?_;intro n1 l1 x1 o1 cg j1 aO cW hG;simp only[NT.min] at aO;conv=>whnf))
  | ((with_reducible refine gD 190 ?_);first | (refine kp bv.compare hG Tv rfl He Om ?_;intro n1 l1 x1 o1 cg j1 aO cW hG;simp only[NT.min] at aO;conv=>whnf) | (refine lr bv.compare hG Tv rfl He Om ?_;intro n1 l1 x1 o1 cg j1 aO cW hG;simp only[NT.min] at aO;conv=>whnf))
  | ((with_reducible refine gD 197 ?_);first | (refine kp bv.arith hG Tv rfl He Om ?_;intro n1 l1 x1 o1 cg j1 aO cW hG;simp only[NT.min] at aO;conv=>whnf) | (refine lr bv.arith hG Tv rfl He Om ?_;intro n1 l1 x1 o1 cg j1 aO cW hG;simp only[NT.min] at aO;conv=>whnf))
  | ((with_reducible refine gD 201 ?_);first | (refine kp bv.term hG Tv rfl He Om ?_;intro n1 l1 x1 o1 cg j1 aO cW hG;simp only[NT.min] at aO;conv=>whnf) | (refine lr bv.term hG Tv rfl He Om ?_;intro n1 l1 x1 o1 cg j1 aO cW hG;simp only[NT.min] at aO;conv=>whnf))
  | ((with_reducible refine gD 203 ?_);first | (refine kp bv.rU hG Tv rfl He Om ?_;intro n1 l1 x1 o1 cg j1 aO cW hG;simp only[NT.min] at aO;conv=>whnf) | (refine lr bv.rU hG Tv rfl He Om ?_;intro n1 l1 x1 o1 cg j1 aO cW hG;simp only[NT.min] at aO;conv=>whnf))
  | ((with_reducible refine gD 145 ?_);first | (refine kp bv.primary hG Tv rfl He Om ?_;intro n1 l1 x1 o1 cg j1 aO cW hG;simp only[NT.min] at aO;conv=>whnf) | (refine lr bv.primary hG Tv rfl He Om ?_;intro n1 l1 x1 o1 cg j1 aO cW hG;simp only[NT.min] at aO;conv=>whnf))
  | ((with_reducible refine gD 168 ?_);first | (refine kp bv.atom hG Tv rfl He Om ?_;intro n1 l1 x1 o1 cg j1 aO cW hG;simp only[NT.min] at aO;conv=>whnf) | (refine lr bv.atom hG Tv rfl He Om ?_;intro n1 l1 x1 o1 cg j1 aO cW hG;simp only[NT.min] at aO;conv=>whnf))
  | ((with_reducible refine gD 105 ?_);first | (refine kp bv.exprs hG Tv rfl He Om ?_;intro n1 l1 x1 o1 cg j1 aO cW hG;simp only[NT.min] at aO;conv=>whnf) | (refine lr bv.exprs hG Tv rfl He Om ?_;intro n1 l1 x1 o1 cg j1 aO cW hG;simp only[NT.min] at aO;conv=>whnf))
  | ((with_reducible refine gD 141 ?_);first | (refine kp bv.one hG Tv rfl He Om ?_;intro n1 l1 x1 o1 cg j1 aO cW hG;simp only[NT.min] at aO;conv=>whnf) | (refine lr bv.one hG Tv rfl He Om ?_;intro n1 l1 x1 o1 cg j1 aO cW hG;simp only[NT.min] at aO;conv=>whnf))
  | ((with_reducible refine gD 104 ?_);first | (refine kp bv.places hG Tv rfl He Om ?_;intro n1 l1 x1 o1 cg j1 aO cW hG;simp only[NT.min] at aO;conv=>whnf) | (refine lr bv.places hG Tv rfl He Om ?_;intro n1 l1 x1 o1 cg j1 aO cW hG;simp only[NT.min] at aO;conv=>whnf))
  | ((with_reducible refine gD 110 ?_);first | (refine kp bv.simple hG Tv rfl He Om ?_;intro n1 l1 x1 o1 cg j1 aO cW hG;simp only[NT.min] at aO;conv=>whnf) | (refine lr bv.simple hG Tv rfl He Om ?_;intro n1 l1 x1 o1 cg j1 aO cW hG;simp only[NT.min] at aO;conv=>whnf))
  | ((with_reducible refine gD 147 ?_);first | (refine kp bv.plain hG Tv rfl He Om ?_;intro n1 l1 x1 o1 cg j1 aO cW hG;simp only[NT.min] at aO;conv=>whnf) | (refine lr bv.plain hG Tv rfl He Om ?_;intro n1 l1 x1 o1 cg j1 aO cW hG;simp only[NT.min] at aO;conv=>whnf))
  | ((with_reducible refine gD 170 ?_);first | (refine kp bv.value hG Tv rfl He Om ?_;intro n1 l1 x1 o1 cg j1 aO cW hG;simp only[NT.min] at aO;conv=>whnf) | (refine lr bv.value hG Tv rfl He Om ?_;intro n1 l1 x1 o1 cg j1 aO cW hG;simp only[NT.min] at aO;conv=>whnf))
  | ((with_reducible refine gD 103 ?_);first | (refine kp bv.block hG Tv rfl He Om ?_;intro n1 l1 x1 o1 cg j1 aO cW hG;simp only[NT.min] at aO;conv=>whnf) | (refine lr bv.block hG Tv rfl He Om ?_;intro n1 l1 x1 o1 cg j1 aO cW hG;simp only[NT.min] at aO;conv=>whnf) | (refine kp am6.block hG Tv rfl He Om ?_;intro n1 l1 x1 o1 cg j1 aO cW hG;simp only[NT.min] at aO;conv=>whnf))
  | ((with_reducible refine gD 71 ?_);first | (refine kp bv.stmt hG Tv rfl He Om ?_;intro n1 l1 x1 o1 cg j1 aO cW hG;simp only[NT.min] at aO;conv=>whnf) | (refine lr bv.stmt hG Tv rfl He Om ?_;intro n1 l1 x1 o1 cg j1 aO cW hG;simp only[NT.min] at aO;conv=>whnf))
  | ((with_reducible refine gD 107 ?_);first | (refine kp (bv.params _ _ de) hG Tv rfl He Om ?_;intro n1 l1 x1 o1 cg j1 aO cW hG;simp only[NT.min] at aO;conv=>whnf) | (refine lr (bv.params _ _ de) hG Tv rfl He Om ?_;intro n1 l1 x1 o1 cg j1 aO cW hG;simp only[NT.min] at aO;conv=>whnf))
  | ((with_reducible refine gD 108 ?_);first | (refine adK (bv.row _ de) hG Tv rfl He Om ?_;intro l1 j1 aO cW iM hG;simp only[NT.acc,Option.getD_some,List.length_nil] at iM;conv=>whnf))
  | ((with_reducible refine gD 169 ?_);first | (refine kp (bv.index _ _ _ _ _) hG Tv rfl He Om ?_;intro n1 l1 x1 o1 cg j1 aO cW hG;simp only[NT.min] at aO;conv=>whnf) | (refine lr (bv.index _ _ _ _ _) hG Tv rfl He Om ?_;intro n1 l1 x1 o1 cg j1 aO cW hG;simp only[NT.min] at aO;conv=>whnf))
  | ((with_reducible refine gD 191 ?_);first | (refine adK bv.clauses hG Tv rfl He Om ?_;intro l1 j1 aO cW iM hG;simp only[NT.acc,Option.getD_some,List.length_nil] at iM;conv=>whnf))
  | ((with_reducible refine gD 184 ?_);first | (refine kp (bv.list _) hG Tv rfl He Om ?_;intro n1 l1 x1 o1 cg j1 aO cW hG;simp only[NT.min] at aO;conv=>whnf) | (refine lr (bv.list _) hG Tv rfl He Om ?_;intro n1 l1 x1 o1 cg j1 aO cW hG;simp only[NT.min] at aO;conv=>whnf))
  | ((with_reducible refine gD 185 ?_);first | (refine kp (bv.yF _) hG Tv rfl He Om ?_;intro n1 l1 x1 o1 cg j1 aO cW hG;simp only[NT.min] at aO;conv=>whnf) | (refine lr (bv.yF _) hG Tv rfl He Om ?_;intro n1 l1 x1 o1 cg j1 aO cW hG;simp only[NT.min] at aO;conv=>whnf))
  | ((with_reducible refine gD 144 ?_);first | (refine kp (bv.names _ _) hG Tv rfl He Om ?_;intro n1 l1 x1 o1 cg j1 aO cW hG;simp only[NT.min] at aO;conv=>whnf) | (refine lr (bv.names _ _) hG Tv rfl He Om ?_;intro n1 l1 x1 o1 cg j1 aO cW hG;simp only[NT.min] at aO;conv=>whnf))
  | ((with_reducible refine gD 143 ?_);first | (refine kp (bv.maybe _ _ _) hG Tv rfl He Om ?_;intro n1 l1 x1 o1 cg j1 aO cW hG;simp only[NT.min] at aO;conv=>whnf) | (refine lr (bv.maybe _ _ _) hG Tv rfl He Om ?_;intro n1 l1 x1 o1 cg j1 aO cW hG;simp only[NT.min] at aO;conv=>whnf))
  | ((with_reducible refine gD 100 ?_);first | (refine kp (bv.ifs _) hG Tv rfl He Om ?_;intro n1 l1 x1 o1 cg j1 aO cW hG;simp only[NT.min] at aO;conv=>whnf) | (refine lr (bv.ifs _) hG Tv rfl He Om ?_;intro n1 l1 x1 o1 cg j1 aO cW hG;simp only[NT.min] at aO;conv=>whnf))
  | ((with_reducible refine gD 109 ?_);first | (refine kp (bv.tries _) hG Tv rfl He Om ?_;intro n1 l1 x1 o1 cg j1 aO cW hG;simp only[NT.min] at aO;conv=>whnf) | (refine lr (bv.tries _) hG Tv rfl He Om ?_;intro n1 l1 x1 o1 cg j1 aO cW hG;simp only[NT.min] at aO;conv=>whnf))
  | ((with_reducible refine gD 146 ?_);first | (refine am0 hG (λhG=> ?_) (λhG=> ?_)<;>(conv=>whnf)))
  | ((with_reducible refine gD 167 ?_);first | (refine am3 hG (λhG=> ?_) (λhG=> ?_)<;>(conv=>whnf)))
  | ((with_reducible refine gD 198 ?_);first | (refine amO C hG Om He (λhG=> ?_) (λBo j1 AH cW hG=> ?_)<;>(conv=>whnf)))
  | ((with_reducible refine gD 171 ?_);first | (refine amP C hG Om (λha hl hG=> ?_) (λhG=> ?_)<;>(conv=>whnf)))
  | ((with_reducible refine gD 139 ?_);first | (refine amN C Om hG He))
  | (intro (fO:_<=maxLen);conv=>whnf)
  | exact⟨m,[],Om,rfl,_,_,_,_,_,_,rfl,Om,Om,hG⟩
  | exact⟨m,[2],Om,rfl,_,_,_,_,_,acc++ [.mk n1 l1 x1 o1 cg],_,_,(by rw[Do];rfl),Om,Om,SS,hG⟩
  | exact⟨m,[2],Om,rfl,_,_,_,Md rfl,rfl,Om,Om,SS,hG⟩
  | exact⟨m,[2],Om,rfl,_,_,_,rfl,Md rfl,rfl,Om,Om,SS,hG⟩
  | exact⟨m,[3],Om,rfl,_,_,_,rfl,Md rfl,rfl,Om,Om,SS,hG⟩
  | exact⟨m,[3],Om,rfl,acc++ [.mk 43 (ay ts j).line [] (Bo+1) [.mk n1 l1 x1 o1 cg]],_,(by rw[Do];rfl),Om,Om,SS,hG⟩
  | (refine o9 (λh=> ?_) (λh=> ?_);(have:acc= []:=by cases acc;rfl;simp[cZ] at h<;>omega);subst this;(conv=>whnf);exact hQ _ _ hG Om;(have:acc.isEmpty=false:=by cases acc;simp[cZ] at h<;>omega;rfl);rw[this] at hG;(conv=>whnf);exact hQ _ _ hG Om)
  | exact⟨m,[2],Om,rfl,_,_,_,_,_,_,_,_,_,_,acc++ [_,_],_,(by rw[LY];rfl),Om,Om,SS,hG⟩
  | exact⟨m,[2],Om,rfl,_,_,_,_,_,acc++ [.mk n1 l1 x1 o1 cg],_,_,(by rw[Do];rfl),Om,Om,Sm,SS,hG⟩
  | (refine⟨rfl,acc.length-1,_,amA aA fO,LZ (amB EJ),?_⟩;conv=>whnf)
  | exact⟨m,[2],Om,rfl,_,_,_,_,Md rfl,rfl,Om,Om,(by simp only[List.length_append,List.length_cons,List.length_nil] at *;omega),hG⟩
  | (refine⟨rfl,0,_,rfl,rfl,?_⟩;conv=>whnf)
  | exact⟨m,[4],Om,rfl,acc++ [Nd.mk 21 (ay ts j).line [] 0 [Nd.mk n1 l1 x1 o1 cg]],_,true,rfl,(by rw[Do];rfl),Om,Om,SS,SS, .inr ⟨rfl,hG⟩⟩
  | exact⟨m,[6],Om,rfl,acc++ [_],_,false,rfl,(by rw[Do];rfl),Om,Om,SS,SS, .inl ⟨rfl,hG⟩⟩
  | (refine amD hG (by simp[ql];try omega) (λhG=> ?_) (λhG=> ?_)<;>(conv=>whnf))
  | (refine o9 (λh=>by exfalso;simp[ql] at h;first | omega | (subst h;simp at iM)) (λh=> ?_);conv=>whnf)
  | exact⟨m,[2],Om,rfl,_,_,_,_,_,_,_,_,_,_,acc++ [.mk n1 l1 x1 o1 cg],_,_,(by rw[Do];rfl),Om,Om,SS,LW.2 hG⟩
  | exact hQ _ _ (amC hG) Om
  | (refine⟨rfl,?_⟩;conv=>whnf)
  | (refine⟨bdA (by simp only[List.length_append,List.length_cons,List.length_nil,ql];omega),?_⟩;conv=>whnf)
  | exact hQ _ _ hG Om
  | (refine amg (Wf C hl) ?_)
  | (refine o9 (λh=>by exfalso;simp at h;omega) (λh=> ?_);conv=>whnf)
  | (refine o9 (λh=> ?_) (λh=>by exfalso;simp at h;omega);conv=>whnf)
  | (refine We ?_ ?_ (hQ _ _ hG Om)<;>first | rfl | exact amy rfl | exact amz rfl | exact Wf C hl)
  | (have hG:=(FH _ _).1 hG;rcases f with _ | f;exact hG.elim;have am6:=ih f Om;simp only[gr] at hG)
  | (refine tt (λm s=>∃k l x o ks j,s=⟨0,[oR sl j,oN tv,oN (nA k l x o ks)]⟩/\j<=ts.length/\m<=f/\Gd E P (gr ts m (.Ao (.mk k l x o ks)) j)) f [] rfl ⟨_,_,_,_,_,_,rfl,Om,Nat.le_refl _,hG⟩ ?_;rintro m f1 s ⟨k,l,x,o,ks,j,rfl,hj,pH,hG⟩;rcases m with _ | m;exact hG.elim;have bv:=ih m Om;simp only[gr] at hG;conv=>whnf)
  | (refine tt (λm s=>∃k l x o ks j,s=⟨0,[oR sl j,oN tv,oN (nA k l x o ks)]⟩/\j<=ts.length/\m<=f/\Gd E P (gr ts m (.Ap (.mk k l x o ks)) j)) f [] rfl ⟨_,_,_,_,_,_,rfl,Om,Nat.le_refl _,hG⟩ ?_;rintro m f1 s ⟨k,l,x,o,ks,j,rfl,hj,pH,hG⟩;rcases m with _ | m;exact hG.elim;have bv:=ih m Om;simp only[gr] at hG;conv=>whnf)
  | (refine tt (λm s=>∃k l x o ks j,s=⟨0,[oR sl j,oN tv,oN (nA k l x o ks)]⟩/\j<=ts.length/\m<=f/\Gd E P (gr ts m (.yE (.mk k l x o ks)) j)) f [] rfl ⟨_,_,_,_,_,_,rfl,Om,Nat.le_refl _,hG⟩ ?_;rintro m f1 s ⟨k,l,x,o,ks,j,rfl,hj,pH,hG⟩;rcases m with _ | m;exact hG.elim;have bv:=ih m Om;simp only[gr] at hG;conv=>whnf)
  | (refine tt (λm s=>∃k l x o ks j,s=⟨0,[oR sl j,oN tv,oN (nA k l x o ks)]⟩/\j<=ts.length/\m<=f/\Gd E P (gr ts m (.vY (.mk k l x o ks)) j)) f [] rfl ⟨_,_,_,_,_,_,rfl,Om,Nat.le_refl _,hG⟩ ?_;rintro m f1 s ⟨k,l,x,o,ks,j,rfl,hj,pH,hG⟩;rcases m with _ | m;exact hG.elim;have bv:=ih m Om;simp only[gr] at hG;conv=>whnf)
  | (refine tt (λm s=>∃k l x o ks j,s=⟨0,[oR sl j,oN tv,oN (nA k l x o ks)]⟩/\j<=ts.length/\m<=f/\Gd E P (gr ts m (.xh (.mk k l x o ks)) j)) f [] rfl ⟨_,_,_,_,_,_,rfl,Om,Nat.le_refl _,hG⟩ ?_;rintro m f1 s ⟨k,l,x,o,ks,j,rfl,hj,pH,hG⟩;rcases m with _ | m;exact hG.elim;have bv:=ih m Om;simp only[gr] at hG;conv=>whnf)
  | (refine tt (λm s=>∃k l x o ks acc j ln,s=⟨1,[oR sl j,oN tv,oN (nA k l x o ks),oN (nC 52 ln [] 0 (.own 0 26 5 (cZ acc)))]⟩/\j<=ts.length/\m<=f/\2*acc.length<=j+1/\Gd E P (gr ts m (.vX ln acc) j)) f [0] rfl ⟨_,_,_,_,_,[.mk n1 l1 x1 o1 cg],_,_,rfl,Om,Nat.le_refl _,by simp only[List.length_cons,List.length_nil];omega,hG⟩ ?_;rintro m f1 s ⟨k,l,x,o,ks,acc,j,ln,rfl,hj,pH,fI,hG⟩;rcases m with _ | m;exact hG.elim;have bv:=ih m Om;simp only[gr] at hG;conv=>whnf)
  | (refine tt (λm s=>∃k l x o ks acc j ln,s=⟨1,[oR sl j,oN tv,oN (nA k l x o ks),oN (nC 52 ln [] 0 (.own 0 26 5 (cZ acc)))]⟩/\j<=ts.length/\m<=f/\2*acc.length<=j+1/\Gd E P (gr ts m (.placesL ln acc) j)) f [0] rfl ⟨_,_,_,_,_,[.mk n1 l1 x1 o1 cg],_,_,rfl,Om,Nat.le_refl _,by simp only[List.length_cons,List.length_nil];omega,hG⟩ ?_;rintro m f1 s ⟨k,l,x,o,ks,acc,j,ln,rfl,hj,pH,fI,hG⟩;rcases m with _ | m;exact hG.elim;have bv:=ih m Om;simp only[gr] at hG;simp only[amE] at hG;conv=>whnf)
  | (refine tt (λm s=>∃acc j c,FG acc c/\s=⟨1,[oR sl j,oN tv,oN (nC k ln [] 0 c)]⟩/\j<=ts.length/\m<=f+1/\2*acc.length<=j/\Gd E P (gr ts m (.names k ln acc) j)) (f+1) [99] rfl ⟨[],_,_, .inl ⟨rfl,rfl⟩,rfl,Om,Nat.le_refl _,by simp only[List.length_nil];omega,jY⟩ ?_;rintro m f1 s ⟨acc,j,c,hA,rfl,hj,pH,fI,hG⟩;rcases m with _ | m;exact hG.elim;have bv:=ih m Om;simp only[gr] at hG;rcases hA with ⟨rfl,rfl⟩ | ⟨aA,rfl⟩;all_goals (conv=>whnf))
  | (refine tt (λm s=>∃acc j c,FG acc c/\s=⟨1,[oR sl j,oN tv,oN (nC 23 ln [] 0 c)]⟩/\j<=ts.length/\m<=f+1/\2*acc.length<=j/\Gd E P (gr ts m (.params cl ln acc) j)) (f+1) [99] rfl ⟨[],_,_, .inl ⟨rfl,rfl⟩,rfl,Om,Nat.le_refl _,by simp only[List.length_nil];omega,jY⟩ ?_;rintro m f1 s ⟨acc,j,c,hA,rfl,hj,pH,fI,hG⟩;rcases m with _ | m;exact hG.elim;have bv:=ih m Om;simp only[gr] at hG;rcases hA with ⟨rfl,rfl⟩ | ⟨aA,rfl⟩;all_goals (conv=>whnf))
  | (refine Qf 5 (λm a s=>∃acc j c,a= .r (.c c)/\FG acc c/\s=⟨1,[oR sl j]⟩/\j<=ts.length/\m<=f+1/\2*acc.length<=j/\Gd E P (gr ts m (.row cl acc) j)) (f+1) [99] rfl ⟨[],_,_,rfl, .inl ⟨rfl,rfl⟩,rfl,Om,Nat.le_refl _,by simp only[List.length_nil];omega,jY⟩ ?_;rintro m a f1 s ⟨acc,j,c,rfl,hA,rfl,hj,pH,fI,hG⟩;rcases m with _ | m;exact hG.elim;have bv:=ih m Om;simp only[gr] at hG;rcases hA with ⟨rfl,rfl⟩ | ⟨aA,rfl⟩;all_goals (conv=>whnf))
  | (refine Qf 3 (λm a s=>∃acc j c,a= .r (.c c)/\FG acc c/\s=⟨1,[oR sl j]⟩/\j<=ts.length/\m<=f+1/\2*acc.length<=j/\Gd E P (gr ts m (.clauses acc) j)) (f+1) [99] rfl ⟨[],_,_,rfl, .inl ⟨rfl,rfl⟩,rfl,Om,Nat.le_refl _,by simp only[List.length_nil];omega,jY⟩ ?_;rintro m a f1 s ⟨acc,j,c,rfl,hA,rfl,hj,pH,fI,hG⟩;rcases m with _ | m;exact hG.elim;have bv:=ih m Om;simp only[gr] at hG;rcases hA with ⟨rfl,rfl⟩ | ⟨aA,rfl⟩;all_goals (conv=>whnf))
  | (refine tt (λm s=>∃acc j,s=⟨1,[oR sl j,oN tv,oN (nA n1 l1 x1 o1 cg),oN (nC 42 l1 [] 0 (.own 0 26 5 (dr (.mk n1 l1 x1 o1 cg)::cZ acc)))]⟩/\j<=ts.length/\m<=f/\2*acc.length+1<=j/\Gd E P (gr ts m (.cmpL (.mk n1 l1 x1 o1 cg) acc) j)) f [0] rfl ⟨[],_,rfl,Om,Nat.le_refl _,by simp only[List.length_nil];omega,hG⟩ ?_;rintro m f1 s ⟨acc,j,rfl,hj,pH,fI,hG⟩;rcases m with _ | m;exact hG.elim;have bv:=ih m Om;simp only[gr] at hG;conv=>whnf)
  | (refine tt (λm s=>∃ke le xe oe kse kv lv xv ov ksv acc j,s=⟨1,[oR sl j,oN tv,oN (nA ke le xe oe kse),oN (nA kv lv xv ov ksv),oN (nC 54 ln [] 0 (.own 0 26 5 (cZ acc)))]⟩/\j<=ts.length/\m<=f/\2*acc.length<=j+1/\Gd E P (gr ts m (.yG ln acc) j)) f [0] rfl ⟨_,_,_,_,_,_,_,_,_,_,[_,_],_,rfl,Om,Nat.le_refl _,by simp only[List.length_cons,List.length_nil];omega,hG⟩ ?_;rintro m f1 s ⟨ke,le,xe,oe,kse,kv,lv,xv,ov,ksv,acc,j,rfl,hj,pH,fI,hG⟩;rcases m with _ | m;exact hG.elim;have bv:=ih m Om;simp only[gr] at hG;conv=>whnf)
  | (refine tt (λm s=>∃k l x o ks acc j ln,s=⟨1,[oR sl j,oN tv,oN (nA k l x o ks),oN (nC 3 ln [] 0 (.own 0 26 5 (cZ acc)))]⟩/\j<=ts.length/\m<=f/\acc≠ []/\2*acc.length<=j+1/\Gd E P (gr ts m (.mg ln acc) j)) f [0] rfl ⟨_,_,_,_,_,[.mk n1 l1 x1 o1 cg],_,_,rfl,Om,Nat.le_refl _,Sm,by simp only[List.length_cons,List.length_nil];omega,hG⟩ ?_;rintro m f1 s ⟨k,l,x,o,ks,acc,j,ln,rfl,hj,pH,aA,fI,hG⟩;rcases m with _ | m;exact hG.elim;have bv:=ih m Om;obtain⟨⟨k2,l2,x2,o2,JC⟩,EJ⟩:=VZ aA;simp only[gr,EJ] at hG;conv=>whnf)
  | (refine tt (λm s=>∃acc j c ln,FG acc c/\s=⟨1,[oR sl j,oN tv,oN (nC 1 ln [] 0 c)]⟩/\j<=ts.length/\m<=f/\2*acc.length<=j/\Gd E P (gr ts m (.yH acc) j)) f [99] rfl ⟨[],_,_,_, .inl ⟨rfl,rfl⟩,rfl,Om,Nat.le_refl _,by simp only[List.length_nil];omega,hG⟩ ?_;rintro m f1 s ⟨acc,j,c,ln,hA,rfl,hj,pH,fI,hG⟩;rcases m with _ | m;exact hG.elim;have bv:=ih m Om;simp only[gr] at hG;rcases hA with ⟨rfl,rfl⟩ | ⟨aA,rfl⟩;rotate_left;rcases acc with _ | ⟨⟨k2,l2,x2,o2,JC⟩,acc⟩;exact absurd rfl aA;all_goals (try simp only[List.length_cons,List.length_nil] at fI);all_goals (conv=>whnf))
  | (obtain⟨P2,FH⟩ : ∃P2:List Nd->Nat->Prop,∀acc j,P2 acc j↔Gd E P (gr ts f (.sU ln acc) j):=⟨_,λ_ _=>Iff.rfl⟩;have hG:Gd E P2 (gr ts f (.pV [.mk n1 l1 x1 o1 cg]) j1):=(Qg.1 hG).mono (λ_ h=>h) λl j h=>(FH l j).2 h;refine Qf 6 (λm a s=>∃acc j b,a=rS (.bool b)/\s=⟨1,[oR sl j,oN tv,oN (nC 15 ln [] 0 (.own 0 26 5 (cZ acc)))]⟩/\j<=ts.length/\m<=f/\1<=acc.length/\2*acc.length<=j+1/\((b=false/\Gd E P2 (gr ts m (.pV acc) j))\/(b=true/\P2 acc j))) f [0] rfl ⟨[.mk n1 l1 x1 o1 cg],_,false,rfl,rfl,Om,Nat.le_refl _,Nat.le_refl _,by simp only[List.length_cons,List.length_nil];omega, .inl ⟨rfl,hG⟩⟩ ?_;rintro m a f1 s ⟨acc,j,b,rfl,rfl,hj,pH,iM,fI,⟨rfl,hG⟩ | ⟨rfl,hG⟩⟩;rcases m with _ | m;exact hG.elim;have bv:=ih m Om;simp only[gr] at hG;(conv=>whnf);rotate_left;have hG:=(FH _ _).1 hG;rcases f with _ | f;exact hG.elim;simp only[gr] at hG;have bv:=ih f Om;conv=>whnf)
  | (refine tt (λm s=>∃km lm xm om ksm kl ll xl ol ksl acc j ln,s=⟨1,[oR sl j,oN (nA k l x o ks),oN tv,oN (nA km lm xm om ksm),oN (nA kl ll xl ol ksl),oN (nC 52 ln [] 0 (.own 0 26 5 (cZ acc)))]⟩/\j<=ts.length/\m<=f/\2*acc.length<=j+1/\Gd E P (bF (gr ts m (.vX ln acc) j) λt j2=>bR (nd 46 l [.mk k l x o ks,t]) j2)) f [0] rfl ⟨_,_,_,_,[],_,_,_,_,_,[.mk n1 l1 x1 o1 cg],_,_,rfl,Om,Nat.le_refl _,by simp only[List.length_cons,List.length_nil];omega,hG⟩ ?_;rintro m f1 s ⟨km,lm,xm,om,ksm,kl,ll,xl,ol,ksl,acc,j,ln,rfl,hj,pH,fI,hG⟩;have hG:=LW.1 hG;rcases m with _ | m;exact hG.elim;have bv:=ih m Om;simp only[gr] at hG;conv=>whnf)):Pz:=hz
section
variable {Z:TP} {X:cY} {W:Int->ae} {ts:List PT} {sl:Sl} {f:Nat}
theorem am7(C:dB Z X W ts sl)(ih : ∀g,g<=f->je Z X W ts sl g):PC Z X W ts sl (f+1) .expr 101 [.ptr 0 0] dL:=by
 intro i Q R E P hi hG hE hQ;have bv:=ih f (al f);have d:=C.len;have jY:=hG;simp only[gr] at hG;refine hO gC Rl Kr (aV ?_)
 conv=>whnf
 exact kq
theorem am8(C:dB Z X W ts sl)(ih : ∀g,g<=f->je Z X W ts sl g):PC Z X W ts sl (f+1) .or 138 [.ptr 0 0] dL:=by
 intro i Q R E P hi hG hE hQ;have bv:=ih f (al f);have d:=C.len;have jY:=hG;simp only[gr] at hG;refine hO gC Rl Kr (aV ?_)
 conv=>whnf
 exact kq
theorem am9(C:dB Z X W ts sl)(ih : ∀g,g<=f->je Z X W ts sl g):PC Z X W ts sl (f+1) .and 166 [.ptr 0 0] dL:=by
 intro i Q R E P hi hG hE hQ;have bv:=ih f (al f);have d:=C.len;have jY:=hG;simp only[gr] at hG;refine hO gC Rl Kr (aV ?_)
 conv=>whnf
 exact kq
theorem am'(C:dB Z X W ts sl)(ih : ∀g,g<=f->je Z X W ts sl g):PC Z X W ts sl (f+1) .not 182 [.ptr 0 0] dL:=by
 intro i Q R E P hi hG hE hQ;have bv:=ih f (al f);have d:=C.len;have jY:=hG;simp only[gr] at hG;refine hO gC Rl Kr (aV ?_)
 conv=>whnf
 exact kq
theorem ana(C:dB Z X W ts sl)(ih : ∀g,g<=f->je Z X W ts sl g):PC Z X W ts sl (f+1) .compare 190 [.ptr 0 0] dL:=by
 intro i Q R E P hi hG hE hQ;have bv:=ih f (al f);have d:=C.len;have jY:=hG;simp only[gr] at hG;refine hO gC Rl Kr (aV ?_)
 conv=>whnf
 exact kq
theorem anb(C:dB Z X W ts sl)(ih : ∀g,g<=f->je Z X W ts sl g):PC Z X W ts sl (f+1) .arith 197 [.ptr 0 0] dL:=by
 intro i Q R E P hi hG hE hQ;have bv:=ih f (al f);have d:=C.len;have jY:=hG;simp only[gr] at hG;refine hO gC Rl Kr (aV ?_)
 conv=>whnf
 exact kq
theorem ane(C:dB Z X W ts sl)(ih : ∀g,g<=f->je Z X W ts sl g):PC Z X W ts sl (f+1) .term 201 [.ptr 0 0] dL:=by
 intro i Q R E P hi hG hE hQ;have bv:=ih f (al f);have d:=C.len;have jY:=hG;simp only[gr] at hG;refine hO gC Rl Kr (aV ?_)
 conv=>whnf
 exact kq
theorem anf(C:dB Z X W ts sl)(ih : ∀g,g<=f->je Z X W ts sl g):PC Z X W ts sl (f+1) .rU 203 [.ptr 0 0] dL:=by
 intro i Q R E P hi hG hE hQ;have bv:=ih f (al f);have d:=C.len;have jY:=hG;simp only[gr] at hG;refine hO gC Rl Kr (aV ?_)
 conv=>whnf
 exact kq
theorem ang(C:dB Z X W ts sl)(ih : ∀g,g<=f->je Z X W ts sl g):PC Z X W ts sl (f+1) .primary 145 [.ptr 0 0] dL:=by
 intro i Q R E P hi hG hE hQ;have bv:=ih f (al f);have d:=C.len;have jY:=hG;simp only[gr] at hG;refine hO gC Rl Kr (aV ?_)
 conv=>whnf
 exact kq
theorem anh(C:dB Z X W ts sl)(ih : ∀g,g<=f->je Z X W ts sl g):PC Z X W ts sl (f+1) .atom 168 [.ptr 0 0] dL:=by
 intro i Q R E P hi hG hE hQ;have bv:=ih f (al f);have n:=C.len;simp only[gr] at hG;refine hO gC Rl Kr (aV ?_)
 conv=>whnf
 refine IB C Om ?_;obtain⟨t,ht⟩ : ∃t,ay ts i=t:=⟨_,rfl⟩;have d:(ay ts i).kind≠0->i<ts.length:=Bz;rw[ht] at hG d⊢;obtain⟨kd,lt,xt⟩:=t;by_cases hk:4<=kd/\kd<=7
 ·have hl:i<ts.length:=d (by show kd≠0;omega);rw[iP hk] at hG;obtain rfl | rfl | rfl | rfl:kd=4\/kd=5\/kd=6\/kd=7:=by omega
  all_goals
   conv=>whnf
   refine amZ hk.1 hk.2 ?_;conv=>whnf
   repeat (refine⟨rfl,?_⟩;conv=>whnf)
   exact We rfl (Wf C hl) (hQ _ _ hG Om)
 rw[iN hk] at hG;conv=>whnf
 exact kq
theorem ani(C:dB Z X W ts sl)(ih : ∀g,g<=f->je Z X W ts sl g):PC Z X W ts sl (f+1) .exprs 105 [.ptr 0 0] dL:=by
 intro i Q R E P hi hG hE hQ;have bv:=ih f (al f);have d:=C.len;have jY:=hG;simp only[gr] at hG;refine hO gC Rl Kr (aV ?_)
 conv=>whnf
 exact kq
theorem anj(C:dB Z X W ts sl)(ih : ∀g,g<=f->je Z X W ts sl g):PC Z X W ts sl (f+1) .one 141 [.ptr 0 0] dL:=by
 intro i Q R E P hi hG hE hQ;have bv:=ih f (al f);have d:=C.len;have jY:=hG;simp only[gr] at hG;refine hO gC Rl Kr (aV ?_)
 conv=>whnf
 exact kq
theorem ank(C:dB Z X W ts sl)(ih : ∀g,g<=f->je Z X W ts sl g):PC Z X W ts sl (f+1) .places 104 [.ptr 0 0] dL:=by
 intro i Q R E P hi hG hE hQ;have bv:=ih f (al f);have d:=C.len;have jY:=hG;simp only[gr] at hG;refine hO gC Rl Kr (aV ?_)
 conv=>whnf
 exact kq
theorem anl(C:dB Z X W ts sl)(ih : ∀g,g<=f->je Z X W ts sl g):PC Z X W ts sl (f+1) .simple 110 [.ptr 0 0] dL:=by
 intro i Q R E P hi hG hE hQ;have bv:=ih f (al f);have d:=C.len;have jY:=hG;simp only[gr] at hG;refine hO gC Rl Kr (aV ?_)
 conv=>whnf
 exact kq
theorem anm(C:dB Z X W ts sl)(ih : ∀g,g<=f->je Z X W ts sl g):PC Z X W ts sl (f+1) .plain 147 [.ptr 0 0] dL:=by
 intro i Q R E P hi hG hE hQ;have bv:=ih f (al f);have d:=C.len;have jY:=hG;simp only[gr] at hG;refine hO gC Rl Kr (aV ?_)
 conv=>whnf
 exact kq
theorem ann(C:dB Z X W ts sl)(ih : ∀g,g<=f->je Z X W ts sl g):PC Z X W ts sl (f+1) .value 170 [.ptr 0 0] dL:=by
 intro i Q R E P hi hG hE hQ;have bv:=ih f (al f);have d:=C.len;have jY:=hG;simp only[gr] at hG;refine hO gC Rl Kr (aV ?_)
 conv=>whnf
 exact kq
theorem ano(C:dB Z X W ts sl)(ih : ∀g,g<=f->je Z X W ts sl g):PC Z X W ts sl (f+1) .block 103 [.ptr 0 0] dL:=by
 intro i Q R E P hi hG hE hQ;have bv:=ih f (al f);have d:=C.len;have jY:=hG;simp only[gr] at hG;refine hO gC Rl Kr (aV ?_)
 conv=>whnf
 exact kq
theorem anp(C:dB Z X W ts sl)(ih : ∀g,g<=f->je Z X W ts sl g):PC Z X W ts sl (f+1) .stmt 71 [.ptr 0 0] dL:=by
 intro i Q R E P hi hG hE hQ;have bv:=ih f (al f);have d:=C.len;have jY:=hG;simp only[gr] at hG;refine hO gC Rl Kr (aV ?_)
 conv=>whnf
 exact kq
theorem anq(C:dB Z X W ts sl)(ih : ∀g,g<=f->je Z X W ts sl g) : ∀(cl:List UInt8) (ln:Int),cl≠ []->PC Z X W ts sl (f+1) (.params cl ln []) 107 [.ptr 0 0,rS (.int .i64 ln),rS (.string ⟨⟨cl⟩⟩)] dL:=by
 intro cl ln cl_ne i Q R E P hi hG hE hQ;have bv:=ih f (al f);have d:=C.len;have jY:=hG;simp only[gr] at hG;refine hO gC Rl Kr (aV ?_)
 conv=>whnf
 exact kq
theorem anr(C:dB Z X W ts sl)(ih : ∀g,g<=f->je Z X W ts sl g) : ∀(cl:List UInt8),cl≠ []->PC Z X W ts sl (f+1) (.row cl []) 108 [.ptr 0 0,rS (.string ⟨⟨cl⟩⟩)] ID:=by
 intro cl cl_ne i Q R E P hi hG hE hQ;have bv:=ih f (al f);have d:=C.len;have jY:=hG;simp only[gr] at hG;refine hO gC Rl Kr (aV ?_)
 conv=>whnf
 exact kq
theorem ant(C:dB Z X W ts sl)(ih : ∀g,g<=f->je Z X W ts sl g) : ∀(k:Nat) (l:Int) (x:List UInt8) (o:Nat) (ks:List Nd),PC Z X W ts sl (f+1) (.index (.mk k l x o ks)) 169 [.ptr 0 0,ya (.mk k l x o ks)] dL:=by
 intro k l x o ks i Q R E P hi hG hE hQ;have bv:=ih f (al f);have d:=C.len;have jY:=hG;simp only[gr] at hG;refine hO gC Rl Kr (aV ?_)
 conv=>whnf
 exact kq
theorem anu(C:dB Z X W ts sl)(ih : ∀g,g<=f->je Z X W ts sl g):PC Z X W ts sl (f+1) (.clauses []) 191 [.ptr 0 0] ID:=by
 intro i Q R E P hi hG hE hQ;have bv:=ih f (al f);have d:=C.len;have jY:=hG;simp only[gr] at hG;refine hO gC Rl Kr (aV ?_)
 conv=>whnf
 exact kq
theorem anv(C:dB Z X W ts sl)(ih : ∀g,g<=f->je Z X W ts sl g) : ∀(ln:Int),PC Z X W ts sl (f+1) (.list ln) 184 [.ptr 0 0,rS (.int .i64 ln)] dL:=by
 intro ln i Q R E P hi hG hE hQ;have bv:=ih f (al f);have d:=C.len;have jY:=hG;simp only[gr] at hG;refine hO gC Rl Kr (aV ?_)
 conv=>whnf
 exact kq
theorem anw(C:dB Z X W ts sl)(ih : ∀g,g<=f->je Z X W ts sl g) : ∀(ln:Int),PC Z X W ts sl (f+1) (.yF ln) 185 [.ptr 0 0,rS (.int .i64 ln)] dL:=by
 intro ln i Q R E P hi hG hE hQ;have bv:=ih f (al f);have d:=C.len;have jY:=hG;simp only[gr] at hG;refine hO gC Rl Kr (aV ?_)
 conv=>whnf
 exact kq
theorem anx(C:dB Z X W ts sl)(ih : ∀g,g<=f->je Z X W ts sl g) : ∀(k:Nat) (ln:Int),PC Z X W ts sl (f+1) (.names k ln []) 144 [.ptr 0 0,rS (.int .i64 (k:Nat)),rS (.int .i64 ln)] dL:=by
 intro k ln i Q R E P hi hG hE hQ;have bv:=ih f (al f);have d:=C.len;have jY:=hG;simp only[gr] at hG;refine hO gC Rl Kr (aV ?_)
 conv=>whnf
 exact kq
theorem anz(C:dB Z X W ts sl)(ih : ∀g,g<=f->je Z X W ts sl g) : ∀(k:Nat) (ln:Int) (all:Bool),PC Z X W ts sl (f+1) (.maybe k ln all) 143 [.ptr 0 0,rS (.int .i64 (k:Nat)),rS (.int .i64 ln),rS (.bool all)] dL:=by
 intro k ln all i Q R E P hi hG hE hQ;have bv:=ih f (al f);have d:=C.len;simp only[gr] at hG;cases all;all_goals simp only[iV,iF,iT] at hG
 all_goals
  refine hO gC Rl Kr (aV ?_)
  conv=>whnf
  exact kq
theorem anA(C:dB Z X W ts sl)(ih : ∀g,g<=f->je Z X W ts sl g) : ∀(ln:Int),PC Z X W ts sl (f+1) (.ifs ln) 100 [.ptr 0 0,rS (.int .i64 ln)] dL:=by
 intro ln i Q R E P hi hG hE hQ;have bv:=ih f (al f);have d:=C.len;have jY:=hG;simp only[gr] at hG;refine hO gC Rl Kr (aV ?_)
 conv=>whnf
 exact kq
theorem anB(C:dB Z X W ts sl)(ih : ∀g,g<=f->je Z X W ts sl g) : ∀(ln:Int),PC Z X W ts sl (f+1) (.tries ln) 109 [.ptr 0 0,rS (.int .i64 ln)] dL:=by
 intro ln i Q R E P hi hG hE hQ;have bv:=ih f (al f);have d:=C.len;have jY:=hG;simp only[gr] at hG;refine hO gC Rl Kr (aV ?_)
 conv=>whnf
 exact kq
end
end
section
open Go Go.RowKit
attribute [local irreducible] TC ap ay iX gz
section
variable {Z:TP} {X:cY} {W:Int->ae} {ts:List PT} {sl:Sl} {f:Nat}
theorem anC:je Z X W ts sl 0:=by
 constructor;all_goals (intros;intro i Q R E P hi a c d;exact a.elim)
theorem anD(C:dB Z X W ts sl)(a : ∀g,g<=f->je Z X W ts sl g):je Z X W ts sl (f+1):=⟨am7 C a,am8 C a,am9 C a,am' C a,ana C a,anb C a,ane C a,anf C a,ang C a,anh C a,ani C a,anj C a,ank C a,anl C a,anm C a,ann C a,ano C a,anp C a,anq C a,anr C a,ant C a,anu C a,anv C a,anw C a,anx C a,anz C a,anA C a,anB C a⟩
theorem anE(C:dB Z X W ts sl) : ∀f,je Z X W ts sl f:=by
 intro f;induction f using Nat.strongRecOn with
 | _ f a=>
   cases f with
   | zero=>exact anC
   | succ f=>exact anD C λg hg=>a g Om
end
end
section
open Go Go.RowKit
def vA:Nd:= .mk 0 0 [] 0 []
def n7(ts:List PT):Nd×Int×Int:=match gr ts (ts.length*64+100) (.top []) 0 with
 | some (.ok (l,_))=>if 60<eD l+1 then (vA,0,11) else (nd 1 (Js (ay ts 0).line l) l,0,0)
 | some (.error e)=>(vA,(ay ts e).line,22)
 | none=>(vA,0,0)
noncomputable def lu:List Item×List Item×bH×bH×bH:=match (rF Tryz.prog 38).body with
 | .seq (.gW a) (.seq (.gW b) (.seq .bad (.seq c (.seq d e))))=>(a,b,c,d,e)
 | _=>([],[], .skip, .skip, .skip)
theorem anF:(rF Tryz.prog 38).body= .seq (.gW lu.1) (.seq (.gW lu.2.1) (.seq .bad (.seq lu.2.2.1 (.seq lu.2.2.2.1 lu.2.2.2.2)))):=by kernel_rfl
theorem adP:(rF Tryz.prog 38).res= [.kA 5 2, .ld 3, .ld 4]:=by kernel_rfl
def qm (H:CH)(sl:Sl):CH:=(((H.new (.cells [.int .i64 0, .int .i64 0, .string ⟨⟨[]⟩⟩, .int .i64 0, .slice none 0 0] 26 .ex)).new (.cells [.int .i64 0] 3 .ex)).new (.cells [.int .i64 0] 33 .ex)).new (BD sl 0)
abbrev pP(l:Nat):ae:= .pointer (some ⟨l,0,none⟩)
theorem anG{H:CH}{fr:Fr}{sl:Sl}(e:fr 0= .slice sl.q sl.n sl.c):cM (ba Tryz.prog LG GG) (.gW lu.1) fr H λx aj H1=>x= .normal/\cM (ba Tryz.prog LG GG) (.gW lu.2.1) aj H1 λx aS g=>x= .normal/\aS 2=pP H.nx/\aS 3=pP (H.nx+1)/\aS 4=pP (H.nx+2)/\aS 5=pP (H.nx+3)/\g=qm H sl:=by
 have a:lu.1=_:=rfl;conv at a=>rhs;reduce
 have d:lu.2.1=_:=rfl;conv at d=>rhs;reduce
 rw[a,d];refine rn @e ?_;rfl
def Me (H:CH)(sl:Sl):TP:= .plain (λb=>∃o,sl.q=some ⟨b,o,none⟩) H.ob
theorem anH{H:CH}{sl:Sl}{ts:List PT}(h:gU 3 tu H sl.q sl.c ts){b:Nat}(hb:(Me H sl).N b):b<H.nx:=by
 obtain⟨o,ho⟩:=hb;rcases h with ⟨_,_,h | h | h⟩ | ⟨l,o',os,e,k,q,hl,_⟩
 ·rw[h] at ho;cases ho
 ·rw[h] at ho;cases ho
 ·rw[h] at ho;cases ho
 rw[q] at ho;cases ho;exact hl
theorem anI{H:CH}{sl:Sl}{ts:List PT}(h:gU 3 tu H sl.q sl.c ts)(hn:sl.n=ts.length):Qk (Me H sl) sl ts:=by
 refine⟨hn,λl o q=>⟨o,q⟩,λK a=> ?_⟩;rcases h with ⟨h1,h2,h3⟩ | ⟨l,o,os,e,k,q,h1,h2,h3,h4,h5,d⟩
 ·exact .inl ⟨h1,h2,h3⟩
 obtain⟨g1,g2⟩:=a l ⟨o,q⟩;exact .inr ⟨l,o,os,e,k,q,g1,h2,h3,g2.trans h4,h5,d⟩
def prF (H:CH):aM:=λt=> [.bad, .bad,rS (pP H.nx),rS (pP (H.nx+1)),rS (pP (H.nx+2)), .ptr 0 0].getD t .bad
theorem Dq{H:CH}{sl:Sl}:(qm H sl).nx=H.nx+4:=rfl
theorem Wm{H:CH}{sl:Sl}{b:Nat}(hb:b<H.nx):(qm H sl).ob b=H.ob b:=by
 unfold qm;rw[bQ (by simp only[gJ];omega),bQ (by simp only[gJ];omega),bQ (by simp only[gJ];omega),bQ Om]
theorem anJ{H:CH}{sl:Sl}:(qm H sl).ob (H.nx+3)=BD sl 0:=cV.trans (iP rfl)
theorem anK{H:CH}{sl:Sl}{ts:List PT}(h:gU 3 tu H sl.q sl.c ts){aK:Fr}(a:aK 2=pP H.nx)(c3:aK 3=pP (H.nx+1))(d:aK 4=pP (H.nx+2))(c5:aK 5=pP (H.nx+3)) :
 TR (Me H sl) (qm H sl) (some (H.nx+3)) (λ_=>False) (qm H sl) (ce (jv sl 0)) (prF H) aK (E0 (some (H.nx+3)) λb=>b<H.nx+4/\b≠H.nx+3):=by
 have t0:TR (Me H sl) (qm H sl) (some (H.nx+3)) (λ_=>False) (qm H sl) (ce (jv sl 0)) (λt=>([]:List AV).getD t .bad) (λt=>([]:List ae).getD t undef) (E0 (some (H.nx+3)) λb=>b<H.nx+4/\b≠H.nx+3):=by
  refine TR.start (e:=none) (W:=λ_=>False) (λb hb=>⟨hb.1,λe=>hb.2 (by cases e;rfl)⟩) (λ_ h=>h.elim) (λb hb=> ?_) .nil (adH (by rw[Dq];omega) anJ) (.inl ⟨rfl,λ_ h=>h⟩);have:=anH h hb;exact⟨by rw[Dq];omega,λe=>by cases e;omega,id,Wm this⟩
 refine { t0 with gx:=λt=> ?_ };match t with
 | 0=>exact .bad
 | 1=>exact .bad
 | 2=>rw[a];exact L7 rfl
 | 3=>rw[c3];exact L7 rfl
 | 4=>rw[d];exact L7 rfl
 | 5=>rw[c5];exact .ptr rfl
 | n+6=>exact .bad
theorem cv{K:CH}{p b:Nat}{o:cy}(h:b≠p):(K.set p o).ob b=K.ob b:=by
 simp only[CH.set];rw[iN h]
theorem anL{T:bZ}{X:cY}{f:aU}{args:List AV}{Q:AV->List SV->Prop}(h:TC (.plain (λ_=>False) λ_=> .dead) T X f args none Q λ_=>False){K:CH}{vs:List ae}(hv:R2 (bX K (E0 none λ_=>False)) args vs):aR T f vs K λv K'=>ag K K'/\∃a s',bX K' (E0 none λ_=>False) a v/\Q a s':=by
 rcases h K none (λ_=>False) (λ_=>False) vs (λ_ h=>h.elim) (λ_ h=>h) (λ_ h=>h.elim) hv rfl (λ_ h=>h) with h | ⟨n,v,H',_,h⟩
 ·exact h.mono λv K' ⟨h1,h2,mG,W',a,s',_,h3,hc,_,_,h4⟩=>⟨⟨h1,λb hb=>h2 b hb Sm id⟩,a,s',h3.Bt hc (λ_=>rfl) λb hb=>⟨⟨hb.1,id,hb.2.2⟩,rfl⟩,h4⟩
 exact h.2.2.elim
attribute [local irreducible] TC ap ay iX gz
theorem anM{Z:TP}{X:cY}{W:Int->ae}{ts:List PT}{sl:Sl}{H:CH}{R:ae->Prop}(C:dB Z X W ts sl):l5 Z (ba Tryz.prog LG GG) X DT R lu.2.2.1 (prF H) (ce (jv sl 0)) λx fr st=>x= .normal/\(∃nt v,st=⟨nt,[(v,114,(oR sl 0).2.2),(v,26,nC 1 (ay ts 0).line [] 0 (.s (.row 5 [])))]⟩)/\fr 2=rS (pP H.nx)/\fr 3=rS (pP (H.nx+1))/\fr 4=rS (pP (H.nx+2))/\fr 5= .ptr 0 0/\fr 6= .ptr 1 0:=by
 have e:lu.2.2.1=_:=rfl;conv at e=>rhs;reduce
 rw[e];clear e;conv=>whnf
 refine IB C (cx _) ?_;conv=>whnf
 exact⟨rfl,⟨_,_,rfl⟩,rfl,rfl,rfl,rfl,rfl⟩
def prG (H:CH):aM:=λt=> [.bad, .bad,rS (pP H.nx),rS (pP (H.nx+1)),rS (pP (H.nx+2)), .ptr 0 0, .ptr 1 0].getD t .bad
def anN (acc:List Nd)(c:CV):Prop:=(acc= []/\c= .s (.row 5 []))\/∃t,c= .own t 26 5 (cZ acc)
theorem anO{Z:TP}{X:cY}{W:Int->ae}{ts:List PT}{sl:Sl}{H:CH}{R:ae->Prop}(C:dB Z X W ts sl){f nt v:Nat}(n : ∀m,m<f->je Z X W ts sl m){E:Nat->Prop}{P:List Nd->Nat->Prop}(a:Gd E P (gr ts f (.top []) 0))(hE : ∀e,E e->R (W (ay ts e).line)) :
 l5 Z (ba Tryz.prog LG GG) X DT R lu.2.2.2.1 (prG H) ⟨nt,[(v,114,(oR sl 0).2.2),(v,26,nC 1 (ay ts 0).line [] 0 (.s (.row 5 [])))]⟩ λx fr st=>x= .normal/\(∃l j nt u v c,P l j/\anN l c/\st=⟨nt,[(u,114,(oR sl j).2.2),(v,26,nC 1 (Js (ay ts 0).line l) [] 0 c)]⟩)/\fr 2=rS (pP H.nx)/\fr 3=rS (pP (H.nx+1))/\fr 4=rS (pP (H.nx+2))/\fr 6= .ptr 1 0:=by
 have e:lu.2.2.2.1=_:=rfl;conv at e=>rhs;reduce
 rw[e];clear e;have k:=C.len;conv=>whnf
 refine tt (λm s=>∃acc j c,FG acc c/\s=⟨1,[oR sl j,oN (nC 1 (Js (ay ts 0).line acc) [] 0 c)]⟩/\j<=ts.length/\m<=f/\2*acc.length<=j/\Gd E P (gr ts m (.top acc) j)) f [99] rfl ⟨[],_,_, .inl ⟨rfl,rfl⟩,rfl,Om,al _,by simp only[cX];omega,a⟩ ?_;rintro m f1 s ⟨acc,j,c,hA,rfl,t,w,o,a⟩;rcases m with _ | m
 ·exact a.elim
 have g:=n m Om;simp only[gr] at a;rcases hA with ⟨rfl,rfl⟩ | ⟨aA,rfl⟩
 rotate_left
 rcases acc with _ | ⟨⟨y,z,A,B,D⟩,acc⟩
 ·exact absurd rfl aA
 all_goals
  try simp only[cw,cX] at o
  conv=>whnf
  refine IB C Om ?_;conv=>whnf
  generalize hk:((ay ts j).kind != Int.ofNat 0)=q;cases q
  ·have d:(ay ts j).kind=0:=by simpa using hk
   rw[iP d] at a;conv=>whnf
   first
    | exact⟨rfl,⟨_,_,_,_,_,_,a, .inr ⟨_,rfl⟩,rfl⟩,rfl,rfl,rfl,rfl⟩
    | exact⟨rfl,⟨_,_,_,_,_,_,a, .inl ⟨rfl,rfl⟩,rfl⟩,rfl,rfl,rfl,rfl⟩
  have d : ¬(ay ts j).kind=0:=by simpa using hk
  rw[iN d] at a;have F:=Bz d;conv=>whnf
  repeat' first
   | (refine kp g.stmt a Tv rfl He Om ?_;intro n1 G I J K L r M a;simp only[NT.min] at r;conv=>whnf)
   | (intro (N:_<=maxLen);conv=>whnf)
   | exact⟨m,[2],Om,rfl,_,_,_,Md rfl,rfl,Om,Om,(by simp only[cO,cw,cX] at *;omega),a⟩
   | (refine⟨rfl,0,_,rfl,rfl,?_⟩;conv=>whnf)
   | (refine⟨rfl,?_⟩;conv=>whnf)
   | (refine⟨bdA (by simp only[cO,cw,cX,ql];omega),?_⟩;conv=>whnf)
theorem adQ{K:CH}{A:Nat->Prop}{sz:Nat}{gs:List (List SV)}{w:ae}(h:eJ K A (.row sz gs) w) : ∃a n c,w= .slice a n c:=by
 cases h with
 | pI=>exact⟨_,_,_,rfl⟩
 | row=>exact⟨_,_,_,rfl⟩
theorem anP{K:CH}{A:Nat->Prop}(hA : ∀b,A b->b<K.nx){k:Nat}{l:Int}{x:List UInt8}{o:Nat}{ks:List Nd}{w:ae}(hw:eJ K A (.row 5 (cZ ks)) w):R2 (bX K (E0 none λ_=>False)) [ya (.mk k l x o ks)] [.agg #[.int .i64 (k:Nat), .int .i64 l, .string ⟨⟨x⟩⟩, .int .i64 (o:Nat),w]]:=by
 refine .cons ?_ .nil;have a:eJ K (dE K (E0 none λ_=>False)) (.row 5 (cZ ks)) w:=hw.mv λb hb=>⟨⟨hA b hb,λh=>h,(λ_ q=>(by cases q)),λo q=>(by
  have q:(if o=0 then none else none)=some b:=q;split at q<;>cases q)⟩,rfl⟩
 exact .r (.agg (vs:= [.int .i64 (k:Nat), .int .i64 l, .string ⟨⟨x⟩⟩, .int .i64 (o:Nat),w]) (.cons (.s (.sc rfl)) (.cons (.s (.sc rfl)) (.cons (.s (.sc rfl)) (.cons (.s (.sc rfl)) (.cons (.s a) .nil))))))
theorem anQ{K:CH}{A:Nat->Prop}(hA : ∀b,A b->b<K.nx){k:Nat}{l:Int}{x:List UInt8}{o:Nat}{ks:List Nd}{w:ae}(hw:eJ K A (.row 5 (cZ ks)) w)(hh:eD ks+1<=9223372036854775807):aR (ba Tryz.prog LG GG) 72 [.agg #[.int .i64 (k:Nat), .int .i64 l, .string ⟨⟨x⟩⟩, .int .i64 (o:Nat),w]] K λv K'=>ag K K'/\v= .int .i64 (eD ks+1:Nat):=
 (anL (X:=pX) (am5 (IE (.mk k l x o ks)+1) k l x o ks (iC _) hh (λa _=>a=rS (.int .i64 (eD ks+1:Nat))) _ rfl) (anP hA hw)).mono λv K' ⟨h1,a,c,h2,h3⟩=>⟨h1,by subst h3;exact ut h2 rfl⟩
def Qm (H:CH)(t:Nd)(ln a:Int)(vs:List ae)(K':CH):Prop:=ag H K'/\∃os,vs= [.agg os.toArray, .int .i64 ln, .int .i64 a]/\b9 K' (λb=>H.nx<=b/\b<K'.nx) (dr t) os
def TyV (vs:List ae)(K':CH):Prop:=∀a0 a a2 a3 b n c r,vs= .agg #[a0,a,a2,a3, .slice (some ⟨b,0,none⟩) n c]::r->∃cs kd,K'.ob b= .cells cs 26 kd
theorem anR{H K:CH}{fr:Fr}{b:Nat}{l:List Nd}{ln:Int}{w:ae}(h2:fr 2=pP H.nx)(h3:fr 3=pP (H.nx+1))(h4:fr 4=pP (H.nx+2))(m:fr 6=pP b)(o2:K.ob H.nx= .cells [.int .i64 0, .int .i64 0, .string ⟨⟨[]⟩⟩, .int .i64 0, .slice none 0 0] 26 .ex)(o3:K.ob (H.nx+1)= .cells [.int .i64 0] 3 .ex)(o4:K.ob (H.nx+2)= .cells [.int .i64 0] 33 .ex)
 (s:K.ob b= .cells [.int .i64 1, .int .i64 ln, .string ⟨⟨[]⟩⟩, .int .i64 0,w] 26 .ex) (hn:H.nx+4<=K.nx) (hb:b<K.nx) (t:H.nx+4<=b) (hw:eJ K (λb=>H.nx+4<=b/\b<K.nx) (.row 5 (cZ l)) w) (hh:eD l+1<=9223372036854775807) (d : ∀b,b<H.nx->K.ob b=H.ob b) (u : ∀b n c,w= .slice (some ⟨b,0,none⟩) n c->b<K.nx/\H.nx+4<=b/\∃cs kd,K.ob b= .cells cs 26 kd) :
 cM (ba Tryz.prog LG GG) lu.2.2.2.2 fr K λx fr' K'=>x= .ret/\∃vs,bT fr' K' [.kA 5 2, .ld 3, .ld 4]=some vs/\Qm H (if 60<eD l+1 then vA else .mk 1 ln [] 0 l) 0 (if 60<eD l+1 then 11 else 0) vs K'/\TyV vs K':=by
 obtain⟨D,G,I,rfl⟩ : ∃a n c,w= .slice a n c:=by
  exact adQ hw
 have e:lu.2.2.2.2=_:=rfl;conv at e=>rhs;reduce
 rw[e];clear e;refine rn (an @m @s) ?_;refine(anQ (k:=1) (x:= []) (o:=0) (λ_ h=>h.2) hw hh).mono λv y ⟨hx,e⟩=> ?_;subst e;have g2:=(hx.ob _ (show H.nx<K.nx by omega)).trans o2;have g3:=(hx.ob _ (show H.nx+1<K.nx by omega)).trans o3;have g4:=(hx.ob _ (show H.nx+2<K.nx by omega)).trans o4;have g6:=(hx.ob _ hb).trans s;have z:=hx.nx;have g:ag H y:=⟨Om,λb hb=>(hx.ob b Om).trans (d b hb)⟩;by_cases J:60<eD l+1
 ·have j:decide ((60:Int)<((eD l+1:Nat):Int))=true:=decide_eq_true Om;refine rn (rT @h2 @h3 @h4 @g2 @g3 @g4 @j) ?_;refine⟨_,rfl,⟨((g.set (al _) _).set Om _).set Om _,_,rfl, .cons (.sc rfl) (.cons (.sc rfl) (.cons (.sc rfl) (.cons (.sc rfl) (.cons .pI .nil))))⟩,?_⟩;intro a0 A a2 a3 b n c r e;simp at e
 have j:decide ((60:Int)<((eD l+1:Nat):Int))=false:=decide_eq_false Om;refine rn (Eh @h2 @h3 @h4 @m @g2 @g3 @g4 @g6 @j) ?_;refine⟨_,rfl,⟨((g.set (al _) _).set Om _).set Om _,_,rfl, .cons (.sc rfl) (.cons (.sc rfl) (.cons (.sc rfl) (.cons (.sc rfl) (.cons (hw.mv λb hb=>⟨⟨Om,cj hb.2 z⟩,?_⟩) .nil))))⟩,?_⟩;·rw[cv Om,cv Om,cv Om];exact hx.ob b hb.2
 intro a0 A a2 a3 b n c r e;simp only[List.cons.injEq,Value.agg.injEq,Array.mk.injEq] at e;obtain⟨⟨_,_,_,_,e,_⟩,_⟩:=e;obtain⟨B,L,cs,kd,C⟩:=u b n c e;exact⟨cs,kd,by rw[cv Om,cv Om,cv Om,hx.ob b B];exact C⟩
end
section
open Go Go.RowKit
theorem anS{H K:CH}{l:Int}(o2:K.ob H.nx= .cells [.int .i64 0, .int .i64 0, .string ⟨⟨[]⟩⟩, .int .i64 0, .slice none 0 0] 26 .ex)(o3:K.ob (H.nx+1)= .cells [.int .i64 0] 3 .ex)(o4:K.ob (H.nx+2)= .cells [.int .i64 0] 33 .ex)(hn:H.nx+4<=K.nx) :
 L9 [pP H.nx,pP (H.nx+1),pP (H.nx+2)] (nZ l) K ((((Dn K l).set H.nx (.cells [.int .i64 0, .int .i64 0, .string ⟨⟨[]⟩⟩, .int .i64 0, .slice none 0 0] 26 .ex)).set (H.nx+1) (.cells [.int .i64 l] 3 .ex)).set (H.nx+2) (.cells [.int .i64 22] 33 .ex)):=by
 refine⟨rfl,l,rfl,?_⟩;unfold Dn;conv in FF=>reduce
 have a:H.nx≠K.nx:=by omega
 have c:H.nx+1≠K.nx:=by omega
 have d:H.nx+2≠K.nx:=by omega
 exact rz (rR @o2 @o3 @o4 @a @c @d)
theorem anT{P:Program}{f:Nat}(h:(nL P (λN ops=>kf P N ops) f).isSome=true):Oh P f (rF P f):=by
 refine Z5 (λN ops d h=>OG h) (rd:=λN ops=>kf P N ops) ?_;unfold rF;cases a:nL P (λN ops=>kf P N ops) f with
 | none=>rw[a] at h;cases h
 | some r=>rfl
theorem adR{H:CH}{sl:Sl}:(qm H sl).ob H.nx= .cells [.int .i64 0, .int .i64 0, .string ⟨⟨[]⟩⟩, .int .i64 0, .slice none 0 0] 26 .ex:=by
 unfold qm;rw[bQ (by simp only[gJ];omega),bQ (by simp only[gJ];omega),bQ (by simp only[gJ];omega)];exact cV.trans (iP rfl)
theorem adS{H:CH}{sl:Sl}:(qm H sl).ob (H.nx+1)= .cells [.int .i64 0] 3 .ex:=by
 unfold qm;rw[bQ (by simp only[gJ];omega),bQ (by simp only[gJ];omega)];exact cV.trans (iP rfl)
theorem adT{H:CH}{sl:Sl}:(qm H sl).ob (H.nx+2)= .cells [.int .i64 0] 33 .ex:=by
 unfold qm;rw[bQ (by simp only[gJ];omega)];exact cV.trans (iP rfl)
def Qn (H:CH)(ts:List PT)(v:ae)(H':CH):Prop:=∃vs,v=dV vs/\Qm H (n7 ts).1 (n7 ts).2.1 (n7 ts).2.2 vs H'/\TyV vs H'
def PrQ (H:CH)(ts:List PT)(v:ae)(H':CH):Prop:=∃vs,v=dV vs/\Qm H (n7 ts).1 (n7 ts).2.1 (n7 ts).2.2 vs H'
theorem anU{ts:List PT}:Gd (λe=>gr ts (ts.length*64+100) (.top []) 0=some (.error e)) (λl j=>gr ts (ts.length*64+100) (.top []) 0=some (.ok (l,j))/\eD l+1<=64*ts.length+2) (gr ts (ts.length*64+100) (.top []) 0):=by
 have h1:=BB (ts:=ts) (ts.length*64+100) (.top []) 0 trivial (cx _) (by simp only[NT.lU];omega);have h2:=Ql (ts:=ts) (ts.length*64+100) (.top []) 0 trivial (cx _) (by simp only[NT.lU];omega);match h:gr ts (ts.length*64+100) (.top []) 0,h1,h2 with
 | some (.error e),_,_=>exact rfl
 | some (.ok (l,j)),h1,h2=>
   refine⟨rfl,?_⟩;have h3:a8 l+64*0+0<=0+64*j+0:=h2;have h4:=h1.2.1;have h5:=Wg l;omega
theorem Qo{K:CH}{E:TE}{v w:ae}(h:fo K E (cS v) w):w=v:=by
 cases h with
 | s h=>cases h;rfl
theorem anV{K:CH}{E:TE}{A:Nat->Prop}{t sz:Nat}{e:aI}{gs:List (List SV)}{w:ae}(h:fo K E (.own t e sz gs) w)(h1 : ∀b,dE K E b->A b)(h2 : ∀b,E.σ t=some b->A b):eJ K A (.row sz gs) w:=by
 cases h with
 | vr=>exact .pI
 | own aA hb ho hk hg hs ht=>exact .row aA (h2 _ hb) ho hk hg (hs.mv λb hb=>⟨h1 b hb,rfl⟩) ht
theorem anW{H:CH}{sl:Sl}{ts:List PT}(h:gU 3 tu H sl.q sl.c ts)(hn:sl.n=ts.length)(D:ts.length<=4398046510976) : ∃v H',Qn H ts v H'/\∀B,CY Tryz.prog B 38 [.slice sl.q sl.n sl.c] H v H':=by
 refine ajJ (T:=(ba Tryz.prog LG GG)) (X:=pX) (G:=L9) (g:=68) (d:=10) (x1:=2) (x2:=3) (x3:=4) (λB=>La) (λB f args H v H'=>amk) (anT Kr) anF Rl Kr (Nat.lt_of_lt_of_eq (by decide:10<37) (by kernel_rfl:37=(rF Tryz.prog 38).ntmps)) amn (λB=>amt) ?_;refine(anG (sl:=sl) rfl).mono λx aj H1 ⟨hx,hw⟩=>⟨hx,hw.mono λx y H2 ⟨hx,O,c3,S,c5,e⟩=>⟨hx,?_⟩⟩;subst e;have C:=aml (anI h hn) D;have hc : ∀t,t≠10->bE y (some 10) undef t=y t:=λt ht=>iN ht;have t0:=anK (aK:=bE y (some 10) undef) h ((hc 2 de).trans O) ((hc 3 de).trans c3) ((hc 4 de).trans S) ((hc 5 de).trans c5);let Rp:ae->Prop:=λv=>∃e,gr ts (ts.length*64+100) (.top []) 0=some (.error e)/\v=nZ (ay ts e).line
 have HL : ∀v o,PX (qm H sl) (some (H.nx+3)) (λ_=>False) Rp v o->∃U,L9 [y 2,y 3,y 4] v o U/\∃vs,bT (E8 (.seq lu.2.2.1 (.seq lu.2.2.2.1 lu.2.2.2.2)) (bE y (some 10) undef)) U (rF Tryz.prog 38).res=some vs/\Qn H ts (dV vs) U:=by
  rintro v o ⟨g1,g2,e,hg,rfl⟩;rw[Dq] at g1 g2;have o2:=(g2 H.nx Om (λe=>by injection e;omega) id).trans adR;have o3:=(g2 (H.nx+1) Om (λe=>by injection e;omega) id).trans adS;have o4:=(g2 (H.nx+2) Om (λe=>by injection e;omega) id).trans adT;rw[O,c3,S];refine⟨_,anS o2 o3 o4 g1,?_⟩;have V:ag H o:=⟨Om,λb hb=>(g2 b Om (λe=>by injection e;omega) id).trans (Wm hb)⟩;have Y : ∀t,t≠10->(su (.seq lu.2.2.1 (.seq lu.2.2.2.1 lu.2.2.2.2))).elem t=false->E8 (.seq lu.2.2.1 (.seq lu.2.2.2.1 lu.2.2.2.2)) (bE y (some 10) undef) t=y t:=λt ht hw=>by
   unfold E8;rw[hw];exact hc t ht
  have m2:=(Y 2 de Kr).trans O;have m3:=(Y 3 de Kr).trans c3;have m4:=(Y 4 de Kr).trans S;rw[adP];unfold Dn;have eO:H.nx≠o.nx:=by omega
  have eG:H.nx+1≠o.nx:=by omega
  have l7:H.nx+2≠o.nx:=by omega
  refine rn (Eh @m2 @m3 @m4 @o2 @o3 @o4 @eO @eG @l7) ?_;refine⟨_,rfl,[_,_,_],rfl,?_⟩;have ht:n7 ts=(vA,(ay ts e).line,22):=by unfold n7;rw[hg]
  rw[ht];refine⟨⟨((((V.new _).set Om _).set (al _) _).set Om _).set Om _,_,rfl, .cons (.sc rfl) (.cons (.sc rfl) (.cons (.sc rfl) (.cons (.sc rfl) (.cons .pI .nil))))⟩,?_⟩;intro a0 a1 a2 a3 b n c r e;simp at e
 refine Ul ((VH gC t0 (anM (R:=Rp) C)).mono ?_ HL);rintro x I o ⟨ud,st3,E3,t1,s1,rfl,⟨nt,u,rfl⟩,g2,g3,g4,g5,g6⟩;have t1':TR (Me H sl) (qm H sl) (some (H.nx+3)) (λ_=>False) o ⟨nt,[(u,114,(oR sl 0).2.2),(u,26,nC 1 (ay ts 0).line [] 0 (.s (.row 5 [])))]⟩ (prG H) I E3:=by
  refine { t1 with gx:=λt=> ?_ };match t with
  | 0=>exact .bad
  | 1=>exact .bad
  | 2=>have:=t1.gx 2;rw[g2] at this;exact this
  | 3=>have:=t1.gx 3;rw[g3] at this;exact this
  | 4=>have:=t1.gx 4;rw[g4] at this;exact this
  | 5=>have:=t1.gx 5;rw[g5] at this;exact this
  | 6=>have:=t1.gx 6;rw[g6] at this;exact this
  | n+7=>exact .bad
 show mZ (ba Tryz.prog LG GG) pX (.seq lu.2.2.2.1 lu.2.2.2.2) I o _ _;refine Ul ((VH gC t1' (anO C (λm _=>anE C m) anU λe he=>⟨e,he,rfl⟩)).mono ?_ HL);rintro x J z ⟨EK,st4,K,t2,s2,rfl,⟨l,j,nt2,u1,u2,c,⟨oX,Wl⟩,lV,rfl⟩,g2,g3,g4,g6⟩;have hp : ∀t l,EK t=rS (pP l)->J t=pP l:=λt l e=>by
  have:=t2.gx t;rw[e] at this;exact ut this rfl
 have Io : ∀b,b<H.nx+4/\b≠H.nx+3->K.hid b:=λb hb=>s2.hid b (s1.hid b hb);have xq:K.ρ 0=some (H.nx+3):=s2.ej _ _ (s1.ej _ _ rfl);obtain⟨b,os,iM,fI,a⟩:=t2.av 1 _ _ _ rfl;have h6:J 6=pP b:=by
  have:=t2.gx 6;rw[g6] at this;obtain⟨b',L,q2⟩:=this.xU;rw[iM] at L;cases L;exact q2
 obtain⟨gT,hbk,_⟩:=t2.ej 1 b iM;have anX:b≠H.nx+3:=λe=>by
  have:=t2.sC 0 1 b (by rw[xq,e]) iM;cases this
 have hb4:H.nx+4<=b:=by
  rcases hbk with q | q
  ·rw[Dq] at q;exact q
  injection q with q;exact absurd q.symm anX
 have cG:=t2.nx;rw[Dq] at cG;have Am : ∀b,dE z K b->H.nx+4<=b/\b<z.nx:=λb ⟨f1,f2,f3,f4⟩=>by
  have:b≠H.nx+3:=λe=>f4 0 (by rw[xq,e]);have f2 : ¬(b<H.nx+4/\b≠H.nx+3):=λq=>f2 (Io b q);exact⟨Om,f1⟩
 have M : ∀b,b<H.nx+3->z.ob b=(qm H sl).ob b:=λb hb=>t2.cP b (by rw[Dq];omega) (λe=>by injection e;omega) id;have hw : ∀w,fo z K c w->eJ z (λb=>H.nx+4<=b/\b<z.nx) (.row 5 (cZ l)) w:=λw hc=>by
  rcases lV with ⟨rfl,rfl⟩ | ⟨t,rfl⟩
  ·cases hc with
   | s h=>exact h.mv λb hb=>⟨Am b hb,rfl⟩
  exact anV hc Am λb hb=>⟨by have:=(t2.sig t b hb).1;rw[Dq] at this;exact this,(t2.sig t b hb).2.1⟩
 have Br : ∀w,fo z K c w->∀b n c',w= .slice (some ⟨b,0,none⟩) n c'->b<z.nx/\H.nx+4<=b/\∃cs kd,z.ob b= .cells cs 26 kd:=λw hc b n c' ew=>by
  subst ew;rcases lV with ⟨rfl,rfl⟩ | ⟨t,rfl⟩
  ·cases hc with
   | s h=>cases h with | row aA _ _ _ _ _=>exact absurd rfl aA.1
  generalize cZ l=gs at hc;cases hc with
  | own aA hb ho hk hg hs=>exact⟨(t2.sig t b hb).2.1,by have:=(t2.sig t b hb).1;rw[Dq] at this;exact this,_,_,ho⟩
 cases a with | cons a1 a=>
 cases a with | cons a2 a=>
 cases a with | cons a3 a=>
 cases a with | cons a4 a=>
 cases a with | cons a5 a=>
 cases a;have e1:=Qo a1;have e2:=Qo a2;have e3:=Qo a3;have e4:=Qo a4;subst e1 e2 e3 e4;refine .inl ((anR (H:=H) (hp 2 _ g2) (hp 3 _ g3) (hp 4 _ g4) h6 ((M _ Om).trans adR) ((M _ Om).trans adS) ((M _ Om).trans adT) fI cG gT hb4 (hw _ a5) Om (λb hb=>(M b Om).trans (Wm hb)) (Br _ a5)).mono λx fr' K' ⟨L,vs,q2,N,q4⟩=>⟨.inr L,vs,?_,vs,rfl,?_,q4⟩);·rw[adP];exact q2
 have ht:n7 ts=if 60<eD l+1 then (vA,0,11) else (nd 1 (Js (ay ts 0).line l) l,0,0):=by unfold n7;rw[oX]
 rw[ht];by_cases A:60<eD l+1
 ·rw[iP A,iP A] at N;rw[iP A];exact N
 rw[iN A,iN A] at N;rw[iN A];exact N
theorem n3{a:Nat}:((a:Int)+3)=((a+3:Nat):Int):=rfl
end
section
open Go Go.RowKit
end
section
open Go Go.RowKit
section
variable {Z:TP} {X:cY} {ts:List PT} {sl:Sl} {R:ae->Prop} {Q:AV->List SV->Prop} {i:Nat} {b:Bool}
end
end
section
open Go Go.RowKit
attribute [local irreducible] TC ap ay iX
section
variable {Z:TP} {X:cY} {ts:List PT} {sl:Sl} {R:ae->Prop} {Q:AV->List SV->Prop} {E:Nat->Prop} {P:List Nd->Nat->Prop} {i:Nat}
end
end
section
open Go Go.RowKit
attribute [local irreducible] TC ap ay iX
section
variable {Z:TP} {X:cY} {ts:List PT} {sl:Sl}
end
end
section
open Go Go.RowKit
attribute [local irreducible] TC ap ay iX
section
variable {Z:TP} {X:cY} {ts:List PT} {sl:Sl} {R:ae->Prop} {Q:AV->List SV->Prop} {E:Nat->Prop} {P:List Nd->Nat->Prop} {i:Nat}
end
end
section
open Go Go.RowKit
attribute [local irreducible] TC ap ay iX
section
variable {Z:TP} {X:cY} {R:ae->Prop} {Q:AV->List SV->Prop}
end
end
section
open Go Go.RowKit
attribute [local irreducible] TC ap ay iX
section
variable {Z:TP} {X:cY} {R:ae->Prop} {Q:AV->List SV->Prop}
end
end
section
open Go Go.RowKit
attribute [local irreducible] TC ap ay iX
section
variable {Z:TP} {X:cY} {R:ae->Prop} {Q:AV->List SV->Prop}
end
end
section
open Go Go.RowKit
attribute [local irreducible] TC ap ay iX gz
end
section
open Go Go.RowKit
attribute [local irreducible] TC ap ay iX gz
section
variable {Z:TP} {X:cY} {ts:List PT} {sl:Sl} {f:Nat}
end
end
section
open Go Go.RowKit
attribute [local irreducible] TC ap ay iX gz
section
variable {Z:TP} {X:cY} {ts:List PT} {sl:Sl} {f:Nat}
end
end
section
open Go Go.RowKit
attribute [local irreducible] TC ap ay iX gz
section
variable {Z:TP} {X:cY} {ts:List PT} {sl:Sl} {f:Nat}
end
end
section
open Go Go.RowKit
attribute [local irreducible] TC ap ay iX gz
section
variable {Z:TP} {X:cY} {ts:List PT} {sl:Sl} {f:Nat}
end
end
section
open Go Go.RowKit
attribute [local irreducible] TC ap ay iX gz
section
variable {Z:TP} {X:cY} {ts:List PT} {sl:Sl} {f:Nat}
end
end
section
open Go Go.RowKit
attribute [local irreducible] TC ap ay iX gz
end
section
open Go Go.RowKit
def anY (H:CH)(ts:List PT)(v:ae)(K:CH):Prop:=ag H K/\∃os,v= .tuple #[.agg os.toArray, .int .i64 (n7 ts).2.1, .int .i64 (n7 ts).2.2]/\b9 K (λb=>H.nx<=b/\b<K.nx) (dr (n7 ts).1) os
def qn (t:Tok):PT:=⟨t.kind,t.line,t.text⟩
theorem anZ(t:Tok):jS (qn t)=C4 t:=rfl
theorem adW : ∀ts:List Tok,(ts.map qn).flatMap jS=ts.flatMap C4
 | []=>rfl
 | t::ts=>by rw[List.map_cons,vU,vU,adW ts,anZ]
theorem an0{A K:CH}{v:ae}{ts:List Tok}(h:gP A 85 3 C4 K v ts):gP A 85 3 jS K v (ts.map qn):=by
 rcases h with ⟨rfl,rfl⟩ | ⟨b,kd,rfl,h1,h2,h3,h4⟩
 ·exact .inl ⟨rfl,rfl⟩
 exact .inr ⟨b,kd,by rw[fh],h1,h2,by rw[adW];exact h3,h4⟩
def iO(src:List UInt8):Nd×Int×Int:=match kL src with
 | .ok ts=>n7 (ts.map qn)
 | .error y=>(vA,y.1,y.2)
def adX (args:List ae)(H:CH)(v:ae)(H':CH):Prop:=∀q c src,args= [.slice q src.length c]->gU 1 (pG .u8) H q c (mF src)->ag H H'/\U7 H H' v (kL src)
def SP:Spec:=λf args H v H'=>(f=38->∀(sl:Sl) (ts:List PT),args= [.slice sl.q sl.n sl.c]->gU 3 tu H sl.q sl.c ts->sl.n=ts.length->ts.length<=4398046510976->Qn H ts v H')/\(f=37->adX args H v H')/\(f=23->∀(sl:Sl) (ts:List PT),args= [.slice sl.q sl.n sl.c]->gU 3 tu H sl.q sl.c ts->sl.n=ts.length->ts.length<=4398046510976->anY H ts v H')/\(f=22->adX args H v H')
noncomputable abbrev TL:bZ:=wF Tryz.prog LG GG [38,37,23,22] SP
theorem an1{B:Nat}:uf Tryz.prog B TL:=Us O9
theorem an2{a b:PT}(h:jS a=jS b):a=b:=by
 cases a;cases b;simp only[jS,List.cons.injEq,Value.int.injEq,Value.string.injEq,true_and,and_true] at h;obtain⟨rfl,rfl,h⟩:=h;injection h with h
 injection h with h
 subst h;rfl
theorem an3{H:CH}{q:Option cm}{c:Nat}{ts us:List PT}(h:gU 3 tu H q c ts)(g:gU 3 tu H q c us)(hl:ts.length=us.length):ts=us:=by
 refine NA hl λi h1 h2=> ?_;obtain⟨l,o,os,e,kd,j,k,_,_,m,_⟩:=Qj h h1;obtain⟨l',o',n,e',p,a,d,_,_,r2,_⟩:=Qj g h2;rw[j] at a;cases a;rw[k] at d;cases d;exact an2 (m.symm.trans r2)
theorem an4{H:CH}{sl:Sl}{ts:List PT}(h:gU 3 tu H sl.q sl.c ts)(hn:sl.n=ts.length)(a:ts.length<=4398046510976):aR TL 38 [.slice sl.q sl.n sl.c] H λv H'=>Qn H ts v H':=by
 obtain⟨v,H',h1,h2⟩:=anW h hn a;refine H7 rfl ⟨v,H',⟨λ_ d g he h' j _=> ?_,λe=>(by cases e),λe=>(by cases e),λe=>by cases e⟩,h2⟩ λv H' k=>k.1 rfl sl ts rfl h hn a;cases sl;cases d;cases he;rw[an3 h' h (j.symm.trans hn)];exact h1
theorem an5{H:CH}{sl:Sl}{ts:List PT}(h:gU 3 tu H sl.q sl.c ts)(hn:sl.n=ts.length)(a:ts.length<=4398046510976):aR TL 38 [.slice sl.q sl.n sl.c] H λv H'=>PrQ H ts v H':=
 (an4 h hn a).mono λv H' ⟨vs,h1,h2,_⟩=>⟨vs,h1,h2⟩
theorem an6{H:CH}{q:Option cm}{c:Nat}{a b:List UInt8}(h:gU 1 (pG .u8) H q c (mF a))(g:gU 1 (pG .u8) H q c (mF b))(hl:a.length=b.length):a=b:=by
 have h1:=abB h;have h2:=abB g;rw[Dd] at h1 h2;rw[hl,h2] at h1;injection h1 with h1
 injection h1 with h1 _
 rw[OZ,OZ] at h1;refine NA hl λi i1 i2=> ?_;have:=congrArg (λl=>l[i]?) h1;simp only[mF,List.getElem?_map,bM i1,bM i2,Option.map_some,Option.some.injEq,Value.int.injEq,true_and] at this;exact UInt8.toNat.inj Om
theorem an7{H:CH}{q:Option cm}{c:Nat}{src:List UInt8}(h:gU 1 (pG .u8) H q c (mF src)):aR TL 37 [.slice q src.length c] H λv K=>ag H K/\U7 H K v (kL src):=by
 obtain⟨v,K,h1,h2⟩:=ajT (T:=(ba Tryz.prog LG GG)) (λB=>La) Kr (alf H h);refine H7 rfl ⟨v,K,⟨λe=>(by cases e),λ_ g c' a he h'=> ?_,λe=>(by cases e),λe=>by cases e⟩,h2⟩ λv K d=>d.2.1 rfl q c src rfl h;simp only[List.cons.injEq,Value.slice.injEq,and_true] at he;obtain⟨rfl,hl,rfl⟩:=he;rw[an6 h' h hl.symm];exact h1
def D0:TD:=⟨[]⟩
section
variable {Z:TP} {X:cY}
attribute [local irreducible] TC
end
theorem an8{K:CH}{b:Nat}{ts:List PT}{e:aI}{k:Kd}(hb:b<K.nx)(ho:K.ob b= .cells ((ts.map jS).flatten) e k)(hl:ts.length<=maxLen):gU 3 tu K (some ⟨b,0,none⟩) ts.length ts:=by
 have a:((ts.map jS).flatten).length=ts.length*3:=by
  rw[Fj (sz:=3) (λg hg=>by obtain⟨t,_,rfl⟩:=List.mem_map.1 hg;rfl),fh]
 refine .inr ⟨b,0,_,e,k,rfl,hb,al _,hl,ho,Om,λi h=> ?_⟩;have hg:(ts.map jS)[i]? = some (jS ts[i]):=by simp[h]
 have:=(Px (sz:=3) (gs:=ts.map jS) (λg hg=>by obtain⟨t,_,rfl⟩:=List.mem_map.1 hg;rfl) hg).1;show((((ts.map jS).flatten).drop (0+i*3)).take 3)=jS ts[i];rw[bJ];exact this
theorem Dr{K:CH}{A:Nat->Prop}{t:Nd}{os:List ae}(h:b9 K A (dr t) os) : ∃k l x o a c d,os= [.int .i64 k, .int .i64 l, .string x, .int .i64 o, .slice a c d]:=by
 cases t;cases h with | cons e h=>
 cases h with | cons a2 h=>
 cases h with | cons a3 h=>
 cases h with | cons a4 h=>
 cases h with | cons a5 h=>
 cases h;cases e;cases a2;cases a3;cases a4;obtain⟨a,c,d,rfl⟩:=adQ a5;exact⟨_,_,_,_,_,_,_,rfl⟩
def Wn (H:CH)(src:List UInt8)(v:ae)(K:CH):Prop:=∃vs,v=dV vs/\Qm H (iO src).1 (iO src).2.1 (iO src).2.2 vs K
theorem an9{src:List UInt8}{ts:List Tok}(h:kL src= .ok ts):(ts.map qn).length<=100000:=by
 rw[fh];exact U' h
theorem an'{A K:CH}{v:ae}{ts:List PT}(h:gP A 85 3 jS K v ts)(a:ts.length<=9223372036854775807) : ∃q c,v= .slice q ts.length c/\gU 3 tu K q c ts:=by
 rcases h with ⟨rfl,rfl⟩ | ⟨b,kd,rfl,h1,h2,h3,h4⟩
 ·exact⟨none,0,rfl, .inl ⟨rfl,rfl, .inl rfl⟩⟩
 refine⟨_,_,rfl,?_⟩;have e:ts.flatMap jS=(ts.map jS).flatten:=by rw[List.flatMap_def]
 rw[e] at h3;exact an8 h2 h3 (by rw[gZ];exact a)
theorem aoa{H:CH}{q:Option cm}{c:Nat}{src:List UInt8}(h:gU 1 (pG .u8) H q c (mF src)) :
 aR TL 17 [.slice q src.length c] H λv K=>Wn H src v K:=by
 refine du Rl Kr (aV ?_)
 refine aC ?_;refine(an7 (gU.jN (pG.jN _) ((ag.refl H).new _) h)).mono ?_;rintro v K ⟨hx,hv⟩;cases a:kL src with
 | error y=>
   rw[a] at hv;have hv:v= .tuple #[.slice none 0 0, .int .i64 y.1, .int .i64 y.2]:=hv;subst hv;have n : ¬((y.2:Int)=0):=by
    have:y.2=20\/y.2=21\/y.2=24:=by
     by_cases hl:src.length<=20000
     ·rcases(acE hl a).2 with e | e
      ·exact .inl e
      exact .inr (.inl e)
     unfold kL at a;rw[iP Om] at a;cases a;exact .inr (.inr rfl)
    omega
   have d:K.ob H.nx= .cells [.int .i64 0, .int .i64 0, .string ⟨⟨[]⟩⟩, .int .i64 0, .slice none 0 0] 26 .ex:=by
    rw[hx.ob H.nx (iC _)];exact cV.trans (iP rfl)
   have hn:H.nx<K.nx:=hx.nx;refine rn (an @d @n) ?_;have es:iO src=(vA,(y.1:Int),(y.2:Int)):=by unfold iO;rw[a]
   rw[Wn,es];exact⟨[_,_,_],rfl,(((ag.refl H).new _).trans hx).set (al _) _,[_,_,_,_,_],rfl, .cons (.sc rfl) (.cons (.sc rfl) (.cons (.sc rfl) (.cons (.sc rfl) (.cons .pI .nil))))⟩
 | ok ts=>
   rw[a] at hv;obtain⟨vt,rfl,hg⟩:=hv;refine aC ?_;have j:=an9 a;obtain⟨r,c',rfl,hs⟩:=an' (an0 hg) Om;refine(an5 (sl:=⟨r,_,c'⟩) hs rfl Om).mono ?_;rintro v s ⟨vs,rfl,g,os,rfl,m⟩;obtain⟨k,l,x,o,t,u,w,rfl⟩:=Dr m;have hn:H.nx+1<=K.nx:=hx.nx;have z:=g.nx;have d:s.ob H.nx= .cells [.int .i64 0, .int .i64 0, .string ⟨⟨[]⟩⟩, .int .i64 0, .slice none 0 0] 26 .ex:=by
    rw[g.ob H.nx Om,hx.ob H.nx (iC _)];exact cV.trans (iP rfl)
   refine rn @d ?_;have es:iO src=n7 (ts.map qn):=by unfold iO;rw[a]
   rw[Wn,es];refine⟨[_,_,_],rfl,((((ag.refl H).new _).trans hx).trans g).set (al _) _,[_,_,_,_,_],rfl,m.mv λb hb=> ?_⟩;obtain⟨h1,h2⟩:=hb;exact⟨⟨Om,h2⟩,T1 Om⟩
theorem adY{K:CH}{A:Nat->Prop}{k:Nat}{l:Int}{x:List UInt8}{o:Nat}{ks:List Nd}{rest:List SV}{os:List ae}(h:b9 K A (dr (.mk k l x o ks)++rest) os) : ∃w os',os= .int .i64 (k:Nat):: .int .i64 l:: .string ⟨⟨x⟩⟩:: .int .i64 (o:Nat)::w::os'/\eJ K A (.row 5 (cZ ks)) w/\b9 K A rest os':=by
 cases h with | cons a h=>
 cases h with | cons a2 h=>
 cases h with | cons a3 h=>
 cases h with | cons a4 h=>
 cases h with | cons a5 h=>
 cases a;cases a2;cases a3;cases a4;exact⟨_,_,rfl,a5,h⟩
theorem Qp{ks:List Nd} : ∀g∈cZ ks,g.length=5:=by
 induction ks with
 | nil=>intro g hg;cases hg
 | cons n ks a=>
   intro g hg;rcases List.mem_cons.1 hg with rfl | hg
   ·exact adC
   exact a g hg
theorem aob{K:CH}{A:Nat->Prop}{ks:List Nd}{os:List ae}(h:b9 K A (cZ ks).flatten os):os.length=ks.length*5/\∀i t,ks[i]? = some t->i*5+5<=os.length/\b9 K A (dr t) ((os.drop (i*5)).take 5):=by
 have hl:os.length=ks.length*5:=by rw[h.r2.len,Fj Qp,ql]
 refine⟨hl,λi t ht=> ?_⟩;have h1:=Px (Qp (ks:=ks)) (LZ ht);rw[adC] at h1;have:=(h.r2.drop (i*5)).take 5;rw[h1.1] at this;exact⟨by obtain⟨hi,_⟩:=List.getElem?_eq_some_iff.1 ht;omega,this.Lq⟩
theorem mI{K:CH}{A:Nat->Prop}{ks:List Nd}{w:ae}(h:eJ K A (.row 5 (cZ ks)) w) : ∃q,w= .slice q ks.length ks.length/\ks.length<=maxLen/\(ks= []->q=none)/\∀i t,ks[i]? = some t->∃b cs e kd,q=some ⟨b,0,none⟩/\A b/\K.ob b= .cells cs e kd/\kd.cD=false/\cs.length=ks.length*5/\i*5+5<=cs.length/\b9 K A (dr t) ((cs.drop (i*5)).take 5):=by
 have hl:(cZ ks).length=ks.length:=ql;generalize hg:cZ ks=gs at h hl;cases h with
 | pI=>
   have:ks= []:=List.length_eq_zero_iff.1 (by simpa using hl.symm);subst this;exact⟨none,rfl,cx _,λ_=>rfl,λi t h=>by simp at h⟩
 | row aA hb ho hk a hs=>
   rw[hl];refine⟨_,rfl,by rw[<-hl];exact aA.2,λe=> ?_,λi t ht=> ?_⟩;·subst e;exact absurd (by rw[<-hg];rfl) aA.1
   rw[<-hg] at hs;obtain⟨h1,h2⟩:=aob hs;exact⟨_,_,_,_,rfl,hb,ho,hk,h1,(h2 i t ht).1,(h2 i t ht).2⟩
abbrev tx(x:Bs):ByteArray:=⟨⟨x⟩⟩
def cI (n:Nat):Bs:=Lib.itoa (n:Int)
def SR:Spec:=λf args H v H'=>(f=26->∃n,args= [.int .i64 n]/\v= .string ⟨(Lib.itoa n).toArray⟩/\H'=H)/\
 (f=27->∃l k q c xs f,args= [.map (some l), .slice q xs.length c]/\oT H l f k/\E9 H q xs/\v= .map (some H.nx)/\H'=H.new (.fm (y9 f xs) k))
noncomputable abbrev gE:bZ:=wF Tryz.prog LG GG [26,27] SR
theorem aoc{B:Nat}:uf Tryz.prog B gE:=Us O9
theorem aod{H:CH}(h:wG H){n:Int}(a : -9223372036854775808<=n)(h1:n<=9223372036854775807):aR gE 26 [.int .i64 n] H λv K=>v= .string ⟨(Lib.itoa n).toArray⟩/\K=H:=by
 refine H7 Rl ⟨_,_,⟨λ_=>⟨n,rfl,rfl,rfl⟩,λe=>by cases e⟩,λB=>ajY h n a h1⟩ λv H' c=> ?_;obtain⟨n',e,h2,h3⟩:=c.1 rfl;cases e;exact⟨h2,h3⟩
theorem aoe{H:CH}{l k k':Nat}{f a:ByteArray->Option Int}(h:oT H l f k)(h':oT H l a k'):f=a/\k=k':=by
 rcases h with h | ⟨h,rfl,rfl⟩<;>rcases h' with h' | ⟨h',rfl,rfl⟩
 ·rw[h] at h';cases h';exact⟨rfl,rfl⟩
 ·rw[h] at h';cases h'
 ·rw[h] at h';cases h'
 exact⟨rfl,rfl⟩
theorem aof{H:CH}{q:Option cm}{xs ys:List ByteArray}(h:E9 H q xs)(h':E9 H q ys)(hl:xs.length=ys.length):xs=ys:=by
 refine NA hl λi h1 h2=> ?_;obtain⟨p,o,cs,e,kd,d,g,j,k,n4,l,rfl,a2,a3,_⟩:=h i h1;obtain⟨m,o',cs',e',n,_,_,_,_,_,_,c,a,b3,_⟩:=h' i h2;cases c;rw[a2] at a;cases a;rw[a3] at b3;simp only[List.cons.injEq,Value.int.injEq,Value.string.injEq,true_and,and_true] at b3;exact b3.2.2.1
theorem adZ{H:CH}{l k m c:Nat}{f:ByteArray->Option Int}{q:Option cm}{xs:List ByteArray}(hl:oT H l f k)(a:xs.length=m)(hp:E9 H q xs) :
 aR gE 27 [.map (some l), .slice q m c] H λv K=>v= .map (some H.nx)/\K=H.new (.fm (y9 f xs) k):=by
 subst a;refine H7 Rl ⟨_,_,⟨λe=>(by cases e),λ_=>⟨l,k,q,c,xs,f,rfl,hl,hp,rfl,rfl⟩⟩,λB=>akb hl rfl hp⟩ λv H' d=> ?_;obtain⟨l',k',j,c',n,o,e,g1,g2,g3,g4⟩:=d.2 rfl;simp only[List.cons.injEq,Value.map.injEq,Option.some.injEq,Value.slice.injEq,and_true] at e;obtain⟨rfl,rfl,g,rfl⟩:=e;obtain⟨rfl,rfl⟩:=aoe hl g1;obtain rfl:=aof hp g2 g;exact⟨g3,g4⟩
def RF (ρ:Bs->Nat)(f:ByteArray->Option Int):Prop:=∀y,(f (tx y)).getD 0=(ρ y:Int)
theorem RF.nil:RF (λ_=>0) (λ_=>none):=λ_=>rfl
theorem RF.wo{ρ:Bs->Nat}{f:ByteArray->Option Int}(h:RF ρ f)(ps:List Nd):RF (wo ρ ps) (y9 f (ps.map λn=>tx n.text)):=λy=>by
 unfold Can.wo y9;by_cases a:y∈ps.map Nd.text
 ·rw[iP a,iP];·rfl
  obtain⟨n,hn,e⟩:=List.mem_map.1 a;exact List.any_eq_true.2 ⟨tx n.text,List.mem_map.2 ⟨n,hn,rfl⟩,decide_eq_true (by rw[e])⟩
 rw[iN a,iN];·exact h y
 intro ha;obtain⟨x,hx,e⟩:=List.any_eq_true.1 ha;obtain⟨n,hn,rfl⟩:=List.mem_map.1 hx;have e:=of_decide_eq_true e;exact a (List.mem_map.2 ⟨n,hn,congrArg (λb:ByteArray=>b.data.toList) e⟩)
def txL (n:Nd):Prop:=n.text.length<=1099511627776
theorem aog{K:CH}{A:Nat->Prop}{ks:List Nd}{w:ae}(h:eJ K A (.row 5 (cZ ks)) w)(ht : ∀n∈ks,txL n) : ∃q,w= .slice q ks.length ks.length/\E9 K q (ks.map λn=>tx n.text):=by
 obtain⟨q,rfl,h1,h2,h3⟩:=mI h;refine⟨q,rfl,λi hi=> ?_⟩;have c:i<ks.length:=by simpa using hi
 obtain⟨b,cs,e,kd,rfl,hA,g,s,t,h5,hs⟩:=h3 i ks[i] (bM c);have d:=ht ks[i] (List.getElem_mem c);cases hn:ks[i] with
 | mk k l x o tV=>
   rw[hn] at hs d;obtain⟨w',a,j,m,p⟩:=adY (rest:= []) (by rw[jz];exact hs);have:a= []:=by cases p;rfl
   subst this;obtain⟨r,rfl,_⟩:=mI m;refine⟨b,0,cs,e,kd,(k:Nat),l,(o:Nat),r,tV.length,tV.length,rfl,g,?_,?_⟩;·rw[bJ,j];simp[hn,Nd.text]
   simp only[List.getElem_map,hn];have:x.length<=1099511627776:=d;show x.length<=maxLen;rw[gZ];omega
theorem ij{K:CH}{A:Nat->Prop}{k:Nat}{l:Int}{x:Bs}{o:Nat}{ks:List Nd}{os:List ae}(h:b9 K A (dr (.mk k l x o ks)) os) : ∃q,os= [.int .i64 (k:Nat), .int .i64 l, .string (tx x), .int .i64 (o:Nat), .slice q ks.length ks.length]/\eJ K A (.row 5 (cZ ks)) (.slice q ks.length ks.length):=by
 obtain⟨w,a,rfl,h2,h3⟩:=adY (rest:= []) (by rw[jz];exact h);have:a= []:=by cases h3;rfl
 subst this;obtain⟨q,rfl,_⟩:=mI h2;exact⟨q,rfl,h2⟩
theorem aoh{K:CH}{A:Nat->Prop}:b9 K A (dr (.mk 0 0 [] 0 [])) [.int .i64 0, .int .i64 0, .string ⟨⟨[]⟩⟩, .int .i64 0, .slice none 0 0]:= .cons (.sc rfl) (.cons (.sc rfl) (.cons (.sc rfl) (.cons (.sc rfl) (.cons .pI .nil))))
theorem Mf{K:CH}{A:Nat->Prop}{n:Nd}{os:List ae}(h:b9 K A (dr n) os)(hA : ∀b,A b->b<K.nx):aR gE 28 [.agg os.toArray, .int .i64 0] K λv K'=>∃os',v= .agg os'.toArray/\ag K K'/\b9 K A (dr (cC n.kids)) os':=by
 obtain⟨k,l,x,o,ks⟩:=n;obtain⟨q,rfl,c⟩:=ij h;obtain⟨y,e,z,d,g⟩:=mI c;cases e;cases ks with
 | nil=>
   obtain rfl:=d rfl;refine du Rl Kr (aV ?_);refine aC ?_;refine⟨_,rfl,by(repeat (first | assumption | exact ag.refl _ | (refine ag.set ?_ Fo _) | (refine ag.new ?_ _))),aoh⟩
 | cons j ks=>
   obtain⟨b,cs,e,kd,rfl,m,r,B,C,h5,hs⟩:=g 0 j rfl;have hb:=hA b m;obtain⟨os',a⟩ : ∃os',(cs.drop (0*5)).take 5=os':=⟨_,rfl⟩;rw[a] at hs;have s:os'.length=5:=by rw[<-a];simp;simp at h5;omega
   obtain⟨k',l',x',o',D,G,H,t⟩:=Dr hs;have u:os'.all bu=true:=by rw[t];rfl
   have w:5<=cs.length:=by omega
   refine du Rl Kr (aV ?_);refine rn (iD @r @a @s @u @w) ?_;refine⟨os',by rw[List.take_of_length_le Om],by(repeat (first | assumption | exact ag.refl _ | (refine ag.set ?_ Fo _) | (refine ag.new ?_ _))),hs⟩
structure c7(c:Nat)(H K:CH):Prop where
 nx:H.nx<=K.nx
 ob : ∀l,l<H.nx->l≠c->K.ob l=H.ob l
theorem c7.refl{c:Nat}(H:CH):c7 c H H:=⟨al _,λ_ _ _=>rfl⟩
theorem c7.trans{c:Nat}{A H K:CH}(h:c7 c A H)(k:c7 c H K):c7 c A K:=⟨bW h.nx k.nx,λl hl hc=>(k.ob l (cj hl h.nx) hc).trans (h.ob l hl hc)⟩
theorem ag.ex{c:Nat}{H K:CH}(h:ag H K):c7 c H K:=⟨h.nx,λl hl _=>h.ob l hl⟩
theorem c7.new{c:Nat}{A H:CH}(h:c7 c A H)(o:cy):c7 c A (H.new o):=h.trans ((ag.refl H).new o).ex
theorem c7.set{c:Nat}{A H:CH}(h:c7 c A H){l:Nat}(hl:A.nx<=l\/l=c)(o:cy):c7 c A (H.set l o):=⟨h.nx,λk hk hc=>by simp only[CH.set];rw[iN Om];exact h.ob k hk hc⟩
theorem c7.ext{c:Nat}{H K:CH}(h:c7 c H K)(hc:H.nx<=c):ag H K:=⟨h.nx,λl hl=>h.ob l hl Om⟩
abbrev pN(n:Nat):ae:= .pointer (some ⟨n,0,none⟩)
def Mg (f:ByteArray->Option Int)(c:Nat)(x:Bs):ByteArray->Option Int:=λt=>if t=tx x then some (c:Int) else f t
def uy (f:ByteArray->Option Int)(c:Nat)(xs:List Bs):ByteArray->Option Int:=xs.foldl (λf x=>Mg f c x) f
theorem ad0{f:ByteArray->Option Int}{c:Nat}{xs ys:List Bs}:uy f c (xs++ys)=uy (uy f c xs) c ys:=List.foldl_append ..
theorem RF.up{ρ:Bs->Nat}{f:ByteArray->Option Int}(h:RF ρ f)(c:Nat)(x:Bs):RF (λy=>if y=x then c else ρ y) (Mg f c x):=λy=>by
 unfold Mg;by_cases e:y=x
 ·subst e;simp
 have:tx y≠tx x:=λh=>e (congrArg (λb:ByteArray=>b.data.toList) h);simp only[iN e,iN this];exact h y
theorem RF.uy{c:Nat} : ∀ {xs:List Bs} {ρ:Bs->Nat} {f:ByteArray->Option Int},RF ρ f->RF (wi ρ xs c) (uy f c xs)
 | [],ρ,f,h=>λy=>by simpa[wi,Can.uy] using h y
 | x::xs,ρ,f,h=>λy=>by
   have:=RF.uy (xs:=xs) (c:=c) (h.up c x) y;rw[show Can.uy f c (x::xs)=Can.uy (Mg f c x) c xs from rfl,this];unfold wi;by_cases e:y=x
   ·subst e;simp
   simp[e]
mutual
def zt:Nd->Prop
 | .mk _ _ x _ ks=>x.length<=1099511627776/\BG ks
def BG:List Nd->Prop
 | []=>True
 | n::ks=>zt n/\BG ks
end
theorem FI : ∀ {ks:List Nd} {n:Nd},BG ks->n∈ks->zt n
 | m::ks,n,h,hn=>by
   rcases List.mem_cons.1 hn with rfl | hn
   ·exact h.1
   exact FI h.2 hn
theorem ad1{ks:List Nd}(h:BG ks):zt (cC ks):=by
 cases ks with
 | nil=>exact⟨cx _,trivial⟩
 | cons n ks=>exact h.1
theorem BH : ∀ {ks:List Nd} {n:Nd},n∈ks->eV n<=eD ks
 | m::ks,n,hn=>by
   simp only[eD];rcases List.mem_cons.1 hn with rfl | hn
   ·exact wX _ _
   exact bW (BH hn) (wY _ _)
theorem aoi{K:CH}{x:Bs}{bc bm l c k:Nat}{f:ByteArray->Option Int}(hx:x.length<=1099511627776)(hc:K.ob bc= .cells [.int .i64 (c:Nat)] 3 .ex)(a:K.ob bm= .cells [.map (some l)] 56 .ex)(d:K.ob l= .fm f k)(j:c<=4611686018427387904)(hk:k<=4611686018427387904) :
 aR gE 49 [.string (tx x),pN bc,pN bm] K λv K'=>K'=K.set l (.fm (Mg f c x) (k+1)):=by
 have hs:(tx x).size<=9223372036854775807:=by show x.length<=_;omega
 have hw:(Lit.int .i64 (c:Nat)).wf=true:=by
  simp[Lit.wf,IntKind.min,IntKind.max,IntKind.signed,IntKind.bits];omega
 have g:k+1<=9223372036854775807:=by omega
 refine du Rl Kr (aV ?_);refine rn (rR @hc @a @d @hs @hw @g) ?_;rfl
theorem Mh : ∀ {a b:List Nd},eE (a++b)=eE a++eE b
 | [],b=>rfl
 | n::a,b=>by simp only[jU,eE,Mh,rP]
theorem ad2{i:Nat}{ks:List Nd}:(eE (ks.take i)).length<=(eE ks).length:=by
 conv=>rhs;rw[<-Al i ks,Mh,cO]
 exact NH _ _
def PlJ (K:CH)(l:Nat)(ks:List Nd)(f:ByteArray->Option Int)(c k n:Nat)(v:ae)(a:CH):Prop:=∃i:Nat,n=ks.length-i/\i<=ks.length/\v= .int .i64 (i:Nat)/\c7 l K a/\a.ob l= .fm (uy f c (eE (ks.take i))) (k+(eE (ks.take i)).length)
theorem aoj{bc bm l c:Nat}(B:c<=4611686018427387904) : ∀(N:Nat) (t:Nd),eV t<=N->zt t->∀(K:CH) (A:Nat->Prop) (os:List ae) (f:ByteArray->Option Int) (k:Nat),b9 K A (dr t) os->(∀b,A b->b<K.nx/\b≠l)->K.ob bc= .cells [.int .i64 (c:Nat)] 3 .ex->K.ob bm= .cells [.map (some l)] 56 .ex->K.ob l= .fm f k->bc<K.nx->bm<K.nx->l<K.nx->k+(fy t).length<=4611686018427387904->aR gE 48 [.agg os.toArray, .func (.func 49) #[] #[pN bc,pN bm]] K λv K'=>c7 l K K'/\K'.ob l= .fm (uy f c (fy t)) (k+(fy t).length):=by
 intro N;induction N with
 | zero=>intro t h;cases t;simp[eV] at h
 | succ N C=>
 rintro⟨tk,tl,x,o,ks⟩ D hT K A os f k hs hA hc j d G H hl hk;obtain⟨q,rfl,I⟩:=ij hs;obtain⟨q',e,J,nK,L⟩:=mI I;cases e;rw[gZ] at J;have M:bc≠l:=λe=>by rw[e,d] at hc;cases hc
 have O:bm≠l:=λe=>by rw[e,d] at j;cases j
 by_cases s:tk=36
 ·subst s;rw[fy,iP rfl] at hk;refine du Rl Kr (aV ?_);refine aC ?_;refine(aoi (K:=K.new _) (l:=l) (f:=f) (k:=k) hT.1 (by rw[bQ Om];exact hc) (by rw[bQ Om];exact j) (by rw[bQ Om];exact d) B (by simp at hk;omega)).mono λv K' e=> ?_;subst e;refine aC ?_;rw[fy,iP rfl];exact⟨((c7.refl K).new _).set (.inr rfl) _,rfl⟩
 by_cases h5:tk=52\/tk=51
 ·rcases h5 with rfl | rfl
  all_goals
   rw[fy,iN de,iP de] at hk⊢;refine du Rl Kr (aV ?_);refine aC ?_;refine fC (λn fr a=>PlJ K l ks f c k n (fr 20) a) (n:=ks.length) ⟨0,rfl,cx _,by(refine aC ?_;all_goals rfl),(c7.refl K).new _,by rw[bQ Om,d];rfl⟩ ?_;rintro n fr a ⟨i,rfl,hi,f20,hx,ho⟩ m;by_cases g:i<ks.length
   ·obtain⟨t,ht⟩ : ∃t,ks[i]? = some t:=⟨_,bM g⟩;obtain⟨b,cs,e,kd,S,hb,ob,fc,cR,nj,u⟩:=L i t ht;have T:=(hx.ob b (hA b hb).1 (hA b hb).2).trans ob;obtain⟨k',l',x',o',U,V,Y,w⟩:=Dr u;have cG:=hx.nx;have lX:ks.take (i+1)=ks.take i++ [t]:=by
     obtain⟨_,e⟩:=List.getElem?_eq_some_iff.1 ht;rw[rL g,e]
    have y:eE (ks.take (i+1))=eE (ks.take i)++fy t:=by rw[lX,Mh];simp[eE]
    have r:=ad2 (i:=i+1) (ks:=ks);rw[y,cO] at r;have z:=C t (bW (BH (fi ht)) (by simp only[eV] at D;omega)) (FI hT.2 (fi ht)) (a.new (.cells [.int .i64 k', .int .i64 l', .string x', .int .i64 o', .slice U V Y] 26 .ex)) A _ _ _ (u.mv λb hb=>⟨hb,by rw[bQ (by have:=(hA b hb).1;omega)];exact hx.ob b (hA b hb).1 (hA b hb).2⟩) (λb hb=>⟨by have:=(hA b hb).1;show b<a.nx+1;omega,(hA b hb).2⟩) (by rw[bQ Om,hx.ob bc G M];exact hc) (by rw[bQ Om,hx.ob bm H O];exact j) (by rw[bQ Om];exact ho) (by show bc<a.nx+1;omega) (by show bm<a.nx+1;omega) (by show l<a.nx+1;omega) Om;rw[w] at z;refine rn (rT @m @f20 @S @T @w @bJ @pJ) ?_;refine z.mono λv K2 ⟨dt,mr⟩=> ?_;refine rn (an @m @f20) ?_;exact⟨ks.length-(i+1),Om,i+1,rfl,g,rfl,(hx.new _).trans dt,by rw[mr,y,ad0,cO,mP]⟩
   have g:i=ks.length:=by omega
   subst g;rw[pQ] at ho;refine rn (an @m @f20) ?_;exact⟨hx,ho⟩
 refine du Rl Kr (aV ?_);refine aC ?_;rw[fy,iN s,iN h5];exact⟨(c7.refl K).new _,d⟩
theorem Wp : ∀ {a b:List Nd},iE (a++b)=iE a++iE b
 | [],b=>rfl
 | n::a,b=>by simp only[jU,iE,Wp,rP]
theorem aok{i:Nat}{ks:List Nd}:(iE (ks.take i)).length<=(iE ks).length:=by
 conv=>rhs;rw[<-Al i ks,Wp,cO]
 exact NH _ _
theorem aol{f:ByteArray->Option Int}:y9 f []=f:=by
 funext s
 unfold y9;rw[iN];simp
theorem oT.ext{K K':CH}{l k:Nat}{f:ByteArray->Option Int}(h:oT K l f k)(e:K'.ob l=K.ob l):oT K' l f k:=by unfold oT;rw[e];exact h
theorem aom{K:CH}{q:Option cm}:E9 K q []:=λi h=>absurd h (fM _)
def WiJ (K:CH)(ks:List Nd)(f:ByteArray->Option Int)(c k n:Nat)(v:ae)(a:CH):Prop:=∃i:Nat,n=ks.length-i/\i<=ks.length/\v= .int .i64 (i:Nat)/\ag K a/\K.nx+3<=a.nx/\a.ob K.nx= .cells [.int .i64 (c:Nat)] 3 .ex/\a.ob (K.nx+2)= .cells [.map (some (K.nx+1))] 56 .ex/\a.ob (K.nx+1)= .fm (uy f c (iE (ks.take i))) (k+(iE (ks.take i)).length)
theorem aon{K:CH}{A:Nat->Prop}{ks:List Nd}{q:Option cm}{l k c:Nat}{f:ByteArray->Option Int}(O:eJ K A (.row 5 (cZ ks)) (.slice q ks.length ks.length))(hA : ∀b,A b->b<K.nx)(hT:BG ks)(S:oT K l f k)(hl:l<K.nx)(T:c<=4611686018427387904)(hk:k+(iE ks).length<=4611686018427387904) :
 aR gE 29 [.map (some l), .slice q ks.length ks.length, .int .i64 (c:Nat)] K λv K'=>∃l',v= .map (some l')/\ag K K'/\K.nx<=l'/\l'<K'.nx/\K'.ob l'= .fm (uy f c (iE ks)) (k+(iE ks).length):=by
 obtain⟨q',e,U,nK,V⟩:=mI O;cases e;rw[gZ] at U;refine du Rl Kr (aV ?_);refine aC ?_;refine(adZ (xs:= []) (S.ext (bQ Om)) rfl aom).mono λv K0 ⟨Y,x⟩=> ?_;subst Y x;rw[aol];refine aC ?_;refine fC (λn fr a=>WiJ K ks f c k n (fr 14) a) (n:=ks.length) ⟨0,rfl,cx _,by(refine aC ?_;all_goals rfl),by(repeat (first | assumption | exact ag.refl _ | (refine ag.set ?_ Fo _) | (refine ag.new ?_ _))),al _,by exact aZ,by exact aZ,by refine aC ?_;rfl⟩ ?_;rintro n fr a ⟨i,rfl,hi,f14,hx,uA,y,s,u⟩ m;by_cases j:i<ks.length
 ·obtain⟨t,ht⟩ : ∃t,ks[i]? = some t:=⟨_,bM j⟩;obtain⟨b,cs,e,kd,C,hb,ob,fc,cR,nj,D⟩:=V i t ht;have Mi:=hA b hb;have G:=(hx.ob b Mi).trans ob;obtain⟨tk,tl,H,I,d⟩:=t;obtain⟨tq,z,_⟩:=ij D;have lX:ks.take (i+1)=ks.take i++ [.mk tk tl H I d]:=by
   obtain⟨_,e⟩:=List.getElem?_eq_some_iff.1 ht;rw[rL j,e]
  have o:iE (ks.take (i+1))=iE (ks.take i)++(if tk=58 then fy (cC d) else []):=by
   rw[lX,Wp];show _++((if tk=58 then fy (cC d) else [])++ [])=_;rw[jz]
  have r:=aok (i:=i+1) (ks:=ks);rw[o,cO] at r;have B:=FI hT (fi ht);by_cases J:tk=58
  ·subst J;rw[iP rfl] at o r;have L:=Mf (K:=a.new (.cells [.int .i64 ((58:Nat):Int), .int .i64 tl, .string (tx H), .int .i64 (I:Nat), .slice tq d.length d.length] 26 .ex)) (A:=A) (D.mv λb hb=>⟨hb,by rw[bQ (by have:=(hA b hb);have:=hx.nx;omega)];exact hx.ob b (hA b hb)⟩) (λb hb=>by have:=hA b hb;have:=hx.nx;show b<a.nx+1;omega);rw[z] at L;refine rn (rT @m @f14 @C @G @z @bJ @pJ) ?_;refine L.mono λv M ⟨oW,x,N,iH⟩=> ?_;subst x;refine rn @m ?_;have g:ag a M:=((ag.refl a).new _).trans N;have l7:=g.nx;have ER:=aoj (bc:=K.nx) (bm:=K.nx+2) (l:=K.nx+1) T (eV (cC d)) (cC d) (al _) (ad1 B.2) M A oW _ _ (iH.mv λb hb=>⟨hb,N.ob b (by have:=hA b hb;have:=hx.nx;show b<a.nx+1;omega)⟩) (λb hb=>by have:=hA b hb;have:=hx.nx;omega) ((g.ob _ Om).trans y) ((g.ob _ Om).trans s) ((g.ob _ Om).trans u) Om Om Om Om;refine ER.mono λv K3 ⟨w,o4⟩=> ?_;have BI:=w.nx;refine rn (an @m @f14) ?_;exact⟨ks.length-(i+1),Om,i+1,rfl,j,rfl,⟨Om,λb hb=>(w.ob b Om Om).trans ((g.ob b Om).trans (hx.ob b hb))⟩,Om,(w.ob _ Om Om).trans ((g.ob _ Om).trans y),(w.ob _ Om Om).trans ((g.ob _ Om).trans s),by rw[o4,o,ad0,cO,mP]⟩
  rw[iN J,jz] at o;have e58:((tk:Nat):Int)≠58:=by omega
  refine rn (rT @m @f14 @C @G @z @bJ @pJ) ?_;exact⟨ks.length-(i+1),Om,i+1,rfl,j,rfl,hx.new _,Nat.le_succ_of_le uA,(bQ Om).trans y,(bQ Om).trans s,by rw[o];exact(bQ Om).trans u⟩
 have j:i=ks.length:=by omega
 subst j;rw[pQ] at u;refine rn (gK @m @f14 @s) ?_;exact⟨_,rfl,hx,Om,Om,u⟩
end
section
mutual
def kQ (B:Nat):Nd->Prop
 | .mk _ _ _ _ ks=>2*ks.length<=B+16/\l8 B ks
def l8 (B:Nat):List Nd->Prop
 | []=>True
 | n::ks=>kQ B n/\l8 B ks
end
mutual
theorem ad3{B B':Nat}(h:B<=B') : ∀n:Nd,kQ B n->kQ B' n
 | .mk _ _ _ _ ks,g=>⟨bW g.1 Om,Qq h ks g.2⟩
theorem Qq{B B':Nat}(h:B<=B') : ∀l:List Nd,l8 B l->l8 B' l
 | [],_=>trivial
 | n::l,g=>⟨ad3 h n g.1,Qq h l g.2⟩
end
theorem ad4{B B':Nat}{n:Nd}(g:kQ B n)(h:B<=B'):kQ B' n:=ad3 h n g
theorem Wq{B B':Nat}{l:List Nd}(g:l8 B l)(h:B<=B'):l8 B' l:=Qq h l g
theorem Qr{B:Nat} : ∀ {a b:List Nd},l8 B (a++b)↔l8 B a/\l8 B b
 | [],b=>by simp[l8]
 | n::a,b=>by simp only[jU,l8,Qr,and_assoc]
theorem Mm{B:Nat} : ∀ {l:List Nd} {n:Nd},l8 B l->n∈l->kQ B n
 | m::l,n,h,hn=>by
   rcases List.mem_cons.1 hn with rfl | hn
   ·exact h.1
   exact Mm h.2 hn
def KB (L:Nat):PR->Prop
 | some (.ok (l,j))=>L<=j/\l8 j l/\2*l.length<=j+6
 | _=>True
theorem KB.aoo{L a:Nat}{r:PR}(h:KB a r)(c:L<=a):KB L r:=by
 match r,h with
 | none,_=>exact trivial
 | some (.error e),_=>exact trivial
 | some (.ok (l,j)),h=>exact⟨bW c h.1,h.2⟩
theorem Mn{c:Prop}[Decidable c]{L:Nat}{a b:PR}(h1:KB L a)(h2:KB L b):KB L (if c then a else b):=by
 split;·exact h1
 exact h2
theorem aoq{ts:List PT}{s:List UInt8}{i L:Nat}{k:Nat->PR}(h:KB L (k (i+1))):KB L (gV ts s i k):=Mn h trivial
theorem aor{ts:List PT}{kd:Int}{i L:Nat}{k:List UInt8->Nat->PR}(h : ∀x,KB L (k x (i+1))):KB L (mS ts kd i k):=Mn (h _) trivial
theorem ad5{L a:Nat}{r:PR}{k:List Nd->Nat->PR}(h:KB a r)(hk : ∀l j,a<=j->l8 j l->2*l.length<=j+6->KB L (k l j)):KB L (pb r k):=by
 match r,h with
 | none,_=>exact trivial
 | some (.error e),_=>exact trivial
 | some (.ok (l,j)),h=>exact hk l j h.1 h.2.1 h.2.2
theorem Qs{L a:Nat}{r:PR}{k:Nd->Nat->PR}(h:KB a r)(hk : ∀n j,a<=j->kQ j n->KB L (k n j)):KB L (bF r k):=ad5 h λl j h1 h2 _=>by
 match l,h2 with
 | [],_=>exact trivial
 | _::_::_,_=>exact trivial
 | [n],h2=>exact hk n j h1 h2.1
theorem aos{L e:Nat}:KB L (some (.error e)):=trivial
theorem aot{L j:Nat}{l:List Nd}(h1:L<=j)(h2:l8 j l)(h3:2*l.length<=j+6):KB L (some (.ok (l,j))):=⟨h1,h2,h3⟩
theorem Wr{L j:Nat}{n:Nd}(h1:L<=j)(h2:kQ j n):KB L (bR n j):=⟨h1,⟨h2,trivial⟩,Sm⟩
def NT.kd(i:Nat):NT->Prop
 | .params _ _ acc | .row _ acc | .vX _ acc | .clauses acc | .yG _ acc | .placesL _ acc | .names _ _ acc | .mg _ acc | .yH acc | .pV acc | .top acc=>l8 i acc/\2*acc.length<=i+4
 | .sU _ acc=>l8 i acc/\2*acc.length<=i+6
 | .cmpL n acc=>kQ i n/\l8 i acc/\2*acc.length<=i+4
 | .Ao n | .Ap n | .yE n | .vY n | .xh n | .index n=>kQ i n
 | _=>True
def aou (ts:List PT)(f:Nat):Prop:=∀a i,a.kd i->KB (i+a.min) (gr ts f a i)
def Qt (p:Nat):Except Nat (Nat×Nat)->Prop
 | .error _=>True
 | .ok (op,j)=>op≠0->p+1<=j
theorem aov{c:Prop}[Decidable c]{p:Nat}{a b:Except Nat (Nat×Nat)}(h1:Qt p a)(h2:Qt p b):Qt p (if c then a else b):=by
 split;·exact h1
 exact h2
theorem aow(ts:List PT)(p:Nat):Qt p (jk ts p):=by
 unfold jk;repeat' first
  | (with_reducible refine aov ?_ ?_)
  | exact trivial
  | exactλ_=>al _
  | exactλh=>absurd rfl h
  | exactλ_=>(show p+1<=p+2 by omega)
theorem ad6{ts:List PT}{p L:Nat}{A:PR}{B:Nat->Nat->PR}(hA:KB L A)(a : ∀op j,p+1<=j->KB L (B op j)):KB L (match jk ts p with | .error e=>some (.error e) | .ok (0,_)=>A | .ok (op+1,j)=>B op j):=by
 have h:=aow ts p;match jk ts p,h with
 | .error e,_=>exact trivial
 | .ok (0,_),_=>exact hA
 | .ok (op+1,j),h=>exact a op j (h Om)
theorem aox{ts:List PT} : ∀f,aou ts f:=by
 intro f;induction f with
 | zero=>intro a i h;exact trivial
 | succ f e=>
 have h1 : ∀a i L,a.kd i->L<=i+a.min->KB L (gr ts f a i):=λa i L h q=>(e a i h).aoo q;have g : ∀(all:Bool) i,KB (i+1) (gr ts f (if all=true then .exprs else .expr) i):=λall i=>by
  cases all;·exact e .expr i trivial
  exact e .exprs i trivial
 intro a i ha;cases a;case mg l acc=>
  obtain⟨d,o⟩:=ha;simp only[gr];refine Mn ?_ (Wr (al _) ⟨Om,d⟩);cases t:acc.getLast? with
  | none=>exact trivial
  | some n=>exact Mn (Qs (e .value (i+1) trivial) λv j c hv=>h1 _ _ _ ⟨Qr.2 ⟨Qq (by have c:i+1+1<=j:=c;omega) _ d,hv,trivial⟩,by have c:i+1+1<=j:=c;simp only[cO,cw,cX];omega⟩ (by have c:i+1+1<=j:=c;show i+0<=j+0;omega)) trivial
 case cmpL n acc=>
  obtain⟨hn,d,o⟩:=ha;simp only[gr];refine ad6 (Wr (al _) ?_) λop j c=>Qs (e .arith j trivial) λm k hk g=>h1 _ _ _ ⟨ad4 hn (by have hk:j+1<=k:=hk;omega),Qr.2 ⟨Wq d (by have hk:j+1<=k:=hk;omega),⟨Sm,g,trivial⟩,trivial⟩,by have hk:j+1<=k:=hk;simp only[cO,cw,cX];omega⟩ (by have hk:j+1<=k:=hk;show i+0<=k+0;omega);split;·exact hn
  exact⟨by simp only[cw];omega,hn,d⟩
 all_goals simp only[NT.kd] at ha
 all_goals simp only[gr,NT.min]
 all_goals (repeat' first
  | exact aos
  | (simp only[NT.min] at c)
  | (with_reducible refine Mn ?_ ?_)
  | (with_reducible refine ad6 ?_ λop j c=> ?_)
  | (with_reducible refine aoq ?_)
  | (with_reducible refine aor λx=> ?_)
  | (with_reducible refine Qs (g _ _) λn j c hn=> ?_)
  | (with_reducible refine Qs (h1 _ _ _ ?_ (al _)) λn j c hn=> ?_)
  | (with_reducible refine ad5 (h1 _ _ _ ?_ (al _)) λl j c hn hl=> ?_)
  | (with_reducible refine Wr ?_ ?_)
  | (with_reducible refine aot ?_ ?_ ?_)
  | (with_reducible refine h1 _ _ _ ?_ ?_)
  | (with_reducible assumption)
  | exact D7
  | omega
  | (obtain⟨d,o⟩:=ha)
  | (obtain⟨r,s⟩:=o)
  | (simp only[NT.min,NT.kd,l8,kQ,Qr,cO,cw,cX,and_true,true_and])
  | (refine⟨?_,?_⟩)
  | exact ad4 (by with_reducible assumption) Om
  | exact Wq (by with_reducible assumption) Om)
end
section
open Go Go.RowKit
structure N5 where
 k:Int
 l:Int
 x:ByteArray
 o:Int
 a:Option cm
 n:Nat
 c:Nat
def fD (c:N5):List ae:= [.int .i64 c.k, .int .i64 c.l, .string c.x, .int .i64 c.o, .slice c.a c.n c.c]
theorem aoy : ∀x:N5,(fD x).length=5/\(fD x).all bu=true:=λx=>⟨rfl,rfl⟩
theorem tz{K:CH}{A:Nat->Prop}{t:Nd}{os:List ae}(h:b9 K A (dr t) os) : ∃c,os=fD c:=by
 obtain⟨k,l,x,o,a,d,e,rfl⟩:=Dr h;exact⟨⟨k,l,x,o,a,d,e⟩,rfl⟩
theorem Ds{α:Type}{A K:CH}{e sz bytes:Nat}{f:α->List ae}(d : ∀x,(f x).length=sz/\(f x).all bu=true){v:ae}{xs:List α}{y:α}(hg:gP A e sz f K v xs)(hb:(xs.length+1)*bytes<=140737488355328)(j:xs.length+1<=9223372036854775807){us:List ae}(hu:us=f y)
 {Q:ae->CH->Prop} (k : ∀K',K'.ob K.nx= .cells ((xs++ [y]).flatMap f) e .gr->K'.nx=K.nx+1->(∀l,l<K.nx->(∀o n c,v≠ .slice (some ⟨l,o,none⟩) n c)->K'.ob l=K.ob l)->Q (.slice (some ⟨K.nx,0,none⟩) (xs.length+1) (xs.length+1)) K'):CU (p9 e sz bytes v us 1 K) Q:=by
 subst hu;have g:=(d y).2;rcases hg with ⟨rfl,rfl⟩ | ⟨b,kd,rfl,h1,h2,h3,m⟩
 ·simp only[p9,Nat.one_ne_zero,iF];rw[iP ⟨g,by simpa using hb,by rw[gZ];omega⟩];exact k _ (by simp[cV]) rfl λl hl _=>by rw[cV,iN Om]
 have a:(xs.flatMap f).length=xs.length*sz:=Uf (λx=>(d x).1) xs;have q : ∀o,(kC (kd.j9&&decide (xs.length<xs.length+1)) K b o).nx=K.nx+1:=λo=>by unfold kC;split<;>rfl
 have r : ∀o,(kC (kd.j9&&decide (xs.length<xs.length+1)) K b o).ob K.nx=o:=λo=>by
  unfold kC;split<;>(simp only[CH.new,CH.set];simp)
 have s : ∀o l,l<K.nx->l≠b->(kC (kd.j9&&decide (xs.length<xs.length+1)) K b o).ob l=K.ob l:=λo l hl hb=>by
  unfold kC;split;·rw[cV,iN Om]
  rw[cV,iN (by show l≠K.nx;omega),bP,iN hb]
 simp only[p9,h3,Nat.one_ne_zero,iF];rw[iP ⟨trivial,trivial,m,by rw[a];exact al _,g,hb,by rw[gZ];exact j⟩];refine k _ ?_ (q _) λl hl aA=>s _ l hl ?_;·rw[r,<-a,pQ,NF];simp
 rintro rfl;exact aA _ _ _ rfl
abbrev ik(v:ae)(b:Nat):Prop:=∀o n c,v≠ .slice (some ⟨b,o,none⟩) n c
def L1 (N:Nat):Prop:=∀(n:Nd) (ρ:Bs->Nat) (c:Nat),dR n<N->c<=(dw cI ρ c n).2/\(dw cI ρ c n).2<=c+cf n
def L2 (N:Nat):Prop:=∀(ks:List Nd) (ρ:Bs->Nat) (c:Nat),dR ks<N->c<=(jn cI ρ c ks).2/\(jn cI ρ c ks).2<=c+a8 ks
def L3 (N:Nat):Prop:=∀(ks:List Nd) (ρ ρ0:Bs->Nat) (f:Bool) (c:Nat),dR ks<N->c<=(fA cI ρ ρ0 f c ks).2/\(fA cI ρ ρ0 f c ks).2<=c+a8 ks
theorem ad7(it:Nat->Bs)(ρ ρ0:Bs->Nat)(f:Bool)(c:Nat)(n:Nd)(ns:List Nd):(∃k l x o p e,n= .mk k l x o [p,e]/\k=58/\f=true/\fA it ρ ρ0 f c (n::ns)=(.mk k l x o [(dw it ρ c p).1,(dw it ρ0 (dw it ρ c p).2 e).1]::(fA it ρ ρ0 false (dw it ρ0 (dw it ρ c p).2 e).2 ns).1,(fA it ρ ρ0 false (dw it ρ0 (dw it ρ c p).2 e).2 ns).2))\/(¬(n.kind=58/\f=true/\n.kids.length=2)/\fA it ρ ρ0 f c (n::ns)=((dw it ρ c n).1::(fA it ρ ρ0 f (dw it ρ c n).2 ns).1,(fA it ρ ρ0 f (dw it ρ c n).2 ns).2)):=by
 by_cases h2 : ∃a b,n.kids= [a,b]
 ·obtain⟨k,l,x,o,ks⟩:=n;obtain⟨a,b,rfl⟩:=h2;by_cases hk:k=58/\f=true
  ·refine .inl ⟨k,l,x,o,a,b,rfl,hk.1,hk.2,?_⟩;rw[fA,iP hk]
  refine .inr ⟨λh=>hk ⟨h.1,h.2.1⟩,?_⟩;rw[fA,iN hk]
 refine .inr ⟨λh=>h2 ?_,?_⟩
 ·match hn:n.kids,h.2.2 with
  | [a,b],_=>exact⟨a,b,rfl⟩
 rw[fA];exactλk l x o p e h=>h2 ⟨p,e,by rw[h];rfl⟩
theorem aoz(N:Nat):L1 N/\L2 N/\L3 N:=by
 induction N with
 | zero=>exact⟨λ_ _ _ h=>absurd h (fM _),λ_ _ _ h=>absurd h (fM _),λ_ _ _ _ _ h=>absurd h (fM _)⟩
 | succ N d=>
   obtain⟨i1,i2,i3⟩:=d;refine⟨λn ρ c h=> ?_,λks ρ c h=> ?_,λks ρ ρ0 f c h=> ?_⟩
   ·obtain⟨k,l,x,o,ks⟩:=n;have hs:dR ks<N:=by simp at h;omega
    rw[dw,cf];split;·have:=i3 ks (wi ρ (iE ks) (c+1)) ρ true (c+1) hs;exact⟨by show c<=(fA cI _ _ _ _ _).2;omega,by show(fA cI _ _ _ _ _).2<=_;omega⟩
    have:=i2 ks (if k=8\/k=50 then wo ρ (cC ks).kids else ρ) c hs;exact⟨by show c<=(jn cI _ _ _).2;omega,by show(jn cI _ _ _).2<=_;omega⟩
   ·cases ks with
    | nil=>exact⟨al _,al _⟩
    | cons n ks=>
      simp at h;have h1:=i1 n ρ c Om;have h2:=i2 ks ρ (dw cI ρ c n).2 Om;rw[jn,a8];exact⟨by show c<=(jn cI _ _ _).2;omega,by show(jn cI _ _ _).2<=_;omega⟩
   cases ks with
   | nil=>exact⟨by simp[fA],by simp[fA,a8]⟩
   | cons n ks=>
     rcases ad7 cI ρ ρ0 f c n ks with ⟨k,l,x,o,p,e,rfl,_,_,a⟩ | ⟨_,a⟩
     ·simp at h;have h1:=i1 p ρ c Om;have h2:=i1 e ρ0 (dw cI ρ c p).2 Om;have h3:=i3 ks ρ ρ0 false (dw cI ρ0 (dw cI ρ c p).2 e).2 Om;rw[a];simp only[a8,cf];exact⟨by show c<=(fA cI _ _ _ _ _).2;omega,by show(fA cI _ _ _ _ _).2<=_;omega⟩
     simp at h;have h1:=i1 n ρ c Om;have h2:=i3 ks ρ ρ0 f (dw cI ρ c n).2 Om;rw[a];simp only[a8];exact⟨by show c<=(fA cI _ _ _ _ _).2;omega,by show(fA cI _ _ _ _ _).2<=_;omega⟩
theorem Mo(n:Nd)(ρ:Bs->Nat)(c:Nat):c<=(dw cI ρ c n).2/\(dw cI ρ c n).2<=c+cf n:=(aoz (dR n+1)).1 n ρ c (iC _)
def kR(K0 a:CH)(v:ae)(ns:List Nd):Prop:=∃acc:List N5,acc.length=ns.length/\(ns= []->v= .slice none 0 0)/\gP K0 26 5 fD a v acc/\b9 a (λb=>K0.nx<=b/\b<a.nx/\ik v b) (cZ ns).flatten (acc.flatMap fD)
theorem kR.nil{K0 a:CH}:kR K0 a (.slice none 0 0) []:=⟨[],rfl,λ_=>rfl, .inl ⟨rfl,rfl⟩, .nil⟩
theorem kR.Qu{K0 a:CH}{v:ae}{ns:List Nd}(h:kR K0 a v ns){b o n c:Nat}(e:v= .slice (some ⟨b,o,none⟩) n c):K0.nx<=b/\b<a.nx:=by
 obtain⟨acc,_,_,d,_⟩:=h;rcases d with ⟨_,g⟩ | ⟨j,k,g,g1,g2,_⟩
 ·rw[g] at e;cases e
 rw[g] at e;cases e;exact⟨g1,g2⟩
theorem kR.mv{K0 a c:CH}{v:ae}{ns:List Nd}(h:kR K0 a v ns)(hn:a.nx<=c.nx)(hx : ∀b,K0.nx<=b->b<a.nx->c.ob b=a.ob b):kR K0 c v ns:=by
 obtain⟨acc,h1,h2,e,j⟩:=h;refine⟨acc,h1,h2,?_,j.mv λb hb=>⟨⟨hb.1,Om,hb.2.2⟩,hx b hb.1 hb.2.1⟩⟩;rcases e with g | ⟨d,k,g,g1,g2,g3,g4⟩
 ·exact .inl g
 exact .inr ⟨d,k,g,g1,Om,(hx d g1 g2).trans g3,g4⟩
theorem kR.ex{K0 a c:CH}{v:ae}{ns:List Nd}(h:kR K0 a v ns){bc:Nat}(hx:c7 bc a c)(hb:bc<K0.nx):kR K0 c v ns:=h.mv hx.nx λb h1 h2=>hx.ob b h2 Om
theorem kR.app{K0 a:CH}{v:ae}{ns:List Nd}{n:Nd}{nd:N5}(h:kR K0 a v ns)(g:K0.nx<=a.nx)(hs:b9 a (λb=>K0.nx<=b/\b<a.nx/\ik v b) (dr n) (fD nd))(hl:ns.length<=2199023255551){Q:ae->CH->Prop}(k : ∀v' K',a.nx<=K'.nx->(∀l,l<K0.nx->K'.ob l=a.ob l)->kR K0 K' v' (ns++ [n])->Q v' K'):CU (p9 26 5 64 v (fD nd) 1 a) Q:=by
 have j:= @kR.Qu _ _ _ _ h;obtain⟨acc,h1,h2,m,q⟩:=h;refine Ds (y:=nd) aoy m Om Om rfl λK' r u d=>k _ _ Om (λl hl=>d l Om λo n c e=>by have:=(j e).1;omega) ⟨acc++ [nd],by simp[h1],λe=>by simp at e, .inr ⟨a.nx, .gr,Sm,g,Om,r,rfl⟩,?_⟩;rw[LY,List.flatten_append,NF];refine b9.app (q.mv λb ⟨g1,g2,g3⟩=>⟨⟨g1,Om,λo n c e=>by cases e;omega⟩,d b g2 g3⟩) ?_;have s:(cZ [n]).flatten=dr n:=by simp[cZ]
 have t : [nd].flatMap fD=fD nd:=by simp
 rw[s,t];exact hs.mv λb ⟨g1,g2,g3⟩=>⟨⟨g1,Om,λo n c e=>by cases e;omega⟩,d b g2 g3⟩
theorem kR.done{K0 c:CH}{v:ae}{ns:List Nd}(h:kR K0 c v ns)(hl:ns.length<=2199023255552) : ∃d,v= .slice d ns.length ns.length/\eJ c (λb=>K0.nx<=b/\b<c.nx) (.row 5 (cZ ns)) v:=by
 obtain⟨acc,h1,h2,g,j⟩:=h;by_cases hn:ns= []
 ·subst hn;rw[h2 rfl];exact⟨none,rfl, .pI⟩
 rcases g with ⟨e,rfl⟩ | ⟨b,kd,rfl,g1,g2,g3,g4⟩
 ·rw[e] at h1;exact absurd (List.length_eq_zero_iff.1 h1.symm) hn
 refine⟨_,by rw[h1],?_⟩;have e:=eJ.row (A:=λb=>K0.nx<=b/\b<c.nx) (sz:=5) (gs:=cZ ns) ⟨λe=>hn (List.length_eq_zero_iff.1 (by rw[<-ql (a:=ns),e];rfl)),by rw[ql,gZ];omega⟩ ⟨g1,g2⟩ g3 g4 Qp (j.mv λb hb=>⟨⟨hb.1,hb.2.1⟩,rfl⟩) (λ_=>by rfl);rw[ql] at e;rw[h1];exact e
structure WK(K:CH)(bc bw be c:Nat):Prop where
 c:K.ob bc= .cells [.int .i64 (c:Nat)] 3 .ex
 w : ∃e,K.ob bw= .cells [.func (.func 25) #[] #[pN bc,pN bw,pN be]] e .ex
 e : ∃e,K.ob be= .cells [.func (.func 24) #[] #[pN bw]] e .ex
 lt:bc<K.nx/\bw<K.nx/\be<K.nx
 pw:wG K
theorem WK.ex{K K':CH}{bc bw be c c':Nat}(h:WK K bc bw be c)(hx:c7 bc K K')(hc:K'.ob bc= .cells [.int .i64 (c':Nat)] 3 .ex):WK K' bc bw be c':=by
 obtain⟨a,h1⟩:=h.w;obtain⟨d,h2⟩:=h.e;obtain⟨g,j,h3⟩:=h.pw;obtain⟨l,k,l3⟩:=h.lt;have hn:=hx.nx;have n1:bw≠bc:=λe=>by rw[e,h.c] at h1;cases h1
 have n2:be≠bc:=λe=>by rw[e,h.c] at h2;cases h2
 have n3:0≠bc:=λe=>by rw[e,h.c] at h3;cases h3
 exact⟨hc,⟨a,(hx.ob _ k n1).trans h1⟩,⟨d,(hx.ob _ l3 n2).trans h2⟩,⟨Om,Om,Om⟩,Om,j,(hx.ob _ g n3).trans h3⟩
theorem WK.hx{K K':CH}{bc bw be c:Nat}(h:WK K bc bw be c)(hx:ag K K'):WK K' bc bw be c:=h.ex hx.ex ((hx.ob _ h.lt.1).trans h.c)
theorem oT.ex{K K':CH}{l k bc:Nat}{f:ByteArray->Option Int}(h:oT K l f k)(hl:l<K.nx)(hx:c7 bc K K')(hb : ∃cs e kd,K.ob bc= .cells cs e kd):oT K' l f k:=h.ext (hx.ob l hl λe=>by
 obtain⟨cs,e',kd,hb⟩:=hb;subst e;rcases h with h | ⟨h,_⟩<;>(rw[hb] at h;cases h))
def RnQ (K:CH)(bc:Nat)(r:Nd×Nat)(v:ae)(K':CH):Prop:=c7 bc K K'/\K'.ob bc= .cells [.int .i64 (r.2:Nat)] 3 .ex/\∃os,v= .agg os.toArray/\b9 K' (λb=>K.nx<=b/\b<K'.nx) (dr r.1) os
def Mp(S B bc bw be N:Nat):Prop:=∀(t:Nd),eV t<=N->cf t<=S->kQ B t->zt t->∀(K:CH) (A:Nat->Prop) (os:List ae) (ρ:Bs->Nat) (f:ByteArray->Option Int) (k l c:Nat),b9 K A (dr t) os->(∀b,A b->b<K.nx/\b≠bc)->WK K bc bw be c->oT K l f k->l<K.nx->RF ρ f->(∀y,ρ y<=c)->c+cf t<=2305843009213693952->k+N*S<=2305843009213693952->aR gE 25 [.agg os.toArray, .map (some l),pN bc,pN bw,pN be] K (RnQ K bc (dw cI ρ c t))
def EaQ (K:CH)(bc:Nat)(r:List Nd×Nat)(v:ae)(K':CH):Prop:=c7 bc K K'/\K'.ob bc= .cells [.int .i64 (r.2:Nat)] 3 .ex/\eJ K' (λb=>K.nx<=b/\b<K'.nx) (.row 5 (cZ r.1)) v
def EaJ (K0:CH)(bc bw be:Nat)(ρ:Bs->Nat)(e:Nat)(ks:List Nd)(n:Nat)(g a:ae)(d:CH):Prop:=∃(i c:Nat) (ns:List Nd),n=ks.length-i/\i<=ks.length/\a= .int .i64 (i:Nat)/\c7 bc K0 d/\WK d bc bw be c/\e<=c/\c+a8 (ks.drop i)<=2305843009213693952/\ns.length=i/\kR K0 d g ns/\jn cI ρ e ks=(ns++(jn cI ρ c (ks.drop i)).1,(jn cI ρ c (ks.drop i)).2)
theorem aoA{S B bc bw be N:Nat}(ih:Mp S B bc bw be N)(hB:B+16<=4398046511104){ks:List Nd}(hh:eD ks<=N)(hz:a8 ks<=S)(kH:2*ks.length<=B+16)(jq:l8 B ks)(hT:BG ks){K:CH}{A:Nat->Prop}{q:Option cm}{ρ:Bs->Nat}{f:ByteArray->Option Int}{k l c:Nat}(eT:eJ K A (.row 5 (cZ ks)) (.slice q ks.length ks.length))(hA : ∀b,A b->b<K.nx/\b≠bc)(hw:WK K bc bw be c)(hf:oT K l f k)(hl:l<K.nx)(hr:RF ρ f)(hρ : ∀y,ρ y<=c)(hc:c+a8 ks<=2305843009213693952)(hk:k+N*S<=2305843009213693952) :
 aR gE 24 [.slice q ks.length ks.length, .map (some l),pN bw] K (EaQ K bc (jn cI ρ c ks)):=by
 obtain⟨q',e,fO,nK,fY⟩:=mI eT;cases e;rw[gZ] at fO;refine du Rl Kr (aV ?_);refine aC ?_;refine fC (λn fr a=>EaJ K bc bw be ρ c ks n (fr 6) (fr 11) a) (n:=ks.length) ⟨0,c,[],rfl,cx _,by(refine aC ?_;all_goals rfl),c7.refl K,hw,al _,hc,rfl,by(refine aC ?_;exact kR.nil),rfl⟩ ?_;rintro n fr a ⟨i,g,ns,rfl,hi,f11,hx,r,D,fG,Mq,s,u⟩ x;have cG:=hx.nx;obtain⟨G,lw,le⟩:=hw.lt;by_cases j:i<ks.length
 ·obtain⟨t,ht⟩ : ∃t,ks[i]? = some t:=⟨_,bM j⟩;obtain⟨b,cs,e,kd,gi,hb,ob,fc,cR,nj,H⟩:=fY i t ht;have vB:=(hx.ob b (hA b hb).1 (hA b hb).2).trans ob;obtain⟨k',l',x',o',I,J,L,M⟩:=Dr H;have z:=fi ht;have O:ks.drop i=t::ks.drop (i+1):=by
   obtain⟨_,e⟩:=List.getElem?_eq_some_iff.1 ht;rw[rQ j,e]
  obtain⟨ew,Fb⟩:=r.w;have eM:cf t+a8 (ks.drop (i+1))=a8 (ks.drop i):=by rw[O];rfl
  have Qw:cf t<=a8 ks:=by
   have e:a8 ks=a8 (ks.take i)+a8 (ks.drop i):=by rw[<-Dp,Al]
   omega
  have m:ag a (a.new (.cells [.int .i64 k', .int .i64 l', .string x', .int .i64 o', .slice I J L] 26 .ex)):=(ag.refl a).new _;have T:=ih t (bW (BH z) hh) Om (Mm jq z) (FI hT z) (a.new (.cells [.int .i64 k', .int .i64 l', .string x', .int .i64 o', .slice I J L] 26 .ex)) A _ ρ f k l g (H.mv λb hb=>⟨hb,(m.ob _ (by have:=(hA b hb).1;omega)).trans (hx.ob b (hA b hb).1 (hA b hb).2)⟩) (λb hb=>⟨by have:=(hA b hb).1;show b<a.nx+1;omega,(hA b hb).2⟩) (r.hx m) ((hf.ex hl hx ⟨_,_,_,hw.c⟩).ext (m.ob _ Om)) (by show l<a.nx+1;omega) hr (λy=>bW (hρ y) D) Om hk;rw[M] at T;refine rn (oA @x @f11 @gi @vB @M @Fb @bJ @pJ) ?_;refine T.mono λv d ⟨U,o2,oW,e2,V⟩=> ?_;subst e2;obtain⟨nd,rfl⟩:=tz V;repeat' (first | (simp (disch:=first | omega | (decide +kernel)) only[↓RD,RU,↓aP,↓aT,cV,da,fj,isVal,dp,ρ0,ρ1,ρ4,↓reduceIte,Nat.reduceEqDiff,Nat.reduceAdd,reduceCtorEq,ρ7,ρ8,qQ,ρ15,ρ16,ρ18,ρ19,ρ20,ρ25,ρ26,iv,Nat.reduceLeDiff,qP,fD,xb,kB]) | ((with_reducible first|apply aF|apply aG|apply aH)<;>intro _))
  have l7:a.nx+1<=d.nx:=U.nx;have gF:c7 bc a d:=m.ex.trans U;have C:ag d (d.new (.cells (fD nd) 26 .ex)):=(ag.refl d).new _;have Y:c7 bc a (d.new (.cells (fD nd) 26 .ex)):=gF.trans C.ex;refine kR.app (n:=(dw cI ρ g t).1) (s.ex Y G) (by show K.nx<=d.nx+1;omega) (V.mv λb hb=>⟨⟨by have:=hb.1;have:a.nx+1<=b:=this;omega,yu hb.2,λo n c e=>by have:=(s.Qu e).2;have:a.nx+1<=b:=hb.1;omega⟩,C.ob b hb.2⟩) Om λv' K3 k1 k2 k3=> ?_;refine rn (an @x @f11) ?_;have mJ:c7 bc K K3:=⟨bW (by show K.nx<=d.nx+1;omega) k1,λb hb zu=>(k2 b hb).trans ((Y.ob b Om zu).trans (hx.ob b hb zu))⟩;refine⟨ks.length-(i+1),Om,i+1,(dw cI ρ g t).2,ns++ [(dw cI ρ g t).1],rfl,j,rfl,mJ,hw.ex mJ ((k2 bc G).trans ((C.ob bc Om).trans o2)),?_,?_,by simp[Mq],k3,?_⟩;·exact bW D (Mo _ _ _).1
  ·have:=(Mo t ρ g).2;omega
  rw[u,O,jn];simp
 have j:i=ks.length:=by omega
 subst j;rw[Ak] at u;refine rn (an @x @f11) ?_;obtain⟨va,ev,hv⟩:=s.done Om;have e1:jn cI ρ c ks=(ns,g):=by rw[u];simp[jn]
 rw[e1];exact⟨hx,r.c,hv⟩
noncomputable def Ws:bH:=match (rF Tryz.prog 25).body with
 | .seq _ (.seq (.seq _ (.block _ (.seq _ (.cond _ _ (.seq _ (.cond _ _ (.seq _ (.cond _ (.seq _ (.seq _ (.seq _ (.seq _ (.seq _ (.seq (.seq _ (.block _ L)) _)))))) _)))))))) _)=>L
 | _=> .skip
def CoJ (K0:CH)(bc bw be:Nat)(σ ρ:Bs->Nat)(h:Nat)(ks:List Nd)(n:Nat)(a d e:ae)(g:CH):Prop:=∃(i c:Nat) (first:Bool) (ns:List Nd),n=ks.length-i/\i<=ks.length/\a= .bool first/\e= .int .i64 (i:Nat)/\c7 bc K0 g/\WK g bc bw be c/\h<=c/\c+a8 (ks.drop i)<=2305843009213693952/\ns.length=i/\kR K0 g d ns/\fA cI σ ρ true h ks=(ns++(fA cI σ ρ first c (ks.drop i)).1,(fA cI σ ρ first c (ks.drop i)).2)
theorem jf{K:CH}{o:cy}:(K.new o).ob K.nx=o:=by rw[cV,iP rfl]
theorem zn1:List.drop 5 (kB [.int .i64 0, .int .i64 0, .string ⟨⟨[]⟩⟩, .int .i64 0, .slice none 0 0] 5)= []:=rfl
theorem zn2:List.drop 5 (List.drop 5 (kB [.int .i64 0, .int .i64 0, .string ⟨⟨[]⟩⟩, .int .i64 0, .slice none 0 0] (2*5)))= []:=rfl
theorem aoB{K d j g k:CH}{bc:Nat}{v:ae}{ns:List Nd}{n4 q:N5}{a b:Nd}{k2 o2:Nat}{l2:Int}{x2:Bs}{u w o1 Qx:cy}(x:kR K d v ns)(r:bc<K.nx)(G:K.nx<=d.nx)(y:c7 bc (d.new u) j)(z:c7 bc (j.new w) g)(A:b9 j (λb=>(d.new u).nx<=b/\b<j.nx) (dr a) (fD n4))(B:b9 g (λb=>(j.new w).nx<=b/\b<g.nx) (dr b) (fD q))
 (e:k=((g.new (.cells (fD n4++fD q) 26 .ex)).set d.nx o1).new Qx):kR K k v ns/\b9 k (λb=>K.nx<=b/\b<k.nx/\ik v b) (dr (.mk k2 l2 x2 o2 [a,b])) (fD ⟨(k2:Nat),l2,tx x2,(o2:Nat),some ⟨g.nx,0,none⟩,2,2⟩)/\c7 bc d k/\k.nx=g.nx+2/\k.ob bc=g.ob bc:=by
 have H:d.nx+1<=j.nx:=y.nx;have C:j.nx+1<=g.nx:=z.nx;have m : ∀b,b<g.nx->b≠d.nx->k.ob b=g.ob b:=λb h1 h2=>by
  rw[e,bQ (by show b≠g.nx+1;omega),cv h2,bQ Om]
 have l : ∀b,b<j.nx->b≠bc->g.ob b=j.ob b:=λb h1 h2=>(z.ob b (by show b<j.nx+1;omega) h2).trans (bQ Om);have D : ∀b,b<d.nx->b≠bc->j.ob b=d.ob b:=λb h1 h2=>(y.ob b (by show b<d.nx+1;omega) h2).trans (bQ Om);have s:k.nx=g.nx+2:=by rw[e];rfl
 have t:k.ob g.nx= .cells (fD n4++fD q) 26 .ex:=by
  rw[e,bQ (by show g.nx≠g.nx+1;omega),cv Om,jf]
 have F:= @kR.Qu _ _ _ _ x;have off : ∀b,d.nx<=b->ik v b:=λb hb o n c e=>by have:=(F e).2;omega
 have hx:c7 bc d k:=⟨Om,λb h1 h2=>(m b Om Om).trans ((l b Om h2).trans (D b h1 h2))⟩;refine⟨x.ex hx r, .cons (.sc rfl) (.cons (.sc rfl) (.cons (.sc rfl) (.cons (.sc rfl) (.cons (eJ.row (sz:=5) (gs:=cZ [a,b]) ⟨λh=>(by simp[cZ] at h),by rw[ql,gZ];show 2<=_;omega⟩ ⟨Om,Om,off _ Om⟩ t rfl Qp ?_ (λ_=>by rfl)) .nil)))),hx,s,m bc Om Om⟩;rw[show(cZ [a,b]).flatten=dr a++dr b by simp[cZ]];exact b9.app (A.mv λb ⟨h1,h2⟩=>⟨⟨by have:d.nx+1<=b:=h1;omega,Om,off b (by have:d.nx+1<=b:=h1;omega)⟩,(m b Om (by have:d.nx+1<=b:=h1;omega)).trans (l b h2 (by have:d.nx+1<=b:=h1;omega))⟩) (B.mv λb ⟨h1,h2⟩=>⟨⟨by have:j.nx+1<=b:=h1;omega,Om,off b (by have:j.nx+1<=b:=h1;omega)⟩,m b h2 (by have:j.nx+1<=b:=h1;omega)⟩)
theorem aoC{S B bc bw be N:Nat}(hB:B+16<=4398046511104)(ih:Mp S B bc bw be N){ks:List Nd}(hh:eD ks<=N)(hz:a8 ks<=S)(kH:2*ks.length<=B+16)(jq:l8 B ks)(hT:BG ks){K:CH}{A:Nat->Prop}{q:Option cm}{ρ σ:Bs->Nat}{f f1:ByteArray->Option Int}{k r l C c:Nat}(eT:eJ K A (.row 5 (cZ ks)) (.slice q ks.length ks.length))(hA : ∀b,A b->b<K.nx/\b≠bc)(hw:WK K bc bw be c)
 (hf:oT K l f k) (hl:l<K.nx) (hr:RF ρ f) (hρ : ∀y,ρ y<=c) (kF:oT K C f1 r) (dT:C<K.nx) (CE:RF σ f1) (hσ : ∀y,σ y<=c) (hc:c+a8 ks<=2305843009213693952) (hk:k+N*S<=2305843009213693952) (J:r+N*S<=2305843009213693952) {fr:Fr} (KE:fr 1= .map (some C)) (f3:fr 3=pN bw) (f9:fr 9= .map (some l)) (f53:fr 53= .slice q ks.length ks.length) (f54:fr 54= .int .i64 (ks.length:Nat)) (f10:fr 10= .bool true) (f11:fr 11= .slice none 0 0) (f55:fr 55= .int .i64 0) {Q:bq->Fr->CH->Prop}
 (hQ : ∀fr' a ns c',fr' 5=fr 5->fr' 7=fr 7->c7 bc K a->WK a bc bw be c'->kR K a (fr' 11) ns->fA cI σ ρ true c ks=(ns,c')->ns.length=ks.length->Q (.exit 1) fr' a):cM gE Ws fr K Q:=by
 obtain⟨q',e,fO,nK,fY⟩:=mI eT;cases e;rw[gZ] at fO;obtain⟨lc,lw,le⟩:=hw.lt;have e:Ws=_:=rfl;conv at e=>rhs;reduce
 rw[e];clear e;refine fC (λn fr a=>CoJ K bc bw be σ ρ c ks n (fr 10) (fr 11) (fr 55) a) (n:=ks.length) ⟨0,c,true,[],rfl,cx _,f10,f55,c7.refl K,hw,al _,hc,rfl,by rw[f11];exact kR.nil,rfl⟩ ?_;rintro n fr a ⟨i,j,first,ns,rfl,hi,f10,f55,hx,H,zm,fG,Mq,lV,L⟩ m;have cG:=hx.nx;have M : ∀b,A b->a.ob b=K.ob b:=λb hb=>hx.ob b (hA b hb).1 (hA b hb).2;by_cases I:i<ks.length
 ·obtain⟨t,ht⟩ : ∃t,ks[i]? = some t:=⟨_,bM I⟩;obtain⟨b,cs,e,kd,gi,hb,ob,fc,cR,nj,aL⟩:=fY i t ht;have vB:=(M b hb).trans ob;have O:=fi ht;have dA:ks.drop i=t::ks.drop (i+1):=by
   obtain⟨_,e⟩:=List.getElem?_eq_some_iff.1 ht;rw[rQ I,e]
  obtain⟨ew,Fb⟩:=H.w;rw[dA] at L;have Qw:cf t+a8 (ks.drop (i+1))=a8 (ks.drop i):=by rw[dA];rfl
  have asd:a8 ks=a8 (ks.take i)+a8 (ks.drop i):=by rw[<-Dp,Al]
  have Wl:=BH O;rcases ad7 cI σ ρ first j t (ks.drop (i+1)) with ⟨D,s,u,x,p,G,rfl,rfl,rfl,er⟩ | ⟨mE,er⟩
  ·obtain⟨tq,dq,T⟩:=ij aL;obtain⟨tq',e',_,_,Qz⟩:=mI T;cases e';obtain⟨U,xJ,e2,lh,rfl,Fe,IG,_,Ms,_,lf⟩:=Qz 0 p rfl;obtain⟨b3,cs3,e3,UR,e4,_,V,_,_,_,dk⟩:=Qz 1 G rfl;cases e4;rw[IG] at V;cases V;obtain⟨np,UQ⟩:=tz lf;obtain⟨ne,aA⟩:=tz dk;have Y:xJ.length=10:=Ms;have ad':=(M U Fe).trans IG;have hb2n:=(hA U Fe).1;have g:ag a (a.new (.cells [.int .i64 ((58:Nat):Int), .int .i64 s, .string (tx u), .int .i64 (x:Nat), .slice (some ⟨U,0,none⟩) 2 2] 26 .ex)):=(ag.refl a).new _;have ase:cf (.mk 58 s u x [p,G])=cf p+(cf G+0)+1:=rfl;simp only[eV,eD] at Wl;have hkt:=(Mm jq O).2;have QA:=(FI hT O).2;have aea:=ih p Om Om hkt.1 QA.1 _ A _ σ f1 r C j (lf.mv λb hb=>⟨hb,(g.ob b (by have:=(hA b hb).1;omega)).trans (M b hb)⟩) (λb hb=>⟨by have:=(hA b hb).1;have:=g.nx;omega,(hA b hb).2⟩) (H.hx g) ((kF.ex dT hx ⟨_,_,_,hw.c⟩).ext (g.ob C Om)) (by have:=g.nx;omega) CE (λy=>bW (hσ y) zm) Om J;rw[UQ] at aea;repeat' (first | (simp (disch:=first | omega | (decide +kernel)) only[↓RD,RU,↓aP,↓ez,↓aT,↓bf,cV,pop,aD,da,bD,fj,isVal,bu,dp,ρ0,ρ1,↓reduceIte,Nat.reduceEqDiff,Nat.reduceAdd,Int.reduceOfNat,ρ5,ρ6,ρ7,ρ8,ρ17,ρ19,ρ20,ρ21,ρ22,ρ23,Kd.cD,ρ25,ρ26,Nat.reduceLeDiff,Int.reduceToNat,ρ28,ρ29,m,KE,f3,f53,f54,f10,f55,gi,vB,dq,Fb,pJ,ad',UQ,Y,fD]) | ((with_reducible first|apply aF|apply aG|apply aH)<;>intro _))
   refine aea.mono λv d ⟨z,BK,Wt,ev,vD⟩=> ?_;subst ev;obtain⟨n4,rfl⟩:=tz vD;have BI:a.nx+1<=d.nx:=z.nx;have hw4:WK d bc bw be _:=(H.hx g).ex z BK;have zw:c7 bc a d:=g.ex.trans z;have oB4:=(z.ob a.nx (iC _) Om).trans jf;have h4:ag d (d.new (.cells (fD n4) 26 .ex)):=(ag.refl d).new _;have Wu:=Mo p σ j;obtain⟨ew4,Du⟩:=hw4.w;have aeb:=ih G Om Om hkt.2.1 QA.2.1 _ A _ ρ f k l _ (dk.mv λb hb=>⟨hb,(h4.ob b (by have:=(hA b hb).1;omega)).trans ((zw.ob b (by have:=(hA b hb).1;omega) (hA b hb).2).trans (M b hb))⟩) (λb hb=>⟨by have:=(hA b hb).1;have:=h4.nx;omega,(hA b hb).2⟩) (hw4.hx h4) (((hf.ex hl hx ⟨_,_,_,hw.c⟩).ex Om zw ⟨_,_,_,H.c⟩).ext (h4.ob l Om)) (by have:=h4.nx;omega) hr (λy=>by have:=hρ y;omega) Om hk;rw[aA] at aeb;have aoD:=(zw.ob U Om (hA U Fe).2).trans ad';repeat' (first | (simp (disch:=first | omega | (decide +kernel)) only[↓RD,RU,oO,bS,↓aP,↓ez,↓aT,↓bf,cV,pop,aD,da,bD,fj,isVal,bu,dp,ρ0,ρ1,↓reduceIte,Nat.reduceEqDiff,Nat.reduceAdd,ρ5,ρ6,ρ7,ρ8,ρ17,ρ19,ρ20,ρ21,ρ22,ρ23,Kd.cD,ρ25,ρ26,Int.reduceToNat,m,f3,f9,Du,oB4,aoD,aA,Y,fD,pJ]) | ((with_reducible first|apply aF|apply aG|apply aH)<;>intro _))
   refine aeb.mono λv K5 ⟨lI,zx,Wv,ev,zv⟩=> ?_;subst ev;obtain⟨n5,rfl⟩:=tz zv;have zy:d.nx+1<=K5.nx:=lI.nx;have oB5:=(lI.ob a.nx (by show a.nx<d.nx+1;omega) Om).trans ((h4.ob _ Om).trans oB4);have IH:=(lI.ob d.nx (iC _) Om).trans jf;repeat' (first | (simp (disch:=first | omega | (decide +kernel)) only[↓RD,RU,sq,oO,bS,↓aP,↓ez,↓aT,gJ,qE,cV,bP,pop,aD,da,bD,fj,isVal,bu,dp,ρ0,ρ1,ρ4,↓reduceIte,Nat.reduceEqDiff,Nat.reduceAdd,reduceCtorEq,ρ5,ρ6,ρ7,ρ8,qQ,ρ15,ρ17,ρ18,ρ19,ρ20,ρ21,ρ22,ρ23,Kd.cD,ρ25,ρ26,iv,Nat.reduceLeDiff,qP,oB5,IH,fD,xb,zn1,zn2]) | ((with_reducible first|apply aF|apply aG|apply aH)<;>intro _))
   obtain⟨g1,g2,g3,g4,g5⟩:=aoB (k2:=58) (l2:=s) (x2:=u) (o2:=x) (K:=K) (o1:= .cells [.int .i64 ((58:Nat):Int), .int .i64 s, .string (tx u), .int .i64 (x:Nat), .slice (some ⟨K5.nx,0,none⟩) 2 2] 26 .ex) (Qx:= .cells [.int .i64 ((58:Nat):Int), .int .i64 s, .string (tx u), .int .i64 (x:Nat), .slice (some ⟨K5.nx,0,none⟩) 2 2] 26 .ex) lV lc cG z lI vD zv rfl;have Uy:=Mo G ρ (dw cI σ j p).2;refine kR.app (nd:=⟨((58:Nat):Int),s,tx u,(x:Nat),some ⟨K5.nx,0,none⟩,2,2⟩) g1 (bW cG g3.nx) g2 Om λv' K6 r D k3=> ?_;refine rn (an @m @f55) ?_;have mJ:c7 bc K K6:=⟨bW cG (bW g3.nx r),λb hb zu=>(D b hb).trans ((g3.ob b Om zu).trans (hx.ob b hb zu))⟩;refine⟨ks.length-(i+1),Om,i+1,(dw cI ρ (dw cI σ j p).2 G).2,false,ns++ [.mk 58 s u x [(dw cI σ j p).1,(dw cI ρ (dw cI σ j p).2 G).1]],rfl,I,rfl,rfl,mJ,hw.ex mJ ((D bc lc).trans (g5.trans zx)),Om,Om,by simp[Mq],k3,?_⟩;rw[L,er];simp
  obtain⟨tk,tl,Mj,to,vC⟩:=t;obtain⟨tq,dq,T⟩:=ij aL;have g:ag a (a.new (.cells [.int .i64 (tk:Nat), .int .i64 tl, .string (tx Mj), .int .i64 (to:Nat), .slice tq vC.length vC.length] 26 .ex)):=(ag.refl a).new _;have jJ:=ih (.mk tk tl Mj to vC) Om Om (Mm jq O) (FI hT O) _ A _ σ f1 r C j (aL.mv λb hb=>⟨hb,(g.ob b (by have:=(hA b hb).1;omega)).trans (M b hb)⟩) (λb hb=>⟨by have:=(hA b hb).1;have:=g.nx;omega,(hA b hb).2⟩) (H.hx g) ((kF.ex dT hx ⟨_,_,_,hw.c⟩).ext (g.ob C Om)) (by have:=g.nx;omega) CE (λy=>bW (hσ y) zm) Om J;rw[dq] at jJ;have mE : ¬(tk=58/\first=true/\vC.length=2):=mE;have lf:tk≠58\/(tk=58/\(first=false\/(first=true/\vC.length≠2))):=by
   cases first<;>simp at mE⊢<;>omega
  rcases lf with Ml | ⟨rfl,rfl | ⟨rfl,h2⟩⟩
  all_goals
   refine rn (NJ @m @KE @f3 @f9 @f53 @f54 @f10 @f55 @gi @vB @dq @Fb @bJ @pJ) ?_;refine jJ.mono λv d ⟨z,BK,Wt,ev,vD⟩=> ?_;subst ev;obtain⟨n4,rfl⟩:=tz vD;have BI:a.nx+1<=d.nx:=z.nx;have zw:c7 bc a d:=g.ex.trans z;repeat' (first | (simp (disch:=first | omega | (decide +kernel)) only[↓RD,RU,↓aP,↓aT,cV,da,fj,isVal,dp,ρ0,ρ1,ρ4,↓reduceIte,Nat.reduceEqDiff,Nat.reduceAdd,reduceCtorEq,ρ7,ρ8,qQ,ρ15,ρ18,ρ25,ρ26,iv,Nat.reduceLeDiff,qP,fD,xb,zn1]) | ((with_reducible first|apply aF|apply aG|apply aH)<;>intro _))
   have h4:ag d (d.new (.cells (fD n4) 26 .ex)):=(ag.refl d).new _;have Ww:c7 bc a (d.new (.cells (fD n4) 26 .ex)):=zw.trans h4.ex;have Wu:=λt=>Mo t σ j;refine kR.app (nd:=n4) (lV.ex Ww lc) (by show K.nx<=d.nx+1;omega) (vD.mv λb hb=>⟨⟨by have:a.nx+1<=b:=hb.1;omega,yu hb.2,λo n c e=>by have:=(lV.Qu e).2;have:a.nx+1<=b:=hb.1;omega⟩,h4.ob b hb.2⟩) Om λv' K6 r D k3=> ?_;refine rn (an @m @f55) ?_;have mJ:c7 bc K K6:=⟨bW cG (bW Ww.nx r),λb hb zu=>(D b hb).trans ((Ww.ob b Om zu).trans (hx.ob b hb zu))⟩;refine⟨ks.length-(i+1),Om,i+1,_,_,_,rfl,I,by(refine rn (an @m @f10) ?_;all_goals rfl),rfl,mJ,hw.ex mJ ((D bc lc).trans ((h4.ob bc Om).trans BK)),bW zm (Wu _).1,bW (Nat.add_le_add_right (Wu _).2 _) Om,by simp[Mq],k3,?_⟩;rw[L,er];simp
 have I:i=ks.length:=by omega
 subst I;rw[Ak] at L;refine rn (gy @m @f53 @f54 @f55) ?_;exact hQ _ _ ns j (by((first | assumption | simp only[aP,ez,Nat.reduceEqDiff,↓reduceIte]);exact m 5 rfl)) (by((first | assumption | simp only[aP,ez,Nat.reduceEqDiff,↓reduceIte]);exact m 7 rfl)) hx H lV (by rw[L];simp[fA]) Mq
end
end Can
end Go.Proofs.YticlaccbodpkeaaGreatDoor
