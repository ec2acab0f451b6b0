/- Canonical runs: functions. Over any program. What a value in memory reads as: slices, integers; what keeps a reading; append and make in these words. Plain lemmas over any program. -/
import Derived.Test.YticlaccbodpkeaaGreatDoorVa
import Derived.Test.YticlaccbodpkeaaGreatDoorVb
import Derived.Test.YticlaccbodpkeaaGreatDoorRows
import Derived.WalkKit
import Derived.ProofKit
import Derived.OpenShut
import Derived.Lib.Hide
import Derived.Deep.Slices
open Array renaming all_eq_true_iff_forall_mem → arC, ext' → rO, getD_eq_getD_getElem? → ou, getElem?_eq_getElem → sQ, getElem?_push → Gv, getElem?_setIfInBounds_ne → Yx, getElem_toList → yr, replicate → RZ
open Bool renaming and_eq_true → fJ, false_eq_true → iV, not_eq_true' → Ab, not_false → Ny, or_eq_true → Jp
open Classical renaming byContradiction → R5
open Go renaming Code → gI, Deferred → wV, FuncId → aU, Oper → cu, Operand → au, Program → aY, TypeId → aI, Value → ae, World → aq
open Go.Fence renaming wide → iW
open Go.Instr renaming sureAddr → Gy
open Go.Op renaming intArith → Jm
open Go.Region renaming binds → GI, ready → Ag, wanted → NB
open Go.Result renaming andThen → uO, andThen_ok → bU
open Go.Sem renaming run_bind → ck, run_pure → cJ
open Go.World renaming putObj_heap_other → Ea
open Iff renaming rfl → dS
open List renaming append_of_mem → R4, cons_append → jU, getD_eq_getElem?_getD → yw, getElem?_append_left → tP, getElem?_append_right → uN, getElem?_cons_succ → fL, getElem?_cons_zero → fK, getElem?_eq_getElem → bM, length_filter_le → R6, map_append → Ah, map_congr_left → wZ, map_cons → dG, mem_append → ia, mem_append_left → tQ, mem_cons → ox, mem_cons_of_mem → hU, mem_cons_self → j5, nil_append → mR, pairwise_append → RX, pairwise_cons → R0, range → lQ
open Nat renaming add_assoc → mP, le_max_left → wX, le_max_right → wY, le_refl → al, le_succ → mQ, le_succ_of_le → wU, lt_or_ge → yx, not_lt_zero → fM
open Option renaming getD_some → sR, map_some → fg
open Pure renaming pure → lO
set_option linter.unusedSimpArgs false
set_option linter.unusedVariables false
namespace Go.Proofs.YticlaccbodpkeaaGreatDoor
namespace Can
section
open Go Go.RowKit
variable {P:aY} {B:Nat}
inductive pA where
 | tmp (t:Nat)
 | ld (t:Nat)
 | kA (n t:Nat)
def jc (fr:Fr)(H:CH):pA->Option ae
 | .tmp t=>some (fr t)
 | .ld t=>aD H (aJ fr) (.ld (.tmp t))
 | .kA n t=>aD H (aJ fr) (.kA n (.tmp t))
def bT (fr:Fr)(H:CH):List pA->Option (List ae)
 | []=>some []
 | r::rs=>match jc fr H r,bT fr H rs with
   | some v,some vs=>some (v::vs)
   | _,_=>none
def dV:List ae->ae
 | [v]=>v
 | vs=> .tuple vs.toArray
structure xx where
 ntmps:Nat
 res:List pA
 body:bH
structure bZ where
 fn:aU->Option xx
 loop:Nat×Nat->Option (List Nat×bH×bH)
 ext:aU->Bool
 xt:Hd
def CG(fr:Fr)(ps:List Nat)(args:List ae):Fr:=(ps.zip args).foldl (λfr p=>bE fr (some p.1) p.2) fr
def ue:bq->Option (Option Nat)
 | .normal=>none
 | .ret=>some none
 | .exit i=>some (some i)
noncomputable def cU(T:bZ):Nat->Hd
 | 0=>⟨λ_ _ _=>none,λ_ _ _=>none⟩
 | n+1=>⟨λf args H=>if T.ext f then T.xt.call f args H else match T.fn f with
   | some rf=>match br (cU T n) n rf.body (λt=>args.getD t undef) H with
     | some (.normal,fr',H')=>(bT fr' H' rf.res).map λvs=>(dV vs,H')
     | some (.ret,fr',H')=>(bT fr' H' rf.res).map λvs=>(dV vs,H')
     | _=>none
   | none=>none,λl args H=>match H.ob l with
   | .loop .ready _ fr key=>match T.loop key with
     | some (ps,kY,body)=>if args.length=ps.length then match br (cU T n) n kY (CG fr ps args) H with
       | some (.normal,g,c)=>match c.ob l with
         | .loop .ready gm i j=>match br (cU T n) n body g (c.set l (.loop .busy gm i j)) with
           | some (x,_,e)=>match e.ob l with
             | .loop _ _ o p=>some (.bool (ue x).isNone,e.set l (.loop (if (ue x).isNone then .ready else .done) (ue x) o p))
             | _=>none
           | none=>none
         | _=>none
       | _=>none
       else none
     | none=>none
   | _=>none⟩
noncomputable def sd(T:bZ)(n:Nat):aU->List ae->CH->Option (ae×CH):=(cU T n).call
inductive Og(P:aY):ResultVar->pA->Prop where
 | tmp {t:Nat}:Og P (.tmp t) (.tmp t)
 | ld {a t:Nat} {d:TypeDesc} (h:P.underlying t=some d) (hd:(match d with | .struct _ | .array _ _=>true | _=>false)=false):Og P (.cell a t) (.ld a)
 | kA {a t n:Nat} {d:TypeDesc} (h:P.underlying t=some d) (hd:(match d with | .struct _ | .array _ _=>true | _=>false)=true) (hn:(P.info? t).map (·.size)=some n):Og P (.cell a t) (.kA n a)
inductive EI(P:aY):List ResultVar->List pA->Prop where
 | nil:EI P [] []
 | cons {r:ResultVar} {q:pA} {rs:List ResultVar} {qs:List pA} (h:Og P r q) (hs:EI P rs qs):EI P (r::rs) (q::qs)
structure Oh(P:aY)(f:aU)(rf:xx):Prop where
 call:qJ P f=true
 ok : ∃fn c,P.funcs[f]? = some fn/\fn.body=some c/\fn.ntmps=rf.ntmps/\kE P rf.ntmps c rf.body/\EI P fn.results.toList rf.res
def Hw(tmps:Array ae):ResultVar->Sem ae
 | .tmp t=>pure (tmps.getD t undef)
 | .cell a t=>do loadVar t (<-asAddr (tmps.getD a undef))
theorem aiA{β:Nat->aB}{H:CH}{w:aq}{fr:Fr}{N:Nat}{a:Act}(j:aE P B β H w)(g:FR β N fr a) : ∀ {rs:List ResultVar} {qs:List pA} {vs:List ae},EI P rs qs->bT fr H qs=some vs->
 ∃f,(rs.mapM (Hw a.tmps)).run P w= .ok f w/\aQ β vs f:=by
 intro rs qs vs h;induction h generalizing vs with
 | nil=>intro c;simp only[bT,Option.some.injEq] at c;subst c;exact⟨[],rfl,aQ.nil β⟩
 | @cons r q rs qs i A C=>
   intro c;simp only[bT] at c;split at c
   ·rename_i v D h1 h2;cases c;obtain⟨f,g1,g2⟩:=C h2;have hv : ∃v',(Hw a.tmps r).run P w= .ok v' w/\VR β v v':=by
     cases i with
     | @tmp t=>
       simp only[jc,Option.some.injEq] at h1;subst h1;exact⟨_,rfl,g.2 t⟩
     | @ld s t d h hd=>
       simp only[jc,aD,aJ] at h1;have hx:=g.2 s;split at h1
       ·rename_i l L ha;split at h1;·rename_i cs e k F;rw[ha] at hx;obtain⟨b,z,G,hc⟩:=j.load hx F;obtain⟨u,hu,I⟩:=hc _ _ h1;refine⟨u,?_,I⟩;simp only[Hw,G,asAddr,loadVar,ck,cJ,bU,Za h hd,iV,iF];simp[Go.load,Sem.run,hu]
        cases h1
       cases h1
     | @kA s t n d h hd hn=>
       have hx:=g.2 s;obtain⟨u,hu,c⟩:=Zb (x:= .tmp s) h hd hn B β H w (aJ fr) (λ_=>a.tmps.getD s undef) { dst:=none,op:= .load t (.tmp s),type:=0,pos:= "",after:= #[],guard:=none } v rfl (λx o=>by simp[Op.operands] at o;subst o;exact hx) j h1;refine⟨u,?_,c⟩;simp only[Hw];simp only[execOp,Instr.loadAt,ck] at hu;generalize i:a.tmps.getD s undef=q at hu⊢;rw[i] at hx;cases q with
       | pointer p=>
         cases p with
         | none=>simp[Gy,Sem.run,stuck] at hu
         | some p=>
           simp only[Gy,cJ,bU] at hu;simp only[asAddr,ck,cJ,bU];cases hl:(loadVar t p).run P w with
           | ok y J=>rw[hl] at hu;simp only[bU,Result.ok.injEq,Next.value.injEq] at hu;rw[hu.1,hu.2]
           | halt y J=>rw[hl] at hu;simp[uO] at hu
       | _=>simp[Gy,Sem.run,stuck,uO] at hu
    obtain⟨v',g3,g4⟩:=hv;refine⟨v'::f,?_,g2.cons g4⟩;simp only[List.mapM_cons,ck,g3,bU,g1,cJ]
   cases c
theorem Tg{β:Nat->aB}{H:CH}{w:aq}{fr:Fr}{N:Nat}{a:Act}(j:aE P B β H w)(n:FR β N fr a){fn:Func}{qs:List pA}{vs:List ae}(h:EI P fn.results.toList qs)(f:bT fr H qs=some vs) :
 ∃v',(results fn a.tmps).run P w= .ok v' w/\VR β (dV vs) v':=by
 obtain⟨c,h1,h2⟩:=aiA j n h f;have o:(fn.results.mapM (Hw a.tmps)).run P w= .ok c.toArray w:=by
  rw[Array.mapM_eq_mapM_toList];simp only[Sem.run_map,h1,bU]
 have q:(results fn a.tmps).run P w= .ok (if g:c.toArray.size=1 then c.toArray[0] else .tuple c.toArray) w:=by
  have:results fn a.tmps=(do let vs <-fn.results.mapM (Hw a.tmps);pure (if h:vs.size=1 then vs[0] else .tuple vs)):=rfl;rw[this];simp only[ck,o,bU,cJ]
 refine⟨_,q,?_⟩;match vs,c,h2 with
 | [],[],_=>exact .undef _
 | [v],[v'],h2=>
   obtain⟨u,hu,f⟩:=h2.2 0 v rfl;simp at hu;subst hu;simpa[dV] using f
 | v::v2::vs,v'::i::c,h2=>
   have e:(dV (v::v2::vs))= .tuple (v::v2::vs).toArray:=rfl;rw[e,dif_neg Sm];have:=(aQ.arr (xa:=(v::v2::vs).toArray) (bs:=(v'::i::c).toArray)).1 (by simpa using h2);exact .tuple this.1 this.2
 | [],_::_,h2=>exact absurd h2.1 Sm
 | [_],[],h2=>exact absurd h2.1 Sm
 | [_],_::_::_,h2=>exact absurd h2.1 Sm
 | _::_::_,[],h2=>exact absurd h2.1 Sm
 | _::_::_,[_],h2=>exact absurd h2.1 Sm
structure ZQ(P:aY)(key:Nat×Nat)(ps:List Nat)(kY body:bH):Prop where
 ok : ∃N ca cb,keyOf P key=some (N,ps.toArray,ca,cb)/\kE P N ca kY/\kE P N cb body/\∀p∈ps,p<N
structure uf(P:aY)(B:Nat)(T:bZ):Prop where
 fn : ∀f rf,T.fn f=some rf->Oh P f rf
 loop : ∀key ps kY body,T.loop key=some (ps,kY,body)->ZQ P key ps kY body
 ext:HS P B T.xt
theorem aE.Th{β:Nat->aB}{H:CH}{w:aq}(h:aE P B β H w){D:Nat}{o o':Obj}(i:w.heap[D]? = some o)(hk:(∀cs e f,o≠ .cells cs e f)/\(∀es c,o≠ .map es c)/\(∀r,o≠ .loop r)/\(∀s p,o≠ .stringIter s p)/\∀a b c d,o≠ .mapIter a b c d):aE P B β H (w.putObj D o'):=by
 refine⟨λl=>(h.iY l).mono (eN.refl β) λb hb=>Ea ?_,h.nx,h.inj,by simpa using h.base,h.ro⟩;rintro rfl;rcases hb with ⟨z,sz,n,kd,hb⟩ | hb | hb
 ·obtain⟨cs,e,_,cs',e',jb,g,_⟩:=h.live hb;rw[i] at g;cases g;exact hk.1 _ _ _ rfl
 ·have:=h.iY l;rw[hb] at this;cases ho:H.ob l with
  | map es c=>rw[ho] at this;obtain⟨_,j,g,_⟩:=this;rw[i] at g;cases g;exact hk.2.1 _ _ rfl
  | sV q t=>rw[ho] at this;have g:=this.2;rw[i] at g;cases g;exact hk.2.2.2.1 _ _ rfl
  | fm u kk=>rw[ho] at this;obtain⟨_,_,_,g,_⟩:=this;rw[i] at g;cases g;exact hk.2.1 _ _ rfl
  | Ar v=>rw[ho] at this;obtain⟨_,_,_,_,_,_,g⟩:=this;rw[i] at g;cases g;exact hk.2.2.2.2 _ _ _ _ rfl
  | _=>rw[ho] at this;exact this.elim
 obtain⟨_,_,_,_,_,_,r,_,g,_⟩:=h.loop hb;rw[i] at g;cases g;exact hk.2.2.1 _ rfl
theorem ZR{fn:Func}{tmps:Array ae}{R:Ending->aq->Prop}{B1:Nat}{β0 β:Nat->aB}{w0:aq}{H:CH} : ∀(ms:List Nat) (w:aq),aE P B β H w->bB β0 w0 β w->w0.heap.size<=B1->ms.Nodup->(∀D∈ms,B1<=D/\w.heap[D]? = some (.deferred (some [])))->
 (∀w',aE P B β H w'->bB β0 w0 β w'->∃v,(results fn tmps).run P w'= .ok v w'/\R (.returned v) w')->LeavesInM iW 0 P fn tmps R (ms.map Of) .returning w
 | [],w,c,hE,g,hn,e,f=>f w c hE
 | D::ms,w,c,hE,g,hn,e,f=>by
   obtain⟨h1,h2⟩:=e D (j5 ..);have q:=(Array.getElem?_eq_some_iff.1 h2).1;refine⟨Sm, .inl ⟨D,w.putObj D (.deferred none),rfl,run_takeDeferred h2,?_⟩⟩;refine ZR ms _ (c.Th (o':= .deferred none) h2 ⟨λ_ _ _=>by simp,λ_ _=>by simp,λ_=>by simp,λ_ _=>by simp,λ_ _ _ _=>by simp⟩) ?_ g (List.nodup_cons.1 hn).2 (λj i=> ?_) f
   ·exact⟨hE.os,hE.tape,hE.output,by simpa using hE.size,λb hb ho=>by
     obtain⟨n,o⟩:=hE.cP b hb ho;exact⟨(Ea Om).trans n,o⟩,hE.ext⟩
   obtain⟨g1,g2⟩:=e j (hU _ i);refine⟨g1,(Ea ?_).trans g2⟩;rintro rfl;exact(List.nodup_cons.1 hn).1 i
theorem ZS{β:Nat->aB}{N:Nat} : ∀ {ps:List Nat} {args c:List ae} {fr:Fr} {tmps:Array ae},(∀p∈ps,p<N)->aQ β args c->FR β N fr { tmps:=tmps,defers:= [] }->FR β N (CG fr ps args) { tmps:=(ps.zip c).foldl (λt p=>t.setIfInBounds p.1 p.2) tmps,defers:= [] }
 | [],args,c,fr,tmps,hp,ha,e=>by simpa[CG] using e
 | p::ps,[],c,fr,tmps,hp,ha,e=>by
   have:c= []:=List.length_eq_zero_iff.1 (by simpa using ha.1.symm);subst this;simpa[CG] using e
 | p::ps,v::args,[],fr,tmps,hp,ha,e=>absurd ha.1 Sm
 | p::ps,v::args,v'::c,fr,tmps,hp,ha,e=>by
   have f:VR β v v':=by
    obtain⟨u,h1,h2⟩:=ha.2 0 v rfl;simp at h1;subst h1;exact h2
   have hs:aQ β args c:=⟨by simpa using ha.1,λi v hv=>by simpa using ha.2 (i+1) v (by simpa using hv)⟩;have g:=e.put (d:=some p) (λx hx=>by cases hx;exact hp p (j5 ..)) f;have:=ZS (ps:=ps) (λq j=>hp q (hU _ j)) hs (fr:=bE fr (some p) v) (tmps:=tmps.setIfInBounds p v') (by simpa[Act.put] using g);simpa[CG] using this
theorem uZ{T:bZ}(hT:uf P B T) : ∀n,HS P B (cU T n)
 | 0=>⟨λf args H v H' h=>by simp[cU] at h,λl args H v H' h=>by simp[cU] at h⟩
 | n+1=>⟨λf args H v H' h=>(by
   have C:=uZ hT n;simp only[cU] at h;split at h;·exact hT.ext.1 f args H v H' h
   ·split at h
    ·rename_i rf wv;have mi:=hT.fn f rf wv;obtain⟨fn,c,pU,L,kc,yQ,tf⟩:=mi.ok;refine .inl ⟨mi.call,fun β w g F j=> ?_⟩;refine callsIn_of_wp_marks pU L trivial ?_ rfl;have O:FR β rf.ntmps (λt=>args.getD t undef) { tmps:=g.toArray++RZ (fn.ntmps-g.toArray.size) undef,defers:= [] }:=by
      refine⟨Sq,λt=> ?_⟩;simp only[List.getD,ou];by_cases ht:t<g.length
      ·have G:t<args.length:=by have:=j.1;omega
       obtain⟨v',h1,h2⟩:=j.2 t args[t] (by simp[G]);rw[Array.getElem?_append_left (by simpa using ht)];simp only[List.getElem?_toArray,h1,sR,bM G];exact h2
      have G:args.length<=t:=by have:=j.1;omega
      rw[List.getElem?_eq_none G];exact .undef _
     have fin : ∀(x:bq) (fr':Fr) (K:CH),(x= .normal\/x= .ret)->br (cU T n) n rf.body (λt=>args.getD t undef) H=some (x,fr',K)->(bT fr' K rf.res).map (λvs=>(dV vs,K))=some (v,H')->
      c.wpIn iW 0 P (bodyPostM iW 0 P fn λe w'=>∃v' β',e= .returned v'/\VR β' v v'/\aE P B β' H' w'/\bB β w β' w') { tmps:=g.toArray++RZ (fn.ntmps-g.toArray.size) undef,defers:= [] } w:=by
      intro x fr' K hx y z;cases Q:bT fr' K rf.res with
      | none=>rw[Q] at z;cases z
      | some vs=>
        rw[Q] at z;simp only[fg,Option.some.injEq,Prod.mk.injEq] at z;obtain⟨rfl,rfl⟩:=z;refine Hu (ro:=none) (B1:=w.heap.size) C yQ β _ fr' H K _ w x _ F O (λb hb=>by cases hb) (DM.none (D0:= []) rfl) (al _) y fun β' w' a' I J U V=> ?_;obtain⟨ms,m1,m2,m3⟩:=V;have CJ:LeavesInM iW 0 P fn a'.tmps (λe w'=>∃v' β',e= .returned v'/\VR β' (dV vs) v'/\aE P B β' K w'/\bB β w β' w') a'.defers .returning w':=by
         rw[m1,List.append_nil];refine ZR ms w' I J (al _) m2 (λD hD=>⟨(m3 D hD).1,(m3 D hD).2.1⟩) λw2 pr gq=> ?_;obtain⟨v',W,r2⟩:=Tg pr U tf Q;exact⟨v',W,v',β',rfl,r2,pr,gq⟩
        rcases hx with rfl | rfl
        ·exact CJ
        exact CJ
     split at h;·rename_i fr' K y;exact fin .normal fr' K (.inl rfl) y h
     ·rename_i fr' K y;exact fin .ret fr' K (.inr rfl) y h
     cases h
    cases h),λl args H v H' h β w b g F hl j=>by
   have C:=uZ hT n;obtain⟨st,gm,fr,key,ho,_,r,N,W,r2,r3,r4,r5,r6⟩:=F.loop hl;simp only[cU,ho] at h;split at h
   ·rename_i arM aj aiB gM;cases gM;split at h
    ·rename_i ps kY body EJ;split at h
     ·rename_i A;obtain⟨N',ca,cb,hk,Hy,yR,iZ⟩:=(hT.loop _ _ _ _ EJ).ok;rw[r4] at hk;simp only[Option.some.injEq,Prod.mk.injEq] at hk;obtain⟨hN,k1,k2,k3⟩:=hk;subst hN;have eM:g.toArray.size=r.params.size:=by rw[k1];simp;rw[<-A,j.1]
      refine⟨r.fn,_,r.assign,r.body,run_yield W eM,roundIn_of_wpIn trivial ?_⟩;have X:(r.params.zip g.toArray).foldl (λtmps (t,a)=>tmps.setIfInBounds t a) r.tmps=(ps.zip g).foldl (λt p=>t.setIfInBounds p.1 p.2) r.tmps:=by
       rw[k1,<-Array.foldl_toList];simp
      rw[X];have O:=ZS (ps:=ps) iZ j (fr:=fr) (tmps:=r.tmps) ⟨r5,r6⟩;have Y:Hq β (some b):=λb' Z=>by cases Z;exact⟨l,hl⟩
      split at h
      ·rename_i aS H2 aiE;split at h
       ·rename_i J8 fQ AM mr;rw[k2];refine Hu (ro:=some b) (B1:=0) C Hy β _ aS H H2 _ w .normal _ F O Y (DM.none (D0:= []) rfl) (Nat.zero_le _) aiE fun β2 w2 a2 I J U V=> ?_;have o:β2 l= .loop b:=by
         rcases J.ext l with q | q | ⟨_,_,_,_,q,_⟩
         ·rw[q,hl]
         ·rw[hl] at q;cases q
         rw[hl] at q;cases q
        obtain⟨_,_,_,_,ZT,_,s,M,s1,s2,s3,s4,s5,s6⟩:=I.loop o;rw[mr] at ZT;cases ZT;obtain⟨z1,z2⟩:=I.Tb o (st:= .busy) (gm:=J8) (fr:=fQ) (key:=AM) (r:= { s with state:= .busy }) (N:=M) rfl s3 s4 s5 s6;refine⟨_,run_beginRound s1 s2,?_⟩;rw[k3];split at h
        ·rename_i x EK H4 L;refine Hu (ro:=some b) (B1:=0) C yR β2 _ EK _ H4 _ _ x _ z1 (U.mono z2.ext) (λb' Z=>by cases Z;exact⟨l,o⟩) (V.lC z2 rfl) (Nat.zero_le _) L fun β4 w4 a4 p1 p2 p3 p4=> ?_;have dW:β4 l= .loop b:=by
          rcases p2.ext l with q | q | ⟨_,_,_,_,q,_⟩
          ·rw[q,o]
          ·rw[o] at q;cases q
          rw[o] at q;cases q
         split at h
         ·rename_i st5 arN td Hv Ti;cases h;obtain⟨_,_,_,_,ZU,_,u,M',u1,u2,u3,u4,u5,u6⟩:=p1.loop dW;rw[Ti] at ZU;cases ZU;have fin : ∀jump:Option gI,(ue x).map Sy=jump->∃v' w',(Instr.endRound b jump).run P w4= .ok v' w'/\∃Oi β',Ending.returned v'= .returned Oi/\VR β' (.bool (ue x).isNone) Oi/\aE P B β' (H4.set l (.loop (if (ue x).isNone then .ready else .done) (ue x) td Hv)) w'/\bB β w β' w':=by
           intro jump hj;have ZV:jump.isNone=(ue x).isNone:=by rw[<-hj];cases ue x<;>rfl
           obtain⟨y1,y2⟩:=p1.Tb dW (st:=if (ue x).isNone then .ready else .done) (gm:=ue x) (fr:=td) (key:=Hv) (r:= { u with state:=if jump.isNone then .ready else .done,pending:=jump }) (N:=M') (by rw[ZV]) hj.symm u4 u5 u6;exact⟨_,_,run_endRound jump u1,_,β4,rfl,by rw[ZV];exact .bool _,y1,J.trans (z2.trans (p2.trans y2))⟩
          cases x with
          | normal=>exact fin none rfl
          | ret=>exact fin (some .ret) rfl
          | exit i=>exact fin (some (.exit i)) rfl
         cases h
        cases h
       cases h
      cases h
     cases h
    cases h
   cases h⟩
theorem J9{T:bZ}(hT:uf P B T){n:Nat}{f:aU}{args:List ae}{H H':CH}{v:ae}(h:sd T n f args H=some (v,H')){β:Nat->aB}{w:aq}{c:List ae}(g:aE P B β H w)(ha:aQ β args c)(hc:qJ P f=true) :
 Calls P f c.toArray w λe w'=>∃v' β',e= .returned v'/\VR β' v v'/\aE P B β' H' w'/\bB β w β' w':=
 callsIn_wide.1 (((uZ hT n).1 f args H v H' h).resolve_right (λhx=>by
  obtain⟨v',_,i⟩:=hx.1.2 β c ha;have h1:=i w;rw[EG hc] at h1;cases h1) |>.2 β w c g ha)
end
section
open Go Go.RowKit
variable {P:aY} {B:Nat}
def ug (P:aY)(t:aI):Option Nat:=(P.info? t).map (·.size)
def EL:List (Option Nat)->Option (List Nat)
 | []=>some []
 | some x::r=>(EL r).map (x:: ·)
 | none::_=>none
theorem ZW : ∀ {l:List (Option Nat)} {r:List Nat},EL l=some r->l=r.map some
 | [],r,h=>by simp[EL] at h;subst h;rfl
 | some x::l,r,h=>by
   simp only[EL] at h;cases hl:EL l with
   | none=>rw[hl] at h;cases h
   | some q=>rw[hl] at h;cases h;simp[ZW hl]
 | none::l,r,h=>by simp[EL] at h
def ZX:au->Bool
 | .const _=>true
 | _=>false
def Tj(P:aY)(c:Call):Option gu:=
 match c.callee with
 | .value (.func f)=>some (.call f c.args.toList)
 | .value (.tmp t)=>some (.pv (.tmp t) c.args.toList)
 | .builtin .len=>match c.args.toList,c.argTypes.toList with
   | [x],[t]=>match P.underlying t with
     | some (.slice _)=>some (.p (.len x))
     | some .string=>some (.p (.lens x))
     | _=>none
   | _,_=>none
 | .builtin .append=>match c.args.toList,c.argTypes.toList with
   | [s,x],[t,u]=>match P.underlying t,P.underlying u with
     | some (.slice e),some (.slice e')=>match P.info? e with
       | some i=>match i.zero with
         | some z=>if e'=e/\z.cells.size=i.size/\0<i.size then some (.w (.app e i.size i.bytes s x)) else none
         | none=>none
       | none=>none
     | some (.slice e),some .string=>match P.info? e with
       | some i=>match i.zero with
         | some z=>if z.cells.size=i.size/\0<i.size then some (.w (.app e i.size i.bytes s x)) else none
         | none=>none
       | none=>none
     | _,_=>none
   | _,_=>none
 | .builtin .unsafeSliceData=>match c.args.toList,c.argTypes.toList with
   | [x],[_]=>some (.p (.Jy x))
   | _,_=>none
 | .builtin .unsafeString=>match c.args.toList,c.argTypes.toList with
   | [p,n],[g,_]=>match P.underlying g with
     | some (.pointer e)=>if P.cellsOf e=1 then some (.w (.JM e p n)) else none
     | _=>none
   | _,_=>none
 | .builtin .max=>match c.args.toList with
   | [x,y]=>some (.p (.mx true x y))
   | _=>none
 | .builtin .min=>match c.args.toList with
   | [x,y]=>some (.p (.mx false x y))
   | _=>none
 | .builtin .delete=>match c.args.toList,c.argTypes.toList with
   | [x,k],[t,_]=>match P.underlying t with
     | some (.map j _)=>match P.underlying j with
       | some d=>match wj d with
         | some kk=>some (.w (.del kk x k))
         | none=>none
       | none=>none
     | _=>none
   | _,_=>none
 | .builtin .copy=>match c.args.toList,c.argTypes.toList with
   | [d,s],[t,_]=>match P.underlying t with
     | some (.slice e)=>match ug P e with
       | some sz=>some (.w (.JG sz d s))
       | none=>none
     | _=>none
   | _,_=>none
 | _=>none
def mw(P:aY):Op->Option gu
 | .move x=>some (.p (.vZ x))
 | .assign x=>some (.p (.vZ x))
 | .pick c a b=>some (.p (.pick c a b))
 | .box e x=>match ug P e with
   | some _=>some (.a (.box e x))
   | none=>none
 | .alloc e=>match P.info? e with
   | some i=>match i.zero with
     | some z=>if EF z.cells.toList=true then some (.a (.new e z.cells.toList)) else none
     | none=>none
   | none=>none
 | .build t ps=>match P.underlying t,P.info? t with
   | some (.struct fs),some i=>match i.zero with
     | some (.agg z)=>match EL (fs.toList.map λf=>ug P f.type) with
       | some o=>if EF z.toList=true/\(ps.toList.all λp=>decide (p.1<fs.size))=true then
          some (.p (.As z.toList (ps.toList.filterMap λp=>((fs.toList.map (·.offset)).zip o)[p.1]?.map λq=>(q.1,q.2,p.2)))) else none
       | none=>none
     | _=>none
   | some (.array n e),some i=>match i.zero,ug P e with
     | some (.agg z),some sz=>if EF z.toList=true then some (.p (.As z.toList (ps.toList.map λp=>(p.1*sz,sz,p.2)))) else none
     | _,_=>none
   | _,_=>none
 | .field st x f=>match P.underlying st with
   | some (.struct fs)=>match fs[f]? with
     | some kW=>match P.underlying kW.type,ug P kW.type with
       | some d,some n=>some (.p (.kW x kW.offset (if Au d then some n else none)))
       | _,_=>none
     | none=>none
   | _=>none
 | .buildSlice t n ps=>match P.underlying t with
   | some (.slice e)=>match P.info? e with
     | some i=>match i.zero with
       | some z=>if EF z.cells.toList=true/\0<z.cells.size then some (.a (.AA e i.size n z.cells.toList ps.toList)) else none
       | none=>none
     | none=>none
   | _=>none
 | .load t x=>match P.underlying t with
   | some d=>if Au d then match ug P t with
      | some n=>some (.l (.kA n x))
      | none=>none
     else some (.l (.ld x))
   | none=>none
 | .store t x v=>match ug P t with
   | some n=>some (.w (.st n x v))
   | none=>none
 | .nilCheck x=>some (.p (.Eo x))
 | .binOp op t x y _=>match P.underlying t with
   | some .bool=>match op with
     | .eql=>some (.p (.Em false x y))
     | .neq=>some (.p (.Em true x y))
     | _=>none
   | some (.pointer e)=>match op,ZX x||ZX y with
     | .eql,true=>some (.p (.yK false x y))
     | .neq,true=>some (.p (.yK true x y))
     | .eql,false=>match P.info? e with
       | some j=>if j.size≠0 then some (.l (.Et false x y)) else some (.p (.yK false x y))
       | none=>some (.p (.yK false x y))
     | .neq,false=>match P.info? e with
       | some j=>if j.size≠0 then some (.l (.Et true x y)) else some (.p (.yK true x y))
       | none=>some (.p (.yK true x y))
     | _,_=>none
   | some (.slice _)=>match op with
     | .eql=>some (.p (.eqs false x y))
     | .neq=>some (.p (.eqs true x y))
     | _=>none
   | some (.struct _)=>match op with
     | .eql=>some (.p (.G2 false (@NW P t) (@JB P t) x y))
     | .neq=>some (.p (.G2 true (@NW P t) (@JB P t) x y))
     | _=>none
   | some _=>some (.p (.bin op x y))
   | none=>none
 | .unOp op _ x=>some (.p (.un op x))
 | .convert s t x=>match P.underlying s,P.underlying t with
   | some _,some (.int k)=>some (.p (.conv k x))
   | some .string,some .string=>some (.p (.G3 x))
   | some (.slice e),some .string=>match P.underlying e with
     | some (.int .u8)=>some (.l (.b2s x))
     | _=>none
   | some .string,some (.slice e)=>match P.underlying e,P.info? e with
     | some (.int .u8),some i=>if i.size=1 then some (.w (.s2b e i.bytes x)) else none
     | _,_=>none
   | some (.slice e),some (.slice _)=>match P.underlying e with
     | some (.int .u8)=>if s=t then some (.w (.jb x)) else none
     | _=>none
   | some (.pointer u),some .unsafePointer=>match P.info? u with
     | some j=>if j.size≠0 then some (.l (.Cr ZH x)) else none
     | none=>none
   | some .unsafePointer,some (.pointer u)=>match P.info? u with
     | some _=>some (.l (.Cr (S9 (P:=P) u) x))
     | none=>none
   | _,_=>none
 | .makeMap t r=>if r.isNone then some (.w .JH) else none
 | .insert t m k x | .mapUpdate t m k x=>match P.underlying t with
   | some (.map g _)=>match P.underlying g with
     | some d=>match wj d with
       | some kk=>some (.w (.JI kk m k x))
       | none=>none
     | none=>none
   | _=>none
 | .lookup t x i ok=>match P.underlying t with
   | some (.map g A)=>match P.underlying g,P.info? A with
     | some d,some inf=>match wj d,inf.zero with
       | some kk,some z=>if wq z=true then some (.l (.G9 kk z ok x i)) else none
       | _,_=>none
     | _,_=>none
   | _=>none
 | .range t x=>match P.underlying t with
   | some .string=>some (.w (.JJ x))
   | some (.map _ _)=>some (.w (.JK x))
   | _=>none
 | .next it s=>if s=true then some (.w (.AC it)) else some (.w (.JL it))
 | .makeFunc (.func f) first dh=>if first.toList.isEmpty then some (.p (.fn f dh.toList)) else none
 | .makeSlice t l c=>match P.underlying t with
   | some (.slice e)=>match P.info? e with
     | some i=>match i.zero with
       | some z=>if EF z.cells.toList=true/\0<z.cells.size then some (.a (.cH e i.size i.bytes z.cells.toList l c)) else none
       | none=>none
     | none=>none
   | _=>none
 | .slice t x lo hi mx=>match P.underlying t with
   | some (.slice e)=>match ug P e with
     | some sz=>some (.l (.Cq e sz x lo hi mx))
     | none=>none
   | some .string=>if mx.isNone then some (.p (.En x lo hi)) else none
   | _=>none
 | .fieldAddr s x f=>match P.underlying s with
   | some (.struct fs)=>match fs[f]? with
     | some kW=>match ug P kW.type with
       | some sz=>if sz≠0 then some (.p (.off x kW.offset)) else none
       | none=>none
     | none=>none
   | _=>none
 | .indexAddr t x i=>match P.underlying t with
   | some (.slice e)=>match ug P e with
     | some sz=>some (.p (.idx x i sz))
     | none=>none
   | some (.array n e)=>match ug P e with
     | some sz=>some (.p (.Jx x i n sz))
     | none=>none
   | _=>none
 | .index t x i=>match P.underlying t with
   | some .string=>some (.p (.G4 x i))
   | some (.array n e)=>match P.underlying e,ug P e with
     | some d,some sz=>some (.p (.Jz x i n sz (Au d)))
     | _,_=>none
   | _=>none
 | .extract x i=>some (.p (.ext x i))
 | .call c=>Tj P c
 | _=>none
theorem Oj{α:Type}{a:Array α}{x:α}(h:a.toList= [x]):a= #[x]:=by apply rO;simpa using h
theorem yS{α:Type}{a:Array α}{x y:α}(h:a.toList= [x,y]):a= #[x,y]:=by apply rO;simpa using h
theorem aiF{c:Call}{r:gu}(h:Tj P c=some r):AI P (.call c) r:=by
 obtain⟨callee,args,ts⟩:=c;unfold Tj at h;simp only at h;split at h;·cases h;exact .call rfl
 ·cases h;exact .pv rfl
 ·split at h
  ·rename_i x t ha ht;rw[Oj ha,Oj ht];split at h;·rename_i hu;cases h;exact .p (ahy hu)
   ·rename_i hu;cases h;exact .p (ahz hu)
   cases h
  cases h
 ·split at h
  ·rename_i s x t u ha ht;rw[yS ha,yS ht];split at h
   ·rename_i e e' hu f;split at h
    ·rename_i i hi;split at h
     ·rename_i z hz;split at h;·rename_i g;obtain⟨rfl,g2,g3⟩:=g;cases h;exact .w (Zr hu (.inl f) (by simp[hi,hz]) g2 g3)
      cases h
     cases h
    cases h
   ·rename_i e hu f;split at h
    ·rename_i i hi;split at h
     ·rename_i z hz;split at h;·rename_i g;cases h;exact .w (Zr hu (.inr f) (by simp[hi,hz]) g.1 g.2)
      cases h
     cases h
    cases h
   cases h
  cases h
 ·split at h;·rename_i x t ha ht;rw[Oj ha,Oj ht];cases h;exact .p ahu
  cases h
 ·split at h
  ·rename_i p n j it ha ht;rw[yS ha,yS ht];split at h
   ·rename_i e hu;split at h;·rename_i hc;cases h;exact .w (aip hu hc)
    cases h
   cases h
  cases h
 ·split at h;·rename_i x y ha;rw[yS ha];cases h;exact .p (Y' (b:=true))
  cases h
 ·split at h;·rename_i x y ha;rw[yS ha];cases h;exact .p (Y' (b:=false))
  cases h
 ·split at h
  ·rename_i x k t u ha ht;rw[yS ha,yS ht];split at h
   ·rename_i o q hu;split at h
    ·rename_i d hd;split at h;·rename_i kk hk;cases h;exact .w (ah' hu hd hk)
     cases h
    cases h
   cases h
  cases h
 ·split at h
  ·rename_i d s t u ha ht;rw[yS ha,yS ht];split at h
   ·rename_i e hu;split at h;·rename_i sz hs;cases h;exact .w (ah1 hu hs)
    cases h
   cases h
  cases h
 cases h
theorem ZY{op:Op}{r:gu}(h:mw P op=some r):AI P op r:=by
 cases op with
 | move x=>cases h;exact .p ahe
 | assign x=>cases h;exact .p ahf
 | pick c a b=>cases h;exact .p ahg
 | box e x=>
   simp only[mw] at h;split at h;·rename_i sz hs;cases h;exact .a (ahM hs)
   cases h
 | alloc e=>
   simp only[mw] at h;split at h
   ·rename_i i hi;split at h
    ·rename_i z hz;split at h;·rename_i hc;cases h;exact .a (ahN (sz:=i.size) (by simp[hi]) (by simp[hi,hz]) (Hm hc))
     cases h
    cases h
   cases h
 | build t ps=>
   simp only[mw] at h;split at h
   ·rename_i fs i hu hi;split at h
    ·rename_i z hz;split at h
     ·rename_i D hs;split at h
      ·rename_i g;cases h;refine .p (ahK hu (by simp[hi,hz]) (Hm g.1) D ?_ λp hp=> ?_);·exact ZW hs
       exact of_decide_eq_true (List.all_eq_true.1 g.2 p hp)
      cases h
     cases h
    cases h
   ·rename_i n e i hu hi;split at h
    ·rename_i z sz hz hs;split at h;·rename_i g;cases h;exact .p (ahL hu hs (by simp[hi,hz]) (Hm g))
     cases h
    cases h
   cases h
 | field st x f=>
   simp only[mw] at h;split at h
   ·rename_i fs hu;split at h
    ·rename_i kW q;split at h;·rename_i d n hd hn;cases h;exact .p (ahE hu q hd rfl hn)
     cases h
    cases h
   cases h
 | buildSlice t n ps=>
   simp only[mw] at h;split at h
   ·rename_i e hu;split at h
    ·rename_i i hi;split at h
     ·rename_i z hz;split at h;·rename_i g;cases h;exact .a (ahO hu (by simp[hi]) (by simp[hi,hz]) (Hm g.1) g.2)
      cases h
     cases h
    cases h
   cases h
 | load t x=>
   simp only[mw] at h;split at h
   ·rename_i d hd;split at h
    ·rename_i ha;split at h;·rename_i n hn;cases h;exact .l (Zb hd (by cases d<;>first | rfl | cases ha) hn)
     cases h
    rename_i ha;cases h;exact .l (ahH hd (by cases d<;>first | rfl | exact absurd rfl ha))
   cases h
 | store t x v=>
   simp only[mw] at h;split at h;·rename_i n hn;cases h;exact .w (ahS hn)
   cases h
 | nilCheck x=>cases h;exact .p aht
 | binOp op t x y u=>
   simp only[mw] at h;split at h
   ·rename_i hu;split at h;·cases h;exact .p (Y1 (neg:=false) hu)
    ·cases h;exact .p (Y1 (neg:=true) hu)
    cases h
   ·rename_i hu;split at h;·cases h;exact .p (Er (neg:=false) hu)
    ·cases h;exact .p (Er (neg:=true) hu)
    ·split at h
     ·rename_i j o;split at h;·rename_i hz;cases h;exact .l (ZI (neg:=false) hu o hz)
      cases h;exact .p (Er (neg:=false) hu)
     cases h;exact .p (Er (neg:=false) hu)
    ·split at h
     ·rename_i j o;split at h;·rename_i hz;cases h;exact .l (ZI (neg:=true) hu o hz)
      cases h;exact .p (Er (neg:=true) hu)
     cases h;exact .p (Er (neg:=true) hu)
    cases h
   ·rename_i hu;split at h;·cases h;exact .p (Y2 (neg:=false) hu)
    ·cases h;exact .p (Y2 (neg:=true) hu)
    cases h
   ·rename_i fs hu;split at h;·cases h;exact .p (Y5 (neg:=false) hu)
    ·cases h;exact .p (Y5 (neg:=true) hu)
    cases h
   ·cases h;exact .p ahj
   cases h
 | unOp op t x=>cases h;exact .p ahk
 | convert s t x=>
   simp only[mw] at h;split at h;·rename_i d k hs ht;cases h;exact .p (ahl hs ht)
   ·rename_i hs ht;cases h;exact .p (ahm hs ht)
   ·rename_i e hs ht;split at h;·rename_i he;cases h;exact .l (aie hs ht he)
    cases h
   ·rename_i e hs ht;split at h
    ·rename_i i he hi;split at h;·rename_i h1;cases h;exact .w (aid hs ht he (by simp[hi,h1]))
     cases h
    cases h
   ·rename_i e e' hs ht;split at h
    ·rename_i he;split at h;·rename_i F;subst F;cases h;exact .w (aig hs he)
     cases h
    cases h
   ·rename_i u hs ht;split at h
    ·rename_i j o;split at h;·rename_i hz;cases h;exact .l (aim hs ht o hz)
     cases h
    cases h
   ·rename_i u hs ht;split at h;·rename_i j o;cases h;exact .l (ain hs ht o)
    cases h
   cases h
 | makeMap t r=>
   simp only[mw] at h;split at h;·rename_i G;cases h;exact .w (ah4 (by simpa using G))
   cases h
 | insert t m k x=>
   simp only[mw] at h;split at h
   ·rename_i A C hu;split at h
    ·rename_i d hd;split at h;·rename_i kk hk;cases h;exact .w (ZB (.inr rfl) hu hd hk)
     cases h
    cases h
   cases h
 | mapUpdate t m k x=>
   simp only[mw] at h;split at h
   ·rename_i A C hu;split at h
    ·rename_i d hd;split at h;·rename_i kk hk;cases h;exact .w (ZB (.inl rfl) hu hd hk)
     cases h
    cases h
   cases h
 | lookup t x i ok=>
   simp only[mw] at h;split at h
   ·rename_i A C hu;split at h
    ·rename_i d inf hd hi;split at h
     ·rename_i kk z hk hz;split at h;·rename_i hc;cases h;exact .l (ah3 hu hd hk hi hz (Hn hc))
      cases h
     cases h
    cases h
   cases h
 | range t x=>
   simp only[mw] at h;split at h;·rename_i hu;cases h;exact .w (aia hu)
   ·rename_i hu;cases h;exact .w (ah8 hu)
   cases h
 | next it s=>
   simp only[mw] at h;split at h;·rename_i hs;subst hs;cases h;exact .w aib
   rename_i hs;have I:s=false:=by simpa using hs
   subst I;cases h;exact .w ah9
 | makeFunc fn first dh=>
   cases fn with
   | func f=>
     simp only[mw] at h;split at h
     ·rename_i he;cases h;have:first= #[]:=by apply rO;simpa using he
      subst this;exact .p ahv
     cases h
   | _=>cases h
 | makeSlice t l c=>
   simp only[mw] at h;split at h
   ·rename_i e hu;split at h
    ·rename_i i hi;split at h
     ·rename_i z hz;split at h;·rename_i g;cases h;exact .a (ahR hu (by simp[hi]) (by simp[hi,hz]) (Hm g.1) g.2)
      cases h
     cases h
    cases h
   cases h
 | slice t x lo hi mx=>
   simp only[mw] at h;split at h
   ·rename_i e hu;split at h;·rename_i sz hs;cases h;exact .l (ahI hu hs)
    cases h
   ·rename_i hu;split at h
    ·rename_i J;cases h;cases mx with
     | none=>exact .p (ahB hu)
     | some m=>cases J
    cases h
   cases h
 | fieldAddr s x f=>
   simp only[mw] at h;split at h
   ·rename_i fs hu;split at h
    ·rename_i kW q;split at h
     ·rename_i sz hs;split at h;·rename_i L;cases h;exact .p (ahn hu q hs L)
      cases h
     cases h
    cases h
   cases h
 | indexAddr t x i=>
   simp only[mw] at h;split at h
   ·rename_i e hu;split at h;·rename_i sz hs;cases h;exact .p (aho hu hs)
    cases h
   ·rename_i n e hu;split at h;·rename_i sz hs;cases h;exact .p (ahp hu hs)
    cases h
   cases h
 | index t x i=>
   simp only[mw] at h;split at h;·rename_i hu;cases h;exact .p (ahq hu)
   ·rename_i n e hu;split at h;·rename_i d sz hd hs;cases h;exact .p (ahF hu hd rfl hs)
    cases h
   cases h
 | extract x i=>cases h;exact .p ahs
 | call c=>exact aiF h
 | _=>cases h
end
section
open Go Go.RowKit
variable {P:aY} {B:Nat}
def aiG:Op->Bool
 | .defer _=>true
 | _=>false
def ZZ(N:Nat):Option Nat->Bool
 | some d=>decide (d<N)
 | none=>true
def Tm(P:aY)(N:Nat)(ops:Array cu)(o:cu):Option Item:=
 match mw P o.op with
 | some r=>
   if ZZ N o.dst&&o.op.operands.toList.all Cy && !aiG o.op then
    match o.guard with
    | none=>some ⟨o.dst,r,none⟩
    | some (j,b)=>match (ops[j]?).bind (·.dst) with
      | some s=>if s<N then some ⟨o.dst,r,some (s,b)⟩ else none
      | none=>none
   else none
 | none=>none
theorem aiH{N:Nat}{ops:Array cu}{o:cu}{it:Item}(h:Tm P N ops o=some it):xr P N ops o it:=by
 unfold Tm at h;split at h
 ·rename_i r g;split at h
  ·rename_i hg;simp only[fJ,Ab] at hg;obtain⟨⟨g1,g2⟩,g3⟩:=hg;have i : ∀d,o.dst=some d->d<N:=λd hd=>by rw[hd] at g1;simpa[ZZ] using g1
   have n : ∀x∈o.op.operands,Cy x=true:=λx hx=>List.all_eq_true.1 g2 x (by simpa using hx);have p : ∀c,o.op≠ .defer c:=λc e=>by rw[e] at g3;cases g3
   split at h;·rename_i f;cases h;exact⟨rfl,i,ZY g,n,p, .inl ⟨f,rfl⟩⟩
   rename_i j b f;split at h
   ·rename_i s hs;split at h;·rename_i q;cases h;exact⟨rfl,i,ZY g,n,p, .inr ⟨j,b,s,f,rfl,hs,q⟩⟩
    cases h
   cases h
  cases h
 cases h
def tg(P:aY)(N:Nat)(ops:Array cu):List cu->Option (List Item)
 | []=>some []
 | o::r=>match Tm P N ops o,tg P N ops r with
   | some it,some af=>some (it::af)
   | _,_=>none
theorem J'{N:Nat}{ops:Array cu} : ∀ {l:List cu} {af:List Item},tg P N ops l=some af->af.length=l.length/\∀i (h1:i<af.length) (h2:i<l.length),xr P N ops l[i] af[i]
 | [],af,h=>by simp[tg] at h;subst h;exact⟨rfl,λi h1=>absurd h1 Sm⟩
 | o::l,af,h=>by
   simp only[tg] at h;split at h
   ·rename_i it c h1 h2;cases h;obtain⟨g1,g2⟩:=J' h2;refine⟨by simp[g1],λi hi e=> ?_⟩;cases i with
    | zero=>exact aiH h1
    | succ i=>simpa using g2 i (by simpa using hi) (by simpa using e)
   cases h
def kZ(P:aY)(N:Nat)(rd:Array cu->Option jB)(f:Nat):Nat->gI->Option bH
 | _, .skip=>some .skip
 | _, .label _=>some .skip
 | _, .region _ ops false=>match tg P N ops ops.toList with
   | some af=>some (.gW af)
   | none=>some .bad
 | _, .region _ ops true=>match rd ops with
   | some d=>some (.lB d)
   | none=>some .bad
 | k, .seq a b=>match kZ P N rd f k a,kZ P N rd f (k+(mT a).length) b with
   | some x,some y=>some (.seq x y)
   | _,_=>none
 | k, .cond c a b=>if Cy c then match kZ P N rd f k a,kZ P N rd f (k+(mT a).length) b with
    | some x,some y=>some (.cond c x y)
    | _,_=>none
   else some .bad
 | k, .block id c=>(kZ P N rd f k c).map (.block id)
 | k, .loop c=>(kZ P N rd f k c).map .loop
 | k, .scope c=>kZ P N rd f k c
 | _, .exit id=>some (.exit id)
 | _, .ret=>some .ret
 | k, .rangeFunc g _ _ _=>if Cy g then some (.sa g (f,k)) else some .bad
 | _,_=>some .bad
theorem Tn{N f:Nat}{rd:Array cu->Option jB}(u : ∀ops d,rd ops=some d->CB P N ops d/\CD P N ops d) : ∀ {c:gI} {k:Nat} {r:bH},(∀j x,(mT c)[j]? = some x->keyOf P (f,k+j)=some (N,x))->kZ P N rd f k c=some r->kE P N c r:=by
 intro c;induction c with
 | skip=>intro k r hk h;simp only[kZ] at h;cases h;exact .skip
 | label l=>intro k r hk h;simp only[kZ] at h;cases h;exact .label
 | region id ops draw=>
   intro k r hk h;cases draw with
   | false=>
     simp only[kZ] at h;cases hi:tg P N ops ops.toList with
     | none=>rw[hi] at h;cases h;exact .bad
     | some af=>
       rw[hi] at h;cases h;obtain⟨g1,g2⟩:=J' hi;exact .gW (by simpa using g1) λi h1 h2=>by have:=g2 i h1 (by simpa using h2);rwa [yr] at this
   | true=>
     simp only[kZ] at h;cases hi:rd ops with
     | none=>rw[hi] at h;cases h;exact .bad
     | some d=>rw[hi] at h;cases h;exact .lB (u ops d hi)
 | seq a b o s=>
   intro k r hk h;simp only[mT] at hk;simp only[kZ] at h;split at h
   ·rename_i x y hx t;cases h;exact .seq (o (λj q e=>hk j q (by rw[tP (List.getElem?_eq_some_iff.1 e).1];exact e)) hx)
     (s (λj q e=>by rw[mP];exact hk _ q (by rw[uN Om];simpa using e)) t)
   cases h
 | cond c a b o s=>
   intro k r hk h;simp only[mT] at hk;simp only[kZ] at h;split at h
   ·rename_i hc;split at h
    ·rename_i x y hx t;cases h;exact .cond hc (o (λj q e=>hk j q (by rw[tP (List.getElem?_eq_some_iff.1 e).1];exact e)) hx)
      (s (λj q e=>by rw[mP];exact hk _ q (by rw[uN Om];simpa using e)) t)
    cases h
   cases h;exact .bad
 | block id c n=>
   intro k r hk h;simp only[kZ] at h;cases hc:kZ P N rd f k c with
   | none=>rw[hc] at h;cases h
   | some x=>rw[hc] at h;cases h;exact .block (n hk hc)
 | loop c n=>
   intro k r hk h;simp only[kZ] at h;cases hc:kZ P N rd f k c with
   | none=>rw[hc] at h;cases h
   | some x=>rw[hc] at h;cases h;exact .loop (n hk hc)
 | scope c n=>
   intro k r hk h;simp only[kZ] at h;exact .scope (n hk h)
 | exit id=>intro k r hk h;simp only[kZ] at h;cases h;exact .exit
 | ret=>intro k r hk h;simp only[kZ] at h;cases h;exact .ret
 | rangeFunc g ps a b o s=>
   intro k r hk h;simp only[kZ] at h;split at h;·rename_i hg;cases h;exact .sa hg (hk 0 _ rfl)
   cases h;exact .bad
 | _=>intro k r hk h;simp only[kZ,Option.some.injEq] at h;subst h;exact .bad
def HA(L:List (Array Tmp×gI×gI)):Prop:=∀(i:Nat) (ps:Array Tmp) (a b:gI),L[i]? = some (ps,a,b)->∀j x,(mT a++mT b)[j]? = some x->L[i+1+j]? = some x
theorem HA.append{L M:List (Array Tmp×gI×gI)}(h:HA L)(k:HA M):HA (L++M):=by
 intro i ps a b hi j x c;by_cases hl:i<L.length
 ·rw[tP hl] at hi;have:=h i ps a b hi j x c;rw[tP (List.getElem?_eq_some_iff.1 this).1];exact this
 rw[uN Om] at hi;have:=k _ ps a b hi j x c;rw[uN Om,show i+1+j-L.length=i-L.length+1+j by omega];exact this
theorem aiI(c:gI):HA (mT c):=by
 have p:HA []:=λi ps a b h=>by simp at h
 induction c with
 | seq a b e f=>exact e.append f
 | cond c a b e f=>exact e.append f
 | block id c n=>exact n
 | loop c n=>exact n
 | scope c n=>exact n
 | rangeFunc g ps a b e f=>
   have:=e.append f;intro i qs x y hi j z o;cases i with
   | zero=>
     simp only[mT,fK,Option.some.injEq,Prod.mk.injEq] at hi;obtain⟨rfl,rfl,rfl⟩:=hi;simp only[mT];rw[show 0+1+j=j+1 by omega,fL];exact o
   | succ i=>
     simp only[mT,fL] at hi;simp only[mT];rw[show i+1+1+j=(i+1+j)+1 by omega,fL];exact this i qs x y hi j z o
 | _=>exact p
theorem Z0{f k N:Nat}{fn:Func}{c:gI}(e:P.funcs[f]? = some fn)(hb:fn.body=some c){x:Array Tmp×gI×gI}:keyOf P (f,k)=some (N,x)↔fn.ntmps=N/\(mT c)[k]? = some x:=by
 simp only[keyOf,e,hb,Option.map_eq_some_iff,Prod.mk.injEq];constructor;·rintro⟨y,h1,h2,rfl⟩;exact⟨h2,h1⟩
 rintro⟨h1,h2⟩;exact⟨x,h2,h1,rfl⟩
theorem Z3{f k N:Nat}{ps:Array Tmp}{a b:gI}(h:keyOf P (f,k)=some (N,ps,a,b)){j:Nat}{x:Array Tmp×gI×gI}(g:(mT a++mT b)[j]? = some x):keyOf P (f,k+1+j)=some (N,x):=by
 cases e:P.funcs[f]? with
 | none=>simp[keyOf,e] at h
 | some fn=>
   cases hb:fn.body with
   | none=>simp[keyOf,e,hb] at h
   | some c=>
     rw[Z0 e hb] at h⊢;exact⟨h.1,aiI c k ps a b h.2 j x g⟩
def Ke(P:aY)(rd:Nat->Array cu->Option jB)(key:Nat×Nat):Option (List Nat×bH×bH):=
 match keyOf P key with
 | some (N,ps,a,b)=>if (ps.toList.all λp=>decide (p<N))=true then match kZ P N (rd N) key.1 (key.2+1) a,kZ P N (rd N) key.1 (key.2+1+(mT a).length) b with
   | some x,some y=>some (ps.toList,x,y)
   | _,_=>none
   else none
 | none=>none
theorem aiJ{rd:Nat->Array cu->Option jB}(e : ∀N ops d,rd N ops=some d->CB P N ops d/\CD P N ops d){key:Nat×Nat}{ps:List Nat}{kY body:bH}(h:Ke P rd key=some (ps,kY,body)):ZQ P key ps kY body:=by
 unfold Ke at h;split at h
 ·rename_i N qs a b hk;split at h
  ·rename_i f;split at h
   ·rename_i x y hx g;cases h;refine⟨N,a,b,by simpa using hk,Tn (e N) (λj q c=>Z3 hk (by rw[tP (List.getElem?_eq_some_iff.1 c).1];exact c)) hx,
     Tn (e N) (λj q c=>by rw[mP (key.2+1)];exact Z3 hk (by rw[uN Om];simpa using c)) g,λp hp=>of_decide_eq_true (List.all_eq_true.1 f p hp)⟩
   cases h
  cases h
 cases h
def Kg(P:aY):List ResultVar->Option (List pA)
 | []=>some []
 | r::rs=>match (match r with
    | .tmp t=>some (.tmp t)
    | .cell a t=>match P.underlying t with
      | some d=>if Au d then (ug P t).map λn=> .kA n a else some (.ld a)
      | none=>none:Option pA),Kg P rs with
   | some q,some qs=>some (q::qs)
   | _,_=>none
theorem Z4 : ∀ {rs:List ResultVar} {qs:List pA},Kg P rs=some qs->EI P rs qs
 | [],qs,h=>by simp[Kg] at h;subst h;exact .nil
 | r::rs,qs,h=>by
   simp only[Kg] at h;split at h
   ·rename_i q c h1 h2;cases h;refine .cons ?_ (Z4 h2);cases r with
    | tmp t=>simp at h1;subst h1;exact .tmp
    | cell a t=>
      simp only at h1;split at h1
      ·rename_i d hd;split at h1
       ·rename_i ha;cases hs:ug P t with
        | none=>rw[hs] at h1;cases h1
        | some n=>rw[hs] at h1;cases h1;exact .kA hd (by cases d<;>first | rfl | cases ha) hs
       rename_i ha;cases h1;exact .ld hd (by cases d<;>first | rfl | exact absurd rfl ha)
      cases h1
   cases h
def nL(P:aY)(rd:Nat->Array cu->Option jB)(f:aU):Option xx:=
 if qJ P f then match P.funcs[f]? with
  | some fn=>match fn.body with
    | some c=>match kZ P fn.ntmps (rd fn.ntmps) f 0 c,Kg P fn.results.toList with
      | some r,some q=>some ⟨fn.ntmps,q,r⟩
      | _,_=>none
    | none=>none
  | none=>none
 else none
theorem Z5{rd:Nat->Array cu->Option jB}(g : ∀N ops d,rd N ops=some d->CB P N ops d/\CD P N ops d){f:aU}{rf:xx}(h:nL P rd f=some rf):Oh P f rf:=by
 unfold nL at h;split at h
 ·rename_i hc;split at h
  ·rename_i fn e;split at h
   ·rename_i c hb;split at h;·rename_i r q i n;cases h;exact⟨hc,fn,c,e,hb,rfl,Tn (g _) (λj x o=>by rw[Nat.zero_add,Z0 e hb];exact⟨rfl,o⟩) i,Z4 n⟩
    cases h
   cases h
  cases h
 cases h
end
section
open Go Go.RowKit
structure yT(h h':Hd):Prop where
 call : ∀f a H r,h.call f a H=some r->h'.call f a H=some r
 round : ∀l a H r,h.round l a H=some r->h'.round l a H=some r
theorem To{h h':Hd}(c:yT h h'){fr:Fr}{H:CH}{o:gu}{r:ae×CH}(e:eg h fr H o=some r):eg h' fr H o=some r:=by
 cases o with
 | call f args=>exact c.call _ _ _ _ e
 | pv g args=>
   simp only[eg] at e⊢;split at e;·exact c.call _ _ _ _ e
   ·exact c.round _ _ _ _ e
   cases e
 | _=>exact e
theorem Tp{h h':Hd}(e:yT h h'){it:Item}{fr:Fr}{H:CH}{r:Fr×CH}(c:cE h it fr H=some r):cE h' it fr H=some r:=by
 simp only[cE] at c⊢;split at c
 ·cases f:eg h fr H it.op with
  | none=>rw[f] at c;cases c
  | some q=>rw[f] at c;rw[To e f];exact c
 ·exact c
 cases c
theorem EM{h h':Hd}(e:yT h h') : ∀ {af:List Item} {fr:Fr} {H:CH} {r:Fr×CH},cT h af fr H=some r->cT h' af fr H=some r
 | [],fr,H,r,c=>c
 | it::af,fr,H,r,c=>by
   simp only[cT] at c⊢
   cases hs:cE h it fr H with
   | none=>rw[hs] at c;cases c
   | some q=>rw[hs] at c;rw[Tp e hs];exact EM e c
theorem Ok{h h':Hd}(e:yT h h') : ∀ {af:List Item} {fr:Fr} {H:CH} {r:Fr×CH×List CH},cF h af fr H=some r->cF h' af fr H=some r
 | [],fr,H,r,c=>c
 | it::af,fr,H,r,c=>by
   simp only[cF] at c⊢
   cases hs:cE h it fr H with
   | none=>rw[hs] at c;cases c
   | some q=>
     rw[hs] at c;rw[Tp e hs];simp only at c⊢
     cases hd:cF h af q.1 q.2 with
     | none=>rw[hd] at c;cases c
     | some d=>rw[hd] at c;rw[Ok e hd];exact c
theorem aiK{h h':Hd}(e:yT h h'){d:jB}{fr:Fr}{H:CH}{r:Fr×CH}(c:tc h d fr H=some r):tc h' d fr H=some r:=by
 simp only[tc] at c⊢
 cases hd:cF h d.af fr H with
 | none=>rw[hd] at c;cases c
 | some q=>rw[hd] at c;rw[Ok e hd];exact c
theorem Ol{n m:Nat}(s:n<=m){f g:Fr->CH->Hp}(e : ∀fr H r,f fr H=some r->g fr H=some r) : ∀ {fr:Fr} {H:CH} {r:bq×Fr×CH},pY n f fr H=some r->pY m g fr H=some r:=by
 induction n generalizing m with
 | zero=>intro fr H r c;simp[pY] at c
 | succ n o=>
   intro fr H r c;obtain⟨m,rfl⟩ : ∃k,m=k+1:=⟨m-1,Om⟩;simp only[pY] at c⊢
   cases j:f fr H with
   | none=>rw[j] at c;cases c
   | some q=>
     obtain⟨x,aj,H1⟩:=q;rw[j] at c;rw[e _ _ _ j];cases x with
     | normal=>exact o (m:=m) Om c
     | exit i=>exact c
     | ret=>exact c
theorem AO{h h':Hd}(j:yT h h'){n m:Nat}(t:n<=m) : ∀ {c:bH} {fr:Fr} {H:CH} {r:bq×Fr×CH},br h n c fr H=some r->br h' m c fr H=some r:=by
 intro c;induction c with
 | bad=>intro fr H r e;simp[br] at e
 | skip=>intro fr H r e;exact e
 | gW af=>
   intro fr H r e;simp only[br] at e⊢
   cases hi:cT h af fr H with
   | none=>rw[hi] at e;cases e
   | some q=>rw[hi] at e;rw[EM j hi];exact e
 | lB d=>
   intro fr H r e;simp only[br] at e⊢
   cases hi:tc h d fr H with
   | none=>rw[hi] at e;cases e
   | some q=>rw[hi] at e;rw[aiK j hi];exact e
 | seq a b o p=>
   intro fr H r e;simp only[br] at e⊢
   cases ha:br h n a fr H with
   | none=>rw[ha] at e;cases e
   | some q=>
     obtain⟨x,aj,H1⟩:=q;rw[ha] at e;rw[o ha];cases x with
     | normal=>exact p e
     | exit i=>exact e
     | ret=>exact e
 | cond c a b o p=>
   intro fr H r e;simp only[br] at e⊢;split at e;·exact o e
   ·exact p e
   cases e
 | block id c s=>
   intro fr H r e;simp only[br] at e⊢
   cases ha:br h n c fr H with
   | none=>rw[ha] at e;cases e
   | some q=>rw[ha] at e;rw[s ha];exact e
 | loop c s=>
   intro fr H r e;simp only[br] at e⊢;exact Ol t (λ_ _ _ u=>s u) e
 | exit id=>intro fr H r e;exact e
 | ret=>intro fr H r e;exact e
 | sa g key=>
   intro fr H r e;simp only[br] at e⊢;split at e
   ·rename_i f v dh hg;cases hc:h.call f (Value.func (.yield H.nx) #[] #[]::dh.toList) (H.new (.loop .ready none fr key)) with
    | none=>rw[hc] at e;cases e
    | some q=>rw[hc] at e;rw[j.call _ _ _ _ hc];exact e
   cases e
theorem se{T:bZ} : ∀ {n m:Nat},n<=m->yT (cU T n) (cU T m)
 | 0,m,_=>⟨λf a H r c=>by simp[cU] at c,λf a H r c=>by simp[cU] at c⟩
 | n+1,m,s=>by
   obtain⟨m,rfl⟩ : ∃k,m=k+1:=⟨m-1,Om⟩;have g:=se (T:=T) (n:=n) (m:=m) Om;have j:n<=m:=by omega
   refine⟨λf a H r c=> ?_,λl a H r c=> ?_⟩
   ·simp only[cU] at c⊢;split at c;·rename_i he;rw[iP he];exact c
    rename_i he;rw[iN he];split at c
    ·rename_i rf C;cases hb:br (cU T n) n rf.body (λt=>a.getD t undef) H with
     | none=>rw[hb] at c;cases c
     | some q=>rw[hb] at c;rw[AO g j hb];exact c
    cases c
   simp only[cU] at c⊢;split at c
   ·rename_i gm fr key ho;split at c
    ·rename_i ps kY body hl;split at c
     ·rename_i e;rw[iP e];cases hb:br (cU T n) n kY (CG fr ps a) H with
      | none=>rw[hb] at c;cases c
      | some q=>
        obtain⟨x,u,v⟩:=q;rw[hb] at c;rw[AO g j hb];cases x with
        | normal=>
          simp only at c⊢;split at c
          ·rename_i y z A D;cases o:br (cU T n) n body u (v.set l (.loop .busy y z A)) with
           | none=>rw[o] at c;cases c
           | some F=>rw[o] at c;rw[AO g j o];exact c
          cases c
        | ret=>cases c
        | exit i=>cases c
     cases c
    cases c
   cases c
theorem Z6{T:bZ}{n m:Nat}(h:n<=m) : ∀f a H r,sd T n f a H=some r->sd T m f a H=some r:=(se h).call
def aR (T:bZ)(f:aU)(args:List ae)(H:CH)(Q:ae->CH->Prop):Prop:=∃n v H',sd T n f args H=some (v,H')/\Q v H'
def Tq (T:bZ)(l:Nat)(args:List ae)(H:CH)(Q:ae->CH->Prop):Prop:=∃n v H',(cU T n).round l args H=some (v,H')/\Q v H'
def pB (T:bZ)(af:List Item)(fr:Fr)(H:CH)(K:Fr->CH->Prop):Prop:=∃n fr' H',cT (cU T n) af fr H=some (fr',H')/\K fr' H'
def CK (T:bZ)(af:List Item)(fr:Fr)(H:CH)(K:Fr->CH->List CH->Prop):Prop:=∃n fr' H' l,cF (cU T n) af fr H=some (fr',H',l)/\K fr' H' l
def cM (T:bZ)(c:bH)(fr:Fr)(H:CH)(Q:bq->Fr->CH->Prop):Prop:=∃n x fr' H',br (cU T n) n c fr H=some (x,fr',H')/\Q x fr' H'
variable {T:bZ}
theorem aR.mono{f:aU}{args:List ae}{H:CH}{Q c:ae->CH->Prop}(h:aR T f args H Q)(e : ∀v H',Q v H'->c v H'):aR T f args H c:=by
 obtain⟨n,v,H',h1,h2⟩:=h;exact⟨n,v,H',h1,e _ _ h2⟩
theorem cM.mono{c:bH}{fr:Fr}{H:CH}{Q e:bq->Fr->CH->Prop}(h:cM T c fr H Q)(f : ∀x fr' H',Q x fr' H'->e x fr' H'):cM T c fr H e:=by
 obtain⟨n,x,fr',H',h1,h2⟩:=h;exact⟨n,x,fr',H',h1,f _ _ _ h2⟩
theorem eQ{fr:Fr}{H:CH}{K:Fr->CH->Prop}:pB T [] fr H K↔K fr H:=
 ⟨λ⟨n,fr',H',h1,h2⟩=>by simp[cT] at h1;rw[h1.1,h1.2];exact h2,λh=>⟨0,fr,H,rfl,h⟩⟩
def my (T:bZ)(fr:Fr)(H:CH)(o:gu)(K:ae->CH->Prop):Prop:=∃n v H',eg (cU T n) fr H o=some (v,H')/\K v H'
theorem On{it:Item}{r:List Item}{fr:Fr}{H:CH}{K:Fr->CH->Prop}:pB T (it::r) fr H K↔
 match dU fr it.guard with
 | some true=>my T fr H it.op λv H'=>pB T r (bE fr it.dst v) H' K
 | some false=>pB T r (bE fr it.dst kD) H K
 | none=>False:=by
 constructor
 ·rintro⟨n,fr',H',h1,h2⟩;simp only[cT,cE] at h1;cases hw:dU fr it.guard with
  | none=>rw[hw] at h1;cases h1
  | some b=>
    rw[hw] at h1;cases b with
    | true=>
      simp only at h1⊢
      cases c:eg (cU T n) fr H it.op with
      | none=>rw[c] at h1;cases h1
      | some q=>rw[c] at h1;exact⟨n,q.1,q.2,c,n,fr',H',h1,h2⟩
    | false=>exact⟨n,fr',H',h1,h2⟩
 intro h;cases hw:dU fr it.guard with
 | none=>rw[hw] at h;exact h.elim
 | some b=>
   rw[hw] at h;cases b with
   | true=>
     obtain⟨n,v,H1,h1,m,fr',H',h2,h3⟩:=h;refine⟨max n m,fr',H',?_,h3⟩;simp only[cT,cE,hw];rw[To (se (wX n m)) h1];exact EM (se (wY n m)) h2
   | false=>
     obtain⟨n,fr',H',h1,h2⟩:=h;exact⟨n,fr',H',by simp only[cT,cE,hw];exact h1,h2⟩
theorem Z7{fr:Fr}{H:CH}{x:dJ}{K:ae->CH->Prop}:my T fr H (.p x) K↔∃v,pop (aJ fr) x=some v/\K v H:=by
 constructor
 ·rintro⟨n,v,H',h1,h2⟩;simp only[eg] at h1;cases hp:pop (aJ fr) x with
  | none=>rw[hp] at h1;cases h1
  | some u=>rw[hp] at h1;cases h1;exact⟨_,rfl,h2⟩
 rintro⟨v,h1,h2⟩;exact⟨0,v,H,by simp[eg,h1],h2⟩
theorem Tr{fr:Fr}{H:CH}{x:iG}{K:ae->CH->Prop}:my T fr H (.l x) K↔∃v,aD H (aJ fr) x=some v/\K v H:=by
 constructor
 ·rintro⟨n,v,H',h1,h2⟩;simp only[eg] at h1;cases hp:aD H (aJ fr) x with
  | none=>rw[hp] at h1;cases h1
  | some u=>rw[hp] at h1;cases h1;exact⟨_,rfl,h2⟩
 rintro⟨v,h1,h2⟩;exact⟨0,v,H,by simp[eg,h1],h2⟩
theorem Z8{fr:Fr}{H:CH}{x:qH}{K:ae->CH->Prop}:my T fr H (.a x) K↔∃cs e k mk,da (aJ fr) x=some (cs,e,k,mk)/\K (fj mk H.nx) (H.new (.cells cs e k)):=by
 constructor
 ·rintro⟨n,v,H',h1,h2⟩;simp only[eg] at h1;cases hp:da (aJ fr) x with
  | none=>rw[hp] at h1;cases h1
  | some u=>obtain⟨cs,e,k,mk⟩:=u;rw[hp] at h1;cases h1;exact⟨cs,e,k,mk,rfl,h2⟩
 rintro⟨cs,e,k,mk,h1,h2⟩;exact⟨0,_,_,by simp[eg,h1],h2⟩
theorem Z9{fr:Fr}{H:CH}{x:ja}{K:ae->CH->Prop}:my T fr H (.w x) K↔∃v H',bD H (aJ fr) x=some (v,H')/\K v H':=by
 constructor;·rintro⟨n,v,H',h1,h2⟩;exact⟨v,H',h1,h2⟩
 rintro⟨v,H',h1,h2⟩;exact⟨0,v,H',h1,h2⟩
theorem Z'{fr:Fr}{H:CH}{f:aU}{args:List au}{K:ae->CH->Prop}:my T fr H (.call f args) K↔aR T f (args.map (aJ fr)) H K:=dS
theorem aiL{fr:Fr}{H:CH}{g:au}{args:List au}{K:ae->CH->Prop}:my T fr H (.pv g args) K↔
 match aJ fr g with
 | .func (.func f) _ dh=>aR T f (args.map (aJ fr)++dh.toList) H K
 | .func (.yield l) _ _=>Tq T l (args.map (aJ fr)) H K
 | _=>False:=by
 constructor
 ·rintro⟨n,v,H',h1,h2⟩;simp only[eg] at h1;split at h1;·rename_i hg;simp only[hg];exact⟨n,v,H',h1,h2⟩
  ·rename_i hg;simp only[hg];exact⟨n,v,H',h1,h2⟩
  cases h1
 intro h;split at h;·rename_i hg;obtain⟨n,v,H',h1,h2⟩:=h;exact⟨n,v,H',by simp only[eg,hg];exact h1,h2⟩
 ·rename_i hg;obtain⟨n,v,H',h1,h2⟩:=h;exact⟨n,v,H',by simp only[eg,hg];exact h1,h2⟩
 exact h.elim
theorem nM{fr:Fr}{H:CH}{Q:bq->Fr->CH->Prop}:cM T .skip fr H Q↔Q .normal fr H:=
 ⟨λ⟨n,x,fr',H',h1,h2⟩=>by simp only[br,Option.some.injEq,Prod.mk.injEq] at h1;obtain⟨rfl,rfl,rfl⟩:=h1;exact h2,λh=>⟨0,_,_,_,rfl,h⟩⟩
theorem Oo{id:Nat}{fr:Fr}{H:CH}{Q:bq->Fr->CH->Prop}:cM T (.exit id) fr H Q↔Q (.exit id) fr H:=
 ⟨λ⟨n,x,fr',H',h1,h2⟩=>by simp only[br,Option.some.injEq,Prod.mk.injEq] at h1;obtain⟨rfl,rfl,rfl⟩:=h1;exact h2,λh=>⟨0,_,_,_,rfl,h⟩⟩
theorem nN{fr:Fr}{H:CH}{Q:bq->Fr->CH->Prop}:cM T .ret fr H Q↔Q .ret fr H:=
 ⟨λ⟨n,x,fr',H',h1,h2⟩=>by simp only[br,Option.some.injEq,Prod.mk.injEq] at h1;obtain⟨rfl,rfl,rfl⟩:=h1;exact h2,λh=>⟨0,_,_,_,rfl,h⟩⟩
theorem aaa{af:List Item}{fr:Fr}{H:CH}{Q:bq->Fr->CH->Prop}:cM T (.gW af) fr H Q↔pB T af fr H (Q .normal):=by
 constructor
 ·rintro⟨n,x,fr',H',h1,h2⟩;simp only[br] at h1;cases c:cT (cU T n) af fr H with
  | none=>rw[c] at h1;cases h1
  | some q=>rw[c] at h1;cases h1;exact⟨n,_,_,c,h2⟩
 rintro⟨n,fr',H',h1,h2⟩;exact⟨n,_,_,_,by simp only[br,h1];rfl,h2⟩
theorem Ts{d:jB}{fr:Fr}{H:CH}{Q:bq->Fr->CH->Prop}:cM T (.lB d) fr H Q↔CK T d.af fr H λfr' H' l=>(∀p∈d.nJ,∃G,(H::l)[p.2]? = some G/\wu fr' G p.1)/\Q .normal fr' H':=by
 constructor
 ·rintro⟨n,x,fr',H',h1,h2⟩;simp only[br,tc] at h1;cases c:cF (cU T n) d.af fr H with
  | none=>rw[c] at h1;cases h1
  | some q=>
    obtain⟨f,K,l⟩:=q;rw[c] at h1;simp only at h1;split at h1;·rename_i hc;cases h1;exact⟨n,_,_,_,c,hc,h2⟩
    cases h1
 rintro⟨n,fr',H',l,h1,h2,h3⟩;refine⟨n,_,fr',H',?_,h3⟩;simp only[br,tc,h1];rw[iP h2];rfl
theorem aab{fr:Fr}{H:CH}{K:Fr->CH->List CH->Prop}:CK T [] fr H K↔K fr H []:=
 ⟨λ⟨n,fr',H',l,h1,h2⟩=>by simp only[cF,Option.some.injEq,Prod.mk.injEq] at h1;obtain⟨rfl,rfl,rfl⟩:=h1;exact h2,λh=>⟨0,fr,H,[],rfl,h⟩⟩
theorem Oq{it:Item}{r:List Item}{fr:Fr}{H:CH}{K:Fr->CH->List CH->Prop}:CK T (it::r) fr H K↔
 match dU fr it.guard with
 | some true=>my T fr H it.op λv H'=>CK T r (bE fr it.dst v) H' λf L l=>K f L (if bS it.op then H'::l else l)
 | some false=>CK T r (bE fr it.dst kD) H λf L l=>K f L (if bS it.op then H::l else l)
 | none=>False:=by
 constructor
 ·rintro⟨n,fr',H',l,h1,h2⟩;simp only[cF,cE] at h1;cases hw:dU fr it.guard with
  | none=>rw[hw] at h1;cases h1
  | some b=>
    rw[hw] at h1;cases b with
    | true=>
      simp only at h1⊢
      cases e:eg (cU T n) fr H it.op with
      | none=>rw[e] at h1;cases h1
      | some q=>
        rw[e] at h1;simp only[fg] at h1;cases hd:cF (cU T n) r (bE fr it.dst q.1) q.2 with
        | none=>rw[hd] at h1;cases h1
        | some z=>
          obtain⟨a,b,c⟩:=z;rw[hd] at h1;simp only[fg,Option.some.injEq,Prod.mk.injEq] at h1;obtain⟨rfl,rfl,rfl⟩:=h1;exact⟨n,q.1,q.2,e,n,_,_,_,hd,h2⟩
    | false=>
      simp only at h1⊢
      cases hd:cF (cU T n) r (bE fr it.dst kD) H with
      | none=>rw[hd] at h1;cases h1
      | some z=>
        obtain⟨a,b,c⟩:=z;rw[hd] at h1;simp only[fg,Option.some.injEq,Prod.mk.injEq] at h1;obtain⟨rfl,rfl,rfl⟩:=h1;exact⟨n,_,_,_,hd,h2⟩
 intro h;cases hw:dU fr it.guard with
 | none=>rw[hw] at h;exact h.elim
 | some b=>
   rw[hw] at h;cases b with
   | true=>
     obtain⟨n,v,H1,h1,m,fr',H',l,h2,h3⟩:=h;refine⟨max n m,fr',H',_,?_,h3⟩;simp only[cF,cE,hw];rw[To (se (wX n m)) h1];simp only[fg];rw[Ok (se (wY n m)) h2];rfl
   | false=>
     obtain⟨n,fr',H',l,h1,h2⟩:=h;exact⟨n,fr',H',_,by simp only[cF,cE,hw,h1];rfl,h2⟩
theorem Ot{a b:bH}{fr:Fr}{H:CH}{Q:bq->Fr->CH->Prop}:cM T (.seq a b) fr H Q↔cM T a fr H λx fr' H'=>match x with
 | .normal=>cM T b fr' H' Q
 | x=>Q x fr' H':=by
 constructor
 ·rintro⟨n,x,fr',H',h1,h2⟩;simp only[br] at h1;cases ha:br (cU T n) n a fr H with
  | none=>rw[ha] at h1;cases h1
  | some q=>
    obtain⟨y,aj,H1⟩:=q;rw[ha] at h1;refine⟨n,y,aj,H1,ha,?_⟩;cases y with
    | normal=>exact⟨n,x,fr',H',h1,h2⟩
    | exit i=>cases h1;exact h2
    | ret=>cases h1;exact h2
 rintro⟨n,y,aj,H1,h1,h2⟩;cases y with
 | normal=>
   obtain⟨m,x,fr',H',h3,h4⟩:=h2;refine⟨max n m,x,fr',H',?_,h4⟩;simp only[br];rw[AO (se (wX n m)) (wX n m) h1];exact AO (se (wY n m)) (wY n m) h3
 | exit i=>exact⟨n,_,aj,H1,by simp only[br,h1],h2⟩
 | ret=>exact⟨n,_,aj,H1,by simp only[br,h1],h2⟩
theorem Tt{c:au}{a b:bH}{fr:Fr}{H:CH}{Q:bq->Fr->CH->Prop}:cM T (.cond c a b) fr H Q↔match aJ fr c with
 | .bool t=>if t=true then cM T a fr H Q else cM T b fr H Q
 | _=>False:=by
 constructor
 ·rintro⟨n,x,fr',H',h1,h2⟩;simp only[br] at h1;split at h1;·rename_i e;rw[e];exact⟨n,x,fr',H',h1,h2⟩
  ·rename_i e;rw[e];exact⟨n,x,fr',H',h1,h2⟩
  cases h1
 intro h;split at h
 ·rename_i t e;cases t with
  | true=>obtain⟨n,x,fr',H',h1,h2⟩:=h;exact⟨n,x,fr',H',by simp only[br,e];exact h1,h2⟩
  | false=>obtain⟨n,x,fr',H',h1,h2⟩:=h;exact⟨n,x,fr',H',by simp only[br,e];exact h1,h2⟩
 exact h.elim
theorem aac{id:Nat}{c:bH}{fr:Fr}{H:CH}{Q:bq->Fr->CH->Prop}:cM T (.block id c) fr H Q↔cM T c fr H λx fr' H'=>match x with
 | .exit i=>if i=id then Q .normal fr' H' else Q (.exit i) fr' H'
 | x=>Q x fr' H':=by
 constructor
 ·rintro⟨n,x,fr',H',h1,h2⟩;simp only[br] at h1;cases ha:br (cU T n) n c fr H with
  | none=>rw[ha] at h1;cases h1
  | some q=>
    obtain⟨y,aj,H1⟩:=q;rw[ha] at h1;refine⟨n,y,aj,H1,ha,?_⟩;cases y with
    | normal=>cases h1;exact h2
    | exit i=>
      simp only at h1⊢;split at h1;·rename_i e;rw[iP e];cases h1;exact h2
      rename_i e;rw[iN e];cases h1;exact h2
    | ret=>cases h1;exact h2
 rintro⟨n,y,aj,H1,h1,h2⟩;cases y with
 | normal=>exact⟨n,_,aj,H1,by simp only[br,h1],h2⟩
 | exit i=>
   simp only at h2;split at h2;·rename_i e;exact⟨n,_,aj,H1,by simp only[br,h1,iP e],h2⟩
   rename_i e;exact⟨n,_,aj,H1,by simp only[br,h1,iN e],h2⟩
 | ret=>exact⟨n,_,aj,H1,by simp only[br,h1],h2⟩
theorem Ou{c:bH}{fr:Fr}{H:CH}{Q:bq->Fr->CH->Prop}:cM T (.loop c) fr H Q↔cM T c fr H λx fr' H'=>match x with
 | .normal=>cM T (.loop c) fr' H' Q
 | x=>Q x fr' H':=by
 constructor
 ·rintro⟨n,x,fr',H',h1,h2⟩;simp only[br] at h1;cases n with
  | zero=>simp[pY] at h1
  | succ n=>
    simp only[pY] at h1;cases ha:br (cU T (n+1)) (n+1) c fr H with
    | none=>rw[ha] at h1;cases h1
    | some q=>
      obtain⟨y,aj,H1⟩:=q;rw[ha] at h1;refine⟨n+1,y,aj,H1,ha,?_⟩;cases y with
      | normal=>exact⟨n+1,x,fr',H',by simp only[br];exact Ol (mQ n) (λ_ _ _ h=>h) h1,h2⟩
      | exit i=>cases h1;exact h2
      | ret=>cases h1;exact h2
 rintro⟨n,y,aj,H1,h1,h2⟩;cases y with
 | normal=>
   obtain⟨m,x,fr',H',h3,h4⟩:=h2;refine⟨max n m+1,x,fr',H',?_,h4⟩;simp only[br,pY] at h3⊢;rw[AO (se (wU (wX n m))) (wU (wX n m)) h1];exact Ol (wY n m) (λ_ _ _ h=>AO (se (wU (wY n m))) (wU (wY n m)) h) h3
 | exit i=>exact⟨n+1,_,aj,H1,by simp only[br,pY];rw[AO (se (mQ n)) (mQ n) h1],h2⟩
 | ret=>exact⟨n+1,_,aj,H1,by simp only[br,pY];rw[AO (se (mQ n)) (mQ n) h1],h2⟩
theorem aiM{f:aU}{rf:xx}(he:T.ext f=false)(c:T.fn f=some rf){args:List ae}{H:CH}{Q:ae->CH->Prop}:aR T f args H Q↔cM T rf.body (λt=>args.getD t undef) H λx fr' H'=>match x with
 | .exit _=>False
 | _=>∃vs,bT fr' H' rf.res=some vs/\Q (dV vs) H':=by
 constructor
 ·rintro⟨n,v,H',h1,h2⟩;cases n with
  | zero=>simp[sd,cU] at h1
  | succ n=>
    simp only[sd,cU,he,c,iV,iF] at h1;cases hb:br (cU T n) n rf.body (λt=>args.getD t undef) H with
    | none=>rw[hb] at h1;cases h1
    | some q=>
      obtain⟨y,aj,H1⟩:=q;rw[hb] at h1;refine⟨n,y,aj,H1,hb,?_⟩;cases y with
      | exit i=>cases h1
      | normal=>
        simp only at h1⊢
        cases hv:bT aj H1 rf.res with
        | none=>rw[hv] at h1;cases h1
        | some vs=>rw[hv] at h1;cases h1;exact⟨vs,rfl,h2⟩
      | ret=>
        simp only at h1⊢
        cases hv:bT aj H1 rf.res with
        | none=>rw[hv] at h1;cases h1
        | some vs=>rw[hv] at h1;cases h1;exact⟨vs,rfl,h2⟩
 rintro⟨n,y,aj,H1,h1,h2⟩;cases y with
 | exit i=>exact h2.elim
 | normal=>
   obtain⟨vs,h3,h4⟩:=h2;exact⟨n+1,dV vs,H1,by simp only[sd,cU,he,c,iV,iF,h1,h3];rfl,h4⟩
 | ret=>
   obtain⟨vs,h3,h4⟩:=h2;exact⟨n+1,dV vs,H1,by simp only[sd,cU,he,c,iV,iF,h1,h3];rfl,h4⟩
def Tu(l:Nat)(fr:Fr)(Q:bq->Fr->CH->Prop):ae->CH->Prop:=λ_ H=>∃st gm fr' key,H.ob l= .loop st gm fr' key/\st≠ .busy/\Q (Od gm) fr (H.set l (.loop .exhausted gm fr' key))
theorem aiN{g:au}{key:Nat×Nat}{fr:Fr}{H:CH}{Q:bq->Fr->CH->Prop}{f:aU}{c dh:Array ae}(hg:aJ fr g= .func (.func f) c dh)
 (k:aR T f (.func (.yield H.nx) #[] #[]::dh.toList) (H.new (.loop .ready none fr key)) (Tu H.nx fr Q)):cM T (.sa g key) fr H Q:=by
 obtain⟨n,v,e,h1,st,gm,fr',i,h2,h3,h4⟩:=k;refine⟨n,_,_,_,?_,h4⟩;simp only[br,hg];simp only[sd] at h1;rw[h1];simp only[h2,iN h3]
end
section
open Go Go.RowKit
variable {P:aY} {B:Nat}
def dJ.bA:dJ->List au
 | .vZ x | .un _ x | .conv _ x | .G3 x | .off x _ | .ext x _ | .len x | .lens x | .Eo x | .Jy x | .kW x _ _=> [x]
 | .pick c a b=> [c,a,b]
 | .bin _ x y | .Em _ x y | .yK _ x y | .eqs _ x y | .G2 _ _ _ x y | .idx x y _ | .Jx x y _ _ | .G4 x y | .Jz x y _ _ _ | .mx _ x y=> [x,y]
 | .En x lo hi=>x::(lo.toList++hi.toList)
 | .fn _ dh=>dh
 | .As _ ps=>ps.map (·.2.2)
def iG.bA:iG->List au
 | .ld x | .kA _ x | .b2s x | .Cr _ x=> [x]
 | .Et _ x y=> [x,y]
 | .G9 _ _ _ x i=> [x,i]
 | .Cq _ _ x lo hi mx=>x::(lo.toList++(hi.toList++mx.toList))
def qH.bA:qH->List au
 | .box _ x=> [x]
 | .new _ _=> []
 | .AA _ _ _ _ ps=>ps.map (·.2)
 | .cH _ _ _ _ l c=> [l,c]
def ja.bA:ja->List au
 | .st _ x v=> [x,v]
 | .app _ _ _ s x=> [s,x]
 | .JG _ d s=> [d,s]
 | .JH=> []
 | .JI _ x k v=> [x,k,v]
 | .JJ x | .AC x | .JK x | .JL x | .jb x | .s2b _ _ x=> [x]
 | .del _ x k=> [x,k]
 | .JM _ p n=> [p,n]
def gu.bA:gu->List au
 | .p x=>x.bA
 | .l x=>x.bA
 | .a x=>x.bA
 | .w x=>x.bA
 | .call _ args=>args
 | .pv g args=>g::args
theorem Kh{ev ev':au->ae}{d d':Nat}{o:Option au}(h : ∀x∈o.toList,ev x=ev' x)(hd:d=d'):fF ev d o=fF ev' d' o:=by
 subst hd;cases o with
 | none=>rfl
 | some x=>simp only[fF,h x Sm]
theorem aad{ev ev':au->ae}{p:dJ}(h : ∀x∈p.bA,ev x=ev' x):pop ev p=pop ev' p:=by
 cases p with
 | pick c a b=>simp only[pop,h c (by simp[dJ.bA]),h a (by simp[dJ.bA]),h b (by simp[dJ.bA])]
 | En x lo hi=>
   have hx:=h x (by simp[dJ.bA]);simp only[pop,hx];rw[Kh (ev:=ev) (ev':=ev') (o:=lo) (λy e=>h y (by simp only[dJ.bA,ox,ia];exact .inr (.inl e))) rfl,Kh (ev:=ev) (ev':=ev') (o:=hi) (λy e=>h y (by simp only[dJ.bA,ox,ia];exact .inr (.inr e))) rfl]
 | fn f dh=>
   have:dh.map ev=dh.map ev':=wZ λx hx=>h x hx;simp only[pop,this]
 | As z ps=>
   simp only[pop];have:ps.map (λ(o,s,x)=>(o,s,ev x))=ps.map (λ(o,s,x)=>(o,s,ev' x)):=wZ λq i=>by
    obtain⟨a,b,c⟩:=q;simp only[h c (List.mem_map.2 ⟨_,i,rfl⟩)]
   rw[this]
 | vZ x=>simp only[pop,h x (by simp[dJ.bA])]
 | un op x=>simp only[pop,h x (by simp[dJ.bA])]
 | conv k x=>simp only[pop,h x (by simp[dJ.bA])]
 | G3 x=>simp only[pop,h x (by simp[dJ.bA])]
 | off x d=>simp only[pop,h x (by simp[dJ.bA])]
 | ext x d=>simp only[pop,h x (by simp[dJ.bA])]
 | len x=>simp only[pop,h x (by simp[dJ.bA])]
 | lens x=>simp only[pop,h x (by simp[dJ.bA])]
 | Eo x=>simp only[pop,h x (by simp[dJ.bA])]
 | Jy x=>simp only[pop,h x (by simp[dJ.bA])]
 | bin op x y=>simp only[pop,h x (by simp[dJ.bA]),h y (by simp[dJ.bA])]
 | Em n x y=>simp only[pop,h x (by simp[dJ.bA]),h y (by simp[dJ.bA])]
 | yK n x y=>simp only[pop,h x (by simp[dJ.bA]),h y (by simp[dJ.bA])]
 | eqs n x y=>simp only[pop,h x (by simp[dJ.bA]),h y (by simp[dJ.bA])]
 | G2 n g ks x y=>simp only[pop,h x (by simp[dJ.bA]),h y (by simp[dJ.bA])]
 | idx x y s=>simp only[pop,h x (by simp[dJ.bA]),h y (by simp[dJ.bA])]
 | Jx x y n s=>simp only[pop,h x (by simp[dJ.bA]),h y (by simp[dJ.bA])]
 | G4 x y=>simp only[pop,h x (by simp[dJ.bA]),h y (by simp[dJ.bA])]
 | kW x d n=>simp only[pop,h x (by simp[dJ.bA])]
 | Jz x y n s g=>simp only[pop,h x (by simp[dJ.bA]),h y (by simp[dJ.bA])]
 | mx b x y=>simp only[pop,h x (by simp[dJ.bA]),h y (by simp[dJ.bA])]
theorem aae{ev ev':au->ae}{H:CH}{p:iG}(h : ∀x∈p.bA,ev x=ev' x):aD H ev p=aD H ev' p:=by
 cases p with
 | ld x=>simp only[aD,h x (by simp[iG.bA])]
 | kA n x=>simp only[aD,h x (by simp[iG.bA])]
 | b2s x=>simp only[aD,h x (by simp[iG.bA])]
 | Cr f x=>simp only[aD,h x (by simp[iG.bA])]
 | Et neg x y=>simp only[aD,h x (by simp[iG.bA]),h y (by simp[iG.bA])]
 | G9 kk z ok x i=>simp only[aD,h x (by simp[iG.bA]),h i (by simp[iG.bA])]
 | Cq e sz x lo hi mx=>
   have hx:=h x (by simp[iG.bA]);simp only[aD,hx];rw[Kh (ev:=ev) (ev':=ev') (o:=lo) (λy c=>h y (by simp only[iG.bA,ox,ia];exact .inr (.inl c))) rfl,
    Kh (ev:=ev) (ev':=ev') (o:=hi) (λy c=>h y (by simp only[iG.bA,ox,ia];exact .inr (.inr (.inl c)))) rfl,
    Kh (ev:=ev) (ev':=ev') (o:=mx) (λy c=>h y (by simp only[iG.bA,ox,ia];exact .inr (.inr (.inr c)))) rfl]
theorem Ki{ev ev':au->ae}{p:qH}(h : ∀x∈p.bA,ev x=ev' x):da ev p=da ev' p:=by
 cases p with
 | box e x=>simp only[da,h x (by simp[qH.bA])]
 | new e z=>rfl
 | AA e sz n z ps=>
   simp only[da];have:ps.map (λ(i,x)=>(i*sz,sz,ev x))=ps.map (λ(i,x)=>(i*sz,sz,ev' x)):=wZ λq f=>by
    obtain⟨a,c⟩:=q;simp only[h c (List.mem_map.2 ⟨_,f,rfl⟩)]
   rw[this]
 | cH e sz b z l c=>simp only[da,h l (by simp[qH.bA]),h c (by simp[qH.bA])]
theorem aiO{ev ev':au->ae}{H:CH}{p:ja}(h : ∀x∈p.bA,ev x=ev' x):bD H ev p=bD H ev' p:=by
 cases p with
 | st n x v=>simp only[bD,h x (by simp[ja.bA]),h v (by simp[ja.bA])]
 | app e sz b s x=>simp only[bD,h s (by simp[ja.bA]),h x (by simp[ja.bA])]
 | JG sz d s=>simp only[bD,h d (by simp[ja.bA]),h s (by simp[ja.bA])]
 | JH=>rfl
 | JI kk x k v=>simp only[bD,h x (by simp[ja.bA]),h k (by simp[ja.bA]),h v (by simp[ja.bA])]
 | JJ x=>simp only[bD,h x (by simp[ja.bA])]
 | AC x=>simp only[bD,h x (by simp[ja.bA])]
 | JK x=>simp only[bD,h x (by simp[ja.bA])]
 | JL x=>simp only[bD,h x (by simp[ja.bA])]
 | del kk x k=>simp only[bD,h x (by simp[ja.bA]),h k (by simp[ja.bA])]
 | jb x=>simp only[bD,h x (by simp[ja.bA])]
 | JM e p n=>simp only[bD,h p (by simp[ja.bA]),h n (by simp[ja.bA])]
 | s2b e b x=>simp only[bD,h x (by simp[ja.bA])]
theorem aiP{h:Hd}{fr fr':Fr}{H:CH}{o:gu}(he : ∀x∈o.bA,aJ fr x=aJ fr' x):eg h fr H o=eg h fr' H o:=by
 cases o with
 | p x=>simp only[eg,aad (p:=x) he]
 | l x=>simp only[eg,aae (p:=x) he]
 | a x=>simp only[eg,Ki (p:=x) he]
 | w x=>simp only[eg];exact aiO he
 | call f args=>
   have:args.map (aJ fr)=args.map (aJ fr'):=wZ λx hx=>he x hx;simp only[eg,this]
 | pv g args=>
   have hg:=he g (by simp[gu.bA]);have ha:args.map (aJ fr)=args.map (aJ fr'):=wZ λx hx=>he x (by simp[gu.bA,hx]);simp only[eg,hg,ha]
def slotsOf:List au->List Nat:=λl=>l.filterMap fun | .tmp t=>some t | _=>none
def Item.fk(it:Item):List Nat:=slotsOf it.op.bA++(match it.guard with | some (s,_)=> [s] | none=> [])
theorem AP{fr fr':Fr}{l:List au}(h : ∀t∈slotsOf l,fr t=fr' t) : ∀x∈l,aJ fr x=aJ fr' x:=by
 intro x hx;cases x with
 | tmp t=>exact h t (List.mem_filterMap.2 ⟨.tmp t,hx,rfl⟩)
 | _=>rfl
theorem AQ{fr fr':Fr}{it:Item}(h : ∀t∈it.fk,fr t=fr' t):dU fr it.guard=dU fr' it.guard:=by
 cases hg:it.guard with
 | none=>rfl
 | some q=>
   obtain⟨s,b⟩:=q;simp only[dU,h s (by simp[Item.fk,hg])]
theorem EN{h:Hd}{it:Item}{fr aS aj:Fr}{H H1:CH}(ha : ∀t∈it.fk,fr t=aS t)(hs:cE h it fr H=some (aj,H1)) : ∃v,aj=bE fr it.dst v/\cE h it aS H=some (bE aS it.dst v,H1):=by
 have hw:=AQ ha;have e:eg h fr H it.op=eg h aS H it.op:=aiP (AP λt ht=>ha t (by simp[Item.fk,ht]));simp only[cE] at hs⊢;rw[<-hw,<-e];split at hs
 ·cases c:eg h fr H it.op with
  | none=>rw[c] at hs;cases hs
  | some q=>rw[c] at hs;cases hs;exact⟨q.1,rfl,rfl⟩
 ·cases hs;exact⟨kD,rfl,rfl⟩
 cases hs
theorem aiQ{fr:Fr}{a b:Option Nat}{u v:ae}(h : ∀x,a=some x->b≠some x):bE (bE fr a u) b v=bE (bE fr b v) a u:=by
 cases a with
 | none=>rfl
 | some x=>
   cases b with
   | none=>rfl
   | some y=>
     have aA:x≠y:=λe=>h x rfl (by rw[e]);funext t
     simp only[bE];by_cases f:t=y
     ·subst f;have c : ¬t=x:=λg=>aA g.symm;simp[c]
     by_cases c:t=x
     ·subst c;simp[f]
     simp[f,c]
theorem AR{fr:Fr}{a:Option Nat}{v:ae}{t:Nat}(h:a≠some t):bE fr a v t=fr t:=by
 cases a with
 | none=>rfl
 | some x=>simp only[bE];rw[iN (λe=>h (by rw[e]))]
theorem Tw{h:Hd}{d:Option Nat}{v:ae} : ∀ {R:List Item} {fr aj:Fr} {H H1:CH} {l:List CH},(∀x∈R,∀t,d=some t->t∉x.fk/\x.dst≠some t)->cF h R fr H=some (aj,H1,l)->cF h R (bE fr d v) H=some (bE aj d v,H1,l)
 | [],fr,aj,H,H1,l,_,i=>by simp only[cF,Option.some.injEq,Prod.mk.injEq] at i;obtain⟨rfl,rfl,rfl⟩:=i;rfl
 | x::R,fr,aj,H,H1,l,hx,i=>by
   simp only[cF] at i⊢
   cases hs:cE h x fr H with
   | none=>rw[hs] at i;cases i
   | some q=>
     obtain⟨f,K⟩:=q;rw[hs] at i;have j:=hx x (j5 ..);obtain⟨u,rfl,h2⟩:=EN (aS:=bE fr d v) (λt ht=>by
      rw[AR];intro e;exact(j t e).1 ht) hs
     rw[h2];simp only at i⊢
     cases hd:cF h R (bE fr x.dst u) K with
     | none=>rw[hd] at i;cases i
     | some z=>
       obtain⟨a,b,c⟩:=z;rw[hd] at i;simp only[fg,Option.some.injEq,Prod.mk.injEq] at i;obtain⟨rfl,rfl,rfl⟩:=i;have:=Tw (v:=v) (λy n=>hx y (hU _ n)) hd;rw[aiQ (λt e g=>(j t g).2 e)] at this;rw[this];rfl
theorem EO{h:Hd}{t:Nat} : ∀ {R:List Item} {fr aj:Fr} {H H1:CH} {l:List CH},(∀x∈R,x.dst≠some t)->cF h R fr H=some (aj,H1,l)->aj t=fr t
 | [],fr,aj,H,H1,l,_,e=>by simp only[cF,Option.some.injEq,Prod.mk.injEq] at e;obtain⟨rfl,rfl,rfl⟩:=e;rfl
 | x::R,fr,aj,H,H1,l,hx,e=>by
   simp only[cF] at e;cases hs:cE h x fr H with
   | none=>rw[hs] at e;cases e
   | some q=>
     obtain⟨f,K⟩:=q;rw[hs] at e;simp only at e;obtain⟨u,rfl,_⟩:=EN (aS:=fr) (λt _=>rfl) hs;cases hd:cF h R (bE fr x.dst u) K with
     | none=>rw[hd] at e;cases e
     | some z=>
       obtain⟨a,b,c⟩:=z;rw[hd] at e;simp only[fg,Option.some.injEq,Prod.mk.injEq] at e;obtain⟨rfl,rfl,rfl⟩:=e;rw[EO (λy g=>hx y (hU _ g)) hd,AR (hx x (j5 ..))]
theorem Ov{h:Hd} : ∀ {R S:List Item} {fr aS:Fr} {H g:CH} {l:List CH},cF h (R++S) fr H=some (aS,g,l)->∃aj H1 f l2,cF h R fr H=some (aj,H1,f)/\cF h S aj H1=some (aS,g,l2)/\l=f++l2
 | [],S,fr,aS,H,g,l,e=>⟨fr,H,[],l,rfl,e,rfl⟩
 | x::R,S,fr,aS,H,g,l,e=>by
   simp only[jU,cF] at e;cases hs:cE h x fr H with
   | none=>rw[hs] at e;cases e
   | some q=>
     rw[hs] at e;simp only at e;cases hd:cF h (R++S) q.1 q.2 with
     | none=>rw[hd] at e;cases e
     | some z=>
       obtain⟨a,b,c⟩:=z;rw[hd] at e;simp only[fg,Option.some.injEq,Prod.mk.injEq] at e;obtain⟨rfl,rfl,rfl⟩:=e;obtain⟨aj,H1,f,l2,h1,h2,rfl⟩:=Ov hd;refine⟨aj,H1,if bS x.op then q.2::f else f,l2,?_,h2,by split<;>rfl⟩;simp only[cF,hs,h1];rfl
theorem Ty{h:Hd} : ∀ {R S:List Item} {fr aj aS:Fr} {H H1 e:CH} {f l2:List CH},cF h R fr H=some (aj,H1,f)->cF h S aj H1=some (aS,e,l2)->cF h (R++S) fr H=some (aS,e,f++l2)
 | [],S,fr,aj,aS,H,H1,e,f,l2,h1,h2=>by simp only[cF,Option.some.injEq,Prod.mk.injEq] at h1;obtain⟨rfl,rfl,rfl⟩:=h1;exact h2
 | x::R,S,fr,aj,aS,H,H1,e,f,l2,h1,h2=>by
   simp only[jU,cF] at h1⊢
   cases hs:cE h x fr H with
   | none=>rw[hs] at h1;cases h1
   | some q=>
     rw[hs] at h1;simp only at h1⊢
     cases hd:cF h R q.1 q.2 with
     | none=>rw[hd] at h1;cases h1
     | some z=>
       obtain⟨a,b,c⟩:=z;rw[hd] at h1;simp only[fg,Option.some.injEq,Prod.mk.injEq] at h1;obtain⟨rfl,rfl,rfl⟩:=h1;rw[Ty hd h2];simp only[fg];split<;>rfl
def Ox (H K:CH):Prop:=∀l,((∃cs e k,H.ob l= .cells cs e k)\/(∃es c,H.ob l= .map es c)\/∃f k,H.ob l= .fm f k)->K.ob l=H.ob l
theorem aaf{H K:CH}(j:Ox H K){ev:au->ae}{x:iG}{v:ae}(h:aD H ev x=some v):aD K ev x=some v:=by
 cases x with
 | G9 kk z ok x i=>
   simp only[aD] at h⊢;split at h;·exact h
   ·rename_i l hx;cases ho:H.ob l with
    | map es c=>rw[j _ (.inr (.inl ⟨_,_,ho⟩)),ho];rw[ho] at h;exact h
    | fm f k=>rw[j _ (.inr (.inr ⟨_,_,ho⟩)),ho];rw[ho] at h;exact h
    | _=>rw[ho] at h;cases h
   cases h
 | ld x=>
   simp only[aD] at h⊢;split at h
   ·split at h;·rename_i g;rw[j _ (.inl ⟨_,_,_,g⟩),g];exact h
    cases h
   cases h
 | kA n x=>
   simp only[aD] at h⊢;split at h
   ·split at h;·rename_i g;rw[j _ (.inl ⟨_,_,_,g⟩),g];exact h
    cases h
   cases h
 | Et neg x y=>
   simp only[aD] at h⊢;split at h;·exact h
   ·exact h
   ·split at h;·rename_i g;rw[j _ (.inl ⟨_,_,_,g⟩),g];exact h
    cases h
   cases h
 | Cr f x=>
   simp only[aD] at h⊢;split at h;·exact h
   ·split at h;·rename_i g;rw[j _ (.inl ⟨_,_,_,g⟩),g];exact h
    cases h
   cases h
 | b2s x=>
   simp only[aD] at h⊢;split at h;·exact h
   ·split at h;·rename_i g;rw[j _ (.inl ⟨_,_,_,g⟩),g];exact h
    cases h
   ·exact h
   cases h
 | Cq e sz x lo hi mx=>
   simp only[aD] at h⊢;split at h
   ·rename_i l hh m h1 h2 h3;split at h
    ·rename_i o;have:pT K e (ev x)=true:=by
      simp only[fJ] at o;have:=o.1;unfold pT at this⊢;split at this
      ·split at this;·rename_i g;rw[j _ (.inl ⟨_,_,_,g⟩),g]
       ·rename_i k hk g;rw[j _ (.inl ⟨_,_,_,g⟩),g];cases k<;>first | rfl | exact this
       cases this
      rfl
     simp only[fJ] at o;simp only[this,o.2,Bool.and_self,iT];exact h
    cases h
   cases h
end
section
open Go Go.RowKit
variable {P:aY} {B:Nat}
def lE:gu->Bool
 | .a _=>true
 | _=>false
inductive gN(ops:Array cu):Nat->Nat->Prop where
 | Kj {i:Nat} {o:cu} {e:Edge} (ho:ops[i]? = some o) (he:e∈o.after.toList) (hb:GI .any e=true):gN ops i e.on
 | trans {i j l:Nat} (h:gN ops i j) (k:gN ops j l):gN ops i l
def DC (ops:Array cu)(listed:Array Bool):Prop:=∀i j,listed.getD i false=true->gN ops i j->listed.getD j false=true
theorem Kk{ops:Array cu}{listed:Array Bool}{i:Nat}(h:i∈Ag .any ops listed):i<ops.size/\listed.getD i true=false/\∀o,ops[i]? = some o->∀e∈o.after.toList,GI .any e=true->listed.getD e.on false=true:=by
 unfold Ag at h;obtain⟨h1,h2⟩:=List.mem_filter.1 h;have hi:i<ops.size:=List.mem_range.1 h1;simp only[fJ,Ab] at h2;refine⟨hi,h2.1,λo ho e he hb=> ?_⟩;have h3:=h2.2;rw[ho] at h3;simp only[fg,sR] at h3;have:=Array.all_eq_true_iff_forall_mem.1 h3 e (by simpa using he);simpa[hb] using this
theorem Tz{ops:Array cu}{listed:Array Bool}(c:DC ops listed){i j:Nat}(ha:gN ops i j):(∀o,ops[i]? = some o->∀e∈o.after.toList,GI .any e=true->listed.getD e.on false=true)->listed.getD j false=true:=by
 induction ha with
 | Kj ho he hb=>intro h;exact h _ ho _ he hb
 | trans h k f n=>intro g;exact c _ _ (f g) k
theorem AT{listed:Array Bool}{i j:Nat}:(listed.setIfInBounds i true).getD j false=true↔(j=i/\i<listed.size)\/listed.getD j false=true:=by
 simp only[ou];by_cases h:i=j
 ·subst h;by_cases hi:i<listed.size
  ·simp[hi]
  simp[hi]
 rw[Yx h];constructor;·exact .inr
 rintro(⟨e,_⟩ | e);·exact absurd e.symm h
 exact e
theorem aag{ops:Array cu}{listed:Array Bool}(c:DC ops listed){i:Nat}(hi:i∈Ag .any ops listed):DC ops (listed.setIfInBounds i true):=by
 intro a b ha e;rw[AT] at ha⊢
 rcases ha with ⟨rfl,_⟩ | ha
 ·exact .inr (Tz c e (Kk hi).2.2)
 exact .inr (c _ _ ha e)
theorem aE.push{β:Nat->aB}{H:CH}{w w':aq}(h:aE P B β H w){o:Obj}(hw:w'.heap=w.heap.push o):aE P B β H w':=by
 have c : ∀b,b<w.heap.size->w'.heap[b]? = w.heap[b]? :=λb hb=>by rw[hw,Gv,iN Om]
 refine⟨λl=>(h.iY l).mono (eN.refl β) λb hb=>c b ?_,h.nx,h.inj,by rw[hw];simp;exact wU h.base,h.ro⟩;exact Co h hb
theorem aE.aiR{β:Nat->aB}{H:CH}{w:aq}(h:aE P B β H w){b sz:Nat}{cs:List ae}{cs':Array ae}{e:aI}{k:Kd}{fr:Nat×Nat}(hb:w.heap[b]? = some (.cells cs' e fr))(p:B<=b)(o:Out β b)(hk:k≠ .ro)(he:(P.info? e).map (·.size)=some sz)
 (hl:cs.length<=cs'.size) (hx:k= .ex->cs.length=cs'.size) (hc : ∀(i:Nat) (v:ae),cs[i]? = some v->∃v',cs'[i]? = some v'/\VR β v v') (q:Cl cs'.size fr) :
 aE P B (db β H.nx (.live (b,0) sz cs'.size k)) (H.new (.cells cs e k)) w/\eN β (db β H.nx (.live (b,0) sz cs'.size k))/\∀f,f≠b->Out β f->Out (db β H.nx (.live (b,0) sz cs'.size k)) f:=by
 have s:=h.oy;have g:eN β (db β H.nx (.live (b,0) sz cs'.size k)):=λl=>by
  by_cases hl:l=H.nx
  ·subst hl;exact .inr (.inl s)
  exact .inl (dD hl)
 refine⟨⟨λl=> ?_,λl hl=> ?_,λl l' f ho c=> ?_,h.base,h.ro.db λ_ _ _ e=>(by cases e;exact hk rfl)⟩,g,λf aA j l ho=> ?_⟩
 ·by_cases n:l=H.nx
  ·subst n;simp only[eu,CH.new,iT];exact⟨rfl,cs',e,fr,hb,rfl,hl,λi v hv=>let ⟨v',a,b⟩:=hc i v hv;⟨v',a,b.mono g⟩,λ_=>he,λ_=>⟨rfl,p,q⟩,λe=>absurd e hk,λe=>⟨hx e,rfl⟩⟩
  simp only[dD n,CH.new,iN n];exact(h.iY l).mono g λ_ _=>rfl
 ·have:l≠H.nx:=by simp[CH.new] at hl;omega
  simp only[CH.new,iN this];exact h.nx l (by simp[CH.new] at hl;omega)
 ·by_cases h1:l=H.nx<;>by_cases h2:l'=H.nx
  ·rw[h1,h2]
  ·subst h1;rw[eu] at ho;rw[dD h2] at c;rw[<-ho.2] at c;exact absurd c (o l')
  ·subst h2;rw[eu] at c;rw[dD h1] at ho;rw[<-c.2] at ho;exact absurd ho (o l)
  rw[dD h1] at ho;rw[dD h2] at c;exact h.inj _ _ f ho c
 by_cases h1:l=H.nx
 ·subst h1;rw[eu] at ho;exact aA ho.2.symm
 rw[dD h1] at ho;exact j l ho
theorem TF{h:Hd} : ∀ {R:List Item} {fr aj:Fr} {H H1:CH} {l:List CH},(∀x∈R,bS x.op=false/\lE x.op=false)->cF h R fr H=some (aj,H1,l)->H1=H/\l= []
 | [],fr,aj,H,H1,l,_,e=>by simp only[cF,Option.some.injEq,Prod.mk.injEq] at e;obtain⟨rfl,rfl,rfl⟩:=e;exact⟨rfl,rfl⟩
 | x::R,fr,aj,H,H1,l,hx,e=>by
   simp only[cF] at e;cases hs:cE h x fr H with
   | none=>rw[hs] at e;cases e
   | some q=>
     obtain⟨f,K⟩:=q;have g:=hx x (j5 ..);have j:K=H:=by
      simp only[cE] at hs;split at hs
      ·cases i:x.op with
       | p y=>rw[i] at hs;simp only[eg] at hs;cases hp:pop (aJ fr) y<;>rw[hp] at hs<;>simp at hs;exact hs.2.symm
       | l y=>rw[i] at hs;simp only[eg] at hs;cases hp:aD H (aJ fr) y<;>rw[hp] at hs<;>simp at hs;exact hs.2.symm
       | a y=>rw[i] at g;cases g.2
       | w y=>rw[i] at g;cases g.1
       | call f a=>rw[i] at g;cases g.1
       | pv f a=>rw[i] at g;cases g.1
      ·cases hs;rfl
      cases hs
     rw[hs] at e;simp only[g.1,iV,iF] at e;cases hd:cF h R f K with
     | none=>rw[hd] at e;cases e
     | some z=>
       obtain⟨a,b,c⟩:=z;rw[hd] at e;simp only[fg,Option.some.injEq,Prod.mk.injEq] at e;obtain⟨rfl,rfl,rfl⟩:=e;obtain⟨h1,h2⟩:=TF (λy n=>hx y (hU _ n)) hd;exact⟨h1.trans j,h2⟩
theorem aah{h:Hd}{K:CH} : ∀ {R:List Item} {fr aj:Fr} {H H1:CH} {l:List CH},Ox H K->(∀x∈R,bS x.op=false/\lE x.op=false)->cF h R fr H=some (aj,H1,l)->cF h R fr K=some (aj,K,[])
 | [],fr,aj,H,H1,l,_,_,e=>by simp only[cF,Option.some.injEq,Prod.mk.injEq] at e;obtain⟨rfl,rfl,rfl⟩:=e;rfl
 | x::R,fr,aj,H,H1,l,n,hx,e=>by
   simp only[cF] at e⊢
   cases hs:cE h x fr H with
   | none=>rw[hs] at e;cases e
   | some q=>
     obtain⟨f,o⟩:=q;have g:=hx x (j5 ..);have s:cE h x fr K=some (f,K)/\o=H:=by
      simp only[cE] at hs⊢;split at hs
      ·cases i:x.op with
       | p y=>rw[i] at hs;simp only[eg] at hs⊢;cases hp:pop (aJ fr) y<;>rw[hp] at hs<;>simp at hs;simp[hs.1,hs.2]
       | l y=>rw[i] at hs;simp only[eg] at hs⊢;cases hp:aD H (aJ fr) y<;>rw[hp] at hs<;>simp at hs;rw[aaf n hp];simp[hs.1,hs.2]
       | a y=>rw[i] at g;cases g.2
       | w y=>rw[i] at g;cases g.1
       | call f a=>rw[i] at g;cases g.1
       | pv f a=>rw[i] at g;cases g.1
      ·cases hs;exact⟨rfl,rfl⟩
      cases hs
     obtain⟨j,rfl⟩:=s;rw[hs] at e;rw[j];simp only[g.1,iV,iF] at e⊢
     cases hd:cF h R f o with
     | none=>rw[hd] at e;cases e
     | some z=>
       obtain⟨a,b,c⟩:=z;rw[hd] at e;simp only[fg,Option.some.injEq,Prod.mk.injEq] at e;obtain⟨rfl,rfl,rfl⟩:=e;rw[aah n (λy t=>hx y (hU _ t)) hd];rfl
end
section
open Go Go.RowKit
variable {P:aY} {B:Nat}
structure DS(P:aY)(N:Nat)(ops:Array cu)(d:jB) where
 af:Nat->Item
 ok : ∀i o,ops[i]? = some o->xr P N ops o (af i)
 sf:List Nat
 ui:d.af=sf.map af
 mem : ∀i,i∈sf↔i<ops.size
 pos:Nat->Nat
 u7:sf.Pairwise (λa b=>pos a<pos b)
 yU : ∀i j,i<ops.size->gN ops i j->j<ops.size/\pos j<pos i
 dd : ∀i j t,i<ops.size->j<ops.size->(af i).dst=some t->(af j).dst=some t->i=j
 d2 : ∀i j t,i<ops.size->j<ops.size->i≠j->(af i).dst=some t->t∈(af j).fk->gN ops j i\/(gN ops i j/\lE (af j).op=false)
 d2' : ∀j t,j<ops.size->lE (af j).op=true->(af j).dst=some t->t∉(af j).fk
 ga : ∀i j t b,i<ops.size->j<ops.size->lE (af i).op=true->(af i).dst=some t->(af j).guard≠some (t,b)
 d4 : ∀i j,i<ops.size->j<ops.size->bS (af j).op=true->pos i<pos j->gN ops j i
 s2 : ∀d i t,d<ops.size->i<ops.size->bS (af d).op=false->lE (af i).op=true->(af i).dst=some t->t∈(af d).fk->∀x,x<ops.size->pos x<pos i->
  (bS (af x).op=true->gN ops d x)/\(lE (af x).op=true->(∃y,y<ops.size/\bS (af y).op=true/\pos x<pos y/\pos y<pos i)\/gN ops d x)
 rk:Nat->Nat
 rk1 : ∀x y,x<ops.size->y<ops.size->bS (af x).op=true->bS (af y).op=true->rk x<rk y->pos x<pos y
 rk2 : ∀x q,x<ops.size->bS (af x).op=true->q<rk x->∃y,y<ops.size/\bS (af y).op=true/\rk y=q
 rk3 : ∀x y,x<ops.size->y<ops.size->bS (af x).op=true->bS (af y).op=true->rk x=rk y->x=y
 lo:Nat->Nat
 hi:Nat->Nat
 lo1 : ∀r q,r<ops.size->q<lo r->∃x,x<ops.size/\bS (af x).op=true/\rk x=q/\gN ops r x
 u9 : ∀r x,r<ops.size->x<ops.size->bS (af x).op=true->rk x<hi r\/pos r<pos x
 rd : ∀r x,r<ops.size->(af r).op= .l x->
  (∀x,x<ops.size->pos x<pos r->(bS (af x).op=true->gN ops r x)/\(lE (af x).op=true->(∃y,y<ops.size/\bS (af y).op=true/\pos x<pos y/\gN ops r y)\/∃t,(af x).dst=some t/\t∈(af r).fk))\/
  ((∀t j,t∈(af r).fk->j<ops.size->(af j).dst=some t->gN ops r j)/\∀s,lo r<=s->s<=hi r->(af r,s)∈d.nJ)
def DS.cY{P:aY}{N:Nat}{ops:Array cu}{d:jB}(S:DS P N ops d):Prop:=∀Zl,d.yO=some Zl->∀A k R,S.sf=A++k::R->(∀x∈A,qK (S.af x).op=true)->qK (S.af k).op=false->∃c:List Nat,Zl=c.map (λz=>mV (S.af z))/\c.Sublist R/\(∀z∈c,qK (mV (S.af z)).op=true/\∀t,(S.af z).dst=some t->t∉(S.af k).fk)/\∀b∈R,b∈c\/gN ops b k
structure AU(P:aY)(B N:Nat)(w0:aq)(β:Nat->aB)(fr:Fr)(a:Act)(w:aq)(it:Item)(b:Nat):Prop where
 ex : ∃x cs e k mk cs' jb sz v',it.op= .a x/\dU fr it.guard=some true/\da (aJ fr) x=some (cs,e,k,mk)/\k≠ .ro/\(P.info? e).map (·.size)=some sz/\w.heap[b]? = some (.cells cs' e jb)/\
  cs.length<=cs'.size/\(k= .ex->cs.length=cs'.size)/\(∀(i:Nat) (v:ae),cs[i]? = some v->∃u,cs'[i]? = some u/\VR β v u)/\(Cl cs'.size jb)/\
  NY mk b sz k cs'.size v'/\∀t,it.dst=some t->a.tmps.getD t undef=v'
 base:B<=b
 arP:w0.heap.size<=b
 out:Out β b
structure Core{N:Nat}{ops:Array cu}{d:jB}(S:DS P N ops d)(B:Nat)(h:Hd)(β0:Nat->aB)(w0:aq)(fr':Fr)(H':CH)(β:Nat->aB)(fr:Fr)(H:CH)(R:List Nat)(bi:List (Nat×Nat))(l:List CH)(m:Nat)(a:Act)(w:aq):Prop where
 lt : ∀i∈R,i<ops.size
 u7:R.Pairwise (λx y=>S.pos x<S.pos y)
 p7 : ∀p∈bi,p.1∈R/\lE (S.af p.1).op=true
 HB : ∀p∈bi,AU P B N w0 β fr a w (S.af p.1) p.2
 Kl:bi.Pairwise (λp q=>p.1≠q.1/\p.2≠q.2)
 CL : ∀p∈bi,∀j,gN ops p.1 j->j∉R\/∃q∈bi,q.1=j
 Kn : ∀p∈bi,∀q∈bi,∀t,(S.af q.1).dst=some t->t∉(S.af p.1).fk
 run:cF h (R.map S.af) fr H=some (fr',H',l)
 AW:aE P B β H w
 lC:bB β0 w0 β w
 size:N<=a.tmps.size
 fr : ∀t,(∃p∈bi,(S.af p.1).dst=some t)\/VR β (fr t) (a.tmps.getD t undef)
 done : ∀x,x<ops.size->bS (S.af x).op=true->(x∉R↔S.rk x<m)
 mW : ∀q,q<m->∃y,y<ops.size/\bS (S.af y).op=true/\S.rk y=q
 past : ∀y,y<ops.size->bS (S.af y).op=true->y∉R->∀x,x<ops.size->S.pos x<S.pos y->x∉R
 nJ : ∀r∈R,∀s,(S.af r,s)∈d.nJ->S.lo r<=s->s<=S.hi r->m<=s->∃G,(H::l)[s-m]? = some G/\wu fr' G (S.af r)
theorem wu.fill{fr:Fr}{G K:CH}{it:Item}(h:wu fr G it)(c:Ox G K):wu fr K it:=by
 rcases h with h | ⟨x,d,h1,h2,h3⟩
 ·exact .inl h
 exact .inr ⟨x,d,h1,h2,aaf c h3⟩
theorem aai{P:aY}{B:Nat}{β:Nat->aB}{H:CH}{w:aq}(h:aE P B β H w)(o:cy):Ox H (H.new o):=λl hl=>by
 have:l≠H.nx:=λg=>by
  rw[g,h.nx _ (al _)] at hl;rcases hl with ⟨_,_,_,hl⟩ | ⟨_,_,hl⟩ | ⟨_,_,hl⟩<;>cases hl
 simp[CH.new,this]
theorem AU.cP{N:Nat}{w0:aq}{β β':Nat->aB}{fr aS:Fr}{a a':Act}{w w':aq}{it:Item}{b:Nat}(h:AU P B N w0 β fr a w it b)(hx:eN β β')(hw:w'.heap[b]? = w.heap[b]?)(ho:Out β' b)(c : ∀t∈it.fk,aS t=fr t)(ha : ∀t,it.dst=some t->a'.tmps.getD t undef=a.tmps.getD t undef) :
 AU P B N w0 β' aS a' w' it b:=by
 obtain⟨⟨x,cs,e,k,mk,cs',jb,sz,v',h1,h2,h3,h4,h5,f,g,j,n,o,s,y⟩,hb,z,_⟩:=h;refine⟨⟨x,cs,e,k,mk,cs',jb,sz,v',h1,?_,?_,h4,h5,hw.trans f,g,j,λi v hv=>let ⟨u,p,q⟩:=n i v hv;⟨u,p,q.mono hx⟩,o,s,λt ht=>(ha t ht).trans (y t ht)⟩,hb,z,ho⟩;·rw[AQ c];exact h2
 rw[Ki (AP λt ht=>c t (by simp only[Item.fk,h1,ia];exact .inl ht))];exact h3
theorem AX{α:Type}{r:α->α->Prop}{R1 R2:List α}{i:α}(h:(R1++i::R2).Pairwise r):(∀x∈R1,r x i)/\(∀x∈R2,r i x)/\(R1++R2).Pairwise r:=by
 rw[RX] at h;obtain⟨h1,h2,h3⟩:=h;rw[R0] at h2;refine⟨λx hx=>h3 x hx i (j5 ..),h2.1,?_⟩;rw[RX];exact⟨h1,h2.2,λx hx y c=>h3 x hx y (hU _ c)⟩
theorem Core.catch{N:Nat}{ops:Array cu}{d:jB}{S:DS P N ops d}{h:Hd}{β0:Nat->aB}{w0:aq}{fr':Fr}{H':CH}{β:Nat->aB}{fr:Fr}{H:CH}{R1 R2:List Nat}{i b:Nat}{bi:List (Nat×Nat)}{l:List CH}{m:Nat}{a:Act}{w:aq}
 (C:Core S B h β0 w0 fr' H' β fr H (R1++i::R2) bi l m a w) (hl:(i,b)∈bi) (Q : ∀x∈R1,bS (S.af x).op=false/\lE (S.af x).op=false) :
 ∃β2 aS H2 U,Core S B h β0 w0 fr' H' β2 aS H2 (R1++R2) U l m a w/\(∀p,p∈U↔p∈bi/\p.1≠i)/\U.length<bi.length:=by
 obtain⟨p1,p2,p3⟩:=AX C.u7;have hi:i<ops.size:=C.lt i Sm;have V:lE (S.af i).op=true:=(C.p7 _ hl).2;have W:bS (S.af i).op=false:=by cases bp:(S.af i).op<;>rw[bp] at V<;>first | rfl | cases V
 obtain⟨⟨x,cs,e,k,mk,cs',jb,sz,v',h1,h2,h3,h4,h5,h6,h7,h8,h9,oI,X,xA⟩,Y,N1,fN⟩:=C.HB _ hl;have aW:=C.run;rw[Ah,dG] at aW;obtain⟨aj,H1,l1,l2,g1,g2,rfl⟩:=Ov aW;obtain⟨rfl,rfl⟩:=TF (λy o=>by obtain⟨z,hz,rfl⟩:=List.mem_map.1 o;exact Q z hz) g1;have M : ∀z∈R1++R2,z≠i:=λz hz e=>by
  subst e;rcases List.mem_append.1 hz with hz | hz
  ·exact absurd (p1 z hz) (Nat.lt_irrefl _)
  exact absurd (p2 z hz) (Nat.lt_irrefl _)
 have Z : ∀z∈R1++R2,z<ops.size:=λz hz=>C.lt z (by rcases List.mem_append.1 hz with hz | hz<;>simp[hz]);have aiT : ∀z∈R1,¬ ∃q∈bi,q.1=z:=λz hz ⟨q,sg,AY⟩=>by
  have:=(C.p7 q sg).2;rw[AY,(Q z hz).2] at this;cases this
 have jK : ∀z∈R1,¬gN ops i z:=λz hz ha=>by
  rcases C.CL _ hl z ha with g | g
  ·exact g (by simp[hz])
  exact aiT z hz g
 have CN : ∀t∈(S.af i).fk,aj t=fr t:=λt ht=>by
  refine EO (λy o e=> ?_) g1;obtain⟨z,hz,rfl⟩:=List.mem_map.1 o;have F:=Z z (by simp[hz]);rcases S.d2 z i t F hi (M z (by simp[hz])) e ht with q | ⟨q,q'⟩
  ·exact jK z hz q
  rw[V] at q';cases q'
 have HC : ∀y∈R1.map S.af,∀t,(S.af i).dst=some t->t∉y.fk/\y.dst≠some t:=λy o t ht=>by
  obtain⟨z,hz,rfl⟩:=List.mem_map.1 o;have F:=Z z (by simp[hz]);refine⟨λhu=> ?_,λe=>M z (by simp[hz]) (S.dd _ _ t F hi e ht)⟩;rcases S.d2 i z t hi F (λe=>M z (by simp[hz]) e.symm) ht hu with q | ⟨q,_⟩
  ·exact absurd (S.yU _ _ F q).2 (by have:=p1 z hz;omega)
  exact jK z hz q
 have AZ : ∀f:Fr,(∀t∈(S.af i).fk,f t=fr t)->cE h (S.af i) f H1=some (bE f (S.af i).dst (fj mk H1.nx),H1.new (.cells cs e k)):=λf hf=>by
  have hw:dU f (S.af i).guard=some true:=by rw[AQ hf];exact h2
  have ha:da (aJ f) x=some (cs,e,k,mk):=by
   rw[Ki (AP λt ht=>hf t (by simp only[Item.fk,h1,ia];exact .inl ht))];exact h3
  simp only[cE,hw,h1,eg,ha,fg]
 have fG:=AZ aj CN;simp only[cF,fG,W,iV,iF] at g2;have g2':cF h (R2.map S.af) (bE aj (S.af i).dst (fj mk H1.nx)) (H1.new (.cells cs e k))=some (fr',H',l2):=by
  cases hz:cF h (R2.map S.af) (bE aj (S.af i).dst (fj mk H1.nx)) (H1.new (.cells cs e k)) with
  | none=>rw[hz] at g2;cases g2
  | some z=>obtain⟨v,z2,z3⟩:=z;rw[hz] at g2;simpa using g2
 have EQ:cF h ((R1++R2).map S.af) (bE fr (S.af i).dst (fj mk H1.nx)) (H1.new (.cells cs e k))=some (fr',H',[]++l2):=by
  rw[Ah];exact Ty (aah (aai C.AW _) (λy o=>by obtain⟨z,hz,rfl⟩:=List.mem_map.1 o;exact Q z hz) (Tw HC g1)) g2'
 obtain⟨q1,q2,q3⟩:=C.AW.aiR h6 Y fN h4 h5 h7 h8 h9 oI;have A : ∀p,p∈bi.filter (λp=>decide (p.1≠i))↔p∈bi/\p.1≠i:=λp=>by simp[List.mem_filter]
 refine⟨db β H1.nx (.live (b,0) sz cs'.size k),bE fr (S.af i).dst (fj mk H1.nx),H1.new (.cells cs e k),bi.filter (λp=>decide (p.1≠i)),?_,A,List.length_filter_lt_length_iff_exists.2 ⟨_,hl,Sm⟩⟩;have aiU : ∀p∈bi,p.1≠i->p.2≠b:=λp hp aA e=>by
  have key : ∀(L:List (Nat×Nat)),L.Pairwise (λp q=>p.1≠q.1/\p.2≠q.2)->p∈L->(i,b)∈L->False:=by
   intro L;induction L with
   | nil=>intro _ hp;cases hp
   | cons y L ih=>
     intro I hp Kq;rw[R0] at I;rcases List.mem_cons.1 hp with rfl | jL
     ·rcases List.mem_cons.1 Kq with e' | Ks
      ·exact aA (by rw[<-e'])
      exact(I.1 _ Ks).2 e
     rcases List.mem_cons.1 Kq with e' | Ks
     ·rw[<-e'] at I;exact(I.1 _ jL).2 e.symm
     exact ih I.2 jL Ks
  exact key bi C.Kl hp hl
 refine⟨Z,p3,λp hp=> ?_,λp hp=> ?_,C.Kl.filter _,λp hp j hj=> ?_,λp hp q Kt t ht=> ?_,EQ,q1,?_,C.size,λt=> ?_,λy o D=> ?_,C.mW,λy o D CQ z hz Ku=> ?_,λr hr s hs c1 c2 c3=> ?_⟩
 ·obtain⟨u,jL⟩:=(A p).1 hp;refine⟨?_,(C.p7 p u).2⟩;have:=(C.p7 p u).1;simp only[ia,ox] at this⊢
  rcases this with g | g | g
  ·exact .inl g
  ·exact absurd g jL
  exact .inr g
 ·obtain⟨u,jL⟩:=(A p).1 hp;refine(C.HB p u).cP q2 rfl (q3 _ (aiU p u jL) (C.HB p u).out) (λt ht=>AR λe=>C.Kn p u _ hl t e ht) (λt ht=>rfl)
 ·obtain⟨u,jL⟩:=(A p).1 hp;rcases C.CL p u j hj with g | ⟨q,sg,rfl⟩
  ·exact .inl λHD=>g (by rcases List.mem_append.1 HD with HD | HD<;>simp[HD])
  by_cases e:q.1=i
  ·refine .inl λHD=>M _ HD e
  exact .inr ⟨q,(A q).2 ⟨sg,e⟩,rfl⟩
 ·exact C.Kn p ((A p).1 hp).1 q ((A q).1 Kt).1 t ht
 ·refine⟨C.lC.os,C.lC.tape,C.lC.output,C.lC.size,λb' gL dM=> ?_,C.lC.ext.trans q2⟩;obtain⟨r1,r2⟩:=C.lC.cP b' gL dM;exact⟨r1,q3 b' Om r2⟩
 ·by_cases O:(S.af i).dst=some t
  ·right;rw[O];simp only[bE,iT];rw[xA t O];cases mk with
   | ptr=>simp only[NY] at X;subst X;exact .ptr eu
   | sl n c=>
     obtain⟨c',rfl,v,z2,z3,z4,z5⟩:=X;exact .sl eu v z2 z3 (λ_=>by simpa using z4) z5
  rw[AR O];rcases C.fr t with ⟨p,u,jL⟩ | g
  ·left;refine⟨p,(A p).2 ⟨u,λe=>O (by rw[<-e];exact jL)⟩,jL⟩
  exact .inr (g.mono q2)
 ·have TG:y≠i:=λe=>by rw[e,W] at D;cases D
  rw[<-C.done y o D];simp only[ia,ox,TG,false_or]
 ·have TG:y≠i:=λe=>by rw[e,W] at D;cases D
  have:=C.past y o D (by simp only[ia,ox,TG,false_or] at CQ⊢;exact CQ) z hz Ku;intro g;exact this (by rcases List.mem_append.1 g with g | g<;>simp[g])
 obtain⟨G,v,z2⟩:=C.nJ r (by rcases List.mem_append.1 hr with hr | hr<;>simp[hr]) s hs c1 c2 c3;cases J:s-m with
 | zero=>
   rw[J] at v;simp only[fK,Option.some.injEq] at v⊢;subst v;exact⟨_,rfl,z2.fill (aai C.AW _)⟩
 | succ q=>
   rw[J] at v;simp only[fL] at v⊢;exact⟨G,v,z2⟩
def Ex (R:List Nat)(bi:List (Nat×Nat))(j:Nat):Prop:=j∉R\/∃q∈bi,q.1=j
section
variable {N:Nat} {ops:Array cu} {d:jB} {S:DS P N ops d} {h:Hd} {β0:Nat->aB} {w0:aq} {fr':Fr} {H':CH} {β:Nat->aB} {fr:Fr} {H:CH} {R:List Nat} {bi:List (Nat×Nat)} {l:List CH} {m:Nat} {a:Act} {w:aq}
theorem TH{R1 R2:List Nat}{i b:Nat}{n:List (Nat×Nat)}(s:i∉R1++R2)(hl:(i,b)∈bi)(o : ∀p,p∈n↔p∈bi/\p.1≠i)(j:Nat):Ex (R1++R2) n j↔Ex (R1++i::R2) bi j:=by
 unfold Ex;by_cases e:j=i
 ·subst e;exact⟨λ_=> .inr ⟨_,hl,rfl⟩,λ_=> .inl s⟩
 constructor
 ·rintro(g | ⟨q,f,rfl⟩)
  ·refine .inl λc=>g ?_;simp only[ia,ox,e,false_or] at c⊢;exact c
  exact .inr ⟨q,((o q).1 f).1,rfl⟩
 rintro(g | ⟨q,f,rfl⟩)
 ·refine .inl λc=>g ?_;simp only[ia,ox,e,false_or] at c⊢;exact c
 exact .inr ⟨q,(o q).2 ⟨f,e⟩,rfl⟩
theorem Core.A0{R1 R2:List Nat}{i:Nat}(C:Core S B h β0 w0 fr' H' β fr H (R1++i::R2) bi l m a w):i∉R1++R2:=λc=>by
 obtain⟨e,f,_⟩:=AX C.u7;rcases List.mem_append.1 c with g | g
 ·exact absurd (e i g) (Nat.lt_irrefl _)
 exact absurd (f i g) (Nat.lt_irrefl _)
theorem Core.CR(C:Core S B h β0 w0 fr' H' β fr H R bi l m a w){x:Nat}(hx:bS (S.af x).op=true) : ¬ ∃q∈bi,q.1=x:=λ⟨q,c,e⟩=>by
 have:=(C.p7 q c).2;rw[e] at this;cases f:(S.af x).op<;>rw[f] at hx this<;>first | (cases hx;done) | (cases this;done)
theorem aaj{p:Nat->Bool} : ∀ {l:List Nat},(∃z∈l,p z=true)->∃c z l2,l=c++z::l2/\p z=true/\∀y∈c,p y=false
 | [],h=>by obtain⟨z,hz,_⟩:=h;cases hz
 | a::l,h=>by
   cases ha:p a with
   | true=>exact⟨[],a,l,rfl,ha,λy hy=>by cases hy⟩
   | false=>
     have : ∃z∈l,p z=true:=by
      obtain⟨z,hz,h2⟩:=h;rcases List.mem_cons.1 hz with rfl | hz
      ·rw[ha] at h2;cases h2
      exact⟨z,hz,h2⟩
     obtain⟨c,z,l2,rfl,h1,h2⟩:=aaj this;refine⟨a::c,z,l2,rfl,h1,λy hy=> ?_⟩;rcases List.mem_cons.1 hy with rfl | hy
     ·exact ha
     exact h2 y hy
theorem Core.feed : ∀(n:Nat) {β:Nat->aB} {fr:Fr} {H:CH} {R:List Nat} {bi:List (Nat×Nat)},bi.length<=n->∀(C:Core S B h β0 w0 fr' H' β fr H R bi l m a w) {i:Nat},i<ops.size->bS (S.af i).op=false->i∈R->(¬ ∃q∈bi,q.1=i)->(∀j,gN ops i j->Ex R bi j)->
 ∃β2 aS U R2 u,Core S B h β0 w0 fr' H' β2 aS U R2 u l m a w/\(∀j,Ex R2 u j↔Ex R bi j)/\i∈R2/\(∀q∈u,∀t,(S.af q.1).dst=some t->t∉(S.af i).fk):=by
 intro n;induction n with
 | zero=>
   intro β fr H R bi hn C i hi L c v o;have:bi= []:=List.length_eq_zero_iff.1 Om;subst this;exact⟨β,fr,H,R,[],C,λ_=>dS,c,λq f=>by cases f⟩
 | succ n ih=>
   intro β fr H R bi hn C i hi L c v o;by_cases hex : ∃q∈bi,∃t,(S.af q.1).dst=some t/\t∈(S.af i).fk
   ·obtain⟨⟨x,b⟩,f,t,ht,hu⟩:=hex;obtain⟨V,A⟩:=C.p7 _ f;simp only at V A ht;have hx:=C.lt x V;obtain⟨R1,R2,rfl⟩:=R4 V;have W:=S.s2 i x t hi hx L A ht hu;obtain⟨p1,p2,_⟩:=AX C.u7;have D : ∀z∈R1,bS (S.af z).op=false:=λz hz=>by
     have s:z∈R1++x::R2:=by simp[hz]
     have M:=C.lt z s;cases Kv:bS (S.af z).op with
     | false=>rfl
     | true=>
       rcases o z ((W z M (p1 z hz)).1 Kv) with g | g
       ·exact absurd s g
       exact absurd g (C.CR Kv)
    have X : ∀z∈R1,lE (S.af z).op=true->∃q∈bi,q.1=z:=λz hz F=>by
     have s:z∈R1++x::R2:=by simp[hz]
     have M:=C.lt z s;rcases(W z M (p1 z hz)).2 F with ⟨y,y1,Y,y3,y4⟩ | ha
     ·have O:y∉R1++x::R2:=by
       rcases o y ((W y y1 y4).1 Y) with g | g
       ·exact g
       exact absurd g (C.CR Y)
      exact absurd s (C.past y y1 Y O z M y3)
     rcases o z ha with g | g
     ·exact absurd s g
     exact g
    by_cases Kw : ∃z∈R1,lE (S.af z).op=true
    ·obtain⟨Q,z,Z,rfl,F,AD⟩:=aaj (p:=λz=>lE (S.af z).op) Kw;obtain⟨⟨z',b'⟩,Kt,ub⟩:=X z Sm F;simp only at ub;subst ub;have hRe:(Q++z'::Z)++x::R2=Q++z'::(Z++x::R2):=by simp
     rw[hRe] at C c o⊢
     have Kx : ∀y∈Q,bS (S.af y).op=false/\lE (S.af y).op=false:=λy O=>⟨D y (by simp[O]),AD y O⟩;obtain⟨β2,aS,U,u,C2,G,I⟩:=C.catch Kt Kx;have J:=λj=>TH (R1:=Q) (R2:=Z++x::R2) C.A0 Kt G j;have EB:i≠z':=λe=>v ⟨_,Kt,e.symm⟩;obtain⟨β3,ud,H3,R3,Ky,C3,e3,m3,f3⟩:=ih Om C2 hi L (by simp only[ia,ox,EB,false_or] at c⊢;exact c) (λ⟨q,q1,q2⟩=>v ⟨q,((G q).1 q1).1,q2⟩) (λj hj=>(J j).2 (o j hj));exact⟨β3,ud,H3,R3,Ky,C3,λj=>(e3 j).trans (J j),m3,f3⟩
    have Kx : ∀z∈R1,bS (S.af z).op=false/\lE (S.af z).op=false:=λz hz=>⟨D z hz,by
     cases F:lE (S.af z).op with
     | false=>rfl
     | true=>exact absurd ⟨z,hz,F⟩ Kw⟩
    obtain⟨β2,aS,U,u,C2,G,I⟩:=C.catch f Kx;have J:=λj=>TH (R1:=R1) (R2:=R2) C.A0 f G j;have EB:i≠x:=λe=>v ⟨_,f,e.symm⟩;obtain⟨β3,ud,H3,R3,Ky,C3,e3,m3,f3⟩:=ih Om C2 hi L (by simp only[ia,ox,EB,false_or] at c⊢;exact c) (λ⟨q,q1,q2⟩=>v ⟨q,((G q).1 q1).1,q2⟩) (λj hj=>(J j).2 (o j hj));exact⟨β3,ud,H3,R3,Ky,C3,λj=>(e3 j).trans (J j),m3,f3⟩
   exact⟨β,fr,H,R,bi,C,λ_=>dS,c,λq f t ht hu=>hex ⟨q,f,t,ht,hu⟩⟩
theorem Core.front : ∀(R1:List Nat) {R2:List Nat} {i:Nat} {β:Nat->aB} {fr:Fr} {H:CH} {bi:List (Nat×Nat)} (C:Core S B h β0 w0 fr' H' β fr H (R1++i::R2) bi l m a w),(∀x∈R1,∃q∈bi,q.1=x)->
 ∃β2 aS g c,Core S B h β0 w0 fr' H' β2 aS g (i::R2) c l m a w/\(∀j,Ex (i::R2) c j↔Ex (R1++i::R2) bi j)
 | [],R2,i,β,fr,H,bi,C,_=>⟨β,fr,H,bi,C,λ_=>dS⟩
 | x::R1,R2,i,β,fr,H,bi,C,hx=>by
   obtain⟨⟨x',b⟩,n,rfl⟩:=hx x (j5 ..);have f:Core S B h β0 w0 fr' H' β fr H ([]++x'::(R1++i::R2)) bi l m a w:=C;obtain⟨β2,aS,g,c,t,o,p⟩:=f.catch n (λz hz=>by cases hz);have u:=λj=>TH (R1:= []) (R2:=R1++i::R2) f.A0 n o j;have v:=f.A0;obtain⟨β3,y,A,D,F,G⟩:=Core.front R1 t (λz hz=>by
    obtain⟨q,I,s⟩:=hx z (hU _ hz);exact⟨q,(o q).2 ⟨I,λe=>v (by rw[<-e,s];simp[hz])⟩,s⟩)
   exact⟨β3,y,A,D,F,λj=>(G j).trans (u j)⟩
end
end
section
open Go Go.RowKit
variable {P:aY} {B:Nat}
section
variable {N:Nat} {ops:Array cu} {d:jB} {S:DS P N ops d} {h:Hd} {β0:Nat->aB} {w0:aq} {fr':Fr} {H':CH} {β:Nat->aB} {fr:Fr} {H:CH} {R:List Nat} {bi:List (Nat×Nat)} {l:List CH} {m:Nat} {a:Act} {w:aq}
open Classical in
noncomputable def patch(S:DS P N ops d)(bi:List (Nat×Nat))(fr:Fr):Fr:=λt=>if ∃q∈bi,(S.af q.1).dst=some t then undef else fr t
theorem Core.aak(C:Core S B h β0 w0 fr' H' β fr H R bi l m a w):FR β N (patch S bi fr) a:=by
 refine⟨C.size,λt=> ?_⟩;unfold patch;split;·exact .undef _
 rename_i hn;rcases C.fr t with g | g
 ·exact absurd g hn
 exact g
theorem aal{i:Nat}(c : ∀q∈bi,∀t,(S.af q.1).dst=some t->t∉(S.af i).fk) : ∀t∈(S.af i).fk,fr t=patch S bi fr t:=by
 intro t ht;unfold patch;rw[iN];rintro⟨q,f,e⟩;exact c q f t e ht
theorem Core.quiet(C:Core S B h β0 w0 fr' H' β fr H R bi l m a w){i:Nat}(hi:i<ops.size)(oK:i∈R)(aw : ¬ ∃q∈bi,q.1=i)(A:bS (S.af i).op=false)(CM:lE (S.af i).op=false\/dU fr (S.af i).guard=some false)
 (V : ∀j,gN ops i j->Ex R bi j) (A4 : ∀q∈bi,∀t,(S.af q.1).dst=some t->t∉(S.af i).fk) :
 ∃R1 R2 v,R=R1++i::R2/\cE h (S.af i) fr H=some (bE fr (S.af i).dst v,H)/\cF h ((R1++R2).map S.af) (bE fr (S.af i).dst v) H=some (fr',H',l):=by
 obtain⟨R1,R2,rfl⟩:=R4 oK;obtain⟨W,p2,p3⟩:=AX C.u7;have L : ∀z∈R1++R2,z≠i:=λz hz e=>C.A0 (e▸hz);have X : ∀z∈R1++R2,z<ops.size:=λz hz=>C.lt z (by rcases List.mem_append.1 hz with hz | hz<;>simp[hz]);have M : ∀z∈R1,z∈R1++i::R2:=λz hz=>by simp[hz]
 have Y : ∀z∈R1,gN ops i z->∃q∈bi,q.1=z:=λz hz ha=>by
  rcases V z ha with g | g
  ·exact absurd (M z hz) g
  exact g
 have aW:=C.run;rw[Ah,dG] at aW;obtain⟨aj,H1,l1,l2,g1,g2,rfl⟩:=Ov aW;have CN : ∀t∈(S.af i).fk,aj t=fr t:=λt ht=>by
  refine EO (λy c e=> ?_) g1;obtain⟨z,hz,rfl⟩:=List.mem_map.1 c;have n:=X z (by simp[hz]);rcases S.d2 z i t n hi (L z (by simp[hz])) e ht with q | ⟨q,_⟩
  ·obtain⟨D,F,I⟩:=Y z hz q;exact A4 D F t (by rw[I];exact e) ht
  exact absurd (S.yU _ _ n q).2 (by have:=W z hz;omega)
 have HC : ∀y∈R1.map S.af,∀t,(S.af i).dst=some t->t∉y.fk/\y.dst≠some t:=λy c t ht=>by
  obtain⟨z,hz,rfl⟩:=List.mem_map.1 c;have n:=X z (by simp[hz]);refine⟨λhu=> ?_,λe=>L z (by simp[hz]) (S.dd _ _ t n hi e ht)⟩;rcases S.d2 i z t hi n (λe=>L z (by simp[hz]) e.symm) ht hu with q | ⟨q,qa⟩
  ·exact absurd (S.yU _ _ n q).2 (by have:=W z hz;omega)
  obtain⟨D,F,I⟩:=Y z hz q;have:=(C.p7 D F).2;rw[I,qa] at this;cases this
 have yV:dU aj (S.af i).guard=dU fr (S.af i).guard:=AQ CN;simp only[cF] at g2;cases hs:cE h (S.af i) aj H1 with
 | none=>rw[hs] at g2;cases g2
 | some q=>
   obtain⟨f,K⟩:=q;rw[hs] at g2;simp only[A,iV,iF] at g2;have g3:cF h (R2.map S.af) f K=some (fr',H',l2):=by
    cases hz:cF h (R2.map S.af) f K with
    | none=>rw[hz] at g2;cases g2
    | some z=>obtain⟨Z,z2,z3⟩:=z;rw[hz] at g2;simpa using g2
   have fin : ∀v,f=bE aj (S.af i).dst v->K=H1->cE h (S.af i) fr H=some (bE fr (S.af i).dst v,H)->∃O Sx v,R1++i::R2=O++i::Sx/\cE h (S.af i) fr H=some (bE fr (S.af i).dst v,H)/\cF h ((O++Sx).map S.af) (bE fr (S.af i).dst v) H=some (fr',H',l1++l2):=by
    intro v e1 e2 e3;subst e1 e2;refine⟨R1,R2,v,rfl,e3,?_⟩;rw[Ah];exact Ty (Tw HC g1) g3
   simp only[cE] at hs;cases hw:dU fr (S.af i).guard with
   | none=>rw[yV,hw] at hs;cases hs
   | some b=>
     rw[yV,hw] at hs;cases b with
     | false=>
       simp only[Option.some.injEq,Prod.mk.injEq] at hs;exact fin kD hs.1.symm hs.2.symm (by simp only[cE,hw])
     | true=>
       have hA:lE (S.af i).op=false:=by
        rcases CM with g | g
        ·exact g
        rw[hw] at g;cases g
       simp only at hs;cases o:(S.af i).op with
       | a x=>rw[o] at hA;cases hA
       | w x=>rw[o] at A;cases A
       | call f a=>rw[o] at A;cases A
       | pv f a=>rw[o] at A;cases A
       | p x=>
         rw[o] at hs;simp only[eg] at hs;cases hp:pop (aJ aj) x with
         | none=>rw[hp] at hs;cases hs
         | some u=>
           rw[hp] at hs;simp only[fg,Option.some.injEq,Prod.mk.injEq] at hs;have jL:pop (aJ fr) x=some u:=by
            rw[<-hp];exact aad (AP λt ht=>(CN t (by simp only[Item.fk,o,ia];exact .inl ht)).symm)
           exact fin u hs.1.symm hs.2.symm (by simp only[cE,hw,o,eg,jL,fg])
       | l x=>
         rw[o] at hs;simp only[eg] at hs;cases hp:aD H1 (aJ aj) x with
         | none=>rw[hp] at hs;cases hs
         | some u=>
           rw[hp] at hs;simp only[fg,Option.some.injEq,Prod.mk.injEq] at hs;have Q : ∀(f:Fr) (G:CH),(∀t∈(S.af i).fk,f t=fr t)->aD G (aJ f) x=aD G (aJ fr) x:=λf G hf=>
            aae (AP λt ht=>hf t (by simp only[Item.fk,o,ia];exact .inl ht))
           have jL:aD H (aJ fr) x=some u:=by
            rcases S.rd i x hi o with aiV | ⟨c1,c2⟩
            ·have Kx : ∀z∈R1,bS (S.af z).op=false/\lE (S.af z).op=false:=λz hz=>by
              have n:=X z (by simp[hz]);obtain⟨s1,s2⟩:=aiV z n (W z hz);refine⟨?_,?_⟩
              ·cases Kv:bS (S.af z).op with
               | false=>rfl
               | true=>exact absurd (Y z hz (s1 Kv)) (C.CR Kv)
              cases ES:lE (S.af z).op with
              | false=>rfl
              | true=>
                rcases s2 ES with ⟨y,J,s,y3,y4⟩ | ⟨t,t1,t2⟩
                ·have c:y∉R1++i::R2:=by
                  rcases V y y4 with g | g
                  ·exact g
                  exact absurd g (C.CR s)
                 exact absurd (M z hz) (C.past y J s c z n y3)
                rcases S.d2 z i t n hi (L z (by simp[hz])) t1 t2 with q | ⟨q,_⟩
                ·obtain⟨D,F,I⟩:=Y z hz q;exact absurd t2 (A4 D F t (by rw[I];exact t1))
                exact absurd (S.yU _ _ n q).2 (by have:=W z hz;omega)
             obtain⟨e1,_⟩:=TF (λy c=>by obtain⟨z,hz,rfl⟩:=List.mem_map.1 c;exact Kx z hz) g1;rw[<-Q aj H CN,<-e1];exact hp
            have pD:S.lo i<=m:=by
             rcases yx m (S.lo i) with g | g
             ·obtain⟨y,J,s,y3,y4⟩:=S.lo1 i m hi g;have c:y∉R1++i::R2:=by
               rcases V y y4 with g | g
               ·exact g
               exact absurd g (C.CR s)
              have:=(C.done y J s).1 c;omega
             exact g
            have U:m<=S.hi i:=by
             rcases yx (S.hi i) m with g | g
             ·obtain⟨y,J,s,y3⟩:=C.mW _ g;have c:y∉R1++i::R2:=(C.done y J s).2 Om;rcases S.u9 i y hi J s with q | q
              ·omega
              exact absurd oK (C.past y J s c i hi q)
             exact g
            obtain⟨G,Z,z2⟩:=C.nJ i oK m (c2 m pD U) pD U (al m);rw[Nat.sub_self] at Z;simp only[fK,Option.some.injEq] at Z;subst Z;have mu : ∀t∈(S.af i).fk,fr' t=fr t:=λt ht=>by
             refine EO (λy c e=> ?_) C.run;obtain⟨z,hz,rfl⟩:=List.mem_map.1 c;have n:=C.lt z hz;have ha:=c1 t z ht n e;rcases V z ha with g | ⟨D,F,I⟩
             ·exact g hz
             exact A4 D F t (by rw[I];exact e) ht
            have yW:dU fr' (S.af i).guard=some true:=by rw[AQ mu];exact hw
            rcases z2 with z2 | ⟨x',d',z2,z3,z4⟩
            ·rw[yW] at z2;cases z2
            rw[o] at z2;cases z2;rw[Q fr' H mu] at z4;rw[z4];have:fr' d'=u:=by
             rw[EO (t:=d') (λy c e=> ?_) g3,<-hs.1,z3];·simp[bE]
             obtain⟨z,hz,rfl⟩:=List.mem_map.1 c;exact L z (by simp[hz]) (S.dd _ _ d' (X z (by simp[hz])) hi e z3)
            rw[this]
           exact fin u hs.1.symm hs.2.symm (by simp only[cE,hw,o,eg,jL,fg])
end
end
section
open Go Go.RowKit
variable {P:aY} {B:Nat}
section
variable {N:Nat} {ops:Array cu} {d:jB} {S:DS P N ops d} {h:Hd} {β0:Nat->aB} {w0:aq} {fr':Fr} {H':CH} {β:Nat->aB} {fr:Fr} {H:CH} {R:List Nat} {bi:List (Nat×Nat)} {l:List CH} {m:Nat} {a:Act} {w:aq}
theorem AU.lt{N:Nat}{it:Item}{b:Nat}(h:AU P B N w0 β fr a w it b):b<w.heap.size:=by
 obtain⟨_,_,_,_,_,_,_,_,_,_,_,_,_,_,c,_⟩:=h.ex;exact(Array.getElem?_eq_some_iff.1 c).1
theorem TI{a:Act}{d:Option Nat}{v:ae}{t:Nat}(h:d≠some t):(a.put d v).tmps.getD t undef=a.tmps.getD t undef:=by
 cases d with
 | none=>rfl
 | some x=>
   have aA:x≠t:=λe=>h (by rw[e]);simp only[Act.put,ou,Yx aA]
theorem Core.aan(C:Core S B h β0 w0 fr' H' β fr H R bi l m a w){i:Nat}(hi:i<ops.size)(n:i∈R)(f : ¬ ∃q∈bi,q.1=i){β':Nat->aB}{w':aq}{v v':ae}(hx:eN β β')(hk : ∀b,b<w.heap.size->Out β b->w'.heap[b]? = w.heap[b]? /\Out β' b) :
 ∀p∈bi,AU P B N w0 β' (bE fr (S.af i).dst v) (a.put (S.af i).dst v') w' (S.af p.1) p.2:=λp hp=>by
 have c:=C.HB p hp;obtain⟨o,s⟩:=hk _ c.lt c.out;obtain⟨u,x⟩:=C.p7 p hp;have j:=C.lt _ u;have aA:p.1≠i:=λe=>f ⟨p,hp,e⟩;refine c.cP hx o s (λt ht=>AR λe=> ?_) (λt ht=>TI λe=>aA (S.dd _ _ t j hi ht e));rcases S.d2 i p.1 t hi j aA.symm e ht with q | ⟨_,q⟩
 ·rcases C.CL p hp i q with g | g
  ·exact g n
  exact f g
 rw[x] at q;cases q
theorem Core.aao(C:Core S B h β0 w0 fr' H' β fr H R bi l m a w){i:Nat}{β':Nat->aB}{v:ae}{a':Act}(c:FR β' N (bE (patch S bi fr) (S.af i).dst v) a') :
 ∀t,(∃p∈bi,(S.af p.1).dst=some t)\/VR β' (bE fr (S.af i).dst v t) (a'.tmps.getD t undef):=λt=>by
 by_cases hl : ∃p∈bi,(S.af p.1).dst=some t
 ·exact .inl hl
 right;have:=c.2 t;by_cases e:(S.af i).dst=some t
 ·rw[e] at this⊢
  simpa only[bE,iT] using this
 rw[AR e] at this⊢;unfold patch at this;rwa [iN hl] at this
theorem Core.aiW{R1 R2:List Nat}{i:Nat}(C:Core S B h β0 w0 fr' H' β fr H (R1++i::R2) bi l m a w)(t : ¬ ∃q∈bi,q.1=i)(x:bS (S.af i).op=false){v v':ae}{β':Nat->aB}{w':aq}
 (A:cF h ((R1++R2).map S.af) (bE fr (S.af i).dst v) H=some (fr',H',l)) (D:aE P B β' H w') (hE:bB β w β' w') (u:FR β' N (bE (patch S bi fr) (S.af i).dst v) (a.put (S.af i).dst v')) :
 Core S B h β0 w0 fr' H' β' (bE fr (S.af i).dst v) H (R1++R2) bi l m (a.put (S.af i).dst v') w':=by
 obtain⟨Q,U,F⟩:=AX C.u7;have hi:i<ops.size:=C.lt i Sm;have sub : ∀z,z∈R1++R2->z∈R1++i::R2:=λz hz=>by rcases List.mem_append.1 hz with hz | hz<;>simp[hz]
 have c : ∀z,z≠i->(z∈R1++R2↔z∈R1++i::R2):=λz hz=>by simp only[ia,ox,hz,false_or]
 have n : ∀y,bS (S.af y).op=true->y≠i:=λy f e=>by rw[e,x] at f;cases f
 refine⟨λz hz=>C.lt z (sub z hz),F,λp hp=> ?_,C.aan hi Sm t hE.ext hE.cP,C.Kl,λp hp j G=> ?_,C.Kn,A,D,C.lC.trans hE,u.1,C.aao u,λy f o=> ?_,C.mW,λy f o I z hz J g=> ?_,λr L s hs M O c3=>C.nJ r (sub r L) s hs M O c3⟩;·exact⟨(c _ λe=>t ⟨p,hp,e⟩).2 (C.p7 p hp).1,(C.p7 p hp).2⟩
 ·rcases C.CL p hp j G with g | g
  ·exact .inl λq=>g (sub _ q)
  exact .inr g
 ·rw[<-C.done y f o,c y (n y o)]
 exact C.past y f o (λq=>I ((c y (n y o)).2 q)) z hz J (sub z g)
theorem Core.aiX{i:Nat}(C:Core S B h β0 w0 fr' H' β fr H R bi l m a w)(hi:i<ops.size)(s:i∈R)(n : ¬ ∃q∈bi,q.1=i)(u:lE (S.af i).op=true)(x : ∀j,gN ops i j->Ex R bi j)(y : ∀q∈bi,∀t,(S.af q.1).dst=some t->t∉(S.af i).fk)
 {v':ae} {w':aq} {o:Obj} (hw:w'.heap=w.heap.push o) (z:w'.os=w.os) (A:w'.tape=w.tape) (D:w'.output=w.output) (L : ∀t,(S.af i).dst=some t->t<N) (f:AU P B N w0 β fr (a.put (S.af i).dst v') w' (S.af i) w.heap.size) :
 Core S B h β0 w0 fr' H' β fr H R ((i,w.heap.size)::bi) l m (a.put (S.af i).dst v') w':=by
 have c : ∀b,b<w.heap.size->Out β b->w'.heap[b]? = w.heap[b]? /\Out β b:=λb hb ho=>⟨by rw[hw,Gv,iN Om],ho⟩;have hE:bB β w β w':=⟨z,A,D,by rw[hw];simp,c,eN.refl β⟩;have F : ∀p∈bi,AU P B N w0 β fr (a.put (S.af i).dst v') w' (S.af p.1) p.2:=λp hp=>by
  have f:=C.HB p hp;obtain⟨G,I⟩:=c _ f.lt f.out;exact f.cP (eN.refl β) G I (λt ht=>rfl) (λt ht=>TI λe=>n ⟨p,hp,S.dd _ _ t (C.lt _ (C.p7 p hp).1) hi ht e⟩)
 refine⟨C.lt,C.u7,λp hp=> ?_,λp hp=> ?_,?_,λp hp j v=> ?_,λp hp q hq t ht=> ?_,C.run,C.AW.push hw,C.lC.trans hE,?_,λt=> ?_,C.done,C.mW,C.past,C.nJ⟩
 ·rcases List.mem_cons.1 hp with rfl | hp
  ·exact⟨s,u⟩
  exact C.p7 p hp
 ·rcases List.mem_cons.1 hp with rfl | hp
  ·exact f
  exact F p hp
 ·rw[R0];refine⟨λp hp=>⟨λe=>n ⟨p,hp,e.symm⟩,λe=> ?_⟩,C.Kl⟩;have:=(C.HB p hp).lt;simp only at e;omega
 ·have lift:Ex R bi j->j∉R\/∃q∈(i,w.heap.size)::bi,q.1=j:=by
   rintro(g | ⟨q,g1,g2⟩);·exact .inl g
   exact .inr ⟨q,hU _ g1,g2⟩
  rcases List.mem_cons.1 hp with rfl | hp
  ·exact lift (x j v)
  exact lift (C.CL p hp j v)
 ·rcases List.mem_cons.1 hp with rfl | hp<;>rcases List.mem_cons.1 hq with rfl | hq
  ·exact S.d2' _ t hi u ht
  ·exact y q hq t ht
  ·intro hu;have J:=(C.p7 p hp).1;rcases S.d2 i p.1 t hi (C.lt _ J) (λe=>n ⟨p,hp,e.symm⟩) ht hu with q | ⟨_,q⟩
   ·rcases C.CL p hp i q with g | g
    ·exact g s
    exact n g
   rw[(C.p7 p hp).2] at q;cases q
  exact C.Kn p hp q hq t ht
 ·have:=C.size;cases (S.af i).dst<;>simpa[Act.put] using this
 by_cases e:(S.af i).dst=some t
 ·exact .inl ⟨_,j5 ..,e⟩
 rw[TI e];rcases C.fr t with ⟨p,g1,g2⟩ | g
 ·exact .inl ⟨p,hU _ g1,g2⟩
 exact .inr g
theorem Core.lU{R2:List Nat}{i:Nat}(C:Core S B h β0 w0 fr' H' β fr H (i::R2) bi l m a w)(c:bS (S.af i).op=true)(n : ∀j,gN ops i j->Ex (i::R2) bi j):S.rk i=m:=by
 have hi:i<ops.size:=C.lt i Sm;have h1 : ¬S.rk i<m:=λg=>((C.done i hi c).2 g) Sm;rcases yx m (S.rk i) with g | g
 ·obtain⟨y,e,f,y3⟩:=S.rk2 i m hi c g;have hp:=S.rk1 y i e hi f c Om;rcases n y (S.d4 y i e hi c hp) with q | q
  ·have:=(C.done y e f).1 q;omega
  exact absurd q (C.CR f)
 omega
theorem Core.aiY{R2:List Nat}{i:Nat}(C:Core S B h β0 w0 fr' H' β fr H (i::R2) bi l m a w)(t:bS (S.af i).op=true)(F:S.rk i=m){v v':ae}{β':Nat->aB}{w':aq}{H1:CH}{l2:List CH}(hl:l=H1::l2)
 (I:cF h (R2.map S.af) (bE fr (S.af i).dst v) H1=some (fr',H',l2)) (J:aE P B β' H1 w') (hE:bB β w β' w') (A:FR β' N (bE (patch S bi fr) (S.af i).dst v) (a.put (S.af i).dst v')) :
 Core S B h β0 w0 fr' H' β' (bE fr (S.af i).dst v) H1 R2 bi l2 (m+1) (a.put (S.af i).dst v') w':=by
 have hi:i<ops.size:=C.lt i Sm;have D:=C.CR t;have f:=C.u7;rw[R0] at f;have c : ∀z,z≠i->(z∈R2↔z∈i::R2):=λz hz=>by simp only[ox,hz,false_or]
 have u:i∉R2:=λg=>absurd (f.1 i g) (Nat.lt_irrefl _);refine⟨λz hz=>C.lt z (hU _ hz),f.2,λp hp=> ?_,C.aan hi Sm D hE.ext hE.cP,C.Kl,λp hp j L=> ?_,C.Kn,I,J,C.lC.trans hE,A.1,C.aao A,λy n o=> ?_,λq W=> ?_,λy n o M z hz O g=> ?_,λr Q s hs U V c3=> ?_⟩;·exact⟨(c _ λe=>D ⟨p,hp,e⟩).2 (C.p7 p hp).1,(C.p7 p hp).2⟩
 ·rcases C.CL p hp j L with g | g
  ·exact .inl λq=>g (hU _ q)
  exact .inr g
 ·by_cases e:y=i
  ·subst e;exact⟨λ_=>by omega,λ_=>u⟩
  rw[c y e,C.done y n o];constructor;·intro g;omega
  intro g;rcases yx (S.rk y) m with q | q
  ·exact q
  exact absurd (S.rk3 y i n hi o t Om) e
 ·by_cases e:q=m
  ·exact⟨i,hi,t,Om⟩
  exact C.mW q Om
 ·by_cases e:y=i
  ·subst e;have:=f.1 z g;omega
  exact C.past y n o (λq=>M ((c y e).2 q)) z hz O (hU _ g)
 obtain⟨G,x,z2⟩:=C.nJ r (hU _ Q) s hs U V Om;refine⟨G,?_,z2⟩;rw[hl] at x;rw[show s-m=(s-(m+1))+1 by omega,fL] at x;exact x
end
end
section
open Go Go.RowKit
variable {P:aY} {B:Nat}
section
variable {N:Nat} {ops:Array cu} {d:jB} {S:DS P N ops d} {h:Hd} {β0:Nat->aB} {w0:aq} {fr':Fr} {H':CH}
structure Inv(S:DS P N ops d)(B:Nat)(h:Hd)(β0:Nat->aB)(w0:aq)(fr':Fr)(H':CH)(df:List wV)(listed:Array Bool)(a:Act)(w:aq):Prop where
 core : ∃β fr H R bi l m,Core S B h β0 w0 fr' H' β fr H R bi l m a w/\∀j,j<ops.size->(listed.getD j false=true↔Ex R bi j)
 dc:DC ops listed
 size:listed.size=ops.size
 defers:a.defers=df
theorem aap{R1 R2:List Nat}{i:Nat}{bi:List (Nat×Nat)}(hn:i∉R1++R2)(j:Nat):Ex (R1++R2) bi j↔j=i\/Ex (R1++i::R2) bi j:=by
 unfold Ex;by_cases e:j=i
 ·subst e;exact⟨λ_=> .inl rfl,λ_=> .inl hn⟩
 simp only[ia,ox,e,false_or]
theorem HF{Q:Exit->Act->aq->Prop}{F:Fence}{n i:Nat}{K:Act->aq->Prop}{a:Act}{w:aq}{o:cu}(ho:ops[i]? = some o)(c : ∀f,F.fn f)
 (h1:NB o (yielded ops a.tmps)=true->o.wpIn F n P a w K Q) (h2:NB o (yielded ops a.tmps)=false->K (a.put o.dst undef) w):wpOpIn F n P ops Q i K a w:=by
 unfold wpOpIn;simp only[ho];cases hw:NB o (yielded ops a.tmps) with
 | true=>simp only[iT];exact h1 hw
 | false=>simp only[iV,iF];exact⟨λf _=>c f,h2 hw⟩
theorem Inv.step(hh:HS P B h){ro:Option Nat}{df:List wV}{listed:Array Bool}{a:Act}{w:aq}{Q:Exit->Act->aq->Prop}(I:Inv S B h β0 w0 fr' H' df listed a w){i:Nat}(hi:i∈Ag .any ops listed){K:Act->aq->Prop}
 (hK : ∀a' w',Inv S B h β0 w0 fr' H' df (listed.setIfInBounds i true) a' w'->K a' w'):wpOpIn (Fn ro) 0 P ops Q i K a w:=by
 obtain⟨β,fr,H,R,bi,l,m,C,hex⟩:=I.core;obtain⟨D,nF,HG⟩:=Kk hi;obtain⟨o,ho⟩ : ∃o,ops[i]? = some o:=⟨ops[i],by simp[D]⟩;have G:=S.ok i o ho;have Kz : ∀j,gN ops i j->listed.getD j false=true:=λj J=>Tz I.dc J HG;have OA : ∀j,gN ops i j->Ex R bi j:=λj J=>(hex j (S.yU i j D J).1).1 (Kz j J);have aiZ : ¬listed.getD i false=true:=λg=>by
  simp only[ou] at nF g;have:i<listed.size:=by rw[I.size];exact D
  rw[sQ this] at nF g;simp only[sR] at nF g;rw[g] at nF;cases nF
 have cG : ¬Ex R bi i:=λg=>aiZ ((hex i D).2 g);have oK:i∈R:=R5 λg=>cG (.inl g);have aw : ¬ ∃q∈bi,q.1=i:=λg=>cG (.inr g);have aN : ∀t,(S.af i).dst=some t->t<N:=λt ht=>G.lt t (by rw[<-G.dst];exact ht);have mU : ∀ {R':List Nat} {TM:List (Nat×Nat)},(∀j,Ex R' TM j↔j=i\/Ex R bi j)->∀j,j<ops.size->((listed.setIfInBounds i true).getD j false=true↔Ex R' TM j):=by
  intro R' TM hE j J;rw[AT,hE j,<-hex j J];constructor
  ·rintro(⟨e,_⟩ | g);·exact .inl e
   exact .inr g
  rintro(e | g);·exact .inl ⟨e,by rw[I.size];exact D⟩
  exact .inr g
 have Cx : ∀v',(a.put o.dst v').defers=df:=λv'=>by rw[<-I.defers];cases o.dst<;>rfl
 have close : ∀ {β2:Nat->aB} {c:Fr} {L:CH} {R2:List Nat} {s:List (Nat×Nat)} {O:List CH} {m2:Nat} {v':ae} {w':aq},Core S B h β0 w0 fr' H' β2 c L R2 s O m2 (a.put (S.af i).dst v') w'->(∀j,Ex R2 s j↔j=i\/Ex R bi j)->K (a.put o.dst v') w':=by
  intro β2 c L R2 s O m2 v' w' n hE;rw[G.dst] at n;exact hK _ _ ⟨⟨β2,c,L,R2,s,O,m2,n,mU hE⟩,aag I.dc hi,by simp[I.size],Cx v'⟩
 have act : ∀ {β2:Nat->aB} {c:Fr} {L H3:CH} {R2:List Nat} {s:List (Nat×Nat)} {O:List CH} {m2:Nat} {v:ae},Core S B h β0 w0 fr' H' β2 c L R2 s O m2 a w->
  (∀q∈s,∀t,(S.af q.1).dst=some t->t∉(S.af i).fk)->cE h (S.af i) c L=some (bE c (S.af i).dst v,H3)->
  (∀β' w' v',aE P B β' H3 w'->bB β2 w β' w'->FR β' N (bE (patch S s c) (S.af i).dst v) (a.put (S.af i).dst v')->K (a.put o.dst v') w')->wpOpIn (Fn ro) 0 P ops Q i K a w:=by
  intro β2 c L H3 R2 s O m2 v n A4 AZ hk;have am:=aal (S:=S) (bi:=s) (fr:=c) A4;obtain⟨u,e1,aL⟩:=EN (aS:=patch S s c) am AZ;have hpu:bE (patch S s c) (S.af i).dst u=bE (patch S s c) (S.af i).dst v:=by
   cases hd:(S.af i).dst with
   | none=>rfl
   | some t=>
     rw[hd] at e1;have:=congrFun e1 t;simp only[bE,iT] at this;rw[this]
  rw[hpu] at aL;have Y:=n.aak;have W:=aL;simp only[cE] at W;cases hw:dU (patch S s c) (S.af i).guard with
  | none=>rw[hw] at W;cases W
  | some b=>
    have xB:=EH G Y hw;rw[hw] at W;cases b with
    | true=>
      refine HF ho (λ_=>trivial) (λ_=> ?_) (λg=>by rw[xB] at g;cases g);refine Oa hh G n.AW Y hw W fun β' w' v' q1 F U=> ?_;rw[<-G.dst] at U;exact hk β' w' v' q1 F U
    | false=>
      refine HF ho (λ_=>trivial) (λg=>by rw[xB] at g;cases g) (λ_=> ?_);simp only[Option.some.injEq,Prod.mk.injEq] at W;obtain⟨z1,rfl⟩:=W;refine hk β2 w undef n.AW (bB.refl β2 w) ?_;rw[<-z1];exact Y.put aN .skip
 cases V:bS (S.af i).op with
 | true=>
   obtain⟨R1,R2,rfl⟩:=R4 oK;obtain⟨p1,p2,p3⟩:=AX C.u7;have pZ:=C.A0;obtain⟨β2,c,L,s,n,M⟩:=Core.front R1 C λx hx=>by
    have HE:x∈R1++i::R2:=by simp[hx]
    rcases OA x (S.d4 x i (C.lt x HE) D V (p1 x hx)) with g | g
    ·exact absurd HE g
    exact g
   have KA : ∀j,gN ops i j->Ex (i::R2) s j:=λj J=>(M j).2 (OA j J);have Z:=n.CR V;have aaq:=n.u7;rw[R0] at aaq;have X : ∀q∈s,∀t,(S.af q.1).dst=some t->t∉(S.af i).fk:=λq hq t ht hu=>by
    have hqR:=(n.p7 q hq).1;have aA:q.1≠i:=λe=>Z ⟨q,hq,e⟩;have AY:q.1∈R2:=by simpa[aA] using hqR
    rcases S.d2 q.1 i t (n.lt _ hqR) D aA ht hu with g | ⟨g,_⟩
    ·have:=(S.yU _ _ D g).2;have:=aaq.1 _ AY;omega
    rcases n.CL q hq i g with g | g
    ·exact g Sm
    exact Z g
   have A:=n.run;simp only[dG,cF] at A;cases hs:cE h (S.af i) c L with
   | none=>rw[hs] at A;cases A
   | some q=>
     obtain⟨f,H3⟩:=q;rw[hs] at A;obtain⟨v,rfl,_⟩:=EN (aS:=c) (λt _=>rfl) hs;simp only[V,iT] at A;cases hz:cF h (R2.map S.af) (bE c (S.af i).dst v) H3 with
     | none=>rw[hz] at A;cases A
     | some z=>
       obtain⟨z1,z2,O⟩:=z;rw[hz] at A;simp only[fg,Option.some.injEq,Prod.mk.injEq] at A;obtain⟨rfl,rfl,hl⟩:=A;refine act n X hs fun β' w' v' q1 F U=>close (n.aiY V (n.lU V KA) hl.symm hz q1 F U) λj=> ?_;have:=aap (R1:= []) (R2:=R2) (i:=i) (bi:=s) (λg=>pZ (by simp only[mR] at g;simp[g])) j;simp only[mR] at this;rw[this,M j]
 | false=>
   obtain⟨β2,c,L,R2,s,n,M,TN,X⟩:=C.feed bi.length (al _) D V oK aw OA;have EV : ¬Ex R2 s i:=λg=>cG ((M i).1 g);have Z : ¬ ∃q∈s,q.1=i:=λg=>EV (.inr g);have KA : ∀j,gN ops i j->Ex R2 s j:=λj J=>(M j).2 (OA j J);have viaQuiet:(lE (S.af i).op=false\/dU c (S.af i).guard=some false)->wpOpIn (Fn ro) 0 P ops Q i K a w:=by
    intro hA;obtain⟨Ra,Rb,v,rfl,AZ,A⟩:=n.quiet D TN Z V hA KA X;refine act n X AZ fun β' w' v' q1 F U=>close (n.aiW Z V A q1 F U) λj=> ?_;rw[aap n.A0 j,M j]
   cases hA:lE (S.af i).op with
   | false=>exact viaQuiet (.inl hA)
   | true=>
     obtain⟨Ra,Rb,aar⟩:=R4 TN;have KC:=n;rw[aar] at KC;obtain⟨p1,p2,p3⟩:=AX KC.u7;have pZ:=KC.A0;have A:=KC.run;rw[Ah,dG] at A;obtain⟨aj,H1,l1,O,g1,g2,_⟩:=Ov A;have CN : ∀t∈(S.af i).fk,aj t=c t:=λt ht=>by
      refine EO (λy hy e=> ?_) g1;obtain⟨z,hz,rfl⟩:=List.mem_map.1 hy;have A3:z∈Ra++i::Rb:=by simp[hz]
      have jp:=KC.lt z A3;rcases S.d2 z i t jp D (λe=>pZ (by rw[<-e];simp[hz])) e ht with q | ⟨_,q⟩
      ·rcases KA z q with g | ⟨q1,F,U⟩
       ·exact g (by rw[aar];exact A3)
       exact X q1 F t (by rw[U];exact e) ht
      rw[hA] at q;cases q
     simp only[cF] at g2;cases hs:cE h (S.af i) aj H1 with
     | none=>rw[hs] at g2;cases g2
     | some q=>
       simp only[cE] at hs;have yV:dU aj (S.af i).guard=dU c (S.af i).guard:=AQ CN;rw[yV] at hs;cases hw:dU c (S.af i).guard with
       | none=>rw[hw] at hs;cases hs
       | some b=>
         cases b with
         | false=>exact viaQuiet (.inr hw)
         | true=>
           rw[hw] at hs;simp only at hs;have aas:=G.op;cases bp:(S.af i).op with
           | a x=>
             rw[bp] at hs aas;simp only[eg] at hs;cases hp:da (aJ aj) x with
             | none=>rw[hp] at hs;cases hs
             | some u=>
               obtain⟨cs,e,k,mk⟩:=u;have hux : ∀t∈slotsOf x.bA,t∈(S.af i).fk:=λt ht=>by simp only[Item.fk,bp,ia];exact .inl ht
               have jL:da (aJ c) x=some (cs,e,k,mk):=by
                rw[<-hp];exact Ki (AP λt ht=>(CN t (hux t ht)).symm)
               have am:=aal (S:=S) (bi:=s) (fr:=c) X;have hp3:da (aJ (patch S s c)) x=some (cs,e,k,mk):=by
                rw[<-jL];exact Ki (AP λt ht=>(am t (hux t ht)).symm)
               have Y:=n.aak;have xB:=EH G Y (b:=true) (by rw[<-AQ am];exact hw);cases aas with
               | a Tf=>
                 obtain⟨hk,sz,eM,EQ⟩:=Tf β2 (aJ (patch S s c)) a.eval o cs e k mk rfl (λy hy=>Cz Y (G.bA y hy)) hp3;obtain⟨cs',jb,w',v',h1,h2,h3,h4,h5,h6,h7,h8,h9,oI⟩:=EQ w;refine HF ho (λ_=>trivial) (λ_=> ?_) (λg=>by rw[xB] at g;cases g);refine⟨λf _=>trivial,?_⟩;rw[show(Fn ro).round=ro from rfl,Oper.semAt_eq ro _ _ G.nodefer,h1];show K (a.put o.dst v') w';have hb:w'.heap[w.heap.size]? = some (.cells cs' e jb):=by rw[h2];simp
                 refine close (n.aiX D TN Z hA KA X h2 h3 h4 h5 aN ⟨⟨x,cs,e,k,mk,cs',jb,sz,v',bp,hw,jL,hk,eM,hb,h6,h7,h8,h9,oI,λt ht=> ?_⟩,n.AW.base,n.lC.size,λz hz=> ?_⟩) λj=> ?_;·rw[ht];have:t<a.tmps.size:=Nat.lt_of_lt_of_le (aN t ht) n.size;simp[Act.put,this]
                 ·have:=(tW n.AW hz).2;omega
                 unfold Ex;constructor
                 ·rintro(g | ⟨q,q1,F⟩);·exact .inr ((M j).1 (.inl g))
                  rcases List.mem_cons.1 q1 with rfl | q1
                  ·exact .inl F.symm
                  exact .inr ((M j).1 (.inr ⟨q,q1,F⟩))
                 rintro(e | g);·exact .inr ⟨_,j5 ..,e.symm⟩
                 rcases(M j).2 g with g | ⟨q,q1,F⟩
                 ·exact .inl g
                 exact .inr ⟨q,hU _ q1,F⟩
           | _=>rw[bp] at hA;cases hA
theorem Core.all : ∀(R:List Nat) {β:Nat->aB} {fr:Fr} {H:CH} {bi:List (Nat×Nat)} {l:List CH} {m:Nat} {a:Act} {w:aq} (C:Core S B h β0 w0 fr' H' β fr H R bi l m a w),(∀x∈R,∃q∈bi,q.1=x)->
 ∃β2,aE P B β2 H' w/\bB β0 w0 β2 w/\FR β2 N fr' a
 | [],β,fr,H,bi,l,m,a,w,C,_=>by
   have c:=C.run;simp only[List.map_nil,cF,Option.some.injEq,Prod.mk.injEq] at c;obtain⟨rfl,rfl,_⟩:=c;refine⟨β,C.AW,C.lC,C.size,λt=> ?_⟩;rcases C.fr t with ⟨p,hp,_⟩ | g
   ·have:=(C.p7 p hp).1;cases this
   exact g
 | x::R,β,fr,H,bi,l,m,a,w,C,hx=>by
   obtain⟨⟨x',b⟩,j,rfl⟩:=hx x (j5 ..);have f:Core S B h β0 w0 fr' H' β fr H ([]++x'::R) bi l m a w:=C;obtain⟨β2,v,y,A,n,o,_⟩:=f.catch j (λz hz=>by cases hz);have s:=f.A0;exact Core.all R n λz hz=>by
    obtain⟨q,u,i⟩:=hx z (hU _ hz);exact⟨q,(o q).2 ⟨u,λe=>s (by rw[<-e,i];simpa using hz)⟩,i⟩
def lT (k:Nat)(listed:Array Bool):Nat:=((lQ k).filter λj=> !listed.getD j false).length
theorem aat{listed:Array Bool}{i:Nat}(hi:i<ops.size)(hs:listed.size=ops.size)(hu:listed.getD i false=false):lT ops.size (listed.setIfInBounds i true)<lT ops.size listed:=by
 unfold lT;have:(lQ ops.size).filter (λj=> !(listed.setIfInBounds i true).getD j false)=((lQ ops.size).filter λj=> !listed.getD j false).filter (λj=>decide (j≠i)):=by
  rw[List.filter_filter];apply List.filter_congr;intro j c;by_cases e:j=i
  ·subst e;have:(listed.setIfInBounds j true).getD j false=true:=AT.2 (.inl ⟨rfl,Om⟩);simp[this]
  have:(listed.setIfInBounds i true).getD j false=listed.getD j false:=by
   cases hb:listed.getD j false with
   | true=>exact AT.2 (.inr hb)
   | false=>
     cases hc:(listed.setIfInBounds i true).getD j false with
     | false=>rfl
     | true=>
       rcases AT.1 hc with ⟨g,_⟩ | g
       ·exact absurd g e
       rw[hb] at g;cases g
  simp[this,e]
 rw[this];exact List.length_filter_lt_length_iff_exists.2 ⟨i,by simp[hi];exact by simpa using hu,Sm⟩
theorem Inv.sound(hh:HS P B h){ro:Option Nat}{df:List wV}{Q:Exit->Act->aq->Prop}(v : ∀β' w' a',aE P B β' H' w'->bB β0 w0 β' w'->FR β' N fr' a'->a'.defers=df->Q .normal a' w') : ∀(fuel:Nat) (listed:Array Bool) (a:Act) (w:aq),
 lT ops.size listed<=fuel->Inv S B h β0 w0 fr' H' df listed a w->wpAnyIn (Fn ro) 0 P .any ops Q fuel listed a w:=by
 have t : ∀(listed:Array Bool) (a:Act) (w:aq),Inv S B h β0 w0 fr' H' df listed a w->(∀j,j<ops.size->listed.getD j false=true)->Q .normal a w:=by
  intro listed a w I f;obtain⟨β,fr,H,R,bi,l,m,C,hex⟩:=I.core;obtain⟨β2,h1,h2,h3⟩:=Core.all R C λx hx=>by
   rcases(hex x (C.lt x hx)).1 (f x (C.lt x hx)) with g | g
   ·exact absurd hx g
   exact g
  exact v β2 w a h1 h2 h3 I.defers
 have o : ∀(listed:Array Bool),listed.size=ops.size->Ag .any ops listed= []->∀j,j<ops.size->listed.getD j false=true:=by
  intro listed hs q j s;apply R5;intro hn;have : ∃p,∃j,j<ops.size/\¬listed.getD j false=true/\S.pos j=p:=⟨_,j,s,hn,rfl⟩;obtain⟨p,⟨x,n,u,G⟩,y⟩:=J5 this;have hx:x∈Ag .any ops listed:=by
   unfold Ag;refine List.mem_filter.2 ⟨List.mem_range.2 n,?_⟩;have c:x<listed.size:=by omega
   have z:listed.getD x true=false:=by
    simp only[ou,sQ c,sR] at u⊢
    simpa using u
   rw[z];simp only[Ny,Bool.true_and];rw[sQ n];simp only[fg,sR];rw[arC];intro e he;cases hb:GI .any e with
   | false=>rfl
   | true=>
     simp only[Bool.not_true,Bool.false_or];obtain⟨A,J⟩:=S.yU x e.on n (.Kj (sQ n) (by simpa using he) hb);apply R5;intro g;have:=y _ ⟨e.on,A,g,rfl⟩;omega
  rw[q] at hx;cases hx
 intro fuel;induction fuel with
 | zero=>
   intro listed a w hc I;have hz:lT ops.size listed=0:=by omega
   have f : ∀j,j<ops.size->listed.getD j false=true:=λj s=>by
    unfold lT at hz;have:=List.length_eq_zero_iff.1 hz;rw[List.filter_eq_nil_iff] at this;simpa using this j (List.mem_range.2 s)
   refine⟨?_,t listed a w I f⟩;apply List.eq_nil_iff_forall_not_mem.2;intro x hx;obtain⟨h1,h2,_⟩:=Kk hx;have:=f x h1;have c:x<listed.size:=by rw[I.size];exact h1
   simp only[ou,sQ c,sR] at h2 this;rw[this] at h2;cases h2
 | succ fuel D=>
   intro listed a w hc I;refine⟨λq=>t listed a w I (o listed I.size q),λi hi=>I.step hh hi λa' w' F=>D _ a' w' ?_ F⟩;obtain⟨h1,h2,_⟩:=Kk hi;have c:i<listed.size:=by rw[I.size];exact h1
   have:listed.getD i false=false:=by
    simp only[ou,sQ c,sR] at h2⊢;exact h2
   have:=aat h1 I.size this;omega
end
theorem aau{h:Hd} : ∀ {R S:List Item} {fr aS:Fr} {H e:CH},cT h (R++S) fr H=some (aS,e)->∃aj H1,cT h R fr H=some (aj,H1)/\cT h S aj H1=some (aS,e)
 | [],S,fr,aS,H,e,c=>⟨fr,H,rfl,c⟩
 | x::R,S,fr,aS,H,e,c=>by
   simp only[jU,cT] at c;cases hs:cE h x fr H with
   | none=>rw[hs] at c;cases c
   | some q=>
     rw[hs] at c;obtain⟨aj,H1,h1,h2⟩:=aau c;exact⟨aj,H1,by simp only[cT,hs];exact h1,h2⟩
theorem aav{h:Hd} : ∀ {R S:List Item} {fr aj aS:Fr} {H H1 c:CH},cT h R fr H=some (aj,H1)->cT h S aj H1=some (aS,c)->cT h (R++S) fr H=some (aS,c)
 | [],S,fr,aj,aS,H,H1,c,h1,h2=>by simp only[cT,Option.some.injEq,Prod.mk.injEq] at h1;obtain⟨rfl,rfl⟩:=h1;exact h2
 | x::R,S,fr,aj,aS,H,H1,c,h1,h2=>by
   simp only[jU,cT] at h1⊢
   cases hs:cE h x fr H with
   | none=>rw[hs] at h1;cases h1
   | some q=>rw[hs] at h1;exact aav h1 h2
theorem HI{h:Hd}{t:Nat} : ∀ {R:List Item} {fr aj:Fr} {H H1:CH},(∀x∈R,x.dst≠some t)->cT h R fr H=some (aj,H1)->aj t=fr t
 | [],fr,aj,H,H1,_,c=>by simp only[cT,Option.some.injEq,Prod.mk.injEq] at c;obtain⟨rfl,rfl⟩:=c;rfl
 | x::R,fr,aj,H,H1,hx,c=>by
   simp only[cT] at c;cases hs:cE h x fr H with
   | none=>rw[hs] at c;cases c
   | some q=>
     obtain⟨f,K⟩:=q;rw[hs] at c;obtain⟨u,rfl,_⟩:=EN (aS:=fr) (λt _=>rfl) hs;rw[HI (λy e=>hx y (hU _ e)) c,AR (hx x (j5 ..))]
theorem A6{it:Item}:(mV it).dst=it.dst:=by unfold mV;split<;>rfl
theorem ai1{it:Item}:(mV it).guard=it.guard:=by unfold mV;split<;>rfl
theorem ai2{it:Item}{t:Nat}(h:t∈(mV it).fk):t∈it.fk:=by
 unfold mV at h;split at h
 ·simp only[Item.fk,ia] at h⊢
  rcases h with h | h
  ·simp[gu.bA,dJ.bA,slotsOf] at h
  exact .inr h
 exact h
theorem TO{it:Item}(h:qK it.op=true):mV it=it:=by
 unfold mV;split;·rename_i e;rw[e] at h;cases h
 rfl
theorem ai3{N:Nat}{ops:Array cu}{ro:Option Nat}{o:cu}{it:Item}(c:xr P N ops o it){β:Nat->aB}{fr:Fr}{H:CH}{a:Act}{w:aq}(i:aE P B β H w)(g:FR β N fr a){e:aI}{z:List ae}(j:it.op= .a (.new e z)){K:Act->aq->Prop}{Q:Exit->Act->aq->Prop}
 (n : ∀w' v',aE P B β H w'->bB β w β w'->FR β N (bE fr it.dst undef) (a.put o.dst v')->K (a.put o.dst v') w'):o.wpIn (Fn ro) 0 P a w K Q:=by
 refine⟨λf _=>trivial,?_⟩;rw[show(Fn ro).round=ro from rfl,Oper.semAt_eq ro _ _ c.nodefer];have hv : ∀x∈o.op.operands,VR β (aJ fr x) (a.eval x):=λx hx=>Cz g (c.bA x hx);have hd : ∀x,it.dst=some x->x<N:=λx hx=>c.lt x (by rw[<-c.dst];exact hx);have h:=c.op;rw[j] at h;cases h with
 | a ha=>
   obtain⟨hk,sz,u,q⟩:=ha β _ _ o z e .ex .ptr rfl hv rfl;obtain⟨cs',jb,w',v',h1,h2,h3,h4,h5,_⟩:=q w;have s:=i.push h2;have t:bB β w β w':=⟨h3,h4,h5,by rw[h2];simp,λb hb ho=>⟨by rw[h2,Gv,iN Om],ho⟩,eN.refl β⟩;rw[h1];exact n w' v' s t (by rw[<-c.dst];exact g.put hd (.undef _))
theorem aaw{h:Hd}{x:Item}(e:qK x.op=true){fr aj:Fr}{H H1:CH}(hs:cE h x fr H=some (aj,H1)):H1=H:=by
 simp only[cE] at hs;split at hs
 ·cases c:x.op with
  | p y=>rw[c] at hs;simp only[eg] at hs;cases hp:pop (aJ fr) y<;>rw[hp] at hs<;>simp at hs;exact hs.2.symm
  | l y=>rw[c] at hs;simp only[eg] at hs;cases hp:aD H (aJ fr) y<;>rw[hp] at hs<;>simp at hs;exact hs.2.symm
  | _=>rw[c] at e;cases e
 ·cases hs;rfl
 cases hs
theorem OB{h:Hd} : ∀ {R:List Item} {fr aj:Fr} {H H1:CH},(∀x∈R,qK x.op=true)->cT h R fr H=some (aj,H1)->H1=H
 | [],fr,aj,H,H1,_,c=>by simp only[cT,Option.some.injEq,Prod.mk.injEq] at c;exact c.2.symm
 | x::R,fr,aj,H,H1,hx,c=>by
   simp only[cT] at c;cases hs:cE h x fr H with
   | none=>rw[hs] at c;cases c
   | some q=>
     obtain⟨f,K⟩:=q;rw[hs] at c;rw[OB (λy e=>hx y (hU _ e)) c,aaw (hx x (j5 ..)) hs]
section
variable {N:Nat} {ops:Array cu} {d:jB} {S:DS P N ops d} {h:Hd} {β0:Nat->aB} {w0:aq} {H:CH} {TA:List Nat}
open Classical in
noncomputable def oM(S:DS P N ops d)(TA:List Nat)(listed:Array Bool)(fr f1:Fr):Fr:=λt=>if ∃j∈TA,listed.getD j false=true/\(S.af j).dst=some t then f1 t else fr t
structure TQ(S:DS P N ops d)(B:Nat)(β0:Nat->aB)(w0:aq)(H:CH)(TA:List Nat)(fr f1:Fr)(df:List wV)(listed:Array Bool)(a:Act)(w:aq):Prop where
 core : ∃β,aE P B β H w/\bB β0 w0 β w/\FR β N (oM S TA listed fr f1) a
 dc:DC ops listed
 size:listed.size=ops.size
 defers:a.defers=df
theorem ai4(listed:Array Bool)(hs:listed.size=ops.size)(S:DS P N ops d)(i:Ag .any ops listed= []) : ∀j,j<ops.size->listed.getD j false=true:=by
 intro j n;apply R5;intro hn;have : ∃p,∃j,j<ops.size/\¬listed.getD j false=true/\S.pos j=p:=⟨_,j,n,hn,rfl⟩;obtain⟨p,⟨x,c,f,u⟩,o⟩:=J5 this;have hx:x∈Ag .any ops listed:=by
  unfold Ag;refine List.mem_filter.2 ⟨List.mem_range.2 c,?_⟩;have q:x<listed.size:=by omega
  have s:listed.getD x true=false:=by
   simp only[ou,sQ q,sR] at f⊢
   simpa using f
  rw[s];simp only[Ny,Bool.true_and];rw[sQ c];simp only[fg,sR];rw[arC];intro e he;cases hb:GI .any e with
  | false=>rfl
  | true=>
    simp only[Bool.not_true,Bool.false_or];obtain⟨t,v⟩:=S.yU x e.on c (.Kj (sQ c) (by simpa using he) hb);apply R5;intro g;have:=o _ ⟨e.on,t,g,rfl⟩;omega
 rw[i] at hx;cases hx
theorem TQ.sound(hh:HS P B h){ro:Option Nat}{df:List wV}{Q:Exit->Act->aq->Prop}{fr f1:Fr}{k:Nat}{f:aU}{args:List au}{v:ae}{H':CH}(xn:k<ops.size)(Z : ∀j∈TA,j<ops.size)(A5:TA.Pairwise (λa b=>S.pos a<S.pos b))(hA : ∀x∈TA,qK (mV (S.af x)).op=true)(hk:(S.af k).op= .call f args)(jA : ∀b,b<ops.size->b∈TA\/b=k\/gN ops b k)
 (A4 : ∀j∈TA,∀t,(S.af j).dst=some t->t∈(S.af k).fk->gN ops k j) (aW:cT h (TA.map λi=>mV (S.af i)) fr H=some (f1,H)) (hw:dU f1 (S.af k).guard=some true) (hp:CC P B f (args.map (aJ f1)) H v H')
 (hQ : ∀β' w' a' v',aE P B β' H' w'->bB β0 w0 β' w'->VR β' v v'->a'.defers=df->(∀t,(∀j∈TA,(S.af j).dst≠some t)->VR β' (fr t) (a'.tmps.getD t undef))->Q (.panic [{ v:=v',recovered:=false }]) a' w') : ∀(fuel:Nat) (listed:Array Bool) (a:Act) (w:aq),
 lT ops.size listed<=fuel->listed.getD k false=false->TQ S B β0 w0 H TA fr f1 df listed a w->wpAnyIn (Fn ro) 0 P .any ops Q fuel listed a w:=by
 have hkW:bS (S.af k).op=true:=by rw[hk];rfl
 have Hb : ∀listed:Array Bool,listed.size=ops.size->listed.getD k false=false->Ag .any ops listed= []->False:=λlisted hs hl hr=>by
  have:=ai4 listed hs S hr k xn;rw[hl] at this;cases this
 intro fuel;induction fuel with
 | zero=>
   intro listed a w hc hl I;have hz:lT ops.size listed=0:=by omega
   unfold lT at hz;have:=List.length_eq_zero_iff.1 hz;rw[List.filter_eq_nil_iff] at this;have:=this k (List.mem_range.2 xn);rw[hl] at this;exact absurd rfl this
 | succ fuel ih=>
   intro listed a w hc hl I;refine⟨λhr=>(Hb listed I.size hl hr).elim,λi hi=> ?_⟩;obtain⟨A,nF,HG⟩:=Kk hi;obtain⟨β,hS,hE,C⟩:=I.core;have pu:i<listed.size:=by rw[I.size];exact A
   have wy:listed.getD i false=false:=by
    simp only[ou,sQ pu,sR] at nF⊢;exact nF
   have Kz : ∀j,gN ops i j->listed.getD j false=true:=λj hj=>Tz I.dc hj HG;obtain⟨o,ho⟩ : ∃o,ops[i]? = some o:=⟨ops[i],by simp[A]⟩;have n:=S.ok i o ho;have arQ:=aat A I.size wy;rcases jA i A with wz | wz | wz
   ·
    obtain⟨A1,A2,OC⟩:=R4 wz;have aA:i≠k:=λe=>by have:=hA i wz;rw[e] at this;unfold mV at this;rw[hk] at this;simp only[hk] at this;cases this
    have M:=aW;rw[OC,Ah,dG] at M;obtain⟨g,Hg,r1,r2⟩:=aau M;have KD : ∀x∈A1,x∈TA:=λx hx=>by rw[OC];simp[hx]
    have O : ∀x∈A2,x∈TA:=λx hx=>by rw[OC];simp[hx]
    have hHg:Hg=H:=OB (λx hx=>by obtain⟨z,hz,rfl⟩:=List.mem_map.1 hx;exact hA z (KD z hz)) r1;subst hHg;have U:=A5;rw[OC] at U;obtain⟨u1,u2,u3⟩:=AX U;simp only[cT] at r2;cases hs:cE h (mV (S.af i)) g Hg with
    | none=>rw[hs] at r2;cases r2
    | some q=>
      obtain⟨gf,K⟩:=q;rw[hs] at r2;simp only at r2;have hK:=aaw (hA i wz) hs;subst hK;obtain⟨u,rfl,_⟩:=EN (aS:=g) (λt _=>rfl) hs;have am : ∀t∈(mV (S.af i)).fk,g t=oM S TA listed fr f1 t:=λt J=>by
       have J:=ai2 J;unfold oM;split
       ·rename_i hex;obtain⟨j,D,F,s⟩:=hex;have wA:j≠i:=λe=>by rw[e,wy] at F;cases F
        have fX:=Z j D;rcases S.d2 j i t fX A wA s J with q | ⟨q,_⟩
        ·have yZ:=(S.yU _ _ A q).2;have V:f1 t=bE g (mV (S.af i)).dst u t:=HI (λy G e=>by
          obtain⟨z,hz,rfl⟩:=List.mem_map.1 G;rw[A6] at e;have jp:=Z z (O z hz);have:=S.dd j z t fX jp s e;subst this;have:=u2 j hz;omega) r2
         rw[V,A6,AR λe=>wA (S.dd j i t fX A s e)]
        have:=I.dc j i F q;rw[wy] at this;cases this
       rename_i hn;refine HI (λy G e=> ?_) r1;obtain⟨z,hz,rfl⟩:=List.mem_map.1 G;rw[A6] at e;have jp:=Z z (KD z hz);have hzi:z≠i:=λe'=>by have:=u1 z hz;rw[e'] at this;omega
       rcases S.d2 z i t jp A hzi e J with q | ⟨q,_⟩
       ·exact hn ⟨z,KD z hz,Kz z q,e⟩
       have:=(S.yU _ _ jp q).2;have:=u1 z hz;omega
      obtain⟨v1,V,aL⟩:=EN (aS:=oM S TA listed fr f1) am hs;have kF : ∀t,(S.af i).dst=some t->f1 t=v1:=λt hd=>by
       rw[HI (t:=t) (λy G e=>by
        obtain⟨z,hz,rfl⟩:=List.mem_map.1 G;rw[A6] at e;have:=S.dd i z t A (Z z (O z hz)) hd e;subst this;have:=u2 i hz;omega) r2,V,A6,hd]
       simp[bE]
      have mU:oM S TA (listed.setIfInBounds i true) fr f1=bE (oM S TA listed fr f1) (S.af i).dst v1:=by
       funext t
       by_cases hd:(S.af i).dst=some t
       ·rw[hd];simp only[bE,iT];unfold oM;rw[iP ⟨i,wz,AT.2 (.inl ⟨rfl,pu⟩),hd⟩];exact kF t hd
       rw[AR hd];unfold oM;have:(∃j∈TA,(listed.setIfInBounds i true).getD j false=true/\(S.af j).dst=some t)↔∃j∈TA,listed.getD j false=true/\(S.af j).dst=some t:=by
        constructor
        ·rintro⟨j,D,F,s⟩;rcases AT.1 F with ⟨e,_⟩ | e
         ·subst e;exact absurd s hd
         exact⟨j,D,e,s⟩
        rintro⟨j,D,F,s⟩;exact⟨j,D,AT.2 (.inr F),s⟩
       simp only[this]
      have nP:(listed.setIfInBounds i true).getD k false=false:=by
       cases hb:(listed.setIfInBounds i true).getD k false with
       | false=>rfl
       | true=>
         rcases AT.1 hb with ⟨e,_⟩ | e
         ·exact absurd e.symm aA
         rw[hl] at e;cases e
      have Cx : ∀v',(a.put o.dst v').defers=df:=λv'=>by rw[<-I.defers];cases o.dst<;>rfl
      have next : ∀β' w' v',aE P B β' K w'->bB β w β' w'->FR β' N (bE (oM S TA listed fr f1) (S.af i).dst v1) (a.put o.dst v')->wpAnyIn (Fn ro) 0 P .any ops Q fuel (listed.setIfInBounds i true) (a.put o.dst v') w':=fun β' w' v' W X Y=>
       ih _ _ _ Om nP ⟨⟨β',W,hE.trans X,by rw[mU];exact Y⟩,aag I.dc hi,by simp[I.size],Cx v'⟩
      have c:=aL;simp only[cE] at c;rw[ai1] at c;cases yW:dU (oM S TA listed fr f1) (S.af i).guard with
      | none=>rw[yW] at c;cases c
      | some b=>
        have xB:=EH n C yW;rw[yW] at c;cases b with
        | true=>
          refine HF ho (λ_=>trivial) (λ_=> ?_) (λg=>by rw[xB] at g;cases g);cases hq:qK (S.af i).op with
          | true=>
            rw[TO hq] at c;exact Oa hh n hS C yW c fun β' w' v' W X Y=>next β' w' v' W X Y
          | false=>
            obtain⟨e,z,L⟩ : ∃e z,(S.af i).op= .a (.new e z):=by
             have h2:=hA i wz;unfold mV at h2;split at h2;·rename_i e z h3;exact⟨e,z,h3⟩
             rw[hq] at h2;cases h2
            have hh1:(mV (S.af i)).op= .p (.vZ (.const undef)):=by unfold mV;rw[L]
            have heq:bE (oM S TA listed fr f1) (S.af i).dst undef=bE (oM S TA listed fr f1) (S.af i).dst v1:=by
             rw[hh1,A6] at c;simp only[eg,pop,fg,Option.some.injEq,Prod.mk.injEq] at c;exact c.1
            rw[<-heq] at next
            exact ai3 n hS C L λw' v' W X Y=>next β w' v' W X Y
        | false=>
          refine HF ho (λ_=>trivial) (λg=>by rw[xB] at g;cases g) (λ_=> ?_);simp only[Option.some.injEq,Prod.mk.injEq] at c;refine next β w undef hS (bB.refl β w) ?_
          rw[A6] at c;rw[<-c.1,<-n.dst];exact C.put (λx hx=>n.lt x (by rw[<-n.dst];exact hx)) .skip
   ·
    subst wz;have HK : ∀t∈(S.af i).fk,f1 t=oM S TA listed fr f1 t:=λt J=>by
     unfold oM;split;·rfl
     rename_i hn;refine HI (λy G e=> ?_) aW;obtain⟨z,hz,rfl⟩:=List.mem_map.1 G;rw[A6] at e;exact hn ⟨z,hz,Kz z (A4 z hz t e J),e⟩
    rw[AQ HK] at hw;have jL:args.map (aJ f1)=args.map (aJ (oM S TA listed fr f1)):=wZ λx hx=>AP (l:=args) (λt ht=>HK t (by simp only[Item.fk,hk,gu.bA,ia];exact .inl ht)) x hx;rw[jL] at hp;have aL : ∀t,(∀j∈TA,(S.af j).dst≠some t)->oM S TA listed fr f1 t=fr t:=λt ht=>by
     unfold oM;rw[iN];rintro⟨j,D,_,s⟩;exact ht j D s
    generalize oM S TA listed fr f1=KE at C hw hp aL;refine HF ho (λ_=>trivial) (λ_=> ?_) (λg=>by rw[EH n C hw] at g;cases g);refine⟨λf _=>trivial,?_⟩;rw[show(Fn ro).round=ro from rfl,Oper.semAt_eq ro _ _ n.nodefer];have L:=n.op;rw[hk] at L;generalize CA:o.op=io at L;cases L with
    | @call f args ts he=>
      rw[he] at CA;have hv : ∀x∈o.op.operands,VR β (aJ KE x) (a.eval x):=λx hx=>Cz C (n.bA x hx);have gk:aQ β (args.toList.map (aJ KE)) (args.toList.map a.eval):=by
       refine⟨Sm,λj u hu=> ?_⟩;rw[List.getElem?_map] at hu⊢
       cases hx:args.toList[j]? with
       | none=>rw[hx] at hu;cases hu
       | some x=>
         rw[hx] at hu;cases hu;exact⟨_,rfl,hv x (by rw[CA];simp[Op.operands,Call.operands];exact .inr (by have:=List.mem_of_getElem? hx;simpa using this))⟩
      have EQ:(execOp a.eval o).run P w= .ok (.enter f (args.map a.eval)) w:=by
       simp only[execOp,CA,resolve,Act.eval,Deferred.ofValue,ck,cJ,bU,invoke];rw[EG hp.1];simp
      rw[EQ];refine⟨λh=>absurd h (by simp[Fn,iW]),J0 ?_⟩;have:=hp.2 β w _ hS gk;have V:(args.toList.map a.eval).toArray=args.map a.eval:=by apply rO;simp
      rw[V] at this;refine this.mono ?_;rintro e w' ⟨v',β',rfl,g1,g2,g3⟩;exact hQ β' w' _ v' g2 (hE.trans g3) g1 I.defers λt ht=>by
       rw[<-aL t ht];exact(C.2 t).mono g3.ext
   have:=Kz k wz;rw[hl] at this;cases this
end
theorem ai5{N:Nat}{ops:Array cu}{d:jB}(S:DS P N ops d)(A:P.follows .mixedOrders=true):CB P N ops d:=by
 intro B h ro β fr fr' H H' a w id Q hh C u c D;refine wpIn_region_any A ?_;unfold tc at c;cases e:cF h d.af fr H with
 | none=>rw[e] at c;cases c
 | some q=>
   obtain⟨f,K,l⟩:=q;rw[e] at c;simp only at c;split at c;rotate_left
   ·cases c
   rename_i n;simp only[Option.some.injEq,Prod.mk.injEq] at c;obtain⟨rfl,rfl⟩:=c;obtain⟨F,I⟩:=C.drew;refine Inv.sound (S:=S) (β0:=β) (w0:=w) (fr':=f) (H':=K) hh (df:=a.defers) D ops.size _ a _ ?_ ⟨⟨β,fr,H,S.sf,[],l,0,?_,λj v=> ?_⟩,λi j z _=> ?_,Sm,rfl⟩;·unfold lT;exact Nat.le_trans (R6 _ _) Sm
   ·refine⟨λi hi=>(S.mem i).1 hi,S.u7,λp hp=>(by cases hp),λp hp=>(by cases hp),List.Pairwise.nil,λp hp=>(by cases hp),λp hp=>(by cases hp),by rw[<-S.ui];exact e,F,I,u.1,λt=> .inr (u.2 t),λx hx J=> ?_,λq o=>absurd o (fM _),λy L O M=>absurd ((S.mem y).2 L) M,λr c s hs _ _ _=> ?_⟩;·exact⟨λg=>absurd ((S.mem x).2 hx) g,λg=>absurd g (fM _)⟩
    obtain⟨G,g1,g2⟩:=n _ hs;exact⟨G,by simpa using g1,g2⟩
   ·unfold Ex;have:(RZ ops.size false).getD j false=false:=by simp[ou,v]
    rw[this];constructor;·intro g;cases g
    rintro(g | ⟨q,o,_⟩);·exact absurd ((S.mem j).2 v) g
    cases o
   rename_i U;by_cases hi:i<ops.size
   ·simp[ou,hi] at z
   simp[ou,hi] at z
theorem ai7{N:Nat}{ops:Array cu}{d:jB}(S:DS P N ops d)(V:P.follows .mixedOrders=true)(W:S.cY):CD P N ops d:=by
 intro Zl hd B h ro β fr aj H H1 H' v A k R f args a w id Q hh X Y ui hA hk M ⟨⟨n,H2⟩,hz⟩ hw hp Z;have C:=OB hA M;subst C;rw[S.ui] at ui;obtain⟨TA,T2,ht,HJ,h2⟩:=List.map_eq_append_iff.1 ui;obtain⟨k',TR,jq,nE,_⟩:=List.map_eq_cons_iff.1 h2;subst jq nE HJ;have o : ∀x∈TA,qK (S.af x).op=true:=λx hx=>hA _ (List.mem_map.2 ⟨x,hx,rfl⟩);obtain⟨D,rfl,F,q,G⟩:=W Zl hd TA k' TR ht o (by rw[hk];rfl);have I:=OB (λx hx=>by obtain⟨z,hz,rfl⟩:=List.mem_map.1 hx;exact(q z hz).1) hz;subst I;have J:k'<ops.size:=(S.mem k').1 (by rw[ht];simp);have O:=S.u7;rw[ht] at O;obtain⟨p1,p2,s⟩:=AX O;have c : ∀t∈(S.af k').fk,aj t=n t:=λt kG=>(HI (λy L e=>by
  obtain⟨z,hz,rfl⟩:=List.mem_map.1 L;rw[A6] at e;exact(q z hz).2 t e kG) hz).symm
 have jL:args.map (aJ aj)=args.map (aJ n):=wZ λx hx=>AP (l:=args) (λt ht=>c t (by simp only[Item.fk,hk,gu.bA,ia];exact .inl ht)) x hx;rw[jL] at hp;rw[AQ c] at hw;have u : ∀j∈TA++D,j<ops.size:=λj hj=>(S.mem j).1 (by
  rw[ht];rcases List.mem_append.1 hj with hj | hj
  ·simp[hj]
  simp[F.subset hj])
 refine wpIn_region_any V ?_;obtain⟨kV,oE⟩:=X.drew;refine TQ.sound (S:=S) (β0:=β) (w0:=w) (TA:=TA++D) (fr:=fr) (f1:=n) hh (df:=a.defers) J u ?_ (λx hx=> ?_) hk (λb hb=> ?_) (λj hj t h1 h2=> ?_) ?_ hw hp (fun β' w' a' v' q1 q2 q3 q4 q5=>Z β' w' a' v' q1 q2 q3 q4 λt ht=>q5 t λj hj=>ht _ (by rw[S.ui];exact List.mem_map.2 ⟨j,(S.mem j).2 (u j hj),rfl⟩)) ops.size _ a _ ?_ ?_ ⟨⟨β,kV,oE,?_⟩,λi j U _=> ?_,Sm,rfl⟩;·rw[RX] at s⊢;exact⟨s.1,s.2.1.sublist F,λx hx y L=>s.2.2 x hx y (F.subset L)⟩
 ·rcases List.mem_append.1 hx with hx | hx
  ·rw[TO (o x hx)];exact o x hx
  exact(q x hx).1
 ·have:=(S.mem b).2 hb;rw[ht] at this;rcases List.mem_append.1 this with g | g
  ·exact .inl (tQ _ g)
  rcases List.mem_cons.1 g with g | g
  ·exact .inr (.inl g)
  rcases G b g with g | g
  ·exact .inl (List.mem_append_right _ g)
  exact .inr (.inr g)
 ·rcases List.mem_append.1 hj with hj | hj
  ·exact S.d4 j k' (u j (tQ _ hj)) J (by rw[hk];rfl) (p1 j hj)
  exact absurd h2 ((q j hj).2 t h1)
 ·rw[Ah];refine aav (R:=TA.map λi=>mV (S.af i)) ?_ hz;rw[wZ (g:=S.af) λx hx=>TO (o x hx)];exact M
 ·unfold lT;exact Nat.le_trans (R6 _ _) Sm
 ·simp[ou,J]
 ·have:oM S (TA++D) (RZ ops.size false) fr n=fr:=by
   funext t
   unfold oM;rw[iN];rintro⟨j,j1,j2,j3⟩;have hj:=u j j1;simp[ou,hj] at j2
  rw[this];exact Y
 by_cases hi:i<ops.size
 ·simp[ou,hi] at U
 simp[ou,hi] at U
theorem ai9{N:Nat}{ops:Array cu}{d:jB}(S:DS P N ops d)(c:P.follows .mixedOrders=true)(e:S.cY):CB P N ops d/\CD P N ops d:=⟨ai5 S c,ai7 S c e⟩
end
section
open Go Go.RowKit
variable {P:aY}
def ai'(acc:List Nat)(o:cu):Nat:=o.after.toList.foldl (λs e=>if GI .any e then s ||| (2 ^ e.on ||| acc.getD e.on 0) else s) 0
def TT:List cu->List Nat->List Nat
 | [],acc=>acc
 | o::r,acc=>TT r (acc++ [ai' acc o])
theorem aaz{ops:Array cu}{acc:List Nat}{i:Nat}{o:cu}(ho:ops[i]? = some o)(f : ∀a j,(acc.getD a 0).testBit j=true->gN ops a j) : ∀(es:List Edge) (s:Nat),(∀e∈es,e∈o.after.toList)->(∀j,s.testBit j=true->gN ops i j)->
 ∀j,(es.foldl (λs e=>if GI .any e then s ||| (2 ^ e.on ||| acc.getD e.on 0) else s) s).testBit j=true->gN ops i j
 | [],s,_,hs=>hs
 | e::es,s,he,hs=>by
   simp only[List.foldl_cons];refine aaz ho f es _ (λx hx=>he x (hU _ hx)) λj c=> ?_;split at c
   ·rename_i hb;rw[Nat.testBit_or,Nat.testBit_or] at c;simp only[Jp] at c;have n:gN ops i e.on:= .Kj ho (he e (j5 ..)) hb;rcases c with g | g | g
    ·exact hs j g
    ·rw[Nat.testBit_two_pow] at g;have:e.on=j:=by simpa using g
     rw[<-this];exact n
    exact .trans n (f _ _ g)
   exact hs j c
theorem aaA{ops:Array cu} : ∀(l:List cu) (acc:List Nat),(∀k (h:k<l.length),ops[acc.length+k]? = some l[k])->(∀a j,(acc.getD a 0).testBit j=true->gN ops a j)->∀a j,((TT l acc).getD a 0).testBit j=true->gN ops a j
 | [],acc,_,f=>f
 | o::l,acc,hl,f=>by
   have g:=hl 0 Sm;simp only[Nat.add_zero,List.getElem_cons_zero] at g;refine aaA l _ (λk hk=> ?_) λa j c=> ?_;·have:=hl (k+1) (by simpa using hk);simp only[List.length_append,List.length_singleton,List.getElem_cons_succ] at this⊢;rw[show acc.length+1+k=acc.length+(k+1) by omega];exact this
   rw[yw] at c;by_cases e:a<acc.length
   ·rw[tP e,<-yw] at c;exact f a j c
   rw[uN Om] at c;by_cases i:a=acc.length
   ·subst i;simp only[Nat.sub_self,fK,sR] at c;exact aaz g f _ 0 (λ_ h=>h) (λj h=>by simp at h) j c
   obtain⟨q,n⟩ : ∃q,a-acc.length=q+1:=⟨a-acc.length-1,Om⟩;rw[n] at c;simp at c
def aaB:Item:=⟨none, .p (.vZ (.const undef)),none⟩
def aja(k:Nat)(af:Nat->Item)(ms:List Nat):List Nat:=
 let c:=(lQ k).filter λi=>bS (af i).op
 let l:=c.foldl (λacc w=>acc++((lQ k).filter λi=>(ms.getD w 0).testBit i && !acc.contains i)++(if acc.contains w then [] else [w])) []
 l++(lQ k).filter λi=> !l.contains i
structure DD where
 k:Nat
 af:Nat->Item
 ms:List Nat
 sf:List Nat
 pos:Nat->Nat
 rk:Nat->Nat
 lo:Nat->Nat
def DD.vd(D:DD)(i j:Nat):Bool:=(D.ms.getD i 0).testBit j
def DD.w (D:DD)(i:Nat):Bool:=bS (D.af i).op
def DD.a (D:DD)(i:Nat):Bool:=lE (D.af i).op
def xC (k:Nat)(p:Nat->Bool):Bool:=(lQ k).all p
theorem y5{k:Nat}{p:Nat->Bool}(h:xC k p=true) : ∀i,i<k->p i=true:=λi hi=>List.all_eq_true.1 h i (List.mem_range.2 hi)
def KF (k:Nat)(p:Nat->Bool):Bool:=(lQ k).any p
theorem OF{k:Nat}{p:Nat->Bool}(h:KF k p=true) : ∃i,i<k/\p i=true:=by
 obtain⟨i,h1,h2⟩:=List.any_eq_true.1 h;exact⟨i,List.mem_range.1 h1,h2⟩
def mY (a b:Bool):Bool:= !a||b
theorem nQ{a b:Bool}(h:mY a b=true)(ha:a=true):b=true:=by subst ha;simpa[mY] using h
def A7(x y:Item):Bool:=match x.dst with
 | some t=>y.fk.contains t
 | none=>false
theorem KG{x y:Item}{t:Nat}(h:x.dst=some t)(hu:t∈y.fk):A7 x y=true:=by simp[A7,h,hu]
def aaC(x y:Item):Bool:=match x.dst,y.dst with
 | some s,some t=>s==t
 | _,_=>false
def aaD(x y:Item):Bool:=match x.dst,y.guard with
 | some t,some (s,_)=>s==t
 | _,_=>false
def TU:gu->Bool
 | .l _=>true
 | _=>false
def DD.free(D:DD)(r:Nat):Bool:=xC D.k λx=>mY (decide (D.pos x<D.pos r)) (mY (D.w x) (D.vd r x)&&mY (D.a x) (KF D.k (λy=>D.w y&&decide (D.pos x<D.pos y)&&D.vd r y)||A7 (D.af x) (D.af r)))
def DD.hi(D:DD)(r:Nat):Nat:=((lQ D.k).filter λx=>D.w x&&decide (D.pos x<=D.pos r)).length
def DD.nJ(D:DD):List (Item×Nat):=(lQ D.k).flatMap λr=>if TU (D.af r).op && !D.free r then ((lQ (D.hi r+1)).filter λs=>decide (D.lo r<=s)).map λs=>(D.af r,s) else []
def DD.ok(D:DD)(ops:Array cu):Bool:=
 decide (D.sf.Pairwise λa b=>D.pos a<D.pos b)&&xC D.k (λi=>D.sf.contains i)&&D.sf.all (λi=>decide (i<D.k)) &&
 xC D.k (λi=>match ops[i]? with
  | some o=>o.after.toList.all λe=>mY (GI .any e) (decide (e.on<D.k)&&decide (D.pos e.on<D.pos i))
  | none=>true) &&
 xC D.k (λi=>xC D.k λj=>
  mY (aaC (D.af i) (D.af j)) (decide (i=j)) &&
  mY (!decide (i=j)&&A7 (D.af i) (D.af j)) (D.vd j i||(D.vd i j && !D.a j)) &&
  mY (D.a i) (!aaD (D.af i) (D.af j)) &&
  mY (D.w j&&decide (D.pos i<D.pos j)) (D.vd j i) &&
  mY (!D.w i&&D.a j&&A7 (D.af j) (D.af i)) (xC D.k λx=>mY (decide (D.pos x<D.pos j)) (mY (D.w x) (D.vd i x)&&mY (D.a x) ((KF D.k λy=>D.w y&&decide (D.pos x<D.pos y)&&decide (D.pos y<D.pos j))||D.vd i x))) &&
  mY (D.w i&&D.w j) (mY (decide (D.rk i<D.rk j)) (decide (D.pos i<D.pos j))&&mY (decide (D.rk i=D.rk j)) (decide (i=j))) &&
  mY (D.w j) (decide (D.rk j<D.hi i)||decide (D.pos i<D.pos j))) &&
 xC D.k (λj=>mY (D.a j) (!A7 (D.af j) (D.af j)) &&
  mY (D.w j) (xC (D.rk j) λq=>KF D.k λy=>D.w y&&decide (D.rk y=q)) &&
  xC (D.lo j) (λq=>KF D.k λx=>D.w x&&decide (D.rk x=q)&&D.vd j x) &&
  mY (TU (D.af j).op) (D.free j||xC D.k λi=>mY (A7 (D.af i) (D.af j)) (D.vd j i)))
def CS (ops:Array cu)(l:List Item):DD:=
 let k:=ops.size
 let af:=λi=>l.getD i aaB
 let ms:=TT ops.toList []
 let sf:=aja k af ms
 let pos:=λi=>sf.idxOf i
 let rk:=λi=>((lQ k).filter λx=>bS (af x).op&&decide (pos x<pos i)).length
 { k,af,ms,sf,pos,rk,lo:=λr=>((lQ k).filter λx=>bS (af x).op&&(ms.getD r 0).testBit x).length }
def DD.yO(D:DD):Option (List Item):=match D.sf.dropWhile λi=>qK (D.af i).op with
 | []=>none
 | k::R=>if (R.filter λb=> !D.vd b k).all (λz=>qK (mV (D.af z)).op && !A7 (D.af z) (D.af k))=true then some ((R.filter λb=> !D.vd b k).map λz=>mV (D.af z)) else none
theorem aaE{p:Nat->Bool} : ∀ {A:List Nat} {k:Nat} {R:List Nat},(∀x∈A,p x=true)->p k=false->(A++k::R).dropWhile p=k::R
 | [],k,R,_,hk=>by simp[List.dropWhile,hk]
 | x::A,k,R,hA,hk=>by
   rw[jU,List.dropWhile_cons_of_pos (hA x Sm)];exact aaE (λy c=>hA y (by simp[c])) hk
def kf (P:aY)(N:Nat)(ops:Array cu):Option jB:=
 match tg P N ops ops.toList with
 | some l=>if P.follows .mixedOrders&&(CS ops l).ok ops then some ⟨(CS ops l).sf.map (CS ops l).af,(CS ops l).nJ,(CS ops l).yO⟩ else none
 | none=>none
theorem OG{N:Nat}{ops:Array cu}{d:jB}(h:kf P N ops=some d):CB P N ops d/\CD P N ops d:=by
 unfold kf at h;split at h;rotate_left
 ·cases h
 rename_i l hl;split at h;rotate_left
 ·cases h
 rename_i hg;simp only[fJ] at hg;obtain⟨V,F⟩:=hg;simp only[Option.some.injEq] at h;obtain⟨u,ui⟩:=J' hl;have n : ∀i j,(CS ops l).vd i j=true->gN ops i j:=λi j W=>
  aaA ops.toList [] (λk hk=>by
   simp only[List.length_nil,Nat.zero_add];have X:k<ops.size:=by simpa using hk
   simp[X]) (λa j f=>by simp at f) i j W
 have G : ∀i o,ops[i]? = some o->xr P N ops o ((CS ops l).af i):=λi o ho=>by
  obtain⟨hi,rfl⟩:=Array.getElem?_eq_some_iff.1 ho;have O:i<l.length:=by rw[u];simpa using hi
  have:=ui i O (by simpa using hi);rw[yr] at this;show xr P N ops ops[i] (l.getD i aaB);rw[yw,bM O];exact this
 generalize Y:CS ops l=D at *;have hk:D.k=ops.size:=by rw[<-Y];rfl
 unfold DD.ok at F;simp only[fJ] at F;obtain⟨⟨⟨⟨⟨Z,o2⟩,o3⟩,o4⟩,o5⟩,o6⟩:=F;have c5:=λi j (hi:i<ops.size) (f:j<ops.size)=>y5 (y5 o5 i Om) j Om;simp only[fJ] at c5;have v:=λj (f:j<ops.size)=>y5 o6 j Om;simp only[fJ] at v;have I : ∀i j,gN ops i j->i<ops.size->j<ops.size/\D.pos j<D.pos i:=by
  intro i j ha;induction ha with
  | @Kj i o e ho he hb=>
    intro hi;have:=y5 o4 i Om;rw[ho] at this;have:=nQ (List.all_eq_true.1 this e he) hb;simp only[fJ,decide_eq_true_eq] at this;exact⟨Om,this.2⟩
  | @trans i j m h k AS EP=>
    intro hi;obtain⟨a1,a2⟩:=AS hi;obtain⟨b1,b2⟩:=EP a1;exact⟨b1,Om⟩
 refine ai9 (S:=⟨D.af,G,D.sf,by rw[<-h],λi=> ?_,D.pos,of_decide_eq_true Z,λi j hi ha=>I i j ha hi,λi j t hi f h1 h2=> ?_,λi j t hi f aA h1 h2=> ?_,λj t f h1 h2 hu=> ?_,λi j t b hi f h1 h2 h3=> ?_,λi j hi f h1 h2=> ?_,
  λdd i t hd hi h1 h2 h3 h4 x hx hp=> ?_,D.rk,λx y hx J h1 h2 h3=> ?_,λx q hx h1 h2=> ?_,λx y hx J h1 h2 h3=> ?_,D.lo,D.hi,λr q C hq=> ?_,λr x C hx h1=> ?_,λr x C h1=> ?_⟩) V ?yO
 case yO=>
  intro Zl hp A k R ht hA hk;rw[<-h] at hp;have hp:D.yO=some Zl:=hp;have ht:D.sf=A++k::R:=ht;unfold DD.yO at hp;rw[ht,aaE (p:=λi=>qK (D.af i).op) hA hk] at hp;simp only at hp;split at hp
  ·rename_i jA;cases hp;refine⟨_,rfl,List.filter_sublist,λz hz=> ?_,λb hb=> ?_⟩;·have:=List.all_eq_true.1 jA z hz;simp only[fJ,Ab] at this;refine⟨this.1,λt h1 h2=> ?_⟩;rw[KG h1 h2] at this;cases this.2
   cases Q:D.vd b k with
   | true=>exact .inr (n _ _ Q)
   | false=>exact .inl (List.mem_filter.2 ⟨hb,by rw[Q];rfl⟩)
  cases hp
 ·constructor;·intro hi;have:=List.all_eq_true.1 o3 i hi;have:=of_decide_eq_true this;omega
  intro hi;have:=y5 o2 i Om;simpa using this
 ·have:=nQ (c5 i j hi f).1.1.1.1.1.1 (by simp[aaC,h1,h2]);exact of_decide_eq_true this
 ·have:=nQ (c5 i j hi f).1.1.1.1.1.2 (by simp[aA,KG h1 h2]);simp only[Jp,fJ,Ab] at this;rcases this with g | ⟨g,g'⟩
  ·exact .inl (n _ _ g)
  exact .inr ⟨n _ _ g,g'⟩
 ·have:=nQ (v j f).1.1.1 h1;rw[KG h2 hu] at this;cases this
 ·have:=nQ (c5 i j hi f).1.1.1.1.2 h1;simp[aaD,h2,h3] at this
 ·exact n _ _ (nQ (c5 i j hi f).1.1.1.2 (by simp only[fJ,decide_eq_true_eq];exact⟨h1,h2⟩))
 ·have:=nQ (c5 dd i hd hi).1.1.2 (by simp only[fJ,Ab];exact⟨⟨h1,h2⟩,KG h3 h4⟩);have:=nQ (y5 this x Om) (by simpa using hp);simp only[fJ] at this;refine⟨λg=>n _ _ (nQ this.1 g),λg=> ?_⟩;have g2:=nQ this.2 g;rw[Jp] at g2;rcases g2 with g2 | g2
  ·obtain⟨y,L,c⟩:=OF g2;simp only[fJ,decide_eq_true_eq] at c;exact .inl ⟨y,Om,c.1.1,c.1.2,c.2⟩
  exact .inr (n _ _ g2)
 ·have:=nQ (c5 x y hx J).1.2 (by simp only[fJ];exact⟨h1,h2⟩);simp only[fJ] at this;exact of_decide_eq_true (nQ this.1 (by simpa using h3))
 ·obtain⟨y,L,c⟩:=OF (y5 (nQ (v x hx).1.1.2 h1) q h2);simp only[fJ,decide_eq_true_eq] at c;exact⟨y,Om,c.1,c.2⟩
 ·have:=nQ (c5 x y hx J).1.2 (by simp only[fJ];exact⟨h1,h2⟩);simp only[fJ] at this;exact of_decide_eq_true (nQ this.2 (by simpa using h3))
 ·obtain⟨y,L,c⟩:=OF (y5 (v r C).1.2 q hq);simp only[fJ,decide_eq_true_eq] at c;exact⟨y,Om,c.1.1,c.1.2,n _ _ c.2⟩
 ·have:=nQ (c5 r x C hx).2 h1;simpa using this
 have U:TU (D.af r).op=true:=by rw[h1];rfl
 have:=nQ (v r C).2 U;rw[Jp] at this;cases M:D.free r with
 | true=>
   left;intro x hx hp;have:=nQ (y5 M x Om) (by simpa using hp);simp only[fJ] at this;refine⟨λg=>n _ _ (nQ this.1 g),λg=> ?_⟩;have:=nQ this.2 g;rw[Jp] at this;rcases this with g | g
   ·obtain⟨y,L,c⟩:=OF g;simp only[fJ,decide_eq_true_eq] at c;exact .inl ⟨y,Om,c.1.1,c.1.2,n _ _ c.2⟩
   right;unfold A7 at g;cases hd:(D.af x).dst with
   | none=>rw[hd] at g;cases g
   | some t=>rw[hd] at g;exact⟨t,rfl,by simpa using g⟩
 | false=>
   right;rw[M] at this;simp only[iV,false_or] at this;refine⟨λt j ht f hd=>n _ _ (nQ (y5 this j Om) (KG hd ht)),λs s1 s2=> ?_⟩;rw[<-h];show(D.af r,s)∈D.nJ;unfold DD.nJ;refine List.mem_flatMap.2 ⟨r,List.mem_range.2 Om,?_⟩;rw[U,M];simp only[Ny,Bool.and_self,iT];exact List.mem_map.2 ⟨s,List.mem_filter.2 ⟨List.mem_range.2 Om,by simpa using s1⟩,rfl⟩
end
section
open Go Go.RowKit
variable {T:bZ}
def CT (T:bZ)(b:bH)(Q:bq->Fr->CH->Prop):bq->Fr->CH->Prop:=λx fr H=>match x with
 | .normal=>cM T b fr H Q
 | x=>Q x fr H
def OH(id:Nat)(Q:bq->Fr->CH->Prop):bq->Fr->CH->Prop:=λx fr H=>match x with
 | .exit i=>if i=id then Q .normal fr H else Q (.exit i) fr H
 | x=>Q x fr H
def KH(T:bZ)(r:List Item)(fr:Fr)(d:Option Nat)(K:Fr->CH->Prop):ae->CH->Prop:=λv H=>pB T r (bE fr d v) H K
def EW (o:Option ae)(K:ae->CH->Prop)(H:CH):Prop:=match o with
 | some v=>K v H
 | none=>False
def CU (o:Option (ae×CH))(K:ae->CH->Prop):Prop:=match o with
 | some q=>K q.1 q.2
 | none=>False
def TV (o:Option (List ae×aI×Kd×AK))(K:ae->CH->Prop)(H:CH):Prop:=match o with
 | some q=>K (fj q.2.2.2 H.nx) (H.new (.cells q.1 q.2.1 q.2.2.1))
 | none=>False
def KI (o:Option (List ae))(Q:ae->CH->Prop)(H:CH):Prop:=match o with
 | some vs=>Q (dV vs) H
 | none=>False
theorem dX{v:ae}{K:ae->CH->Prop}{H:CH}:EW (some v) K H↔K v H:=dS
theorem pE{v:ae}{K:ae->CH->Prop}{H:CH}:CU (some (v,H)) K↔K v H:=dS
theorem th{cs:List ae}{e:aI}{k:Kd}{mk:AK}{K:ae->CH->Prop}{H:CH}:TV (some (cs,e,k,mk)) K H↔K (fj mk H.nx) (H.new (.cells cs e k)):=dS
theorem CW{vs:List ae}{Q:ae->CH->Prop}{H:CH}:KI (some vs) Q H↔Q (dV vs) H:=dS
def A8 (res:List pA)(Q:ae->CH->Prop):bq->Fr->CH->Prop:=λx fr H=>match x with
 | .exit _=>False
 | _=>KI (bT fr H res) Q H
theorem eF{a b:bH}{fr:Fr}{H:CH}{Q:bq->Fr->CH->Prop}:cM T (.seq a b) fr H Q↔cM T a fr H (CT T b Q):=Ot
theorem pF{id:Nat}{c:bH}{fr:Fr}{H:CH}{Q:bq->Fr->CH->Prop}:cM T (.block id c) fr H Q↔cM T c fr H (OH id Q):=aac
theorem dy{b:bH}{Q:bq->Fr->CH->Prop}{fr:Fr}{H:CH}:CT T b Q .normal fr H↔cM T b fr H Q:=dS
theorem HM{b:bH}{Q:bq->Fr->CH->Prop}{fr:Fr}{H:CH}:CT T b Q .ret fr H↔Q .ret fr H:=dS
theorem OI{b:bH}{Q:bq->Fr->CH->Prop}{i:Nat}{fr:Fr}{H:CH}:CT T b Q (.exit i) fr H↔Q (.exit i) fr H:=dS
theorem si{id:Nat}{Q:bq->Fr->CH->Prop}{fr:Fr}{H:CH}:OH id Q .normal fr H↔Q .normal fr H:=dS
theorem HN{id:Nat}{Q:bq->Fr->CH->Prop}{fr:Fr}{H:CH}:OH id Q .ret fr H↔Q .ret fr H:=dS
theorem OJ{id i:Nat}{Q:bq->Fr->CH->Prop}{fr:Fr}{H:CH}:OH id Q (.exit i) fr H↔if i=id then Q .normal fr H else Q (.exit i) fr H:=dS
theorem OK{res:List pA}{Q:ae->CH->Prop}{fr:Fr}{H:CH}:A8 res Q .normal fr H↔KI (bT fr H res) Q H:=dS
theorem KJ{res:List pA}{Q:ae->CH->Prop}{fr:Fr}{H:CH}:A8 res Q .ret fr H↔KI (bT fr H res) Q H:=dS
theorem gX{af:List Item}{fr:Fr}{H:CH}{Q:bq->Fr->CH->Prop}:cM T (.gW af) fr H Q↔pB T af fr H (Q .normal):=aaa
theorem lF{af:List Item}{pn:Option (List Item)}{fr:Fr}{H:CH}{Q:bq->Fr->CH->Prop}:cM T (.lB ⟨af,[],pn⟩) fr H Q↔pB T af fr H (Q .normal):=by
 rw[Ts];constructor
 ·rintro⟨n,fr',H',l,h1,h2,h3⟩;refine⟨n,fr',H',?_,h3⟩;clear h2 h3;induction af generalizing fr H l with
  | nil=>simp only[cF,Option.some.injEq,Prod.mk.injEq] at h1;obtain⟨rfl,rfl,rfl⟩:=h1;rfl
  | cons it af e=>
    simp only[cF,cT] at h1⊢
    cases hs:cE (cU T n) it fr H with
    | none=>rw[hs] at h1;cases h1
    | some q=>
      rw[hs] at h1;simp only at h1⊢
      cases hd:cF (cU T n) af q.1 q.2 with
      | none=>rw[hd] at h1;cases h1
      | some z=>obtain⟨a,b,c⟩:=z;rw[hd] at h1;simp only[fg,Option.some.injEq,Prod.mk.injEq] at h1;obtain⟨rfl,rfl,_⟩:=h1;exact e _ hd
 rintro⟨n,fr',H',h1,h3⟩;have : ∃l,cF (cU T n) af fr H=some (fr',H',l):=by
  clear h3;induction af generalizing fr H with
  | nil=>simp only[cT,Option.some.injEq,Prod.mk.injEq] at h1;obtain⟨rfl,rfl⟩:=h1;exact⟨[],rfl⟩
  | cons it af e=>
    simp only[cF,cT] at h1⊢
    cases hs:cE (cU T n) it fr H with
    | none=>rw[hs] at h1;cases h1
    | some q=>
      rw[hs] at h1;obtain⟨l,hl⟩:=e h1;simp only[hl];exact⟨_,rfl⟩
 obtain⟨l,hl⟩:=this;exact⟨n,fr',H',l,hl,λp hp=>by simp at hp,h3⟩
def EX(T:bZ)(v:ae)(a b:bH)(fr:Fr)(H:CH)(Q:bq->Fr->CH->Prop):Prop:=match v with
 | .bool t=>if t=true then cM T a fr H Q else cM T b fr H Q
 | _=>False
theorem gO{c:au}{a b:bH}{fr:Fr}{H:CH}{Q:bq->Fr->CH->Prop}:cM T (.cond c a b) fr H Q↔EX T (aJ fr c) a b fr H Q:=Tt
theorem iI{a b:bH}{fr:Fr}{H:CH}{Q:bq->Fr->CH->Prop}:EX T (.bool true) a b fr H Q↔cM T a fr H Q:=by simp[EX]
theorem qL{a b:bH}{fr:Fr}{H:CH}{Q:bq->Fr->CH->Prop}:EX T (.bool false) a b fr H Q↔cM T b fr H Q:=by simp[EX]
theorem ajd{t:Bool}{a b:bH}{fr:Fr}{H:CH}{Q:bq->Fr->CH->Prop}(h1:t=true->cM T a fr H Q)(h2:t=false->cM T b fr H Q):EX T (.bool t) a b fr H Q:=by
 cases t;·exact qL.2 (h2 rfl)
 exact iI.2 (h1 rfl)
def p8 (T:bZ)(v:ae)(b:Bool)(d:Option Nat)(op:gu)(r:List Item)(fr:Fr)(H:CH)(K:Fr->CH->Prop):Prop:=match v with
 | .bool c=>if c=b then my T fr H op (KH T r fr d K) else pB T r (bE fr d kD) H K
 | .chan none=>pB T r (bE fr d kD) H K
 | _=>False
theorem nR{d:Option Nat}{op:gu}{s:Nat}{b:Bool}{r:List Item}{fr:Fr}{H:CH}{K:Fr->CH->Prop}:pB T (⟨d,op,some (s,b)⟩::r) fr H K↔p8 T (fr s) b d op r fr H K:=by
 rw[On];simp only[dU];generalize fr s=v;unfold p8;cases v with
 | bool c=>
   simp only;by_cases e:c=b
   ·subst e;simp only[beq_self_eq_true,iT];exact dS
   have:(c==b)=false:=by simpa using e
   simp only[this,iN e]
 | chan r=>cases r<;>exact dS
 | _=>exact dS
variable {d:Option Nat} {op:gu} {r:List Item} {fr:Fr} {H:CH} {K:Fr->CH->Prop}
theorem TX:p8 T (.bool true) true d op r fr H K↔my T fr H op (KH T r fr d K):=by simp[p8]
theorem nS:p8 T (.bool false) false d op r fr H K↔my T fr H op (KH T r fr d K):=by simp[p8]
theorem sj:p8 T (.bool true) false d op r fr H K↔pB T r (bE fr d kD) H K:=by simp[p8]
theorem TY:p8 T (.bool false) true d op r fr H K↔pB T r (bE fr d kD) H K:=by simp[p8]
theorem A9{b:Bool}:p8 T kD b d op r fr H K↔pB T r (bE fr d kD) H K:=by simp[p8,kD]
theorem aje{t b:Bool}(h1:t=true->p8 T (.bool true) b d op r fr H K)(h2:t=false->p8 T (.bool false) b d op r fr H K):p8 T (.bool t) b d op r fr H K:=by
 cases t;·exact h2 rfl
 exact h1 rfl
theorem eR{d:Option Nat}{op:gu}{r:List Item}{fr:Fr}{H:CH}{K:Fr->CH->Prop}:pB T (⟨d,op,none⟩::r) fr H K↔my T fr H op (KH T r fr d K):=On
theorem eS{r:List Item}{fr:Fr}{d:Option Nat}{K:Fr->CH->Prop}{v:ae}{H:CH}:KH T r fr d K v H↔pB T r (bE fr d v) H K:=dS
theorem dY{fr:Fr}{H:CH}{x:dJ}{K:ae->CH->Prop}:my T fr H (.p x) K↔EW (pop (aJ fr) x) K H:=by
 rw[Z7];cases pop (aJ fr) x<;>simp[EW]
theorem fB{fr:Fr}{H:CH}{x:iG}{K:ae->CH->Prop}:my T fr H (.l x) K↔EW (aD H (aJ fr) x) K H:=by
 rw[Tr];cases aD H (aJ fr) x<;>simp[EW]
theorem ti{fr:Fr}{H:CH}{x:qH}{K:ae->CH->Prop}:my T fr H (.a x) K↔TV (da (aJ fr) x) K H:=by
 rw[Z8];cases da (aJ fr) x with
 | none=>simp[TV]
 | some q=>
   obtain⟨cs,e,k,mk⟩:=q;constructor;·rintro⟨cs',e',k',c,h,hk⟩;cases h;exact hk
   intro h;exact⟨cs,e,k,mk,rfl,h⟩
theorem mz{fr:Fr}{H:CH}{x:ja}{K:ae->CH->Prop}:my T fr H (.w x) K↔CU (bD H (aJ fr) x) K:=by
 rw[Z9];cases bD H (aJ fr) x with
 | none=>simp[CU]
 | some q=>
   constructor;·rintro⟨v,H',h,hk⟩;cases h;exact hk
   intro h;exact⟨q.1,q.2,rfl,h⟩
def T0(T:bZ)(v:ae)(args:List ae)(H:CH)(K:ae->CH->Prop):Prop:=match v with
 | .func (.func f) _ dh=>aR T f (args++dh.toList) H K
 | .func (.yield l) _ _=>Tq T l args H K
 | _=>False
theorem aaF{fr:Fr}{H:CH}{g:au}{args:List au}{K:ae->CH->Prop}:my T fr H (.pv g args) K↔T0 T (aJ fr g) (args.map (aJ fr)) H K:=aiL
theorem aaG{f:aU}{a dh:Array ae}{args:List ae}{H:CH}{K:ae->CH->Prop}:T0 T (.func (.func f) a dh) args H K↔aR T f (args++dh.toList) H K:=dS
theorem aaH{l:Nat}{a dh:Array ae}{args:List ae}{H:CH}{K:ae->CH->Prop}:T0 T (.func (.yield l) a dh) args H K↔Tq T l args H K:=dS
def OL(T:bZ)(v:ae)(key:Nat×Nat)(fr:Fr)(H:CH)(Q:bq->Fr->CH->Prop):Prop:=match v with
 | .func (.func f) _ dh=>aR T f (.func (.yield H.nx) #[] #[]::dh.toList) (H.new (.loop .ready none fr key)) (Tu H.nx fr Q)
 | _=>False
theorem aaI{g:au}{key:Nat×Nat}{fr:Fr}{H:CH}{Q:bq->Fr->CH->Prop}:cM T (.sa g key) fr H Q↔OL T (aJ fr g) key fr H Q:=by
 constructor
 ·rintro⟨n,x,fr',H',h1,h2⟩;simp only[br] at h1;unfold OL;split at h1
  ·rename_i f c dh hg;rw[hg];cases hc:(cU T n).call f (Value.func (.yield H.nx) #[] #[]::dh.toList) (H.new (.loop .ready none fr key)) with
   | none=>rw[hc] at h1;cases h1
   | some q=>
     rw[hc] at h1;refine⟨n,q.1,q.2,hc,?_⟩;simp only at h1;split at h1
     ·rename_i st gm aj e ho;split at h1;·cases h1
      rename_i hb;simp only[Option.some.injEq,Prod.mk.injEq] at h1;obtain⟨rfl,rfl,rfl⟩:=h1;exact⟨_,_,_,_,ho,hb,h2⟩
     cases h1
  cases h1
 intro h;unfold OL at h;split at h;·rename_i f c dh hg;exact aiN hg h
 exact h.elim
theorem aaJ{f:aU}{a dh:Array ae}{key:Nat×Nat}{fr:Fr}{H:CH}{Q:bq->Fr->CH->Prop}:OL T (.func (.func f) a dh) key fr H Q↔aR T f (.func (.yield H.nx) #[] #[]::dh.toList) (H.new (.loop .ready none fr key)) (Tu H.nx fr Q):=dS
theorem KK{fr:Fr}{H:CH}{f:aU}{args:List au}{K:ae->CH->Prop}:my T fr H (.call f args) K↔aR T f (args.map (aJ fr)) H K:=dS
theorem aP{fr:Fr}{d t:Nat}{v:ae}:bE fr (some d) v t=if t=d then v else fr t:=rfl
theorem ez{fr:Fr}{v:ae}:bE fr none v=fr:=rfl
theorem aT{fr:Fr}{t:Nat}:aJ fr (.tmp t)=fr t:=rfl
theorem bf{fr:Fr}{v:ae}:aJ fr (.const v)=v:=rfl
theorem OM{fr:Fr}{f:aU}:aJ fr (.func f)= .func (.func f) #[] #[]:=rfl
theorem gJ{H:CH}{o:cy}:(H.new o).nx=H.nx+1:=rfl
theorem qE{H:CH}{l:Nat}{o:cy}:(H.set l o).nx=H.nx:=rfl
theorem aaK{H:CH}{o:cy}{k:Nat}(h:k=H.nx):(H.new o).ob k=o:=by simp[CH.new,h]
theorem bQ{H:CH}{o:cy}{k:Nat}(h:k≠H.nx):(H.new o).ob k=H.ob k:=by simp[CH.new,h]
theorem aaL{H:CH}{o:cy}{l:Nat}:(H.set l o).ob l=o:=by simp[CH.set]
theorem T1{H:CH}{o:cy}{l k:Nat}(h:k≠l):(H.set l o).ob k=H.ob k:=by simp[CH.set,h]
theorem T3{f:aU}{rf:xx}(he:T.ext f=false)(e:T.fn f=some rf){args:List ae}{H:CH}{Q:ae->CH->Prop}(h:cM T rf.body (λt=>args.getD t undef) H (A8 rf.res Q)):aR T f args H Q:=by
 refine(aiM he e).2 (h.mono λx fr' H' hx=> ?_);unfold A8 at hx;cases x with
 | exit i=>exact hx
 | normal=>simp only at hx⊢;cases c:bT fr' H' rf.res with
   | none=>rw[c] at hx;exact hx.elim
   | some vs=>rw[c] at hx;exact⟨vs,rfl,hx⟩
 | ret=>simp only at hx⊢;cases c:bT fr' H' rf.res with
   | none=>rw[c] at hx;exact hx.elim
   | some vs=>rw[c] at hx;exact⟨vs,rfl,hx⟩
theorem bK{v:ae}{r:List ae}:(v::r).getD 0 undef=v:=rfl
theorem fS{v:ae}{r:List ae}{n:Nat}:(v::r).getD (n+1) undef=r.getD n undef:=rfl
def HO(I:Nat->Fr->CH->Prop)(n:Nat)(Q:bq->Fr->CH->Prop):bq->Fr->CH->Prop:=λx fr H=>match x with
 | .normal=>∃m,m<n/\I m fr H
 | x=>Q x fr H
theorem sk{I:Nat->Fr->CH->Prop}{n:Nat}{Q:bq->Fr->CH->Prop}{fr:Fr}{H:CH}:HO I n Q .normal fr H↔∃m,m<n/\I m fr H:=dS
theorem HP{I:Nat->Fr->CH->Prop}{n:Nat}{Q:bq->Fr->CH->Prop}{fr:Fr}{H:CH}:HO I n Q .ret fr H↔Q .ret fr H:=dS
theorem ON{I:Nat->Fr->CH->Prop}{n i:Nat}{Q:bq->Fr->CH->Prop}{fr:Fr}{H:CH}:HO I n Q (.exit i) fr H↔Q (.exit i) fr H:=dS
theorem ajf{c:bH}{Q:bq->Fr->CH->Prop}(I:Nat->Fr->CH->Prop)(step : ∀n fr H,I n fr H->cM T c fr H (HO I n Q)) : ∀ {n:Nat} {fr:Fr} {H:CH},I n fr H->cM T (.loop c) fr H Q:=by
 intro n;induction n using Nat.strongRecOn with
 | _ n e=>
   intro fr H h;refine Ou.2 ((step n fr H h).mono λx fr' H' hx=> ?_);cases x with
   | normal=>obtain⟨m,f,hi⟩:=hx;exact e m f hi
   | exit i=>exact hx
   | ret=>exact hx
section ints
variable {k:IntKind} {a b:Int}
theorem iJ:bV (binOp .add 0 (.int k a) (.int k b))=some (.int k (k.wrap (a+b))):=by simp[binOp,Jm,bV,lO]
theorem T4:bV (binOp .sub 0 (.int k a) (.int k b))=some (.int k (k.wrap (a-b))):=by simp[binOp,Jm,bV,lO]
theorem aaM:bV (binOp .mul 0 (.int k a) (.int k b))=some (.int k (k.wrap (a*b))):=by simp[binOp,Jm,bV,lO]
theorem aaN(h:b≠0):bV (binOp .quo 0 (.int k a) (.int k b))=some (.int k (k.wrap (a.tdiv b))):=by simp[binOp,Op.intDiv,bV,lO,h]
theorem aaO(h:b≠0):bV (binOp .rem 0 (.int k a) (.int k b))=some (.int k (a.tmod b)):=by simp[binOp,Op.intDiv,bV,lO,h]
theorem y7:bV (binOp .eql 0 (.int k a) (.int k b))=some (.bool (decide (a=b))):=by simp[binOp,Op.intCmp,bV,lO];by_cases h:a=b<;>simp[h]
theorem aaP:bV (binOp .neq 0 (.int k a) (.int k b))=some (.bool (decide (a≠b))):=by simp[binOp,Op.intCmp,bV,lO];by_cases h:a=b<;>simp[h]
theorem sn:bV (binOp .lss 0 (.int k a) (.int k b))=some (.bool (decide (a<b))):=by simp[binOp,Op.intCmp,bV,lO]
theorem aaQ:bV (binOp .leq 0 (.int k a) (.int k b))=some (.bool (decide (a<=b))):=by simp[binOp,Op.intCmp,bV,lO]
theorem jM:bV (binOp .gtr 0 (.int k a) (.int k b))=some (.bool (decide (b<a))):=by simp[binOp,Op.intCmp,bV,lO]
theorem KL:bV (binOp .geq 0 (.int k a) (.int k b))=some (.bool (decide (b<=a))):=by simp[binOp,Op.intCmp,bV,lO]
theorem ajg:bV (binOp .and 0 (.int k a) (.int k b))=some (.int k (k.wrap (BitVec.ofInt k.bits a &&& BitVec.ofInt k.bits b).toNat)):=by simp[binOp,Op.intBits,bV,lO]
theorem ajh:bV (binOp .or 0 (.int k a) (.int k b))=some (.int k (k.wrap (BitVec.ofInt k.bits a ||| BitVec.ofInt k.bits b).toNat)):=by simp[binOp,Op.intBits,bV,lO]
theorem T5{k':IntKind}(h:0<=b):bV (binOp .shl 0 (.int k a) (.int k' b))=some (.int k (k.wrap (a*2 ^ min b.toNat k.bits))):=by
 have : ¬b<0:=by omega
 simp[binOp,Op.shift,bV,lO,this]
theorem KM{k':IntKind}(h:0<=b):bV (binOp .shr 0 (.int k a) (.int k' b))=some (.int k (a.fdiv (2 ^ min b.toNat k.bits))):=by
 have : ¬b<0:=by omega
 simp[binOp,Op.shift,bV,lO,this]
theorem OO{t:Bool}:bV (Op.unary .not (.bool t))=some (.bool (!t)):=rfl
theorem gY(h1 : -9223372036854775808<=a)(h2:a<=9223372036854775807):IntKind.i64.wrap a=a:=by rw[IntKind.wrap_i64];omega
theorem aaR(h1:0<=a)(h2:a<18446744073709551616):IntKind.u64.wrap a=a:=by rw[IntKind.wrap_u64];omega
theorem aaS(h1:0<=a)(h2:a<256):IntKind.u8.wrap a=a:=by rw[IntKind.wrap_u8];omega
theorem aaT(h:0<=a):a.tdiv b=a / b:=by rw[Int.tdiv_eq_ediv_of_nonneg h]
theorem aaU(h:0<=a):a.tmod b=a % b:=by rw[Int.tmod_eq_emod_of_nonneg h]
end ints
end
end Can
end Go.Proofs.YticlaccbodpkeaaGreatDoor
namespace Go.Proofs.YticlaccbodpkeaaGreatDoor
open Go.ChangeShapes Go.WideShapes Go.ChangeAt Go.RowKit
section
variable {P:aY} {T E sz:Nat} (hT:P.underlying T=some (.slice E)) (hE:(P.info? E).map (·.size)=some sz)
include hT hE
end
end Go.Proofs.YticlaccbodpkeaaGreatDoor
namespace Go.Proofs.YticlaccbodpkeaaGreatDoor
open Go.ChangeShapes Go.WideShapes Go.ChangeAt Go.RowKit Go.Deep
theorem aaV{α:Type}{n:Nat}{p:Nat->α->Prop}(each : ∀i,i<n->∃y,p i y) : ∃ys:List α,ys.length=n/\∀i (h:i<ys.length),p i ys[i]:=by
 induction n with
 | zero=>exact⟨[],rfl,λi h=>absurd h (fM _)⟩
 | succ n g=>
   obtain⟨ys,c,j⟩:=g (λi hi=>each i Om);obtain⟨y,h1⟩:=each n Om;refine⟨ys++ [y],by simp[c],λi hi=> ?_⟩;by_cases f:i<ys.length
   ·rw[List.getElem_append_left f];exact j i f
   have e:i=n:=by simp at hi;omega
   subst e;rw[List.getElem_append_right Om];simpa[c] using h1
section
variable {H:Type} {enc:aI×ae->H} {P:aY} {w:aq} {base:Nat} {spare:Nat->Bool} {held:Bool}
end
end Go.Proofs.YticlaccbodpkeaaGreatDoor
