/- Canonical runs: functions. Over any program. What a value in memory reads as: slices, integers; what keeps a reading; append and make in these words. Plain lemmas over any program. -/
import Derived.Test.YtdfgkcoenagaaaaGreatWa
import Derived.Test.YtdfgkcoenagaaaaGreatWb
import Derived.Test.YtdfgkcoenagaaaaGreatRows
import Derived.WalkKit
import Derived.ProofKit
import Derived.OpenShut
import Derived.Lib.Hide
import Derived.Deep.Slices
open Array renaming all_eq_true_iff_forall_mem → ao9, ext' → qY, getD_eq_getD_getElem? → mV, getElem?_eq_getElem → sm, getElem?_push → C1, getElem?_setIfInBounds_ne → TV, getElem_toList → Jn, replicate → NO
open Bool renaming and_eq_true → eZ, false_eq_true → aM, not_eq_true' → xo, not_false → FN, or_eq_true → zp, true_and → zq
open Classical renaming byContradiction → NR
open Go renaming Code → fT, Deferred → uk, FuncId → bk, Oper → cu, Operand → au, Program → aZ, TypeId → aH, Value → ae, World → ar
open Go.Fence renaming wide → gZ
open Go.Instr renaming sureAddr → C7
open Go.Op renaming intArith → FM
open Go.Region renaming binds → Dg, ready → xw, wanted → Js
open Go.Result renaming andThen → xu, andThen_ok → bY
open Go.Sem renaming run_bind → cg, run_pure → cO
open Go.World renaming putObj_heap_other → AS
open Iff renaming rfl → fJ
open List renaming append_of_mem → NQ, cons_append → aS, getD_eq_getElem?_getD → uj, getElem?_append_left → ui, getElem?_append_right → tu, getElem?_cons_succ → FO, getElem?_cons_zero → Jt, getElem?_eq_getElem → dx, map_append → qt, map_congr_left → vX, map_cons → dq, mem_append → fp, mem_append_left → vY, mem_cons → jw, mem_cons_of_mem → kD, mem_cons_self → ny, nil_append → a6, pairwise_cons → NP, range → my
open Nat renaming add_assoc → jW, le_max_left → vV, le_max_right → vW, le_refl → ag, le_succ → nz, le_succ_of_le → xn, lt_irrefl → Dh, lt_or_ge → pE, not_lt_zero → su
open Option renaming getD_some → qp, map_some → fo
open Pure renaming pure → kE
set_option linter.unusedSimpArgs false
set_option linter.unusedVariables false
namespace Go.Proofs.YtdfgkcoenagaaaaGreat
namespace Can
section
open Go Go.RowKit
variable {P:aZ} {B:Nat}
inductive nJ where
 | tmp (t:Nat)
 | ld (t:Nat)
 | j9 (n t:Nat)
def ji (fr:Fr)(H:CH):nJ->Option ae
 | .tmp t=>some (fr t)
 | .ld t=>bg H (aO fr) (.ld (.tmp t))
 | .j9 n t=>bg H (aO fr) (.j9 n (.tmp t))
def ct (fr:Fr)(H:CH):List nJ->Option (List ae)
 | []=>some []
 | r::rs=>match ji fr H r,ct fr H rs with
   | some v,some vs=>some (v::vs)
   | _,_=>none
def eV:List ae->ae
 | [v]=>v
 | vs=> .tuple vs.toArray
structure wq where
 ntmps:Nat
 res:List nJ
 body:bU
structure cF where
 fn:bk->Option wq
 loop:Nat×Nat->Option (List Nat×bU×bU)
 ext:bk->Bool
 xt:Hd
def DR(fr:Fr)(ps:List Nat)(args:List ae):Fr:=(ps.zip args).foldl (λfr p=>bE fr (some p.1) p.2) fr
def uC:bP->Option (Option Nat)
 | .normal=>none
 | .ret=>some none
 | .exit i=>some (some i)
noncomputable def dg(T:cF):Nat->Hd
 | 0=>⟨λ_ _ _=>none,λ_ _ _=>none⟩
 | n+1=>⟨λf args H=>if T.ext f then T.xt.call f args H else match T.fn f with
   | some rf=>match bG (dg T n) n rf.body (λt=>args.getD t undef) H with
     | some (.normal,fr',H')=>(ct fr' H' rf.res).map λvs=>(eV vs,H')
     | some (.ret,fr',H')=>(ct fr' H' rf.res).map λvs=>(eV vs,H')
     | _=>none
   | none=>none,λl args H=>match H.ob l with
   | .loop .ready _ fr key=>match T.loop key with
     | some (ps,bF,body)=>if args.length=ps.length then match bG (dg T n) n bF (DR fr ps args) H with
       | some (.normal,g,c)=>match c.ob l with
         | .loop .ready gP i j=>match bG (dg T n) n body g (c.set l (.loop .busy gP i j)) with
           | some (x,_,e)=>match e.ob l with
             | .loop _ _ o p=>some (.bool (uC x).isNone,e.set l (.loop (if (uC x).isNone then .ready else .done) (uC x) o p))
             | _=>none
           | none=>none
         | _=>none
       | _=>none
       else none
     | none=>none
   | _=>none⟩
noncomputable def pM(T:cF)(n:Nat):bk->List ae->CH->Option (ae×CH):=(dg T n).call
inductive J8(P:aZ):ResultVar->nJ->Prop where
 | tmp {t:Nat}:J8 P (.tmp t) (.tmp t)
 | ld {a t:Nat} {d:TypeDesc} (h:P.underlying t=some d) (hd:(match d with | .struct _ | .array _ _=>true | _=>false)=false):J8 P (.cell a t) (.ld a)
 | j9 {a t n:Nat} {d:TypeDesc} (h:P.underlying t=some d) (hd:(match d with | .struct _ | .array _ _=>true | _=>false)=true) (hn:(P.info? t).map (·.size)=some n):J8 P (.cell a t) (.j9 n a)
inductive Bq(P:aZ):List ResultVar->List nJ->Prop where
 | nil:Bq P [] []
 | cons {r:ResultVar} {q:nJ} {rs:List ResultVar} {qs:List nJ} (h:J8 P r q) (hs:Bq P rs qs):Bq P (r::rs) (q::qs)
structure J9(P:aZ)(f:bk)(rf:wq):Prop where
 call:rr P f=true
 ok : ∃fn c,P.funcs[f]? = some fn/\fn.body=some c/\fn.ntmps=rf.ntmps/\jL P rf.ntmps c rf.body/\Bq P fn.results.toList rf.res
def DU(tmps:Array ae):ResultVar->Sem ae
 | .tmp t=>pure (tmps.getD t undef)
 | .cell a t=>do loadVar t (<-asAddr (tmps.getD a undef))
theorem aeR{β:Nat->aC}{H:CH}{w:ar}{fr:Fr}{N:Nat}{a:Act}(j:aN P B β H w)(g:FR β N fr a) : ∀ {rs:List ResultVar} {qs:List nJ} {vs:List ae},Bq P rs qs->ct fr H qs=some vs->
 ∃f,(rs.mapM (DU a.tmps)).run P w= .ok f w/\aW β vs f:=by
 intro rs qs vs h;induction h generalizing vs with
 | nil=>intro c;simp only[ct,Option.some.injEq] at c;subst c;exact⟨[],rfl,aW.nil β⟩
 | @cons r q rs qs i Q A=>
   intro c;simp only[ct] at c;split at c
   ·rename_i v C h1 h2;cases c;obtain⟨f,D,F⟩:=A h2;have hv : ∃v',(DU a.tmps r).run P w= .ok v' w/\VR β v v':=by
     cases i with
     | @tmp t=>
       simp only[ji,Option.some.injEq] at h1;subst h1;exact⟨_,rfl,g.2 t⟩
     | @ld s t d h hd=>
       simp only[ji,bg,aO] at h1;have hx:=g.2 s;split at h1
       ·rename_i l U ha;split at h1;·rename_i cs e k G;rw[ha] at hx;obtain⟨b,z,I,hc⟩:=j.load hx G;obtain⟨u,hu,J⟩:=hc _ _ h1;refine⟨u,?_,J⟩;simp only[DU,I,asAddr,loadVar,cg,cO,bY,UB h hd,aM,iF];simp[Go.load,Sem.run,hu]
        cases h1
       cases h1
     | @j9 s t n d h hd hn=>
       have hx:=g.2 s;obtain⟨u,hu,c⟩:=UC (x:= .tmp s) h hd hn B β H w (aO fr) (λ_=>a.tmps.getD s undef) { dst:=none,op:= .load t (.tmp s),type:=0,pos:= "",after:= #[],guard:=none } v rfl (λx o=>by simp[Op.operands] at o;subst o;exact hx) j h1;refine⟨u,?_,c⟩;simp only[DU];simp only[execOp,Instr.loadAt,cg] at hu;generalize i:a.tmps.getD s undef=q at hu⊢;rw[i] at hx;cases q with
       | pointer p=>
         cases p with
         | none=>simp[C7,Sem.run,stuck] at hu
         | some p=>
           simp only[C7,cO,bY] at hu;simp only[asAddr,cg,cO,bY];cases hl:(loadVar t p).run P w with
           | ok y L=>rw[hl] at hu;simp only[bY,Result.ok.injEq,Next.value.injEq] at hu;rw[hu.1,hu.2]
           | halt y L=>rw[hl] at hu;simp[xu] at hu
       | _=>simp[C7,Sem.run,stuck,xu] at hu
    obtain⟨v',M,O⟩:=hv;refine⟨v'::f,?_,F.cons O⟩;simp only[List.mapM_cons,cg,M,bY,D,cO]
   cases c
theorem OE{β:Nat->aC}{H:CH}{w:ar}{fr:Fr}{N:Nat}{a:Act}(n:aN P B β H w)(o:FR β N fr a){fn:Func}{qs:List nJ}{vs:List ae}(h:Bq P fn.results.toList qs)(f:ct fr H qs=some vs) :
 ∃v',(results fn a.tmps).run P w= .ok v' w/\VR β (eV vs) v':=by
 obtain⟨c,h1,h2⟩:=aeR n o h f;have q:(fn.results.mapM (DU a.tmps)).run P w= .ok c.toArray w:=by
  rw[Array.mapM_eq_mapM_toList];simp only[Sem.run_map,h1,bY]
 have s:(results fn a.tmps).run P w= .ok (if g:c.toArray.size=1 then c.toArray[0] else .tuple c.toArray) w:=by
  have:results fn a.tmps=(do let vs <-fn.results.mapM (DU a.tmps);pure (if h:vs.size=1 then vs[0] else .tuple vs)):=rfl;rw[this];simp only[cg,q,bY,cO]
 refine⟨_,s,?_⟩;match vs,c,h2 with
 | [],[],_=>exact .undef _
 | [v],[v'],h2=>
   obtain⟨u,hu,f⟩:=h2.2 0 v rfl;simp at hu;subst hu;simpa[eV] using f
 | v::i::vs,v'::j::c,h2=>
   have e:(eV (v::i::vs))= .tuple (v::i::vs).toArray:=rfl;rw[e,dif_neg s0];have:=(aW.arr (xa:=(v::i::vs).toArray) (bs:=(v'::j::c).toArray)).1 (by simpa using h2);exact .tuple this.1 this.2
 | [],_::_,h2=>exact absurd h2.1 s0
 | [_],[],h2=>exact absurd h2.1 s0
 | [_],_::_::_,h2=>exact absurd h2.1 s0
 | _::_::_,[],h2=>exact absurd h2.1 s0
 | _::_::_,[_],h2=>exact absurd h2.1 s0
structure Ve(P:aZ)(key:Nat×Nat)(ps:List Nat)(bF body:bU):Prop where
 ok : ∃N ca cb,keyOf P key=some (N,ps.toArray,ca,cb)/\jL P N ca bF/\jL P N cb body/\∀p∈ps,p<N
structure uD(P:aZ)(B:Nat)(T:cF):Prop where
 fn : ∀f rf,T.fn f=some rf->J9 P f rf
 loop : ∀key ps bF body,T.loop key=some (ps,bF,body)->Ve P key ps bF body
 ext:HS P B T.xt
theorem aN.OF{β:Nat->aC}{H:CH}{w:ar}(h:aN P B β H w){D:Nat}{o o':Obj}(i:w.heap[D]? = some o)(hk:(∀cs e f,o≠ .cells cs e f)/\(∀es c,o≠ .map es c)/\(∀r,o≠ .loop r)/\(∀s p,o≠ .stringIter s p)/\∀a b c d,o≠ .mapIter a b c d):aN P B β H (w.putObj D o'):=by
 refine⟨λl=>(h.iK l).mono (eU.refl β) λb hb=>AS ?_,h.nx,h.inj,by simpa using h.base⟩;rintro rfl;rcases hb with ⟨z,sz,n,kd,hb⟩ | hb | hb
 ·obtain⟨cs,e,_,cs',e',hU,g,_⟩:=h.live hb;rw[i] at g;cases g;exact hk.1 _ _ _ rfl
 ·have:=h.iK l;rw[hb] at this;cases ho:H.ob l with
  | map es c=>rw[ho] at this;obtain⟨_,j,g,_⟩:=this;rw[i] at g;cases g;exact hk.2.1 _ _ rfl
  | qx q pp=>rw[ho] at this;have g:=this.2;rw[i] at g;cases g;exact hk.2.2.2.1 _ _ rfl
  | xJ t=>rw[ho] at this;obtain⟨_,_,_,_,_,_,g⟩:=this;rw[i] at g;cases g;exact hk.2.2.2.2 _ _ _ _ rfl
  | _=>rw[ho] at this;exact this.elim
 obtain⟨_,_,_,_,_,_,r,_,g,_⟩:=h.loop hb;rw[i] at g;cases g;exact hk.2.2.1 _ rfl
theorem Vf{fn:Func}{tmps:Array ae}{R:Ending->ar->Prop}{B1:Nat}{β0 β:Nat->aC}{w0:ar}{H:CH} : ∀(ms:List Nat) (w:ar),aN P B β H w->bD β0 w0 β w->w0.heap.size<=B1->ms.Nodup->(∀D∈ms,B1<=D/\w.heap[D]? = some (.deferred (some [])))->
 (∀w',aN P B β H w'->bD β0 w0 β w'->∃v,(results fn tmps).run P w'= .ok v w'/\R (.returned v) w')->LeavesInM gZ 0 P fn tmps R (ms.map J1) .returning w
 | [],w,c,hE,g,hn,e,f=>f w c hE
 | D::ms,w,c,hE,g,hn,e,f=>by
   obtain⟨h1,h2⟩:=e D (ny ..);have s:=(Array.getElem?_eq_some_iff.1 h2).1;refine⟨s0, .inl ⟨D,w.putObj D (.deferred none),rfl,run_takeDeferred h2,?_⟩⟩;refine Vf ms _ (c.OF (o':= .deferred none) h2 ⟨λ_ _ _=>by simp,λ_ _=>by simp,λ_=>by simp,λ_ _=>by simp,λ_ _ _ _=>by simp⟩) ?_ g (List.nodup_cons.1 hn).2 (λj i=> ?_) f
   ·exact⟨hE.os,hE.tape,hE.output,by simpa using hE.size,λb hb ho=>by
     obtain⟨k1,n⟩:=hE.cY b hb ho;exact⟨(AS Om).trans k1,n⟩,hE.ext⟩
   obtain⟨o,q⟩:=e j (kD _ i);refine⟨o,(AS ?_).trans q⟩;rintro rfl;exact(List.nodup_cons.1 hn).1 i
theorem Vg{β:Nat->aC}{N:Nat} : ∀ {ps:List Nat} {args c:List ae} {fr:Fr} {tmps:Array ae},(∀p∈ps,p<N)->aW β args c->FR β N fr { tmps:=tmps,defers:= [] }->FR β N (DR fr ps args) { tmps:=(ps.zip c).foldl (λt p=>t.setIfInBounds p.1 p.2) tmps,defers:= [] }
 | [],args,c,fr,tmps,hp,ha,e=>by simpa[DR] using e
 | p::ps,[],c,fr,tmps,hp,ha,e=>by
   have:c= []:=List.length_eq_zero_iff.1 (by simpa using ha.1.symm);subst this;simpa[DR] using e
 | p::ps,v::args,[],fr,tmps,hp,ha,e=>absurd ha.1 s0
 | p::ps,v::args,v'::c,fr,tmps,hp,ha,e=>by
   have g:VR β v v':=by
    obtain⟨u,h1,h2⟩:=ha.2 0 v rfl;simp at h1;subst h1;exact h2
   have hs:aW β args c:=⟨by simpa using ha.1,λi v hv=>by simpa using ha.2 (i+1) v (by simpa using hv)⟩;have f:=e.put (d:=some p) (λx hx=>by cases hx;exact hp p (ny ..)) g;have:=Vg (ps:=ps) (λq j=>hp q (kD _ j)) hs (fr:=bE fr (some p) v) (tmps:=tmps.setIfInBounds p v') (by simpa[Act.put] using f);simpa[DR] using this
theorem sG{T:cF}(hT:uD P B T) : ∀n,HS P B (dg T n)
 | 0=>⟨λf args H v H' h=>by simp[dg] at h,λl args H v H' h=>by simp[dg] at h⟩
 | n+1=>⟨λf args H v H' h=>(by
   have C:=sG hT n;simp only[dg] at h;split at h;·exact hT.ext.1 f args H v H' h
   ·split at h
    ·rename_i rf J';have ri:=hT.fn f rf J';obtain⟨fn,c,DV,L,mc,wu,sF⟩:=ri.ok;refine .inl ⟨ri.call,fun β w g F j=> ?_⟩;refine callsIn_of_wp_marks DV L trivial ?_ rfl;have O:FR β rf.ntmps (λt=>args.getD t undef) { tmps:=g.toArray++NO (fn.ntmps-g.toArray.size) undef,defers:= [] }:=by
      refine⟨Sq,λt=> ?_⟩;simp only[List.getD,mV];by_cases ht:t<g.length
      ·have G:t<args.length:=by have:=j.1;omega
       obtain⟨v',h1,h2⟩:=j.2 t args[t] (by simp[G]);rw[Array.getElem?_append_left (by simpa using ht)];simp only[List.getElem?_toArray,h1,qp,dx G];exact h2
      have G:args.length<=t:=by have:=j.1;omega
      rw[List.getElem?_eq_none G];exact .undef _
     have fin : ∀(x:bP) (fr':Fr) (K:CH),(x= .normal\/x= .ret)->bG (dg T n) n rf.body (λt=>args.getD t undef) H=some (x,fr',K)->(ct fr' K rf.res).map (λvs=>(eV vs,K))=some (v,H')->
      c.wpIn gZ 0 P (bodyPostM gZ 0 P fn λe w'=>∃v' β',e= .returned v'/\VR β' v v'/\aN P B β' H' w'/\bD β w β' w') { tmps:=g.toArray++NO (fn.ntmps-g.toArray.size) undef,defers:= [] } w:=by
      intro x fr' K hx y z;cases Q:ct fr' K rf.res with
      | none=>rw[Q] at z;cases z
      | some vs=>
        rw[Q] at z;simp only[fo,Option.some.injEq,Prod.mk.injEq] at z;obtain⟨rfl,rfl⟩:=z;refine DQ (ro:=none) (B1:=w.heap.size) C wu β _ fr' H K _ w x _ F O (λb hb=>by cases hb) (DM.none (D0:= []) rfl) (ag _) y fun β' w' a' I J U V=> ?_;obtain⟨ms,m1,m2,m3⟩:=V;have tH:LeavesInM gZ 0 P fn a'.tmps (λe w'=>∃v' β',e= .returned v'/\VR β' (eV vs) v'/\aN P B β' K w'/\bD β w β' w') a'.defers .returning w':=by
         rw[m1,List.append_nil];refine Vf ms w' I J (ag _) m2 (λD hD=>⟨(m3 D hD).1,(m3 D hD).2.1⟩) λw2 nF lf=> ?_;obtain⟨v',W,r2⟩:=OE nF U sF Q;exact⟨v',W,v',β',rfl,r2,nF,lf⟩
        rcases hx with rfl | rfl
        ·exact tH
        exact tH
     split at h;·rename_i fr' K y;exact fin .normal fr' K (.inl rfl) y h
     ·rename_i fr' K y;exact fin .ret fr' K (.inr rfl) y h
     cases h
    cases h),λl args H v H' h β w b g F hl j=>by
   have C:=sG hT n;obtain⟨st,gP,fr,key,ho,_,r,N,W,r2,r3,r4,r5,r6⟩:=F.loop hl;simp only[dg,ho] at h;split at h
   ·rename_i api aj aeS gz;cases gz;split at h
    ·rename_i ps bF body Br;split at h
     ·rename_i A;obtain⟨N',ca,cb,hk,X,Y,JM⟩:=(hT.loop _ _ _ _ Br).ok;rw[r4] at hk;simp only[Option.some.injEq,Prod.mk.injEq] at hk;obtain⟨hN,k1,k2,k3⟩:=hk;subst hN;have fA:g.toArray.size=r.params.size:=by rw[k1];simp;rw[<-A,j.1]
      refine⟨r.fn,_,r.assign,r.body,run_yield W fA,roundIn_of_wpIn trivial ?_⟩;have Z:(r.params.zip g.toArray).foldl (λtmps (t,a)=>tmps.setIfInBounds t a) r.tmps=(ps.zip g).foldl (λt p=>t.setIfInBounds p.1 p.2) r.tmps:=by
       rw[k1,<-Array.foldl_toList];simp
      rw[Z];have O:=Vg (ps:=ps) JM j (fr:=fr) (tmps:=r.tmps) ⟨r5,r6⟩;have aeU:DL β (some b):=λb' fD=>by cases fD;exact⟨l,hl⟩
      split at h
      ·rename_i aX H2 aeV;split at h
       ·rename_i OG fX GH Bp;rw[k2];refine DQ (ro:=some b) (B1:=0) C X β _ aX H H2 _ w .normal _ F O aeU (DM.none (D0:= []) rfl) (Nat.zero_le _) aeV fun β2 w2 a2 I J U V=> ?_;have o:β2 l= .loop b:=by
         rcases J.ext l with q | q | ⟨_,_,_,_,q,_⟩
         ·rw[q,hl]
         ·rw[hl] at q;cases q
         rw[hl] at q;cases q
        obtain⟨_,_,_,_,Vh,_,s,M,s1,s2,s3,s4,s5,s6⟩:=I.loop o;rw[Bp] at Vh;cases Vh;obtain⟨z1,z2⟩:=I.Oy o (st:= .busy) (gP:=OG) (fr:=fX) (key:=GH) (r:= { s with state:= .busy }) (N:=M) rfl s3 s4 s5 s6;refine⟨_,run_beginRound s1 s2,?_⟩;rw[k3];split at h
        ·rename_i x OH H4 L;refine DQ (ro:=some b) (B1:=0) C Y β2 _ OH _ H4 _ _ x _ z1 (U.mono z2.ext) (λb' fD=>by cases fD;exact⟨l,o⟩) (V.kJ z2 rfl) (Nat.zero_le _) L fun β4 w4 a4 p1 p2 p3 p4=> ?_;have ep:β4 l= .loop b:=by
          rcases p2.ext l with q | q | ⟨_,_,_,_,q,_⟩
          ·rw[q,o]
          ·rw[o] at q;cases q
          rw[o] at q;cases q
         split at h
         ·rename_i st5 apj J6 J7 OI;cases h;obtain⟨_,_,_,_,Vi,_,u,M',u1,u2,u3,u4,u5,u6⟩:=p1.loop ep;rw[OI] at Vi;cases Vi;have fin : ∀jump:Option fT,(uC x).map N1=jump->∃v' w',(Instr.endRound b jump).run P w4= .ok v' w'/\∃OJ β',Ending.returned v'= .returned OJ/\VR β' (.bool (uC x).isNone) OJ/\aN P B β' (H4.set l (.loop (if (uC x).isNone then .ready else .done) (uC x) J6 J7)) w'/\bD β w β' w':=by
           intro jump hj;have Vj:jump.isNone=(uC x).isNone:=by rw[<-hj];cases uC x<;>rfl
           obtain⟨y1,y2⟩:=p1.Oy ep (st:=if (uC x).isNone then .ready else .done) (gP:=uC x) (fr:=J6) (key:=J7) (r:= { u with state:=if jump.isNone then .ready else .done,pending:=jump }) (N:=M') (by rw[Vj]) hj.symm u4 u5 u6;exact⟨_,_,run_endRound jump u1,_,β4,rfl,by rw[Vj];exact .bool _,y1,J.trans (z2.trans (p2.trans y2))⟩
          cases x with
          | normal=>exact fin none rfl
          | ret=>exact fin (some .ret) rfl
          | exit i=>exact fin (some (.exit i)) rfl
         cases h
        cases h
       cases h
      cases h
     cases h
    cases h
   cases h⟩
theorem Vk{T:cF}(hT:uD P B T){n:Nat}{f:bk}{args:List ae}{H H':CH}{v:ae}(h:pM T n f args H=some (v,H')){β:Nat->aC}{w:ar}{c:List ae}(g:aN P B β H w)(ha:aW β args c)(hc:rr P f=true) :
 Calls P f c.toArray w λe w'=>∃v' β',e= .returned v'/\VR β' v v'/\aN P B β' H' w'/\bD β w β' w':=
 callsIn_wide.1 (((sG hT n).1 f args H v H' h).resolve_right (λhx=>by
  obtain⟨v',_,i⟩:=hx.1.2 β c ha;have h1:=i w;rw[Bm hc] at h1;cases h1) |>.2 β w c g ha)
end
section
open Go Go.RowKit
variable {P:aZ} {B:Nat}
def ry (P:aZ)(t:aH):Option Nat:=(P.info? t).map (·.size)
def Bs:List (Option Nat)->Option (List Nat)
 | []=>some []
 | some x::r=>(Bs r).map (x:: ·)
 | none::_=>none
theorem Vl : ∀ {l:List (Option Nat)} {r:List Nat},Bs l=some r->l=r.map some
 | [],r,h=>by simp[Bs] at h;subst h;rfl
 | some x::l,r,h=>by
   simp only[Bs] at h;cases hl:Bs l with
   | none=>rw[hl] at h;cases h
   | some q=>rw[hl] at h;cases h;simp[Vl hl]
 | none::l,r,h=>by simp[Bs] at h
def Vm:au->Bool
 | .const _=>true
 | _=>false
def OK(P:aZ)(c:Call):Option fG:=
 match c.callee with
 | .value (.func f)=>some (.call f c.args.toList)
 | .value (.tmp t)=>some (.nG (.tmp t) c.args.toList)
 | .builtin .len=>match c.args.toList,c.argTypes.toList with
   | [x],[t]=>match P.underlying t with
     | some (.slice _)=>some (.p (.len x))
     | some .string=>some (.p (.lens x))
     | _=>none
   | _,_=>none
 | .builtin .append=>match c.args.toList,c.argTypes.toList with
   | [s,x],[t,u]=>match P.underlying t,P.underlying u with
     | some (.slice e),some (.slice e')=>match P.info? e with
       | some i=>match i.zero with
         | some z=>if e'=e/\z.cells.size=i.size/\0<i.size then some (.w (.app e i.size i.bytes s x)) else none
         | none=>none
       | none=>none
     | some (.slice e),some .string=>match P.info? e with
       | some i=>match i.zero with
         | some z=>if z.cells.size=i.size/\0<i.size then some (.w (.app e i.size i.bytes s x)) else none
         | none=>none
       | none=>none
     | _,_=>none
   | _,_=>none
 | .builtin .unsafeSliceData=>match c.args.toList,c.argTypes.toList with
   | [x],[_]=>some (.p (.F2 x))
   | _,_=>none
 | .builtin .unsafeString=>match c.args.toList,c.argTypes.toList with
   | [p,n],[g,_]=>match P.underlying g with
     | some (.pointer e)=>if P.cellsOf e=1 then some (.w (.Gg e p n)) else none
     | _=>none
   | _,_=>none
 | .builtin .max=>match c.args.toList with
   | [x,y]=>some (.p (.mx true x y))
   | _=>none
 | .builtin .min=>match c.args.toList with
   | [x,y]=>some (.p (.mx false x y))
   | _=>none
 | .builtin .delete=>match c.args.toList,c.argTypes.toList with
   | [x,k],[t,_]=>match P.underlying t with
     | some (.map j _)=>match P.underlying j with
       | some d=>match uw d with
         | some kk=>some (.w (.del kk x k))
         | none=>none
       | none=>none
     | _=>none
   | _,_=>none
 | .builtin .copy=>match c.args.toList,c.argTypes.toList with
   | [d,s],[t,_]=>match P.underlying t with
     | some (.slice e)=>match ry P e with
       | some sz=>some (.w (.F9 sz d s))
       | none=>none
     | _=>none
   | _,_=>none
 | _=>none
def lM(P:aZ):Op->Option fG
 | .move x=>some (.p (.tD x))
 | .assign x=>some (.p (.tD x))
 | .pick c a b=>some (.p (.pick c a b))
 | .box e x=>match ry P e with
   | some _=>some (.a (.box e x))
   | none=>none
 | .alloc e=>match P.info? e with
   | some i=>match i.zero with
     | some z=>if Bl z.cells.toList=true then some (.a (.new e z.cells.toList)) else none
     | none=>none
   | none=>none
 | .build t ps=>match P.underlying t,P.info? t with
   | some (.struct fs),some i=>match i.zero with
     | some (.agg z)=>match Bs (fs.toList.map λf=>ry P f.type) with
       | some o=>if Bl z.toList=true/\(ps.toList.all λp=>decide (p.1<fs.size))=true then
          some (.p (.xL z.toList (ps.toList.filterMap λp=>((fs.toList.map (·.offset)).zip o)[p.1]?.map λq=>(q.1,q.2,p.2)))) else none
       | none=>none
     | _=>none
   | some (.array n e),some i=>match i.zero,ry P e with
     | some (.agg z),some sz=>if Bl z.toList=true then some (.p (.xL z.toList (ps.toList.map λp=>(p.1*sz,sz,p.2)))) else none
     | _,_=>none
   | _,_=>none
 | .field st x f=>match P.underlying st with
   | some (.struct fs)=>match fs[f]? with
     | some j0=>match P.underlying j0.type,ry P j0.type with
       | some d,some n=>some (.p (.j0 x j0.offset (if xN d then some n else none)))
       | _,_=>none
     | none=>none
   | _=>none
 | .buildSlice t n ps=>match P.underlying t with
   | some (.slice e)=>match P.info? e with
     | some i=>match i.zero with
       | some z=>if Bl z.cells.toList=true/\0<z.cells.size then some (.a (.xW e i.size n z.cells.toList ps.toList)) else none
       | none=>none
     | none=>none
   | _=>none
 | .load t x=>match P.underlying t with
   | some d=>if xN d then match ry P t with
      | some n=>some (.l (.j9 n x))
      | none=>none
     else some (.l (.ld x))
   | none=>none
 | .store t x v=>match ry P t with
   | some n=>some (.w (.st n x v))
   | none=>none
 | .nilCheck x=>some (.p (.A8 x))
 | .binOp op t x y _=>match P.underlying t with
   | some .bool=>match op with
     | .eql=>some (.p (.A6 false x y))
     | .neq=>some (.p (.A6 true x y))
     | _=>none
   | some (.pointer e)=>match op,Vm x||Vm y with
     | .eql,true=>some (.p (.wg false x y))
     | .neq,true=>some (.p (.wg true x y))
     | .eql,false=>match P.info? e with
       | some j=>if j.size≠0 then some (.l (.Bb false x y)) else some (.p (.wg false x y))
       | none=>some (.p (.wg false x y))
     | .neq,false=>match P.info? e with
       | some j=>if j.size≠0 then some (.l (.Bb true x y)) else some (.p (.wg true x y))
       | none=>some (.p (.wg true x y))
     | _,_=>none
   | some (.slice _)=>match op with
     | .eql=>some (.p (.eqs false x y))
     | .neq=>some (.p (.eqs true x y))
     | _=>none
   | some (.struct _)=>match op with
     | .eql=>some (.p (.Ds false (@JK P t) (@F5 P t) x y))
     | .neq=>some (.p (.Ds true (@JK P t) (@F5 P t) x y))
     | _=>none
   | some _=>some (.p (.bin op x y))
   | none=>none
 | .unOp op _ x=>some (.p (.un op x))
 | .convert s t x=>match P.underlying s,P.underlying t with
   | some _,some (.int k)=>some (.p (.conv k x))
   | some .string,some .string=>some (.p (.Dt x))
   | some (.slice e),some .string=>match P.underlying e with
     | some (.int .u8)=>some (.l (.b2s x))
     | _=>none
   | some .string,some (.slice e)=>match P.underlying e,P.info? e with
     | some (.int .u8),some i=>if i.size=1 then some (.w (.s2b e i.bytes x)) else none
     | _,_=>none
   | some (.slice e),some (.slice _)=>match P.underlying e with
     | some (.int .u8)=>if s=t then some (.w (.hU x)) else none
     | _=>none
   | some (.pointer u),some .unsafePointer=>match P.info? u with
     | some j=>if j.size≠0 then some (.l (.zy U1 x)) else none
     | none=>none
   | some .unsafePointer,some (.pointer u)=>match P.info? u with
     | some _=>some (.l (.zy (Gq (P:=P) u) x))
     | none=>none
   | _,_=>none
 | .makeMap t r=>if r.isNone then some (.w .F') else none
 | .insert t m k x | .mapUpdate t m k x=>match P.underlying t with
   | some (.map g _)=>match P.underlying g with
     | some d=>match uw d with
       | some kk=>some (.w (.Gb kk m k x))
       | none=>none
     | none=>none
   | _=>none
 | .lookup t x i ok=>match P.underlying t with
   | some (.map g A)=>match P.underlying g,P.info? A with
     | some d,some inf=>match uw d,inf.zero with
       | some kk,some z=>if uy z=true then some (.l (.Dz kk z ok x i)) else none
       | _,_=>none
     | _,_=>none
   | _=>none
 | .range t x=>match P.underlying t with
   | some .string=>some (.w (.Gc x))
   | some (.map _ _)=>some (.w (.Ge x))
   | _=>none
 | .next it s=>if s=true then some (.w (.cU it)) else some (.w (.Gf it))
 | .makeFunc (.func f) first dL=>if first.toList.isEmpty then some (.p (.fn f dL.toList)) else none
 | .makeSlice t l c=>match P.underlying t with
   | some (.slice e)=>match P.info? e with
     | some i=>match i.zero with
       | some z=>if Bl z.cells.toList=true/\0<z.cells.size then some (.a (.F7 e i.size i.bytes z.cells.toList l c)) else none
       | none=>none
     | none=>none
   | _=>none
 | .slice t x lo hi mx=>match P.underlying t with
   | some (.slice e)=>match ry P e with
     | some sz=>some (.l (.pI e sz x lo hi mx))
     | none=>none
   | some .string=>if mx.isNone then some (.p (.A7 x lo hi)) else none
   | _=>none
 | .fieldAddr s x f=>match P.underlying s with
   | some (.struct fs)=>match fs[f]? with
     | some j0=>match ry P j0.type with
       | some sz=>if sz≠0 then some (.p (.off x j0.offset)) else none
       | none=>none
     | none=>none
   | _=>none
 | .indexAddr t x i=>match P.underlying t with
   | some (.slice e)=>match ry P e with
     | some sz=>some (.p (.idx x i sz))
     | none=>none
   | some (.array n e)=>match ry P e with
     | some sz=>some (.p (.F1 x i n sz))
     | none=>none
   | _=>none
 | .index t x i=>match P.underlying t with
   | some .string=>some (.p (.Du x i))
   | some (.array n e)=>match P.underlying e,ry P e with
     | some d,some sz=>some (.p (.F3 x i n sz (xN d)))
     | _,_=>none
   | _=>none
 | .extract x i=>some (.p (.ext x i))
 | .call c=>OK P c
 | _=>none
theorem Ka{α:Type}{a:Array α}{x:α}(h:a.toList= [x]):a= #[x]:=by apply qY;simpa using h
theorem wv{α:Type}{a:Array α}{x y:α}(h:a.toList= [x,y]):a= #[x,y]:=by apply qY;simpa using h
theorem aeW{c:Call}{r:fG}(h:OK P c=some r):yb P (.call c) r:=by
 obtain⟨callee,args,ts⟩:=c;unfold OK at h;simp only at h;split at h;·cases h;exact .call rfl
 ·cases h;exact .nG rfl
 ·split at h
  ·rename_i x t ha ht;rw[Ka ha,Ka ht];split at h;·rename_i hu;cases h;exact .p (adP hu)
   ·rename_i hu;cases h;exact .p (adQ hu)
   cases h
  cases h
 ·split at h
  ·rename_i s x t u ha ht;rw[wv ha,wv ht];split at h
   ·rename_i e e' hu f;split at h
    ·rename_i i hi;split at h
     ·rename_i z hz;split at h;·rename_i g;obtain⟨rfl,j,o⟩:=g;cases h;exact .w (UP hu (.inl f) (by simp[hi,hz]) j o)
      cases h
     cases h
    cases h
   ·rename_i e hu f;split at h
    ·rename_i i hi;split at h
     ·rename_i z hz;split at h;·rename_i g;cases h;exact .w (UP hu (.inr f) (by simp[hi,hz]) g.1 g.2)
      cases h
     cases h
    cases h
   cases h
  cases h
 ·split at h;·rename_i x t ha ht;rw[Ka ha,Ka ht];cases h;exact .p adL
  cases h
 ·split at h
  ·rename_i p n q it ha ht;rw[wv ha,wv ht];split at h
   ·rename_i e hu;split at h;·rename_i hc;cases h;exact .w (aeH hu hc)
    cases h
   cases h
  cases h
 ·split at h;·rename_i x y ha;rw[wv ha];cases h;exact .p (UA (b:=true))
  cases h
 ·split at h;·rename_i x y ha;rw[wv ha];cases h;exact .p (UA (b:=false))
  cases h
 ·split at h
  ·rename_i x k t u ha ht;rw[wv ha,wv ht];split at h
   ·rename_i v A hu;split at h
    ·rename_i d hd;split at h;·rename_i kk hk;cases h;exact .w (aer hu hd hk)
     cases h
    cases h
   cases h
  cases h
 ·split at h
  ·rename_i d s t u ha ht;rw[wv ha,wv ht];split at h
   ·rename_i e hu;split at h;·rename_i sz hs;cases h;exact .w (aeh hu hs)
    cases h
   cases h
  cases h
 cases h
theorem Vn{op:Op}{r:fG}(h:lM P op=some r):yb P op r:=by
 cases op with
 | move x=>cases h;exact .p adu
 | assign x=>cases h;exact .p adw
 | pick c a b=>cases h;exact .p adx
 | box e x=>
   simp only[lM] at h;split at h;·rename_i sz hs;cases h;exact .a (ad3 hs)
   cases h
 | alloc e=>
   simp only[lM] at h;split at h
   ·rename_i i hi;split at h
    ·rename_i z hz;split at h;·rename_i hc;cases h;exact .a (ad4 (sz:=i.size) (by simp[hi]) (by simp[hi,hz]) (DK hc))
     cases h
    cases h
   cases h
 | build t ps=>
   simp only[lM] at h;split at h
   ·rename_i fs i hu hi;split at h
    ·rename_i z hz;split at h
     ·rename_i D hs;split at h
      ·rename_i g;cases h;refine .p (ad1 hu (by simp[hi,hz]) (DK g.1) D ?_ λp hp=> ?_);·exact Vl hs
       exact of_decide_eq_true (List.all_eq_true.1 g.2 p hp)
      cases h
     cases h
    cases h
   ·rename_i n e i hu hi;split at h
    ·rename_i z sz hz hs;split at h;·rename_i g;cases h;exact .p (ad2 hu hs (by simp[hi,hz]) (DK g))
     cases h
    cases h
   cases h
 | field st x f=>
   simp only[lM] at h;split at h
   ·rename_i fs hu;split at h
    ·rename_i j0 q;split at h;·rename_i d n hd hn;cases h;exact .p (adV hu q hd rfl hn)
     cases h
    cases h
   cases h
 | buildSlice t n ps=>
   simp only[lM] at h;split at h
   ·rename_i e hu;split at h
    ·rename_i i hi;split at h
     ·rename_i z hz;split at h;·rename_i g;cases h;exact .a (ad5 hu (by simp[hi]) (by simp[hi,hz]) (DK g.1) g.2)
      cases h
     cases h
    cases h
   cases h
 | load t x=>
   simp only[lM] at h;split at h
   ·rename_i d hd;split at h
    ·rename_i ha;split at h;·rename_i n hn;cases h;exact .l (UC hd (by cases d<;>first | rfl | cases ha) hn)
     cases h
    rename_i ha;cases h;exact .l (adY hd (by cases d<;>first | rfl | exact absurd rfl ha))
   cases h
 | store t x v=>
   simp only[lM] at h;split at h;·rename_i n hn;cases h;exact .w (ad9 hn)
   cases h
 | nilCheck x=>cases h;exact .p adK
 | binOp op t x y u=>
   simp only[lM] at h;split at h
   ·rename_i hu;split at h;·cases h;exact .p (Ur (neg:=false) hu)
    ·cases h;exact .p (Ur (neg:=true) hu)
    cases h
   ·rename_i hu;split at h;·cases h;exact .p (A9 (neg:=false) hu)
    ·cases h;exact .p (A9 (neg:=true) hu)
    ·split at h
     ·rename_i j o;split at h;·rename_i hz;cases h;exact .l (U2 (neg:=false) hu o hz)
      cases h;exact .p (A9 (neg:=false) hu)
     cases h;exact .p (A9 (neg:=false) hu)
    ·split at h
     ·rename_i j o;split at h;·rename_i hz;cases h;exact .l (U2 (neg:=true) hu o hz)
      cases h;exact .p (A9 (neg:=true) hu)
     cases h;exact .p (A9 (neg:=true) hu)
    cases h
   ·rename_i hu;split at h;·cases h;exact .p (Us (neg:=false) hu)
    ·cases h;exact .p (Us (neg:=true) hu)
    cases h
   ·rename_i fs hu;split at h;·cases h;exact .p (Uv (neg:=false) hu)
    ·cases h;exact .p (Uv (neg:=true) hu)
    cases h
   ·cases h;exact .p adA
   cases h
 | unOp op t x=>cases h;exact .p adB
 | convert s t x=>
   simp only[lM] at h;split at h;·rename_i d k hs ht;cases h;exact .p (adC hs ht)
   ·rename_i hs ht;cases h;exact .p (adD hs ht)
   ·rename_i e hs ht;split at h;·rename_i he;cases h;exact .l (aew hs ht he)
    cases h
   ·rename_i e hs ht;split at h
    ·rename_i i he hi;split at h;·rename_i h1;cases h;exact .w (aev hs ht he (by simp[hi,h1]))
     cases h
    cases h
   ·rename_i e e' hs ht;split at h
    ·rename_i he;split at h;·rename_i F;subst F;cases h;exact .w (aey hs he)
     cases h
    cases h
   ·rename_i u hs ht;split at h
    ·rename_i j o;split at h;·rename_i hz;cases h;exact .l (aeE hs ht o hz)
     cases h
    cases h
   ·rename_i u hs ht;split at h;·rename_i j o;cases h;exact .l (aeF hs ht o)
    cases h
   cases h
 | makeMap t r=>
   simp only[lM] at h;split at h;·rename_i G;cases h;exact .w (ael (by simpa using G))
   cases h
 | insert t m k x=>
   simp only[lM] at h;split at h
   ·rename_i A C hu;split at h
    ·rename_i d hd;split at h;·rename_i kk hk;cases h;exact .w (UY (.inr rfl) hu hd hk)
     cases h
    cases h
   cases h
 | mapUpdate t m k x=>
   simp only[lM] at h;split at h
   ·rename_i A C hu;split at h
    ·rename_i d hd;split at h;·rename_i kk hk;cases h;exact .w (UY (.inl rfl) hu hd hk)
     cases h
    cases h
   cases h
 | lookup t x i ok=>
   simp only[lM] at h;split at h
   ·rename_i A C hu;split at h
    ·rename_i d inf hd hi;split at h
     ·rename_i kk z hk hz;split at h;·rename_i hc;cases h;exact .l (aek hu hd hk hi hz (Gt hc))
      cases h
     cases h
    cases h
   cases h
 | range t x=>
   simp only[lM] at h;split at h;·rename_i hu;cases h;exact .w (aes hu)
   ·rename_i hu;cases h;exact .w (aep hu)
   cases h
 | next it s=>
   simp only[lM] at h;split at h;·rename_i hs;subst hs;cases h;exact .w aet
   rename_i hs;have I:s=false:=by simpa using hs
   subst I;cases h;exact .w aeq
 | makeFunc fn first dL=>
   cases fn with
   | func f=>
     simp only[lM] at h;split at h
     ·rename_i he;cases h;have:first= #[]:=by apply qY;simpa using he
      subst this;exact .p adM
     cases h
   | _=>cases h
 | makeSlice t l c=>
   simp only[lM] at h;split at h
   ·rename_i e hu;split at h
    ·rename_i i hi;split at h
     ·rename_i z hz;split at h;·rename_i g;cases h;exact .a (ad8 hu (by simp[hi]) (by simp[hi,hz]) (DK g.1) g.2)
      cases h
     cases h
    cases h
   cases h
 | slice t x lo hi mx=>
   simp only[lM] at h;split at h
   ·rename_i e hu;split at h;·rename_i sz hs;cases h;exact .l (adZ hu hs)
    cases h
   ·rename_i hu;split at h
    ·rename_i J;cases h;cases mx with
     | none=>exact .p (adS hu)
     | some m=>cases J
    cases h
   cases h
 | fieldAddr s x f=>
   simp only[lM] at h;split at h
   ·rename_i fs hu;split at h
    ·rename_i j0 q;split at h
     ·rename_i sz hs;split at h;·rename_i L;cases h;exact .p (adE hu q hs L)
      cases h
     cases h
    cases h
   cases h
 | indexAddr t x i=>
   simp only[lM] at h;split at h
   ·rename_i e hu;split at h;·rename_i sz hs;cases h;exact .p (adF hu hs)
    cases h
   ·rename_i n e hu;split at h;·rename_i sz hs;cases h;exact .p (adG hu hs)
    cases h
   cases h
 | index t x i=>
   simp only[lM] at h;split at h;·rename_i hu;cases h;exact .p (adH hu)
   ·rename_i n e hu;split at h;·rename_i d sz hd hs;cases h;exact .p (adW hu hd rfl hs)
    cases h
   cases h
 | extract x i=>cases h;exact .p adJ
 | call c=>exact aeW h
 | _=>cases h
end
section
open Go Go.RowKit
variable {P:aZ} {B:Nat}
def aeX:Op->Bool
 | .defer _=>true
 | _=>false
def Vo(N:Nat):Option Nat->Bool
 | some d=>decide (d<N)
 | none=>true
def OM(P:aZ)(N:Nat)(ops:Array cu)(o:cu):Option Item:=
 match lM P o.op with
 | some r=>
   if Vo N o.dst&&o.op.operands.toList.all zE && !aeX o.op then
    match o.guard with
    | none=>some ⟨o.dst,r,none⟩
    | some (j,b)=>match (ops[j]?).bind (·.dst) with
      | some s=>if s<N then some ⟨o.dst,r,some (s,b)⟩ else none
      | none=>none
   else none
 | none=>none
theorem aeY{N:Nat}{ops:Array cu}{o:cu}{it:Item}(h:OM P N ops o=some it):uz P N ops o it:=by
 unfold OM at h;split at h
 ·rename_i r g;split at h
  ·rename_i hg;simp only[eZ,xo] at hg;obtain⟨⟨i,u⟩,n⟩:=hg;have p : ∀d,o.dst=some d->d<N:=λd hd=>by rw[hd] at i;simpa[Vo] using i
   have q : ∀x∈o.op.operands,zE x=true:=λx hx=>List.all_eq_true.1 u x (by simpa using hx);have t : ∀c,o.op≠ .defer c:=λc e=>by rw[e] at n;cases n
   split at h;·rename_i f;cases h;exact⟨rfl,p,Vn g,q,t, .inl ⟨f,rfl⟩⟩
   rename_i j b f;split at h
   ·rename_i s hs;split at h;·rename_i v;cases h;exact⟨rfl,p,Vn g,q,t, .inr ⟨j,b,s,f,rfl,hs,v⟩⟩
    cases h
   cases h
  cases h
 cases h
def qz(P:aZ)(N:Nat)(ops:Array cu):List cu->Option (List Item)
 | []=>some []
 | o::r=>match OM P N ops o,qz P N ops r with
   | some it,some af=>some (it::af)
   | _,_=>none
theorem GJ{N:Nat}{ops:Array cu} : ∀ {l:List cu} {af:List Item},qz P N ops l=some af->af.length=l.length/\∀i (h1:i<af.length) (h2:i<l.length),uz P N ops l[i] af[i]
 | [],af,h=>by simp[qz] at h;subst h;exact⟨rfl,λi h1=>absurd h1 s0⟩
 | o::l,af,h=>by
   simp only[qz] at h;split at h
   ·rename_i it c h1 h2;cases h;obtain⟨e,f⟩:=GJ h2;refine⟨by simp[e],λi hi g=> ?_⟩;cases i with
    | zero=>exact aeY h1
    | succ i=>simpa using f i (by simpa using hi) (by simpa using g)
   cases h
def ki(P:aZ)(N:Nat)(rd:Array cu->Option jf)(f:Nat):Nat->fT->Option bU
 | _, .skip=>some .skip
 | _, .label _=>some .skip
 | _, .region _ ops false=>match qz P N ops ops.toList with
   | some af=>some (.gI af)
   | none=>some .bad
 | _, .region _ ops true=>match rd ops with
   | some d=>some (.lL d)
   | none=>some .bad
 | k, .seq a b=>match ki P N rd f k a,ki P N rd f (k+(l9 a).length) b with
   | some x,some y=>some (.seq x y)
   | _,_=>none
 | k, .cond c a b=>if zE c then match ki P N rd f k a,ki P N rd f (k+(l9 a).length) b with
    | some x,some y=>some (.cond c x y)
    | _,_=>none
   else some .bad
 | k, .block id c=>(ki P N rd f k c).map (.block id)
 | k, .loop c=>(ki P N rd f k c).map .loop
 | k, .scope c=>ki P N rd f k c
 | _, .exit id=>some (.exit id)
 | _, .ret=>some .ret
 | k, .rangeFunc g _ _ _=>if zE g then some (.rv g (f,k)) else some .bad
 | _,_=>some .bad
theorem OO{N f:Nat}{rd:Array cu->Option jf}(u : ∀ops d,rd ops=some d->zH P N ops d/\zJ P N ops d) : ∀ {c:fT} {k:Nat} {r:bU},(∀j x,(l9 c)[j]? = some x->keyOf P (f,k+j)=some (N,x))->ki P N rd f k c=some r->jL P N c r:=by
 intro c;induction c with
 | skip=>intro k r hk h;simp only[ki] at h;cases h;exact .skip
 | label l=>intro k r hk h;simp only[ki] at h;cases h;exact .label
 | region id ops draw=>
   intro k r hk h;cases draw with
   | false=>
     simp only[ki] at h;cases hi:qz P N ops ops.toList with
     | none=>rw[hi] at h;cases h;exact .bad
     | some af=>
       rw[hi] at h;cases h;obtain⟨v,z⟩:=GJ hi;exact .gI (by simpa using v) λi h1 h2=>by have:=z i h1 (by simpa using h2);rwa [Jn] at this
   | true=>
     simp only[ki] at h;cases hi:rd ops with
     | none=>rw[hi] at h;cases h;exact .bad
     | some d=>rw[hi] at h;cases h;exact .lL (u ops d hi)
 | seq a b o s=>
   intro k r hk h;simp only[l9] at hk;simp only[ki] at h;split at h
   ·rename_i x y hx t;cases h;exact .seq (o (λj q e=>hk j q (by rw[ui (List.getElem?_eq_some_iff.1 e).1];exact e)) hx)
     (s (λj q e=>by rw[jW];exact hk _ q (by rw[tu Om];simpa using e)) t)
   cases h
 | cond c a b o s=>
   intro k r hk h;simp only[l9] at hk;simp only[ki] at h;split at h
   ·rename_i hc;split at h
    ·rename_i x y hx t;cases h;exact .cond hc (o (λj q e=>hk j q (by rw[ui (List.getElem?_eq_some_iff.1 e).1];exact e)) hx)
      (s (λj q e=>by rw[jW];exact hk _ q (by rw[tu Om];simpa using e)) t)
    cases h
   cases h;exact .bad
 | block id c n=>
   intro k r hk h;simp only[ki] at h;cases hc:ki P N rd f k c with
   | none=>rw[hc] at h;cases h
   | some x=>rw[hc] at h;cases h;exact .block (n hk hc)
 | loop c n=>
   intro k r hk h;simp only[ki] at h;cases hc:ki P N rd f k c with
   | none=>rw[hc] at h;cases h
   | some x=>rw[hc] at h;cases h;exact .loop (n hk hc)
 | scope c n=>
   intro k r hk h;simp only[ki] at h;exact .scope (n hk h)
 | exit id=>intro k r hk h;simp only[ki] at h;cases h;exact .exit
 | ret=>intro k r hk h;simp only[ki] at h;cases h;exact .ret
 | rangeFunc g ps a b o s=>
   intro k r hk h;simp only[ki] at h;split at h;·rename_i hg;cases h;exact .rv hg (hk 0 _ rfl)
   cases h;exact .bad
 | _=>intro k r hk h;simp only[ki,Option.some.injEq] at h;subst h;exact .bad
def DW(L:List (Array Tmp×fT×fT)):Prop:=∀(i:Nat) (ps:Array Tmp) (a b:fT),L[i]? = some (ps,a,b)->∀j x,(l9 a++l9 b)[j]? = some x->L[i+1+j]? = some x
theorem DW.append{L M:List (Array Tmp×fT×fT)}(h:DW L)(k:DW M):DW (L++M):=by
 intro i ps a b hi j x c;by_cases hl:i<L.length
 ·rw[ui hl] at hi;have:=h i ps a b hi j x c;rw[ui (List.getElem?_eq_some_iff.1 this).1];exact this
 rw[tu Om] at hi;have:=k _ ps a b hi j x c;rw[tu Om,show i+1+j-L.length=i-L.length+1+j by omega];exact this
theorem aeZ(c:fT):DW (l9 c):=by
 have p:DW []:=λi ps a b h=>by simp at h
 induction c with
 | seq a b e f=>exact e.append f
 | cond c a b e f=>exact e.append f
 | block id c n=>exact n
 | loop c n=>exact n
 | scope c n=>exact n
 | rangeFunc g ps a b e f=>
   have:=e.append f;intro i qs x y hi j z o;cases i with
   | zero=>
     simp only[l9,Jt,Option.some.injEq,Prod.mk.injEq] at hi;obtain⟨rfl,rfl,rfl⟩:=hi;simp only[l9];rw[show 0+1+j=j+1 by omega,FO];exact o
   | succ i=>
     simp only[l9,FO] at hi;simp only[l9];rw[show i+1+1+j=(i+1+j)+1 by omega,FO];exact this i qs x y hi j z o
 | _=>exact p
theorem Vp{f k N:Nat}{fn:Func}{c:fT}(e:P.funcs[f]? = some fn)(hb:fn.body=some c){x:Array Tmp×fT×fT}:keyOf P (f,k)=some (N,x)↔fn.ntmps=N/\(l9 c)[k]? = some x:=by
 simp only[keyOf,e,hb,Option.map_eq_some_iff,Prod.mk.injEq];constructor;·rintro⟨y,h1,h2,rfl⟩;exact⟨h2,h1⟩
 rintro⟨h1,h2⟩;exact⟨x,h2,h1,rfl⟩
theorem Vq{f k N:Nat}{ps:Array Tmp}{a b:fT}(h:keyOf P (f,k)=some (N,ps,a,b)){j:Nat}{x:Array Tmp×fT×fT}(g:(l9 a++l9 b)[j]? = some x):keyOf P (f,k+1+j)=some (N,x):=by
 cases e:P.funcs[f]? with
 | none=>simp[keyOf,e] at h
 | some fn=>
   cases hb:fn.body with
   | none=>simp[keyOf,e,hb] at h
   | some c=>
     rw[Vp e hb] at h⊢;exact⟨h.1,aeZ c k ps a b h.2 j x g⟩
def Kb(P:aZ)(rd:Nat->Array cu->Option jf)(key:Nat×Nat):Option (List Nat×bU×bU):=
 match keyOf P key with
 | some (N,ps,a,b)=>if (ps.toList.all λp=>decide (p<N))=true then match ki P N (rd N) key.1 (key.2+1) a,ki P N (rd N) key.1 (key.2+1+(l9 a).length) b with
   | some x,some y=>some (ps.toList,x,y)
   | _,_=>none
   else none
 | none=>none
theorem ae0{rd:Nat->Array cu->Option jf}(e : ∀N ops d,rd N ops=some d->zH P N ops d/\zJ P N ops d){key:Nat×Nat}{ps:List Nat}{bF body:bU}(h:Kb P rd key=some (ps,bF,body)):Ve P key ps bF body:=by
 unfold Kb at h;split at h
 ·rename_i N qs a b hk;split at h
  ·rename_i f;split at h
   ·rename_i x y hx g;cases h;refine⟨N,a,b,by simpa using hk,OO (e N) (λj q c=>Vq hk (by rw[ui (List.getElem?_eq_some_iff.1 c).1];exact c)) hx,
     OO (e N) (λj q c=>by rw[jW (key.2+1)];exact Vq hk (by rw[tu Om];simpa using c)) g,λp hp=>of_decide_eq_true (List.all_eq_true.1 f p hp)⟩
   cases h
  cases h
 cases h
def GK(P:aZ):List ResultVar->Option (List nJ)
 | []=>some []
 | r::rs=>match (match r with
    | .tmp t=>some (.tmp t)
    | .cell a t=>match P.underlying t with
      | some d=>if xN d then (ry P t).map λn=> .j9 n a else some (.ld a)
      | none=>none:Option nJ),GK P rs with
   | some q,some qs=>some (q::qs)
   | _,_=>none
theorem Vr : ∀ {rs:List ResultVar} {qs:List nJ},GK P rs=some qs->Bq P rs qs
 | [],qs,h=>by simp[GK] at h;subst h;exact .nil
 | r::rs,qs,h=>by
   simp only[GK] at h;split at h
   ·rename_i q c h1 h2;cases h;refine .cons ?_ (Vr h2);cases r with
    | tmp t=>simp at h1;subst h1;exact .tmp
    | cell a t=>
      simp only at h1;split at h1
      ·rename_i d hd;split at h1
       ·rename_i ha;cases hs:ry P t with
        | none=>rw[hs] at h1;cases h1
        | some n=>rw[hs] at h1;cases h1;exact .j9 hd (by cases d<;>first | rfl | cases ha) hs
       rename_i ha;cases h1;exact .ld hd (by cases d<;>first | rfl | exact absurd rfl ha)
      cases h1
   cases h
def mJ(P:aZ)(rd:Nat->Array cu->Option jf)(f:bk):Option wq:=
 if rr P f then match P.funcs[f]? with
  | some fn=>match fn.body with
    | some c=>match ki P fn.ntmps (rd fn.ntmps) f 0 c,GK P fn.results.toList with
      | some r,some q=>some ⟨fn.ntmps,q,r⟩
      | _,_=>none
    | none=>none
  | none=>none
 else none
theorem Vs{rd:Nat->Array cu->Option jf}(g : ∀N ops d,rd N ops=some d->zH P N ops d/\zJ P N ops d){f:bk}{rf:wq}(h:mJ P rd f=some rf):J9 P f rf:=by
 unfold mJ at h;split at h
 ·rename_i hc;split at h
  ·rename_i fn e;split at h
   ·rename_i c hb;split at h;·rename_i r q i n;cases h;exact⟨hc,fn,c,e,hb,rfl,OO (g _) (λj x o=>by rw[Nat.zero_add,Vp e hb];exact⟨rfl,o⟩) i,Vr n⟩
    cases h
   cases h
  cases h
 cases h
end
section
open Go Go.RowKit
structure Bu(h h':Hd):Prop where
 call : ∀f a H r,h.call f a H=some r->h'.call f a H=some r
 round : ∀l a H r,h.round l a H=some r->h'.round l a H=some r
theorem OP{h h':Hd}(c:Bu h h'){fr:Fr}{H:CH}{o:fG}{r:ae×CH}(e:eb h fr H o=some r):eb h' fr H o=some r:=by
 cases o with
 | call f args=>exact c.call _ _ _ _ e
 | nG g args=>
   simp only[eb] at e⊢;split at e;·exact c.call _ _ _ _ e
   ·exact c.round _ _ _ _ e
   cases e
 | _=>exact e
theorem OQ{h h':Hd}(e:Bu h h'){it:Item}{fr:Fr}{H:CH}{r:Fr×CH}(c:cA h it fr H=some r):cA h' it fr H=some r:=by
 simp only[cA] at c⊢;split at c
 ·cases f:eb h fr H it.op with
  | none=>rw[f] at c;cases c
  | some q=>rw[f] at c;rw[OP e f];exact c
 ·exact c
 cases c
theorem DX{h h':Hd}(e:Bu h h') : ∀ {af:List Item} {fr:Fr} {H:CH} {r:Fr×CH},c9 h af fr H=some r->c9 h' af fr H=some r
 | [],fr,H,r,c=>c
 | it::af,fr,H,r,c=>by
   simp only[c9] at c⊢
   cases hs:cA h it fr H with
   | none=>rw[hs] at c;cases c
   | some q=>rw[hs] at c;rw[OQ e hs];exact DX e c
theorem OR{h h':Hd}(e:Bu h h') : ∀ {af:List Item} {fr:Fr} {H:CH} {r:Fr×CH×List CH},cE h af fr H=some r->cE h' af fr H=some r
 | [],fr,H,r,c=>c
 | it::af,fr,H,r,c=>by
   simp only[cE] at c⊢
   cases hs:cA h it fr H with
   | none=>rw[hs] at c;cases c
   | some q=>
     rw[hs] at c;rw[OQ e hs];simp only at c⊢
     cases hd:cE h af q.1 q.2 with
     | none=>rw[hd] at c;cases c
     | some d=>rw[hd] at c;rw[OR e hd];exact c
theorem ae1{h h':Hd}(e:Bu h h'){d:jf}{fr:Fr}{H:CH}{r:Fr×CH}(c:sE h d fr H=some r):sE h' d fr H=some r:=by
 simp only[sE] at c⊢
 cases hd:cE h d.af fr H with
 | none=>rw[hd] at c;cases c
 | some q=>rw[hd] at c;rw[OR e hd];exact c
theorem OS{n m:Nat}(s:n<=m){f g:Fr->CH->Gz}(e : ∀fr H r,f fr H=some r->g fr H=some r) : ∀ {fr:Fr} {H:CH} {r:bP×Fr×CH},oZ n f fr H=some r->oZ m g fr H=some r:=by
 induction n generalizing m with
 | zero=>intro fr H r c;simp[oZ] at c
 | succ n o=>
   intro fr H r c;obtain⟨m,rfl⟩ : ∃k,m=k+1:=⟨m-1,Om⟩;simp only[oZ] at c⊢
   cases j:f fr H with
   | none=>rw[j] at c;cases c
   | some q=>
     obtain⟨x,aj,H1⟩:=q;rw[j] at c;rw[e _ _ _ j];cases x with
     | normal=>exact o (m:=m) Om c
     | exit i=>exact c
     | ret=>exact c
theorem yf{h h':Hd}(j:Bu h h'){n m:Nat}(t:n<=m) : ∀ {c:bU} {fr:Fr} {H:CH} {r:bP×Fr×CH},bG h n c fr H=some r->bG h' m c fr H=some r:=by
 intro c;induction c with
 | bad=>intro fr H r e;simp[bG] at e
 | skip=>intro fr H r e;exact e
 | gI af=>
   intro fr H r e;simp only[bG] at e⊢
   cases hi:c9 h af fr H with
   | none=>rw[hi] at e;cases e
   | some q=>rw[hi] at e;rw[DX j hi];exact e
 | lL d=>
   intro fr H r e;simp only[bG] at e⊢
   cases hi:sE h d fr H with
   | none=>rw[hi] at e;cases e
   | some q=>rw[hi] at e;rw[ae1 j hi];exact e
 | seq a b o p=>
   intro fr H r e;simp only[bG] at e⊢
   cases ha:bG h n a fr H with
   | none=>rw[ha] at e;cases e
   | some q=>
     obtain⟨x,aj,H1⟩:=q;rw[ha] at e;rw[o ha];cases x with
     | normal=>exact p e
     | exit i=>exact e
     | ret=>exact e
 | cond c a b o p=>
   intro fr H r e;simp only[bG] at e⊢;split at e;·exact o e
   ·exact p e
   cases e
 | block id c s=>
   intro fr H r e;simp only[bG] at e⊢
   cases ha:bG h n c fr H with
   | none=>rw[ha] at e;cases e
   | some q=>rw[ha] at e;rw[s ha];exact e
 | loop c s=>
   intro fr H r e;simp only[bG] at e⊢;exact OS t (λ_ _ _ u=>s u) e
 | exit id=>intro fr H r e;exact e
 | ret=>intro fr H r e;exact e
 | rv g key=>
   intro fr H r e;simp only[bG] at e⊢;split at e
   ·rename_i f v dL hg;cases hc:h.call f (Value.func (.yield H.nx) #[] #[]::dL.toList) (H.new (.loop .ready none fr key)) with
    | none=>rw[hc] at e;cases e
    | some q=>rw[hc] at e;rw[j.call _ _ _ _ hc];exact e
   cases e
theorem pN{T:cF} : ∀ {n m:Nat},n<=m->Bu (dg T n) (dg T m)
 | 0,m,_=>⟨λf a H r c=>by simp[dg] at c,λf a H r c=>by simp[dg] at c⟩
 | n+1,m,s=>by
   obtain⟨m,rfl⟩ : ∃k,m=k+1:=⟨m-1,Om⟩;have g:=pN (T:=T) (n:=n) (m:=m) Om;have j:n<=m:=by omega
   refine⟨λf a H r c=> ?_,λl a H r c=> ?_⟩
   ·simp only[dg] at c⊢;split at c;·rename_i he;rw[iP he];exact c
    rename_i he;rw[iN he];split at c
    ·rename_i rf C;cases hb:bG (dg T n) n rf.body (λt=>a.getD t undef) H with
     | none=>rw[hb] at c;cases c
     | some q=>rw[hb] at c;rw[yf g j hb];exact c
    cases c
   simp only[dg] at c⊢;split at c
   ·rename_i gP fr key ho;split at c
    ·rename_i ps bF body hl;split at c
     ·rename_i e;rw[iP e];cases hb:bG (dg T n) n bF (DR fr ps a) H with
      | none=>rw[hb] at c;cases c
      | some q=>
        obtain⟨x,u,v⟩:=q;rw[hb] at c;rw[yf g j hb];cases x with
        | normal=>
          simp only at c⊢;split at c
          ·rename_i y z A D;cases o:bG (dg T n) n body u (v.set l (.loop .busy y z A)) with
           | none=>rw[o] at c;cases c
           | some F=>rw[o] at c;rw[yf g j o];exact c
          cases c
        | ret=>cases c
        | exit i=>cases c
     cases c
    cases c
   cases c
theorem Vt{T:cF}{n m:Nat}(h:n<=m) : ∀f a H r,pM T n f a H=some r->pM T m f a H=some r:=(pN h).call
def bw (T:cF)(f:bk)(args:List ae)(H:CH)(Q:ae->CH->Prop):Prop:=∃n v H',pM T n f args H=some (v,H')/\Q v H'
def OT (T:cF)(l:Nat)(args:List ae)(H:CH)(Q:ae->CH->Prop):Prop:=∃n v H',(dg T n).round l args H=some (v,H')/\Q v H'
def nK (T:cF)(af:List Item)(fr:Fr)(H:CH)(K:Fr->CH->Prop):Prop:=∃n fr' H',c9 (dg T n) af fr H=some (fr',H')/\K fr' H'
def zL (T:cF)(af:List Item)(fr:Fr)(H:CH)(K:Fr->CH->List CH->Prop):Prop:=∃n fr' H' l,cE (dg T n) af fr H=some (fr',H',l)/\K fr' H' l
def dB (T:cF)(c:bU)(fr:Fr)(H:CH)(Q:bP->Fr->CH->Prop):Prop:=∃n x fr' H',bG (dg T n) n c fr H=some (x,fr',H')/\Q x fr' H'
variable {T:cF}
theorem bw.mono{f:bk}{args:List ae}{H:CH}{Q c:ae->CH->Prop}(h:bw T f args H Q)(e : ∀v H',Q v H'->c v H'):bw T f args H c:=by
 obtain⟨n,v,H',h1,h2⟩:=h;exact⟨n,v,H',h1,e _ _ h2⟩
theorem dB.mono{c:bU}{fr:Fr}{H:CH}{Q e:bP->Fr->CH->Prop}(h:dB T c fr H Q)(f : ∀x fr' H',Q x fr' H'->e x fr' H'):dB T c fr H e:=by
 obtain⟨n,x,fr',H',h1,h2⟩:=h;exact⟨n,x,fr',H',h1,f _ _ _ h2⟩
theorem DY{fr:Fr}{H:CH}{K:Fr->CH->Prop}:nK T [] fr H K↔K fr H:=
 ⟨λ⟨n,fr',H',h1,h2⟩=>by simp[c9] at h1;rw[h1.1,h1.2];exact h2,λh=>⟨0,fr,H,rfl,h⟩⟩
def lN (T:cF)(fr:Fr)(H:CH)(o:fG)(K:ae->CH->Prop):Prop:=∃n v H',eb (dg T n) fr H o=some (v,H')/\K v H'
theorem Kc{it:Item}{r:List Item}{fr:Fr}{H:CH}{K:Fr->CH->Prop}:nK T (it::r) fr H K↔
 match ec fr it.guard with
 | some true=>lN T fr H it.op λv H'=>nK T r (bE fr it.dst v) H' K
 | some false=>nK T r (bE fr it.dst jK) H K
 | none=>False:=by
 constructor
 ·rintro⟨n,fr',H',h1,h2⟩;simp only[c9,cA] at h1;cases hw:ec fr it.guard with
  | none=>rw[hw] at h1;cases h1
  | some b=>
    rw[hw] at h1;cases b with
    | true=>
      simp only at h1⊢
      cases c:eb (dg T n) fr H it.op with
      | none=>rw[c] at h1;cases h1
      | some q=>rw[c] at h1;exact⟨n,q.1,q.2,c,n,fr',H',h1,h2⟩
    | false=>exact⟨n,fr',H',h1,h2⟩
 intro h;cases hw:ec fr it.guard with
 | none=>rw[hw] at h;exact h.elim
 | some b=>
   rw[hw] at h;cases b with
   | true=>
     obtain⟨n,v,H1,h1,m,fr',H',h2,h3⟩:=h;refine⟨max n m,fr',H',?_,h3⟩;simp only[c9,cA,hw];rw[OP (pN (vV n m)) h1];exact DX (pN (vW n m)) h2
   | false=>
     obtain⟨n,fr',H',h1,h2⟩:=h;exact⟨n,fr',H',by simp only[c9,cA,hw];exact h1,h2⟩
theorem Vu{fr:Fr}{H:CH}{x:dN}{K:ae->CH->Prop}:lN T fr H (.p x) K↔∃v,pop (aO fr) x=some v/\K v H:=by
 constructor
 ·rintro⟨n,v,H',h1,h2⟩;simp only[eb] at h1;cases hp:pop (aO fr) x with
  | none=>rw[hp] at h1;cases h1
  | some u=>rw[hp] at h1;cases h1;exact⟨_,rfl,h2⟩
 rintro⟨v,h1,h2⟩;exact⟨0,v,H,by simp[eb,h1],h2⟩
theorem OU{fr:Fr}{H:CH}{x:gU}{K:ae->CH->Prop}:lN T fr H (.l x) K↔∃v,bg H (aO fr) x=some v/\K v H:=by
 constructor
 ·rintro⟨n,v,H',h1,h2⟩;simp only[eb] at h1;cases hp:bg H (aO fr) x with
  | none=>rw[hp] at h1;cases h1
  | some u=>rw[hp] at h1;cases h1;exact⟨_,rfl,h2⟩
 rintro⟨v,h1,h2⟩;exact⟨0,v,H,by simp[eb,h1],h2⟩
theorem Vv{fr:Fr}{H:CH}{x:oX}{K:ae->CH->Prop}:lN T fr H (.a x) K↔∃cs e k mk,fV (aO fr) x=some (cs,e,k,mk)/\K (kH mk H.nx) (H.new (.cells cs e k)):=by
 constructor
 ·rintro⟨n,v,H',h1,h2⟩;simp only[eb] at h1;cases hp:fV (aO fr) x with
  | none=>rw[hp] at h1;cases h1
  | some u=>obtain⟨cs,e,k,mk⟩:=u;rw[hp] at h1;cases h1;exact⟨cs,e,k,mk,rfl,h2⟩
 rintro⟨cs,e,k,mk,h1,h2⟩;exact⟨0,_,_,by simp[eb,h1],h2⟩
theorem Vw{fr:Fr}{H:CH}{x:hO}{K:ae->CH->Prop}:lN T fr H (.w x) K↔∃v H',cy H (aO fr) x=some (v,H')/\K v H':=by
 constructor;·rintro⟨n,v,H',h1,h2⟩;exact⟨v,H',h1,h2⟩
 rintro⟨v,H',h1,h2⟩;exact⟨0,v,H',h1,h2⟩
theorem Vx{fr:Fr}{H:CH}{f:bk}{args:List au}{K:ae->CH->Prop}:lN T fr H (.call f args) K↔bw T f (args.map (aO fr)) H K:=fJ
theorem ae2{fr:Fr}{H:CH}{g:au}{args:List au}{K:ae->CH->Prop}:lN T fr H (.nG g args) K↔
 match aO fr g with
 | .func (.func f) _ dL=>bw T f (args.map (aO fr)++dL.toList) H K
 | .func (.yield l) _ _=>OT T l (args.map (aO fr)) H K
 | _=>False:=by
 constructor
 ·rintro⟨n,v,H',h1,h2⟩;simp only[eb] at h1;split at h1;·rename_i hg;simp only[hg];exact⟨n,v,H',h1,h2⟩
  ·rename_i hg;simp only[hg];exact⟨n,v,H',h1,h2⟩
  cases h1
 intro h;split at h;·rename_i hg;obtain⟨n,v,H',h1,h2⟩:=h;exact⟨n,v,H',by simp only[eb,hg];exact h1,h2⟩
 ·rename_i hg;obtain⟨n,v,H',h1,h2⟩:=h;exact⟨n,v,H',by simp only[eb,hg];exact h1,h2⟩
 exact h.elim
theorem OV{fr:Fr}{H:CH}{Q:bP->Fr->CH->Prop}:dB T .skip fr H Q↔Q .normal fr H:=
 ⟨λ⟨n,x,fr',H',h1,h2⟩=>by simp only[bG,Option.some.injEq,Prod.mk.injEq] at h1;obtain⟨rfl,rfl,rfl⟩:=h1;exact h2,λh=>⟨0,_,_,_,rfl,h⟩⟩
theorem Vy{id:Nat}{fr:Fr}{H:CH}{Q:bP->Fr->CH->Prop}:dB T (.exit id) fr H Q↔Q (.exit id) fr H:=
 ⟨λ⟨n,x,fr',H',h1,h2⟩=>by simp only[bG,Option.some.injEq,Prod.mk.injEq] at h1;obtain⟨rfl,rfl,rfl⟩:=h1;exact h2,λh=>⟨0,_,_,_,rfl,h⟩⟩
theorem OW{fr:Fr}{H:CH}{Q:bP->Fr->CH->Prop}:dB T .ret fr H Q↔Q .ret fr H:=
 ⟨λ⟨n,x,fr',H',h1,h2⟩=>by simp only[bG,Option.some.injEq,Prod.mk.injEq] at h1;obtain⟨rfl,rfl,rfl⟩:=h1;exact h2,λh=>⟨0,_,_,_,rfl,h⟩⟩
theorem Vz{af:List Item}{fr:Fr}{H:CH}{Q:bP->Fr->CH->Prop}:dB T (.gI af) fr H Q↔nK T af fr H (Q .normal):=by
 constructor
 ·rintro⟨n,x,fr',H',h1,h2⟩;simp only[bG] at h1;cases c:c9 (dg T n) af fr H with
  | none=>rw[c] at h1;cases h1
  | some q=>rw[c] at h1;cases h1;exact⟨n,_,_,c,h2⟩
 rintro⟨n,fr',H',h1,h2⟩;exact⟨n,_,_,_,by simp only[bG,h1];rfl,h2⟩
theorem OX{d:jf}{fr:Fr}{H:CH}{Q:bP->Fr->CH->Prop}:dB T (.lL d) fr H Q↔zL T d.af fr H λfr' H' l=>(∀p∈d.nb,∃G,(H::l)[p.2]? = some G/\wo fr' G p.1)/\Q .normal fr' H':=by
 constructor
 ·rintro⟨n,x,fr',H',h1,h2⟩;simp only[bG,sE] at h1;cases c:cE (dg T n) d.af fr H with
  | none=>rw[c] at h1;cases h1
  | some q=>
    obtain⟨f,K,l⟩:=q;rw[c] at h1;simp only at h1;split at h1;·rename_i hc;cases h1;exact⟨n,_,_,_,c,hc,h2⟩
    cases h1
 rintro⟨n,fr',H',l,h1,h2,h3⟩;refine⟨n,_,fr',H',?_,h3⟩;simp only[bG,sE,h1];rw[iP h2];rfl
theorem VA{fr:Fr}{H:CH}{K:Fr->CH->List CH->Prop}:zL T [] fr H K↔K fr H []:=
 ⟨λ⟨n,fr',H',l,h1,h2⟩=>by simp only[cE,Option.some.injEq,Prod.mk.injEq] at h1;obtain⟨rfl,rfl,rfl⟩:=h1;exact h2,λh=>⟨0,fr,H,[],rfl,h⟩⟩
theorem Ke{it:Item}{r:List Item}{fr:Fr}{H:CH}{K:Fr->CH->List CH->Prop}:zL T (it::r) fr H K↔
 match ec fr it.guard with
 | some true=>lN T fr H it.op λv H'=>zL T r (bE fr it.dst v) H' λf L l=>K f L (if ck it.op then H'::l else l)
 | some false=>zL T r (bE fr it.dst jK) H λf L l=>K f L (if ck it.op then H::l else l)
 | none=>False:=by
 constructor
 ·rintro⟨n,fr',H',l,h1,h2⟩;simp only[cE,cA] at h1;cases hw:ec fr it.guard with
  | none=>rw[hw] at h1;cases h1
  | some b=>
    rw[hw] at h1;cases b with
    | true=>
      simp only at h1⊢
      cases e:eb (dg T n) fr H it.op with
      | none=>rw[e] at h1;cases h1
      | some q=>
        rw[e] at h1;simp only[fo] at h1;cases hd:cE (dg T n) r (bE fr it.dst q.1) q.2 with
        | none=>rw[hd] at h1;cases h1
        | some z=>
          obtain⟨a,b,c⟩:=z;rw[hd] at h1;simp only[fo,Option.some.injEq,Prod.mk.injEq] at h1;obtain⟨rfl,rfl,rfl⟩:=h1;exact⟨n,q.1,q.2,e,n,_,_,_,hd,h2⟩
    | false=>
      simp only at h1⊢
      cases hd:cE (dg T n) r (bE fr it.dst jK) H with
      | none=>rw[hd] at h1;cases h1
      | some z=>
        obtain⟨a,b,c⟩:=z;rw[hd] at h1;simp only[fo,Option.some.injEq,Prod.mk.injEq] at h1;obtain⟨rfl,rfl,rfl⟩:=h1;exact⟨n,_,_,_,hd,h2⟩
 intro h;cases hw:ec fr it.guard with
 | none=>rw[hw] at h;exact h.elim
 | some b=>
   rw[hw] at h;cases b with
   | true=>
     obtain⟨n,v,H1,h1,m,fr',H',l,h2,h3⟩:=h;refine⟨max n m,fr',H',_,?_,h3⟩;simp only[cE,cA,hw];rw[OP (pN (vV n m)) h1];simp only[fo];rw[OR (pN (vW n m)) h2];rfl
   | false=>
     obtain⟨n,fr',H',l,h1,h2⟩:=h;exact⟨n,fr',H',_,by simp only[cE,cA,hw,h1];rfl,h2⟩
theorem Kf{a b:bU}{fr:Fr}{H:CH}{Q:bP->Fr->CH->Prop}:dB T (.seq a b) fr H Q↔dB T a fr H λx fr' H'=>match x with
 | .normal=>dB T b fr' H' Q
 | x=>Q x fr' H':=by
 constructor
 ·rintro⟨n,x,fr',H',h1,h2⟩;simp only[bG] at h1;cases ha:bG (dg T n) n a fr H with
  | none=>rw[ha] at h1;cases h1
  | some q=>
    obtain⟨y,aj,H1⟩:=q;rw[ha] at h1;refine⟨n,y,aj,H1,ha,?_⟩;cases y with
    | normal=>exact⟨n,x,fr',H',h1,h2⟩
    | exit i=>cases h1;exact h2
    | ret=>cases h1;exact h2
 rintro⟨n,y,aj,H1,h1,h2⟩;cases y with
 | normal=>
   obtain⟨m,x,fr',H',h3,h4⟩:=h2;refine⟨max n m,x,fr',H',?_,h4⟩;simp only[bG];rw[yf (pN (vV n m)) (vV n m) h1];exact yf (pN (vW n m)) (vW n m) h3
 | exit i=>exact⟨n,_,aj,H1,by simp only[bG,h1],h2⟩
 | ret=>exact⟨n,_,aj,H1,by simp only[bG,h1],h2⟩
theorem OY{c:au}{a b:bU}{fr:Fr}{H:CH}{Q:bP->Fr->CH->Prop}:dB T (.cond c a b) fr H Q↔match aO fr c with
 | .bool t=>if t=true then dB T a fr H Q else dB T b fr H Q
 | _=>False:=by
 constructor
 ·rintro⟨n,x,fr',H',h1,h2⟩;simp only[bG] at h1;split at h1;·rename_i e;rw[e];exact⟨n,x,fr',H',h1,h2⟩
  ·rename_i e;rw[e];exact⟨n,x,fr',H',h1,h2⟩
  cases h1
 intro h;split at h
 ·rename_i t e;cases t with
  | true=>obtain⟨n,x,fr',H',h1,h2⟩:=h;exact⟨n,x,fr',H',by simp only[bG,e];exact h1,h2⟩
  | false=>obtain⟨n,x,fr',H',h1,h2⟩:=h;exact⟨n,x,fr',H',by simp only[bG,e];exact h1,h2⟩
 exact h.elim
theorem VB{id:Nat}{c:bU}{fr:Fr}{H:CH}{Q:bP->Fr->CH->Prop}:dB T (.block id c) fr H Q↔dB T c fr H λx fr' H'=>match x with
 | .exit i=>if i=id then Q .normal fr' H' else Q (.exit i) fr' H'
 | x=>Q x fr' H':=by
 constructor
 ·rintro⟨n,x,fr',H',h1,h2⟩;simp only[bG] at h1;cases ha:bG (dg T n) n c fr H with
  | none=>rw[ha] at h1;cases h1
  | some q=>
    obtain⟨y,aj,H1⟩:=q;rw[ha] at h1;refine⟨n,y,aj,H1,ha,?_⟩;cases y with
    | normal=>cases h1;exact h2
    | exit i=>
      simp only at h1⊢;split at h1;·rename_i e;rw[iP e];cases h1;exact h2
      rename_i e;rw[iN e];cases h1;exact h2
    | ret=>cases h1;exact h2
 rintro⟨n,y,aj,H1,h1,h2⟩;cases y with
 | normal=>exact⟨n,_,aj,H1,by simp only[bG,h1],h2⟩
 | exit i=>
   simp only at h2;split at h2;·rename_i e;exact⟨n,_,aj,H1,by simp only[bG,h1,iP e],h2⟩
   rename_i e;exact⟨n,_,aj,H1,by simp only[bG,h1,iN e],h2⟩
 | ret=>exact⟨n,_,aj,H1,by simp only[bG,h1],h2⟩
theorem Kg{c:bU}{fr:Fr}{H:CH}{Q:bP->Fr->CH->Prop}:dB T (.loop c) fr H Q↔dB T c fr H λx fr' H'=>match x with
 | .normal=>dB T (.loop c) fr' H' Q
 | x=>Q x fr' H':=by
 constructor
 ·rintro⟨n,x,fr',H',h1,h2⟩;simp only[bG] at h1;cases n with
  | zero=>simp[oZ] at h1
  | succ n=>
    simp only[oZ] at h1;cases ha:bG (dg T (n+1)) (n+1) c fr H with
    | none=>rw[ha] at h1;cases h1
    | some q=>
      obtain⟨y,aj,H1⟩:=q;rw[ha] at h1;refine⟨n+1,y,aj,H1,ha,?_⟩;cases y with
      | normal=>exact⟨n+1,x,fr',H',by simp only[bG];exact OS (nz n) (λ_ _ _ h=>h) h1,h2⟩
      | exit i=>cases h1;exact h2
      | ret=>cases h1;exact h2
 rintro⟨n,y,aj,H1,h1,h2⟩;cases y with
 | normal=>
   obtain⟨m,x,fr',H',h3,h4⟩:=h2;refine⟨max n m+1,x,fr',H',?_,h4⟩;simp only[bG,oZ] at h3⊢;rw[yf (pN (xn (vV n m))) (xn (vV n m)) h1];exact OS (vW n m) (λ_ _ _ h=>yf (pN (xn (vW n m))) (xn (vW n m)) h) h3
 | exit i=>exact⟨n+1,_,aj,H1,by simp only[bG,oZ];rw[yf (pN (nz n)) (nz n) h1],h2⟩
 | ret=>exact⟨n+1,_,aj,H1,by simp only[bG,oZ];rw[yf (pN (nz n)) (nz n) h1],h2⟩
theorem ae3{f:bk}{rf:wq}(he:T.ext f=false)(c:T.fn f=some rf){args:List ae}{H:CH}{Q:ae->CH->Prop}:bw T f args H Q↔dB T rf.body (λt=>args.getD t undef) H λx fr' H'=>match x with
 | .exit _=>False
 | _=>∃vs,ct fr' H' rf.res=some vs/\Q (eV vs) H':=by
 constructor
 ·rintro⟨n,v,H',h1,h2⟩;cases n with
  | zero=>simp[pM,dg] at h1
  | succ n=>
    simp only[pM,dg,he,c,aM,iF] at h1;cases hb:bG (dg T n) n rf.body (λt=>args.getD t undef) H with
    | none=>rw[hb] at h1;cases h1
    | some q=>
      obtain⟨y,aj,H1⟩:=q;rw[hb] at h1;refine⟨n,y,aj,H1,hb,?_⟩;cases y with
      | exit i=>cases h1
      | normal=>
        simp only at h1⊢
        cases hv:ct aj H1 rf.res with
        | none=>rw[hv] at h1;cases h1
        | some vs=>rw[hv] at h1;cases h1;exact⟨vs,rfl,h2⟩
      | ret=>
        simp only at h1⊢
        cases hv:ct aj H1 rf.res with
        | none=>rw[hv] at h1;cases h1
        | some vs=>rw[hv] at h1;cases h1;exact⟨vs,rfl,h2⟩
 rintro⟨n,y,aj,H1,h1,h2⟩;cases y with
 | exit i=>exact h2.elim
 | normal=>
   obtain⟨vs,h3,h4⟩:=h2;exact⟨n+1,eV vs,H1,by simp only[pM,dg,he,c,aM,iF,h1,h3];rfl,h4⟩
 | ret=>
   obtain⟨vs,h3,h4⟩:=h2;exact⟨n+1,eV vs,H1,by simp only[pM,dg,he,c,aM,iF,h1,h3];rfl,h4⟩
def OZ(l:Nat)(fr:Fr)(Q:bP->Fr->CH->Prop):ae->CH->Prop:=λ_ H=>∃st gP fr' key,H.ob l= .loop st gP fr' key/\st≠ .busy/\Q (Ox gP) fr (H.set l (.loop .exhausted gP fr' key))
theorem ae4{g:au}{key:Nat×Nat}{fr:Fr}{H:CH}{Q:bP->Fr->CH->Prop}{f:bk}{c dL:Array ae}(hg:aO fr g= .func (.func f) c dL)
 (k:bw T f (.func (.yield H.nx) #[] #[]::dL.toList) (H.new (.loop .ready none fr key)) (OZ H.nx fr Q)):dB T (.rv g key) fr H Q:=by
 obtain⟨n,v,e,h1,st,gP,fr',i,h2,h3,h4⟩:=k;refine⟨n,_,_,_,?_,h4⟩;simp only[bG,hg];simp only[pM] at h1;rw[h1];simp only[h2,iN h3]
end
section
open Go Go.RowKit
variable {P:aZ} {B:Nat}
def dN.bB:dN->List au
 | .tD x | .un _ x | .conv _ x | .Dt x | .off x _ | .ext x _ | .len x | .lens x | .A8 x | .F2 x | .j0 x _ _=> [x]
 | .pick c a b=> [c,a,b]
 | .bin _ x y | .A6 _ x y | .wg _ x y | .eqs _ x y | .Ds _ _ _ x y | .idx x y _ | .F1 x y _ _ | .Du x y | .F3 x y _ _ _ | .mx _ x y=> [x,y]
 | .A7 x lo hi=>x::(lo.toList++hi.toList)
 | .fn _ dL=>dL
 | .xL _ ps=>ps.map (·.2.2)
def gU.bB:gU->List au
 | .ld x | .j9 _ x | .b2s x | .zy _ x=> [x]
 | .Bb _ x y=> [x,y]
 | .Dz _ _ _ x i=> [x,i]
 | .pI _ _ x lo hi mx=>x::(lo.toList++(hi.toList++mx.toList))
def oX.bB:oX->List au
 | .box _ x=> [x]
 | .new _ _=> []
 | .xW _ _ _ _ ps=>ps.map (·.2)
 | .F7 _ _ _ _ l c=> [l,c]
def hO.bB:hO->List au
 | .st _ x v=> [x,v]
 | .app _ _ _ s x=> [s,x]
 | .F9 _ d s=> [d,s]
 | .F'=> []
 | .Gb _ x k v=> [x,k,v]
 | .Gc x | .cU x | .Ge x | .Gf x | .hU x | .s2b _ _ x=> [x]
 | .del _ x k=> [x,k]
 | .Gg _ p n=> [p,n]
def fG.bB:fG->List au
 | .p x=>x.bB
 | .l x=>x.bB
 | .a x=>x.bB
 | .w x=>x.bB
 | .call _ args=>args
 | .nG g args=>g::args
theorem GL{ev ev':au->ae}{d d':Nat}{o:Option au}(h : ∀x∈o.toList,ev x=ev' x)(hd:d=d'):eJ ev d o=eJ ev' d' o:=by
 subst hd;cases o with
 | none=>rfl
 | some x=>simp only[eJ,h x s0]
theorem VC{ev ev':au->ae}{p:dN}(h : ∀x∈p.bB,ev x=ev' x):pop ev p=pop ev' p:=by
 cases p with
 | pick c a b=>simp only[pop,h c (by simp[dN.bB]),h a (by simp[dN.bB]),h b (by simp[dN.bB])]
 | A7 x lo hi=>
   have hx:=h x (by simp[dN.bB]);simp only[pop,hx];rw[GL (ev:=ev) (ev':=ev') (o:=lo) (λy e=>h y (by simp only[dN.bB,jw,fp];exact .inr (.inl e))) rfl,GL (ev:=ev) (ev':=ev') (o:=hi) (λy e=>h y (by simp only[dN.bB,jw,fp];exact .inr (.inr e))) rfl]
 | fn f dL=>
   have:dL.map ev=dL.map ev':=vX λx hx=>h x hx;simp only[pop,this]
 | xL z ps=>
   simp only[pop];have:ps.map (λ(o,s,x)=>(o,s,ev x))=ps.map (λ(o,s,x)=>(o,s,ev' x)):=vX λq i=>by
    obtain⟨a,b,c⟩:=q;simp only[h c (List.mem_map.2 ⟨_,i,rfl⟩)]
   rw[this]
 | tD x=>simp only[pop,h x (by simp[dN.bB])]
 | un op x=>simp only[pop,h x (by simp[dN.bB])]
 | conv k x=>simp only[pop,h x (by simp[dN.bB])]
 | Dt x=>simp only[pop,h x (by simp[dN.bB])]
 | off x d=>simp only[pop,h x (by simp[dN.bB])]
 | ext x d=>simp only[pop,h x (by simp[dN.bB])]
 | len x=>simp only[pop,h x (by simp[dN.bB])]
 | lens x=>simp only[pop,h x (by simp[dN.bB])]
 | A8 x=>simp only[pop,h x (by simp[dN.bB])]
 | F2 x=>simp only[pop,h x (by simp[dN.bB])]
 | bin op x y=>simp only[pop,h x (by simp[dN.bB]),h y (by simp[dN.bB])]
 | A6 n x y=>simp only[pop,h x (by simp[dN.bB]),h y (by simp[dN.bB])]
 | wg n x y=>simp only[pop,h x (by simp[dN.bB]),h y (by simp[dN.bB])]
 | eqs n x y=>simp only[pop,h x (by simp[dN.bB]),h y (by simp[dN.bB])]
 | Ds n g ks x y=>simp only[pop,h x (by simp[dN.bB]),h y (by simp[dN.bB])]
 | idx x y s=>simp only[pop,h x (by simp[dN.bB]),h y (by simp[dN.bB])]
 | F1 x y n s=>simp only[pop,h x (by simp[dN.bB]),h y (by simp[dN.bB])]
 | Du x y=>simp only[pop,h x (by simp[dN.bB]),h y (by simp[dN.bB])]
 | j0 x d n=>simp only[pop,h x (by simp[dN.bB])]
 | F3 x y n s g=>simp only[pop,h x (by simp[dN.bB]),h y (by simp[dN.bB])]
 | mx b x y=>simp only[pop,h x (by simp[dN.bB]),h y (by simp[dN.bB])]
theorem VD{ev ev':au->ae}{H:CH}{p:gU}(h : ∀x∈p.bB,ev x=ev' x):bg H ev p=bg H ev' p:=by
 cases p with
 | ld x=>simp only[bg,h x (by simp[gU.bB])]
 | j9 n x=>simp only[bg,h x (by simp[gU.bB])]
 | b2s x=>simp only[bg,h x (by simp[gU.bB])]
 | zy f x=>simp only[bg,h x (by simp[gU.bB])]
 | Bb neg x y=>simp only[bg,h x (by simp[gU.bB]),h y (by simp[gU.bB])]
 | Dz kk z ok x i=>simp only[bg,h x (by simp[gU.bB]),h i (by simp[gU.bB])]
 | pI e sz x lo hi mx=>
   have hx:=h x (by simp[gU.bB]);simp only[bg,hx];rw[GL (ev:=ev) (ev':=ev') (o:=lo) (λy c=>h y (by simp only[gU.bB,jw,fp];exact .inr (.inl c))) rfl,
    GL (ev:=ev) (ev':=ev') (o:=hi) (λy c=>h y (by simp only[gU.bB,jw,fp];exact .inr (.inr (.inl c)))) rfl,
    GL (ev:=ev) (ev':=ev') (o:=mx) (λy c=>h y (by simp only[gU.bB,jw,fp];exact .inr (.inr (.inr c)))) rfl]
theorem GM{ev ev':au->ae}{p:oX}(h : ∀x∈p.bB,ev x=ev' x):fV ev p=fV ev' p:=by
 cases p with
 | box e x=>simp only[fV,h x (by simp[oX.bB])]
 | new e z=>rfl
 | xW e sz n z ps=>
   simp only[fV];have:ps.map (λ(i,x)=>(i*sz,sz,ev x))=ps.map (λ(i,x)=>(i*sz,sz,ev' x)):=vX λq f=>by
    obtain⟨a,c⟩:=q;simp only[h c (List.mem_map.2 ⟨_,f,rfl⟩)]
   rw[this]
 | F7 e sz b z l c=>simp only[fV,h l (by simp[oX.bB]),h c (by simp[oX.bB])]
theorem ae5{ev ev':au->ae}{H:CH}{p:hO}(h : ∀x∈p.bB,ev x=ev' x):cy H ev p=cy H ev' p:=by
 cases p with
 | st n x v=>simp only[cy,h x (by simp[hO.bB]),h v (by simp[hO.bB])]
 | app e sz b s x=>simp only[cy,h s (by simp[hO.bB]),h x (by simp[hO.bB])]
 | F9 sz d s=>simp only[cy,h d (by simp[hO.bB]),h s (by simp[hO.bB])]
 | F'=>rfl
 | Gb kk x k v=>simp only[cy,h x (by simp[hO.bB]),h k (by simp[hO.bB]),h v (by simp[hO.bB])]
 | Gc x=>simp only[cy,h x (by simp[hO.bB])]
 | cU x=>simp only[cy,h x (by simp[hO.bB])]
 | Ge x=>simp only[cy,h x (by simp[hO.bB])]
 | Gf x=>simp only[cy,h x (by simp[hO.bB])]
 | del kk x k=>simp only[cy,h x (by simp[hO.bB]),h k (by simp[hO.bB])]
 | hU x=>simp only[cy,h x (by simp[hO.bB])]
 | Gg e p n=>simp only[cy,h p (by simp[hO.bB]),h n (by simp[hO.bB])]
 | s2b e b x=>simp only[cy,h x (by simp[hO.bB])]
theorem ae6{h:Hd}{fr fr':Fr}{H:CH}{o:fG}(he : ∀x∈o.bB,aO fr x=aO fr' x):eb h fr H o=eb h fr' H o:=by
 cases o with
 | p x=>simp only[eb,VC (p:=x) he]
 | l x=>simp only[eb,VD (p:=x) he]
 | a x=>simp only[eb,GM (p:=x) he]
 | w x=>simp only[eb];exact ae5 he
 | call f args=>
   have:args.map (aO fr)=args.map (aO fr'):=vX λx hx=>he x hx;simp only[eb,this]
 | nG g args=>
   have hg:=he g (by simp[fG.bB]);have ha:args.map (aO fr)=args.map (aO fr'):=vX λx hx=>he x (by simp[fG.bB,hx]);simp only[eb,hg,ha]
def slotsOf:List au->List Nat:=λl=>l.filterMap fun | .tmp t=>some t | _=>none
def Item.eN(it:Item):List Nat:=slotsOf it.op.bB++(match it.guard with | some (s,_)=> [s] | none=> [])
theorem yg{fr fr':Fr}{l:List au}(h : ∀t∈slotsOf l,fr t=fr' t) : ∀x∈l,aO fr x=aO fr' x:=by
 intro x hx;cases x with
 | tmp t=>exact h t (List.mem_filterMap.2 ⟨.tmp t,hx,rfl⟩)
 | _=>rfl
theorem yi{fr fr':Fr}{it:Item}(h : ∀t∈it.eN,fr t=fr' t):ec fr it.guard=ec fr' it.guard:=by
 cases hg:it.guard with
 | none=>rfl
 | some q=>
   obtain⟨s,b⟩:=q;simp only[ec,h s (by simp[Item.eN,hg])]
theorem Bv{h:Hd}{it:Item}{fr aX aj:Fr}{H H1:CH}(ha : ∀t∈it.eN,fr t=aX t)(hs:cA h it fr H=some (aj,H1)) : ∃v,aj=bE fr it.dst v/\cA h it aX H=some (bE aX it.dst v,H1):=by
 have hw:=yi ha;have e:eb h fr H it.op=eb h aX H it.op:=ae6 (yg λt ht=>ha t (by simp[Item.eN,ht]));simp only[cA] at hs⊢;rw[<-hw,<-e];split at hs
 ·cases c:eb h fr H it.op with
  | none=>rw[c] at hs;cases hs
  | some q=>rw[c] at hs;cases hs;exact⟨q.1,rfl,rfl⟩
 ·cases hs;exact⟨jK,rfl,rfl⟩
 cases hs
theorem ae7{fr:Fr}{a b:Option Nat}{u v:ae}(h : ∀x,a=some x->b≠some x):bE (bE fr a u) b v=bE (bE fr b v) a u:=by
 cases a with
 | none=>rfl
 | some x=>
   cases b with
   | none=>rfl
   | some y=>
     have av:x≠y:=λe=>h x rfl (by rw[e]);funext t
     simp only[bE];by_cases f:t=y
     ·subst f;have c : ¬t=x:=λg=>av g.symm;simp[c]
     by_cases c:t=x
     ·subst c;simp[f]
     simp[f,c]
theorem yj{fr:Fr}{a:Option Nat}{v:ae}{t:Nat}(h:a≠some t):bE fr a v t=fr t:=by
 cases a with
 | none=>rfl
 | some x=>simp only[bE];rw[iN (λe=>h (by rw[e]))]
theorem O0{h:Hd}{d:Option Nat}{v:ae} : ∀ {R:List Item} {fr aj:Fr} {H H1:CH} {l:List CH},(∀x∈R,∀t,d=some t->t∉x.eN/\x.dst≠some t)->cE h R fr H=some (aj,H1,l)->cE h R (bE fr d v) H=some (bE aj d v,H1,l)
 | [],fr,aj,H,H1,l,_,i=>by simp only[cE,Option.some.injEq,Prod.mk.injEq] at i;obtain⟨rfl,rfl,rfl⟩:=i;rfl
 | x::R,fr,aj,H,H1,l,hx,i=>by
   simp only[cE] at i⊢
   cases hs:cA h x fr H with
   | none=>rw[hs] at i;cases i
   | some q=>
     obtain⟨f,K⟩:=q;rw[hs] at i;have j:=hx x (ny ..);obtain⟨u,rfl,h2⟩:=Bv (aX:=bE fr d v) (λt ht=>by
      rw[yj];intro e;exact(j t e).1 ht) hs
     rw[h2];simp only at i⊢
     cases hd:cE h R (bE fr x.dst u) K with
     | none=>rw[hd] at i;cases i
     | some z=>
       obtain⟨a,b,c⟩:=z;rw[hd] at i;simp only[fo,Option.some.injEq,Prod.mk.injEq] at i;obtain⟨rfl,rfl,rfl⟩:=i;have:=O0 (v:=v) (λy n=>hx y (kD _ n)) hd;rw[ae7 (λt e g=>(j t g).2 e)] at this;rw[this];rfl
theorem Bw{h:Hd}{t:Nat} : ∀ {R:List Item} {fr aj:Fr} {H H1:CH} {l:List CH},(∀x∈R,x.dst≠some t)->cE h R fr H=some (aj,H1,l)->aj t=fr t
 | [],fr,aj,H,H1,l,_,e=>by simp only[cE,Option.some.injEq,Prod.mk.injEq] at e;obtain⟨rfl,rfl,rfl⟩:=e;rfl
 | x::R,fr,aj,H,H1,l,hx,e=>by
   simp only[cE] at e;cases hs:cA h x fr H with
   | none=>rw[hs] at e;cases e
   | some q=>
     obtain⟨f,K⟩:=q;rw[hs] at e;simp only at e;obtain⟨u,rfl,_⟩:=Bv (aX:=fr) (λt _=>rfl) hs;cases hd:cE h R (bE fr x.dst u) K with
     | none=>rw[hd] at e;cases e
     | some z=>
       obtain⟨a,b,c⟩:=z;rw[hd] at e;simp only[fo,Option.some.injEq,Prod.mk.injEq] at e;obtain⟨rfl,rfl,rfl⟩:=e;rw[Bw (λy g=>hx y (kD _ g)) hd,yj (hx x (ny ..))]
theorem Kh{h:Hd} : ∀ {R S:List Item} {fr aX:Fr} {H g:CH} {l:List CH},cE h (R++S) fr H=some (aX,g,l)->∃aj H1 f i,cE h R fr H=some (aj,H1,f)/\cE h S aj H1=some (aX,g,i)/\l=f++i
 | [],S,fr,aX,H,g,l,e=>⟨fr,H,[],l,rfl,e,rfl⟩
 | x::R,S,fr,aX,H,g,l,e=>by
   simp only[aS,cE] at e;cases hs:cA h x fr H with
   | none=>rw[hs] at e;cases e
   | some q=>
     rw[hs] at e;simp only at e;cases hd:cE h (R++S) q.1 q.2 with
     | none=>rw[hd] at e;cases e
     | some z=>
       obtain⟨a,b,c⟩:=z;rw[hd] at e;simp only[fo,Option.some.injEq,Prod.mk.injEq] at e;obtain⟨rfl,rfl,rfl⟩:=e;obtain⟨aj,H1,f,i,h1,h2,rfl⟩:=Kh hd;refine⟨aj,H1,if ck x.op then q.2::f else f,i,?_,h2,by split<;>rfl⟩;simp only[cE,hs,h1];rfl
theorem O1{h:Hd} : ∀ {R S:List Item} {fr aj aX:Fr} {H H1 e:CH} {f g:List CH},cE h R fr H=some (aj,H1,f)->cE h S aj H1=some (aX,e,g)->cE h (R++S) fr H=some (aX,e,f++g)
 | [],S,fr,aj,aX,H,H1,e,f,g,h1,h2=>by simp only[cE,Option.some.injEq,Prod.mk.injEq] at h1;obtain⟨rfl,rfl,rfl⟩:=h1;exact h2
 | x::R,S,fr,aj,aX,H,H1,e,f,g,h1,h2=>by
   simp only[aS,cE] at h1⊢
   cases hs:cA h x fr H with
   | none=>rw[hs] at h1;cases h1
   | some q=>
     rw[hs] at h1;simp only at h1⊢
     cases hd:cE h R q.1 q.2 with
     | none=>rw[hd] at h1;cases h1
     | some z=>
       obtain⟨a,b,c⟩:=z;rw[hd] at h1;simp only[fo,Option.some.injEq,Prod.mk.injEq] at h1;obtain⟨rfl,rfl,rfl⟩:=h1;rw[O1 hd h2];simp only[fo];split<;>rfl
def Ki (H K:CH):Prop:=∀l,((∃cs e k,H.ob l= .cells cs e k)\/∃es c,H.ob l= .map es c)->K.ob l=H.ob l
theorem VE{H K:CH}(j:Ki H K){ev:au->ae}{x:gU}{v:ae}(h:bg H ev x=some v):bg K ev x=some v:=by
 cases x with
 | Dz kk z ok x i=>
   simp only[bg] at h⊢;split at h;·exact h
   ·rename_i l hx;cases ho:H.ob l with
    | map es c=>rw[j _ (.inr ⟨_,_,ho⟩),ho];rw[ho] at h;exact h
    | _=>rw[ho] at h;cases h
   cases h
 | ld x=>
   simp only[bg] at h⊢;split at h
   ·split at h;·rename_i g;rw[j _ (.inl ⟨_,_,_,g⟩),g];exact h
    cases h
   cases h
 | j9 n x=>
   simp only[bg] at h⊢;split at h
   ·split at h;·rename_i g;rw[j _ (.inl ⟨_,_,_,g⟩),g];exact h
    cases h
   cases h
 | Bb neg x y=>
   simp only[bg] at h⊢;split at h;·exact h
   ·exact h
   ·split at h;·rename_i g;rw[j _ (.inl ⟨_,_,_,g⟩),g];exact h
    cases h
   cases h
 | zy f x=>
   simp only[bg] at h⊢;split at h;·exact h
   ·split at h;·rename_i g;rw[j _ (.inl ⟨_,_,_,g⟩),g];exact h
    cases h
   cases h
 | b2s x=>
   simp only[bg] at h⊢;split at h;·exact h
   ·split at h;·rename_i g;rw[j _ (.inl ⟨_,_,_,g⟩),g];exact h
    cases h
   ·exact h
   cases h
 | pI e sz x lo hi mx=>
   simp only[bg] at h⊢;split at h
   ·rename_i l hh m h1 h2 h3;split at h
    ·rename_i o;have:pF K e (ev x)=true:=by
      simp only[eZ] at o;have:=o.1;unfold pF at this⊢;split at this
      ·split at this;·rename_i g;rw[j _ (.inl ⟨_,_,_,g⟩),g]
       ·rename_i k hk g;rw[j _ (.inl ⟨_,_,_,g⟩),g];cases k<;>first | rfl | exact this
       cases this
      rfl
     simp only[eZ] at o;simp only[this,o.2,Bool.and_self,iT];exact h
    cases h
   cases h
end
section
open Go Go.RowKit
variable {P:aZ} {B:Nat}
def kL:fG->Bool
 | .a _=>true
 | _=>false
inductive fY(ops:Array cu):Nat->Nat->Prop where
 | GN {i:Nat} {o:cu} {e:Edge} (ho:ops[i]? = some o) (he:e∈o.after.toList) (hb:Dg .any e=true):fY ops i e.on
 | trans {i j l:Nat} (h:fY ops i j) (k:fY ops j l):fY ops i l
def DC (ops:Array cu)(a7:Array Bool):Prop:=∀i j,a7.getD i false=true->fY ops i j->a7.getD j false=true
theorem GO{ops:Array cu}{a7:Array Bool}{i:Nat}(h:i∈xw .any ops a7):i<ops.size/\a7.getD i true=false/\∀o,ops[i]? = some o->∀e∈o.after.toList,Dg .any e=true->a7.getD e.on false=true:=by
 unfold xw at h;obtain⟨h1,h2⟩:=List.mem_filter.1 h;have hi:i<ops.size:=List.mem_range.1 h1;simp only[eZ,xo] at h2;refine⟨hi,h2.1,λo ho e he hb=> ?_⟩;have h3:=h2.2;rw[ho] at h3;simp only[fo,qp] at h3;have:=Array.all_eq_true_iff_forall_mem.1 h3 e (by simpa using he);simpa[hb] using this
theorem O2{ops:Array cu}{a7:Array Bool}(c:DC ops a7){i j:Nat}(ha:fY ops i j):(∀o,ops[i]? = some o->∀e∈o.after.toList,Dg .any e=true->a7.getD e.on false=true)->a7.getD j false=true:=by
 induction ha with
 | GN ho he hb=>intro h;exact h _ ho _ he hb
 | trans h k f n=>intro g;exact c _ _ (f g) k
theorem yk{a7:Array Bool}{i j:Nat}:(a7.setIfInBounds i true).getD j false=true↔(j=i/\i<a7.size)\/a7.getD j false=true:=by
 simp only[mV];by_cases h:i=j
 ·subst h;by_cases hi:i<a7.size
  ·simp[hi]
  simp[hi]
 rw[TV h];constructor;·exact .inr
 rintro(⟨e,_⟩ | e);·exact absurd e.symm h
 exact e
theorem VG{ops:Array cu}{a7:Array Bool}(c:DC ops a7){i:Nat}(hi:i∈xw .any ops a7):DC ops (a7.setIfInBounds i true):=by
 intro a b ha e;rw[yk] at ha⊢
 rcases ha with ⟨rfl,_⟩ | ha
 ·exact .inr (O2 c e (GO hi).2.2)
 exact .inr (c _ _ ha e)
theorem aN.push{β:Nat->aC}{H:CH}{w w':ar}(h:aN P B β H w){o:Obj}(hw:w'.heap=w.heap.push o):aN P B β H w':=by
 have c : ∀b,b<w.heap.size->w'.heap[b]? = w.heap[b]? :=λb hb=>by rw[hw,C1,iN Om]
 refine⟨λl=>(h.iK l).mono (eU.refl β) λb hb=>c b ?_,h.nx,h.inj,by rw[hw];simp;exact xn h.base⟩;exact Dq h hb
theorem aN.ae8{β:Nat->aC}{H:CH}{w:ar}(h:aN P B β H w){b sz:Nat}{cs:List ae}{cs':Array ae}{e:aH}{k:Kd}{fr:Nat×Nat}(hb:w.heap[b]? = some (.cells cs' e fr))(o:B<=b)(n:Out β b)(hk:k≠ .ro)(he:(P.info? e).map (·.size)=some sz)
 (hl:cs.length<=cs'.size) (hx:k= .ex->cs.length=cs'.size) (hc : ∀(i:Nat) (v:ae),cs[i]? = some v->∃v',cs'[i]? = some v'/\VR β v v') (p:zx cs'.size fr) :
 aN P B (dS β H.nx (.live (b,0) sz cs'.size k)) (H.new (.cells cs e k)) w/\eU β (dS β H.nx (.live (b,0) sz cs'.size k))/\∀b',b'≠b->Out β b'->Out (dS β H.nx (.live (b,0) sz cs'.size k)) b':=by
 have q:=h.oV;have f:eU β (dS β H.nx (.live (b,0) sz cs'.size k)):=λl=>by
  by_cases hl:l=H.nx
  ·subst hl;exact .inr (.inl q)
  exact .inl (eD hl)
 refine⟨⟨λl=> ?_,λl hl=> ?_,λl l' b' ho c=> ?_,h.base⟩,f,λb' av g l ho=> ?_⟩
 ·by_cases j:l=H.nx
  ·subst j;simp only[fb,CH.new,iT];exact⟨rfl,cs',e,fr,hb,rfl,hl,λi v hv=>let ⟨v',a,b⟩:=hc i v hv;⟨v',a,b.mono f⟩,λ_=>he,λ_=>⟨rfl,o,p⟩,λe=>absurd e hk,λe=>⟨hx e,rfl⟩⟩
  simp only[eD j,CH.new,iN j];exact(h.iK l).mono f λ_ _=>rfl
 ·have:l≠H.nx:=by simp[CH.new] at hl;omega
  simp only[CH.new,iN this];exact h.nx l (by simp[CH.new] at hl;omega)
 ·by_cases h1:l=H.nx<;>by_cases h2:l'=H.nx
  ·rw[h1,h2]
  ·subst h1;rw[fb] at ho;rw[eD h2] at c;rw[<-ho.2] at c;exact absurd c (n l')
  ·subst h2;rw[fb] at c;rw[eD h1] at ho;rw[<-c.2] at ho;exact absurd ho (n l)
  rw[eD h1] at ho;rw[eD h2] at c;exact h.inj _ _ b' ho c
 by_cases h1:l=H.nx
 ·subst h1;rw[fb] at ho;exact av ho.2.symm
 rw[eD h1] at ho;exact g l ho
theorem O4{h:Hd} : ∀ {R:List Item} {fr aj:Fr} {H H1:CH} {l:List CH},(∀x∈R,ck x.op=false/\kL x.op=false)->cE h R fr H=some (aj,H1,l)->H1=H/\l= []
 | [],fr,aj,H,H1,l,_,e=>by simp only[cE,Option.some.injEq,Prod.mk.injEq] at e;obtain⟨rfl,rfl,rfl⟩:=e;exact⟨rfl,rfl⟩
 | x::R,fr,aj,H,H1,l,hx,e=>by
   simp only[cE] at e;cases hs:cA h x fr H with
   | none=>rw[hs] at e;cases e
   | some q=>
     obtain⟨f,K⟩:=q;have g:=hx x (ny ..);have j:K=H:=by
      simp only[cA] at hs;split at hs
      ·cases i:x.op with
       | p y=>rw[i] at hs;simp only[eb] at hs;cases hp:pop (aO fr) y<;>rw[hp] at hs<;>simp at hs;exact hs.2.symm
       | l y=>rw[i] at hs;simp only[eb] at hs;cases hp:bg H (aO fr) y<;>rw[hp] at hs<;>simp at hs;exact hs.2.symm
       | a y=>rw[i] at g;cases g.2
       | w y=>rw[i] at g;cases g.1
       | call f a=>rw[i] at g;cases g.1
       | nG f a=>rw[i] at g;cases g.1
      ·cases hs;rfl
      cases hs
     rw[hs] at e;simp only[g.1,aM,iF] at e;cases hd:cE h R f K with
     | none=>rw[hd] at e;cases e
     | some z=>
       obtain⟨a,b,c⟩:=z;rw[hd] at e;simp only[fo,Option.some.injEq,Prod.mk.injEq] at e;obtain⟨rfl,rfl,rfl⟩:=e;obtain⟨h1,h2⟩:=O4 (λy n=>hx y (kD _ n)) hd;exact⟨h1.trans j,h2⟩
theorem VH{h:Hd}{K:CH} : ∀ {R:List Item} {fr aj:Fr} {H H1:CH} {l:List CH},Ki H K->(∀x∈R,ck x.op=false/\kL x.op=false)->cE h R fr H=some (aj,H1,l)->cE h R fr K=some (aj,K,[])
 | [],fr,aj,H,H1,l,_,_,e=>by simp only[cE,Option.some.injEq,Prod.mk.injEq] at e;obtain⟨rfl,rfl,rfl⟩:=e;rfl
 | x::R,fr,aj,H,H1,l,n,hx,e=>by
   simp only[cE] at e⊢
   cases hs:cA h x fr H with
   | none=>rw[hs] at e;cases e
   | some q=>
     obtain⟨f,o⟩:=q;have g:=hx x (ny ..);have s:cA h x fr K=some (f,K)/\o=H:=by
      simp only[cA] at hs⊢;split at hs
      ·cases i:x.op with
       | p y=>rw[i] at hs;simp only[eb] at hs⊢;cases hp:pop (aO fr) y<;>rw[hp] at hs<;>simp at hs;simp[hs.1,hs.2]
       | l y=>rw[i] at hs;simp only[eb] at hs⊢;cases hp:bg H (aO fr) y<;>rw[hp] at hs<;>simp at hs;rw[VE n hp];simp[hs.1,hs.2]
       | a y=>rw[i] at g;cases g.2
       | w y=>rw[i] at g;cases g.1
       | call f a=>rw[i] at g;cases g.1
       | nG f a=>rw[i] at g;cases g.1
      ·cases hs;exact⟨rfl,rfl⟩
      cases hs
     obtain⟨j,rfl⟩:=s;rw[hs] at e;rw[j];simp only[g.1,aM,iF] at e⊢
     cases hd:cE h R f o with
     | none=>rw[hd] at e;cases e
     | some z=>
       obtain⟨a,b,c⟩:=z;rw[hd] at e;simp only[fo,Option.some.injEq,Prod.mk.injEq] at e;obtain⟨rfl,rfl,rfl⟩:=e;rw[VH n (λy t=>hx y (kD _ t)) hd];rfl
end
section
open Go Go.RowKit
variable {P:aZ} {B:Nat}
structure DS(P:aZ)(N:Nat)(ops:Array cu)(d:jf) where
 af:Nat->Item
 ok : ∀i o,ops[i]? = some o->uz P N ops o (af i)
 pO:List Nat
 rC:d.af=pO.map af
 mem : ∀i,i∈pO↔i<ops.size
 pos:Nat->Nat
 sH:pO.Pairwise (λa b=>pos a<pos b)
 wx : ∀i j,i<ops.size->fY ops i j->j<ops.size/\pos j<pos i
 dd : ∀i j t,i<ops.size->j<ops.size->(af i).dst=some t->(af j).dst=some t->i=j
 d2 : ∀i j t,i<ops.size->j<ops.size->i≠j->(af i).dst=some t->t∈(af j).eN->fY ops j i\/(fY ops i j/\kL (af j).op=false)
 d2' : ∀j t,j<ops.size->kL (af j).op=true->(af j).dst=some t->t∉(af j).eN
 ga : ∀i j t b,i<ops.size->j<ops.size->kL (af i).op=true->(af i).dst=some t->(af j).guard≠some (t,b)
 d4 : ∀i j,i<ops.size->j<ops.size->ck (af j).op=true->pos i<pos j->fY ops j i
 s2 : ∀d i t,d<ops.size->i<ops.size->ck (af d).op=false->kL (af i).op=true->(af i).dst=some t->t∈(af d).eN->∀x,x<ops.size->pos x<pos i->
  (ck (af x).op=true->fY ops d x)/\(kL (af x).op=true->(∃y,y<ops.size/\ck (af y).op=true/\pos x<pos y/\pos y<pos i)\/fY ops d x)
 rk:Nat->Nat
 rk1 : ∀x y,x<ops.size->y<ops.size->ck (af x).op=true->ck (af y).op=true->rk x<rk y->pos x<pos y
 rk2 : ∀x q,x<ops.size->ck (af x).op=true->q<rk x->∃y,y<ops.size/\ck (af y).op=true/\rk y=q
 rk3 : ∀x y,x<ops.size->y<ops.size->ck (af x).op=true->ck (af y).op=true->rk x=rk y->x=y
 lo:Nat->Nat
 hi:Nat->Nat
 lo1 : ∀r q,r<ops.size->q<lo r->∃x,x<ops.size/\ck (af x).op=true/\rk x=q/\fY ops r x
 uF : ∀r x,r<ops.size->x<ops.size->ck (af x).op=true->rk x<hi r\/pos r<pos x
 rd : ∀r x,r<ops.size->(af r).op= .l x->
  (∀x,x<ops.size->pos x<pos r->(ck (af x).op=true->fY ops r x)/\(kL (af x).op=true->(∃y,y<ops.size/\ck (af y).op=true/\pos x<pos y/\fY ops r y)\/∃t,(af x).dst=some t/\t∈(af r).eN))\/
  ((∀t j,t∈(af r).eN->j<ops.size->(af j).dst=some t->fY ops r j)/\∀s,lo r<=s->s<=hi r->(af r,s)∈d.nb)
def DS.ce{P:aZ}{N:Nat}{ops:Array cu}{d:jf}(S:DS P N ops d):Prop:=∀Zl,d.wm=some Zl->∀A k R,S.pO=A++k::R->(∀x∈A,o9 (S.af x).op=true)->o9 (S.af k).op=false->∃c:List Nat,Zl=c.map (λz=>mb (S.af z))/\c.Sublist R/\(∀z∈c,o9 (mb (S.af z)).op=true/\∀t,(S.af z).dst=some t->t∉(S.af k).eN)/\∀b∈R,b∈c\/fY ops b k
structure yn(P:aZ)(B N:Nat)(w0:ar)(β:Nat->aC)(fr:Fr)(a:Act)(w:ar)(it:Item)(b:Nat):Prop where
 ex : ∃x cs e k mk cs' hU sz v',it.op= .a x/\ec fr it.guard=some true/\fV (aO fr) x=some (cs,e,k,mk)/\k≠ .ro/\(P.info? e).map (·.size)=some sz/\w.heap[b]? = some (.cells cs' e hU)/\
  cs.length<=cs'.size/\(k= .ex->cs.length=cs'.size)/\(∀(i:Nat) (v:ae),cs[i]? = some v->∃u,cs'[i]? = some u/\VR β v u)/\(zx cs'.size hU)/\
  JN mk b sz k cs'.size v'/\∀t,it.dst=some t->a.tmps.getD t undef=v'
 base:B<=b
 apl:w0.heap.size<=b
 out:Out β b
structure Core{N:Nat}{ops:Array cu}{d:jf}(S:DS P N ops d)(B:Nat)(h:Hd)(β0:Nat->aC)(w0:ar)(fr':Fr)(H':CH)(β:Nat->aC)(fr:Fr)(H:CH)(R:List Nat)(bi:List (Nat×Nat))(l:List CH)(m:Nat)(a:Act)(w:ar):Prop where
 lt : ∀i∈R,i<ops.size
 sH:R.Pairwise (λx y=>S.pos x<S.pos y)
 oi : ∀p∈bi,p.1∈R/\kL (S.af p.1).op=true
 DZ : ∀p∈bi,yn P B N w0 β fr a w (S.af p.1) p.2
 GP:bi.Pairwise (λp q=>p.1≠q.1/\p.2≠q.2)
 zM : ∀p∈bi,∀j,fY ops p.1 j->j∉R\/∃q∈bi,q.1=j
 GQ : ∀p∈bi,∀q∈bi,∀t,(S.af q.1).dst=some t->t∉(S.af p.1).eN
 run:cE h (R.map S.af) fr H=some (fr',H',l)
 yo:aN P B β H w
 kJ:bD β0 w0 β w
 size:N<=a.tmps.size
 fr : ∀t,(∃p∈bi,(S.af p.1).dst=some t)\/VR β (fr t) (a.tmps.getD t undef)
 done : ∀x,x<ops.size->ck (S.af x).op=true->(x∉R↔S.rk x<m)
 mW : ∀q,q<m->∃y,y<ops.size/\ck (S.af y).op=true/\S.rk y=q
 Bx : ∀y,y<ops.size->ck (S.af y).op=true->y∉R->∀x,x<ops.size->S.pos x<S.pos y->x∉R
 nb : ∀r∈R,∀s,(S.af r,s)∈d.nb->S.lo r<=s->s<=S.hi r->m<=s->∃G,(H::l)[s-m]? = some G/\wo fr' G (S.af r)
theorem wo.fill{fr:Fr}{G K:CH}{it:Item}(h:wo fr G it)(c:Ki G K):wo fr K it:=by
 rcases h with h | ⟨x,d,h1,h2,h3⟩
 ·exact .inl h
 exact .inr ⟨x,d,h1,h2,VE c h3⟩
theorem VI{P:aZ}{B:Nat}{β:Nat->aC}{H:CH}{w:ar}(h:aN P B β H w)(o:dr):Ki H (H.new o):=λl hl=>by
 have:l≠H.nx:=λg=>by
  rw[g,h.nx _ (ag _)] at hl;rcases hl with ⟨_,_,_,hl⟩ | ⟨_,_,hl⟩<;>cases hl
 simp[CH.new,this]
theorem yn.cY{N:Nat}{w0:ar}{β β':Nat->aC}{fr aX:Fr}{a a':Act}{w w':ar}{it:Item}{b:Nat}(h:yn P B N w0 β fr a w it b)(hx:eU β β')(hw:w'.heap[b]? = w.heap[b]?)(ho:Out β' b)(c : ∀t∈it.eN,aX t=fr t)(ha : ∀t,it.dst=some t->a'.tmps.getD t undef=a.tmps.getD t undef) :
 yn P B N w0 β' aX a' w' it b:=by
 obtain⟨⟨x,cs,e,k,mk,cs',hU,sz,v',h1,h2,h3,h4,h5,f,g,j,n,o,s,y⟩,hb,z,_⟩:=h;refine⟨⟨x,cs,e,k,mk,cs',hU,sz,v',h1,?_,?_,h4,h5,hw.trans f,g,j,λi v hv=>let ⟨u,p,q⟩:=n i v hv;⟨u,p,q.mono hx⟩,o,s,λt ht=>(ha t ht).trans (y t ht)⟩,hb,z,ho⟩;·rw[yi c];exact h2
 rw[GM (yg λt ht=>c t (by simp only[Item.eN,h1,fp];exact .inl ht))];exact h3
theorem yp{α:Type}{r:α->α->Prop}{R1 R2:List α}{i:α}(h:(R1++i::R2).Pairwise r):(∀x∈R1,r x i)/\(∀x∈R2,r i x)/\(R1++R2).Pairwise r:=by
 rw[List.pairwise_append] at h;obtain⟨h1,h2,h3⟩:=h;rw[NP] at h2;refine⟨λx hx=>h3 x hx i (ny ..),h2.1,?_⟩;rw[List.pairwise_append];exact⟨h1,h2.2,λx hx y c=>h3 x hx y (kD _ c)⟩
theorem Core.catch{N:Nat}{ops:Array cu}{d:jf}{S:DS P N ops d}{h:Hd}{β0:Nat->aC}{w0:ar}{fr':Fr}{H':CH}{β:Nat->aC}{fr:Fr}{H:CH}{R1 R2:List Nat}{i b:Nat}{bi:List (Nat×Nat)}{l:List CH}{m:Nat}{a:Act}{w:ar}
 (C:Core S B h β0 w0 fr' H' β fr H (R1++i::R2) bi l m a w) (hl:(i,b)∈bi) (U : ∀x∈R1,ck (S.af x).op=false/\kL (S.af x).op=false) :
 ∃β2 aX H2 V,Core S B h β0 w0 fr' H' β2 aX H2 (R1++R2) V l m a w/\(∀p,p∈V↔p∈bi/\p.1≠i)/\V.length<bi.length:=by
 obtain⟨p1,p2,p3⟩:=yp C.sH;have hi:i<ops.size:=C.lt i s0;have W:kL (S.af i).op=true:=(C.oi _ hl).2;have X:ck (S.af i).op=false:=by cases bR:(S.af i).op<;>rw[bR] at W<;>first | rfl | cases W
 obtain⟨⟨x,cs,e,k,mk,cs',hU,sz,v',h1,h2,h3,h4,h5,h6,h7,h8,h9,jz,Y,wy⟩,Z,JP,gH⟩:=C.DZ _ hl;have aY:=C.run;rw[qt,dq] at aY;obtain⟨aj,H1,l1,l2,g1,F,rfl⟩:=Kh aY;obtain⟨rfl,rfl⟩:=O4 (λy o=>by obtain⟨z,hz,rfl⟩:=List.mem_map.1 o;exact U z hz) g1;have O : ∀z∈R1++R2,z≠i:=λz hz e=>by
  subst e;rcases List.mem_append.1 hz with hz | hz
  ·exact absurd (p1 z hz) (Dh _)
  exact absurd (p2 z hz) (Dh _)
 have bn : ∀z∈R1++R2,z<ops.size:=λz hz=>C.lt z (by rcases List.mem_append.1 hz with hz | hz<;>simp[hz]);have ae' : ∀z∈R1,¬ ∃q∈bi,q.1=z:=λz hz ⟨q,yq,yr⟩=>by
  have:=(C.oi q yq).2;rw[yr,(U z hz).2] at this;cases this
 have iM : ∀z∈R1,¬fY ops i z:=λz hz ha=>by
  rcases C.zM _ hl z ha with g | g
  ·exact g (by simp[hz])
  exact ae' z hz g
 have zO : ∀t∈(S.af i).eN,aj t=fr t:=λt ht=>by
  refine Bw (λy o e=> ?_) g1;obtain⟨z,hz,rfl⟩:=List.mem_map.1 o;have I:=bn z (by simp[hz]);rcases S.d2 z i t I hi (O z (by simp[hz])) e ht with q | ⟨q,q'⟩
  ·exact iM z hz q
  rw[W] at q';cases q'
 have D1 : ∀y∈R1.map S.af,∀t,(S.af i).dst=some t->t∉y.eN/\y.dst≠some t:=λy o t ht=>by
  obtain⟨z,hz,rfl⟩:=List.mem_map.1 o;have I:=bn z (by simp[hz]);refine⟨λhu=> ?_,λe=>O z (by simp[hz]) (S.dd _ _ t I hi e ht)⟩;rcases S.d2 i z t hi I (λe=>O z (by simp[hz]) e.symm) ht hu with q | ⟨q,_⟩
  ·exact absurd (S.wx _ _ I q).2 (by have:=p1 z hz;omega)
  exact iM z hz q
 have GS : ∀f:Fr,(∀t∈(S.af i).eN,f t=fr t)->cA h (S.af i) f H1=some (bE f (S.af i).dst (kH mk H1.nx),H1.new (.cells cs e k)):=λf hf=>by
  have hw:ec f (S.af i).guard=some true:=by rw[yi hf];exact h2
  have ha:fV (aO f) x=some (cs,e,k,mk):=by
   rw[GM (yg λt ht=>hf t (by simp only[Item.eN,h1,fp];exact .inl ht))];exact h3
  simp only[cA,hw,h1,eb,ha,fo]
 have Gj:=GS aj zO;simp only[cE,Gj,X,aM,iF] at F;have g2':cE h (R2.map S.af) (bE aj (S.af i).dst (kH mk H1.nx)) (H1.new (.cells cs e k))=some (fr',H',l2):=by
  cases hz:cE h (R2.map S.af) (bE aj (S.af i).dst (kH mk H1.nx)) (H1.new (.cells cs e k)) with
  | none=>rw[hz] at F;cases F
  | some z=>obtain⟨v,J,z3⟩:=z;rw[hz] at F;simpa using F
 have By:cE h ((R1++R2).map S.af) (bE fr (S.af i).dst (kH mk H1.nx)) (H1.new (.cells cs e k))=some (fr',H',[]++l2):=by
  rw[qt];exact O1 (VH (VI C.yo _) (λy o=>by obtain⟨z,hz,rfl⟩:=List.mem_map.1 o;exact U z hz) (O0 D1 g1)) g2'
 obtain⟨q1,q2,q3⟩:=C.yo.ae8 h6 Z gH h4 h5 h7 h8 h9 jz;have A : ∀p,p∈bi.filter (λp=>decide (p.1≠i))↔p∈bi/\p.1≠i:=λp=>by simp[List.mem_filter]
 refine⟨dS β H1.nx (.live (b,0) sz cs'.size k),bE fr (S.af i).dst (kH mk H1.nx),H1.new (.cells cs e k),bi.filter (λp=>decide (p.1≠i)),?_,A,List.length_filter_lt_length_iff_exists.2 ⟨_,hl,s0⟩⟩;have afa : ∀p∈bi,p.1≠i->p.2≠b:=λp hp av e=>by
  have key : ∀(L:List (Nat×Nat)),L.Pairwise (λp q=>p.1≠q.1/\p.2≠q.2)->p∈L->(i,b)∈L->False:=by
   intro L;induction L with
   | nil=>intro _ hp;cases hp
   | cons y L ih=>
     intro M hp VJ;rw[NP] at M;rcases List.mem_cons.1 hp with rfl | lO
     ·rcases List.mem_cons.1 VJ with e' | O5
      ·exact av (by rw[<-e'])
      exact(M.1 _ O5).2 e
     rcases List.mem_cons.1 VJ with e' | O5
     ·rw[<-e'] at M;exact(M.1 _ lO).2 e.symm
     exact ih M.2 lO O5
  exact key bi C.GP hp hl
 refine⟨bn,p3,λp hp=> ?_,λp hp=> ?_,C.GP.filter _,λp hp j hj=> ?_,λp hp q GV t ht=> ?_,By,q1,?_,C.size,λt=> ?_,λy o D=> ?_,C.mW,λy o D zQ z hz GW=> ?_,λr hr s hs c1 c2 c3=> ?_⟩
 ·obtain⟨u,lO⟩:=(A p).1 hp;refine⟨?_,(C.oi p u).2⟩;have:=(C.oi p u).1;simp only[fp,jw] at this⊢
  rcases this with g | g | g
  ·exact .inl g
  ·exact absurd g lO
  exact .inr g
 ·obtain⟨u,lO⟩:=(A p).1 hp;refine(C.DZ p u).cY q2 rfl (q3 _ (afa p u lO) (C.DZ p u).out) (λt ht=>yj λe=>C.GQ p u _ hl t e ht) (λt ht=>rfl)
 ·obtain⟨u,lO⟩:=(A p).1 hp;rcases C.zM p u j hj with g | ⟨q,yq,rfl⟩
  ·exact .inl λzR=>g (by rcases List.mem_append.1 zR with zR | zR<;>simp[zR])
  by_cases e:q.1=i
  ·refine .inl λzR=>O _ zR e
  exact .inr ⟨q,(A q).2 ⟨yq,e⟩,rfl⟩
 ·exact C.GQ p ((A p).1 hp).1 q ((A q).1 GV).1 t ht
 ·refine⟨C.kJ.os,C.kJ.tape,C.kJ.output,C.kJ.size,λb' fD dT=> ?_,C.kJ.ext.trans q2⟩;obtain⟨r1,r2⟩:=C.kJ.cY b' fD dT;exact⟨r1,q3 b' Om r2⟩
 ·by_cases Q:(S.af i).dst=some t
  ·right;rw[Q];simp only[bE,iT];rw[wy t Q];cases mk with
   | ptr=>simp only[JN] at Y;subst Y;exact .ptr fb
   | sl n c=>
     obtain⟨c',rfl,v,J,z3,z4,z5⟩:=Y;exact .sl fb v J z3 (λ_=>by simpa using z4) z5
  rw[yj Q];rcases C.fr t with ⟨p,u,lO⟩ | g
  ·left;refine⟨p,(A p).2 ⟨u,λe=>Q (by rw[<-e];exact lO)⟩,lO⟩
  exact .inr (g.mono q2)
 ·have O6:y≠i:=λe=>by rw[e,X] at D;cases D
  rw[<-C.done y o D];simp only[fp,jw,O6,false_or]
 ·have O6:y≠i:=λe=>by rw[e,X] at D;cases D
  have:=C.Bx y o D (by simp only[fp,jw,O6,false_or] at zQ⊢;exact zQ) z hz GW;intro g;exact this (by rcases List.mem_append.1 g with g | g<;>simp[g])
 obtain⟨G,v,J⟩:=C.nb r (by rcases List.mem_append.1 hr with hr | hr<;>simp[hr]) s hs c1 c2 c3;cases yt:s-m with
 | zero=>
   rw[yt] at v;simp only[Jt,Option.some.injEq] at v⊢;subst v;exact⟨_,rfl,J.fill (VI C.yo _)⟩
 | succ q=>
   rw[yt] at v;simp only[FO] at v⊢;exact⟨G,v,J⟩
def Ex (R:List Nat)(bi:List (Nat×Nat))(j:Nat):Prop:=j∉R\/∃q∈bi,q.1=j
section
variable {N:Nat} {ops:Array cu} {d:jf} {S:DS P N ops d} {h:Hd} {β0:Nat->aC} {w0:ar} {fr':Fr} {H':CH} {β:Nat->aC} {fr:Fr} {H:CH} {R:List Nat} {bi:List (Nat×Nat)} {l:List CH} {m:Nat} {a:Act} {w:ar}
theorem O7{R1 R2:List Nat}{i b:Nat}{n:List (Nat×Nat)}(s:i∉R1++R2)(hl:(i,b)∈bi)(o : ∀p,p∈n↔p∈bi/\p.1≠i)(j:Nat):Ex (R1++R2) n j↔Ex (R1++i::R2) bi j:=by
 unfold Ex;by_cases e:j=i
 ·subst e;exact⟨λ_=> .inr ⟨_,hl,rfl⟩,λ_=> .inl s⟩
 constructor
 ·rintro(g | ⟨q,f,rfl⟩)
  ·refine .inl λc=>g ?_;simp only[fp,jw,e,false_or] at c⊢;exact c
  exact .inr ⟨q,((o q).1 f).1,rfl⟩
 rintro(g | ⟨q,f,rfl⟩)
 ·refine .inl λc=>g ?_;simp only[fp,jw,e,false_or] at c⊢;exact c
 exact .inr ⟨q,(o q).2 ⟨f,e⟩,rfl⟩
theorem Core.yu{R1 R2:List Nat}{i:Nat}(C:Core S B h β0 w0 fr' H' β fr H (R1++i::R2) bi l m a w):i∉R1++R2:=λc=>by
 obtain⟨e,f,_⟩:=yp C.sH;rcases List.mem_append.1 c with g | g
 ·exact absurd (e i g) (Dh _)
 exact absurd (f i g) (Dh _)
theorem Core.zS(C:Core S B h β0 w0 fr' H' β fr H R bi l m a w){x:Nat}(hx:ck (S.af x).op=true) : ¬ ∃q∈bi,q.1=x:=λ⟨q,c,e⟩=>by
 have:=(C.oi q c).2;rw[e] at this;cases f:(S.af x).op<;>rw[f] at hx this<;>first | (cases hx;done) | (cases this;done)
theorem VK{p:Nat->Bool} : ∀ {l:List Nat},(∃z∈l,p z=true)->∃c z e,l=c++z::e/\p z=true/\∀y∈c,p y=false
 | [],h=>by obtain⟨z,hz,_⟩:=h;cases hz
 | a::l,h=>by
   cases ha:p a with
   | true=>exact⟨[],a,l,rfl,ha,λy hy=>by cases hy⟩
   | false=>
     have : ∃z∈l,p z=true:=by
      obtain⟨z,hz,h2⟩:=h;rcases List.mem_cons.1 hz with rfl | hz
      ·rw[ha] at h2;cases h2
      exact⟨z,hz,h2⟩
     obtain⟨c,z,e,rfl,h1,h2⟩:=VK this;refine⟨a::c,z,e,rfl,h1,λy hy=> ?_⟩;rcases List.mem_cons.1 hy with rfl | hy
     ·exact ha
     exact h2 y hy
theorem Core.feed : ∀(n:Nat) {β:Nat->aC} {fr:Fr} {H:CH} {R:List Nat} {bi:List (Nat×Nat)},bi.length<=n->∀(C:Core S B h β0 w0 fr' H' β fr H R bi l m a w) {i:Nat},i<ops.size->ck (S.af i).op=false->i∈R->(¬ ∃q∈bi,q.1=i)->(∀j,fY ops i j->Ex R bi j)->
 ∃β2 aX Q R2 v,Core S B h β0 w0 fr' H' β2 aX Q R2 v l m a w/\(∀j,Ex R2 v j↔Ex R bi j)/\i∈R2/\(∀q∈v,∀t,(S.af q.1).dst=some t->t∉(S.af i).eN):=by
 intro n;induction n with
 | zero=>
   intro β fr H R bi hn C i hi J f A s;have:bi= []:=List.length_eq_zero_iff.1 Om;subst this;exact⟨β,fr,H,R,[],C,λ_=>fJ,f,λq o=>by cases o⟩
 | succ n ih=>
   intro β fr H R bi hn C i hi J f A s;by_cases hex : ∃q∈bi,∃t,(S.af q.1).dst=some t/\t∈(S.af i).eN
   ·obtain⟨⟨x,b⟩,o,t,ht,hu⟩:=hex;obtain⟨U,VL⟩:=C.oi _ o;simp only at U VL ht;have hx:=C.lt x U;obtain⟨c,R2,rfl⟩:=NQ U;have V:=S.s2 i x t hi hx J VL ht hu;obtain⟨p1,p2,_⟩:=yp C.sH;have VM : ∀z∈c,ck (S.af z).op=false:=λz hz=>by
     have u:z∈c++x::R2:=by simp[hz]
     have L:=C.lt z u;cases GY:ck (S.af z).op with
     | false=>rfl
     | true=>
       rcases s z ((V z L (p1 z hz)).1 GY) with g | g
       ·exact absurd u g
       exact absurd g (C.zS GY)
    have W : ∀z∈c,kL (S.af z).op=true->∃q∈bi,q.1=z:=λz hz D=>by
     have u:z∈c++x::R2:=by simp[hz]
     have L:=C.lt z u;rcases(V z L (p1 z hz)).2 D with ⟨y,y1,X,y3,y4⟩ | ha
     ·have M:y∉c++x::R2:=by
       rcases s y ((V y y1 y4).1 X) with g | g
       ·exact g
       exact absurd g (C.zS X)
      exact absurd u (C.Bx y y1 X M z L y3)
     rcases s z ha with g | g
     ·exact absurd u g
     exact g
    by_cases VN : ∃z∈c,kL (S.af z).op=true
    ·obtain⟨O,z,Y,rfl,D,xZ⟩:=VK (p:=λz=>kL (S.af z).op) VN;obtain⟨⟨Z,b'⟩,GV,tF⟩:=W z s0 D;simp only at tF;subst tF;have hRe:(O++Z::Y)++x::R2=O++Z::(Y++x::R2):=by simp
     rw[hRe] at C f s⊢
     have GZ : ∀y∈O,ck (S.af y).op=false/\kL (S.af y).op=false:=λy M=>⟨VM y (by simp[M]),xZ y M⟩;obtain⟨β2,aX,Q,v,C2,F,G⟩:=C.catch GV GZ;have I:=λj=>O7 (R1:=O) (R2:=Y++x::R2) C.yu GV F j;have Bh:i≠Z:=λe=>A ⟨_,GV,e.symm⟩;obtain⟨β3,uB,H3,R3,G0,C3,e3,m3,f3⟩:=ih Om C2 hi J (by simp only[fp,jw,Bh,false_or] at f⊢;exact f) (λ⟨q,q1,q2⟩=>A ⟨q,((F q).1 q1).1,q2⟩) (λj hj=>(I j).2 (s j hj));exact⟨β3,uB,H3,R3,G0,C3,λj=>(e3 j).trans (I j),m3,f3⟩
    have GZ : ∀z∈c,ck (S.af z).op=false/\kL (S.af z).op=false:=λz hz=>⟨VM z hz,by
     cases D:kL (S.af z).op with
     | false=>rfl
     | true=>exact absurd ⟨z,hz,D⟩ VN⟩
    obtain⟨β2,aX,Q,v,C2,F,G⟩:=C.catch o GZ;have I:=λj=>O7 (R1:=c) (R2:=R2) C.yu o F j;have Bh:i≠x:=λe=>A ⟨_,o,e.symm⟩;obtain⟨β3,uB,H3,R3,G0,C3,e3,m3,f3⟩:=ih Om C2 hi J (by simp only[fp,jw,Bh,false_or] at f⊢;exact f) (λ⟨q,q1,q2⟩=>A ⟨q,((F q).1 q1).1,q2⟩) (λj hj=>(I j).2 (s j hj));exact⟨β3,uB,H3,R3,G0,C3,λj=>(e3 j).trans (I j),m3,f3⟩
   exact⟨β,fr,H,R,bi,C,λ_=>fJ,f,λq o t ht hu=>hex ⟨q,o,t,ht,hu⟩⟩
theorem Core.front : ∀(R1:List Nat) {R2:List Nat} {i:Nat} {β:Nat->aC} {fr:Fr} {H:CH} {bi:List (Nat×Nat)} (C:Core S B h β0 w0 fr' H' β fr H (R1++i::R2) bi l m a w),(∀x∈R1,∃q∈bi,q.1=x)->
 ∃β2 aX g c,Core S B h β0 w0 fr' H' β2 aX g (i::R2) c l m a w/\(∀j,Ex (i::R2) c j↔Ex (R1++i::R2) bi j)
 | [],R2,i,β,fr,H,bi,C,_=>⟨β,fr,H,bi,C,λ_=>fJ⟩
 | x::R1,R2,i,β,fr,H,bi,C,hx=>by
   obtain⟨⟨x',b⟩,n,rfl⟩:=hx x (ny ..);have f:Core S B h β0 w0 fr' H' β fr H ([]++x'::(R1++i::R2)) bi l m a w:=C;obtain⟨β2,aX,g,c,t,o,p⟩:=f.catch n (λz hz=>by cases hz);have u:=λj=>O7 (R1:= []) (R2:=R1++i::R2) f.yu n o j;have v:=f.yu;obtain⟨β3,y,A,D,F,G⟩:=Core.front R1 t (λz hz=>by
    obtain⟨q,I,s⟩:=hx z (kD _ hz);exact⟨q,(o q).2 ⟨I,λe=>v (by rw[<-e,s];simp[hz])⟩,s⟩)
   exact⟨β3,y,A,D,F,λj=>(G j).trans (u j)⟩
end
end
section
open Go Go.RowKit
variable {P:aZ} {B:Nat}
section
variable {N:Nat} {ops:Array cu} {d:jf} {S:DS P N ops d} {h:Hd} {β0:Nat->aC} {w0:ar} {fr':Fr} {H':CH} {β:Nat->aC} {fr:Fr} {H:CH} {R:List Nat} {bi:List (Nat×Nat)} {l:List CH} {m:Nat} {a:Act} {w:ar}
open Classical in
noncomputable def patch(S:DS P N ops d)(bi:List (Nat×Nat))(fr:Fr):Fr:=λt=>if ∃q∈bi,(S.af q.1).dst=some t then undef else fr t
theorem Core.VO(C:Core S B h β0 w0 fr' H' β fr H R bi l m a w):FR β N (patch S bi fr) a:=by
 refine⟨C.size,λt=> ?_⟩;unfold patch;split;·exact .undef _
 rename_i hn;rcases C.fr t with g | g
 ·exact absurd g hn
 exact g
theorem VP{i:Nat}(c : ∀q∈bi,∀t,(S.af q.1).dst=some t->t∉(S.af i).eN) : ∀t∈(S.af i).eN,fr t=patch S bi fr t:=by
 intro t ht;unfold patch;rw[iN];rintro⟨q,f,e⟩;exact c q f t e ht
theorem Core.quiet(C:Core S B h β0 w0 fr' H' β fr H R bi l m a w){i:Nat}(hi:i<ops.size)(nf:i∈R)(iz : ¬ ∃q∈bi,q.1=i)(F:ck (S.af i).op=false)(zN:kL (S.af i).op=false\/ec fr (S.af i).guard=some false)
 (V : ∀j,fY ops i j->Ex R bi j) (yw : ∀q∈bi,∀t,(S.af q.1).dst=some t->t∉(S.af i).eN) :
 ∃R1 R2 v,R=R1++i::R2/\cA h (S.af i) fr H=some (bE fr (S.af i).dst v,H)/\cE h ((R1++R2).map S.af) (bE fr (S.af i).dst v) H=some (fr',H',l):=by
 obtain⟨R1,R2,rfl⟩:=NQ nf;obtain⟨W,p2,p3⟩:=yp C.sH;have O : ∀z∈R1++R2,z≠i:=λz hz e=>C.yu (e▸hz);have X : ∀z∈R1++R2,z<ops.size:=λz hz=>C.lt z (by rcases List.mem_append.1 hz with hz | hz<;>simp[hz]);have VQ : ∀z∈R1,z∈R1++i::R2:=λz hz=>by simp[hz]
 have Y : ∀z∈R1,fY ops i z->∃q∈bi,q.1=z:=λz hz ha=>by
  rcases V z ha with g | g
  ·exact absurd (VQ z hz) g
  exact g
 have aY:=C.run;rw[qt,dq] at aY;obtain⟨aj,H1,l1,l2,g1,s,rfl⟩:=Kh aY;have zO : ∀t∈(S.af i).eN,aj t=fr t:=λt ht=>by
  refine Bw (λy c e=> ?_) g1;obtain⟨z,hz,rfl⟩:=List.mem_map.1 c;have n:=X z (by simp[hz]);rcases S.d2 z i t n hi (O z (by simp[hz])) e ht with q | ⟨q,_⟩
  ·obtain⟨I,J,L⟩:=Y z hz q;exact yw I J t (by rw[L];exact e) ht
  exact absurd (S.wx _ _ n q).2 (by have:=W z hz;omega)
 have D1 : ∀y∈R1.map S.af,∀t,(S.af i).dst=some t->t∉y.eN/\y.dst≠some t:=λy c t ht=>by
  obtain⟨z,hz,rfl⟩:=List.mem_map.1 c;have n:=X z (by simp[hz]);refine⟨λhu=> ?_,λe=>O z (by simp[hz]) (S.dd _ _ t n hi e ht)⟩;rcases S.d2 i z t hi n (λe=>O z (by simp[hz]) e.symm) ht hu with q | ⟨q,qa⟩
  ·exact absurd (S.wx _ _ n q).2 (by have:=W z hz;omega)
  obtain⟨I,J,L⟩:=Y z hz q;have:=(C.oi I J).2;rw[L,qa] at this;cases this
 have tJ:ec aj (S.af i).guard=ec fr (S.af i).guard:=yi zO;simp only[cE] at s;cases hs:cA h (S.af i) aj H1 with
 | none=>rw[hs] at s;cases s
 | some q=>
   obtain⟨f,K⟩:=q;rw[hs] at s;simp only[F,aM,iF] at s;have g3:cE h (R2.map S.af) f K=some (fr',H',l2):=by
    cases hz:cE h (R2.map S.af) f K with
    | none=>rw[hz] at s;cases s
    | some z=>obtain⟨Z,D,z3⟩:=z;rw[hz] at s;simpa using s
   have fin : ∀v,f=bE aj (S.af i).dst v->K=H1->cA h (S.af i) fr H=some (bE fr (S.af i).dst v,H)->∃Q U v,R1++i::R2=Q++i::U/\cA h (S.af i) fr H=some (bE fr (S.af i).dst v,H)/\cE h ((Q++U).map S.af) (bE fr (S.af i).dst v) H=some (fr',H',l1++l2):=by
    intro v e1 e2 e3;subst e1 e2;refine⟨R1,R2,v,rfl,e3,?_⟩;rw[qt];exact O1 (O0 D1 g1) g3
   simp only[cA] at hs;cases hw:ec fr (S.af i).guard with
   | none=>rw[tJ,hw] at hs;cases hs
   | some b=>
     rw[tJ,hw] at hs;cases b with
     | false=>
       simp only[Option.some.injEq,Prod.mk.injEq] at hs;exact fin jK hs.1.symm hs.2.symm (by simp only[cA,hw])
     | true=>
       have hA:kL (S.af i).op=false:=by
        rcases zN with g | g
        ·exact g
        rw[hw] at g;cases g
       simp only at hs;cases o:(S.af i).op with
       | a x=>rw[o] at hA;cases hA
       | w x=>rw[o] at F;cases F
       | call f a=>rw[o] at F;cases F
       | nG f a=>rw[o] at F;cases F
       | p x=>
         rw[o] at hs;simp only[eb] at hs;cases hp:pop (aO aj) x with
         | none=>rw[hp] at hs;cases hs
         | some u=>
           rw[hp] at hs;simp only[fo,Option.some.injEq,Prod.mk.injEq] at hs;have lO:pop (aO fr) x=some u:=by
            rw[<-hp];exact VC (yg λt ht=>(zO t (by simp only[Item.eN,o,fp];exact .inl ht)).symm)
           exact fin u hs.1.symm hs.2.symm (by simp only[cA,hw,o,eb,lO,fo])
       | l x=>
         rw[o] at hs;simp only[eb] at hs;cases hp:bg H1 (aO aj) x with
         | none=>rw[hp] at hs;cases hs
         | some u=>
           rw[hp] at hs;simp only[fo,Option.some.injEq,Prod.mk.injEq] at hs;have VS : ∀(f:Fr) (G:CH),(∀t∈(S.af i).eN,f t=fr t)->bg G (aO f) x=bg G (aO fr) x:=λf G hf=>
            VD (yg λt ht=>hf t (by simp only[Item.eN,o,fp];exact .inl ht))
           have lO:bg H (aO fr) x=some u:=by
            rcases S.rd i x hi o with afb | ⟨c1,c2⟩
            ·have GZ : ∀z∈R1,ck (S.af z).op=false/\kL (S.af z).op=false:=λz hz=>by
              have n:=X z (by simp[hz]);obtain⟨s1,s2⟩:=afb z n (W z hz);refine⟨?_,?_⟩
              ·cases GY:ck (S.af z).op with
               | false=>rfl
               | true=>exact absurd (Y z hz (s1 GY)) (C.zS GY)
              cases Bz:kL (S.af z).op with
              | false=>rfl
              | true=>
                rcases s2 Bz with ⟨y,M,A,y3,y4⟩ | ⟨t,t1,t2⟩
                ·have c:y∉R1++i::R2:=by
                  rcases V y y4 with g | g
                  ·exact g
                  exact absurd g (C.zS A)
                 exact absurd (VQ z hz) (C.Bx y M A c z n y3)
                rcases S.d2 z i t n hi (O z (by simp[hz])) t1 t2 with q | ⟨q,_⟩
                ·obtain⟨I,J,L⟩:=Y z hz q;exact absurd t2 (yw I J t (by rw[L];exact t1))
                exact absurd (S.wx _ _ n q).2 (by have:=W z hz;omega)
             obtain⟨e1,_⟩:=O4 (λy c=>by obtain⟨z,hz,rfl⟩:=List.mem_map.1 c;exact GZ z hz) g1;rw[<-VS aj H zO,<-e1];exact hp
            have rD:S.lo i<=m:=by
             rcases pE m (S.lo i) with g | g
             ·obtain⟨y,M,A,y3,y4⟩:=S.lo1 i m hi g;have c:y∉R1++i::R2:=by
               rcases V y y4 with g | g
               ·exact g
               exact absurd g (C.zS A)
              have:=(C.done y M A).1 c;omega
             exact g
            have yx:m<=S.hi i:=by
             rcases pE (S.hi i) m with g | g
             ·obtain⟨y,M,A,y3⟩:=C.mW _ g;have c:y∉R1++i::R2:=(C.done y M A).2 Om;rcases S.uF i y hi M A with q | q
              ·omega
              exact absurd nf (C.Bx y M A c i hi q)
             exact g
            obtain⟨G,Z,D⟩:=C.nb i nf m (c2 m rD yx) rD yx (ag m);rw[Nat.sub_self] at Z;simp only[Jt,Option.some.injEq] at Z;subst Z;have mI : ∀t∈(S.af i).eN,fr' t=fr t:=λt ht=>by
             refine Bw (λy c e=> ?_) C.run;obtain⟨z,hz,rfl⟩:=List.mem_map.1 c;have n:=C.lt z hz;have ha:=c1 t z ht n e;rcases V z ha with g | ⟨I,J,L⟩
             ·exact g hz
             exact yw I J t (by rw[L];exact e) ht
            have D3:ec fr' (S.af i).guard=some true:=by rw[yi mI];exact hw
            rcases D with D | ⟨x',d',D,z3,z4⟩
            ·rw[D3] at D;cases D
            rw[o] at D;cases D;rw[VS fr' H mI] at z4;rw[z4];have:fr' d'=u:=by
             rw[Bw (t:=d') (λy c e=> ?_) g3,<-hs.1,z3];·simp[bE]
             obtain⟨z,hz,rfl⟩:=List.mem_map.1 c;exact O z (by simp[hz]) (S.dd _ _ d' (X z (by simp[hz])) hi e z3)
            rw[this]
           exact fin u hs.1.symm hs.2.symm (by simp only[cA,hw,o,eb,lO,fo])
end
end
section
open Go Go.RowKit
variable {P:aZ} {B:Nat}
section
variable {N:Nat} {ops:Array cu} {d:jf} {S:DS P N ops d} {h:Hd} {β0:Nat->aC} {w0:ar} {fr':Fr} {H':CH} {β:Nat->aC} {fr:Fr} {H:CH} {R:List Nat} {bi:List (Nat×Nat)} {l:List CH} {m:Nat} {a:Act} {w:ar}
theorem yn.lt{N:Nat}{it:Item}{b:Nat}(h:yn P B N w0 β fr a w it b):b<w.heap.size:=by
 obtain⟨_,_,_,_,_,_,_,_,_,_,_,_,_,_,c,_⟩:=h.ex;exact(Array.getElem?_eq_some_iff.1 c).1
theorem O8{a:Act}{d:Option Nat}{v:ae}{t:Nat}(h:d≠some t):(a.put d v).tmps.getD t undef=a.tmps.getD t undef:=by
 cases d with
 | none=>rfl
 | some x=>
   have av:x≠t:=λe=>h (by rw[e]);simp only[Act.put,mV,TV av]
theorem Core.VT(C:Core S B h β0 w0 fr' H' β fr H R bi l m a w){i:Nat}(hi:i<ops.size)(o:i∈R)(j : ¬ ∃q∈bi,q.1=i){β':Nat->aC}{w':ar}{v v':ae}(hx:eU β β')(hk : ∀b,b<w.heap.size->Out β b->w'.heap[b]? = w.heap[b]? /\Out β' b) :
 ∀p∈bi,yn P B N w0 β' (bE fr (S.af i).dst v) (a.put (S.af i).dst v') w' (S.af p.1) p.2:=λp hp=>by
 have c:=C.DZ p hp;obtain⟨k1,s⟩:=hk _ c.lt c.out;obtain⟨u,f⟩:=C.oi p hp;have n:=C.lt _ u;have av:p.1≠i:=λe=>j ⟨p,hp,e⟩;refine c.cY hx k1 s (λt ht=>yj λe=> ?_) (λt ht=>O8 λe=>av (S.dd _ _ t n hi ht e));rcases S.d2 i p.1 t hi n av.symm e ht with q | ⟨_,q⟩
 ·rcases C.zM p hp i q with g | g
  ·exact g o
  exact j g
 rw[f] at q;cases q
theorem Core.VU(C:Core S B h β0 w0 fr' H' β fr H R bi l m a w){i:Nat}{β':Nat->aC}{v:ae}{a':Act}(c:FR β' N (bE (patch S bi fr) (S.af i).dst v) a') :
 ∀t,(∃p∈bi,(S.af p.1).dst=some t)\/VR β' (bE fr (S.af i).dst v t) (a'.tmps.getD t undef):=λt=>by
 by_cases hl : ∃p∈bi,(S.af p.1).dst=some t
 ·exact .inl hl
 right;have:=c.2 t;by_cases e:(S.af i).dst=some t
 ·rw[e] at this⊢
  simpa only[bE,iT] using this
 rw[yj e] at this⊢;unfold patch at this;rwa [iN hl] at this
theorem Core.afc{R1 R2:List Nat}{i:Nat}(C:Core S B h β0 w0 fr' H' β fr H (R1++i::R2) bi l m a w)(o : ¬ ∃q∈bi,q.1=i)(x:ck (S.af i).op=false){v v':ae}{β':Nat->aC}{w':ar}
 (A:cE h ((R1++R2).map S.af) (bE fr (S.af i).dst v) H=some (fr',H',l)) (D:aN P B β' H w') (hE:bD β w β' w') (t:FR β' N (bE (patch S bi fr) (S.af i).dst v) (a.put (S.af i).dst v')) :
 Core S B h β0 w0 fr' H' β' (bE fr (S.af i).dst v) H (R1++R2) bi l m (a.put (S.af i).dst v') w':=by
 obtain⟨U,V,F⟩:=yp C.sH;have hi:i<ops.size:=C.lt i s0;have sub : ∀z,z∈R1++R2->z∈R1++i::R2:=λz hz=>by rcases List.mem_append.1 hz with hz | hz<;>simp[hz]
 have c : ∀z,z≠i->(z∈R1++R2↔z∈R1++i::R2):=λz hz=>by simp only[fp,jw,hz,false_or]
 have u : ∀y,ck (S.af y).op=true->y≠i:=λy f e=>by rw[e,x] at f;cases f
 refine⟨λz hz=>C.lt z (sub z hz),F,λp hp=> ?_,C.VT hi s0 o hE.ext hE.cY,C.GP,λp hp j G=> ?_,C.GQ,A,D,C.kJ.trans hE,t.1,C.VU t,λy f n=> ?_,C.mW,λy f n I z hz J g=> ?_,λr L s hs M O Q=>C.nb r (sub r L) s hs M O Q⟩;·exact⟨(c _ λe=>o ⟨p,hp,e⟩).2 (C.oi p hp).1,(C.oi p hp).2⟩
 ·rcases C.zM p hp j G with g | g
  ·exact .inl λq=>g (sub _ q)
  exact .inr g
 ·rw[<-C.done y f n,c y (u y n)]
 exact C.Bx y f n (λq=>I ((c y (u y n)).2 q)) z hz J (sub z g)
theorem Core.afd{i:Nat}(C:Core S B h β0 w0 fr' H' β fr H R bi l m a w)(hi:i<ops.size)(x:i∈R)(s : ¬ ∃q∈bi,q.1=i)(y:kL (S.af i).op=true)(A : ∀j,fY ops i j->Ex R bi j)(D : ∀q∈bi,∀t,(S.af q.1).dst=some t->t∉(S.af i).eN)
 {v':ae} {w':ar} {o:Obj} (hw:w'.heap=w.heap.push o) (F:w'.os=w.os) (G:w'.tape=w.tape) (I:w'.output=w.output) (O : ∀t,(S.af i).dst=some t->t<N) (n:yn P B N w0 β fr (a.put (S.af i).dst v') w' (S.af i) w.heap.size) :
 Core S B h β0 w0 fr' H' β fr H R ((i,w.heap.size)::bi) l m (a.put (S.af i).dst v') w':=by
 have c : ∀b,b<w.heap.size->Out β b->w'.heap[b]? = w.heap[b]? /\Out β b:=λb hb ho=>⟨by rw[hw,C1,iN Om],ho⟩;have hE:bD β w β w':=⟨F,G,I,by rw[hw];simp,c,eU.refl β⟩;have J : ∀p∈bi,yn P B N w0 β fr (a.put (S.af i).dst v') w' (S.af p.1) p.2:=λp hp=>by
  have n:=C.DZ p hp;obtain⟨k1,L⟩:=c _ n.lt n.out;exact n.cY (eU.refl β) k1 L (λt ht=>rfl) (λt ht=>O8 λe=>s ⟨p,hp,S.dd _ _ t (C.lt _ (C.oi p hp).1) hi ht e⟩)
 refine⟨C.lt,C.sH,λp hp=> ?_,λp hp=> ?_,?_,λp hp j z=> ?_,λp hp q hq t ht=> ?_,C.run,C.yo.push hw,C.kJ.trans hE,?_,λt=> ?_,C.done,C.mW,C.Bx,C.nb⟩
 ·rcases List.mem_cons.1 hp with rfl | hp
  ·exact⟨x,y⟩
  exact C.oi p hp
 ·rcases List.mem_cons.1 hp with rfl | hp
  ·exact n
  exact J p hp
 ·rw[NP];refine⟨λp hp=>⟨λe=>s ⟨p,hp,e.symm⟩,λe=> ?_⟩,C.GP⟩;have:=(C.DZ p hp).lt;simp only at e;omega
 ·have f:Ex R bi j->j∉R\/∃q∈(i,w.heap.size)::bi,q.1=j:=by
   rintro(g | ⟨q,u,v⟩);·exact .inl g
   exact .inr ⟨q,kD _ u,v⟩
  rcases List.mem_cons.1 hp with rfl | hp
  ·exact f (A j z)
  exact f (C.zM p hp j z)
 ·rcases List.mem_cons.1 hp with rfl | hp<;>rcases List.mem_cons.1 hq with rfl | hq
  ·exact S.d2' _ t hi y ht
  ·exact D q hq t ht
  ·intro hu;have M:=(C.oi p hp).1;rcases S.d2 i p.1 t hi (C.lt _ M) (λe=>s ⟨p,hp,e.symm⟩) ht hu with q | ⟨_,q⟩
   ·rcases C.zM p hp i q with g | g
    ·exact g x
    exact s g
   rw[(C.oi p hp).2] at q;cases q
  exact C.GQ p hp q hq t ht
 ·have:=C.size;cases (S.af i).dst<;>simpa[Act.put] using this
 by_cases e:(S.af i).dst=some t
 ·exact .inl ⟨_,ny ..,e⟩
 rw[O8 e];rcases C.fr t with ⟨p,u,v⟩ | g
 ·exact .inl ⟨p,kD _ u,v⟩
 exact .inr g
theorem Core.kM{R2:List Nat}{i:Nat}(C:Core S B h β0 w0 fr' H' β fr H (i::R2) bi l m a w)(c:ck (S.af i).op=true)(n : ∀j,fY ops i j->Ex (i::R2) bi j):S.rk i=m:=by
 have hi:i<ops.size:=C.lt i s0;have h1 : ¬S.rk i<m:=λg=>((C.done i hi c).2 g) s0;rcases pE m (S.rk i) with g | g
 ·obtain⟨y,e,f,o⟩:=S.rk2 i m hi c g;have hp:=S.rk1 y i e hi f c Om;rcases n y (S.d4 y i e hi c hp) with q | q
  ·have:=(C.done y e f).1 q;omega
  exact absurd q (C.zS f)
 omega
theorem Core.afe{R2:List Nat}{i:Nat}(C:Core S B h β0 w0 fr' H' β fr H (i::R2) bi l m a w)(t:ck (S.af i).op=true)(I:S.rk i=m){v v':ae}{β':Nat->aC}{w':ar}{H1:CH}{u:List CH}(hl:l=H1::u)
 (J:cE h (R2.map S.af) (bE fr (S.af i).dst v) H1=some (fr',H',u)) (L:aN P B β' H1 w') (hE:bD β w β' w') (D:FR β' N (bE (patch S bi fr) (S.af i).dst v) (a.put (S.af i).dst v')) :
 Core S B h β0 w0 fr' H' β' (bE fr (S.af i).dst v) H1 R2 bi u (m+1) (a.put (S.af i).dst v') w':=by
 have hi:i<ops.size:=C.lt i s0;have F:=C.zS t;have f:=C.sH;rw[NP] at f;have c : ∀z,z≠i->(z∈R2↔z∈i::R2):=λz hz=>by simp only[jw,hz,false_or]
 have x:i∉R2:=λg=>absurd (f.1 i g) (Dh _);refine⟨λz hz=>C.lt z (kD _ hz),f.2,λp hp=> ?_,C.VT hi s0 F hE.ext hE.cY,C.GP,λp hp j M=> ?_,C.GQ,J,L,C.kJ.trans hE,D.1,C.VU D,λy n o=> ?_,λq Y=> ?_,λy n o O z hz Q g=> ?_,λr U s hs V W Z=> ?_⟩;·exact⟨(c _ λe=>F ⟨p,hp,e⟩).2 (C.oi p hp).1,(C.oi p hp).2⟩
 ·rcases C.zM p hp j M with g | g
  ·exact .inl λq=>g (kD _ q)
  exact .inr g
 ·by_cases e:y=i
  ·subst e;exact⟨λ_=>by omega,λ_=>x⟩
  rw[c y e,C.done y n o];constructor;·intro g;omega
  intro g;rcases pE (S.rk y) m with q | q
  ·exact q
  exact absurd (S.rk3 y i n hi o t Om) e
 ·by_cases e:q=m
  ·exact⟨i,hi,t,Om⟩
  exact C.mW q Om
 ·by_cases e:y=i
  ·subst e;have:=f.1 z g;omega
  exact C.Bx y n o (λq=>O ((c y e).2 q)) z hz Q (kD _ g)
 obtain⟨G,A,X⟩:=C.nb r (kD _ U) s hs V W Om;refine⟨G,?_,X⟩;rw[hl] at A;rw[show s-m=(s-(m+1))+1 by omega,FO] at A;exact A
end
end
section
open Go Go.RowKit
variable {P:aZ} {B:Nat}
section
variable {N:Nat} {ops:Array cu} {d:jf} {S:DS P N ops d} {h:Hd} {β0:Nat->aC} {w0:ar} {fr':Fr} {H':CH}
structure Inv(S:DS P N ops d)(B:Nat)(h:Hd)(β0:Nat->aC)(w0:ar)(fr':Fr)(H':CH)(df:List uk)(a7:Array Bool)(a:Act)(w:ar):Prop where
 core : ∃β fr H R bi l m,Core S B h β0 w0 fr' H' β fr H R bi l m a w/\∀j,j<ops.size->(a7.getD j false=true↔Ex R bi j)
 dc:DC ops a7
 size:a7.size=ops.size
 defers:a.defers=df
theorem VW{R1 R2:List Nat}{i:Nat}{bi:List (Nat×Nat)}(hn:i∉R1++R2)(j:Nat):Ex (R1++R2) bi j↔j=i\/Ex (R1++i::R2) bi j:=by
 unfold Ex;by_cases e:j=i
 ·subst e;exact⟨λ_=> .inl rfl,λ_=> .inl hn⟩
 simp only[fp,jw,e,false_or]
theorem D4{Q:Exit->Act->ar->Prop}{F:Fence}{n i:Nat}{K:Act->ar->Prop}{a:Act}{w:ar}{o:cu}(ho:ops[i]? = some o)(c : ∀f,F.fn f)
 (h1:Js o (yielded ops a.tmps)=true->o.wpIn F n P a w K Q) (h2:Js o (yielded ops a.tmps)=false->K (a.put o.dst undef) w):wpOpIn F n P ops Q i K a w:=by
 unfold wpOpIn;simp only[ho];cases hw:Js o (yielded ops a.tmps) with
 | true=>simp only[iT];exact h1 hw
 | false=>simp only[aM,iF];exact⟨λf _=>c f,h2 hw⟩
theorem Inv.step(hh:HS P B h){ro:Option Nat}{df:List uk}{a7:Array Bool}{a:Act}{w:ar}{Q:Exit->Act->ar->Prop}(I:Inv S B h β0 w0 fr' H' df a7 a w){i:Nat}(hi:i∈xw .any ops a7){K:Act->ar->Prop}
 (hK : ∀a' w',Inv S B h β0 w0 fr' H' df (a7.setIfInBounds i true) a' w'->K a' w'):wpOpIn (Fn ro) 0 P ops Q i K a w:=by
 obtain⟨β,fr,H,R,bi,l,m,C,hex⟩:=I.core;obtain⟨D,nB,D5⟩:=GO hi;obtain⟨o,ho⟩ : ∃o,ops[i]? = some o:=⟨ops[i],by simp[D]⟩;have G:=S.ok i o ho;have G1 : ∀j,fY ops i j->a7.getD j false=true:=λj J=>O2 I.dc J D5;have Kl : ∀j,fY ops i j->Ex R bi j:=λj J=>(hex j (S.wx i j D J).1).1 (G1 j J);have aff : ¬a7.getD i false=true:=λg=>by
  simp only[mV] at nB g;have:i<a7.size:=by rw[I.size];exact D
  rw[sm this] at nB g;simp only[qp] at nB g;rw[g] at nB;cases nB
 have dE : ¬Ex R bi i:=λg=>aff ((hex i D).2 g);have nf:i∈R:=NR λg=>dE (.inl g);have iz : ¬ ∃q∈bi,q.1=i:=λg=>dE (.inr g);have bn : ∀t,(S.af i).dst=some t->t<N:=λt ht=>G.lt t (by rw[<-G.dst];exact ht);have nZ : ∀ {R':List Nat} {Pa:List (Nat×Nat)},(∀j,Ex R' Pa j↔j=i\/Ex R bi j)->∀j,j<ops.size->((a7.setIfInBounds i true).getD j false=true↔Ex R' Pa j):=by
  intro R' Pa hE j J;rw[yk,hE j,<-hex j J];constructor
  ·rintro(⟨e,_⟩ | g);·exact .inl e
   exact .inr g
  rintro(e | g);·exact .inl ⟨e,by rw[I.size];exact D⟩
  exact .inr g
 have zD : ∀v',(a.put o.dst v').defers=df:=λv'=>by rw[<-I.defers];cases o.dst<;>rfl
 have close : ∀ {β2:Nat->aC} {c:Fr} {L:CH} {R2:List Nat} {s:List (Nat×Nat)} {O:List CH} {Y:Nat} {v':ae} {w':ar},Core S B h β0 w0 fr' H' β2 c L R2 s O Y (a.put (S.af i).dst v') w'->(∀j,Ex R2 s j↔j=i\/Ex R bi j)->K (a.put o.dst v') w':=by
  intro β2 c L R2 s O Y v' w' n hE;rw[G.dst] at n;exact hK _ _ ⟨⟨β2,c,L,R2,s,O,Y,n,nZ hE⟩,VG I.dc hi,by simp[I.size],zD v'⟩
 have act : ∀ {β2:Nat->aC} {c:Fr} {L H3:CH} {R2:List Nat} {s:List (Nat×Nat)} {O:List CH} {Y:Nat} {v:ae},Core S B h β0 w0 fr' H' β2 c L R2 s O Y a w->
  (∀q∈s,∀t,(S.af q.1).dst=some t->t∉(S.af i).eN)->cA h (S.af i) c L=some (bE c (S.af i).dst v,H3)->
  (∀β' w' v',aN P B β' H3 w'->bD β2 w β' w'->FR β' N (bE (patch S s c) (S.af i).dst v) (a.put (S.af i).dst v')->K (a.put o.dst v') w')->wpOpIn (Fn ro) 0 P ops Q i K a w:=by
  intro β2 c L H3 R2 s O Y v n yw GS hk;have bp:=VP (S:=S) (bi:=s) (fr:=c) yw;obtain⟨u,e1,cx⟩:=Bv (aX:=patch S s c) bp GS;have hpu:bE (patch S s c) (S.af i).dst u=bE (patch S s c) (S.af i).dst v:=by
   cases hd:(S.af i).dst with
   | none=>rfl
   | some t=>
     rw[hd] at e1;have:=congrFun e1 t;simp only[bE,iT] at this;rw[this]
  rw[hpu] at cx;have Z:=n.VO;have W:=cx;simp only[cA] at W;cases hw:ec (patch S s c) (S.af i).guard with
  | none=>rw[hw] at W;cases W
  | some b=>
    have rE:=Bn G Z hw;rw[hw] at W;cases b with
    | true=>
      refine D4 ho (λ_=>trivial) (λ_=> ?_) (λg=>by rw[rE] at g;cases g);refine JY hh G n.yo Z hw W fun β' w' v' q1 F U=> ?_;rw[<-G.dst] at U;exact hk β' w' v' q1 F U
    | false=>
      refine D4 ho (λ_=>trivial) (λg=>by rw[rE] at g;cases g) (λ_=> ?_);simp only[Option.some.injEq,Prod.mk.injEq] at W;obtain⟨z1,rfl⟩:=W;refine hk β2 w undef n.yo (bD.refl β2 w) ?_;rw[<-z1];exact Z.put bn .skip
 cases V:ck (S.af i).op with
 | true=>
   obtain⟨R1,R2,rfl⟩:=NQ nf;obtain⟨p1,p2,p3⟩:=yp C.sH;have rA:=C.yu;obtain⟨β2,c,L,s,n,M⟩:=Core.front R1 C λx hx=>by
    have D2:x∈R1++i::R2:=by simp[hx]
    rcases Kl x (S.d4 x i (C.lt x D2) D V (p1 x hx)) with g | g
    ·exact absurd D2 g
    exact g
   have G2 : ∀j,fY ops i j->Ex (i::R2) s j:=λj J=>(M j).2 (Kl j J);have D7:=n.zS V;have VX:=n.sH;rw[NP] at VX;have X : ∀q∈s,∀t,(S.af q.1).dst=some t->t∉(S.af i).eN:=λq hq t ht hu=>by
    have VY:=(n.oi q hq).1;have av:q.1≠i:=λe=>D7 ⟨q,hq,e⟩;have yr:q.1∈R2:=by simpa[av] using VY
    rcases S.d2 q.1 i t (n.lt _ VY) D av ht hu with g | ⟨g,_⟩
    ·have:=(S.wx _ _ D g).2;have:=VX.1 _ yr;omega
    rcases n.zM q hq i g with g | g
    ·exact g s0
    exact D7 g
   have A:=n.run;simp only[dq,cE] at A;cases hs:cA h (S.af i) c L with
   | none=>rw[hs] at A;cases A
   | some q=>
     obtain⟨f,H3⟩:=q;rw[hs] at A;obtain⟨v,rfl,_⟩:=Bv (aX:=c) (λt _=>rfl) hs;simp only[V,iT] at A;cases hz:cE h (R2.map S.af) (bE c (S.af i).dst v) H3 with
     | none=>rw[hz] at A;cases A
     | some z=>
       obtain⟨z1,z2,O⟩:=z;rw[hz] at A;simp only[fo,Option.some.injEq,Prod.mk.injEq] at A;obtain⟨rfl,rfl,hl⟩:=A;refine act n X hs fun β' w' v' q1 F U=>close (n.afe V (n.kM V G2) hl.symm hz q1 F U) λj=> ?_;have:=VW (R1:= []) (R2:=R2) (i:=i) (bi:=s) (λg=>rA (by simp only[a6] at g;simp[g])) j;simp only[a6] at this;rw[this,M j]
 | false=>
   obtain⟨β2,c,L,R2,s,n,M,Pb,X⟩:=C.feed bi.length (ag _) D V nf iz Kl;have afg : ¬Ex R2 s i:=λg=>dE ((M i).1 g);have D7 : ¬ ∃q∈s,q.1=i:=λg=>afg (.inr g);have G2 : ∀j,fY ops i j->Ex R2 s j:=λj J=>(M j).2 (Kl j J);have viaQuiet:(kL (S.af i).op=false\/ec c (S.af i).guard=some false)->wpOpIn (Fn ro) 0 P ops Q i K a w:=by
    intro hA;obtain⟨Ra,Rb,v,rfl,GS,A⟩:=n.quiet D Pb D7 V hA G2 X;refine act n X GS fun β' w' v' q1 F U=>close (n.afc D7 V A q1 F U) λj=> ?_;rw[VW n.yu j,M j]
   cases hA:kL (S.af i).op with
   | false=>exact viaQuiet (.inl hA)
   | true=>
     obtain⟨Ra,Rb,VZ⟩:=NQ Pb;have G3:=n;rw[VZ] at G3;obtain⟨p1,p2,p3⟩:=yp G3.sH;have rA:=G3.yu;have A:=G3.run;rw[qt,dq] at A;obtain⟨aj,H1,l1,O,g1,g2,_⟩:=Kh A;have zO : ∀t∈(S.af i).eN,aj t=c t:=λt ht=>by
      refine Bw (λy hy e=> ?_) g1;obtain⟨z,hz,rfl⟩:=List.mem_map.1 hy;have yv:z∈Ra++i::Rb:=by simp[hz]
      have ii:=G3.lt z yv;rcases S.d2 z i t ii D (λe=>rA (by rw[<-e];simp[hz])) e ht with q | ⟨_,q⟩
      ·rcases G2 z q with g | ⟨q1,F,U⟩
       ·exact g (by rw[VZ];exact yv)
       exact X q1 F t (by rw[U];exact e) ht
      rw[hA] at q;cases q
     simp only[cE] at g2;cases hs:cA h (S.af i) aj H1 with
     | none=>rw[hs] at g2;cases g2
     | some q=>
       simp only[cA] at hs;have tJ:ec aj (S.af i).guard=ec c (S.af i).guard:=yi zO;rw[tJ] at hs;cases hw:ec c (S.af i).guard with
       | none=>rw[hw] at hs;cases hs
       | some b=>
         cases b with
         | false=>exact viaQuiet (.inr hw)
         | true=>
           rw[hw] at hs;simp only at hs;have V0:=G.op;cases bR:(S.af i).op with
           | a x=>
             rw[bR] at hs V0;simp only[eb] at hs;cases hp:fV (aO aj) x with
             | none=>rw[hp] at hs;cases hs
             | some u=>
               obtain⟨cs,e,k,mk⟩:=u;have V1 : ∀t∈slotsOf x.bB,t∈(S.af i).eN:=λt ht=>by simp only[Item.eN,bR,fp];exact .inl ht
               have lO:fV (aO c) x=some (cs,e,k,mk):=by
                rw[<-hp];exact GM (yg λt ht=>(zO t (V1 t ht)).symm)
               have bp:=VP (S:=S) (bi:=s) (fr:=c) X;have hp3:fV (aO (patch S s c)) x=some (cs,e,k,mk):=by
                rw[<-lO];exact GM (yg λt ht=>(bp t (V1 t ht)).symm)
               have Z:=n.VO;have rE:=Bn G Z (b:=true) (by rw[<-yi bp];exact hw);cases V0 with
               | a OD=>
                 obtain⟨hk,sz,fA,By⟩:=OD β2 (aO (patch S s c)) a.eval o cs e k mk rfl (λy hy=>zF Z (G.bB y hy)) hp3;obtain⟨cs',hU,w',v',h1,h2,h3,h4,h5,h6,h7,h8,h9,jz⟩:=By w;refine D4 ho (λ_=>trivial) (λ_=> ?_) (λg=>by rw[rE] at g;cases g);refine⟨λf _=>trivial,?_⟩;rw[show(Fn ro).round=ro from rfl,Oper.semAt_eq ro _ _ G.nodefer,h1];show K (a.put o.dst v') w';have hb:w'.heap[w.heap.size]? = some (.cells cs' e hU):=by rw[h2];simp
                 refine close (n.afd D Pb D7 hA G2 X h2 h3 h4 h5 bn ⟨⟨x,cs,e,k,mk,cs',hU,sz,v',bR,hw,lO,hk,fA,hb,h6,h7,h8,h9,jz,λt ht=> ?_⟩,n.yo.base,n.kJ.size,λz hz=> ?_⟩) λj=> ?_;·rw[ht];have:t<a.tmps.size:=Nat.lt_of_lt_of_le (bn t ht) n.size;simp[Act.put,this]
                 ·have:=(tC n.yo hz).2;omega
                 unfold Ex;constructor
                 ·rintro(g | ⟨q,q1,F⟩);·exact .inr ((M j).1 (.inl g))
                  rcases List.mem_cons.1 q1 with rfl | q1
                  ·exact .inl F.symm
                  exact .inr ((M j).1 (.inr ⟨q,q1,F⟩))
                 rintro(e | g);·exact .inr ⟨_,ny ..,e.symm⟩
                 rcases(M j).2 g with g | ⟨q,q1,F⟩
                 ·exact .inl g
                 exact .inr ⟨q,kD _ q1,F⟩
           | _=>rw[bR] at hA;cases hA
theorem Core.all : ∀(R:List Nat) {β:Nat->aC} {fr:Fr} {H:CH} {bi:List (Nat×Nat)} {l:List CH} {m:Nat} {a:Act} {w:ar} (C:Core S B h β0 w0 fr' H' β fr H R bi l m a w),(∀x∈R,∃q∈bi,q.1=x)->
 ∃β2,aN P B β2 H' w/\bD β0 w0 β2 w/\FR β2 N fr' a
 | [],β,fr,H,bi,l,m,a,w,C,_=>by
   have c:=C.run;simp only[List.map_nil,cE,Option.some.injEq,Prod.mk.injEq] at c;obtain⟨rfl,rfl,_⟩:=c;refine⟨β,C.yo,C.kJ,C.size,λt=> ?_⟩;rcases C.fr t with ⟨p,hp,_⟩ | g
   ·have:=(C.oi p hp).1;cases this
   exact g
 | x::R,β,fr,H,bi,l,m,a,w,C,hx=>by
   obtain⟨⟨x',b⟩,j,rfl⟩:=hx x (ny ..);have f:Core S B h β0 w0 fr' H' β fr H ([]++x'::R) bi l m a w:=C;obtain⟨β2,v,y,A,n,o,_⟩:=f.catch j (λz hz=>by cases hz);have s:=f.yu;exact Core.all R n λz hz=>by
    obtain⟨q,u,i⟩:=hx z (kD _ hz);exact⟨q,(o q).2 ⟨u,λe=>s (by rw[<-e,i];simpa using hz)⟩,i⟩
def rG (k:Nat)(a7:Array Bool):Nat:=((my k).filter λj=> !a7.getD j false).length
theorem V2{a7:Array Bool}{i:Nat}(hi:i<ops.size)(hs:a7.size=ops.size)(hu:a7.getD i false=false):rG ops.size (a7.setIfInBounds i true)<rG ops.size a7:=by
 unfold rG;have:(my ops.size).filter (λj=> !(a7.setIfInBounds i true).getD j false)=((my ops.size).filter λj=> !a7.getD j false).filter (λj=>decide (j≠i)):=by
  rw[List.filter_filter];apply List.filter_congr;intro j c;by_cases e:j=i
  ·subst e;have:(a7.setIfInBounds j true).getD j false=true:=yk.2 (.inl ⟨rfl,Om⟩);simp[this]
  have:(a7.setIfInBounds i true).getD j false=a7.getD j false:=by
   cases hb:a7.getD j false with
   | true=>exact yk.2 (.inr hb)
   | false=>
     cases hc:(a7.setIfInBounds i true).getD j false with
     | false=>rfl
     | true=>
       rcases yk.1 hc with ⟨g,_⟩ | g
       ·exact absurd g e
       rw[hb] at g;cases g
  simp[this,e]
 rw[this];exact List.length_filter_lt_length_iff_exists.2 ⟨i,by simp[hi];exact by simpa using hu,s0⟩
theorem Inv.sound(hh:HS P B h){ro:Option Nat}{df:List uk}{Q:Exit->Act->ar->Prop}(v : ∀β' w' a',aN P B β' H' w'->bD β0 w0 β' w'->FR β' N fr' a'->a'.defers=df->Q .normal a' w') : ∀(fuel:Nat) (a7:Array Bool) (a:Act) (w:ar),
 rG ops.size a7<=fuel->Inv S B h β0 w0 fr' H' df a7 a w->wpAnyIn (Fn ro) 0 P .any ops Q fuel a7 a w:=by
 have t : ∀(a7:Array Bool) (a:Act) (w:ar),Inv S B h β0 w0 fr' H' df a7 a w->(∀j,j<ops.size->a7.getD j false=true)->Q .normal a w:=by
  intro a7 a w I f;obtain⟨β,fr,H,R,bi,l,m,C,hex⟩:=I.core;obtain⟨β2,h1,h2,h3⟩:=Core.all R C λx hx=>by
   rcases(hex x (C.lt x hx)).1 (f x (C.lt x hx)) with g | g
   ·exact absurd hx g
   exact g
  exact v β2 w a h1 h2 h3 I.defers
 have o : ∀(a7:Array Bool),a7.size=ops.size->xw .any ops a7= []->∀j,j<ops.size->a7.getD j false=true:=by
  intro a7 hs q j s;apply NR;intro hn;have : ∃p,∃j,j<ops.size/\¬a7.getD j false=true/\S.pos j=p:=⟨_,j,s,hn,rfl⟩;obtain⟨p,⟨x,n,u,G⟩,y⟩:=GC this;have hx:x∈xw .any ops a7:=by
   unfold xw;refine List.mem_filter.2 ⟨List.mem_range.2 n,?_⟩;have c:x<a7.size:=by omega
   have z:a7.getD x true=false:=by
    simp only[mV,sm c,qp] at u⊢
    simpa using u
   rw[z];simp only[FN,zq];rw[sm n];simp only[fo,qp];rw[ao9];intro e he;cases hb:Dg .any e with
   | false=>rfl
   | true=>
     simp only[Bool.not_true,Bool.false_or];obtain⟨A,J⟩:=S.wx x e.on n (.GN (sm n) (by simpa using he) hb);apply NR;intro g;have:=y _ ⟨e.on,A,g,rfl⟩;omega
  rw[q] at hx;cases hx
 intro fuel;induction fuel with
 | zero=>
   intro a7 a w hc I;have hz:rG ops.size a7=0:=by omega
   have f : ∀j,j<ops.size->a7.getD j false=true:=λj s=>by
    unfold rG at hz;have:=List.length_eq_zero_iff.1 hz;rw[List.filter_eq_nil_iff] at this;simpa using this j (List.mem_range.2 s)
   refine⟨?_,t a7 a w I f⟩;apply List.eq_nil_iff_forall_not_mem.2;intro x hx;obtain⟨h1,h2,_⟩:=GO hx;have:=f x h1;have c:x<a7.size:=by rw[I.size];exact h1
   simp only[mV,sm c,qp] at h2 this;rw[this] at h2;cases h2
 | succ fuel D=>
   intro a7 a w hc I;refine⟨λq=>t a7 a w I (o a7 I.size q),λi hi=>I.step hh hi λa' w' F=>D _ a' w' ?_ F⟩;obtain⟨h1,h2,_⟩:=GO hi;have c:i<a7.size:=by rw[I.size];exact h1
   have:a7.getD i false=false:=by
    simp only[mV,sm c,qp] at h2⊢;exact h2
   have:=V2 h1 I.size this;omega
end
theorem V4{h:Hd} : ∀ {R S:List Item} {fr aX:Fr} {H e:CH},c9 h (R++S) fr H=some (aX,e)->∃aj H1,c9 h R fr H=some (aj,H1)/\c9 h S aj H1=some (aX,e)
 | [],S,fr,aX,H,e,c=>⟨fr,H,rfl,c⟩
 | x::R,S,fr,aX,H,e,c=>by
   simp only[aS,c9] at c;cases hs:cA h x fr H with
   | none=>rw[hs] at c;cases c
   | some q=>
     rw[hs] at c;obtain⟨aj,H1,h1,h2⟩:=V4 c;exact⟨aj,H1,by simp only[c9,hs];exact h1,h2⟩
theorem V5{h:Hd} : ∀ {R S:List Item} {fr aj aX:Fr} {H H1 c:CH},c9 h R fr H=some (aj,H1)->c9 h S aj H1=some (aX,c)->c9 h (R++S) fr H=some (aX,c)
 | [],S,fr,aj,aX,H,H1,c,h1,h2=>by simp only[c9,Option.some.injEq,Prod.mk.injEq] at h1;obtain⟨rfl,rfl⟩:=h1;exact h2
 | x::R,S,fr,aj,aX,H,H1,c,h1,h2=>by
   simp only[aS,c9] at h1⊢
   cases hs:cA h x fr H with
   | none=>rw[hs] at h1;cases h1
   | some q=>rw[hs] at h1;exact V5 h1 h2
theorem D8{h:Hd}{t:Nat} : ∀ {R:List Item} {fr aj:Fr} {H H1:CH},(∀x∈R,x.dst≠some t)->c9 h R fr H=some (aj,H1)->aj t=fr t
 | [],fr,aj,H,H1,_,c=>by simp only[c9,Option.some.injEq,Prod.mk.injEq] at c;obtain⟨rfl,rfl⟩:=c;rfl
 | x::R,fr,aj,H,H1,hx,c=>by
   simp only[c9] at c;cases hs:cA h x fr H with
   | none=>rw[hs] at c;cases c
   | some q=>
     obtain⟨f,K⟩:=q;rw[hs] at c;obtain⟨u,rfl,_⟩:=Bv (aX:=fr) (λt _=>rfl) hs;rw[D8 (λy e=>hx y (kD _ e)) c,yj (hx x (ny ..))]
theorem yz{it:Item}:(mb it).dst=it.dst:=by unfold mb;split<;>rfl
theorem afi{it:Item}:(mb it).guard=it.guard:=by unfold mb;split<;>rfl
theorem afj{it:Item}{t:Nat}(h:t∈(mb it).eN):t∈it.eN:=by
 unfold mb at h;split at h
 ·simp only[Item.eN,fp] at h⊢
  rcases h with h | h
  ·simp[fG.bB,dN.bB,slotsOf] at h
  exact .inr h
 exact h
theorem Pd{it:Item}(h:o9 it.op=true):mb it=it:=by
 unfold mb;split;·rename_i e;rw[e] at h;cases h
 rfl
theorem afk{N:Nat}{ops:Array cu}{ro:Option Nat}{o:cu}{it:Item}(c:uz P N ops o it){β:Nat->aC}{fr:Fr}{H:CH}{a:Act}{w:ar}(i:aN P B β H w)(g:FR β N fr a){e:aH}{z:List ae}(j:it.op= .a (.new e z)){K:Act->ar->Prop}{Q:Exit->Act->ar->Prop}
 (n : ∀w' v',aN P B β H w'->bD β w β w'->FR β N (bE fr it.dst undef) (a.put o.dst v')->K (a.put o.dst v') w'):o.wpIn (Fn ro) 0 P a w K Q:=by
 refine⟨λf _=>trivial,?_⟩;rw[show(Fn ro).round=ro from rfl,Oper.semAt_eq ro _ _ c.nodefer];have hv : ∀x∈o.op.operands,VR β (aO fr x) (a.eval x):=λx hx=>zF g (c.bB x hx);have hd : ∀x,it.dst=some x->x<N:=λx hx=>c.lt x (by rw[<-c.dst];exact hx);have h:=c.op;rw[j] at h;cases h with
 | a ha=>
   obtain⟨hk,sz,u,q⟩:=ha β _ _ o z e .ex .ptr rfl hv rfl;obtain⟨cs',hU,w',v',h1,h2,h3,h4,h5,_⟩:=q w;have s:=i.push h2;have t:bD β w β w':=⟨h3,h4,h5,by rw[h2];simp,λb hb ho=>⟨by rw[h2,C1,iN Om],ho⟩,eU.refl β⟩;rw[h1];exact n w' v' s t (by rw[<-c.dst];exact g.put hd (.undef _))
theorem V6{h:Hd}{x:Item}(e:o9 x.op=true){fr aj:Fr}{H H1:CH}(hs:cA h x fr H=some (aj,H1)):H1=H:=by
 simp only[cA] at hs;split at hs
 ·cases c:x.op with
  | p y=>rw[c] at hs;simp only[eb] at hs;cases hp:pop (aO fr) y<;>rw[hp] at hs<;>simp at hs;exact hs.2.symm
  | l y=>rw[c] at hs;simp only[eb] at hs;cases hp:bg H (aO fr) y<;>rw[hp] at hs<;>simp at hs;exact hs.2.symm
  | _=>rw[c] at e;cases e
 ·cases hs;rfl
 cases hs
theorem Km{h:Hd} : ∀ {R:List Item} {fr aj:Fr} {H H1:CH},(∀x∈R,o9 x.op=true)->c9 h R fr H=some (aj,H1)->H1=H
 | [],fr,aj,H,H1,_,c=>by simp only[c9,Option.some.injEq,Prod.mk.injEq] at c;exact c.2.symm
 | x::R,fr,aj,H,H1,hx,c=>by
   simp only[c9] at c;cases hs:cA h x fr H with
   | none=>rw[hs] at c;cases c
   | some q=>
     obtain⟨f,K⟩:=q;rw[hs] at c;rw[Km (λy e=>hx y (kD _ e)) c,V6 (hx x (ny ..)) hs]
section
variable {N:Nat} {ops:Array cu} {d:jf} {S:DS P N ops d} {h:Hd} {β0:Nat->aC} {w0:ar} {H:CH} {TA:List Nat}
open Classical in
noncomputable def ng(S:DS P N ops d)(TA:List Nat)(a7:Array Bool)(fr f1:Fr):Fr:=λt=>if ∃j∈TA,a7.getD j false=true/\(S.af j).dst=some t then f1 t else fr t
structure Pe(S:DS P N ops d)(B:Nat)(β0:Nat->aC)(w0:ar)(H:CH)(TA:List Nat)(fr f1:Fr)(df:List uk)(a7:Array Bool)(a:Act)(w:ar):Prop where
 core : ∃β,aN P B β H w/\bD β0 w0 β w/\FR β N (ng S TA a7 fr f1) a
 dc:DC ops a7
 size:a7.size=ops.size
 defers:a.defers=df
theorem afl(a7:Array Bool)(hs:a7.size=ops.size)(S:DS P N ops d)(i:xw .any ops a7= []) : ∀j,j<ops.size->a7.getD j false=true:=by
 intro j n;apply NR;intro hn;have : ∃p,∃j,j<ops.size/\¬a7.getD j false=true/\S.pos j=p:=⟨_,j,n,hn,rfl⟩;obtain⟨p,⟨x,c,f,u⟩,o⟩:=GC this;have hx:x∈xw .any ops a7:=by
  unfold xw;refine List.mem_filter.2 ⟨List.mem_range.2 c,?_⟩;have q:x<a7.size:=by omega
  have s:a7.getD x true=false:=by
   simp only[mV,sm q,qp] at f⊢
   simpa using f
  rw[s];simp only[FN,zq];rw[sm c];simp only[fo,qp];rw[ao9];intro e he;cases hb:Dg .any e with
  | false=>rfl
  | true=>
    simp only[Bool.not_true,Bool.false_or];obtain⟨t,v⟩:=S.wx x e.on c (.GN (sm c) (by simpa using he) hb);apply NR;intro g;have:=o _ ⟨e.on,t,g,rfl⟩;omega
 rw[i] at hx;cases hx
theorem Pe.sound(hh:HS P B h){ro:Option Nat}{df:List uk}{Q:Exit->Act->ar->Prop}{fr f1:Fr}{k:Nat}{f:bk}{args:List au}{v:ae}{H':CH}(br:k<ops.size)(W : ∀j∈TA,j<ops.size)(yy:TA.Pairwise (λa b=>S.pos a<S.pos b))(hA : ∀x∈TA,o9 (mb (S.af x)).op=true)(hk:(S.af k).op= .call f args)(kb : ∀b,b<ops.size->b∈TA\/b=k\/fY ops b k)
 (yw : ∀j∈TA,∀t,(S.af j).dst=some t->t∈(S.af k).eN->fY ops k j) (aY:c9 h (TA.map λi=>mb (S.af i)) fr H=some (f1,H)) (hw:ec f1 (S.af k).guard=some true) (hp:zI P B f (args.map (aO f1)) H v H')
 (hQ : ∀β' w' a' v',aN P B β' H' w'->bD β0 w0 β' w'->VR β' v v'->a'.defers=df->(∀t,(∀j∈TA,(S.af j).dst≠some t)->VR β' (fr t) (a'.tmps.getD t undef))->Q (.panic [{ v:=v',recovered:=false }]) a' w') : ∀(fuel:Nat) (a7:Array Bool) (a:Act) (w:ar),
 rG ops.size a7<=fuel->a7.getD k false=false->Pe S B β0 w0 H TA fr f1 df a7 a w->wpAnyIn (Fn ro) 0 P .any ops Q fuel a7 a w:=by
 have hkW:ck (S.af k).op=true:=by rw[hk];rfl
 have DI : ∀a7:Array Bool,a7.size=ops.size->a7.getD k false=false->xw .any ops a7= []->False:=λa7 hs hl hr=>by
  have:=afl a7 hs S hr k br;rw[hl] at this;cases this
 intro fuel;induction fuel with
 | zero=>
   intro a7 a w hc hl I;have hz:rG ops.size a7=0:=by omega
   unfold rG at hz;have:=List.length_eq_zero_iff.1 hz;rw[List.filter_eq_nil_iff] at this;have:=this k (List.mem_range.2 br);rw[hl] at this;exact absurd rfl this
 | succ fuel ih=>
   intro a7 a w hc hl I;refine⟨λhr=>(DI a7 I.size hl hr).elim,λi hi=> ?_⟩;obtain⟨A,nB,D5⟩:=GO hi;obtain⟨β,X,hE,C⟩:=I.core;have pL:i<a7.size:=by rw[I.size];exact A
   have Pf:a7.getD i false=false:=by
    simp only[mV,sm pL,qp] at nB⊢;exact nB
   have G1 : ∀j,fY ops i j->a7.getD j false=true:=λj hj=>O2 I.dc hj D5;obtain⟨o,ho⟩ : ∃o,ops[i]? = some o:=⟨ops[i],by simp[A]⟩;have n:=S.ok i o ho;have apm:=V2 A I.size Pf;rcases kb i A with yA | yA | yA
   ·
    obtain⟨A1,A2,Y⟩:=NQ yA;have av:i≠k:=λe=>by have:=hA i yA;rw[e] at this;unfold mb at this;rw[hk] at this;simp only[hk] at this;cases this
    have V7:=aY;rw[Y,qt,dq] at V7;obtain⟨g,Hg,r1,r2⟩:=V4 V7;have G4 : ∀x∈A1,x∈TA:=λx hx=>by rw[Y];simp[hx]
    have V8 : ∀x∈A2,x∈TA:=λx hx=>by rw[Y];simp[hx]
    have hHg:Hg=H:=Km (λx hx=>by obtain⟨z,hz,rfl⟩:=List.mem_map.1 hx;exact hA z (G4 z hz)) r1;subst hHg;have V9:=yy;rw[Y] at V9;obtain⟨u1,u2,u3⟩:=yp V9;simp only[c9] at r2;cases hs:cA h (mb (S.af i)) g Hg with
    | none=>rw[hs] at r2;cases r2
    | some q=>
      obtain⟨gf,K⟩:=q;rw[hs] at r2;simp only at r2;have hK:=V6 (hA i yA) hs;subst hK;obtain⟨u,rfl,_⟩:=Bv (aX:=g) (λt _=>rfl) hs;have bp : ∀t∈(mb (S.af i)).eN,g t=ng S TA a7 fr f1 t:=λt J=>by
       have J:=afj J;unfold ng;split
       ·rename_i hex;obtain⟨j,D,F,s⟩:=hex;have V':j≠i:=λe=>by rw[e,Pf] at F;cases F
        have uu:=W j D;rcases S.d2 j i t uu A V' s J with q | ⟨q,_⟩
        ·have G5:=(S.wx _ _ A q).2;have M:f1 t=bE g (mb (S.af i)).dst u t:=D8 (λy G e=>by
          obtain⟨z,hz,rfl⟩:=List.mem_map.1 G;rw[yz] at e;have Z:=W z (V8 z hz);have:=S.dd j z t uu Z s e;subst this;have:=u2 j hz;omega) r2
         rw[M,yz,yj λe=>V' (S.dd j i t uu A s e)]
        have:=I.dc j i F q;rw[Pf] at this;cases this
       rename_i hn;refine D8 (λy G e=> ?_) r1;obtain⟨z,hz,rfl⟩:=List.mem_map.1 G;rw[yz] at e;have Z:=W z (G4 z hz);have hzi:z≠i:=λe'=>by have:=u1 z hz;rw[e'] at this;omega
       rcases S.d2 z i t Z A hzi e J with q | ⟨q,_⟩
       ·exact hn ⟨z,G4 z hz,G1 z q,e⟩
       have:=(S.wx _ _ Z q).2;have:=u1 z hz;omega
      obtain⟨v1,M,cx⟩:=Bv (aX:=ng S TA a7 fr f1) bp hs;have nI : ∀t,(S.af i).dst=some t->f1 t=v1:=λt hd=>by
       rw[D8 (t:=t) (λy G e=>by
        obtain⟨z,hz,rfl⟩:=List.mem_map.1 G;rw[yz] at e;have:=S.dd i z t A (W z (V8 z hz)) hd e;subst this;have:=u2 i hz;omega) r2,M,yz,hd]
       simp[bE]
      have nZ:ng S TA (a7.setIfInBounds i true) fr f1=bE (ng S TA a7 fr f1) (S.af i).dst v1:=by
       funext t
       by_cases hd:(S.af i).dst=some t
       ·rw[hd];simp only[bE,iT];unfold ng;rw[iP ⟨i,yA,yk.2 (.inl ⟨rfl,pL⟩),hd⟩];exact nI t hd
       rw[yj hd];unfold ng;have:(∃j∈TA,(a7.setIfInBounds i true).getD j false=true/\(S.af j).dst=some t)↔∃j∈TA,a7.getD j false=true/\(S.af j).dst=some t:=by
        constructor
        ·rintro⟨j,D,F,s⟩;rcases yk.1 F with ⟨e,_⟩ | e
         ·subst e;exact absurd s hd
         exact⟨j,D,e,s⟩
        rintro⟨j,D,F,s⟩;exact⟨j,D,yk.2 (.inr F),s⟩
       simp only[this]
      have rH:(a7.setIfInBounds i true).getD k false=false:=by
       cases hb:(a7.setIfInBounds i true).getD k false with
       | false=>rfl
       | true=>
         rcases yk.1 hb with ⟨e,_⟩ | e
         ·exact absurd e.symm av
         rw[hl] at e;cases e
      have zD : ∀v',(a.put o.dst v').defers=df:=λv'=>by rw[<-I.defers];cases o.dst<;>rfl
      have next : ∀β' w' v',aN P B β' K w'->bD β w β' w'->FR β' N (bE (ng S TA a7 fr f1) (S.af i).dst v1) (a.put o.dst v')->wpAnyIn (Fn ro) 0 P .any ops Q fuel (a7.setIfInBounds i true) (a.put o.dst v') w':=fun β' w' v' O U V=>
       ih _ _ _ Om rH ⟨⟨β',O,hE.trans U,by rw[nZ];exact V⟩,VG I.dc hi,by simp[I.size],zD v'⟩
      have c:=cx;simp only[cA] at c;rw[afi] at c;cases D3:ec (ng S TA a7 fr f1) (S.af i).guard with
      | none=>rw[D3] at c;cases c
      | some b=>
        have rE:=Bn n C D3;rw[D3] at c;cases b with
        | true=>
          refine D4 ho (λ_=>trivial) (λ_=> ?_) (λg=>by rw[rE] at g;cases g);cases hq:o9 (S.af i).op with
          | true=>
            rw[Pd hq] at c;exact JY hh n X C D3 c fun β' w' v' O U V=>next β' w' v' O U V
          | false=>
            obtain⟨e,z,L⟩ : ∃e z,(S.af i).op= .a (.new e z):=by
             have h2:=hA i yA;unfold mb at h2;split at h2;·rename_i e z h3;exact⟨e,z,h3⟩
             rw[hq] at h2;cases h2
            have Wa:(mb (S.af i)).op= .p (.tD (.const undef)):=by unfold mb;rw[L]
            have heq:bE (ng S TA a7 fr f1) (S.af i).dst undef=bE (ng S TA a7 fr f1) (S.af i).dst v1:=by
             rw[Wa,yz] at c;simp only[eb,pop,fo,Option.some.injEq,Prod.mk.injEq] at c;exact c.1
            rw[<-heq] at next
            exact afk n X C L λw' v' O U V=>next β w' v' O U V
        | false=>
          refine D4 ho (λ_=>trivial) (λg=>by rw[rE] at g;cases g) (λ_=> ?_);simp only[Option.some.injEq,Prod.mk.injEq] at c;refine next β w undef X (bD.refl β w) ?_
          rw[yz] at c;rw[<-c.1,<-n.dst];exact C.put (λx hx=>n.lt x (by rw[<-n.dst];exact hx)) .skip
   ·
    subst yA;have Ko : ∀t∈(S.af i).eN,f1 t=ng S TA a7 fr f1 t:=λt J=>by
     unfold ng;split;·rfl
     rename_i hn;refine D8 (λy G e=> ?_) aY;obtain⟨z,hz,rfl⟩:=List.mem_map.1 G;rw[yz] at e;exact hn ⟨z,hz,G1 z (yw z hz t e J),e⟩
    rw[yi Ko] at hw;have lO:args.map (aO f1)=args.map (aO (ng S TA a7 fr f1)):=vX λx hx=>yg (l:=args) (λt ht=>Ko t (by simp only[Item.eN,hk,fG.bB,fp];exact .inl ht)) x hx;rw[lO] at hp;have cx : ∀t,(∀j∈TA,(S.af j).dst≠some t)->ng S TA a7 fr f1 t=fr t:=λt ht=>by
     unfold ng;rw[iN];rintro⟨j,D,_,s⟩;exact ht j D s
    generalize ng S TA a7 fr f1=Wb at C hw hp cx;refine D4 ho (λ_=>trivial) (λ_=> ?_) (λg=>by rw[Bn n C hw] at g;cases g);refine⟨λf _=>trivial,?_⟩;rw[show(Fn ro).round=ro from rfl,Oper.semAt_eq ro _ _ n.nodefer];have L:=n.op;rw[hk] at L;generalize zG:o.op=io at L;cases L with
    | @call f args ts he=>
      rw[he] at zG;have hv : ∀x∈o.op.operands,VR β (aO Wb x) (a.eval x):=λx hx=>zF C (n.bB x hx);have fB:aW β (args.toList.map (aO Wb)) (args.toList.map a.eval):=by
       refine⟨s0,λj u hu=> ?_⟩;rw[List.getElem?_map] at hu⊢
       cases hx:args.toList[j]? with
       | none=>rw[hx] at hu;cases hu
       | some x=>
         rw[hx] at hu;cases hu;exact⟨_,rfl,hv x (by rw[zG];simp[Op.operands,Call.operands];exact .inr (by have:=List.mem_of_getElem? hx;simpa using this))⟩
      have By:(execOp a.eval o).run P w= .ok (.enter f (args.map a.eval)) w:=by
       simp only[execOp,zG,resolve,Act.eval,Deferred.ofValue,cg,cO,bY,invoke];rw[Bm hp.1];simp
      rw[By];refine⟨λh=>absurd h (by simp[Fn,gZ]),Gu ?_⟩;have:=hp.2 β w _ X fB;have M:(args.toList.map a.eval).toArray=args.map a.eval:=by apply qY;simp
      rw[M] at this;refine this.mono ?_;rintro e w' ⟨v',β',rfl,g1,g2,g3⟩;exact hQ β' w' _ v' g2 (hE.trans g3) g1 I.defers λt ht=>by
       rw[<-cx t ht];exact(C.2 t).mono g3.ext
   have:=G1 k yA;rw[hl] at this;cases this
end
theorem afm{N:Nat}{ops:Array cu}{d:jf}(S:DS P N ops d)(A:P.follows .mixedOrders=true):zH P N ops d:=by
 intro B h ro β fr fr' H H' a w id Q hh C u c D;refine wpIn_region_any A ?_;unfold sE at c;cases e:cE h d.af fr H with
 | none=>rw[e] at c;cases c
 | some q=>
   obtain⟨f,K,l⟩:=q;rw[e] at c;simp only at c;split at c;rotate_left
   ·cases c
   rename_i n;simp only[Option.some.injEq,Prod.mk.injEq] at c;obtain⟨rfl,rfl⟩:=c;obtain⟨F,I⟩:=C.drew;refine Inv.sound (S:=S) (β0:=β) (w0:=w) (fr':=f) (H':=K) hh (df:=a.defers) D ops.size _ a _ ?_ ⟨⟨β,fr,H,S.pO,[],l,0,?_,λj v=> ?_⟩,λi j z _=> ?_,s0,rfl⟩;·unfold rG;exact Nat.le_trans (List.length_filter_le _ _) s0
   ·refine⟨λi hi=>(S.mem i).1 hi,S.sH,λp hp=>(by cases hp),λp hp=>(by cases hp),List.Pairwise.nil,λp hp=>(by cases hp),λp hp=>(by cases hp),by rw[<-S.rC];exact e,F,I,u.1,λt=> .inr (u.2 t),λx hx J=> ?_,λq o=>absurd o (su _),λy L V M=>absurd ((S.mem y).2 L) M,λr c s hs _ _ _=> ?_⟩;·exact⟨λg=>absurd ((S.mem x).2 hx) g,λg=>absurd g (su _)⟩
    obtain⟨G,O,U⟩:=n _ hs;exact⟨G,by simpa using O,U⟩
   ·unfold Ex;have:(NO ops.size false).getD j false=false:=by simp[mV,v]
    rw[this];constructor;·intro g;cases g
    rintro(g | ⟨q,o,_⟩);·exact absurd ((S.mem j).2 v) g
    cases o
   rename_i W;by_cases hi:i<ops.size
   ·simp[mV,hi] at z
   simp[mV,hi] at z
theorem afo{N:Nat}{ops:Array cu}{d:jf}(S:DS P N ops d)(U:P.follows .mixedOrders=true)(V:S.ce):zJ P N ops d:=by
 intro Zl hd B h ro β fr aj H H1 H' v A k R f args a w id Q hh W X rC hA hk J ⟨⟨c,H2⟩,hz⟩ hw hp Y;have u:=Km hA J;subst u;rw[S.rC] at rC;obtain⟨TA,T2,ht,Z,h2⟩:=List.map_eq_append_iff.1 rC;obtain⟨k',TR,qA,fC,_⟩:=List.map_eq_cons_iff.1 h2;subst qA fC Z;have n : ∀x∈TA,o9 (S.af x).op=true:=λx hx=>hA _ (List.mem_map.2 ⟨x,hx,rfl⟩);obtain⟨C,rfl,D,o,F⟩:=V Zl hd TA k' TR ht n (by rw[hk];rfl);have G:=Km (λx hx=>by obtain⟨z,hz,rfl⟩:=List.mem_map.1 hx;exact(o z hz).1) hz;subst G;have br:k'<ops.size:=(S.mem k').1 (by rw[ht];simp);have L:=S.sH;rw[ht] at L;obtain⟨p1,p2,q⟩:=yp L;have M : ∀t∈(S.af k').eN,aj t=c t:=λt jM=>(D8 (λy I e=>by
  obtain⟨z,hz,rfl⟩:=List.mem_map.1 I;rw[yz] at e;exact(o z hz).2 t e jM) hz).symm
 have lO:args.map (aO aj)=args.map (aO c):=vX λx hx=>yg (l:=args) (λt ht=>M t (by simp only[Item.eN,hk,fG.bB,fp];exact .inl ht)) x hx;rw[lO] at hp;rw[yi M] at hw;have s : ∀j∈TA++C,j<ops.size:=λj hj=>(S.mem j).1 (by
  rw[ht];rcases List.mem_append.1 hj with hj | hj
  ·simp[hj]
  simp[D.subset hj])
 refine wpIn_region_any U ?_;obtain⟨jZ,m7⟩:=W.drew;refine Pe.sound (S:=S) (β0:=β) (w0:=w) (TA:=TA++C) (fr:=fr) (f1:=c) hh (df:=a.defers) br s ?_ (λx hx=> ?_) hk (λb hb=> ?_) (λj hj t h1 h2=> ?_) ?_ hw hp (fun β' w' a' v' q1 q2 q3 q4 q5=>Y β' w' a' v' q1 q2 q3 q4 λt ht=>q5 t λj hj=>ht _ (by rw[S.rC];exact List.mem_map.2 ⟨j,(S.mem j).2 (s j hj),rfl⟩)) ops.size _ a _ ?_ ?_ ⟨⟨β,jZ,m7,?_⟩,λi j O _=> ?_,s0,rfl⟩;·rw[List.pairwise_append] at q⊢;exact⟨q.1,q.2.1.sublist D,λx hx y I=>q.2.2 x hx y (D.subset I)⟩
 ·rcases List.mem_append.1 hx with hx | hx
  ·rw[Pd (n x hx)];exact n x hx
  exact(o x hx).1
 ·have:=(S.mem b).2 hb;rw[ht] at this;rcases List.mem_append.1 this with g | g
  ·exact .inl (vY _ g)
  rcases List.mem_cons.1 g with g | g
  ·exact .inr (.inl g)
  rcases F b g with g | g
  ·exact .inl (List.mem_append_right _ g)
  exact .inr (.inr g)
 ·rcases List.mem_append.1 hj with hj | hj
  ·exact S.d4 j k' (s j (vY _ hj)) br (by rw[hk];rfl) (p1 j hj)
  exact absurd h2 ((o j hj).2 t h1)
 ·rw[qt];refine V5 (R:=TA.map λi=>mb (S.af i)) ?_ hz;rw[vX (g:=S.af) λx hx=>Pd (n x hx)];exact J
 ·unfold rG;exact Nat.le_trans (List.length_filter_le _ _) s0
 ·simp[mV,br]
 ·have:ng S (TA++C) (NO ops.size false) fr c=fr:=by
   funext t
   unfold ng;rw[iN];rintro⟨j,j1,j2,j3⟩;have hj:=s j j1;simp[mV,hj] at j2
  rw[this];exact X
 by_cases hi:i<ops.size
 ·simp[mV,hi] at O
 simp[mV,hi] at O
theorem afq{N:Nat}{ops:Array cu}{d:jf}(S:DS P N ops d)(c:P.follows .mixedOrders=true)(e:S.ce):zH P N ops d/\zJ P N ops d:=⟨afm S c,afo S c e⟩
end
section
open Go Go.RowKit
variable {P:aZ}
def afr(acc:List Nat)(o:cu):Nat:=o.after.toList.foldl (λs e=>if Dg .any e then s ||| (2 ^ e.on ||| acc.getD e.on 0) else s) 0
def Pg:List cu->List Nat->List Nat
 | [],acc=>acc
 | o::r,acc=>Pg r (acc++ [afr acc o])
theorem We{ops:Array cu}{acc:List Nat}{i:Nat}{o:cu}(ho:ops[i]? = some o)(f : ∀a j,(acc.getD a 0).testBit j=true->fY ops a j) : ∀(es:List Edge) (s:Nat),(∀e∈es,e∈o.after.toList)->(∀j,s.testBit j=true->fY ops i j)->
 ∀j,(es.foldl (λs e=>if Dg .any e then s ||| (2 ^ e.on ||| acc.getD e.on 0) else s) s).testBit j=true->fY ops i j
 | [],s,_,hs=>hs
 | e::es,s,he,hs=>by
   simp only[List.foldl_cons];refine We ho f es _ (λx hx=>he x (kD _ hx)) λj c=> ?_;split at c
   ·rename_i hb;rw[Nat.testBit_or,Nat.testBit_or] at c;simp only[zp] at c;have n:fY ops i e.on:= .GN ho (he e (ny ..)) hb;rcases c with g | g | g
    ·exact hs j g
    ·rw[Nat.testBit_two_pow] at g;have:e.on=j:=by simpa using g
     rw[<-this];exact n
    exact .trans n (f _ _ g)
   exact hs j c
theorem Wf{ops:Array cu} : ∀(l:List cu) (acc:List Nat),(∀k (h:k<l.length),ops[acc.length+k]? = some l[k])->(∀a j,(acc.getD a 0).testBit j=true->fY ops a j)->∀a j,((Pg l acc).getD a 0).testBit j=true->fY ops a j
 | [],acc,_,f=>f
 | o::l,acc,hl,f=>by
   have g:=hl 0 s0;simp only[Nat.add_zero,List.getElem_cons_zero] at g;refine Wf l _ (λk hk=> ?_) λa j c=> ?_;·have:=hl (k+1) (by simpa using hk);simp only[List.length_append,List.length_singleton,List.getElem_cons_succ] at this⊢;rw[show acc.length+1+k=acc.length+(k+1) by omega];exact this
   rw[uj] at c;by_cases e:a<acc.length
   ·rw[ui e,<-uj] at c;exact f a j c
   rw[tu Om] at c;by_cases i:a=acc.length
   ·subst i;simp only[Nat.sub_self,Jt,qp] at c;exact We g f _ 0 (λ_ h=>h) (λj h=>by simp at h) j c
   obtain⟨q,n⟩ : ∃q,a-acc.length=q+1:=⟨a-acc.length-1,Om⟩;rw[n] at c;simp at c
def Wg:Item:=⟨none, .p (.tD (.const undef)),none⟩
def afs(k:Nat)(af:Nat->Item)(ms:List Nat):List Nat:=
 let c:=(my k).filter λi=>ck (af i).op
 let l:=c.foldl (λacc w=>acc++((my k).filter λi=>(ms.getD w 0).testBit i && !acc.contains i)++(if acc.contains w then [] else [w])) []
 l++(my k).filter λi=> !l.contains i
structure DD where
 k:Nat
 af:Nat->Item
 ms:List Nat
 pO:List Nat
 pos:Nat->Nat
 rk:Nat->Nat
 lo:Nat->Nat
def DD.sI(D:DD)(i j:Nat):Bool:=(D.ms.getD i 0).testBit j
def DD.w (D:DD)(i:Nat):Bool:=ck (D.af i).op
def DD.a (D:DD)(i:Nat):Bool:=kL (D.af i).op
def uG (k:Nat)(p:Nat->Bool):Bool:=(my k).all p
theorem wD{k:Nat}{p:Nat->Bool}(h:uG k p=true) : ∀i,i<k->p i=true:=λi hi=>List.all_eq_true.1 h i (List.mem_range.2 hi)
def G6 (k:Nat)(p:Nat->Bool):Bool:=(my k).any p
theorem Ks{k:Nat}{p:Nat->Bool}(h:G6 k p=true) : ∃i,i<k/\p i=true:=by
 obtain⟨i,h1,h2⟩:=List.any_eq_true.1 h;exact⟨i,List.mem_range.1 h1,h2⟩
def mf (a b:Bool):Bool:= !a||b
theorem mL{a b:Bool}(h:mf a b=true)(ha:a=true):b=true:=by subst ha;simpa[mf] using h
def yB(x y:Item):Bool:=match x.dst with
 | some t=>y.eN.contains t
 | none=>false
theorem G7{x y:Item}{t:Nat}(h:x.dst=some t)(hu:t∈y.eN):yB x y=true:=by simp[yB,h,hu]
def Wh(x y:Item):Bool:=match x.dst,y.dst with
 | some s,some t=>s==t
 | _,_=>false
def Wi(x y:Item):Bool:=match x.dst,y.guard with
 | some t,some (s,_)=>s==t
 | _,_=>false
def Ph:fG->Bool
 | .l _=>true
 | _=>false
def DD.free(D:DD)(r:Nat):Bool:=uG D.k λx=>mf (decide (D.pos x<D.pos r)) (mf (D.w x) (D.sI r x)&&mf (D.a x) (G6 D.k (λy=>D.w y&&decide (D.pos x<D.pos y)&&D.sI r y)||yB (D.af x) (D.af r)))
def DD.hi(D:DD)(r:Nat):Nat:=((my D.k).filter λx=>D.w x&&decide (D.pos x<=D.pos r)).length
def DD.nb(D:DD):List (Item×Nat):=(my D.k).flatMap λr=>if Ph (D.af r).op && !D.free r then ((my (D.hi r+1)).filter λs=>decide (D.lo r<=s)).map λs=>(D.af r,s) else []
def DD.ok(D:DD)(ops:Array cu):Bool:=
 decide (D.pO.Pairwise λa b=>D.pos a<D.pos b)&&uG D.k (λi=>D.pO.contains i)&&D.pO.all (λi=>decide (i<D.k)) &&
 uG D.k (λi=>match ops[i]? with
  | some o=>o.after.toList.all λe=>mf (Dg .any e) (decide (e.on<D.k)&&decide (D.pos e.on<D.pos i))
  | none=>true) &&
 uG D.k (λi=>uG D.k λj=>
  mf (Wh (D.af i) (D.af j)) (decide (i=j)) &&
  mf (!decide (i=j)&&yB (D.af i) (D.af j)) (D.sI j i||(D.sI i j && !D.a j)) &&
  mf (D.a i) (!Wi (D.af i) (D.af j)) &&
  mf (D.w j&&decide (D.pos i<D.pos j)) (D.sI j i) &&
  mf (!D.w i&&D.a j&&yB (D.af j) (D.af i)) (uG D.k λx=>mf (decide (D.pos x<D.pos j)) (mf (D.w x) (D.sI i x)&&mf (D.a x) ((G6 D.k λy=>D.w y&&decide (D.pos x<D.pos y)&&decide (D.pos y<D.pos j))||D.sI i x))) &&
  mf (D.w i&&D.w j) (mf (decide (D.rk i<D.rk j)) (decide (D.pos i<D.pos j))&&mf (decide (D.rk i=D.rk j)) (decide (i=j))) &&
  mf (D.w j) (decide (D.rk j<D.hi i)||decide (D.pos i<D.pos j))) &&
 uG D.k (λj=>mf (D.a j) (!yB (D.af j) (D.af j)) &&
  mf (D.w j) (uG (D.rk j) λq=>G6 D.k λy=>D.w y&&decide (D.rk y=q)) &&
  uG (D.lo j) (λq=>G6 D.k λx=>D.w x&&decide (D.rk x=q)&&D.sI j x) &&
  mf (Ph (D.af j).op) (D.free j||uG D.k λi=>mf (yB (D.af i) (D.af j)) (D.sI j i)))
def zT (ops:Array cu)(l:List Item):DD:=
 let k:=ops.size
 let af:=λi=>l.getD i Wg
 let ms:=Pg ops.toList []
 let pO:=afs k af ms
 let pos:=λi=>pO.idxOf i
 let rk:=λi=>((my k).filter λx=>ck (af x).op&&decide (pos x<pos i)).length
 { k,af,ms,pO,pos,rk,lo:=λr=>((my k).filter λx=>ck (af x).op&&(ms.getD r 0).testBit x).length }
def DD.wm(D:DD):Option (List Item):=match D.pO.dropWhile λi=>o9 (D.af i).op with
 | []=>none
 | k::R=>if (R.filter λb=> !D.sI b k).all (λz=>o9 (mb (D.af z)).op && !yB (D.af z) (D.af k))=true then some ((R.filter λb=> !D.sI b k).map λz=>mb (D.af z)) else none
theorem Wj{p:Nat->Bool} : ∀ {A:List Nat} {k:Nat} {R:List Nat},(∀x∈A,p x=true)->p k=false->(A++k::R).dropWhile p=k::R
 | [],k,R,_,hk=>by simp[List.dropWhile,hk]
 | x::A,k,R,hA,hk=>by
   rw[aS,List.dropWhile_cons_of_pos (hA x s0)];exact Wj (λy c=>hA y (by simp[c])) hk
def jN (P:aZ)(N:Nat)(ops:Array cu):Option jf:=
 match qz P N ops ops.toList with
 | some l=>if P.follows .mixedOrders&&(zT ops l).ok ops then some ⟨(zT ops l).pO.map (zT ops l).af,(zT ops l).nb,(zT ops l).wm⟩ else none
 | none=>none
theorem Kt{N:Nat}{ops:Array cu}{d:jf}(h:jN P N ops=some d):zH P N ops d/\zJ P N ops d:=by
 unfold jN at h;split at h;rotate_left
 ·cases h
 rename_i l hl;split at h;rotate_left
 ·cases h
 rename_i hg;simp only[eZ] at hg;obtain⟨W,G⟩:=hg;simp only[Option.some.injEq] at h;obtain⟨v,rC⟩:=GJ hl;have n : ∀i j,(zT ops l).sI i j=true->fY ops i j:=λi j X=>
  Wf ops.toList [] (λk hk=>by
   simp only[List.length_nil,Nat.zero_add];have Y:k<ops.size:=by simpa using hk
   simp[Y]) (λa j f=>by simp at f) i j X
 have I : ∀i o,ops[i]? = some o->uz P N ops o ((zT ops l).af i):=λi o ho=>by
  obtain⟨hi,rfl⟩:=Array.getElem?_eq_some_iff.1 ho;have Q:i<l.length:=by rw[v];simpa using hi
  have:=rC i Q (by simpa using hi);rw[Jn] at this;show uz P N ops ops[i] (l.getD i Wg);rw[uj,dx Q];exact this
 generalize Z:zT ops l=D at *;have hk:D.k=ops.size:=by rw[<-Z];rfl
 unfold DD.ok at G;simp only[eZ] at G;obtain⟨⟨⟨⟨⟨o1,o2⟩,o3⟩,o4⟩,o5⟩,o6⟩:=G;have u:=λi j (hi:i<ops.size) (f:j<ops.size)=>wD (wD o5 i Om) j Om;simp only[eZ] at u;have C:=λj (f:j<ops.size)=>wD o6 j Om;simp only[eZ] at C;have J : ∀i j,fY ops i j->i<ops.size->j<ops.size/\D.pos j<D.pos i:=by
  intro i j ha;induction ha with
  | @GN i o e ho he hb=>
    intro hi;have:=wD o4 i Om;rw[ho] at this;have:=mL (List.all_eq_true.1 this e he) hb;simp only[eZ,decide_eq_true_eq] at this;exact⟨Om,this.2⟩
  | @trans i j m h k O3 VF=>
    intro hi;obtain⟨a1,a2⟩:=O3 hi;obtain⟨b1,b2⟩:=VF a1;exact⟨b1,Om⟩
 refine afq (S:=⟨D.af,I,D.pO,by rw[<-h],λi=> ?_,D.pos,of_decide_eq_true o1,λi j hi ha=>J i j ha hi,λi j t hi f h1 h2=> ?_,λi j t hi f av h1 h2=> ?_,λj t f h1 h2 hu=> ?_,λi j t b hi f h1 h2 h3=> ?_,λi j hi f h1 h2=> ?_,
  λdd i t hd hi h1 h2 h3 h4 x hx hp=> ?_,D.rk,λx y hx L h1 h2 h3=> ?_,λx q hx h1 h2=> ?_,λx y hx L h1 h2 h3=> ?_,D.lo,D.hi,λr q F hq=> ?_,λr x F hx h1=> ?_,λr x F h1=> ?_⟩) W ?wm
 case wm=>
  intro Zl hp A k R ht hA hk;rw[<-h] at hp;have hp:D.wm=some Zl:=hp;have ht:D.pO=A++k::R:=ht;unfold DD.wm at hp;rw[ht,Wj (p:=λi=>o9 (D.af i).op) hA hk] at hp;simp only at hp;split at hp
  ·rename_i kb;cases hp;refine⟨_,rfl,List.filter_sublist,λz hz=> ?_,λb hb=> ?_⟩;·have:=List.all_eq_true.1 kb z hz;simp only[eZ,xo] at this;refine⟨this.1,λt h1 h2=> ?_⟩;rw[G7 h1 h2] at this;cases this.2
   cases U:D.sI b k with
   | true=>exact .inr (n _ _ U)
   | false=>exact .inl (List.mem_filter.2 ⟨hb,by rw[U];rfl⟩)
  cases hp
 ·constructor;·intro hi;have:=List.all_eq_true.1 o3 i hi;have:=of_decide_eq_true this;omega
  intro hi;have:=wD o2 i Om;simpa using this
 ·have:=mL (u i j hi f).1.1.1.1.1.1 (by simp[Wh,h1,h2]);exact of_decide_eq_true this
 ·have:=mL (u i j hi f).1.1.1.1.1.2 (by simp[av,G7 h1 h2]);simp only[zp,eZ,xo] at this;rcases this with g | ⟨g,g'⟩
  ·exact .inl (n _ _ g)
  exact .inr ⟨n _ _ g,g'⟩
 ·have:=mL (C j f).1.1.1 h1;rw[G7 h2 hu] at this;cases this
 ·have:=mL (u i j hi f).1.1.1.1.2 h1;simp[Wi,h2,h3] at this
 ·exact n _ _ (mL (u i j hi f).1.1.1.2 (by simp only[eZ,decide_eq_true_eq];exact⟨h1,h2⟩))
 ·have:=mL (u dd i hd hi).1.1.2 (by simp only[eZ,xo];exact⟨⟨h1,h2⟩,G7 h3 h4⟩);have:=mL (wD this x Om) (by simpa using hp);simp only[eZ] at this;refine⟨λg=>n _ _ (mL this.1 g),λg=> ?_⟩;have g2:=mL this.2 g;rw[zp] at g2;rcases g2 with g2 | g2
  ·obtain⟨y,M,c⟩:=Ks g2;simp only[eZ,decide_eq_true_eq] at c;exact .inl ⟨y,Om,c.1.1,c.1.2,c.2⟩
  exact .inr (n _ _ g2)
 ·have:=mL (u x y hx L).1.2 (by simp only[eZ];exact⟨h1,h2⟩);simp only[eZ] at this;exact of_decide_eq_true (mL this.1 (by simpa using h3))
 ·obtain⟨y,M,c⟩:=Ks (wD (mL (C x hx).1.1.2 h1) q h2);simp only[eZ,decide_eq_true_eq] at c;exact⟨y,Om,c.1,c.2⟩
 ·have:=mL (u x y hx L).1.2 (by simp only[eZ];exact⟨h1,h2⟩);simp only[eZ] at this;exact of_decide_eq_true (mL this.2 (by simpa using h3))
 ·obtain⟨y,M,c⟩:=Ks (wD (C r F).1.2 q hq);simp only[eZ,decide_eq_true_eq] at c;exact⟨y,Om,c.1.1,c.1.2,n _ _ c.2⟩
 ·have:=mL (u r x F hx).2 h1;simpa using this
 have V:Ph (D.af r).op=true:=by rw[h1];rfl
 have:=mL (C r F).2 V;rw[zp] at this;cases O:D.free r with
 | true=>
   left;intro x hx hp;have:=mL (wD O x Om) (by simpa using hp);simp only[eZ] at this;refine⟨λg=>n _ _ (mL this.1 g),λg=> ?_⟩;have:=mL this.2 g;rw[zp] at this;rcases this with g | g
   ·obtain⟨y,M,c⟩:=Ks g;simp only[eZ,decide_eq_true_eq] at c;exact .inl ⟨y,Om,c.1.1,c.1.2,n _ _ c.2⟩
   right;unfold yB at g;cases hd:(D.af x).dst with
   | none=>rw[hd] at g;cases g
   | some t=>rw[hd] at g;exact⟨t,rfl,by simpa using g⟩
 | false=>
   right;rw[O] at this;simp only[aM,false_or] at this;refine⟨λt j ht f hd=>n _ _ (mL (wD this j Om) (G7 hd ht)),λs s1 s2=> ?_⟩;rw[<-h];show(D.af r,s)∈D.nb;unfold DD.nb;refine List.mem_flatMap.2 ⟨r,List.mem_range.2 Om,?_⟩;rw[V,O];simp only[FN,Bool.and_self,iT];exact List.mem_map.2 ⟨s,List.mem_filter.2 ⟨List.mem_range.2 Om,by simpa using s1⟩,rfl⟩
end
section
open Go Go.RowKit
variable {T:cF}
def Ku (T:cF)(b:bU)(Q:bP->Fr->CH->Prop):bP->Fr->CH->Prop:=λx fr H=>match x with
 | .normal=>dB T b fr H Q
 | x=>Q x fr H
def Kv(id:Nat)(Q:bP->Fr->CH->Prop):bP->Fr->CH->Prop:=λx fr H=>match x with
 | .exit i=>if i=id then Q .normal fr H else Q (.exit i) fr H
 | x=>Q x fr H
def G8(T:cF)(r:List Item)(fr:Fr)(d:Option Nat)(K:Fr->CH->Prop):ae->CH->Prop:=λv H=>nK T r (bE fr d v) H K
def G9 (o:Option ae)(K:ae->CH->Prop)(H:CH):Prop:=match o with
 | some v=>K v H
 | none=>False
def G' (o:Option (ae×CH))(K:ae->CH->Prop):Prop:=match o with
 | some q=>K q.1 q.2
 | none=>False
def Pj (o:Option (List ae×aH×Kd×AK))(K:ae->CH->Prop)(H:CH):Prop:=match o with
 | some q=>K (kH q.2.2.2 H.nx) (H.new (.cells q.1 q.2.1 q.2.2.1))
 | none=>False
def Ha (o:Option (List ae))(Q:ae->CH->Prop)(H:CH):Prop:=match o with
 | some vs=>Q (eV vs) H
 | none=>False
theorem Ec{v:ae}{K:ae->CH->Prop}{H:CH}:G9 (some v) K H↔K v H:=fJ
theorem Kw{v:ae}{K:ae->CH->Prop}{H:CH}:G' (some (v,H)) K↔K v H:=fJ
theorem Kx{cs:List ae}{e:aH}{k:Kd}{mk:AK}{K:ae->CH->Prop}{H:CH}:Pj (some (cs,e,k,mk)) K H↔K (kH mk H.nx) (H.new (.cells cs e k)):=fJ
theorem Ky{vs:List ae}{Q:ae->CH->Prop}{H:CH}:Ha (some vs) Q H↔Q (eV vs) H:=fJ
def BD (res:List nJ)(Q:ae->CH->Prop):bP->Fr->CH->Prop:=λx fr H=>match x with
 | .exit _=>False
 | _=>Ha (ct fr H res) Q H
theorem Ed{a b:bU}{fr:Fr}{H:CH}{Q:bP->Fr->CH->Prop}:dB T (.seq a b) fr H Q↔dB T a fr H (Ku T b Q):=Kf
theorem Pk{id:Nat}{c:bU}{fr:Fr}{H:CH}{Q:bP->Fr->CH->Prop}:dB T (.block id c) fr H Q↔dB T c fr H (Kv id Q):=VB
theorem Ee{b:bU}{Q:bP->Fr->CH->Prop}{fr:Fr}{H:CH}:Ku T b Q .normal fr H↔dB T b fr H Q:=fJ
theorem Wk{b:bU}{Q:bP->Fr->CH->Prop}{fr:Fr}{H:CH}:Ku T b Q .ret fr H↔Q .ret fr H:=fJ
theorem Wl{b:bU}{Q:bP->Fr->CH->Prop}{i:Nat}{fr:Fr}{H:CH}:Ku T b Q (.exit i) fr H↔Q (.exit i) fr H:=fJ
theorem Wm{id:Nat}{Q:bP->Fr->CH->Prop}{fr:Fr}{H:CH}:Kv id Q .normal fr H↔Q .normal fr H:=fJ
theorem Wn{id:Nat}{Q:bP->Fr->CH->Prop}{fr:Fr}{H:CH}:Kv id Q .ret fr H↔Q .ret fr H:=fJ
theorem Wo{id i:Nat}{Q:bP->Fr->CH->Prop}{fr:Fr}{H:CH}:Kv id Q (.exit i) fr H↔if i=id then Q .normal fr H else Q (.exit i) fr H:=fJ
theorem Wp{res:List nJ}{Q:ae->CH->Prop}{fr:Fr}{H:CH}:BD res Q .normal fr H↔Ha (ct fr H res) Q H:=fJ
theorem Pm{res:List nJ}{Q:ae->CH->Prop}{fr:Fr}{H:CH}:BD res Q .ret fr H↔Ha (ct fr H res) Q H:=fJ
theorem Hb{af:List Item}{fr:Fr}{H:CH}{Q:bP->Fr->CH->Prop}:dB T (.gI af) fr H Q↔nK T af fr H (Q .normal):=Vz
theorem Wq{af:List Item}{f:Option (List Item)}{fr:Fr}{H:CH}{Q:bP->Fr->CH->Prop}:dB T (.lL ⟨af,[],f⟩) fr H Q↔nK T af fr H (Q .normal):=by
 rw[OX];constructor
 ·rintro⟨n,fr',H',l,h1,h2,h3⟩;refine⟨n,fr',H',?_,h3⟩;clear h2 h3;induction af generalizing fr H l with
  | nil=>simp only[cE,Option.some.injEq,Prod.mk.injEq] at h1;obtain⟨rfl,rfl,rfl⟩:=h1;rfl
  | cons it af e=>
    simp only[cE,c9] at h1⊢
    cases hs:cA (dg T n) it fr H with
    | none=>rw[hs] at h1;cases h1
    | some q=>
      rw[hs] at h1;simp only at h1⊢
      cases hd:cE (dg T n) af q.1 q.2 with
      | none=>rw[hd] at h1;cases h1
      | some z=>obtain⟨a,b,c⟩:=z;rw[hd] at h1;simp only[fo,Option.some.injEq,Prod.mk.injEq] at h1;obtain⟨rfl,rfl,_⟩:=h1;exact e _ hd
 rintro⟨n,fr',H',h1,h3⟩;have : ∃l,cE (dg T n) af fr H=some (fr',H',l):=by
  clear h3;induction af generalizing fr H with
  | nil=>simp only[c9,Option.some.injEq,Prod.mk.injEq] at h1;obtain⟨rfl,rfl⟩:=h1;exact⟨[],rfl⟩
  | cons it af e=>
    simp only[cE,c9] at h1⊢
    cases hs:cA (dg T n) it fr H with
    | none=>rw[hs] at h1;cases h1
    | some q=>
      rw[hs] at h1;obtain⟨l,hl⟩:=e h1;simp only[hl];exact⟨_,rfl⟩
 obtain⟨l,hl⟩:=this;exact⟨n,fr',H',l,hl,λp hp=>by simp at hp,h3⟩
def BE(T:cF)(v:ae)(a b:bU)(fr:Fr)(H:CH)(Q:bP->Fr->CH->Prop):Prop:=match v with
 | .bool t=>if t=true then dB T a fr H Q else dB T b fr H Q
 | _=>False
theorem Kz{c:au}{a b:bU}{fr:Fr}{H:CH}{Q:bP->Fr->CH->Prop}:dB T (.cond c a b) fr H Q↔BE T (aO fr c) a b fr H Q:=OY
theorem KA{a b:bU}{fr:Fr}{H:CH}{Q:bP->Fr->CH->Prop}:BE T (.bool true) a b fr H Q↔dB T a fr H Q:=by simp[BE]
theorem KB{a b:bU}{fr:Fr}{H:CH}{Q:bP->Fr->CH->Prop}:BE T (.bool false) a b fr H Q↔dB T b fr H Q:=by simp[BE]
theorem afv{t:Bool}{a b:bU}{fr:Fr}{H:CH}{Q:bP->Fr->CH->Prop}(h1:t=true->dB T a fr H Q)(h2:t=false->dB T b fr H Q):BE T (.bool t) a b fr H Q:=by
 cases t;·exact KB.2 (h2 rfl)
 exact KA.2 (h1 rfl)
def oj (T:cF)(v:ae)(b:Bool)(d:Option Nat)(op:fG)(r:List Item)(fr:Fr)(H:CH)(K:Fr->CH->Prop):Prop:=match v with
 | .bool c=>if c=b then lN T fr H op (G8 T r fr d K) else nK T r (bE fr d jK) H K
 | .chan none=>nK T r (bE fr d jK) H K
 | _=>False
theorem Wr{d:Option Nat}{op:fG}{s:Nat}{b:Bool}{r:List Item}{fr:Fr}{H:CH}{K:Fr->CH->Prop}:nK T (⟨d,op,some (s,b)⟩::r) fr H K↔oj T (fr s) b d op r fr H K:=by
 rw[Kc];simp only[ec];generalize fr s=v;unfold oj;cases v with
 | bool c=>
   simp only;by_cases e:c=b
   ·subst e;simp only[beq_self_eq_true,iT];exact fJ
   have:(c==b)=false:=by simpa using e
   simp only[this,iN e]
 | chan r=>cases r<;>exact fJ
 | _=>exact fJ
variable {d:Option Nat} {op:fG} {r:List Item} {fr:Fr} {H:CH} {K:Fr->CH->Prop}
theorem Ws:oj T (.bool true) true d op r fr H K↔lN T fr H op (G8 T r fr d K):=by simp[oj]
theorem Wt:oj T (.bool false) false d op r fr H K↔lN T fr H op (G8 T r fr d K):=by simp[oj]
theorem Wu:oj T (.bool true) false d op r fr H K↔nK T r (bE fr d jK) H K:=by simp[oj]
theorem Wv:oj T (.bool false) true d op r fr H K↔nK T r (bE fr d jK) H K:=by simp[oj]
theorem Ww{b:Bool}:oj T jK b d op r fr H K↔nK T r (bE fr d jK) H K:=by simp[oj,jK]
theorem afw{t b:Bool}(h1:t=true->oj T (.bool true) b d op r fr H K)(h2:t=false->oj T (.bool false) b d op r fr H K):oj T (.bool t) b d op r fr H K:=by
 cases t;·exact h2 rfl
 exact h1 rfl
theorem Hc{d:Option Nat}{op:fG}{r:List Item}{fr:Fr}{H:CH}{K:Fr->CH->Prop}:nK T (⟨d,op,none⟩::r) fr H K↔lN T fr H op (G8 T r fr d K):=Kc
theorem Hf{r:List Item}{fr:Fr}{d:Option Nat}{K:Fr->CH->Prop}{v:ae}{H:CH}:G8 T r fr d K v H↔nK T r (bE fr d v) H K:=fJ
theorem Ef{fr:Fr}{H:CH}{x:dN}{K:ae->CH->Prop}:lN T fr H (.p x) K↔G9 (pop (aO fr) x) K H:=by
 rw[Vu];cases pop (aO fr) x<;>simp[G9]
theorem KC{fr:Fr}{H:CH}{x:gU}{K:ae->CH->Prop}:lN T fr H (.l x) K↔G9 (bg H (aO fr) x) K H:=by
 rw[OU];cases bg H (aO fr) x<;>simp[G9]
theorem KD{fr:Fr}{H:CH}{x:oX}{K:ae->CH->Prop}:lN T fr H (.a x) K↔Pj (fV (aO fr) x) K H:=by
 rw[Vv];cases fV (aO fr) x with
 | none=>simp[Pj]
 | some q=>
   obtain⟨cs,e,k,mk⟩:=q;constructor;·rintro⟨cs',e',k',c,h,hk⟩;cases h;exact hk
   intro h;exact⟨cs,e,k,mk,rfl,h⟩
theorem KE{fr:Fr}{H:CH}{x:hO}{K:ae->CH->Prop}:lN T fr H (.w x) K↔G' (cy H (aO fr) x) K:=by
 rw[Vw];cases cy H (aO fr) x with
 | none=>simp[G']
 | some q=>
   constructor;·rintro⟨v,H',h,hk⟩;cases h;exact hk
   intro h;exact⟨q.1,q.2,rfl,h⟩
def Pn(T:cF)(v:ae)(args:List ae)(H:CH)(K:ae->CH->Prop):Prop:=match v with
 | .func (.func f) _ dL=>bw T f (args++dL.toList) H K
 | .func (.yield l) _ _=>OT T l args H K
 | _=>False
theorem Wx{fr:Fr}{H:CH}{g:au}{args:List au}{K:ae->CH->Prop}:lN T fr H (.nG g args) K↔Pn T (aO fr g) (args.map (aO fr)) H K:=ae2
theorem Wy{f:bk}{a dL:Array ae}{args:List ae}{H:CH}{K:ae->CH->Prop}:Pn T (.func (.func f) a dL) args H K↔bw T f (args++dL.toList) H K:=fJ
theorem Wz{l:Nat}{a dL:Array ae}{args:List ae}{H:CH}{K:ae->CH->Prop}:Pn T (.func (.yield l) a dL) args H K↔OT T l args H K:=fJ
def KF(T:cF)(v:ae)(key:Nat×Nat)(fr:Fr)(H:CH)(Q:bP->Fr->CH->Prop):Prop:=match v with
 | .func (.func f) _ dL=>bw T f (.func (.yield H.nx) #[] #[]::dL.toList) (H.new (.loop .ready none fr key)) (OZ H.nx fr Q)
 | _=>False
theorem WA{g:au}{key:Nat×Nat}{fr:Fr}{H:CH}{Q:bP->Fr->CH->Prop}:dB T (.rv g key) fr H Q↔KF T (aO fr g) key fr H Q:=by
 constructor
 ·rintro⟨n,x,fr',H',h1,h2⟩;simp only[bG] at h1;unfold KF;split at h1
  ·rename_i f c dL hg;rw[hg];cases hc:(dg T n).call f (Value.func (.yield H.nx) #[] #[]::dL.toList) (H.new (.loop .ready none fr key)) with
   | none=>rw[hc] at h1;cases h1
   | some q=>
     rw[hc] at h1;refine⟨n,q.1,q.2,hc,?_⟩;simp only at h1;split at h1
     ·rename_i st gP aj e ho;split at h1;·cases h1
      rename_i hb;simp only[Option.some.injEq,Prod.mk.injEq] at h1;obtain⟨rfl,rfl,rfl⟩:=h1;exact⟨_,_,_,_,ho,hb,h2⟩
     cases h1
  cases h1
 intro h;unfold KF at h;split at h;·rename_i f c dL hg;exact ae4 hg h
 exact h.elim
theorem WB{f:bk}{a dL:Array ae}{key:Nat×Nat}{fr:Fr}{H:CH}{Q:bP->Fr->CH->Prop}:KF T (.func (.func f) a dL) key fr H Q↔bw T f (.func (.yield H.nx) #[] #[]::dL.toList) (H.new (.loop .ready none fr key)) (OZ H.nx fr Q):=fJ
theorem Po{fr:Fr}{H:CH}{f:bk}{args:List au}{K:ae->CH->Prop}:lN T fr H (.call f args) K↔bw T f (args.map (aO fr)) H K:=fJ
theorem cm{fr:Fr}{d t:Nat}{v:ae}:bE fr (some d) v t=if t=d then v else fr t:=rfl
theorem kj{fr:Fr}{v:ae}:bE fr none v=fr:=rfl
theorem cV{fr:Fr}{t:Nat}:aO fr (.tmp t)=fr t:=rfl
theorem du{fr:Fr}{v:ae}:aO fr (.const v)=v:=rfl
theorem KG{fr:Fr}{f:bk}:aO fr (.func f)= .func (.func f) #[] #[]:=rfl
theorem gN{H:CH}{o:dr}:(H.new o).nx=H.nx+1:=rfl
theorem Dn{H:CH}{l:Nat}{o:dr}:(H.set l o).nx=H.nx:=rfl
theorem WC{H:CH}{o:dr}{k:Nat}(h:k=H.nx):(H.new o).ob k=o:=by simp[CH.new,h]
theorem kN{H:CH}{o:dr}{k:Nat}(h:k≠H.nx):(H.new o).ob k=H.ob k:=by simp[CH.new,h]
theorem WD{H:CH}{o:dr}{l:Nat}:(H.set l o).ob l=o:=by simp[CH.set]
theorem Pp{H:CH}{o:dr}{l k:Nat}(h:k≠l):(H.set l o).ob k=H.ob k:=by simp[CH.set,h]
theorem Pq{f:bk}{rf:wq}(he:T.ext f=false)(e:T.fn f=some rf){args:List ae}{H:CH}{Q:ae->CH->Prop}(h:dB T rf.body (λt=>args.getD t undef) H (BD rf.res Q)):bw T f args H Q:=by
 refine(ae3 he e).2 (h.mono λx fr' H' hx=> ?_);unfold BD at hx;cases x with
 | exit i=>exact hx
 | normal=>simp only at hx⊢;cases c:ct fr' H' rf.res with
   | none=>rw[c] at hx;exact hx.elim
   | some vs=>rw[c] at hx;exact⟨vs,rfl,hx⟩
 | ret=>simp only at hx⊢;cases c:ct fr' H' rf.res with
   | none=>rw[c] at hx;exact hx.elim
   | some vs=>rw[c] at hx;exact⟨vs,rfl,hx⟩
theorem dk{v:ae}{r:List ae}:(v::r).getD 0 undef=v:=rfl
theorem rI{v:ae}{r:List ae}{n:Nat}:(v::r).getD (n+1) undef=r.getD n undef:=rfl
def Eg(I:Nat->Fr->CH->Prop)(n:Nat)(Q:bP->Fr->CH->Prop):bP->Fr->CH->Prop:=λx fr H=>match x with
 | .normal=>∃m,m<n/\I m fr H
 | x=>Q x fr H
theorem WE{I:Nat->Fr->CH->Prop}{n:Nat}{Q:bP->Fr->CH->Prop}{fr:Fr}{H:CH}:Eg I n Q .normal fr H↔∃m,m<n/\I m fr H:=fJ
theorem WF{I:Nat->Fr->CH->Prop}{n:Nat}{Q:bP->Fr->CH->Prop}{fr:Fr}{H:CH}:Eg I n Q .ret fr H↔Q .ret fr H:=fJ
theorem WG{I:Nat->Fr->CH->Prop}{n i:Nat}{Q:bP->Fr->CH->Prop}{fr:Fr}{H:CH}:Eg I n Q (.exit i) fr H↔Q (.exit i) fr H:=fJ
theorem afx{c:bU}{Q:bP->Fr->CH->Prop}(I:Nat->Fr->CH->Prop)(step : ∀n fr H,I n fr H->dB T c fr H (Eg I n Q)) : ∀ {n:Nat} {fr:Fr} {H:CH},I n fr H->dB T (.loop c) fr H Q:=by
 intro n;induction n using Nat.strongRecOn with
 | _ n e=>
   intro fr H h;refine Kg.2 ((step n fr H h).mono λx fr' H' hx=> ?_);cases x with
   | normal=>obtain⟨m,f,hi⟩:=hx;exact e m f hi
   | exit i=>exact hx
   | ret=>exact hx
section ints
variable {k:IntKind} {a b:Int}
theorem WH:cr (binOp .add 0 (.int k a) (.int k b))=some (.int k (k.wrap (a+b))):=by simp[binOp,FM,cr,kE]
theorem Ps:cr (binOp .sub 0 (.int k a) (.int k b))=some (.int k (k.wrap (a-b))):=by simp[binOp,FM,cr,kE]
theorem WI:cr (binOp .mul 0 (.int k a) (.int k b))=some (.int k (k.wrap (a*b))):=by simp[binOp,FM,cr,kE]
theorem WJ(h:b≠0):cr (binOp .quo 0 (.int k a) (.int k b))=some (.int k (k.wrap (a.tdiv b))):=by simp[binOp,Op.intDiv,cr,kE,h]
theorem WK(h:b≠0):cr (binOp .rem 0 (.int k a) (.int k b))=some (.int k (a.tmod b)):=by simp[binOp,Op.intDiv,cr,kE,h]
theorem WL:cr (binOp .eql 0 (.int k a) (.int k b))=some (.bool (decide (a=b))):=by simp[binOp,Op.intCmp,cr,kE];by_cases h:a=b<;>simp[h]
theorem WM:cr (binOp .neq 0 (.int k a) (.int k b))=some (.bool (decide (a≠b))):=by simp[binOp,Op.intCmp,cr,kE];by_cases h:a=b<;>simp[h]
theorem WN:cr (binOp .lss 0 (.int k a) (.int k b))=some (.bool (decide (a<b))):=by simp[binOp,Op.intCmp,cr,kE]
theorem WO:cr (binOp .leq 0 (.int k a) (.int k b))=some (.bool (decide (a<=b))):=by simp[binOp,Op.intCmp,cr,kE]
theorem KH:cr (binOp .gtr 0 (.int k a) (.int k b))=some (.bool (decide (b<a))):=by simp[binOp,Op.intCmp,cr,kE]
theorem WP:cr (binOp .geq 0 (.int k a) (.int k b))=some (.bool (decide (b<=a))):=by simp[binOp,Op.intCmp,cr,kE]
theorem afy:cr (binOp .and 0 (.int k a) (.int k b))=some (.int k (k.wrap (BitVec.ofInt k.bits a &&& BitVec.ofInt k.bits b).toNat)):=by simp[binOp,Op.intBits,cr,kE]
theorem afz:cr (binOp .or 0 (.int k a) (.int k b))=some (.int k (k.wrap (BitVec.ofInt k.bits a ||| BitVec.ofInt k.bits b).toNat)):=by simp[binOp,Op.intBits,cr,kE]
theorem Pt{k':IntKind}(h:0<=b):cr (binOp .shl 0 (.int k a) (.int k' b))=some (.int k (k.wrap (a*2 ^ min b.toNat k.bits))):=by
 have : ¬b<0:=by omega
 simp[binOp,Op.shift,cr,kE,this]
theorem Hh{k':IntKind}(h:0<=b):cr (binOp .shr 0 (.int k a) (.int k' b))=some (.int k (a.fdiv (2 ^ min b.toNat k.bits))):=by
 have : ¬b<0:=by omega
 simp[binOp,Op.shift,cr,kE,this]
theorem Eh{t:Bool}:cr (Op.unary .not (.bool t))=some (.bool (!t)):=rfl
theorem nh(h1 : -9223372036854775808<=a)(h2:a<=9223372036854775807):IntKind.i64.wrap a=a:=by rw[IntKind.wrap_i64];omega
theorem WQ(h1:0<=a)(h2:a<18446744073709551616):IntKind.u64.wrap a=a:=by rw[IntKind.wrap_u64];omega
theorem WR(h1:0<=a)(h2:a<256):IntKind.u8.wrap a=a:=by rw[IntKind.wrap_u8];omega
theorem WS(h:0<=a):a.tdiv b=a / b:=by rw[Int.tdiv_eq_ediv_of_nonneg h]
theorem WT(h:0<=a):a.tmod b=a % b:=by rw[Int.tmod_eq_emod_of_nonneg h]
end ints
end
end Can
end Go.Proofs.YtdfgkcoenagaaaaGreat
namespace Go.Proofs.YtdfgkcoenagaaaaGreat
open Go.ChangeShapes Go.WideShapes Go.ChangeAt Go.RowKit
section
variable {P:aZ} {T E sz:Nat} (hT:P.underlying T=some (.slice E)) (hE:(P.info? E).map (·.size)=some sz)
include hT hE
end
end Go.Proofs.YtdfgkcoenagaaaaGreat
namespace Go.Proofs.YtdfgkcoenagaaaaGreat
open Go.ChangeShapes Go.WideShapes Go.ChangeAt Go.RowKit Go.Deep
theorem WU{α:Type}{n:Nat}{p:Nat->α->Prop}(each : ∀i,i<n->∃y,p i y) : ∃ys:List α,ys.length=n/\∀i (h:i<ys.length),p i ys[i]:=by
 induction n with
 | zero=>exact⟨[],rfl,λi h=>absurd h (su _)⟩
 | succ n g=>
   obtain⟨ys,c,j⟩:=g (λi hi=>each i Om);obtain⟨y,h1⟩:=each n Om;refine⟨ys++ [y],by simp[c],λi hi=> ?_⟩;by_cases f:i<ys.length
   ·rw[List.getElem_append_left f];exact j i f
   have e:i=n:=by simp at hi;omega
   subst e;rw[List.getElem_append_right Om];simpa[c] using h1
section
variable {H:Type} {enc:aH×ae->H} {P:aZ} {w:ar} {base:Nat} {spare:Nat->Bool} {held:Bool}
end
end Go.Proofs.YtdfgkcoenagaaaaGreat
