/- Canonical runs: functions. Over any program. What a value in memory reads as: slices, integers; what keeps a reading; append and make in these words. Plain lemmas over any program. -/
import Derived.Test.YticlaccbodpkeaaGreatDoorUa
import Derived.Test.YticlaccbodpkeaaGreatDoorUb
import Derived.Test.YticlaccbodpkeaaGreatDoorRows
import Derived.WalkKit
import Derived.ProofKit
import Derived.OpenShut
import Derived.Lib.Hide
import Derived.Deep.Slices
open Array renaming all_eq_true_iff_forall_mem → aq6, ext' → tv, getD_eq_getD_getElem? → sC, getElem?_eq_getElem → sv, getElem?_push → Ge, getElem?_setIfInBounds_ne → YR, getElem_toList → yp
open Bool renaming and_eq_true → fV, false_eq_true → je, not_eq_true' → zT, not_false → NX, not_true → NW, or_eq_true → NZ, true_and → Jn
open Classical renaming byContradiction → N2
open Go renaming Code → iR, Deferred → zW, FuncId → aS, Oper → dj, Operand → av, Program → aX, TypeId → aI, Value → ae, World → ay
open Go.Fence renaming wide → sB
open Go.Instr renaming sureAddr → Gh
open Go.Op renaming intArith → Jh
open Go.Region renaming binds → Gp, ready → zX, wanted → N1
open Go.Result renaming andThen → uy, andThen_ok → cg
open Go.Sem renaming run_bind → cA, run_pure → cR
open Go.World renaming putObj_heap_other → Ss
open Iff renaming rfl → eM
open List renaming append_of_mem → Sy, cons_append → gZ, getD_eq_getElem?_getD → yq, getElem?_append_left → qo, getElem?_append_right → su, getElem?_cons_succ → e9, getElem?_cons_zero → eZ, getElem?_eq_getElem → cj, length_filter_le → Sz, map_append → zY, map_congr_left → xd, map_cons → c8, mem_append → gu, mem_append_left → N4, mem_cons → mD, mem_cons_of_mem → jJ, mem_cons_self → lA, nil_append → ju, pairwise_append → Sv, pairwise_cons → Sx, range → mB
open Nat renaming add_assoc → oa, le_max_left → yr, le_max_right → yt, le_refl → ai, le_succ → mC, le_succ_of_le → xc, lt_irrefl → Jm, lt_or_ge → B9, not_lt_zero → fW
open Option renaming getD_some → tt, map_some → dC
open Pure renaming pure → kX
set_option linter.unusedSimpArgs false
set_option linter.unusedVariables false
namespace Go.Proofs.YticlaccbodpkeaaGreatDoor
namespace Can
section
open Go Go.RowKit
variable {P:aX} {B:Nat}
inductive pm where
 | tmp (t:Nat)
 | ld (t:Nat)
 | kZ (n t:Nat)
def fQ (fr:Fr)(H:CH):pm->Option ae
 | .tmp t=>some (fr t)
 | .ld t=>aD H (aJ fr) (.ld (.tmp t))
 | .kZ n t=>aD H (aJ fr) (.kZ n (.tmp t))
def cY (fr:Fr)(H:CH):List pm->Option (List ae)
 | []=>some []
 | r::rs=>match fQ fr H r,cY fr H rs with
   | some v,some vs=>some (v::vs)
   | _,_=>none
def dU:List ae->ae
 | [v]=>v
 | vs=> .tuple vs.toArray
structure yI where
 ntmps:Nat
 res:List pm
 body:bQ
structure cw where
 fn:aS->Option yI
 loop:Nat×Nat->Option (List Nat×bQ×bQ)
 ext:aS->Bool
 xt:Hd
def Cs(fr:Fr)(ps:List Nat)(args:List ae):Fr:=(ps.zip args).foldl (λfr p=>bO fr (some p.1) p.2) fr
def tL:bp->Option (Option Nat)
 | .normal=>none
 | .ret=>some none
 | .exit i=>some (some i)
noncomputable def dH(T:cw):Nat->Hd
 | 0=>⟨λ_ _ _=>none,λ_ _ _=>none⟩
 | n+1=>⟨λf args H=>if T.ext f then T.xt.call f args H else match T.fn f with
   | some rf=>match bE (dH T n) n rf.body (λt=>args.getD t undef) H with
     | some (.normal,fr',H')=>(cY fr' H' rf.res).map λvs=>(dU vs,H')
     | some (.ret,fr',H')=>(cY fr' H' rf.res).map λvs=>(dU vs,H')
     | _=>none
   | none=>none,λl args H=>match H.ob l with
   | .loop .ready _ fr key=>match T.loop key with
     | some (ps,lg,body)=>if args.length=ps.length then match bE (dH T n) n lg (Cs fr ps args) H with
       | some (.normal,g,c)=>match c.ob l with
         | .loop .ready gv i j=>match bE (dH T n) n body g (c.set l (.loop .busy gv i j)) with
           | some (x,_,e)=>match e.ob l with
             | .loop _ _ o p=>some (.bool (tL x).isNone,e.set l (.loop (if (tL x).isNone then .ready else .done) (tL x) o p))
             | _=>none
           | none=>none
         | _=>none
       | _=>none
       else none
     | none=>none
   | _=>none⟩
noncomputable def uQ(T:cw)(n:Nat):aS->List ae->CH->Option (ae×CH):=(dH T n).call
inductive OI(P:aX):ResultVar->pm->Prop where
 | tmp {t:Nat}:OI P (.tmp t) (.tmp t)
 | ld {a t:Nat} {d:TypeDesc} (h:P.underlying t=some d) (hd:(match d with | .struct _ | .array _ _=>true | _=>false)=false):OI P (.cell a t) (.ld a)
 | kZ {a t n:Nat} {d:TypeDesc} (h:P.underlying t=some d) (hd:(match d with | .struct _ | .array _ _=>true | _=>false)=true) (hn:(P.info? t).map (·.size)=some n):OI P (.cell a t) (.kZ n a)
inductive Es(P:aX):List ResultVar->List pm->Prop where
 | nil:Es P [] []
 | cons {r:ResultVar} {q:pm} {rs:List ResultVar} {qs:List pm} (h:OI P r q) (hs:Es P rs qs):Es P (r::rs) (q::qs)
structure aab(P:aX)(f:aS)(rf:yI):Prop where
 call:pP P f=true
 ok : ∃fn c,P.funcs[f]? = some fn/\fn.body=some c/\fn.ntmps=rf.ntmps/\lh P rf.ntmps c rf.body/\Es P fn.results.toList rf.res
def G8(tmps:Array ae):ResultVar->Sem ae
 | .tmp t=>pure (tmps.getD t undef)
 | .cell a t=>do loadVar t (<-asAddr (tmps.getD a undef))
theorem ahZ{β:Nat->aA}{H:CH}{w:ay}{fr:Fr}{N:Nat}{a:Act}(j:aP P B β H w)(g:FR β N fr a) : ∀ {rs:List ResultVar} {qs:List pm} {vs:List ae},Es P rs qs->cY fr H qs=some vs->
 ∃f,(rs.mapM (G8 a.tmps)).run P w= .ok f w/\aT β vs f:=by
 intro rs qs vs h;induction h generalizing vs with
 | nil=>intro c;simp only[cY,Option.some.injEq] at c;subst c;exact⟨[],rfl,aT.nil β⟩
 | @cons r q rs qs i J A=>
   intro c;simp only[cY] at c;split at c
   ·rename_i v C h1 h2;cases c;obtain⟨f,g1,g2⟩:=A h2;have hv : ∃v',(G8 a.tmps r).run P w= .ok v' w/\VR β v v':=by
     cases i with
     | @tmp t=>
       simp only[fQ,Option.some.injEq] at h1;subst h1;exact⟨_,rfl,g.2 t⟩
     | @ld s t d h hd=>
       simp only[fQ,aD,aJ] at h1;have hx:=g.2 s;split at h1
       ·rename_i l L ha;split at h1;·rename_i cs e k D;rw[ha] at hx;obtain⟨b,z,F,hc⟩:=j.load hx D;obtain⟨u,hu,G⟩:=hc _ _ h1;refine⟨u,?_,G⟩;simp only[G8,F,asAddr,loadVar,cA,cR,cg,Zv h hd,je,iF];simp[Go.load,Sem.run,hu]
        cases h1
       cases h1
     | @kZ s t n d h hd hn=>
       have hx:=g.2 s;obtain⟨u,hu,c⟩:=Zw (x:= .tmp s) h hd hn B β H w (aJ fr) (λ_=>a.tmps.getD s undef) { dst:=none,op:= .load t (.tmp s),type:=0,pos:= "",after:= #[],guard:=none } v rfl (λx o=>by simp[Op.operands] at o;subst o;exact hx) j h1;refine⟨u,?_,c⟩;simp only[G8];simp only[execOp,Instr.loadAt,cA] at hu;generalize i:a.tmps.getD s undef=q at hu⊢;rw[i] at hx;cases q with
       | pointer p=>
         cases p with
         | none=>simp[Gh,Sem.run,stuck] at hu
         | some p=>
           simp only[Gh,cR,cg] at hu;simp only[asAddr,cA,cR,cg];cases hl:(loadVar t p).run P w with
           | ok y I=>rw[hl] at hu;simp only[cg,Result.ok.injEq,Next.value.injEq] at hu;rw[hu.1,hu.2]
           | halt y I=>rw[hl] at hu;simp[uy] at hu
       | _=>simp[Gh,Sem.run,stuck,uy] at hu
    obtain⟨v',g3,g4⟩:=hv;refine⟨v'::f,?_,g2.cons g4⟩;simp only[List.mapM_cons,cA,g3,cg,g1,cR]
   cases c
theorem ah0{β:Nat->aA}{H:CH}{w:ay}{fr:Fr}{N:Nat}{a:Act}(j:aP P B β H w)(n:FR β N fr a){fn:Func}{qs:List pm}{vs:List ae}(h:Es P fn.results.toList qs)(f:cY fr H qs=some vs) :
 ∃v',(results fn a.tmps).run P w= .ok v' w/\VR β (dU vs) v':=by
 obtain⟨c,h1,h2⟩:=ahZ j n h f;have o:(fn.results.mapM (G8 a.tmps)).run P w= .ok c.toArray w:=by
  rw[Array.mapM_eq_mapM_toList];simp only[Sem.run_map,h1,cg]
 have q:(results fn a.tmps).run P w= .ok (if g:c.toArray.size=1 then c.toArray[0] else .tuple c.toArray) w:=by
  have:results fn a.tmps=(do let vs <-fn.results.mapM (G8 a.tmps);pure (if h:vs.size=1 then vs[0] else .tuple vs)):=rfl;rw[this];simp only[cA,o,cg,cR]
 refine⟨_,q,?_⟩;match vs,c,h2 with
 | [],[],_=>exact .undef _
 | [v],[v'],h2=>
   obtain⟨u,hu,f⟩:=h2.2 0 v rfl;simp at hu;subst hu;simpa[dU] using f
 | v::v2::vs,v'::i::c,h2=>
   have e:(dU (v::v2::vs))= .tuple (v::v2::vs).toArray:=rfl;rw[e,dif_neg Sm];have:=(aT.arr (xa:=(v::v2::vs).toArray) (bs:=(v'::i::c).toArray)).1 (by simpa using h2);exact .tuple this.1 this.2
 | [],_::_,h2=>exact absurd h2.1 Sm
 | [_],[],h2=>exact absurd h2.1 Sm
 | [_],_::_::_,h2=>exact absurd h2.1 Sm
 | _::_::_,[],h2=>exact absurd h2.1 Sm
 | _::_::_,[_],h2=>exact absurd h2.1 Sm
structure aac(P:aX)(key:Nat×Nat)(ps:List Nat)(lg body:bQ):Prop where
 ok : ∃N ca cb,keyOf P key=some (N,ps.toArray,ca,cb)/\lh P N ca lg/\lh P N cb body/\∀p∈ps,p<N
structure ww(P:aX)(B:Nat)(T:cw):Prop where
 fn : ∀f rf,T.fn f=some rf->aab P f rf
 loop : ∀key ps lg body,T.loop key=some (ps,lg,body)->aac P key ps lg body
 ext:HS P B T.xt
theorem aP.ah1{β:Nat->aA}{H:CH}{w:ay}(h:aP P B β H w){D:Nat}{o o':Obj}(i:w.heap[D]? = some o)(hk:(∀cs e f,o≠ .cells cs e f)/\(∀es c,o≠ .map es c)/\(∀r,o≠ .loop r)/\(∀s p,o≠ .stringIter s p)/\∀a b c d,o≠ .mapIter a b c d):aP P B β H (w.putObj D o'):=by
 refine⟨λl=>(h.iV l).mono (eS.refl β) λb hb=>Ss ?_,h.nx,h.inj,by simpa using h.base,h.ro⟩;rintro rfl;rcases hb with ⟨z,sz,n,kd,hb⟩ | hb | hb
 ·obtain⟨cs,e,_,cs',e',iX,g,_⟩:=h.live hb;rw[i] at g;cases g;exact hk.1 _ _ _ rfl
 ·have:=h.iV l;rw[hb] at this;cases ho:H.ob l with
  | map es c=>rw[ho] at this;obtain⟨_,j,g,_⟩:=this;rw[i] at g;cases g;exact hk.2.1 _ _ rfl
  | xj q t=>rw[ho] at this;have g:=this.2;rw[i] at g;cases g;exact hk.2.2.2.1 _ _ rfl
  | fm u kk=>rw[ho] at this;obtain⟨_,_,_,g,_⟩:=this;rw[i] at g;cases g;exact hk.2.1 _ _ rfl
  | Ag v=>rw[ho] at this;obtain⟨_,_,_,_,_,_,g⟩:=this;rw[i] at g;cases g;exact hk.2.2.2.2 _ _ _ _ rfl
  | _=>rw[ho] at this;exact this.elim
 obtain⟨_,_,_,_,_,_,r,_,g,_⟩:=h.loop hb;rw[i] at g;cases g;exact hk.2.2.1 _ rfl
theorem aad{fn:Func}{tmps:Array ae}{R:Ending->ay->Prop}{B1:Nat}{β0 β:Nat->aA}{w0:ay}{H:CH} : ∀(ms:List Nat) (w:ay),aP P B β H w->cd β0 w0 β w->w0.heap.size<=B1->ms.Nodup->(∀D∈ms,B1<=D/\w.heap[D]? = some (.deferred (some [])))->
 (∀w',aP P B β H w'->cd β0 w0 β w'->∃v,(results fn tmps).run P w'= .ok v w'/\R (.returned v) w')->LeavesInM sB 0 P fn tmps R (ms.map Z8) .returning w
 | [],w,c,hE,g,hn,e,f=>f w c hE
 | D::ms,w,c,hE,g,hn,e,f=>by
   obtain⟨h1,h2⟩:=e D (lA ..);have q:=(Array.getElem?_eq_some_iff.1 h2).1;refine⟨Sm, .inl ⟨D,w.putObj D (.deferred none),rfl,run_takeDeferred h2,?_⟩⟩;refine aad ms _ (c.ah1 (o':= .deferred none) h2 ⟨λ_ _ _=>by simp,λ_ _=>by simp,λ_=>by simp,λ_ _=>by simp,λ_ _ _ _=>by simp⟩) ?_ g (List.nodup_cons.1 hn).2 (λj i=> ?_) f
   ·exact⟨hE.os,hE.tape,hE.output,by simpa using hE.size,λb hb ho=>by
     obtain⟨n,o⟩:=hE.dk b hb ho;exact⟨(Ss Om).trans n,o⟩,hE.ext⟩
   obtain⟨g1,g2⟩:=e j (jJ _ i);refine⟨g1,(Ss ?_).trans g2⟩;rintro rfl;exact(List.nodup_cons.1 hn).1 i
theorem aae{β:Nat->aA}{N:Nat} : ∀ {ps:List Nat} {args c:List ae} {fr:Fr} {tmps:Array ae},(∀p∈ps,p<N)->aT β args c->FR β N fr { tmps:=tmps,defers:= [] }->FR β N (Cs fr ps args) { tmps:=(ps.zip c).foldl (λt p=>t.setIfInBounds p.1 p.2) tmps,defers:= [] }
 | [],args,c,fr,tmps,hp,ha,e=>by simpa[Cs] using e
 | p::ps,[],c,fr,tmps,hp,ha,e=>by
   have:c= []:=List.length_eq_zero_iff.1 (by simpa using ha.1.symm);subst this;simpa[Cs] using e
 | p::ps,v::args,[],fr,tmps,hp,ha,e=>absurd ha.1 Sm
 | p::ps,v::args,v'::c,fr,tmps,hp,ha,e=>by
   have f:VR β v v':=by
    obtain⟨u,h1,h2⟩:=ha.2 0 v rfl;simp at h1;subst h1;exact h2
   have hs:aT β args c:=⟨by simpa using ha.1,λi v hv=>by simpa using ha.2 (i+1) v (by simpa using hv)⟩;have g:=e.put (d:=some p) (λx hx=>by cases hx;exact hp p (lA ..)) f;have:=aae (ps:=ps) (λq j=>hp q (jJ _ j)) hs (fr:=bO fr (some p) v) (tmps:=tmps.setIfInBounds p v') (by simpa[Act.put] using g);simpa[Cs] using this
theorem Tt{T:cw}(hT:ww P B T) : ∀n,HS P B (dH T n)
 | 0=>⟨λf args H v H' h=>by simp[dH] at h,λl args H v H' h=>by simp[dH] at h⟩
 | n+1=>⟨λf args H v H' h=>(by
   have I:=Tt hT n;simp only[dH] at h;split at h;·exact hT.ext.1 f args H v H' h
   ·split at h
    ·rename_i rf yJ;have rD:=hT.fn f rf yJ;obtain⟨fn,c,uE,U,wx,V,xx⟩:=rD.ok;refine .inl ⟨rD.call,fun β w g J j=> ?_⟩;refine callsIn_of_wp_marks uE U trivial ?_ rfl;have W:FR β rf.ntmps (λt=>args.getD t undef) { tmps:=g.toArray++Array.replicate (fn.ntmps-g.toArray.size) undef,defers:= [] }:=by
      refine⟨Sq,λt=> ?_⟩;simp only[List.getD,sC];by_cases ht:t<g.length
      ·have L:t<args.length:=by have:=j.1;omega
       obtain⟨v',h1,h2⟩:=j.2 t args[t] (by simp[L]);rw[Array.getElem?_append_left (by simpa using ht)];simp only[List.getElem?_toArray,h1,tt,cj L];exact h2
      have L:args.length<=t:=by have:=j.1;omega
      rw[List.getElem?_eq_none L];exact .undef _
     have fin : ∀(x:bp) (fr':Fr) (K:CH),(x= .normal\/x= .ret)->bE (dH T n) n rf.body (λt=>args.getD t undef) H=some (x,fr',K)->(cY fr' K rf.res).map (λvs=>(dU vs,K))=some (v,H')->
      c.wpIn sB 0 P (bodyPostM sB 0 P fn λe w'=>∃v' β',e= .returned v'/\VR β' v v'/\aP P B β' H' w'/\cd β w β' w') { tmps:=g.toArray++Array.replicate (fn.ntmps-g.toArray.size) undef,defers:= [] } w:=by
      intro x fr' K hx y z;cases X:cY fr' K rf.res with
      | none=>rw[X] at z;cases z
      | some vs=>
        rw[X] at z;simp only[dC,Option.some.injEq,Prod.mk.injEq] at z;obtain⟨rfl,rfl⟩:=z;refine Tp (ro:=none) (B1:=w.heap.size) I V β _ fr' H K _ w x _ J W (λb hb=>by cases hb) (DM.none (D0:= []) rfl) (ai _) y fun β' w' a' O Q Y Z=> ?_;obtain⟨ms,m1,m2,m3⟩:=Z;have J':LeavesInM sB 0 P fn a'.tmps (λe w'=>∃v' β',e= .returned v'/\VR β' (dU vs) v'/\aP P B β' K w'/\cd β w β' w') a'.defers .returning w':=by
         rw[m1,List.append_nil];refine aad ms w' O Q (ai _) m2 (λD hD=>⟨(m3 D hD).1,(m3 D hD).2.1⟩) λw2 we pM=> ?_;obtain⟨v',r1,r2⟩:=ah0 we Y xx X;exact⟨v',r1,v',β',rfl,r2,we,pM⟩
        rcases hx with rfl | rfl
        ·exact J'
        exact J'
     split at h;·rename_i fr' K y;exact fin .normal fr' K (.inl rfl) y h
     ·rename_i fr' K y;exact fin .ret fr' K (.inr rfl) y h
     cases h
    cases h),λl args H v H' h β w b g J hl j=>by
   have I:=Tt hT n;obtain⟨st,gv,fr,key,ho,_,r,N,r1,r2,r3,r4,r5,r6⟩:=J.loop hl;simp only[dH,ho] at h;split at h
   ·rename_i arc am ah3 G9;cases G9;split at h
    ·rename_i ps lg body G';split at h
     ·rename_i A;obtain⟨N',ca,cb,hk,Ha,yK,jM⟩:=(hT.loop _ _ _ _ G').ok;rw[r4] at hk;simp only[Option.some.injEq,Prod.mk.injEq] at hk;obtain⟨hN,k1,k2,k3⟩:=hk;subst hN;have eN:g.toArray.size=r.params.size:=by rw[k1];simp;rw[<-A,j.1]
      refine⟨r.fn,_,r.assign,r.body,run_yield r1 eN,roundIn_of_wpIn trivial ?_⟩;have ah4:(r.params.zip g.toArray).foldl (λtmps (t,a)=>tmps.setIfInBounds t a) r.tmps=(ps.zip g).foldl (λt p=>t.setIfInBounds p.1 p.2) r.tmps:=by
       rw[k1,<-Array.foldl_toList];simp
      rw[ah4];have W:=aae (ps:=ps) jM j (fr:=fr) (tmps:=r.tmps) ⟨r5,r6⟩;have ah5:J8 β (some b):=λb' hO=>by cases hO;exact⟨l,hl⟩
      split at h
      ·rename_i bt H2 ah6;split at h
       ·rename_i Ke fP AA kK;rw[k2];refine Tp (ro:=some b) (B1:=0) I Ha β _ bt H H2 _ w .normal _ J W ah5 (DM.none (D0:= []) rfl) (Nat.zero_le _) ah6 fun β2 w2 a2 O Q Y Z=> ?_;have o:β2 l= .loop b:=by
         rcases Q.ext l with q | q | ⟨_,_,_,_,q,_⟩
         ·rw[q,hl]
         ·rw[hl] at q;cases q
         rw[hl] at q;cases q
        obtain⟨_,_,_,_,C,_,s,M,s1,s2,s3,s4,s5,s6⟩:=O.loop o;rw[kK] at C;cases C;obtain⟨z1,z2⟩:=O.To o (st:= .busy) (gv:=Ke) (fr:=fP) (key:=AA) (r:= { s with state:= .busy }) (N:=M) rfl s3 s4 s5 s6;refine⟨_,run_beginRound s1 s2,?_⟩;rw[k3];split at h
        ·rename_i x yL H4 U;refine Tp (ro:=some b) (B1:=0) I yK β2 _ yL _ H4 _ _ x _ z1 (Y.mono z2.ext) (λb' hO=>by cases hO;exact⟨l,o⟩) (Z.ou z2 rfl) (Nat.zero_le _) U fun β4 w4 a4 p1 p2 p3 p4=> ?_;have Cu:β4 l= .loop b:=by
          rcases p2.ext l with q | q | ⟨_,_,_,_,q,_⟩
          ·rw[q,o]
          ·rw[o] at q;cases q
          rw[o] at q;cases q
         split at h
         ·rename_i st5 ard rI G7 ho4;cases h;obtain⟨_,_,_,_,F,_,u,M',u1,u2,u3,u4,u5,u6⟩:=p1.loop Cu;rw[ho4] at F;cases F;have fin : ∀jump:Option iR,(tL x).map SH=jump->∃v' w',(Instr.endRound b jump).run P w4= .ok v' w'/\∃OL β',Ending.returned v'= .returned OL/\VR β' (.bool (tL x).isNone) OL/\aP P B β' (H4.set l (.loop (if (tL x).isNone then .ready else .done) (tL x) rI G7)) w'/\cd β w β' w':=by
           intro jump hj;have G:jump.isNone=(tL x).isNone:=by rw[<-hj];cases tL x<;>rfl
           obtain⟨y1,y2⟩:=p1.To Cu (st:=if (tL x).isNone then .ready else .done) (gv:=tL x) (fr:=rI) (key:=G7) (r:= { u with state:=if jump.isNone then .ready else .done,pending:=jump }) (N:=M') (by rw[G]) hj.symm u4 u5 u6;exact⟨_,_,run_endRound jump u1,_,β4,rfl,by rw[G];exact .bool _,y1,Q.trans (z2.trans (p2.trans y2))⟩
          cases x with
          | normal=>exact fin none rfl
          | ret=>exact fin (some .ret) rfl
          | exit i=>exact fin (some (.exit i)) rfl
         cases h
        cases h
       cases h
      cases h
     cases h
    cases h
   cases h⟩
theorem Eu{T:cw}(hT:ww P B T){n:Nat}{f:aS}{args:List ae}{H H':CH}{v:ae}(h:uQ T n f args H=some (v,H')){β:Nat->aA}{w:ay}{c:List ae}(g:aP P B β H w)(ha:aT β args c)(hc:pP P f=true) :
 Calls P f c.toArray w λe w'=>∃v' β',e= .returned v'/\VR β' v v'/\aP P B β' H' w'/\cd β w β' w':=
 callsIn_wide.1 (((Tt hT n).1 f args H v H' h).resolve_right (λhx=>by
  obtain⟨v',_,i⟩:=hx.1.2 β c ha;have h1:=i w;rw[J3 hc] at h1;cases h1) |>.2 β w c g ha)
end
section
open Go Go.RowKit
variable {P:aX} {B:Nat}
def tM (P:aX)(t:aI):Option Nat:=(P.info? t).map (·.size)
def Ew:List (Option Nat)->Option (List Nat)
 | []=>some []
 | some x::r=>(Ew r).map (x:: ·)
 | none::_=>none
theorem aah : ∀ {l:List (Option Nat)} {r:List Nat},Ew l=some r->l=r.map some
 | [],r,h=>by simp[Ew] at h;subst h;rfl
 | some x::l,r,h=>by
   simp only[Ew] at h;cases hl:Ew l with
   | none=>rw[hl] at h;cases h
   | some q=>rw[hl] at h;cases h;simp[aah hl]
 | none::l,r,h=>by simp[Ew] at h
def isC:av->Bool
 | .const _=>true
 | _=>false
def Tw(P:aX)(c:Call):Option gB:=
 match c.callee with
 | .value (.func f)=>some (.call f c.args.toList)
 | .value (.tmp t)=>some (.pg (.tmp t) c.args.toList)
 | .builtin .len=>match c.args.toList,c.argTypes.toList with
   | [x],[t]=>match P.underlying t with
     | some (.slice _)=>some (.p (.len x))
     | some .string=>some (.p (.lens x))
     | _=>none
   | _,_=>none
 | .builtin .append=>match c.args.toList,c.argTypes.toList with
   | [s,x],[t,u]=>match P.underlying t,P.underlying u with
     | some (.slice e),some (.slice e')=>match P.info? e with
       | some i=>match i.zero with
         | some z=>if e'=e/\z.cells.size=i.size/\0<i.size then some (.w (.app e i.size i.bytes s x)) else none
         | none=>none
       | none=>none
     | some (.slice e),some .string=>match P.info? e with
       | some i=>match i.zero with
         | some z=>if z.cells.size=i.size/\0<i.size then some (.w (.app e i.size i.bytes s x)) else none
         | none=>none
       | none=>none
     | _,_=>none
   | _,_=>none
 | .builtin .unsafeSliceData=>match c.args.toList,c.argTypes.toList with
   | [x],[_]=>some (.p (.Jx x))
   | _,_=>none
 | .builtin .unsafeString=>match c.args.toList,c.argTypes.toList with
   | [p,n],[g,_]=>match P.underlying g with
     | some (.pointer e)=>if P.cellsOf e=1 then some (.w (.JK e p n)) else none
     | _=>none
   | _,_=>none
 | .builtin .max=>match c.args.toList with
   | [x,y]=>some (.p (.mx true x y))
   | _=>none
 | .builtin .min=>match c.args.toList with
   | [x,y]=>some (.p (.mx false x y))
   | _=>none
 | .builtin .delete=>match c.args.toList,c.argTypes.toList with
   | [x,k],[t,_]=>match P.underlying t with
     | some (.map j _)=>match P.underlying j with
       | some d=>match wj d with
         | some kk=>some (.w (.del kk x k))
         | none=>none
       | none=>none
     | _=>none
   | _,_=>none
 | .builtin .copy=>match c.args.toList,c.argTypes.toList with
   | [d,s],[t,_]=>match P.underlying t with
     | some (.slice e)=>match tM P e with
       | some sz=>some (.w (.JD sz d s))
       | none=>none
     | _=>none
   | _,_=>none
 | _=>none
def lU(P:aX):Op->Option gB
 | .move x=>some (.p (.vX x))
 | .assign x=>some (.p (.vX x))
 | .pick c a b=>some (.p (.pick c a b))
 | .box e x=>match tM P e with
   | some _=>some (.a (.box e x))
   | none=>none
 | .alloc e=>match P.info? e with
   | some i=>match i.zero with
     | some z=>if En z.cells.toList=true then some (.a (.new e z.cells.toList)) else none
     | none=>none
   | none=>none
 | .build t ps=>match P.underlying t,P.info? t with
   | some (.struct fs),some i=>match i.zero with
     | some (.agg z)=>match Ew (fs.toList.map λf=>tM P f.type) with
       | some o=>if En z.toList=true/\(ps.toList.all λp=>decide (p.1<fs.size))=true then
          some (.p (.Ah z.toList (ps.toList.filterMap λp=>((fs.toList.map (·.offset)).zip o)[p.1]?.map λq=>(q.1,q.2,p.2)))) else none
       | none=>none
     | _=>none
   | some (.array n e),some i=>match i.zero,tM P e with
     | some (.agg z),some sz=>if En z.toList=true then some (.p (.Ah z.toList (ps.toList.map λp=>(p.1*sz,sz,p.2)))) else none
     | _,_=>none
   | _,_=>none
 | .field st x f=>match P.underlying st with
   | some (.struct fs)=>match fs[f]? with
     | some kG=>match P.underlying kG.type,tM P kG.type with
       | some d,some n=>some (.p (.kG x kG.offset (if Aj d then some n else none)))
       | _,_=>none
     | none=>none
   | _=>none
 | .buildSlice t n ps=>match P.underlying t with
   | some (.slice e)=>match P.info? e with
     | some i=>match i.zero with
       | some z=>if En z.cells.toList=true/\0<z.cells.size then some (.a (.Ao e i.size n z.cells.toList ps.toList)) else none
       | none=>none
     | none=>none
   | _=>none
 | .load t x=>match P.underlying t with
   | some d=>if Aj d then match tM P t with
      | some n=>some (.l (.kZ n x))
      | none=>none
     else some (.l (.ld x))
   | none=>none
 | .store t x v=>match tM P t with
   | some n=>some (.w (.st n x v))
   | none=>none
 | .nilCheck x=>some (.p (.D8 x))
 | .binOp op t x y _=>match P.underlying t with
   | some .bool=>match op with
     | .eql=>some (.p (.D6 false x y))
     | .neq=>some (.p (.D6 true x y))
     | _=>none
   | some (.pointer e)=>match op,isC x||isC y with
     | .eql,true=>some (.p (.yA false x y))
     | .neq,true=>some (.p (.yA true x y))
     | .eql,false=>match P.info? e with
       | some j=>if j.size≠0 then some (.l (.Ed false x y)) else some (.p (.yA false x y))
       | none=>some (.p (.yA false x y))
     | .neq,false=>match P.info? e with
       | some j=>if j.size≠0 then some (.l (.Ed true x y)) else some (.p (.yA true x y))
       | none=>some (.p (.yA true x y))
     | _,_=>none
   | some (.slice _)=>match op with
     | .eql=>some (.p (.eqs false x y))
     | .neq=>some (.p (.eqs true x y))
     | _=>none
   | some (.struct _)=>match op with
     | .eql=>some (.p (.GC false (@Ok P t) (@JA P t) x y))
     | .neq=>some (.p (.GC true (@Ok P t) (@JA P t) x y))
     | _=>none
   | some _=>some (.p (.bin op x y))
   | none=>none
 | .unOp op _ x=>some (.p (.un op x))
 | .convert s t x=>match P.underlying s,P.underlying t with
   | some _,some (.int k)=>some (.p (.conv k x))
   | some .string,some .string=>some (.p (.GD x))
   | some (.slice e),some .string=>match P.underlying e with
     | some (.int .u8)=>some (.l (.b2s x))
     | _=>none
   | some .string,some (.slice e)=>match P.underlying e,P.info? e with
     | some (.int .u8),some i=>if i.size=1 then some (.w (.s2b e i.bytes x)) else none
     | _,_=>none
   | some (.slice e),some (.slice _)=>match P.underlying e with
     | some (.int .u8)=>if s=t then some (.w (.iX x)) else none
     | _=>none
   | some (.pointer u),some .unsafePointer=>match P.info? u with
     | some j=>if j.size≠0 then some (.l (.Cm ZZ x)) else none
     | none=>none
   | some .unsafePointer,some (.pointer u)=>match P.info? u with
     | some _=>some (.l (.Cm (Th (P:=P) u) x))
     | none=>none
   | _,_=>none
 | .makeMap t r=>if r.isNone then some (.w .JE) else none
 | .insert t m k x | .mapUpdate t m k x=>match P.underlying t with
   | some (.map g _)=>match P.underlying g with
     | some d=>match wj d with
       | some kk=>some (.w (.JG kk m k x))
       | none=>none
     | none=>none
   | _=>none
 | .lookup t x i ok=>match P.underlying t with
   | some (.map g A)=>match P.underlying g,P.info? A with
     | some d,some inf=>match wj d,inf.zero with
       | some kk,some z=>if wk z=true then some (.l (.GL kk z ok x i)) else none
       | _,_=>none
     | _,_=>none
   | _=>none
 | .range t x=>match P.underlying t with
   | some .string=>some (.w (.JH x))
   | some (.map _ _)=>some (.w (.JI x))
   | _=>none
 | .next it s=>if s=true then some (.w (.Aq it)) else some (.w (.JJ it))
 | .makeFunc (.func f) first dF=>if first.toList.isEmpty then some (.p (.fn f dF.toList)) else none
 | .makeSlice t l c=>match P.underlying t with
   | some (.slice e)=>match P.info? e with
     | some i=>match i.zero with
       | some z=>if En z.cells.toList=true/\0<z.cells.size then some (.a (.cI e i.size i.bytes z.cells.toList l c)) else none
       | none=>none
     | none=>none
   | _=>none
 | .slice t x lo hi mx=>match P.underlying t with
   | some (.slice e)=>match tM P e with
     | some sz=>some (.l (.Cl e sz x lo hi mx))
     | none=>none
   | some .string=>if mx.isNone then some (.p (.D7 x lo hi)) else none
   | _=>none
 | .fieldAddr s x f=>match P.underlying s with
   | some (.struct fs)=>match fs[f]? with
     | some kG=>match tM P kG.type with
       | some sz=>if sz≠0 then some (.p (.off x kG.offset)) else none
       | none=>none
     | none=>none
   | _=>none
 | .indexAddr t x i=>match P.underlying t with
   | some (.slice e)=>match tM P e with
     | some sz=>some (.p (.idx x i sz))
     | none=>none
   | some (.array n e)=>match tM P e with
     | some sz=>some (.p (.Jw x i n sz))
     | none=>none
   | _=>none
 | .index t x i=>match P.underlying t with
   | some .string=>some (.p (.GF x i))
   | some (.array n e)=>match P.underlying e,tM P e with
     | some d,some sz=>some (.p (.Jy x i n sz (Aj d)))
     | _,_=>none
   | _=>none
 | .extract x i=>some (.p (.ext x i))
 | .call c=>Tw P c
 | _=>none
theorem OM{α:Type}{a:Array α}{x:α}(h:a.toList= [x]):a= #[x]:=by apply tv;simpa using h
theorem yM{α:Type}{a:Array α}{x y:α}(h:a.toList= [x,y]):a= #[x,y]:=by apply tv;simpa using h
theorem ah7{c:Call}{r:gB}(h:Tw P c=some r):Ax P (.call c) r:=by
 obtain⟨callee,args,ts⟩:=c;unfold Tw at h;simp only at h;split at h;·cases h;exact .call rfl
 ·cases h;exact .pg rfl
 ·split at h
  ·rename_i x t ha ht;rw[OM ha,OM ht];split at h;·rename_i hu;cases h;exact .p (agT hu)
   ·rename_i hu;cases h;exact .p (agU hu)
   cases h
  cases h
 ·split at h
  ·rename_i s x t u ha ht;rw[yM ha,yM ht];split at h
   ·rename_i e e' hu f;split at h
    ·rename_i i hi;split at h
     ·rename_i z hz;split at h;·rename_i g;obtain⟨rfl,g2,g3⟩:=g;cases h;exact .w (ZL hu (.inl f) (by simp[hi,hz]) g2 g3)
      cases h
     cases h
    cases h
   ·rename_i e hu f;split at h
    ·rename_i i hi;split at h
     ·rename_i z hz;split at h;·rename_i g;cases h;exact .w (ZL hu (.inr f) (by simp[hi,hz]) g.1 g.2)
      cases h
     cases h
    cases h
   cases h
  cases h
 ·split at h;·rename_i x t ha ht;rw[OM ha,OM ht];cases h;exact .p agO
  cases h
 ·split at h
  ·rename_i p n j it ha ht;rw[yM ha,yM ht];split at h
   ·rename_i e hu;split at h;·rename_i hc;cases h;exact .w (ahL hu hc)
    cases h
   cases h
  cases h
 ·split at h;·rename_i x y ha;rw[yM ha];cases h;exact .p (Zu (b:=true))
  cases h
 ·split at h;·rename_i x y ha;rw[yM ha];cases h;exact .p (Zu (b:=false))
  cases h
 ·split at h
  ·rename_i x k t u ha ht;rw[yM ha,yM ht];split at h
   ·rename_i o q hu;split at h
    ·rename_i d hd;split at h;·rename_i kk hk;cases h;exact .w (ahv hu hd hk)
     cases h
    cases h
   cases h
  cases h
 ·split at h
  ·rename_i d s t u ha ht;rw[yM ha,yM ht];split at h
   ·rename_i e hu;split at h;·rename_i sz hs;cases h;exact .w (ahm hu hs)
    cases h
   cases h
  cases h
 cases h
theorem aai{op:Op}{r:gB}(h:lU P op=some r):Ax P op r:=by
 cases op with
 | move x=>cases h;exact .p agv
 | assign x=>cases h;exact .p agw
 | pick c a b=>cases h;exact .p agx
 | box e x=>
   simp only[lU] at h;split at h;·rename_i sz hs;cases h;exact .a (ag7 hs)
   cases h
 | alloc e=>
   simp only[lU] at h;split at h
   ·rename_i i hi;split at h
    ·rename_i z hz;split at h;·rename_i hc;cases h;exact .a (ag8 (sz:=i.size) (by simp[hi]) (by simp[hi,hz]) (G1 hc))
     cases h
    cases h
   cases h
 | build t ps=>
   simp only[lU] at h;split at h
   ·rename_i fs i hu hi;split at h
    ·rename_i z hz;split at h
     ·rename_i D hs;split at h
      ·rename_i g;cases h;refine .p (ag5 hu (by simp[hi,hz]) (G1 g.1) D ?_ λp hp=> ?_);·exact aah hs
       exact of_decide_eq_true (List.all_eq_true.1 g.2 p hp)
      cases h
     cases h
    cases h
   ·rename_i n e i hu hi;split at h
    ·rename_i z sz hz hs;split at h;·rename_i g;cases h;exact .p (ag6 hu hs (by simp[hi,hz]) (G1 g))
     cases h
    cases h
   cases h
 | field st x f=>
   simp only[lU] at h;split at h
   ·rename_i fs hu;split at h
    ·rename_i kG q;split at h;·rename_i d n hd hn;cases h;exact .p (agZ hu q hd rfl hn)
     cases h
    cases h
   cases h
 | buildSlice t n ps=>
   simp only[lU] at h;split at h
   ·rename_i e hu;split at h
    ·rename_i i hi;split at h
     ·rename_i z hz;split at h;·rename_i g;cases h;exact .a (ag9 hu (by simp[hi]) (by simp[hi,hz]) (G1 g.1) g.2)
      cases h
     cases h
    cases h
   cases h
 | load t x=>
   simp only[lU] at h;split at h
   ·rename_i d hd;split at h
    ·rename_i ha;split at h;·rename_i n hn;cases h;exact .l (Zw hd (by cases d<;>first | rfl | cases ha) hn)
     cases h
    rename_i ha;cases h;exact .l (ag2 hd (by cases d<;>first | rfl | exact absurd rfl ha))
   cases h
 | store t x v=>
   simp only[lU] at h;split at h;·rename_i n hn;cases h;exact .w (ahc hn)
   cases h
 | nilCheck x=>cases h;exact .p agN
 | binOp op t x y u=>
   simp only[lU] at h;split at h
   ·rename_i hu;split at h;·cases h;exact .p (Zk (neg:=false) hu)
    ·cases h;exact .p (Zk (neg:=true) hu)
    cases h
   ·rename_i hu;split at h;·cases h;exact .p (D9 (neg:=false) hu)
    ·cases h;exact .p (D9 (neg:=true) hu)
    ·split at h
     ·rename_i j o;split at h;·rename_i hz;cases h;exact .l (Z0 (neg:=false) hu o hz)
      cases h;exact .p (D9 (neg:=false) hu)
     cases h;exact .p (D9 (neg:=false) hu)
    ·split at h
     ·rename_i j o;split at h;·rename_i hz;cases h;exact .l (Z0 (neg:=true) hu o hz)
      cases h;exact .p (D9 (neg:=true) hu)
     cases h;exact .p (D9 (neg:=true) hu)
    cases h
   ·rename_i hu;split at h;·cases h;exact .p (Zm (neg:=false) hu)
    ·cases h;exact .p (Zm (neg:=true) hu)
    cases h
   ·rename_i fs hu;split at h;·cases h;exact .p (Zp (neg:=false) hu)
    ·cases h;exact .p (Zp (neg:=true) hu)
    cases h
   ·cases h;exact .p agA
   cases h
 | unOp op t x=>cases h;exact .p agC
 | convert s t x=>
   simp only[lU] at h;split at h;·rename_i d k hs ht;cases h;exact .p (agD hs ht)
   ·rename_i hs ht;cases h;exact .p (agF hs ht)
   ·rename_i e hs ht;split at h;·rename_i he;cases h;exact .l (ahA hs ht he)
    cases h
   ·rename_i e hs ht;split at h
    ·rename_i i he hi;split at h;·rename_i h1;cases h;exact .w (ahz hs ht he (by simp[hi,h1]))
     cases h
    cases h
   ·rename_i e e' hs ht;split at h
    ·rename_i he;split at h;·rename_i F;subst F;cases h;exact .w (ahC hs he)
     cases h
    cases h
   ·rename_i u hs ht;split at h
    ·rename_i j o;split at h;·rename_i hz;cases h;exact .l (ahI hs ht o hz)
     cases h
    cases h
   ·rename_i u hs ht;split at h;·rename_i j o;cases h;exact .l (ahJ hs ht o)
    cases h
   cases h
 | makeMap t r=>
   simp only[lU] at h;split at h;·rename_i G;cases h;exact .w (ahp (by simpa using G))
   cases h
 | insert t m k x=>
   simp only[lU] at h;split at h
   ·rename_i A C hu;split at h
    ·rename_i d hd;split at h;·rename_i kk hk;cases h;exact .w (ZV (.inr rfl) hu hd hk)
     cases h
    cases h
   cases h
 | mapUpdate t m k x=>
   simp only[lU] at h;split at h
   ·rename_i A C hu;split at h
    ·rename_i d hd;split at h;·rename_i kk hk;cases h;exact .w (ZV (.inl rfl) hu hd hk)
     cases h
    cases h
   cases h
 | lookup t x i ok=>
   simp only[lU] at h;split at h
   ·rename_i A C hu;split at h
    ·rename_i d inf hd hi;split at h
     ·rename_i kk z hk hz;split at h;·rename_i hc;cases h;exact .l (aho hu hd hk hi hz (J2 hc))
      cases h
     cases h
    cases h
   cases h
 | range t x=>
   simp only[lU] at h;split at h;·rename_i hu;cases h;exact .w (ahw hu)
   ·rename_i hu;cases h;exact .w (aht hu)
   cases h
 | next it s=>
   simp only[lU] at h;split at h;·rename_i hs;subst hs;cases h;exact .w ahx
   rename_i hs;have I:s=false:=by simpa using hs
   subst I;cases h;exact .w ahu
 | makeFunc fn first dF=>
   cases fn with
   | func f=>
     simp only[lU] at h;split at h
     ·rename_i he;cases h;have:first= #[]:=by apply tv;simpa using he
      subst this;exact .p agP
     cases h
   | _=>cases h
 | makeSlice t l c=>
   simp only[lU] at h;split at h
   ·rename_i e hu;split at h
    ·rename_i i hi;split at h
     ·rename_i z hz;split at h;·rename_i g;cases h;exact .a (ahb hu (by simp[hi]) (by simp[hi,hz]) (G1 g.1) g.2)
      cases h
     cases h
    cases h
   cases h
 | slice t x lo hi mx=>
   simp only[lU] at h;split at h
   ·rename_i e hu;split at h;·rename_i sz hs;cases h;exact .l (ag3 hu hs)
    cases h
   ·rename_i hu;split at h
    ·rename_i J;cases h;cases mx with
     | none=>exact .p (agW hu)
     | some m=>cases J
    cases h
   cases h
 | fieldAddr s x f=>
   simp only[lU] at h;split at h
   ·rename_i fs hu;split at h
    ·rename_i kG q;split at h
     ·rename_i sz hs;split at h;·rename_i L;cases h;exact .p (agG hu q hs L)
      cases h
     cases h
    cases h
   cases h
 | indexAddr t x i=>
   simp only[lU] at h;split at h
   ·rename_i e hu;split at h;·rename_i sz hs;cases h;exact .p (agH hu hs)
    cases h
   ·rename_i n e hu;split at h;·rename_i sz hs;cases h;exact .p (agI hu hs)
    cases h
   cases h
 | index t x i=>
   simp only[lU] at h;split at h;·rename_i hu;cases h;exact .p (agJ hu)
   ·rename_i n e hu;split at h;·rename_i d sz hd hs;cases h;exact .p (ag0 hu hd rfl hs)
    cases h
   cases h
 | extract x i=>cases h;exact .p agM
 | call c=>exact ah7 h
 | _=>cases h
end
section
open Go Go.RowKit
variable {P:aX} {B:Nat}
def ah8:Op->Bool
 | .defer _=>true
 | _=>false
def aaj(N:Nat):Option Nat->Bool
 | some d=>decide (d<N)
 | none=>true
def Tz(P:aX)(N:Nat)(ops:Array dj)(o:dj):Option Item:=
 match lU P o.op with
 | some r=>
   if aaj N o.dst&&o.op.operands.toList.all Cq && !ah8 o.op then
    match o.guard with
    | none=>some ⟨o.dst,r,none⟩
    | some (j,b)=>match (ops[j]?).bind (·.dst) with
      | some s=>if s<N then some ⟨o.dst,r,some (s,b)⟩ else none
      | none=>none
   else none
 | none=>none
theorem ah9{N:Nat}{ops:Array dj}{o:dj}{it:Item}(h:Tz P N ops o=some it):yF P N ops o it:=by
 unfold Tz at h;split at h
 ·rename_i r g;split at h
  ·rename_i hg;simp only[fV,zT] at hg;obtain⟨⟨g1,g2⟩,g3⟩:=hg;have i : ∀d,o.dst=some d->d<N:=λd hd=>by rw[hd] at g1;simpa[aaj] using g1
   have n : ∀x∈o.op.operands,Cq x=true:=λx hx=>List.all_eq_true.1 g2 x (by simpa using hx);have p : ∀c,o.op≠ .defer c:=λc e=>by rw[e] at g3;cases g3
   split at h;·rename_i f;cases h;exact⟨rfl,i,aai g,n,p, .inl ⟨f,rfl⟩⟩
   rename_i j b f;split at h
   ·rename_i s hs;split at h;·rename_i q;cases h;exact⟨rfl,i,aai g,n,p, .inr ⟨j,b,s,f,rfl,hs,q⟩⟩
    cases h
   cases h
  cases h
 cases h
def Ey(P:aX)(N:Nat)(ops:Array dj):List dj->Option (List Item)
 | []=>some []
 | o::r=>match Tz P N ops o,Ey P N ops r with
   | some it,some af=>some (it::af)
   | _,_=>none
theorem TG{N:Nat}{ops:Array dj} : ∀ {l:List dj} {af:List Item},Ey P N ops l=some af->af.length=l.length/\∀i (h1:i<af.length) (h2:i<l.length),yF P N ops l[i] af[i]
 | [],af,h=>by simp[Ey] at h;subst h;exact⟨rfl,λi h1=>absurd h1 Sm⟩
 | o::l,af,h=>by
   simp only[Ey] at h;split at h
   ·rename_i it c h1 h2;cases h;obtain⟨g1,g2⟩:=TG h2;refine⟨by simp[g1],λi hi e=> ?_⟩;cases i with
    | zero=>exact ah9 h1
    | succ i=>simpa using g2 i (by simpa using hi) (by simpa using e)
   cases h
def kL(P:aX)(N:Nat)(rd:Array dj->Option jB)(f:Nat):Nat->iR->Option bQ
 | _, .skip=>some .skip
 | _, .label _=>some .skip
 | _, .region _ ops false=>match Ey P N ops ops.toList with
   | some af=>some (.mI af)
   | none=>some .bad
 | _, .region _ ops true=>match rd ops with
   | some d=>some (.mJ d)
   | none=>some .bad
 | k, .seq a b=>match kL P N rd f k a,kL P N rd f (k+(mG a).length) b with
   | some x,some y=>some (.seq x y)
   | _,_=>none
 | k, .cond c a b=>if Cq c then match kL P N rd f k a,kL P N rd f (k+(mG a).length) b with
    | some x,some y=>some (.cond c x y)
    | _,_=>none
   else some .bad
 | k, .block id c=>(kL P N rd f k c).map (.block id)
 | k, .loop c=>(kL P N rd f k c).map .loop
 | k, .scope c=>kL P N rd f k c
 | _, .exit id=>some (.exit id)
 | _, .ret=>some .ret
 | k, .rangeFunc g _ _ _=>if Cq g then some (.sN g (f,k)) else some .bad
 | _,_=>some .bad
theorem TH{N f:Nat}{rd:Array dj->Option jB}(u : ∀ops d,rd ops=some d->Eo P N ops d/\Er P N ops d) : ∀ {c:iR} {k:Nat} {r:bQ},(∀j x,(mG c)[j]? = some x->keyOf P (f,k+j)=some (N,x))->kL P N rd f k c=some r->lh P N c r:=by
 intro c;induction c with
 | skip=>intro k r hk h;simp only[kL] at h;cases h;exact .skip
 | label l=>intro k r hk h;simp only[kL] at h;cases h;exact .label
 | region id ops draw=>
   intro k r hk h;cases draw with
   | false=>
     simp only[kL] at h;cases hi:Ey P N ops ops.toList with
     | none=>rw[hi] at h;cases h;exact .bad
     | some af=>
       rw[hi] at h;cases h;obtain⟨g1,g2⟩:=TG hi;exact .mI (by simpa using g1) λi h1 h2=>by have:=g2 i h1 (by simpa using h2);rwa [yp] at this
   | true=>
     simp only[kL] at h;cases hi:rd ops with
     | none=>rw[hi] at h;cases h;exact .bad
     | some d=>rw[hi] at h;cases h;exact .mJ (u ops d hi)
 | seq a b o s=>
   intro k r hk h;simp only[mG] at hk;simp only[kL] at h;split at h
   ·rename_i x y hx t;cases h;exact .seq (o (λj q e=>hk j q (by rw[qo (List.getElem?_eq_some_iff.1 e).1];exact e)) hx)
     (s (λj q e=>by rw[oa];exact hk _ q (by rw[su Om];simpa using e)) t)
   cases h
 | cond c a b o s=>
   intro k r hk h;simp only[mG] at hk;simp only[kL] at h;split at h
   ·rename_i hc;split at h
    ·rename_i x y hx t;cases h;exact .cond hc (o (λj q e=>hk j q (by rw[qo (List.getElem?_eq_some_iff.1 e).1];exact e)) hx)
      (s (λj q e=>by rw[oa];exact hk _ q (by rw[su Om];simpa using e)) t)
    cases h
   cases h;exact .bad
 | block id c n=>
   intro k r hk h;simp only[kL] at h;cases hc:kL P N rd f k c with
   | none=>rw[hc] at h;cases h
   | some x=>rw[hc] at h;cases h;exact .block (n hk hc)
 | loop c n=>
   intro k r hk h;simp only[kL] at h;cases hc:kL P N rd f k c with
   | none=>rw[hc] at h;cases h
   | some x=>rw[hc] at h;cases h;exact .loop (n hk hc)
 | scope c n=>
   intro k r hk h;simp only[kL] at h;exact .scope (n hk h)
 | exit id=>intro k r hk h;simp only[kL] at h;cases h;exact .exit
 | ret=>intro k r hk h;simp only[kL] at h;cases h;exact .ret
 | rangeFunc g ps a b o s=>
   intro k r hk h;simp only[kL] at h;split at h;·rename_i hg;cases h;exact .sN hg (hk 0 _ rfl)
   cases h;exact .bad
 | _=>intro k r hk h;simp only[kL,Option.some.injEq] at h;subst h;exact .bad
def Hb(L:List (Array Tmp×iR×iR)):Prop:=∀(i:Nat) (ps:Array Tmp) (a b:iR),L[i]? = some (ps,a,b)->∀j x,(mG a++mG b)[j]? = some x->L[i+1+j]? = some x
theorem Hb.append{L M:List (Array Tmp×iR×iR)}(h:Hb L)(k:Hb M):Hb (L++M):=by
 intro i ps a b hi j x c;by_cases hl:i<L.length
 ·rw[qo hl] at hi;have:=h i ps a b hi j x c;rw[qo (List.getElem?_eq_some_iff.1 this).1];exact this
 rw[su Om] at hi;have:=k _ ps a b hi j x c;rw[su Om,show i+1+j-L.length=i-L.length+1+j by omega];exact this
theorem ah'(c:iR):Hb (mG c):=by
 have p:Hb []:=λi ps a b h=>by simp at h
 induction c with
 | seq a b e f=>exact e.append f
 | cond c a b e f=>exact e.append f
 | block id c n=>exact n
 | loop c n=>exact n
 | scope c n=>exact n
 | rangeFunc g ps a b e f=>
   have:=e.append f;intro i qs x y hi j z o;cases i with
   | zero=>
     simp only[mG,eZ,Option.some.injEq,Prod.mk.injEq] at hi;obtain⟨rfl,rfl,rfl⟩:=hi;simp only[mG];rw[show 0+1+j=j+1 by omega,e9];exact o
   | succ i=>
     simp only[mG,e9] at hi;simp only[mG];rw[show i+1+1+j=(i+1+j)+1 by omega,e9];exact this i qs x y hi j z o
 | _=>exact p
theorem aak{f k N:Nat}{fn:Func}{c:iR}(e:P.funcs[f]? = some fn)(hb:fn.body=some c){x:Array Tmp×iR×iR}:keyOf P (f,k)=some (N,x)↔fn.ntmps=N/\(mG c)[k]? = some x:=by
 simp only[keyOf,e,hb,Option.map_eq_some_iff,Prod.mk.injEq];constructor;·rintro⟨y,h1,h2,rfl⟩;exact⟨h2,h1⟩
 rintro⟨h1,h2⟩;exact⟨x,h2,h1,rfl⟩
theorem aal{f k N:Nat}{ps:Array Tmp}{a b:iR}(h:keyOf P (f,k)=some (N,ps,a,b)){j:Nat}{x:Array Tmp×iR×iR}(g:(mG a++mG b)[j]? = some x):keyOf P (f,k+1+j)=some (N,x):=by
 cases e:P.funcs[f]? with
 | none=>simp[keyOf,e] at h
 | some fn=>
   cases hb:fn.body with
   | none=>simp[keyOf,e,hb] at h
   | some c=>
     rw[aak e hb] at h⊢;exact⟨h.1,ah' c k ps a b h.2 j x g⟩
def Kg(P:aX)(rd:Nat->Array dj->Option jB)(key:Nat×Nat):Option (List Nat×bQ×bQ):=
 match keyOf P key with
 | some (N,ps,a,b)=>if (ps.toList.all λp=>decide (p<N))=true then match kL P N (rd N) key.1 (key.2+1) a,kL P N (rd N) key.1 (key.2+1+(mG a).length) b with
   | some x,some y=>some (ps.toList,x,y)
   | _,_=>none
   else none
 | none=>none
theorem aia{rd:Nat->Array dj->Option jB}(e : ∀N ops d,rd N ops=some d->Eo P N ops d/\Er P N ops d){key:Nat×Nat}{ps:List Nat}{lg body:bQ}(h:Kg P rd key=some (ps,lg,body)):aac P key ps lg body:=by
 unfold Kg at h;split at h
 ·rename_i N qs a b hk;split at h
  ·rename_i f;split at h
   ·rename_i x y hx g;cases h;refine⟨N,a,b,by simpa using hk,TH (e N) (λj q c=>aal hk (by rw[qo (List.getElem?_eq_some_iff.1 c).1];exact c)) hx,
     TH (e N) (λj q c=>by rw[oa (key.2+1)];exact aal hk (by rw[su Om];simpa using c)) g,λp hp=>of_decide_eq_true (List.all_eq_true.1 f p hp)⟩
   cases h
  cases h
 cases h
def Kh(P:aX):List ResultVar->Option (List pm)
 | []=>some []
 | r::rs=>match (match r with
    | .tmp t=>some (.tmp t)
    | .cell a t=>match P.underlying t with
      | some d=>if Aj d then (tM P t).map λn=> .kZ n a else some (.ld a)
      | none=>none:Option pm),Kh P rs with
   | some q,some qs=>some (q::qs)
   | _,_=>none
theorem aam : ∀ {rs:List ResultVar} {qs:List pm},Kh P rs=some qs->Es P rs qs
 | [],qs,h=>by simp[Kh] at h;subst h;exact .nil
 | r::rs,qs,h=>by
   simp only[Kh] at h;split at h
   ·rename_i q c h1 h2;cases h;refine .cons ?_ (aam h2);cases r with
    | tmp t=>simp at h1;subst h1;exact .tmp
    | cell a t=>
      simp only at h1;split at h1
      ·rename_i d hd;split at h1
       ·rename_i ha;cases hs:tM P t with
        | none=>rw[hs] at h1;cases h1
        | some n=>rw[hs] at h1;cases h1;exact .kZ hd (by cases d<;>first | rfl | cases ha) hs
       rename_i ha;cases h1;exact .ld hd (by cases d<;>first | rfl | exact absurd rfl ha)
      cases h1
   cases h
def oA(P:aX)(rd:Nat->Array dj->Option jB)(f:aS):Option yI:=
 if pP P f then match P.funcs[f]? with
  | some fn=>match fn.body with
    | some c=>match kL P fn.ntmps (rd fn.ntmps) f 0 c,Kh P fn.results.toList with
      | some r,some q=>some ⟨fn.ntmps,q,r⟩
      | _,_=>none
    | none=>none
  | none=>none
 else none
theorem aib{rd:Nat->Array dj->Option jB}(g : ∀N ops d,rd N ops=some d->Eo P N ops d/\Er P N ops d){f:aS}{rf:yI}(h:oA P rd f=some rf):aab P f rf:=by
 unfold oA at h;split at h
 ·rename_i hc;split at h
  ·rename_i fn e;split at h
   ·rename_i c hb;split at h;·rename_i r q i n;cases h;exact⟨hc,fn,c,e,hb,rfl,TH (g _) (λj x o=>by rw[Nat.zero_add,aak e hb];exact⟨rfl,o⟩) i,aam n⟩
    cases h
   cases h
  cases h
 cases h
end
section
open Go Go.RowKit
structure yN(h h':Hd):Prop where
 call : ∀f a H r,h.call f a H=some r->h'.call f a H=some r
 round : ∀l a H r,h.round l a H=some r->h'.round l a H=some r
theorem TI{h h':Hd}(c:yN h h'){fr:Fr}{H:CH}{o:gB}{r:ae×CH}(e:eA h fr H o=some r):eA h' fr H o=some r:=by
 cases o with
 | call f args=>exact c.call _ _ _ _ e
 | pg g args=>
   simp only[eA] at e⊢;split at e;·exact c.call _ _ _ _ e
   ·exact c.round _ _ _ _ e
   cases e
 | _=>exact e
theorem TJ{h h':Hd}(e:yN h h'){it:Item}{fr:Fr}{H:CH}{r:Fr×CH}(c:cX h it fr H=some r):cX h' it fr H=some r:=by
 simp only[cX] at c⊢;split at c
 ·cases f:eA h fr H it.op with
  | none=>rw[f] at c;cases c
  | some q=>rw[f] at c;rw[TI e f];exact c
 ·exact c
 cases c
theorem Ki{h h':Hd}(e:yN h h') : ∀ {af:List Item} {fr:Fr} {H:CH} {r:Fr×CH},dP h af fr H=some r->dP h' af fr H=some r
 | [],fr,H,r,c=>c
 | it::af,fr,H,r,c=>by
   simp only[dP] at c⊢
   cases hs:cX h it fr H with
   | none=>rw[hs] at c;cases c
   | some q=>rw[hs] at c;rw[TJ e hs];exact Ki e c
theorem ON{h h':Hd}(e:yN h h') : ∀ {af:List Item} {fr:Fr} {H:CH} {r:Fr×CH×List CH},cH h af fr H=some r->cH h' af fr H=some r
 | [],fr,H,r,c=>c
 | it::af,fr,H,r,c=>by
   simp only[cH] at c⊢
   cases hs:cX h it fr H with
   | none=>rw[hs] at c;cases c
   | some q=>
     rw[hs] at c;rw[TJ e hs];simp only at c⊢
     cases hd:cH h af q.1 q.2 with
     | none=>rw[hd] at c;cases c
     | some d=>rw[hd] at c;rw[ON e hd];exact c
theorem aic{h h':Hd}(e:yN h h'){d:jB}{fr:Fr}{H:CH}{r:Fr×CH}(c:uP h d fr H=some r):uP h' d fr H=some r:=by
 simp only[uP] at c⊢
 cases hd:cH h d.af fr H with
 | none=>rw[hd] at c;cases c
 | some q=>rw[hd] at c;rw[ON e hd];exact c
theorem OO{n m:Nat}(s:n<=m){f g:Fr->CH->G3}(e : ∀fr H r,f fr H=some r->g fr H=some r) : ∀ {fr:Fr} {H:CH} {r:bp×Fr×CH},pQ n f fr H=some r->pQ m g fr H=some r:=by
 induction n generalizing m with
 | zero=>intro fr H r c;simp[pQ] at c
 | succ n o=>
   intro fr H r c;obtain⟨m,rfl⟩ : ∃k,m=k+1:=⟨m-1,Om⟩;simp only[pQ] at c⊢
   cases j:f fr H with
   | none=>rw[j] at c;cases c
   | some q=>
     obtain⟨x,am,H1⟩:=q;rw[j] at c;rw[e _ _ _ j];cases x with
     | normal=>exact o (m:=m) Om c
     | exit i=>exact c
     | ret=>exact c
theorem AB{h h':Hd}(j:yN h h'){n m:Nat}(t:n<=m) : ∀ {c:bQ} {fr:Fr} {H:CH} {r:bp×Fr×CH},bE h n c fr H=some r->bE h' m c fr H=some r:=by
 intro c;induction c with
 | bad=>intro fr H r e;simp[bE] at e
 | skip=>intro fr H r e;exact e
 | mI af=>
   intro fr H r e;simp only[bE] at e⊢
   cases hi:dP h af fr H with
   | none=>rw[hi] at e;cases e
   | some q=>rw[hi] at e;rw[Ki j hi];exact e
 | mJ d=>
   intro fr H r e;simp only[bE] at e⊢
   cases hi:uP h d fr H with
   | none=>rw[hi] at e;cases e
   | some q=>rw[hi] at e;rw[aic j hi];exact e
 | seq a b o p=>
   intro fr H r e;simp only[bE] at e⊢
   cases ha:bE h n a fr H with
   | none=>rw[ha] at e;cases e
   | some q=>
     obtain⟨x,am,H1⟩:=q;rw[ha] at e;rw[o ha];cases x with
     | normal=>exact p e
     | exit i=>exact e
     | ret=>exact e
 | cond c a b o p=>
   intro fr H r e;simp only[bE] at e⊢;split at e;·exact o e
   ·exact p e
   cases e
 | block id c s=>
   intro fr H r e;simp only[bE] at e⊢
   cases ha:bE h n c fr H with
   | none=>rw[ha] at e;cases e
   | some q=>rw[ha] at e;rw[s ha];exact e
 | loop c s=>
   intro fr H r e;simp only[bE] at e⊢;exact OO t (λ_ _ _ u=>s u) e
 | exit id=>intro fr H r e;exact e
 | ret=>intro fr H r e;exact e
 | sN g key=>
   intro fr H r e;simp only[bE] at e⊢;split at e
   ·rename_i f v dF hg;cases hc:h.call f (Value.func (.yield H.nx) #[] #[]::dF.toList) (H.new (.loop .ready none fr key)) with
    | none=>rw[hc] at e;cases e
    | some q=>rw[hc] at e;rw[j.call _ _ _ _ hc];exact e
   cases e
theorem tO{T:cw} : ∀ {n m:Nat},n<=m->yN (dH T n) (dH T m)
 | 0,m,_=>⟨λf a H r c=>by simp[dH] at c,λf a H r c=>by simp[dH] at c⟩
 | n+1,m,s=>by
   obtain⟨m,rfl⟩ : ∃k,m=k+1:=⟨m-1,Om⟩;have g:=tO (T:=T) (n:=n) (m:=m) Om;have j:n<=m:=by omega
   refine⟨λf a H r c=> ?_,λl a H r c=> ?_⟩
   ·simp only[dH] at c⊢;split at c;·rename_i he;rw[iP he];exact c
    rename_i he;rw[iN he];split at c
    ·rename_i rf C;cases hb:bE (dH T n) n rf.body (λt=>a.getD t undef) H with
     | none=>rw[hb] at c;cases c
     | some q=>rw[hb] at c;rw[AB g j hb];exact c
    cases c
   simp only[dH] at c⊢;split at c
   ·rename_i gv fr key ho;split at c
    ·rename_i ps lg body hl;split at c
     ·rename_i e;rw[iP e];cases hb:bE (dH T n) n lg (Cs fr ps a) H with
      | none=>rw[hb] at c;cases c
      | some q=>
        obtain⟨x,u,v⟩:=q;rw[hb] at c;rw[AB g j hb];cases x with
        | normal=>
          simp only at c⊢;split at c
          ·rename_i y z A D;cases o:bE (dH T n) n body u (v.set l (.loop .busy y z A)) with
           | none=>rw[o] at c;cases c
           | some F=>rw[o] at c;rw[AB g j o];exact c
          cases c
        | ret=>cases c
        | exit i=>cases c
     cases c
    cases c
   cases c
theorem aan{T:cw}{n m:Nat}(h:n<=m) : ∀f a H r,uQ T n f a H=some r->uQ T m f a H=some r:=(tO h).call
def aQ (T:cw)(f:aS)(args:List ae)(H:CH)(Q:ae->CH->Prop):Prop:=∃n v H',uQ T n f args H=some (v,H')/\Q v H'
def TK (T:cw)(l:Nat)(args:List ae)(H:CH)(Q:ae->CH->Prop):Prop:=∃n v H',(dH T n).round l args H=some (v,H')/\Q v H'
def qE (T:cw)(af:List Item)(fr:Fr)(H:CH)(K:Fr->CH->Prop):Prop:=∃n fr' H',dP (dH T n) af fr H=some (fr',H')/\K fr' H'
def Cv (T:cw)(af:List Item)(fr:Fr)(H:CH)(K:Fr->CH->List CH->Prop):Prop:=∃n fr' H' l,cH (dH T n) af fr H=some (fr',H',l)/\K fr' H' l
def dh (T:cw)(c:bQ)(fr:Fr)(H:CH)(Q:bp->Fr->CH->Prop):Prop:=∃n x fr' H',bE (dH T n) n c fr H=some (x,fr',H')/\Q x fr' H'
variable {T:cw}
theorem aQ.mono{f:aS}{args:List ae}{H:CH}{Q Q':ae->CH->Prop}(h:aQ T f args H Q)(c : ∀v H',Q v H'->Q' v H'):aQ T f args H Q':=by
 obtain⟨n,v,H',h1,h2⟩:=h;exact⟨n,v,H',h1,c _ _ h2⟩
theorem dh.mono{c:bQ}{fr:Fr}{H:CH}{Q Q':bp->Fr->CH->Prop}(h:dh T c fr H Q)(e : ∀x fr' H',Q x fr' H'->Q' x fr' H'):dh T c fr H Q':=by
 obtain⟨n,x,fr',H',h1,h2⟩:=h;exact⟨n,x,fr',H',h1,e _ _ _ h2⟩
theorem di{fr:Fr}{H:CH}{K:Fr->CH->Prop}:qE T [] fr H K↔K fr H:=
 ⟨λ⟨n,fr',H',h1,h2⟩=>by simp[dP] at h1;rw[h1.1,h1.2];exact h2,λh=>⟨0,fr,H,rfl,h⟩⟩
def lW (T:cw)(fr:Fr)(H:CH)(o:gB)(K:ae->CH->Prop):Prop:=∃n v H',eA (dH T n) fr H o=some (v,H')/\K v H'
theorem OP{it:Item}{r:List Item}{fr:Fr}{H:CH}{K:Fr->CH->Prop}:qE T (it::r) fr H K↔
 match eG fr it.guard with
 | some true=>lW T fr H it.op λv H'=>qE T r (bO fr it.dst v) H' K
 | some false=>qE T r (bO fr it.dst kg) H K
 | none=>False:=by
 constructor
 ·rintro⟨n,fr',H',h1,h2⟩;simp only[dP,cX] at h1;cases hw:eG fr it.guard with
  | none=>rw[hw] at h1;cases h1
  | some b=>
    rw[hw] at h1;cases b with
    | true=>
      simp only at h1⊢
      cases c:eA (dH T n) fr H it.op with
      | none=>rw[c] at h1;cases h1
      | some q=>rw[c] at h1;exact⟨n,q.1,q.2,c,n,fr',H',h1,h2⟩
    | false=>exact⟨n,fr',H',h1,h2⟩
 intro h;cases hw:eG fr it.guard with
 | none=>rw[hw] at h;exact h.elim
 | some b=>
   rw[hw] at h;cases b with
   | true=>
     obtain⟨n,v,H1,h1,m,fr',H',h2,h3⟩:=h;refine⟨max n m,fr',H',?_,h3⟩;simp only[dP,cX,hw];rw[TI (tO (yr n m)) h1];exact Ki (tO (yt n m)) h2
   | false=>
     obtain⟨n,fr',H',h1,h2⟩:=h;exact⟨n,fr',H',by simp only[dP,cX,hw];exact h1,h2⟩
theorem aao{fr:Fr}{H:CH}{x:dY}{K:ae->CH->Prop}:lW T fr H (.p x) K↔∃v,pop (aJ fr) x=some v/\K v H:=by
 constructor
 ·rintro⟨n,v,H',h1,h2⟩;simp only[eA] at h1;cases hp:pop (aJ fr) x with
  | none=>rw[hp] at h1;cases h1
  | some u=>rw[hp] at h1;cases h1;exact⟨_,rfl,h2⟩
 rintro⟨v,h1,h2⟩;exact⟨0,v,H,by simp[eA,h1],h2⟩
theorem TM{fr:Fr}{H:CH}{x:iK}{K:ae->CH->Prop}:lW T fr H (.l x) K↔∃v,aD H (aJ fr) x=some v/\K v H:=by
 constructor
 ·rintro⟨n,v,H',h1,h2⟩;simp only[eA] at h1;cases hp:aD H (aJ fr) x with
  | none=>rw[hp] at h1;cases h1
  | some u=>rw[hp] at h1;cases h1;exact⟨_,rfl,h2⟩
 rintro⟨v,h1,h2⟩;exact⟨0,v,H,by simp[eA,h1],h2⟩
theorem aap{fr:Fr}{H:CH}{x:qC}{K:ae->CH->Prop}:lW T fr H (.a x) K↔∃cs e k mk,cq (aJ fr) x=some (cs,e,k,mk)/\K (db mk H.nx) (H.new (.cells cs e k)):=by
 constructor
 ·rintro⟨n,v,H',h1,h2⟩;simp only[eA] at h1;cases hp:cq (aJ fr) x with
  | none=>rw[hp] at h1;cases h1
  | some u=>obtain⟨cs,e,k,mk⟩:=u;rw[hp] at h1;cases h1;exact⟨cs,e,k,mk,rfl,h2⟩
 rintro⟨cs,e,k,mk,h1,h2⟩;exact⟨0,_,_,by simp[eA,h1],h2⟩
theorem aaq{fr:Fr}{H:CH}{x:iW}{K:ae->CH->Prop}:lW T fr H (.w x) K↔∃v H',bq H (aJ fr) x=some (v,H')/\K v H':=by
 constructor;·rintro⟨n,v,H',h1,h2⟩;exact⟨v,H',h1,h2⟩
 rintro⟨v,H',h1,h2⟩;exact⟨0,v,H',h1,h2⟩
theorem aar{fr:Fr}{H:CH}{f:aS}{args:List av}{K:ae->CH->Prop}:lW T fr H (.call f args) K↔aQ T f (args.map (aJ fr)) H K:=eM
theorem aid{fr:Fr}{H:CH}{g:av}{args:List av}{K:ae->CH->Prop}:lW T fr H (.pg g args) K↔
 match aJ fr g with
 | .func (.func f) _ dF=>aQ T f (args.map (aJ fr)++dF.toList) H K
 | .func (.yield l) _ _=>TK T l (args.map (aJ fr)) H K
 | _=>False:=by
 constructor
 ·rintro⟨n,v,H',h1,h2⟩;simp only[eA] at h1;split at h1;·rename_i hg;simp only[hg];exact⟨n,v,H',h1,h2⟩
  ·rename_i hg;simp only[hg];exact⟨n,v,H',h1,h2⟩
  cases h1
 intro h;split at h;·rename_i hg;obtain⟨n,v,H',h1,h2⟩:=h;exact⟨n,v,H',by simp only[eA,hg];exact h1,h2⟩
 ·rename_i hg;obtain⟨n,v,H',h1,h2⟩:=h;exact⟨n,v,H',by simp only[eA,hg];exact h1,h2⟩
 exact h.elim
theorem jW{fr:Fr}{H:CH}{Q:bp->Fr->CH->Prop}:dh T .skip fr H Q↔Q .normal fr H:=
 ⟨λ⟨n,x,fr',H',h1,h2⟩=>by simp only[bE,Option.some.injEq,Prod.mk.injEq] at h1;obtain⟨rfl,rfl,rfl⟩:=h1;exact h2,λh=>⟨0,_,_,_,rfl,h⟩⟩
theorem Kj{id:Nat}{fr:Fr}{H:CH}{Q:bp->Fr->CH->Prop}:dh T (.exit id) fr H Q↔Q (.exit id) fr H:=
 ⟨λ⟨n,x,fr',H',h1,h2⟩=>by simp only[bE,Option.some.injEq,Prod.mk.injEq] at h1;obtain⟨rfl,rfl,rfl⟩:=h1;exact h2,λh=>⟨0,_,_,_,rfl,h⟩⟩
theorem oD{fr:Fr}{H:CH}{Q:bp->Fr->CH->Prop}:dh T .ret fr H Q↔Q .ret fr H:=
 ⟨λ⟨n,x,fr',H',h1,h2⟩=>by simp only[bE,Option.some.injEq,Prod.mk.injEq] at h1;obtain⟨rfl,rfl,rfl⟩:=h1;exact h2,λh=>⟨0,_,_,_,rfl,h⟩⟩
theorem aas{af:List Item}{fr:Fr}{H:CH}{Q:bp->Fr->CH->Prop}:dh T (.mI af) fr H Q↔qE T af fr H (Q .normal):=by
 constructor
 ·rintro⟨n,x,fr',H',h1,h2⟩;simp only[bE] at h1;cases c:dP (dH T n) af fr H with
  | none=>rw[c] at h1;cases h1
  | some q=>rw[c] at h1;cases h1;exact⟨n,_,_,c,h2⟩
 rintro⟨n,fr',H',h1,h2⟩;exact⟨n,_,_,_,by simp only[bE,h1];rfl,h2⟩
theorem TN{d:jB}{fr:Fr}{H:CH}{Q:bp->Fr->CH->Prop}:dh T (.mJ d) fr H Q↔Cv T d.af fr H λfr' H' l=>(∀p∈d.nB,∃G,(H::l)[p.2]? = some G/\wq fr' G p.1)/\Q .normal fr' H':=by
 constructor
 ·rintro⟨n,x,fr',H',h1,h2⟩;simp only[bE,uP] at h1;cases c:cH (dH T n) d.af fr H with
  | none=>rw[c] at h1;cases h1
  | some q=>
    obtain⟨f,K,l⟩:=q;rw[c] at h1;simp only at h1;split at h1;·rename_i hc;cases h1;exact⟨n,_,_,_,c,hc,h2⟩
    cases h1
 rintro⟨n,fr',H',l,h1,h2,h3⟩;refine⟨n,_,fr',H',?_,h3⟩;simp only[bE,uP,h1];rw[iP h2];rfl
theorem aat{fr:Fr}{H:CH}{K:Fr->CH->List CH->Prop}:Cv T [] fr H K↔K fr H []:=
 ⟨λ⟨n,fr',H',l,h1,h2⟩=>by simp only[cH,Option.some.injEq,Prod.mk.injEq] at h1;obtain⟨rfl,rfl,rfl⟩:=h1;exact h2,λh=>⟨0,fr,H,[],rfl,h⟩⟩
theorem OQ{it:Item}{r:List Item}{fr:Fr}{H:CH}{K:Fr->CH->List CH->Prop}:Cv T (it::r) fr H K↔
 match eG fr it.guard with
 | some true=>lW T fr H it.op λv H'=>Cv T r (bO fr it.dst v) H' λf L l=>K f L (if bT it.op then H'::l else l)
 | some false=>Cv T r (bO fr it.dst kg) H λf L l=>K f L (if bT it.op then H::l else l)
 | none=>False:=by
 constructor
 ·rintro⟨n,fr',H',l,h1,h2⟩;simp only[cH,cX] at h1;cases hw:eG fr it.guard with
  | none=>rw[hw] at h1;cases h1
  | some b=>
    rw[hw] at h1;cases b with
    | true=>
      simp only at h1⊢
      cases e:eA (dH T n) fr H it.op with
      | none=>rw[e] at h1;cases h1
      | some q=>
        rw[e] at h1;simp only[dC] at h1;cases hd:cH (dH T n) r (bO fr it.dst q.1) q.2 with
        | none=>rw[hd] at h1;cases h1
        | some z=>
          obtain⟨a,b,c⟩:=z;rw[hd] at h1;simp only[dC,Option.some.injEq,Prod.mk.injEq] at h1;obtain⟨rfl,rfl,rfl⟩:=h1;exact⟨n,q.1,q.2,e,n,_,_,_,hd,h2⟩
    | false=>
      simp only at h1⊢
      cases hd:cH (dH T n) r (bO fr it.dst kg) H with
      | none=>rw[hd] at h1;cases h1
      | some z=>
        obtain⟨a,b,c⟩:=z;rw[hd] at h1;simp only[dC,Option.some.injEq,Prod.mk.injEq] at h1;obtain⟨rfl,rfl,rfl⟩:=h1;exact⟨n,_,_,_,hd,h2⟩
 intro h;cases hw:eG fr it.guard with
 | none=>rw[hw] at h;exact h.elim
 | some b=>
   rw[hw] at h;cases b with
   | true=>
     obtain⟨n,v,H1,h1,m,fr',H',l,h2,h3⟩:=h;refine⟨max n m,fr',H',_,?_,h3⟩;simp only[cH,cX,hw];rw[TI (tO (yr n m)) h1];simp only[dC];rw[ON (tO (yt n m)) h2];rfl
   | false=>
     obtain⟨n,fr',H',l,h1,h2⟩:=h;exact⟨n,fr',H',_,by simp only[cH,cX,hw,h1];rfl,h2⟩
theorem OR{a b:bQ}{fr:Fr}{H:CH}{Q:bp->Fr->CH->Prop}:dh T (.seq a b) fr H Q↔dh T a fr H λx fr' H'=>match x with
 | .normal=>dh T b fr' H' Q
 | x=>Q x fr' H':=by
 constructor
 ·rintro⟨n,x,fr',H',h1,h2⟩;simp only[bE] at h1;cases ha:bE (dH T n) n a fr H with
  | none=>rw[ha] at h1;cases h1
  | some q=>
    obtain⟨y,am,H1⟩:=q;rw[ha] at h1;refine⟨n,y,am,H1,ha,?_⟩;cases y with
    | normal=>exact⟨n,x,fr',H',h1,h2⟩
    | exit i=>cases h1;exact h2
    | ret=>cases h1;exact h2
 rintro⟨n,y,am,H1,h1,h2⟩;cases y with
 | normal=>
   obtain⟨m,x,fr',H',h3,h4⟩:=h2;refine⟨max n m,x,fr',H',?_,h4⟩;simp only[bE];rw[AB (tO (yr n m)) (yr n m) h1];exact AB (tO (yt n m)) (yt n m) h3
 | exit i=>exact⟨n,_,am,H1,by simp only[bE,h1],h2⟩
 | ret=>exact⟨n,_,am,H1,by simp only[bE,h1],h2⟩
theorem TO{c:av}{a b:bQ}{fr:Fr}{H:CH}{Q:bp->Fr->CH->Prop}:dh T (.cond c a b) fr H Q↔match aJ fr c with
 | .bool t=>if t=true then dh T a fr H Q else dh T b fr H Q
 | _=>False:=by
 constructor
 ·rintro⟨n,x,fr',H',h1,h2⟩;simp only[bE] at h1;split at h1;·rename_i e;rw[e];exact⟨n,x,fr',H',h1,h2⟩
  ·rename_i e;rw[e];exact⟨n,x,fr',H',h1,h2⟩
  cases h1
 intro h;split at h
 ·rename_i t e;cases t with
  | true=>obtain⟨n,x,fr',H',h1,h2⟩:=h;exact⟨n,x,fr',H',by simp only[bE,e];exact h1,h2⟩
  | false=>obtain⟨n,x,fr',H',h1,h2⟩:=h;exact⟨n,x,fr',H',by simp only[bE,e];exact h1,h2⟩
 exact h.elim
theorem aau{id:Nat}{c:bQ}{fr:Fr}{H:CH}{Q:bp->Fr->CH->Prop}:dh T (.block id c) fr H Q↔dh T c fr H λx fr' H'=>match x with
 | .exit i=>if i=id then Q .normal fr' H' else Q (.exit i) fr' H'
 | x=>Q x fr' H':=by
 constructor
 ·rintro⟨n,x,fr',H',h1,h2⟩;simp only[bE] at h1;cases ha:bE (dH T n) n c fr H with
  | none=>rw[ha] at h1;cases h1
  | some q=>
    obtain⟨y,am,H1⟩:=q;rw[ha] at h1;refine⟨n,y,am,H1,ha,?_⟩;cases y with
    | normal=>cases h1;exact h2
    | exit i=>
      simp only at h1⊢;split at h1;·rename_i e;rw[iP e];cases h1;exact h2
      rename_i e;rw[iN e];cases h1;exact h2
    | ret=>cases h1;exact h2
 rintro⟨n,y,am,H1,h1,h2⟩;cases y with
 | normal=>exact⟨n,_,am,H1,by simp only[bE,h1],h2⟩
 | exit i=>
   simp only at h2;split at h2;·rename_i e;exact⟨n,_,am,H1,by simp only[bE,h1,iP e],h2⟩
   rename_i e;exact⟨n,_,am,H1,by simp only[bE,h1,iN e],h2⟩
 | ret=>exact⟨n,_,am,H1,by simp only[bE,h1],h2⟩
theorem OS{c:bQ}{fr:Fr}{H:CH}{Q:bp->Fr->CH->Prop}:dh T (.loop c) fr H Q↔dh T c fr H λx fr' H'=>match x with
 | .normal=>dh T (.loop c) fr' H' Q
 | x=>Q x fr' H':=by
 constructor
 ·rintro⟨n,x,fr',H',h1,h2⟩;simp only[bE] at h1;cases n with
  | zero=>simp[pQ] at h1
  | succ n=>
    simp only[pQ] at h1;cases ha:bE (dH T (n+1)) (n+1) c fr H with
    | none=>rw[ha] at h1;cases h1
    | some q=>
      obtain⟨y,am,H1⟩:=q;rw[ha] at h1;refine⟨n+1,y,am,H1,ha,?_⟩;cases y with
      | normal=>exact⟨n+1,x,fr',H',by simp only[bE];exact OO (mC n) (λ_ _ _ h=>h) h1,h2⟩
      | exit i=>cases h1;exact h2
      | ret=>cases h1;exact h2
 rintro⟨n,y,am,H1,h1,h2⟩;cases y with
 | normal=>
   obtain⟨m,x,fr',H',h3,h4⟩:=h2;refine⟨max n m+1,x,fr',H',?_,h4⟩;simp only[bE,pQ] at h3⊢;rw[AB (tO (xc (yr n m))) (xc (yr n m)) h1];exact OO (yt n m) (λ_ _ _ h=>AB (tO (xc (yt n m))) (xc (yt n m)) h) h3
 | exit i=>exact⟨n+1,_,am,H1,by simp only[bE,pQ];rw[AB (tO (mC n)) (mC n) h1],h2⟩
 | ret=>exact⟨n+1,_,am,H1,by simp only[bE,pQ];rw[AB (tO (mC n)) (mC n) h1],h2⟩
theorem aie{f:aS}{rf:yI}(he:T.ext f=false)(c:T.fn f=some rf){args:List ae}{H:CH}{Q:ae->CH->Prop}:aQ T f args H Q↔dh T rf.body (λt=>args.getD t undef) H λx fr' H'=>match x with
 | .exit _=>False
 | _=>∃vs,cY fr' H' rf.res=some vs/\Q (dU vs) H':=by
 constructor
 ·rintro⟨n,v,H',h1,h2⟩;cases n with
  | zero=>simp[uQ,dH] at h1
  | succ n=>
    simp only[uQ,dH,he,c,je,iF] at h1;cases hb:bE (dH T n) n rf.body (λt=>args.getD t undef) H with
    | none=>rw[hb] at h1;cases h1
    | some q=>
      obtain⟨y,am,H1⟩:=q;rw[hb] at h1;refine⟨n,y,am,H1,hb,?_⟩;cases y with
      | exit i=>cases h1
      | normal=>
        simp only at h1⊢
        cases hv:cY am H1 rf.res with
        | none=>rw[hv] at h1;cases h1
        | some vs=>rw[hv] at h1;cases h1;exact⟨vs,rfl,h2⟩
      | ret=>
        simp only at h1⊢
        cases hv:cY am H1 rf.res with
        | none=>rw[hv] at h1;cases h1
        | some vs=>rw[hv] at h1;cases h1;exact⟨vs,rfl,h2⟩
 rintro⟨n,y,am,H1,h1,h2⟩;cases y with
 | exit i=>exact h2.elim
 | normal=>
   obtain⟨vs,h3,h4⟩:=h2;exact⟨n+1,dU vs,H1,by simp only[uQ,dH,he,c,je,iF,h1,h3];rfl,h4⟩
 | ret=>
   obtain⟨vs,h3,h4⟩:=h2;exact⟨n+1,dU vs,H1,by simp only[uQ,dH,he,c,je,iF,h1,h3];rfl,h4⟩
def TQ(l:Nat)(fr:Fr)(Q:bp->Fr->CH->Prop):ae->CH->Prop:=λ_ H=>∃st gv fr' key,H.ob l= .loop st gv fr' key/\st≠ .busy/\Q (OE gv) fr (H.set l (.loop .exhausted gv fr' key))
theorem aif{g:av}{key:Nat×Nat}{fr:Fr}{H:CH}{Q:bp->Fr->CH->Prop}{f:aS}{c dF:Array ae}(hg:aJ fr g= .func (.func f) c dF)
 (k:aQ T f (.func (.yield H.nx) #[] #[]::dF.toList) (H.new (.loop .ready none fr key)) (TQ H.nx fr Q)):dh T (.sN g key) fr H Q:=by
 obtain⟨n,v,e,h1,st,gv,fr',i,h2,h3,h4⟩:=k;refine⟨n,_,_,_,?_,h4⟩;simp only[bE,hg];simp only[uQ] at h1;rw[h1];simp only[h2,iN h3]
end
section
open Go Go.RowKit
variable {P:aX} {B:Nat}
def dY.bD:dY->List av
 | .vX x | .un _ x | .conv _ x | .GD x | .off x _ | .ext x _ | .len x | .lens x | .D8 x | .Jx x | .kG x _ _=> [x]
 | .pick c a b=> [c,a,b]
 | .bin _ x y | .D6 _ x y | .yA _ x y | .eqs _ x y | .GC _ _ _ x y | .idx x y _ | .Jw x y _ _ | .GF x y | .Jy x y _ _ _ | .mx _ x y=> [x,y]
 | .D7 x lo hi=>x::(lo.toList++hi.toList)
 | .fn _ dF=>dF
 | .Ah _ ps=>ps.map (·.2.2)
def iK.bD:iK->List av
 | .ld x | .kZ _ x | .b2s x | .Cm _ x=> [x]
 | .Ed _ x y=> [x,y]
 | .GL _ _ _ x i=> [x,i]
 | .Cl _ _ x lo hi mx=>x::(lo.toList++(hi.toList++mx.toList))
def qC.bD:qC->List av
 | .box _ x=> [x]
 | .new _ _=> []
 | .Ao _ _ _ _ ps=>ps.map (·.2)
 | .cI _ _ _ _ l c=> [l,c]
def iW.bD:iW->List av
 | .st _ x v=> [x,v]
 | .app _ _ _ s x=> [s,x]
 | .JD _ d s=> [d,s]
 | .JE=> []
 | .JG _ x k v=> [x,k,v]
 | .JH x | .Aq x | .JI x | .JJ x | .iX x | .s2b _ _ x=> [x]
 | .del _ x k=> [x,k]
 | .JK _ p n=> [p,n]
def gB.bD:gB->List av
 | .p x=>x.bD
 | .l x=>x.bD
 | .a x=>x.bD
 | .w x=>x.bD
 | .call _ args=>args
 | .pg g args=>g::args
theorem Kk{ev ev':av->ae}{d d':Nat}{o:Option av}(h : ∀x∈o.toList,ev x=ev' x)(hd:d=d'):gT ev d o=gT ev' d' o:=by
 subst hd;cases o with
 | none=>rfl
 | some x=>simp only[gT,h x Sm]
theorem aav{ev ev':av->ae}{p:dY}(h : ∀x∈p.bD,ev x=ev' x):pop ev p=pop ev' p:=by
 cases p with
 | pick c a b=>simp only[pop,h c (by simp[dY.bD]),h a (by simp[dY.bD]),h b (by simp[dY.bD])]
 | D7 x lo hi=>
   have hx:=h x (by simp[dY.bD]);simp only[pop,hx];rw[Kk (ev:=ev) (ev':=ev') (o:=lo) (λy e=>h y (by simp only[dY.bD,mD,gu];exact .inr (.inl e))) rfl,Kk (ev:=ev) (ev':=ev') (o:=hi) (λy e=>h y (by simp only[dY.bD,mD,gu];exact .inr (.inr e))) rfl]
 | fn f dF=>
   have:dF.map ev=dF.map ev':=xd λx hx=>h x hx;simp only[pop,this]
 | Ah z ps=>
   simp only[pop];have:ps.map (λ(o,s,x)=>(o,s,ev x))=ps.map (λ(o,s,x)=>(o,s,ev' x)):=xd λq i=>by
    obtain⟨a,b,c⟩:=q;simp only[h c (List.mem_map.2 ⟨_,i,rfl⟩)]
   rw[this]
 | vX x=>simp only[pop,h x (by simp[dY.bD])]
 | un op x=>simp only[pop,h x (by simp[dY.bD])]
 | conv k x=>simp only[pop,h x (by simp[dY.bD])]
 | GD x=>simp only[pop,h x (by simp[dY.bD])]
 | off x d=>simp only[pop,h x (by simp[dY.bD])]
 | ext x d=>simp only[pop,h x (by simp[dY.bD])]
 | len x=>simp only[pop,h x (by simp[dY.bD])]
 | lens x=>simp only[pop,h x (by simp[dY.bD])]
 | D8 x=>simp only[pop,h x (by simp[dY.bD])]
 | Jx x=>simp only[pop,h x (by simp[dY.bD])]
 | bin op x y=>simp only[pop,h x (by simp[dY.bD]),h y (by simp[dY.bD])]
 | D6 n x y=>simp only[pop,h x (by simp[dY.bD]),h y (by simp[dY.bD])]
 | yA n x y=>simp only[pop,h x (by simp[dY.bD]),h y (by simp[dY.bD])]
 | eqs n x y=>simp only[pop,h x (by simp[dY.bD]),h y (by simp[dY.bD])]
 | GC n g ks x y=>simp only[pop,h x (by simp[dY.bD]),h y (by simp[dY.bD])]
 | idx x y s=>simp only[pop,h x (by simp[dY.bD]),h y (by simp[dY.bD])]
 | Jw x y n s=>simp only[pop,h x (by simp[dY.bD]),h y (by simp[dY.bD])]
 | GF x y=>simp only[pop,h x (by simp[dY.bD]),h y (by simp[dY.bD])]
 | kG x d n=>simp only[pop,h x (by simp[dY.bD])]
 | Jy x y n s g=>simp only[pop,h x (by simp[dY.bD]),h y (by simp[dY.bD])]
 | mx b x y=>simp only[pop,h x (by simp[dY.bD]),h y (by simp[dY.bD])]
theorem aaw{ev ev':av->ae}{H:CH}{p:iK}(h : ∀x∈p.bD,ev x=ev' x):aD H ev p=aD H ev' p:=by
 cases p with
 | ld x=>simp only[aD,h x (by simp[iK.bD])]
 | kZ n x=>simp only[aD,h x (by simp[iK.bD])]
 | b2s x=>simp only[aD,h x (by simp[iK.bD])]
 | Cm f x=>simp only[aD,h x (by simp[iK.bD])]
 | Ed neg x y=>simp only[aD,h x (by simp[iK.bD]),h y (by simp[iK.bD])]
 | GL kk z ok x i=>simp only[aD,h x (by simp[iK.bD]),h i (by simp[iK.bD])]
 | Cl e sz x lo hi mx=>
   have hx:=h x (by simp[iK.bD]);simp only[aD,hx];rw[Kk (ev:=ev) (ev':=ev') (o:=lo) (λy c=>h y (by simp only[iK.bD,mD,gu];exact .inr (.inl c))) rfl,
    Kk (ev:=ev) (ev':=ev') (o:=hi) (λy c=>h y (by simp only[iK.bD,mD,gu];exact .inr (.inr (.inl c)))) rfl,
    Kk (ev:=ev) (ev':=ev') (o:=mx) (λy c=>h y (by simp only[iK.bD,mD,gu];exact .inr (.inr (.inr c)))) rfl]
theorem Kl{ev ev':av->ae}{p:qC}(h : ∀x∈p.bD,ev x=ev' x):cq ev p=cq ev' p:=by
 cases p with
 | box e x=>simp only[cq,h x (by simp[qC.bD])]
 | new e z=>rfl
 | Ao e sz n z ps=>
   simp only[cq];have:ps.map (λ(i,x)=>(i*sz,sz,ev x))=ps.map (λ(i,x)=>(i*sz,sz,ev' x)):=xd λq f=>by
    obtain⟨a,c⟩:=q;simp only[h c (List.mem_map.2 ⟨_,f,rfl⟩)]
   rw[this]
 | cI e sz b z l c=>simp only[cq,h l (by simp[qC.bD]),h c (by simp[qC.bD])]
theorem aig{ev ev':av->ae}{H:CH}{p:iW}(h : ∀x∈p.bD,ev x=ev' x):bq H ev p=bq H ev' p:=by
 cases p with
 | st n x v=>simp only[bq,h x (by simp[iW.bD]),h v (by simp[iW.bD])]
 | app e sz b s x=>simp only[bq,h s (by simp[iW.bD]),h x (by simp[iW.bD])]
 | JD sz d s=>simp only[bq,h d (by simp[iW.bD]),h s (by simp[iW.bD])]
 | JE=>rfl
 | JG kk x k v=>simp only[bq,h x (by simp[iW.bD]),h k (by simp[iW.bD]),h v (by simp[iW.bD])]
 | JH x=>simp only[bq,h x (by simp[iW.bD])]
 | Aq x=>simp only[bq,h x (by simp[iW.bD])]
 | JI x=>simp only[bq,h x (by simp[iW.bD])]
 | JJ x=>simp only[bq,h x (by simp[iW.bD])]
 | del kk x k=>simp only[bq,h x (by simp[iW.bD]),h k (by simp[iW.bD])]
 | iX x=>simp only[bq,h x (by simp[iW.bD])]
 | JK e p n=>simp only[bq,h p (by simp[iW.bD]),h n (by simp[iW.bD])]
 | s2b e b x=>simp only[bq,h x (by simp[iW.bD])]
theorem aih{h:Hd}{fr fr':Fr}{H:CH}{o:gB}(he : ∀x∈o.bD,aJ fr x=aJ fr' x):eA h fr H o=eA h fr' H o:=by
 cases o with
 | p x=>simp only[eA,aav (p:=x) he]
 | l x=>simp only[eA,aaw (p:=x) he]
 | a x=>simp only[eA,Kl (p:=x) he]
 | w x=>simp only[eA];exact aig he
 | call f args=>
   have:args.map (aJ fr)=args.map (aJ fr'):=xd λx hx=>he x hx;simp only[eA,this]
 | pg g args=>
   have hg:=he g (by simp[gB.bD]);have ha:args.map (aJ fr)=args.map (aJ fr'):=xd λx hx=>he x (by simp[gB.bD,hx]);simp only[eA,hg,ha]
def slotsOf:List av->List Nat:=λl=>l.filterMap fun | .tmp t=>some t | _=>none
def Item.ft(it:Item):List Nat:=slotsOf it.op.bD++(match it.guard with | some (s,_)=> [s] | none=> [])
theorem AC{fr fr':Fr}{l:List av}(h : ∀t∈slotsOf l,fr t=fr' t) : ∀x∈l,aJ fr x=aJ fr' x:=by
 intro x hx;cases x with
 | tmp t=>exact h t (List.mem_filterMap.2 ⟨.tmp t,hx,rfl⟩)
 | _=>rfl
theorem AD{fr fr':Fr}{it:Item}(h : ∀t∈it.ft,fr t=fr' t):eG fr it.guard=eG fr' it.guard:=by
 cases hg:it.guard with
 | none=>rfl
 | some q=>
   obtain⟨s,b⟩:=q;simp only[eG,h s (by simp[Item.ft,hg])]
theorem Ez{h:Hd}{it:Item}{fr bt am:Fr}{H H1:CH}(ha : ∀t∈it.ft,fr t=bt t)(hs:cX h it fr H=some (am,H1)) : ∃v,am=bO fr it.dst v/\cX h it bt H=some (bO bt it.dst v,H1):=by
 have hw:=AD ha;have e:eA h fr H it.op=eA h bt H it.op:=aih (AC λt ht=>ha t (by simp[Item.ft,ht]));simp only[cX] at hs⊢;rw[<-hw,<-e];split at hs
 ·cases c:eA h fr H it.op with
  | none=>rw[c] at hs;cases hs
  | some q=>rw[c] at hs;cases hs;exact⟨q.1,rfl,rfl⟩
 ·cases hs;exact⟨kg,rfl,rfl⟩
 cases hs
theorem aii{fr:Fr}{a b:Option Nat}{u v:ae}(h : ∀x,a=some x->b≠some x):bO (bO fr a u) b v=bO (bO fr b v) a u:=by
 cases a with
 | none=>rfl
 | some x=>
   cases b with
   | none=>rfl
   | some y=>
     have aB:x≠y:=λe=>h x rfl (by rw[e]);funext t
     simp only[bO];by_cases f:t=y
     ·subst f;have c : ¬t=x:=λg=>aB g.symm;simp[c]
     by_cases c:t=x
     ·subst c;simp[f]
     simp[f,c]
theorem AE{fr:Fr}{a:Option Nat}{v:ae}{t:Nat}(h:a≠some t):bO fr a v t=fr t:=by
 cases a with
 | none=>rfl
 | some x=>simp only[bO];rw[iN (λe=>h (by rw[e]))]
theorem TT{h:Hd}{d:Option Nat}{v:ae} : ∀ {R:List Item} {fr am:Fr} {H H1:CH} {l:List CH},(∀x∈R,∀t,d=some t->t∉x.ft/\x.dst≠some t)->cH h R fr H=some (am,H1,l)->cH h R (bO fr d v) H=some (bO am d v,H1,l)
 | [],fr,am,H,H1,l,_,i=>by simp only[cH,Option.some.injEq,Prod.mk.injEq] at i;obtain⟨rfl,rfl,rfl⟩:=i;rfl
 | x::R,fr,am,H,H1,l,hx,i=>by
   simp only[cH] at i⊢
   cases hs:cX h x fr H with
   | none=>rw[hs] at i;cases i
   | some q=>
     obtain⟨f,K⟩:=q;rw[hs] at i;have j:=hx x (lA ..);obtain⟨u,rfl,h2⟩:=Ez (bt:=bO fr d v) (λt ht=>by
      rw[AE];intro e;exact(j t e).1 ht) hs
     rw[h2];simp only at i⊢
     cases hd:cH h R (bO fr x.dst u) K with
     | none=>rw[hd] at i;cases i
     | some z=>
       obtain⟨a,b,c⟩:=z;rw[hd] at i;simp only[dC,Option.some.injEq,Prod.mk.injEq] at i;obtain⟨rfl,rfl,rfl⟩:=i;have:=TT (v:=v) (λy n=>hx y (jJ _ n)) hd;rw[aii (λt e g=>(j t g).2 e)] at this;rw[this];rfl
theorem EA{h:Hd}{t:Nat} : ∀ {R:List Item} {fr am:Fr} {H H1:CH} {l:List CH},(∀x∈R,x.dst≠some t)->cH h R fr H=some (am,H1,l)->am t=fr t
 | [],fr,am,H,H1,l,_,e=>by simp only[cH,Option.some.injEq,Prod.mk.injEq] at e;obtain⟨rfl,rfl,rfl⟩:=e;rfl
 | x::R,fr,am,H,H1,l,hx,e=>by
   simp only[cH] at e;cases hs:cX h x fr H with
   | none=>rw[hs] at e;cases e
   | some q=>
     obtain⟨f,K⟩:=q;rw[hs] at e;simp only at e;obtain⟨u,rfl,_⟩:=Ez (bt:=fr) (λt _=>rfl) hs;cases hd:cH h R (bO fr x.dst u) K with
     | none=>rw[hd] at e;cases e
     | some z=>
       obtain⟨a,b,c⟩:=z;rw[hd] at e;simp only[dC,Option.some.injEq,Prod.mk.injEq] at e;obtain⟨rfl,rfl,rfl⟩:=e;rw[EA (λy g=>hx y (jJ _ g)) hd,AE (hx x (lA ..))]
theorem OT{h:Hd} : ∀ {R S:List Item} {fr bt:Fr} {H g:CH} {l:List CH},cH h (R++S) fr H=some (bt,g,l)->∃am H1 f l2,cH h R fr H=some (am,H1,f)/\cH h S am H1=some (bt,g,l2)/\l=f++l2
 | [],S,fr,bt,H,g,l,e=>⟨fr,H,[],l,rfl,e,rfl⟩
 | x::R,S,fr,bt,H,g,l,e=>by
   simp only[gZ,cH] at e;cases hs:cX h x fr H with
   | none=>rw[hs] at e;cases e
   | some q=>
     rw[hs] at e;simp only at e;cases hd:cH h (R++S) q.1 q.2 with
     | none=>rw[hd] at e;cases e
     | some z=>
       obtain⟨a,b,c⟩:=z;rw[hd] at e;simp only[dC,Option.some.injEq,Prod.mk.injEq] at e;obtain⟨rfl,rfl,rfl⟩:=e;obtain⟨am,H1,f,l2,h1,h2,rfl⟩:=OT hd;refine⟨am,H1,if bT x.op then q.2::f else f,l2,?_,h2,by split<;>rfl⟩;simp only[cH,hs,h1];rfl
theorem TU{h:Hd} : ∀ {R S:List Item} {fr am bt:Fr} {H H1 e:CH} {f l2:List CH},cH h R fr H=some (am,H1,f)->cH h S am H1=some (bt,e,l2)->cH h (R++S) fr H=some (bt,e,f++l2)
 | [],S,fr,am,bt,H,H1,e,f,l2,h1,h2=>by simp only[cH,Option.some.injEq,Prod.mk.injEq] at h1;obtain⟨rfl,rfl,rfl⟩:=h1;exact h2
 | x::R,S,fr,am,bt,H,H1,e,f,l2,h1,h2=>by
   simp only[gZ,cH] at h1⊢
   cases hs:cX h x fr H with
   | none=>rw[hs] at h1;cases h1
   | some q=>
     rw[hs] at h1;simp only at h1⊢
     cases hd:cH h R q.1 q.2 with
     | none=>rw[hd] at h1;cases h1
     | some z=>
       obtain⟨a,b,c⟩:=z;rw[hd] at h1;simp only[dC,Option.some.injEq,Prod.mk.injEq] at h1;obtain⟨rfl,rfl,rfl⟩:=h1;rw[TU hd h2];simp only[dC];split<;>rfl
def OU (H K:CH):Prop:=∀l,((∃cs e k,H.ob l= .cells cs e k)\/(∃es c,H.ob l= .map es c)\/∃f k,H.ob l= .fm f k)->K.ob l=H.ob l
theorem aax{H K:CH}(j:OU H K){ev:av->ae}{x:iK}{v:ae}(h:aD H ev x=some v):aD K ev x=some v:=by
 cases x with
 | GL kk z ok x i=>
   simp only[aD] at h⊢;split at h;·exact h
   ·rename_i l hx;cases ho:H.ob l with
    | map es c=>rw[j _ (.inr (.inl ⟨_,_,ho⟩)),ho];rw[ho] at h;exact h
    | fm f k=>rw[j _ (.inr (.inr ⟨_,_,ho⟩)),ho];rw[ho] at h;exact h
    | _=>rw[ho] at h;cases h
   cases h
 | ld x=>
   simp only[aD] at h⊢;split at h
   ·split at h;·rename_i g;rw[j _ (.inl ⟨_,_,_,g⟩),g];exact h
    cases h
   cases h
 | kZ n x=>
   simp only[aD] at h⊢;split at h
   ·split at h;·rename_i g;rw[j _ (.inl ⟨_,_,_,g⟩),g];exact h
    cases h
   cases h
 | Ed neg x y=>
   simp only[aD] at h⊢;split at h;·exact h
   ·exact h
   ·split at h;·rename_i g;rw[j _ (.inl ⟨_,_,_,g⟩),g];exact h
    cases h
   cases h
 | Cm f x=>
   simp only[aD] at h⊢;split at h;·exact h
   ·split at h;·rename_i g;rw[j _ (.inl ⟨_,_,_,g⟩),g];exact h
    cases h
   cases h
 | b2s x=>
   simp only[aD] at h⊢;split at h;·exact h
   ·split at h;·rename_i g;rw[j _ (.inl ⟨_,_,_,g⟩),g];exact h
    cases h
   ·exact h
   cases h
 | Cl e sz x lo hi mx=>
   simp only[aD] at h⊢;split at h
   ·rename_i l hh m h1 h2 h3;split at h
    ·rename_i o;have:ri K e (ev x)=true:=by
      simp only[fV] at o;have:=o.1;unfold ri at this⊢;split at this
      ·split at this;·rename_i g;rw[j _ (.inl ⟨_,_,_,g⟩),g]
       ·rename_i k hk g;rw[j _ (.inl ⟨_,_,_,g⟩),g];cases k<;>first | rfl | exact this
       cases this
      rfl
     simp only[fV] at o;simp only[this,o.2,Bool.and_self,iT];exact h
    cases h
   cases h
end
section
open Go Go.RowKit
variable {P:aX} {B:Nat}
def li:gB->Bool
 | .a _=>true
 | _=>false
inductive gP(ops:Array dj):Nat->Nat->Prop where
 | Kn {i:Nat} {o:dj} {e:Edge} (ho:ops[i]? = some o) (he:e∈o.after.toList) (hb:Gp .any e=true):gP ops i e.on
 | trans {i j l:Nat} (h:gP ops i j) (k:gP ops j l):gP ops i l
def DC (ops:Array dj)(listed:Array Bool):Prop:=∀i j,listed.getD i false=true->gP ops i j->listed.getD j false=true
theorem Ko{ops:Array dj}{listed:Array Bool}{i:Nat}(h:i∈zX .any ops listed):i<ops.size/\listed.getD i true=false/\∀o,ops[i]? = some o->∀e∈o.after.toList,Gp .any e=true->listed.getD e.on false=true:=by
 unfold zX at h;obtain⟨h1,h2⟩:=List.mem_filter.1 h;have hi:i<ops.size:=List.mem_range.1 h1;simp only[fV,zT] at h2;refine⟨hi,h2.1,λo ho e he hb=> ?_⟩;have h3:=h2.2;rw[ho] at h3;simp only[dC,tt] at h3;have:=Array.all_eq_true_iff_forall_mem.1 h3 e (by simpa using he);simpa[hb] using this
theorem TV{ops:Array dj}{listed:Array Bool}(c:DC ops listed){i j:Nat}(ha:gP ops i j):(∀o,ops[i]? = some o->∀e∈o.after.toList,Gp .any e=true->listed.getD e.on false=true)->listed.getD j false=true:=by
 induction ha with
 | Kn ho he hb=>intro h;exact h _ ho _ he hb
 | trans h k f n=>intro g;exact c _ _ (f g) k
theorem AG{listed:Array Bool}{i j:Nat}:(listed.setIfInBounds i true).getD j false=true↔(j=i/\i<listed.size)\/listed.getD j false=true:=by
 simp only[sC];by_cases h:i=j
 ·subst h;by_cases hi:i<listed.size
  ·simp[hi]
  simp[hi]
 rw[YR h];constructor;·exact .inr
 rintro(⟨e,_⟩ | e);·exact absurd e.symm h
 exact e
theorem aay{ops:Array dj}{listed:Array Bool}(c:DC ops listed){i:Nat}(hi:i∈zX .any ops listed):DC ops (listed.setIfInBounds i true):=by
 intro a b ha e;rw[AG] at ha⊢
 rcases ha with ⟨rfl,_⟩ | ha
 ·exact .inr (TV c e (Ko hi).2.2)
 exact .inr (c _ _ ha e)
theorem aP.push{β:Nat->aA}{H:CH}{w w':ay}(h:aP P B β H w){o:Obj}(hw:w'.heap=w.heap.push o):aP P B β H w':=by
 have c : ∀b,b<w.heap.size->w'.heap[b]? = w.heap[b]? :=λb hb=>by rw[hw,Ge,iN Om]
 refine⟨λl=>(h.iV l).mono (eS.refl β) λb hb=>c b ?_,h.nx,h.inj,by rw[hw];simp;exact xc h.base,h.ro⟩;exact Ck h hb
theorem aP.aij{β:Nat->aA}{H:CH}{w:ay}(h:aP P B β H w){b sz:Nat}{cs:List ae}{cs':Array ae}{e:aI}{k:Kd}{fr:Nat×Nat}(hb:w.heap[b]? = some (.cells cs' e fr))(p:B<=b)(o:Out β b)(hk:k≠ .ro)(he:(P.info? e).map (·.size)=some sz)
 (hl:cs.length<=cs'.size) (hx:k= .ex->cs.length=cs'.size) (hc : ∀(i:Nat) (v:ae),cs[i]? = some v->∃v',cs'[i]? = some v'/\VR β v v') (q:Ch cs'.size fr) :
 aP P B (dE β H.nx (.live (b,0) sz cs'.size k)) (H.new (.cells cs e k)) w/\eS β (dE β H.nx (.live (b,0) sz cs'.size k))/\∀f,f≠b->Out β f->Out (dE β H.nx (.live (b,0) sz cs'.size k)) f:=by
 have s:=h.od;have g:eS β (dE β H.nx (.live (b,0) sz cs'.size k)):=λl=>by
  by_cases hl:l=H.nx
  ·subst hl;exact .inr (.inl s)
  exact .inl (dT hl)
 refine⟨⟨λl=> ?_,λl hl=> ?_,λl l' f ho c=> ?_,h.base,h.ro.dE λ_ _ _ e=>(by cases e;exact hk rfl)⟩,g,λf aB j l ho=> ?_⟩
 ·by_cases n:l=H.nx
  ·subst n;simp only[eE,CH.new,iT];exact⟨rfl,cs',e,fr,hb,rfl,hl,λi v hv=>let ⟨v',a,b⟩:=hc i v hv;⟨v',a,b.mono g⟩,λ_=>he,λ_=>⟨rfl,p,q⟩,λe=>absurd e hk,λe=>⟨hx e,rfl⟩⟩
  simp only[dT n,CH.new,iN n];exact(h.iV l).mono g λ_ _=>rfl
 ·have:l≠H.nx:=by simp[CH.new] at hl;omega
  simp only[CH.new,iN this];exact h.nx l (by simp[CH.new] at hl;omega)
 ·by_cases h1:l=H.nx<;>by_cases h2:l'=H.nx
  ·rw[h1,h2]
  ·subst h1;rw[eE] at ho;rw[dT h2] at c;rw[<-ho.2] at c;exact absurd c (o l')
  ·subst h2;rw[eE] at c;rw[dT h1] at ho;rw[<-c.2] at ho;exact absurd ho (o l)
  rw[dT h1] at ho;rw[dT h2] at c;exact h.inj _ _ f ho c
 by_cases h1:l=H.nx
 ·subst h1;rw[eE] at ho;exact aB ho.2.symm
 rw[dT h1] at ho;exact j l ho
theorem TX{h:Hd} : ∀ {R:List Item} {fr am:Fr} {H H1:CH} {l:List CH},(∀x∈R,bT x.op=false/\li x.op=false)->cH h R fr H=some (am,H1,l)->H1=H/\l= []
 | [],fr,am,H,H1,l,_,e=>by simp only[cH,Option.some.injEq,Prod.mk.injEq] at e;obtain⟨rfl,rfl,rfl⟩:=e;exact⟨rfl,rfl⟩
 | x::R,fr,am,H,H1,l,hx,e=>by
   simp only[cH] at e;cases hs:cX h x fr H with
   | none=>rw[hs] at e;cases e
   | some q=>
     obtain⟨f,K⟩:=q;have g:=hx x (lA ..);have j:K=H:=by
      simp only[cX] at hs;split at hs
      ·cases i:x.op with
       | p y=>rw[i] at hs;simp only[eA] at hs;cases hp:pop (aJ fr) y<;>rw[hp] at hs<;>simp at hs;exact hs.2.symm
       | l y=>rw[i] at hs;simp only[eA] at hs;cases hp:aD H (aJ fr) y<;>rw[hp] at hs<;>simp at hs;exact hs.2.symm
       | a y=>rw[i] at g;cases g.2
       | w y=>rw[i] at g;cases g.1
       | call f a=>rw[i] at g;cases g.1
       | pg f a=>rw[i] at g;cases g.1
      ·cases hs;rfl
      cases hs
     rw[hs] at e;simp only[g.1,je,iF] at e;cases hd:cH h R f K with
     | none=>rw[hd] at e;cases e
     | some z=>
       obtain⟨a,b,c⟩:=z;rw[hd] at e;simp only[dC,Option.some.injEq,Prod.mk.injEq] at e;obtain⟨rfl,rfl,rfl⟩:=e;obtain⟨h1,h2⟩:=TX (λy n=>hx y (jJ _ n)) hd;exact⟨h1.trans j,h2⟩
theorem aaz{h:Hd}{K:CH} : ∀ {R:List Item} {fr am:Fr} {H H1:CH} {l:List CH},OU H K->(∀x∈R,bT x.op=false/\li x.op=false)->cH h R fr H=some (am,H1,l)->cH h R fr K=some (am,K,[])
 | [],fr,am,H,H1,l,_,_,e=>by simp only[cH,Option.some.injEq,Prod.mk.injEq] at e;obtain⟨rfl,rfl,rfl⟩:=e;rfl
 | x::R,fr,am,H,H1,l,n,hx,e=>by
   simp only[cH] at e⊢
   cases hs:cX h x fr H with
   | none=>rw[hs] at e;cases e
   | some q=>
     obtain⟨f,o⟩:=q;have g:=hx x (lA ..);have s:cX h x fr K=some (f,K)/\o=H:=by
      simp only[cX] at hs⊢;split at hs
      ·cases i:x.op with
       | p y=>rw[i] at hs;simp only[eA] at hs⊢;cases hp:pop (aJ fr) y<;>rw[hp] at hs<;>simp at hs;simp[hs.1,hs.2]
       | l y=>rw[i] at hs;simp only[eA] at hs⊢;cases hp:aD H (aJ fr) y<;>rw[hp] at hs<;>simp at hs;rw[aax n hp];simp[hs.1,hs.2]
       | a y=>rw[i] at g;cases g.2
       | w y=>rw[i] at g;cases g.1
       | call f a=>rw[i] at g;cases g.1
       | pg f a=>rw[i] at g;cases g.1
      ·cases hs;exact⟨rfl,rfl⟩
      cases hs
     obtain⟨j,rfl⟩:=s;rw[hs] at e;rw[j];simp only[g.1,je,iF] at e⊢
     cases hd:cH h R f o with
     | none=>rw[hd] at e;cases e
     | some z=>
       obtain⟨a,b,c⟩:=z;rw[hd] at e;simp only[dC,Option.some.injEq,Prod.mk.injEq] at e;obtain⟨rfl,rfl,rfl⟩:=e;rw[aaz n (λy t=>hx y (jJ _ t)) hd];rfl
end
section
open Go Go.RowKit
variable {P:aX} {B:Nat}
structure DS(P:aX)(N:Nat)(ops:Array dj)(d:jB) where
 af:Nat->Item
 ok : ∀i o,ops[i]? = some o->yF P N ops o (af i)
 rK:List Nat
 Cw:d.af=rK.map af
 mem : ∀i,i∈rK↔i<ops.size
 pos:Nat->Nat
 uR:rK.Pairwise (λa b=>pos a<pos b)
 yO : ∀i j,i<ops.size->gP ops i j->j<ops.size/\pos j<pos i
 dd : ∀i j t,i<ops.size->j<ops.size->(af i).dst=some t->(af j).dst=some t->i=j
 d2 : ∀i j t,i<ops.size->j<ops.size->i≠j->(af i).dst=some t->t∈(af j).ft->gP ops j i\/(gP ops i j/\li (af j).op=false)
 Kq : ∀j t,j<ops.size->li (af j).op=true->(af j).dst=some t->t∉(af j).ft
 ga : ∀i j t b,i<ops.size->j<ops.size->li (af i).op=true->(af i).dst=some t->(af j).guard≠some (t,b)
 d4 : ∀i j,i<ops.size->j<ops.size->bT (af j).op=true->pos i<pos j->gP ops j i
 s2 : ∀d i t,d<ops.size->i<ops.size->bT (af d).op=false->li (af i).op=true->(af i).dst=some t->t∈(af d).ft->∀x,x<ops.size->pos x<pos i->
  (bT (af x).op=true->gP ops d x)/\(li (af x).op=true->(∃y,y<ops.size/\bT (af y).op=true/\pos x<pos y/\pos y<pos i)\/gP ops d x)
 rk:Nat->Nat
 rk1 : ∀x y,x<ops.size->y<ops.size->bT (af x).op=true->bT (af y).op=true->rk x<rk y->pos x<pos y
 rk2 : ∀x q,x<ops.size->bT (af x).op=true->q<rk x->∃y,y<ops.size/\bT (af y).op=true/\rk y=q
 rk3 : ∀x y,x<ops.size->y<ops.size->bT (af x).op=true->bT (af y).op=true->rk x=rk y->x=y
 lo:Nat->Nat
 hi:Nat->Nat
 lo1 : ∀r q,r<ops.size->q<lo r->∃x,x<ops.size/\bT (af x).op=true/\rk x=q/\gP ops r x
 Cx : ∀r x,r<ops.size->x<ops.size->bT (af x).op=true->rk x<hi r\/pos r<pos x
 rd : ∀r x,r<ops.size->(af r).op= .l x->
  (∀x,x<ops.size->pos x<pos r->(bT (af x).op=true->gP ops r x)/\(li (af x).op=true->(∃y,y<ops.size/\bT (af y).op=true/\pos x<pos y/\gP ops r y)\/∃t,(af x).dst=some t/\t∈(af r).ft))\/
  ((∀t j,t∈(af r).ft->j<ops.size->(af j).dst=some t->gP ops r j)/\∀s,lo r<=s->s<=hi r->(af r,s)∈d.nB)
def DS.dz{P:aX}{N:Nat}{ops:Array dj}{d:jB}(S:DS P N ops d):Prop:=∀Zl,d.yG=some Zl->∀A k R,S.rK=A++k::R->(∀x∈A,qD (S.af x).op=true)->qD (S.af k).op=false->∃c:List Nat,Zl=c.map (λz=>mK (S.af z))/\c.Sublist R/\(∀z∈c,qD (mK (S.af z)).op=true/\∀t,(S.af z).dst=some t->t∉(S.af k).ft)/\∀b∈R,b∈c\/gP ops b k
structure AH(P:aX)(B N:Nat)(w0:ay)(β:Nat->aA)(fr:Fr)(a:Act)(w:ay)(it:Item)(b:Nat):Prop where
 ex : ∃x cs e k mk cs' iX sz v',it.op= .a x/\eG fr it.guard=some true/\cq (aJ fr) x=some (cs,e,k,mk)/\k≠ .ro/\(P.info? e).map (·.size)=some sz/\w.heap[b]? = some (.cells cs' e iX)/\
  cs.length<=cs'.size/\(k= .ex->cs.length=cs'.size)/\(∀(i:Nat) (v:ae),cs[i]? = some v->∃u,cs'[i]? = some u/\VR β v u)/\(Ch cs'.size iX)/\
  On mk b sz k cs'.size v'/\∀t,it.dst=some t->a.tmps.getD t undef=v'
 base:B<=b
 arh:w0.heap.size<=b
 out:Out β b
structure Core{N:Nat}{ops:Array dj}{d:jB}(S:DS P N ops d)(B:Nat)(h:Hd)(β0:Nat->aA)(w0:ay)(fr':Fr)(H':CH)(β:Nat->aA)(fr:Fr)(H:CH)(R:List Nat)(bj:List (Nat×Nat))(l:List CH)(m:Nat)(a:Act)(w:ay):Prop where
 lt : ∀i∈R,i<ops.size
 uR:R.Pairwise (λx y=>S.pos x<S.pos y)
 pT : ∀p∈bj,p.1∈R/\li (S.af p.1).op=true
 Hc : ∀p∈bj,AH P B N w0 β fr a w (S.af p.1) p.2
 Ks:bj.Pairwise (λp q=>p.1≠q.1/\p.2≠q.2)
 Cy : ∀p∈bj,∀j,gP ops p.1 j->j∉R\/∃q∈bj,q.1=j
 Kt : ∀p∈bj,∀q∈bj,∀t,(S.af q.1).dst=some t->t∉(S.af p.1).ft
 run:cH h (R.map S.af) fr H=some (fr',H',l)
 AI:aP P B β H w
 ou:cd β0 w0 β w
 size:N<=a.tmps.size
 fr : ∀t,(∃p∈bj,(S.af p.1).dst=some t)\/VR β (fr t) (a.tmps.getD t undef)
 done : ∀x,x<ops.size->bT (S.af x).op=true->(x∉R↔S.rk x<m)
 mW : ∀q,q<m->∃y,y<ops.size/\bT (S.af y).op=true/\S.rk y=q
 past : ∀y,y<ops.size->bT (S.af y).op=true->y∉R->∀x,x<ops.size->S.pos x<S.pos y->x∉R
 nB : ∀r∈R,∀s,(S.af r,s)∈d.nB->S.lo r<=s->s<=S.hi r->m<=s->∃G,(H::l)[s-m]? = some G/\wq fr' G (S.af r)
theorem wq.fill{fr:Fr}{G K:CH}{it:Item}(h:wq fr G it)(c:OU G K):wq fr K it:=by
 rcases h with h | ⟨x,d,h1,h2,h3⟩
 ·exact .inl h
 exact .inr ⟨x,d,h1,h2,aax c h3⟩
theorem aaA{P:aX}{B:Nat}{β:Nat->aA}{H:CH}{w:ay}(h:aP P B β H w)(o:dD):OU H (H.new o):=λl hl=>by
 have:l≠H.nx:=λg=>by
  rw[g,h.nx _ (ai _)] at hl;rcases hl with ⟨_,_,_,hl⟩ | ⟨_,_,hl⟩ | ⟨_,_,hl⟩<;>cases hl
 simp[CH.new,this]
theorem AH.dk{N:Nat}{w0:ay}{β β':Nat->aA}{fr bt:Fr}{a a':Act}{w w':ay}{it:Item}{b:Nat}(h:AH P B N w0 β fr a w it b)(hx:eS β β')(hw:w'.heap[b]? = w.heap[b]?)(ho:Out β' b)(c : ∀t∈it.ft,bt t=fr t)(ha : ∀t,it.dst=some t->a'.tmps.getD t undef=a.tmps.getD t undef) :
 AH P B N w0 β' bt a' w' it b:=by
 obtain⟨⟨x,cs,e,k,mk,cs',iX,sz,v',h1,h2,h3,h4,h5,f,g,j,n,o,s,y⟩,hb,z,_⟩:=h;refine⟨⟨x,cs,e,k,mk,cs',iX,sz,v',h1,?_,?_,h4,h5,hw.trans f,g,j,λi v hv=>let ⟨u,p,q⟩:=n i v hv;⟨u,p,q.mono hx⟩,o,s,λt ht=>(ha t ht).trans (y t ht)⟩,hb,z,ho⟩;·rw[AD c];exact h2
 rw[Kl (AC λt ht=>c t (by simp only[Item.ft,h1,gu];exact .inl ht))];exact h3
theorem AL{α:Type}{r:α->α->Prop}{R1 R2:List α}{i:α}(h:(R1++i::R2).Pairwise r):(∀x∈R1,r x i)/\(∀x∈R2,r i x)/\(R1++R2).Pairwise r:=by
 rw[Sv] at h;obtain⟨h1,h2,h3⟩:=h;rw[Sx] at h2;refine⟨λx hx=>h3 x hx i (lA ..),h2.1,?_⟩;rw[Sv];exact⟨h1,h2.2,λx hx y c=>h3 x hx y (jJ _ c)⟩
theorem Core.catch{N:Nat}{ops:Array dj}{d:jB}{S:DS P N ops d}{h:Hd}{β0:Nat->aA}{w0:ay}{fr':Fr}{H':CH}{β:Nat->aA}{fr:Fr}{H:CH}{R1 R2:List Nat}{i b:Nat}{bj:List (Nat×Nat)}{l:List CH}{m:Nat}{a:Act}{w:ay}
 (C:Core S B h β0 w0 fr' H' β fr H (R1++i::R2) bj l m a w) (hl:(i,b)∈bj) (O : ∀x∈R1,bT (S.af x).op=false/\li (S.af x).op=false) :
 ∃β2 bt H2 Q,Core S B h β0 w0 fr' H' β2 bt H2 (R1++R2) Q l m a w/\(∀p,p∈Q↔p∈bj/\p.1≠i)/\Q.length<bj.length:=by
 obtain⟨p1,p2,p3⟩:=AL C.uR;have hi:i<ops.size:=C.lt i Sm;have U:li (S.af i).op=true:=(C.pT _ hl).2;have V:bT (S.af i).op=false:=by cases bC:(S.af i).op<;>rw[bC] at U<;>first | rfl | cases U
 obtain⟨⟨x,cs,e,k,mk,cs',iX,sz,v',h1,h2,h3,h4,h5,h6,h7,h8,h9,ph,W,xy⟩,X,Oq,gO⟩:=C.Hc _ hl;have aY:=C.run;rw[zY,c8] at aY;obtain⟨am,H1,l1,l2,g1,g2,rfl⟩:=OT aY;obtain⟨rfl,rfl⟩:=TX (λy o=>by obtain⟨z,hz,rfl⟩:=List.mem_map.1 o;exact O z hz) g1;have J : ∀z∈R1++R2,z≠i:=λz hz e=>by
  subst e;rcases List.mem_append.1 hz with hz | hz
  ·exact absurd (p1 z hz) (Jm _)
  exact absurd (p2 z hz) (Jm _)
 have Y : ∀z∈R1++R2,z<ops.size:=λz hz=>C.lt z (by rcases List.mem_append.1 hz with hz | hz<;>simp[hz]);have Z : ∀z∈R1,¬ ∃q∈bj,q.1=z:=λz hz ⟨q,uS,TY⟩=>by
  have:=(C.pT q uS).2;rw[TY,(O z hz).2] at this;cases this
 have jC : ∀z∈R1,¬gP ops i z:=λz hz ha=>by
  rcases C.Cy _ hl z ha with g | g
  ·exact g (by simp[hz])
  exact Z z hz g
 have CA : ∀t∈(S.af i).ft,am t=fr t:=λt ht=>by
  refine EA (λy o e=> ?_) g1;obtain⟨z,hz,rfl⟩:=List.mem_map.1 o;have F:=Y z (by simp[hz]);rcases S.d2 z i t F hi (J z (by simp[hz])) e ht with q | ⟨q,q'⟩
  ·exact jC z hz q
  rw[U] at q';cases q'
 have Hf : ∀y∈R1.map S.af,∀t,(S.af i).dst=some t->t∉y.ft/\y.dst≠some t:=λy o t ht=>by
  obtain⟨z,hz,rfl⟩:=List.mem_map.1 o;have F:=Y z (by simp[hz]);refine⟨λhu=> ?_,λe=>J z (by simp[hz]) (S.dd _ _ t F hi e ht)⟩;rcases S.d2 i z t hi F (λe=>J z (by simp[hz]) e.symm) ht hu with q | ⟨q,_⟩
  ·exact absurd (S.yO _ _ F q).2 (by have:=p1 z hz;omega)
  exact jC z hz q
 have wz : ∀f:Fr,(∀t∈(S.af i).ft,f t=fr t)->cX h (S.af i) f H1=some (bO f (S.af i).dst (db mk H1.nx),H1.new (.cells cs e k)):=λf hf=>by
  have hw:eG f (S.af i).guard=some true:=by rw[AD hf];exact h2
  have ha:cq (aJ f) x=some (cs,e,k,mk):=by
   rw[Kl (AC λt ht=>hf t (by simp only[Item.ft,h1,gu];exact .inl ht))];exact h3
  simp only[cX,hw,h1,eA,ha,dC]
 have iz:=wz am CA;simp only[cH,iz,V,je,iF] at g2;have g2':cH h (R2.map S.af) (bO am (S.af i).dst (db mk H1.nx)) (H1.new (.cells cs e k))=some (fr',H',l2):=by
  cases hz:cH h (R2.map S.af) (bO am (S.af i).dst (db mk H1.nx)) (H1.new (.cells cs e k)) with
  | none=>rw[hz] at g2;cases g2
  | some z=>obtain⟨v,z2,z3⟩:=z;rw[hz] at g2;simpa using g2
 have Ku:cH h ((R1++R2).map S.af) (bO fr (S.af i).dst (db mk H1.nx)) (H1.new (.cells cs e k))=some (fr',H',[]++l2):=by
  rw[zY];exact TU (aaz (aaA C.AI _) (λy o=>by obtain⟨z,hz,rfl⟩:=List.mem_map.1 o;exact O z hz) (TT Hf g1)) g2'
 obtain⟨q1,q2,q3⟩:=C.AI.aij h6 X gO h4 h5 h7 h8 h9 ph;have A : ∀p,p∈bj.filter (λp=>decide (p.1≠i))↔p∈bj/\p.1≠i:=λp=>by simp[List.mem_filter]
 refine⟨dE β H1.nx (.live (b,0) sz cs'.size k),bO fr (S.af i).dst (db mk H1.nx),H1.new (.cells cs e k),bj.filter (λp=>decide (p.1≠i)),?_,A,List.length_filter_lt_length_iff_exists.2 ⟨_,hl,Sm⟩⟩;have aim : ∀p∈bj,p.1≠i->p.2≠b:=λp hp aB e=>by
  have key : ∀(L:List (Nat×Nat)),L.Pairwise (λp q=>p.1≠q.1/\p.2≠q.2)->p∈L->(i,b)∈L->False:=by
   intro L;induction L with
   | nil=>intro _ hp;cases hp
   | cons y L ih=>
     intro I hp Kv;rw[Sx] at I;rcases List.mem_cons.1 hp with rfl | jx
     ·rcases List.mem_cons.1 Kv with e' | Kw
      ·exact aB (by rw[<-e'])
      exact(I.1 _ Kw).2 e
     rcases List.mem_cons.1 Kv with e' | Kw
     ·rw[<-e'] at I;exact(I.1 _ jx).2 e.symm
     exact ih I.2 jx Kw
  exact key bj C.Ks hp hl
 refine⟨Y,p3,λp hp=> ?_,λp hp=> ?_,C.Ks.filter _,λp hp j hj=> ?_,λp hp q ED t ht=> ?_,Ku,q1,?_,C.size,λt=> ?_,λy o D=> ?_,C.mW,λy o D CC z hz Kx=> ?_,λr hr s hs c1 c2 c3=> ?_⟩
 ·obtain⟨u,jx⟩:=(A p).1 hp;refine⟨?_,(C.pT p u).2⟩;have:=(C.pT p u).1;simp only[gu,mD] at this⊢
  rcases this with g | g | g
  ·exact .inl g
  ·exact absurd g jx
  exact .inr g
 ·obtain⟨u,jx⟩:=(A p).1 hp;refine(C.Hc p u).dk q2 rfl (q3 _ (aim p u jx) (C.Hc p u).out) (λt ht=>AE λe=>C.Kt p u _ hl t e ht) (λt ht=>rfl)
 ·obtain⟨u,jx⟩:=(A p).1 hp;rcases C.Cy p u j hj with g | ⟨q,uS,rfl⟩
  ·exact .inl λHh=>g (by rcases List.mem_append.1 Hh with Hh | Hh<;>simp[Hh])
  by_cases e:q.1=i
  ·refine .inl λHh=>J _ Hh e
  exact .inr ⟨q,(A q).2 ⟨uS,e⟩,rfl⟩
 ·exact C.Kt p ((A p).1 hp).1 q ((A q).1 ED).1 t ht
 ·refine⟨C.ou.os,C.ou.tape,C.ou.output,C.ou.size,λb' hO dO=> ?_,C.ou.ext.trans q2⟩;obtain⟨r1,r2⟩:=C.ou.dk b' hO dO;exact⟨r1,q3 b' Om r2⟩
 ·by_cases M:(S.af i).dst=some t
  ·right;rw[M];simp only[bO,iT];rw[xy t M];cases mk with
   | ptr=>simp only[On] at W;subst W;exact .ptr eE
   | sl n c=>
     obtain⟨c',rfl,v,z2,z3,z4,z5⟩:=W;exact .sl eE v z2 z3 (λ_=>by simpa using z4) z5
  rw[AE M];rcases C.fr t with ⟨p,u,jx⟩ | g
  ·left;refine⟨p,(A p).2 ⟨u,λe=>M (by rw[<-e];exact jx)⟩,jx⟩
  exact .inr (g.mono q2)
 ·have T0:y≠i:=λe=>by rw[e,V] at D;cases D
  rw[<-C.done y o D];simp only[gu,mD,T0,false_or]
 ·have T0:y≠i:=λe=>by rw[e,V] at D;cases D
  have:=C.past y o D (by simp only[gu,mD,T0,false_or] at CC⊢;exact CC) z hz Kx;intro g;exact this (by rcases List.mem_append.1 g with g | g<;>simp[g])
 obtain⟨G,v,z2⟩:=C.nB r (by rcases List.mem_append.1 hr with hr | hr<;>simp[hr]) s hs c1 c2 c3;cases uT:s-m with
 | zero=>
   rw[uT] at v;simp only[eZ,Option.some.injEq] at v⊢;subst v;exact⟨_,rfl,z2.fill (aaA C.AI _)⟩
 | succ q=>
   rw[uT] at v;simp only[e9] at v⊢;exact⟨G,v,z2⟩
def Ex (R:List Nat)(bj:List (Nat×Nat))(j:Nat):Prop:=j∉R\/∃q∈bj,q.1=j
section
variable {N:Nat} {ops:Array dj} {d:jB} {S:DS P N ops d} {h:Hd} {β0:Nat->aA} {w0:ay} {fr':Fr} {H':CH} {β:Nat->aA} {fr:Fr} {H:CH} {R:List Nat} {bj:List (Nat×Nat)} {l:List CH} {m:Nat} {a:Act} {w:ay}
theorem T1{R1 R2:List Nat}{i b:Nat}{n:List (Nat×Nat)}(s:i∉R1++R2)(hl:(i,b)∈bj)(o : ∀p,p∈n↔p∈bj/\p.1≠i)(j:Nat):Ex (R1++R2) n j↔Ex (R1++i::R2) bj j:=by
 unfold Ex;by_cases e:j=i
 ·subst e;exact⟨λ_=> .inr ⟨_,hl,rfl⟩,λ_=> .inl s⟩
 constructor
 ·rintro(g | ⟨q,f,rfl⟩)
  ·refine .inl λc=>g ?_;simp only[gu,mD,e,false_or] at c⊢;exact c
  exact .inr ⟨q,((o q).1 f).1,rfl⟩
 rintro(g | ⟨q,f,rfl⟩)
 ·refine .inl λc=>g ?_;simp only[gu,mD,e,false_or] at c⊢;exact c
 exact .inr ⟨q,(o q).2 ⟨f,e⟩,rfl⟩
theorem Core.AM{R1 R2:List Nat}{i:Nat}(C:Core S B h β0 w0 fr' H' β fr H (R1++i::R2) bj l m a w):i∉R1++R2:=λc=>by
 obtain⟨e,f,_⟩:=AL C.uR;rcases List.mem_append.1 c with g | g
 ·exact absurd (e i g) (Jm _)
 exact absurd (f i g) (Jm _)
theorem Core.CD(C:Core S B h β0 w0 fr' H' β fr H R bj l m a w){x:Nat}(hx:bT (S.af x).op=true) : ¬ ∃q∈bj,q.1=x:=λ⟨q,c,e⟩=>by
 have:=(C.pT q c).2;rw[e] at this;cases f:(S.af x).op<;>rw[f] at hx this<;>first | (cases hx;done) | (cases this;done)
theorem aaB{p:Nat->Bool} : ∀ {l:List Nat},(∃z∈l,p z=true)->∃c z l2,l=c++z::l2/\p z=true/\∀y∈c,p y=false
 | [],h=>by obtain⟨z,hz,_⟩:=h;cases hz
 | a::l,h=>by
   cases ha:p a with
   | true=>exact⟨[],a,l,rfl,ha,λy hy=>by cases hy⟩
   | false=>
     have : ∃z∈l,p z=true:=by
      obtain⟨z,hz,h2⟩:=h;rcases List.mem_cons.1 hz with rfl | hz
      ·rw[ha] at h2;cases h2
      exact⟨z,hz,h2⟩
     obtain⟨c,z,l2,rfl,h1,h2⟩:=aaB this;refine⟨a::c,z,l2,rfl,h1,λy hy=> ?_⟩;rcases List.mem_cons.1 hy with rfl | hy
     ·exact ha
     exact h2 y hy
theorem Core.feed : ∀(n:Nat) {β:Nat->aA} {fr:Fr} {H:CH} {R:List Nat} {bj:List (Nat×Nat)},bj.length<=n->∀(C:Core S B h β0 w0 fr' H' β fr H R bj l m a w) {i:Nat},i<ops.size->bT (S.af i).op=false->i∈R->(¬ ∃q∈bj,q.1=i)->(∀j,gP ops i j->Ex R bj j)->
 ∃β2 bt Q R2 u,Core S B h β0 w0 fr' H' β2 bt Q R2 u l m a w/\(∀j,Ex R2 u j↔Ex R bj j)/\i∈R2/\(∀q∈u,∀t,(S.af q.1).dst=some t->t∉(S.af i).ft):=by
 intro n;induction n with
 | zero=>
   intro β fr H R bj hn C i hi J c v o;have:bj= []:=List.length_eq_zero_iff.1 Om;subst this;exact⟨β,fr,H,R,[],C,λ_=>eM,c,λq f=>by cases f⟩
 | succ n ih=>
   intro β fr H R bj hn C i hi J c v o;by_cases hex : ∃q∈bj,∃t,(S.af q.1).dst=some t/\t∈(S.af i).ft
   ·obtain⟨⟨x,b⟩,f,t,ht,hu⟩:=hex;obtain⟨U,lE⟩:=C.pT _ f;simp only at U lE ht;have hx:=C.lt x U;obtain⟨R1,R2,rfl⟩:=Sy U;have V:=S.s2 i x t hi hx J lE ht hu;obtain⟨p1,p2,_⟩:=AL C.uR;have A : ∀z∈R1,bT (S.af z).op=false:=λz hz=>by
     have s:z∈R1++x::R2:=by simp[hz]
     have L:=C.lt z s;cases Ky:bT (S.af z).op with
     | false=>rfl
     | true=>
       rcases o z ((V z L (p1 z hz)).1 Ky) with g | g
       ·exact absurd s g
       exact absurd g (C.CD Ky)
    have W : ∀z∈R1,li (S.af z).op=true->∃q∈bj,q.1=z:=λz hz D=>by
     have s:z∈R1++x::R2:=by simp[hz]
     have L:=C.lt z s;rcases(V z L (p1 z hz)).2 D with ⟨y,y1,X,y3,y4⟩ | ha
     ·have M:y∉R1++x::R2:=by
       rcases o y ((V y y1 y4).1 X) with g | g
       ·exact g
       exact absurd g (C.CD X)
      exact absurd s (C.past y y1 X M z L y3)
     rcases o z ha with g | g
     ·exact absurd s g
     exact g
    by_cases Kz : ∃z∈R1,li (S.af z).op=true
    ·obtain⟨O,z,Y,rfl,D,Ar⟩:=aaB (p:=λz=>li (S.af z).op) Kz;obtain⟨⟨Z,b'⟩,ED,tI⟩:=W z Sm D;simp only at tI;subst tI;have hRe:(O++Z::Y)++x::R2=O++Z::(Y++x::R2):=by simp
     rw[hRe] at C c o⊢
     have KA : ∀y∈O,bT (S.af y).op=false/\li (S.af y).op=false:=λy M=>⟨A y (by simp[M]),Ar y M⟩;obtain⟨β2,bt,Q,u,C2,F,G⟩:=C.catch ED KA;have I:=λj=>T1 (R1:=O) (R2:=Y++x::R2) C.AM ED F j;have J0:i≠Z:=λe=>v ⟨_,ED,e.symm⟩;obtain⟨β3,tK,H3,R3,KC,C3,e3,m3,f3⟩:=ih Om C2 hi J (by simp only[gu,mD,J0,false_or] at c⊢;exact c) (λ⟨q,q1,q2⟩=>v ⟨q,((F q).1 q1).1,q2⟩) (λj hj=>(I j).2 (o j hj));exact⟨β3,tK,H3,R3,KC,C3,λj=>(e3 j).trans (I j),m3,f3⟩
    have KA : ∀z∈R1,bT (S.af z).op=false/\li (S.af z).op=false:=λz hz=>⟨A z hz,by
     cases D:li (S.af z).op with
     | false=>rfl
     | true=>exact absurd ⟨z,hz,D⟩ Kz⟩
    obtain⟨β2,bt,Q,u,C2,F,G⟩:=C.catch f KA;have I:=λj=>T1 (R1:=R1) (R2:=R2) C.AM f F j;have J0:i≠x:=λe=>v ⟨_,f,e.symm⟩;obtain⟨β3,tK,H3,R3,KC,C3,e3,m3,f3⟩:=ih Om C2 hi J (by simp only[gu,mD,J0,false_or] at c⊢;exact c) (λ⟨q,q1,q2⟩=>v ⟨q,((F q).1 q1).1,q2⟩) (λj hj=>(I j).2 (o j hj));exact⟨β3,tK,H3,R3,KC,C3,λj=>(e3 j).trans (I j),m3,f3⟩
   exact⟨β,fr,H,R,bj,C,λ_=>eM,c,λq f t ht hu=>hex ⟨q,f,t,ht,hu⟩⟩
theorem Core.front : ∀(R1:List Nat) {R2:List Nat} {i:Nat} {β:Nat->aA} {fr:Fr} {H:CH} {bj:List (Nat×Nat)} (C:Core S B h β0 w0 fr' H' β fr H (R1++i::R2) bj l m a w),(∀x∈R1,∃q∈bj,q.1=x)->
 ∃β2 bt g c,Core S B h β0 w0 fr' H' β2 bt g (i::R2) c l m a w/\(∀j,Ex (i::R2) c j↔Ex (R1++i::R2) bj j)
 | [],R2,i,β,fr,H,bj,C,_=>⟨β,fr,H,bj,C,λ_=>eM⟩
 | x::R1,R2,i,β,fr,H,bj,C,hx=>by
   obtain⟨⟨x',b⟩,n,rfl⟩:=hx x (lA ..);have f:Core S B h β0 w0 fr' H' β fr H ([]++x'::(R1++i::R2)) bj l m a w:=C;obtain⟨β2,bt,g,c,t,o,p⟩:=f.catch n (λz hz=>by cases hz);have u:=λj=>T1 (R1:= []) (R2:=R1++i::R2) f.AM n o j;have v:=f.AM;obtain⟨β3,y,A,D,F,G⟩:=Core.front R1 t (λz hz=>by
    obtain⟨q,I,s⟩:=hx z (jJ _ hz);exact⟨q,(o q).2 ⟨I,λe=>v (by rw[<-e,s];simp[hz])⟩,s⟩)
   exact⟨β3,y,A,D,F,λj=>(G j).trans (u j)⟩
end
end
section
open Go Go.RowKit
variable {P:aX} {B:Nat}
section
variable {N:Nat} {ops:Array dj} {d:jB} {S:DS P N ops d} {h:Hd} {β0:Nat->aA} {w0:ay} {fr':Fr} {H':CH} {β:Nat->aA} {fr:Fr} {H:CH} {R:List Nat} {bj:List (Nat×Nat)} {l:List CH} {m:Nat} {a:Act} {w:ay}
open Classical in
noncomputable def patch(S:DS P N ops d)(bj:List (Nat×Nat))(fr:Fr):Fr:=λt=>if ∃q∈bj,(S.af q.1).dst=some t then undef else fr t
theorem Core.aaC(C:Core S B h β0 w0 fr' H' β fr H R bj l m a w):FR β N (patch S bj fr) a:=by
 refine⟨C.size,λt=> ?_⟩;unfold patch;split;·exact .undef _
 rename_i hn;rcases C.fr t with g | g
 ·exact absurd g hn
 exact g
theorem aaD{i:Nat}(c : ∀q∈bj,∀t,(S.af q.1).dst=some t->t∉(S.af i).ft) : ∀t∈(S.af i).ft,fr t=patch S bj fr t:=by
 intro t ht;unfold patch;rw[iN];rintro⟨q,f,e⟩;exact c q f t e ht
theorem Core.quiet(C:Core S B h β0 w0 fr' H' β fr H R bj l m a w){i:Nat}(hi:i<ops.size)(oE:i∈R)(au : ¬ ∃q∈bj,q.1=i)(A:bT (S.af i).op=false)(Cz:li (S.af i).op=false\/eG fr (S.af i).guard=some false)
 (V : ∀j,gP ops i j->Ex R bj j) (AO : ∀q∈bj,∀t,(S.af q.1).dst=some t->t∉(S.af i).ft) :
 ∃R1 R2 v,R=R1++i::R2/\cX h (S.af i) fr H=some (bO fr (S.af i).dst v,H)/\cH h ((R1++R2).map S.af) (bO fr (S.af i).dst v) H=some (fr',H',l):=by
 obtain⟨R1,R2,rfl⟩:=Sy oE;obtain⟨W,p2,p3⟩:=AL C.uR;have L : ∀z∈R1++R2,z≠i:=λz hz e=>C.AM (e▸hz);have X : ∀z∈R1++R2,z<ops.size:=λz hz=>C.lt z (by rcases List.mem_append.1 hz with hz | hz<;>simp[hz]);have M : ∀z∈R1,z∈R1++i::R2:=λz hz=>by simp[hz]
 have Y : ∀z∈R1,gP ops i z->∃q∈bj,q.1=z:=λz hz ha=>by
  rcases V z ha with g | g
  ·exact absurd (M z hz) g
  exact g
 have aY:=C.run;rw[zY,c8] at aY;obtain⟨am,H1,l1,l2,g1,g2,rfl⟩:=OT aY;have CA : ∀t∈(S.af i).ft,am t=fr t:=λt ht=>by
  refine EA (λy c e=> ?_) g1;obtain⟨z,hz,rfl⟩:=List.mem_map.1 c;have n:=X z (by simp[hz]);rcases S.d2 z i t n hi (L z (by simp[hz])) e ht with q | ⟨q,_⟩
  ·obtain⟨D,F,I⟩:=Y z hz q;exact AO D F t (by rw[I];exact e) ht
  exact absurd (S.yO _ _ n q).2 (by have:=W z hz;omega)
 have Hf : ∀y∈R1.map S.af,∀t,(S.af i).dst=some t->t∉y.ft/\y.dst≠some t:=λy c t ht=>by
  obtain⟨z,hz,rfl⟩:=List.mem_map.1 c;have n:=X z (by simp[hz]);refine⟨λhu=> ?_,λe=>L z (by simp[hz]) (S.dd _ _ t n hi e ht)⟩;rcases S.d2 i z t hi n (λe=>L z (by simp[hz]) e.symm) ht hu with q | ⟨q,qa⟩
  ·exact absurd (S.yO _ _ n q).2 (by have:=W z hz;omega)
  obtain⟨D,F,I⟩:=Y z hz q;have:=(C.pT D F).2;rw[I,qa] at this;cases this
 have CE:eG am (S.af i).guard=eG fr (S.af i).guard:=AD CA;simp only[cH] at g2;cases hs:cX h (S.af i) am H1 with
 | none=>rw[hs] at g2;cases g2
 | some q=>
   obtain⟨f,K⟩:=q;rw[hs] at g2;simp only[A,je,iF] at g2;have g3:cH h (R2.map S.af) f K=some (fr',H',l2):=by
    cases hz:cH h (R2.map S.af) f K with
    | none=>rw[hz] at g2;cases g2
    | some z=>obtain⟨Z,z2,z3⟩:=z;rw[hz] at g2;simpa using g2
   have fin : ∀v,f=bO am (S.af i).dst v->K=H1->cX h (S.af i) fr H=some (bO fr (S.af i).dst v,H)->∃O T3 v,R1++i::R2=O++i::T3/\cX h (S.af i) fr H=some (bO fr (S.af i).dst v,H)/\cH h ((O++T3).map S.af) (bO fr (S.af i).dst v) H=some (fr',H',l1++l2):=by
    intro v e1 e2 e3;subst e1 e2;refine⟨R1,R2,v,rfl,e3,?_⟩;rw[zY];exact TU (TT Hf g1) g3
   simp only[cX] at hs;cases hw:eG fr (S.af i).guard with
   | none=>rw[CE,hw] at hs;cases hs
   | some b=>
     rw[CE,hw] at hs;cases b with
     | false=>
       simp only[Option.some.injEq,Prod.mk.injEq] at hs;exact fin kg hs.1.symm hs.2.symm (by simp only[cX,hw])
     | true=>
       have hA:li (S.af i).op=false:=by
        rcases Cz with g | g
        ·exact g
        rw[hw] at g;cases g
       simp only at hs;cases o:(S.af i).op with
       | a x=>rw[o] at hA;cases hA
       | w x=>rw[o] at A;cases A
       | call f a=>rw[o] at A;cases A
       | pg f a=>rw[o] at A;cases A
       | p x=>
         rw[o] at hs;simp only[eA] at hs;cases hp:pop (aJ am) x with
         | none=>rw[hp] at hs;cases hs
         | some u=>
           rw[hp] at hs;simp only[dC,Option.some.injEq,Prod.mk.injEq] at hs;have jx:pop (aJ fr) x=some u:=by
            rw[<-hp];exact aav (AC λt ht=>(CA t (by simp only[Item.ft,o,gu];exact .inl ht)).symm)
           exact fin u hs.1.symm hs.2.symm (by simp only[cX,hw,o,eA,jx,dC])
       | l x=>
         rw[o] at hs;simp only[eA] at hs;cases hp:aD H1 (aJ am) x with
         | none=>rw[hp] at hs;cases hs
         | some u=>
           rw[hp] at hs;simp only[dC,Option.some.injEq,Prod.mk.injEq] at hs;have Q : ∀(f:Fr) (G:CH),(∀t∈(S.af i).ft,f t=fr t)->aD G (aJ f) x=aD G (aJ fr) x:=λf G hf=>
            aaw (AC λt ht=>hf t (by simp only[Item.ft,o,gu];exact .inl ht))
           have jx:aD H (aJ fr) x=some u:=by
            rcases S.rd i x hi o with ain | ⟨c1,c2⟩
            ·have KA : ∀z∈R1,bT (S.af z).op=false/\li (S.af z).op=false:=λz hz=>by
              have n:=X z (by simp[hz]);obtain⟨s1,s2⟩:=ain z n (W z hz);refine⟨?_,?_⟩
              ·cases Ky:bT (S.af z).op with
               | false=>rfl
               | true=>exact absurd (Y z hz (s1 Ky)) (C.CD Ky)
              cases EE:li (S.af z).op with
              | false=>rfl
              | true=>
                rcases s2 EE with ⟨y,J,s,y3,y4⟩ | ⟨t,t1,t2⟩
                ·have c:y∉R1++i::R2:=by
                  rcases V y y4 with g | g
                  ·exact g
                  exact absurd g (C.CD s)
                 exact absurd (M z hz) (C.past y J s c z n y3)
                rcases S.d2 z i t n hi (L z (by simp[hz])) t1 t2 with q | ⟨q,_⟩
                ·obtain⟨D,F,I⟩:=Y z hz q;exact absurd t2 (AO D F t (by rw[I];exact t1))
                exact absurd (S.yO _ _ n q).2 (by have:=W z hz;omega)
             obtain⟨e1,_⟩:=TX (λy c=>by obtain⟨z,hz,rfl⟩:=List.mem_map.1 c;exact KA z hz) g1;rw[<-Q am H CA,<-e1];exact hp
            have mL:S.lo i<=m:=by
             rcases B9 m (S.lo i) with g | g
             ·obtain⟨y,J,s,y3,y4⟩:=S.lo1 i m hi g;have c:y∉R1++i::R2:=by
               rcases V y y4 with g | g
               ·exact g
               exact absurd g (C.CD s)
              have:=(C.done y J s).1 c;omega
             exact g
            have U:m<=S.hi i:=by
             rcases B9 (S.hi i) m with g | g
             ·obtain⟨y,J,s,y3⟩:=C.mW _ g;have c:y∉R1++i::R2:=(C.done y J s).2 Om;rcases S.Cx i y hi J s with q | q
              ·omega
              exact absurd oE (C.past y J s c i hi q)
             exact g
            obtain⟨G,Z,z2⟩:=C.nB i oE m (c2 m mL U) mL U (ai m);rw[Nat.sub_self] at Z;simp only[eZ,Option.some.injEq] at Z;subst Z;have rH : ∀t∈(S.af i).ft,fr' t=fr t:=λt ht=>by
             refine EA (λy c e=> ?_) C.run;obtain⟨z,hz,rfl⟩:=List.mem_map.1 c;have n:=C.lt z hz;have ha:=c1 t z ht n e;rcases V z ha with g | ⟨D,F,I⟩
             ·exact g hz
             exact AO D F t (by rw[I];exact e) ht
            have Hj:eG fr' (S.af i).guard=some true:=by rw[AD rH];exact hw
            rcases z2 with z2 | ⟨x',d',z2,z3,z4⟩
            ·rw[Hj] at z2;cases z2
            rw[o] at z2;cases z2;rw[Q fr' H rH] at z4;rw[z4];have:fr' d'=u:=by
             rw[EA (t:=d') (λy c e=> ?_) g3,<-hs.1,z3];·simp[bO]
             obtain⟨z,hz,rfl⟩:=List.mem_map.1 c;exact L z (by simp[hz]) (S.dd _ _ d' (X z (by simp[hz])) hi e z3)
            rw[this]
           exact fin u hs.1.symm hs.2.symm (by simp only[cX,hw,o,eA,jx,dC])
end
end
section
open Go Go.RowKit
variable {P:aX} {B:Nat}
section
variable {N:Nat} {ops:Array dj} {d:jB} {S:DS P N ops d} {h:Hd} {β0:Nat->aA} {w0:ay} {fr':Fr} {H':CH} {β:Nat->aA} {fr:Fr} {H:CH} {R:List Nat} {bj:List (Nat×Nat)} {l:List CH} {m:Nat} {a:Act} {w:ay}
theorem AH.lt{N:Nat}{it:Item}{b:Nat}(h:AH P B N w0 β fr a w it b):b<w.heap.size:=by
 obtain⟨_,_,_,_,_,_,_,_,_,_,_,_,_,_,c,_⟩:=h.ex;exact(Array.getElem?_eq_some_iff.1 c).1
theorem T4{a:Act}{d:Option Nat}{v:ae}{t:Nat}(h:d≠some t):(a.put d v).tmps.getD t undef=a.tmps.getD t undef:=by
 cases d with
 | none=>rfl
 | some x=>
   have aB:x≠t:=λe=>h (by rw[e]);simp only[Act.put,sC,YR aB]
theorem Core.aaF(C:Core S B h β0 w0 fr' H' β fr H R bj l m a w){i:Nat}(hi:i<ops.size)(o:i∈R)(j : ¬ ∃q∈bj,q.1=i){β':Nat->aA}{w':ay}{v v':ae}(hx:eS β β')(hk : ∀b,b<w.heap.size->Out β b->w'.heap[b]? = w.heap[b]? /\Out β' b) :
 ∀p∈bj,AH P B N w0 β' (bO fr (S.af i).dst v) (a.put (S.af i).dst v') w' (S.af p.1) p.2:=λp hp=>by
 have c:=C.Hc p hp;obtain⟨s,u⟩:=hk _ c.lt c.out;obtain⟨x,f⟩:=C.pT p hp;have n:=C.lt _ x;have aB:p.1≠i:=λe=>j ⟨p,hp,e⟩;refine c.dk hx s u (λt ht=>AE λe=> ?_) (λt ht=>T4 λe=>aB (S.dd _ _ t n hi ht e));rcases S.d2 i p.1 t hi n aB.symm e ht with q | ⟨_,q⟩
 ·rcases C.Cy p hp i q with g | g
  ·exact g o
  exact j g
 rw[f] at q;cases q
theorem Core.aaG(C:Core S B h β0 w0 fr' H' β fr H R bj l m a w){i:Nat}{β':Nat->aA}{v:ae}{a':Act}(c:FR β' N (bO (patch S bj fr) (S.af i).dst v) a') :
 ∀t,(∃p∈bj,(S.af p.1).dst=some t)\/VR β' (bO fr (S.af i).dst v t) (a'.tmps.getD t undef):=λt=>by
 by_cases hl : ∃p∈bj,(S.af p.1).dst=some t
 ·exact .inl hl
 right;have:=c.2 t;by_cases e:(S.af i).dst=some t
 ·rw[e] at this⊢
  simpa only[bO,iT] using this
 rw[AE e] at this⊢;unfold patch at this;rwa [iN hl] at this
theorem Core.aio{R1 R2:List Nat}{i:Nat}(C:Core S B h β0 w0 fr' H' β fr H (R1++i::R2) bj l m a w)(t : ¬ ∃q∈bj,q.1=i)(x:bT (S.af i).op=false){v v':ae}{β':Nat->aA}{w':ay}
 (A:cH h ((R1++R2).map S.af) (bO fr (S.af i).dst v) H=some (fr',H',l)) (D:aP P B β' H w') (hE:cd β w β' w') (u:FR β' N (bO (patch S bj fr) (S.af i).dst v) (a.put (S.af i).dst v')) :
 Core S B h β0 w0 fr' H' β' (bO fr (S.af i).dst v) H (R1++R2) bj l m (a.put (S.af i).dst v') w':=by
 obtain⟨Q,U,F⟩:=AL C.uR;have hi:i<ops.size:=C.lt i Sm;have sub : ∀z,z∈R1++R2->z∈R1++i::R2:=λz hz=>by rcases List.mem_append.1 hz with hz | hz<;>simp[hz]
 have c : ∀z,z≠i->(z∈R1++R2↔z∈R1++i::R2):=λz hz=>by simp only[gu,mD,hz,false_or]
 have n : ∀y,bT (S.af y).op=true->y≠i:=λy f e=>by rw[e,x] at f;cases f
 refine⟨λz hz=>C.lt z (sub z hz),F,λp hp=> ?_,C.aaF hi Sm t hE.ext hE.dk,C.Ks,λp hp j G=> ?_,C.Kt,A,D,C.ou.trans hE,u.1,C.aaG u,λy f o=> ?_,C.mW,λy f o I z hz J g=> ?_,λr L s hs M O c3=>C.nB r (sub r L) s hs M O c3⟩;·exact⟨(c _ λe=>t ⟨p,hp,e⟩).2 (C.pT p hp).1,(C.pT p hp).2⟩
 ·rcases C.Cy p hp j G with g | g
  ·exact .inl λq=>g (sub _ q)
  exact .inr g
 ·rw[<-C.done y f o,c y (n y o)]
 exact C.past y f o (λq=>I ((c y (n y o)).2 q)) z hz J (sub z g)
theorem Core.aip{i:Nat}(C:Core S B h β0 w0 fr' H' β fr H R bj l m a w)(hi:i<ops.size)(s:i∈R)(n : ¬ ∃q∈bj,q.1=i)(u:li (S.af i).op=true)(x : ∀j,gP ops i j->Ex R bj j)(y : ∀q∈bj,∀t,(S.af q.1).dst=some t->t∉(S.af i).ft)
 {v':ae} {w':ay} {o:Obj} (hw:w'.heap=w.heap.push o) (z:w'.os=w.os) (A:w'.tape=w.tape) (D:w'.output=w.output) (L : ∀t,(S.af i).dst=some t->t<N) (f:AH P B N w0 β fr (a.put (S.af i).dst v') w' (S.af i) w.heap.size) :
 Core S B h β0 w0 fr' H' β fr H R ((i,w.heap.size)::bj) l m (a.put (S.af i).dst v') w':=by
 have c : ∀b,b<w.heap.size->Out β b->w'.heap[b]? = w.heap[b]? /\Out β b:=λb hb ho=>⟨by rw[hw,Ge,iN Om],ho⟩;have hE:cd β w β w':=⟨z,A,D,by rw[hw];simp,c,eS.refl β⟩;have F : ∀p∈bj,AH P B N w0 β fr (a.put (S.af i).dst v') w' (S.af p.1) p.2:=λp hp=>by
  have f:=C.Hc p hp;obtain⟨G,I⟩:=c _ f.lt f.out;exact f.dk (eS.refl β) G I (λt ht=>rfl) (λt ht=>T4 λe=>n ⟨p,hp,S.dd _ _ t (C.lt _ (C.pT p hp).1) hi ht e⟩)
 refine⟨C.lt,C.uR,λp hp=> ?_,λp hp=> ?_,?_,λp hp j v=> ?_,λp hp q hq t ht=> ?_,C.run,C.AI.push hw,C.ou.trans hE,?_,λt=> ?_,C.done,C.mW,C.past,C.nB⟩
 ·rcases List.mem_cons.1 hp with rfl | hp
  ·exact⟨s,u⟩
  exact C.pT p hp
 ·rcases List.mem_cons.1 hp with rfl | hp
  ·exact f
  exact F p hp
 ·rw[Sx];refine⟨λp hp=>⟨λe=>n ⟨p,hp,e.symm⟩,λe=> ?_⟩,C.Ks⟩;have:=(C.Hc p hp).lt;simp only at e;omega
 ·have lift:Ex R bj j->j∉R\/∃q∈(i,w.heap.size)::bj,q.1=j:=by
   rintro(g | ⟨q,g1,g2⟩);·exact .inl g
   exact .inr ⟨q,jJ _ g1,g2⟩
  rcases List.mem_cons.1 hp with rfl | hp
  ·exact lift (x j v)
  exact lift (C.Cy p hp j v)
 ·rcases List.mem_cons.1 hp with rfl | hp<;>rcases List.mem_cons.1 hq with rfl | hq
  ·exact S.Kq _ t hi u ht
  ·exact y q hq t ht
  ·intro hu;have J:=(C.pT p hp).1;rcases S.d2 i p.1 t hi (C.lt _ J) (λe=>n ⟨p,hp,e.symm⟩) ht hu with q | ⟨_,q⟩
   ·rcases C.Cy p hp i q with g | g
    ·exact g s
    exact n g
   rw[(C.pT p hp).2] at q;cases q
  exact C.Kt p hp q hq t ht
 ·have:=C.size;cases (S.af i).dst<;>simpa[Act.put] using this
 by_cases e:(S.af i).dst=some t
 ·exact .inl ⟨_,lA ..,e⟩
 rw[T4 e];rcases C.fr t with ⟨p,g1,g2⟩ | g
 ·exact .inl ⟨p,jJ _ g1,g2⟩
 exact .inr g
theorem Core.lF{R2:List Nat}{i:Nat}(C:Core S B h β0 w0 fr' H' β fr H (i::R2) bj l m a w)(c:bT (S.af i).op=true)(n : ∀j,gP ops i j->Ex (i::R2) bj j):S.rk i=m:=by
 have hi:i<ops.size:=C.lt i Sm;have h1 : ¬S.rk i<m:=λg=>((C.done i hi c).2 g) Sm;rcases B9 m (S.rk i) with g | g
 ·obtain⟨y,e,f,y3⟩:=S.rk2 i m hi c g;have hp:=S.rk1 y i e hi f c Om;rcases n y (S.d4 y i e hi c hp) with q | q
  ·have:=(C.done y e f).1 q;omega
  exact absurd q (C.CD f)
 omega
theorem Core.aiq{R2:List Nat}{i:Nat}(C:Core S B h β0 w0 fr' H' β fr H (i::R2) bj l m a w)(t:bT (S.af i).op=true)(V:S.rk i=m){v v':ae}{β':Nat->aA}{w':ay}{H1:CH}{l2:List CH}(hl:l=H1::l2)
 (F:cH h (R2.map S.af) (bO fr (S.af i).dst v) H1=some (fr',H',l2)) (I:aP P B β' H1 w') (hE:cd β w β' w') (A:FR β' N (bO (patch S bj fr) (S.af i).dst v) (a.put (S.af i).dst v')) :
 Core S B h β0 w0 fr' H' β' (bO fr (S.af i).dst v) H1 R2 bj l2 (m+1) (a.put (S.af i).dst v') w':=by
 have hi:i<ops.size:=C.lt i Sm;have D:=C.CD t;have f:=C.uR;rw[Sx] at f;have c : ∀z,z≠i->(z∈R2↔z∈i::R2):=λz hz=>by simp only[mD,hz,false_or]
 have u:i∉R2:=λg=>absurd (f.1 i g) (Jm _);refine⟨λz hz=>C.lt z (jJ _ hz),f.2,λp hp=> ?_,C.aaF hi Sm D hE.ext hE.dk,C.Ks,λp hp j J=> ?_,C.Kt,F,I,C.ou.trans hE,A.1,C.aaG A,λy n o=> ?_,λq W=> ?_,λy n o L z hz M g=> ?_,λr O s hs Q U c3=> ?_⟩;·exact⟨(c _ λe=>D ⟨p,hp,e⟩).2 (C.pT p hp).1,(C.pT p hp).2⟩
 ·rcases C.Cy p hp j J with g | g
  ·exact .inl λq=>g (jJ _ q)
  exact .inr g
 ·by_cases e:y=i
  ·subst e;exact⟨λ_=>by omega,λ_=>u⟩
  rw[c y e,C.done y n o];constructor;·intro g;omega
  intro g;rcases B9 (S.rk y) m with q | q
  ·exact q
  exact absurd (S.rk3 y i n hi o t Om) e
 ·by_cases e:q=m
  ·exact⟨i,hi,t,Om⟩
  exact C.mW q Om
 ·by_cases e:y=i
  ·subst e;have:=f.1 z g;omega
  exact C.past y n o (λq=>L ((c y e).2 q)) z hz M (jJ _ g)
 obtain⟨G,x,z2⟩:=C.nB r (jJ _ O) s hs Q U Om;refine⟨G,?_,z2⟩;rw[hl] at x;rw[show s-m=(s-(m+1))+1 by omega,e9] at x;exact x
end
end
section
open Go Go.RowKit
variable {P:aX} {B:Nat}
section
variable {N:Nat} {ops:Array dj} {d:jB} {S:DS P N ops d} {h:Hd} {β0:Nat->aA} {w0:ay} {fr':Fr} {H':CH}
structure Inv(S:DS P N ops d)(B:Nat)(h:Hd)(β0:Nat->aA)(w0:ay)(fr':Fr)(H':CH)(df:List zW)(listed:Array Bool)(a:Act)(w:ay):Prop where
 core : ∃β fr H R bj l m,Core S B h β0 w0 fr' H' β fr H R bj l m a w/\∀j,j<ops.size->(listed.getD j false=true↔Ex R bj j)
 dc:DC ops listed
 size:listed.size=ops.size
 defers:a.defers=df
theorem aaH{R1 R2:List Nat}{i:Nat}{bj:List (Nat×Nat)}(hn:i∉R1++R2)(j:Nat):Ex (R1++R2) bj j↔j=i\/Ex (R1++i::R2) bj j:=by
 unfold Ex;by_cases e:j=i
 ·subst e;exact⟨λ_=> .inl rfl,λ_=> .inl hn⟩
 simp only[gu,mD,e,false_or]
theorem Hk{Q:Exit->Act->ay->Prop}{F:Fence}{n i:Nat}{K:Act->ay->Prop}{a:Act}{w:ay}{o:dj}(ho:ops[i]? = some o)(c : ∀f,F.fn f)
 (h1:N1 o (yielded ops a.tmps)=true->o.wpIn F n P a w K Q) (h2:N1 o (yielded ops a.tmps)=false->K (a.put o.dst undef) w):wpOpIn F n P ops Q i K a w:=by
 unfold wpOpIn;simp only[ho];cases hw:N1 o (yielded ops a.tmps) with
 | true=>simp only[iT];exact h1 hw
 | false=>simp only[je,iF];exact⟨λf _=>c f,h2 hw⟩
theorem Inv.step(hh:HS P B h){ro:Option Nat}{df:List zW}{listed:Array Bool}{a:Act}{w:ay}{Q:Exit->Act->ay->Prop}(I:Inv S B h β0 w0 fr' H' df listed a w){i:Nat}(hi:i∈zX .any ops listed){K:Act->ay->Prop}
 (hK : ∀a' w',Inv S B h β0 w0 fr' H' df (listed.setIfInBounds i true) a' w'->K a' w'):wpOpIn (Fn ro) 0 P ops Q i K a w:=by
 obtain⟨β,fr,H,R,bj,l,m,C,hex⟩:=I.core;obtain⟨D,nu,Hl⟩:=Ko hi;obtain⟨o,ho⟩ : ∃o,ops[i]? = some o:=⟨ops[i],by simp[D]⟩;have G:=S.ok i o ho;have KE : ∀j,gP ops i j->listed.getD j false=true:=λj J=>TV I.dc J Hl;have OX : ∀j,gP ops i j->Ex R bj j:=λj J=>(hex j (S.yO i j D J).1).1 (KE j J);have air : ¬listed.getD i false=true:=λg=>by
  simp only[sC] at nu g;have:i<listed.size:=by rw[I.size];exact D
  rw[sv this] at nu g;simp only[tt] at nu g;rw[g] at nu;cases nu
 have cK : ¬Ex R bj i:=λg=>air ((hex i D).2 g);have oE:i∈R:=N2 λg=>cK (.inl g);have au : ¬ ∃q∈bj,q.1=i:=λg=>cK (.inr g);have aU : ∀t,(S.af i).dst=some t->t<N:=λt ht=>G.lt t (by rw[<-G.dst];exact ht);have o9 : ∀ {R':List Nat} {T6:List (Nat×Nat)},(∀j,Ex R' T6 j↔j=i\/Ex R bj j)->∀j,j<ops.size->((listed.setIfInBounds i true).getD j false=true↔Ex R' T6 j):=by
  intro R' T6 hE j J;rw[AG,hE j,<-hex j J];constructor
  ·rintro(⟨e,_⟩ | g);·exact .inl e
   exact .inr g
  rintro(e | g);·exact .inl ⟨e,by rw[I.size];exact D⟩
  exact .inr g
 have J1 : ∀v',(a.put o.dst v').defers=df:=λv'=>by rw[<-I.defers];cases o.dst<;>rfl
 have close : ∀ {β2:Nat->aA} {c:Fr} {L:CH} {R2:List Nat} {s:List (Nat×Nat)} {O:List CH} {m2:Nat} {v':ae} {w':ay},Core S B h β0 w0 fr' H' β2 c L R2 s O m2 (a.put (S.af i).dst v') w'->(∀j,Ex R2 s j↔j=i\/Ex R bj j)->K (a.put o.dst v') w':=by
  intro β2 c L R2 s O m2 v' w' n hE;rw[G.dst] at n;exact hK _ _ ⟨⟨β2,c,L,R2,s,O,m2,n,o9 hE⟩,aay I.dc hi,by simp[I.size],J1 v'⟩
 have act : ∀ {β2:Nat->aA} {c:Fr} {L H3:CH} {R2:List Nat} {s:List (Nat×Nat)} {O:List CH} {m2:Nat} {v:ae},Core S B h β0 w0 fr' H' β2 c L R2 s O m2 a w->
  (∀q∈s,∀t,(S.af q.1).dst=some t->t∉(S.af i).ft)->cX h (S.af i) c L=some (bO c (S.af i).dst v,H3)->
  (∀β' w' v',aP P B β' H3 w'->cd β2 w β' w'->FR β' N (bO (patch S s c) (S.af i).dst v) (a.put (S.af i).dst v')->K (a.put o.dst v') w')->wpOpIn (Fn ro) 0 P ops Q i K a w:=by
  intro β2 c L H3 R2 s O m2 v n AO wz hk;have aq:=aaD (S:=S) (bj:=s) (fr:=c) AO;obtain⟨u,e1,aW⟩:=Ez (bt:=patch S s c) aq wz;have hpu:bO (patch S s c) (S.af i).dst u=bO (patch S s c) (S.af i).dst v:=by
   cases hd:(S.af i).dst with
   | none=>rfl
   | some t=>
     rw[hd] at e1;have:=congrFun e1 t;simp only[bO,iT] at this;rw[this]
  rw[hpu] at aW;have Y:=n.aaC;have W:=aW;simp only[cX] at W;cases hw:eG (patch S s c) (S.af i).guard with
  | none=>rw[hw] at W;cases W
  | some b=>
    have xz:=J5 G Y hw;rw[hw] at W;cases b with
    | true=>
      refine Hk ho (λ_=>trivial) (λ_=> ?_) (λg=>by rw[xz] at g;cases g);refine Tn hh G n.AI Y hw W fun β' w' v' q1 F U=> ?_;rw[<-G.dst] at U;exact hk β' w' v' q1 F U
    | false=>
      refine Hk ho (λ_=>trivial) (λg=>by rw[xz] at g;cases g) (λ_=> ?_);simp only[Option.some.injEq,Prod.mk.injEq] at W;obtain⟨z1,rfl⟩:=W;refine hk β2 w undef n.AI (cd.refl β2 w) ?_;rw[<-z1];exact Y.put aU .skip
 cases V:bT (S.af i).op with
 | true=>
   obtain⟨R1,R2,rfl⟩:=Sy oE;obtain⟨p1,p2,p3⟩:=AL C.uR;have pR:=C.AM;obtain⟨β2,c,L,s,n,M⟩:=Core.front R1 C λx hx=>by
    have Hi:x∈R1++i::R2:=by simp[hx]
    rcases OX x (S.d4 x i (C.lt x Hi) D V (p1 x hx)) with g | g
    ·exact absurd Hi g
    exact g
   have KF : ∀j,gP ops i j->Ex (i::R2) s j:=λj J=>(M j).2 (OX j J);have Z:=n.CD V;have aaI:=n.uR;rw[Sx] at aaI;have X : ∀q∈s,∀t,(S.af q.1).dst=some t->t∉(S.af i).ft:=λq hq t ht hu=>by
    have hqR:=(n.pT q hq).1;have aB:q.1≠i:=λe=>Z ⟨q,hq,e⟩;have TY:q.1∈R2:=by simpa[aB] using hqR
    rcases S.d2 q.1 i t (n.lt _ hqR) D aB ht hu with g | ⟨g,_⟩
    ·have:=(S.yO _ _ D g).2;have:=aaI.1 _ TY;omega
    rcases n.Cy q hq i g with g | g
    ·exact g Sm
    exact Z g
   have A:=n.run;simp only[c8,cH] at A;cases hs:cX h (S.af i) c L with
   | none=>rw[hs] at A;cases A
   | some q=>
     obtain⟨f,H3⟩:=q;rw[hs] at A;obtain⟨v,rfl,_⟩:=Ez (bt:=c) (λt _=>rfl) hs;simp only[V,iT] at A;cases hz:cH h (R2.map S.af) (bO c (S.af i).dst v) H3 with
     | none=>rw[hz] at A;cases A
     | some z=>
       obtain⟨z1,z2,O⟩:=z;rw[hz] at A;simp only[dC,Option.some.injEq,Prod.mk.injEq] at A;obtain⟨rfl,rfl,hl⟩:=A;refine act n X hs fun β' w' v' q1 F U=>close (n.aiq V (n.lF V KF) hl.symm hz q1 F U) λj=> ?_;have:=aaH (R1:= []) (R2:=R2) (i:=i) (bj:=s) (λg=>pR (by simp only[ju] at g;simp[g])) j;simp only[ju] at this;rw[this,M j]
 | false=>
   obtain⟨β2,c,L,R2,s,n,M,T7,X⟩:=C.feed bj.length (ai _) D V oE au OX;have EH : ¬Ex R2 s i:=λg=>cK ((M i).1 g);have Z : ¬ ∃q∈s,q.1=i:=λg=>EH (.inr g);have KF : ∀j,gP ops i j->Ex R2 s j:=λj J=>(M j).2 (OX j J);have viaQuiet:(li (S.af i).op=false\/eG c (S.af i).guard=some false)->wpOpIn (Fn ro) 0 P ops Q i K a w:=by
    intro hA;obtain⟨Ra,Rb,v,rfl,wz,A⟩:=n.quiet D T7 Z V hA KF X;refine act n X wz fun β' w' v' q1 F U=>close (n.aio Z V A q1 F U) λj=> ?_;rw[aaH n.AM j,M j]
   cases hA:li (S.af i).op with
   | false=>exact viaQuiet (.inl hA)
   | true=>
     obtain⟨Ra,Rb,aaJ⟩:=Sy T7;have KG:=n;rw[aaJ] at KG;obtain⟨p1,p2,p3⟩:=AL KG.uR;have pR:=KG.AM;have A:=KG.run;rw[zY,c8] at A;obtain⟨am,H1,l1,O,g1,g2,_⟩:=OT A;have CA : ∀t∈(S.af i).ft,am t=c t:=λt ht=>by
      refine EA (λy hy e=> ?_) g1;obtain⟨z,hz,rfl⟩:=List.mem_map.1 hy;have AN:z∈Ra++i::Rb:=by simp[hz]
      have ii:=KG.lt z AN;rcases S.d2 z i t ii D (λe=>pR (by rw[<-e];simp[hz])) e ht with q | ⟨_,q⟩
      ·rcases KF z q with g | ⟨q1,F,U⟩
       ·exact g (by rw[aaJ];exact AN)
       exact X q1 F t (by rw[U];exact e) ht
      rw[hA] at q;cases q
     simp only[cH] at g2;cases hs:cX h (S.af i) am H1 with
     | none=>rw[hs] at g2;cases g2
     | some q=>
       simp only[cX] at hs;have CE:eG am (S.af i).guard=eG c (S.af i).guard:=AD CA;rw[CE] at hs;cases hw:eG c (S.af i).guard with
       | none=>rw[hw] at hs;cases hs
       | some b=>
         cases b with
         | false=>exact viaQuiet (.inr hw)
         | true=>
           rw[hw] at hs;simp only at hs;have aaK:=G.op;cases bC:(S.af i).op with
           | a x=>
             rw[bC] at hs aaK;simp only[eA] at hs;cases hp:cq (aJ am) x with
             | none=>rw[hp] at hs;cases hs
             | some u=>
               obtain⟨cs,e,k,mk⟩:=u;have hux : ∀t∈slotsOf x.bD,t∈(S.af i).ft:=λt ht=>by simp only[Item.ft,bC,gu];exact .inl ht
               have jx:cq (aJ c) x=some (cs,e,k,mk):=by
                rw[<-hp];exact Kl (AC λt ht=>(CA t (hux t ht)).symm)
               have aq:=aaD (S:=S) (bj:=s) (fr:=c) X;have hp3:cq (aJ (patch S s c)) x=some (cs,e,k,mk):=by
                rw[<-jx];exact Kl (AC λt ht=>(aq t (hux t ht)).symm)
               have Y:=n.aaC;have xz:=J5 G Y (b:=true) (by rw[<-AD aq];exact hw);cases aaK with
               | a Tq=>
                 obtain⟨hk,sz,eN,Ku⟩:=Tq β2 (aJ (patch S s c)) a.eval o cs e k mk rfl (λy hy=>G2 Y (G.bD y hy)) hp3;obtain⟨cs',iX,w',v',h1,h2,h3,h4,h5,h6,h7,h8,h9,ph⟩:=Ku w;refine Hk ho (λ_=>trivial) (λ_=> ?_) (λg=>by rw[xz] at g;cases g);refine⟨λf _=>trivial,?_⟩;rw[show(Fn ro).round=ro from rfl,Oper.semAt_eq ro _ _ G.nodefer,h1];show K (a.put o.dst v') w';have hb:w'.heap[w.heap.size]? = some (.cells cs' e iX):=by rw[h2];simp
                 refine close (n.aip D T7 Z hA KF X h2 h3 h4 h5 aU ⟨⟨x,cs,e,k,mk,cs',iX,sz,v',bC,hw,jx,hk,eN,hb,h6,h7,h8,h9,ph,λt ht=> ?_⟩,n.AI.base,n.ou.size,λz hz=> ?_⟩) λj=> ?_;·rw[ht];have:t<a.tmps.size:=Nat.lt_of_lt_of_le (aU t ht) n.size;simp[Act.put,this]
                 ·have:=(tE n.AI hz).2;omega
                 unfold Ex;constructor
                 ·rintro(g | ⟨q,q1,F⟩);·exact .inr ((M j).1 (.inl g))
                  rcases List.mem_cons.1 q1 with rfl | q1
                  ·exact .inl F.symm
                  exact .inr ((M j).1 (.inr ⟨q,q1,F⟩))
                 rintro(e | g);·exact .inr ⟨_,lA ..,e.symm⟩
                 rcases(M j).2 g with g | ⟨q,q1,F⟩
                 ·exact .inl g
                 exact .inr ⟨q,jJ _ q1,F⟩
           | _=>rw[bC] at hA;cases hA
theorem Core.all : ∀(R:List Nat) {β:Nat->aA} {fr:Fr} {H:CH} {bj:List (Nat×Nat)} {l:List CH} {m:Nat} {a:Act} {w:ay} (C:Core S B h β0 w0 fr' H' β fr H R bj l m a w),(∀x∈R,∃q∈bj,q.1=x)->
 ∃β2,aP P B β2 H' w/\cd β0 w0 β2 w/\FR β2 N fr' a
 | [],β,fr,H,bj,l,m,a,w,C,_=>by
   have c:=C.run;simp only[List.map_nil,cH,Option.some.injEq,Prod.mk.injEq] at c;obtain⟨rfl,rfl,_⟩:=c;refine⟨β,C.AI,C.ou,C.size,λt=> ?_⟩;rcases C.fr t with ⟨p,hp,_⟩ | g
   ·have:=(C.pT p hp).1;cases this
   exact g
 | x::R,β,fr,H,bj,l,m,a,w,C,hx=>by
   obtain⟨⟨x',b⟩,j,rfl⟩:=hx x (lA ..);have f:Core S B h β0 w0 fr' H' β fr H ([]++x'::R) bj l m a w:=C;obtain⟨β2,v,y,A,n,o,_⟩:=f.catch j (λz hz=>by cases hz);have s:=f.AM;exact Core.all R n λz hz=>by
    obtain⟨q,u,i⟩:=hx z (jJ _ hz);exact⟨q,(o q).2 ⟨u,λe=>s (by rw[<-e,i];simpa using hz)⟩,i⟩
def nz (k:Nat)(listed:Array Bool):Nat:=((mB k).filter λj=> !listed.getD j false).length
theorem aaL{listed:Array Bool}{i:Nat}(hi:i<ops.size)(hs:listed.size=ops.size)(hu:listed.getD i false=false):nz ops.size (listed.setIfInBounds i true)<nz ops.size listed:=by
 unfold nz;have:(mB ops.size).filter (λj=> !(listed.setIfInBounds i true).getD j false)=((mB ops.size).filter λj=> !listed.getD j false).filter (λj=>decide (j≠i)):=by
  rw[List.filter_filter];apply List.filter_congr;intro j c;by_cases e:j=i
  ·subst e;have:(listed.setIfInBounds j true).getD j false=true:=AG.2 (.inl ⟨rfl,Om⟩);simp[this]
  have:(listed.setIfInBounds i true).getD j false=listed.getD j false:=by
   cases hb:listed.getD j false with
   | true=>exact AG.2 (.inr hb)
   | false=>
     cases hc:(listed.setIfInBounds i true).getD j false with
     | false=>rfl
     | true=>
       rcases AG.1 hc with ⟨g,_⟩ | g
       ·exact absurd g e
       rw[hb] at g;cases g
  simp[this,e]
 rw[this];exact List.length_filter_lt_length_iff_exists.2 ⟨i,by simp[hi];exact by simpa using hu,Sm⟩
theorem Inv.sound(hh:HS P B h){ro:Option Nat}{df:List zW}{Q:Exit->Act->ay->Prop}(v : ∀β' w' a',aP P B β' H' w'->cd β0 w0 β' w'->FR β' N fr' a'->a'.defers=df->Q .normal a' w') : ∀(fuel:Nat) (listed:Array Bool) (a:Act) (w:ay),
 nz ops.size listed<=fuel->Inv S B h β0 w0 fr' H' df listed a w->wpAnyIn (Fn ro) 0 P .any ops Q fuel listed a w:=by
 have t : ∀(listed:Array Bool) (a:Act) (w:ay),Inv S B h β0 w0 fr' H' df listed a w->(∀j,j<ops.size->listed.getD j false=true)->Q .normal a w:=by
  intro listed a w I f;obtain⟨β,fr,H,R,bj,l,m,C,hex⟩:=I.core;obtain⟨β2,h1,h2,h3⟩:=Core.all R C λx hx=>by
   rcases(hex x (C.lt x hx)).1 (f x (C.lt x hx)) with g | g
   ·exact absurd hx g
   exact g
  exact v β2 w a h1 h2 h3 I.defers
 have o : ∀(listed:Array Bool),listed.size=ops.size->zX .any ops listed= []->∀j,j<ops.size->listed.getD j false=true:=by
  intro listed hs q j s;apply N2;intro hn;have : ∃p,∃j,j<ops.size/\¬listed.getD j false=true/\S.pos j=p:=⟨_,j,s,hn,rfl⟩;obtain⟨p,⟨x,n,u,G⟩,y⟩:=J9 this;have hx:x∈zX .any ops listed:=by
   unfold zX;refine List.mem_filter.2 ⟨List.mem_range.2 n,?_⟩;have c:x<listed.size:=by omega
   have z:listed.getD x true=false:=by
    simp only[sC,sv c,tt] at u⊢
    simpa using u
   rw[z];simp only[NX,Jn];rw[sv n];simp only[dC,tt];rw[aq6];intro e he;cases hb:Gp .any e with
   | false=>rfl
   | true=>
     simp only[NW,Bool.false_or];obtain⟨A,J⟩:=S.yO x e.on n (.Kn (sv n) (by simpa using he) hb);apply N2;intro g;have:=y _ ⟨e.on,A,g,rfl⟩;omega
  rw[q] at hx;cases hx
 intro fuel;induction fuel with
 | zero=>
   intro listed a w hc I;have hz:nz ops.size listed=0:=by omega
   have f : ∀j,j<ops.size->listed.getD j false=true:=λj s=>by
    unfold nz at hz;have:=List.length_eq_zero_iff.1 hz;rw[List.filter_eq_nil_iff] at this;simpa using this j (List.mem_range.2 s)
   refine⟨?_,t listed a w I f⟩;apply List.eq_nil_iff_forall_not_mem.2;intro x hx;obtain⟨h1,h2,_⟩:=Ko hx;have:=f x h1;have c:x<listed.size:=by rw[I.size];exact h1
   simp only[sC,sv c,tt] at h2 this;rw[this] at h2;cases h2
 | succ fuel D=>
   intro listed a w hc I;refine⟨λq=>t listed a w I (o listed I.size q),λi hi=>I.step hh hi λa' w' F=>D _ a' w' ?_ F⟩;obtain⟨h1,h2,_⟩:=Ko hi;have c:i<listed.size:=by rw[I.size];exact h1
   have:listed.getD i false=false:=by
    simp only[sC,sv c,tt] at h2⊢;exact h2
   have:=aaL h1 I.size this;omega
end
theorem aaM{h:Hd} : ∀ {R S:List Item} {fr bt:Fr} {H e:CH},dP h (R++S) fr H=some (bt,e)->∃am H1,dP h R fr H=some (am,H1)/\dP h S am H1=some (bt,e)
 | [],S,fr,bt,H,e,c=>⟨fr,H,rfl,c⟩
 | x::R,S,fr,bt,H,e,c=>by
   simp only[gZ,dP] at c;cases hs:cX h x fr H with
   | none=>rw[hs] at c;cases c
   | some q=>
     rw[hs] at c;obtain⟨am,H1,h1,h2⟩:=aaM c;exact⟨am,H1,by simp only[dP,hs];exact h1,h2⟩
theorem aaN{h:Hd} : ∀ {R S:List Item} {fr am bt:Fr} {H H1 c:CH},dP h R fr H=some (am,H1)->dP h S am H1=some (bt,c)->dP h (R++S) fr H=some (bt,c)
 | [],S,fr,am,bt,H,H1,c,h1,h2=>by simp only[dP,Option.some.injEq,Prod.mk.injEq] at h1;obtain⟨rfl,rfl⟩:=h1;exact h2
 | x::R,S,fr,am,bt,H,H1,c,h1,h2=>by
   simp only[gZ,dP] at h1⊢
   cases hs:cX h x fr H with
   | none=>rw[hs] at h1;cases h1
   | some q=>rw[hs] at h1;exact aaN h1 h2
theorem Hn{h:Hd}{t:Nat} : ∀ {R:List Item} {fr am:Fr} {H H1:CH},(∀x∈R,x.dst≠some t)->dP h R fr H=some (am,H1)->am t=fr t
 | [],fr,am,H,H1,_,c=>by simp only[dP,Option.some.injEq,Prod.mk.injEq] at c;obtain⟨rfl,rfl⟩:=c;rfl
 | x::R,fr,am,H,H1,hx,c=>by
   simp only[dP] at c;cases hs:cX h x fr H with
   | none=>rw[hs] at c;cases c
   | some q=>
     obtain⟨f,K⟩:=q;rw[hs] at c;obtain⟨u,rfl,_⟩:=Ez (bt:=fr) (λt _=>rfl) hs;rw[Hn (λy e=>hx y (jJ _ e)) c,AE (hx x (lA ..))]
theorem AQ{it:Item}:(mK it).dst=it.dst:=by unfold mK;split<;>rfl
theorem ait{it:Item}:(mK it).guard=it.guard:=by unfold mK;split<;>rfl
theorem aiu{it:Item}{t:Nat}(h:t∈(mK it).ft):t∈it.ft:=by
 unfold mK at h;split at h
 ·simp only[Item.ft,gu] at h⊢
  rcases h with h | h
  ·simp[gB.bD,dY.bD,slotsOf] at h
  exact .inr h
 exact h
theorem T8{it:Item}(h:qD it.op=true):mK it=it:=by
 unfold mK;split;·rename_i e;rw[e] at h;cases h
 rfl
theorem aiv{N:Nat}{ops:Array dj}{ro:Option Nat}{o:dj}{it:Item}(c:yF P N ops o it){β:Nat->aA}{fr:Fr}{H:CH}{a:Act}{w:ay}(i:aP P B β H w)(g:FR β N fr a){e:aI}{z:List ae}(j:it.op= .a (.new e z)){K:Act->ay->Prop}{Q:Exit->Act->ay->Prop}
 (n : ∀w' v',aP P B β H w'->cd β w β w'->FR β N (bO fr it.dst undef) (a.put o.dst v')->K (a.put o.dst v') w'):o.wpIn (Fn ro) 0 P a w K Q:=by
 refine⟨λf _=>trivial,?_⟩;rw[show(Fn ro).round=ro from rfl,Oper.semAt_eq ro _ _ c.nodefer];have hv : ∀x∈o.op.operands,VR β (aJ fr x) (a.eval x):=λx hx=>G2 g (c.bD x hx);have hd : ∀x,it.dst=some x->x<N:=λx hx=>c.lt x (by rw[<-c.dst];exact hx);have h:=c.op;rw[j] at h;cases h with
 | a ha=>
   obtain⟨hk,sz,u,q⟩:=ha β _ _ o z e .ex .ptr rfl hv rfl;obtain⟨cs',iX,w',v',h1,h2,h3,h4,h5,_⟩:=q w;have s:=i.push h2;have t:cd β w β w':=⟨h3,h4,h5,by rw[h2];simp,λb hb ho=>⟨by rw[h2,Ge,iN Om],ho⟩,eS.refl β⟩;rw[h1];exact n w' v' s t (by rw[<-c.dst];exact g.put hd (.undef _))
theorem aaO{h:Hd}{x:Item}(e:qD x.op=true){fr am:Fr}{H H1:CH}(hs:cX h x fr H=some (am,H1)):H1=H:=by
 simp only[cX] at hs;split at hs
 ·cases c:x.op with
  | p y=>rw[c] at hs;simp only[eA] at hs;cases hp:pop (aJ fr) y<;>rw[hp] at hs<;>simp at hs;exact hs.2.symm
  | l y=>rw[c] at hs;simp only[eA] at hs;cases hp:aD H (aJ fr) y<;>rw[hp] at hs<;>simp at hs;exact hs.2.symm
  | _=>rw[c] at e;cases e
 ·cases hs;rfl
 cases hs
theorem OY{h:Hd} : ∀ {R:List Item} {fr am:Fr} {H H1:CH},(∀x∈R,qD x.op=true)->dP h R fr H=some (am,H1)->H1=H
 | [],fr,am,H,H1,_,c=>by simp only[dP,Option.some.injEq,Prod.mk.injEq] at c;exact c.2.symm
 | x::R,fr,am,H,H1,hx,c=>by
   simp only[dP] at c;cases hs:cX h x fr H with
   | none=>rw[hs] at c;cases c
   | some q=>
     obtain⟨f,K⟩:=q;rw[hs] at c;rw[OY (λy e=>hx y (jJ _ e)) c,aaO (hx x (lA ..)) hs]
section
variable {N:Nat} {ops:Array dj} {d:jB} {S:DS P N ops d} {h:Hd} {β0:Nat->aA} {w0:ay} {H:CH} {TA:List Nat}
open Classical in
noncomputable def oH(S:DS P N ops d)(TA:List Nat)(listed:Array Bool)(fr f1:Fr):Fr:=λt=>if ∃j∈TA,listed.getD j false=true/\(S.af j).dst=some t then f1 t else fr t
structure T9(S:DS P N ops d)(B:Nat)(β0:Nat->aA)(w0:ay)(H:CH)(TA:List Nat)(fr f1:Fr)(df:List zW)(listed:Array Bool)(a:Act)(w:ay):Prop where
 core : ∃β,aP P B β H w/\cd β0 w0 β w/\FR β N (oH S TA listed fr f1) a
 dc:DC ops listed
 size:listed.size=ops.size
 defers:a.defers=df
theorem aiw(listed:Array Bool)(hs:listed.size=ops.size)(S:DS P N ops d)(i:zX .any ops listed= []) : ∀j,j<ops.size->listed.getD j false=true:=by
 intro j n;apply N2;intro hn;have : ∃p,∃j,j<ops.size/\¬listed.getD j false=true/\S.pos j=p:=⟨_,j,n,hn,rfl⟩;obtain⟨p,⟨x,c,f,u⟩,o⟩:=J9 this;have hx:x∈zX .any ops listed:=by
  unfold zX;refine List.mem_filter.2 ⟨List.mem_range.2 c,?_⟩;have q:x<listed.size:=by omega
  have s:listed.getD x true=false:=by
   simp only[sC,sv q,tt] at f⊢
   simpa using f
  rw[s];simp only[NX,Jn];rw[sv c];simp only[dC,tt];rw[aq6];intro e he;cases hb:Gp .any e with
  | false=>rfl
  | true=>
    simp only[NW,Bool.false_or];obtain⟨t,v⟩:=S.yO x e.on c (.Kn (sv c) (by simpa using he) hb);apply N2;intro g;have:=o _ ⟨e.on,t,g,rfl⟩;omega
 rw[i] at hx;cases hx
theorem T9.sound(hh:HS P B h){ro:Option Nat}{df:List zW}{Q:Exit->Act->ay->Prop}{fr f1:Fr}{k:Nat}{f:aS}{args:List av}{v:ae}{H':CH}(xo:k<ops.size)(Z : ∀j∈TA,j<ops.size)(AP:TA.Pairwise (λa b=>S.pos a<S.pos b))(hA : ∀x∈TA,qD (mK (S.af x)).op=true)(hk:(S.af k).op= .call f args)(iH : ∀b,b<ops.size->b∈TA\/b=k\/gP ops b k)
 (AO : ∀j∈TA,∀t,(S.af j).dst=some t->t∈(S.af k).ft->gP ops k j) (aY:dP h (TA.map λi=>mK (S.af i)) fr H=some (f1,H)) (hw:eG f1 (S.af k).guard=some true) (hp:Z7 P B f (args.map (aJ f1)) H v H')
 (hQ : ∀β' w' a' v',aP P B β' H' w'->cd β0 w0 β' w'->VR β' v v'->a'.defers=df->(∀t,(∀j∈TA,(S.af j).dst≠some t)->VR β' (fr t) (a'.tmps.getD t undef))->Q (.panic [{ v:=v',recovered:=false }]) a' w') : ∀(fuel:Nat) (listed:Array Bool) (a:Act) (w:ay),
 nz ops.size listed<=fuel->listed.getD k false=false->T9 S B β0 w0 H TA fr f1 df listed a w->wpAnyIn (Fn ro) 0 P .any ops Q fuel listed a w:=by
 have hkW:bT (S.af k).op=true:=by rw[hk];rfl
 have GQ : ∀listed:Array Bool,listed.size=ops.size->listed.getD k false=false->zX .any ops listed= []->False:=λlisted hs hl hr=>by
  have:=aiw listed hs S hr k xo;rw[hl] at this;cases this
 intro fuel;induction fuel with
 | zero=>
   intro listed a w hc hl I;have hz:nz ops.size listed=0:=by omega
   unfold nz at hz;have:=List.length_eq_zero_iff.1 hz;rw[List.filter_eq_nil_iff] at this;have:=this k (List.mem_range.2 xo);rw[hl] at this;exact absurd rfl this
 | succ fuel ih=>
   intro listed a w hc hl I;refine⟨λhr=>(GQ listed I.size hl hr).elim,λi hi=> ?_⟩;obtain⟨A,nu,Hl⟩:=Ko hi;obtain⟨β,hS,hE,C⟩:=I.core;have pf:i<listed.size:=by rw[I.size];exact A
   have oI:listed.getD i false=false:=by
    simp only[sC,sv pf,tt] at nu⊢;exact nu
   have KE : ∀j,gP ops i j->listed.getD j false=true:=λj hj=>TV I.dc hj Hl;obtain⟨o,ho⟩ : ∃o,ops[i]? = some o:=⟨ops[i],by simp[A]⟩;have n:=S.ok i o ho;have ari:=aaL A I.size oI;rcases iH i A with wB | wB | wB
   ·
    obtain⟨A1,A2,OZ⟩:=Sy wB;have aB:i≠k:=λe=>by have:=hA i wB;rw[e] at this;unfold mK at this;rw[hk] at this;simp only[hk] at this;cases this
    have M:=aY;rw[OZ,zY,c8] at M;obtain⟨g,Hg,r1,r2⟩:=aaM M;have T' : ∀x∈A1,x∈TA:=λx hx=>by rw[OZ];simp[hx]
    have O : ∀x∈A2,x∈TA:=λx hx=>by rw[OZ];simp[hx]
    have hHg:Hg=H:=OY (λx hx=>by obtain⟨z,hz,rfl⟩:=List.mem_map.1 hx;exact hA z (T' z hz)) r1;subst hHg;have U:=AP;rw[OZ] at U;obtain⟨u1,u2,u3⟩:=AL U;simp only[dP] at r2;cases hs:cX h (mK (S.af i)) g Hg with
    | none=>rw[hs] at r2;cases r2
    | some q=>
      obtain⟨gf,K⟩:=q;rw[hs] at r2;simp only at r2;have hK:=aaO (hA i wB) hs;subst hK;obtain⟨u,rfl,_⟩:=Ez (bt:=g) (λt _=>rfl) hs;have aq : ∀t∈(mK (S.af i)).ft,g t=oH S TA listed fr f1 t:=λt J=>by
       have J:=aiu J;unfold oH;split
       ·rename_i hex;obtain⟨j,D,F,s⟩:=hex;have tP:j≠i:=λe=>by rw[e,oI] at F;cases F
        have fK:=Z j D;rcases S.d2 j i t fK A tP s J with q | ⟨q,_⟩
        ·have arj:=(S.yO _ _ A q).2;have V:f1 t=bO g (mK (S.af i)).dst u t:=Hn (λy G e=>by
          obtain⟨z,hz,rfl⟩:=List.mem_map.1 G;rw[AQ] at e;have ii:=Z z (O z hz);have:=S.dd j z t fK ii s e;subst this;have:=u2 j hz;omega) r2
         rw[V,AQ,AE λe=>tP (S.dd j i t fK A s e)]
        have:=I.dc j i F q;rw[oI] at this;cases this
       rename_i hn;refine Hn (λy G e=> ?_) r1;obtain⟨z,hz,rfl⟩:=List.mem_map.1 G;rw[AQ] at e;have ii:=Z z (T' z hz);have hzi:z≠i:=λe'=>by have:=u1 z hz;rw[e'] at this;omega
       rcases S.d2 z i t ii A hzi e J with q | ⟨q,_⟩
       ·exact hn ⟨z,T' z hz,KE z q,e⟩
       have:=(S.yO _ _ ii q).2;have:=u1 z hz;omega
      obtain⟨v1,V,aW⟩:=Ez (bt:=oH S TA listed fr f1) aq hs;have pj : ∀t,(S.af i).dst=some t->f1 t=v1:=λt hd=>by
       rw[Hn (t:=t) (λy G e=>by
        obtain⟨z,hz,rfl⟩:=List.mem_map.1 G;rw[AQ] at e;have:=S.dd i z t A (Z z (O z hz)) hd e;subst this;have:=u2 i hz;omega) r2,V,AQ,hd]
       simp[bO]
      have o9:oH S TA (listed.setIfInBounds i true) fr f1=bO (oH S TA listed fr f1) (S.af i).dst v1:=by
       funext t
       by_cases hd:(S.af i).dst=some t
       ·rw[hd];simp only[bO,iT];unfold oH;rw[iP ⟨i,wB,AG.2 (.inl ⟨rfl,pf⟩),hd⟩];exact pj t hd
       rw[AE hd];unfold oH;have:(∃j∈TA,(listed.setIfInBounds i true).getD j false=true/\(S.af j).dst=some t)↔∃j∈TA,listed.getD j false=true/\(S.af j).dst=some t:=by
        constructor
        ·rintro⟨j,D,F,s⟩;rcases AG.1 F with ⟨e,_⟩ | e
         ·subst e;exact absurd s hd
         exact⟨j,D,e,s⟩
        rintro⟨j,D,F,s⟩;exact⟨j,D,AG.2 (.inr F),s⟩
       simp only[this]
      have nE:(listed.setIfInBounds i true).getD k false=false:=by
       cases hb:(listed.setIfInBounds i true).getD k false with
       | false=>rfl
       | true=>
         rcases AG.1 hb with ⟨e,_⟩ | e
         ·exact absurd e.symm aB
         rw[hl] at e;cases e
      have J1 : ∀v',(a.put o.dst v').defers=df:=λv'=>by rw[<-I.defers];cases o.dst<;>rfl
      have next : ∀β' w' v',aP P B β' K w'->cd β w β' w'->FR β' N (bO (oH S TA listed fr f1) (S.af i).dst v1) (a.put o.dst v')->wpAnyIn (Fn ro) 0 P .any ops Q fuel (listed.setIfInBounds i true) (a.put o.dst v') w':=fun β' w' v' W X Y=>
       ih _ _ _ Om nE ⟨⟨β',W,hE.trans X,by rw[o9];exact Y⟩,aay I.dc hi,by simp[I.size],J1 v'⟩
      have c:=aW;simp only[cX] at c;rw[ait] at c;cases Hj:eG (oH S TA listed fr f1) (S.af i).guard with
      | none=>rw[Hj] at c;cases c
      | some b=>
        have xz:=J5 n C Hj;rw[Hj] at c;cases b with
        | true=>
          refine Hk ho (λ_=>trivial) (λ_=> ?_) (λg=>by rw[xz] at g;cases g);cases hq:qD (S.af i).op with
          | true=>
            rw[T8 hq] at c;exact Tn hh n hS C Hj c fun β' w' v' W X Y=>next β' w' v' W X Y
          | false=>
            obtain⟨e,z,L⟩ : ∃e z,(S.af i).op= .a (.new e z):=by
             have h2:=hA i wB;unfold mK at h2;split at h2;·rename_i e z h3;exact⟨e,z,h3⟩
             rw[hq] at h2;cases h2
            have hh1:(mK (S.af i)).op= .p (.vX (.const undef)):=by unfold mK;rw[L]
            have heq:bO (oH S TA listed fr f1) (S.af i).dst undef=bO (oH S TA listed fr f1) (S.af i).dst v1:=by
             rw[hh1,AQ] at c;simp only[eA,pop,dC,Option.some.injEq,Prod.mk.injEq] at c;exact c.1
            rw[<-heq] at next
            exact aiv n hS C L λw' v' W X Y=>next β w' v' W X Y
        | false=>
          refine Hk ho (λ_=>trivial) (λg=>by rw[xz] at g;cases g) (λ_=> ?_);simp only[Option.some.injEq,Prod.mk.injEq] at c;refine next β w undef hS (cd.refl β w) ?_
          rw[AQ] at c;rw[<-c.1,<-n.dst];exact C.put (λx hx=>n.lt x (by rw[<-n.dst];exact hx)) .skip
   ·
    subst wB;have O0 : ∀t∈(S.af i).ft,f1 t=oH S TA listed fr f1 t:=λt J=>by
     unfold oH;split;·rfl
     rename_i hn;refine Hn (λy G e=> ?_) aY;obtain⟨z,hz,rfl⟩:=List.mem_map.1 G;rw[AQ] at e;exact hn ⟨z,hz,KE z (AO z hz t e J),e⟩
    rw[AD O0] at hw;have jx:args.map (aJ f1)=args.map (aJ (oH S TA listed fr f1)):=xd λx hx=>AC (l:=args) (λt ht=>O0 t (by simp only[Item.ft,hk,gB.bD,gu];exact .inl ht)) x hx;rw[jx] at hp;have aW : ∀t,(∀j∈TA,(S.af j).dst≠some t)->oH S TA listed fr f1 t=fr t:=λt ht=>by
     unfold oH;rw[iN];rintro⟨j,D,_,s⟩;exact ht j D s
    generalize oH S TA listed fr f1=KH at C hw hp aW;refine Hk ho (λ_=>trivial) (λ_=> ?_) (λg=>by rw[J5 n C hw] at g;cases g);refine⟨λf _=>trivial,?_⟩;rw[show(Fn ro).round=ro from rfl,Oper.semAt_eq ro _ _ n.nodefer];have L:=n.op;rw[hk] at L;generalize OB:o.op=io at L;cases L with
    | @call f args ts he=>
      rw[he] at OB;have hv : ∀x∈o.op.operands,VR β (aJ KH x) (a.eval x):=λx hx=>G2 C (n.bD x hx);have ni:aT β (args.toList.map (aJ KH)) (args.toList.map a.eval):=by
       refine⟨Sm,λj u hu=> ?_⟩;rw[List.getElem?_map] at hu⊢
       cases hx:args.toList[j]? with
       | none=>rw[hx] at hu;cases hu
       | some x=>
         rw[hx] at hu;cases hu;exact⟨_,rfl,hv x (by rw[OB];simp[Op.operands,Call.operands];exact .inr (by have:=List.mem_of_getElem? hx;simpa using this))⟩
      have Ku:(execOp a.eval o).run P w= .ok (.enter f (args.map a.eval)) w:=by
       simp only[execOp,OB,resolve,Act.eval,Deferred.ofValue,cA,cR,cg,invoke];rw[J3 hp.1];simp
      rw[Ku];refine⟨λh=>absurd h (by simp[Fn,sB]),Oz ?_⟩;have:=hp.2 β w _ hS ni;have V:(args.toList.map a.eval).toArray=args.map a.eval:=by apply tv;simp
      rw[V] at this;refine this.mono ?_;rintro e w' ⟨v',β',rfl,g1,g2,g3⟩;exact hQ β' w' _ v' g2 (hE.trans g3) g1 I.defers λt ht=>by
       rw[<-aW t ht];exact(C.2 t).mono g3.ext
   have:=KE k wB;rw[hl] at this;cases this
end
theorem aix{N:Nat}{ops:Array dj}{d:jB}(S:DS P N ops d)(A:P.follows .mixedOrders=true):Eo P N ops d:=by
 intro B h ro β fr fr' H H' a w id Q hh C u c D;refine wpIn_region_any A ?_;unfold uP at c;cases e:cH h d.af fr H with
 | none=>rw[e] at c;cases c
 | some q=>
   obtain⟨f,K,l⟩:=q;rw[e] at c;simp only at c;split at c;rotate_left
   ·cases c
   rename_i n;simp only[Option.some.injEq,Prod.mk.injEq] at c;obtain⟨rfl,rfl⟩:=c;obtain⟨F,I⟩:=C.drew;refine Inv.sound (S:=S) (β0:=β) (w0:=w) (fr':=f) (H':=K) hh (df:=a.defers) D ops.size _ a _ ?_ ⟨⟨β,fr,H,S.rK,[],l,0,?_,λj v=> ?_⟩,λi j z _=> ?_,Sm,rfl⟩;·unfold nz;exact Nat.le_trans (Sz _ _) Sm
   ·refine⟨λi hi=>(S.mem i).1 hi,S.uR,λp hp=>(by cases hp),λp hp=>(by cases hp),List.Pairwise.nil,λp hp=>(by cases hp),λp hp=>(by cases hp),by rw[<-S.Cw];exact e,F,I,u.1,λt=> .inr (u.2 t),λx hx J=> ?_,λq o=>absurd o (fW _),λy L O M=>absurd ((S.mem y).2 L) M,λr c s hs _ _ _=> ?_⟩;·exact⟨λg=>absurd ((S.mem x).2 hx) g,λg=>absurd g (fW _)⟩
    obtain⟨G,g1,g2⟩:=n _ hs;exact⟨G,by simpa using g1,g2⟩
   ·unfold Ex;have:(Array.replicate ops.size false).getD j false=false:=by simp[sC,v]
    rw[this];constructor;·intro g;cases g
    rintro(g | ⟨q,o,_⟩);·exact absurd ((S.mem j).2 v) g
    cases o
   rename_i U;by_cases hi:i<ops.size
   ·simp[sC,hi] at z
   simp[sC,hi] at z
theorem aiz{N:Nat}{ops:Array dj}{d:jB}(S:DS P N ops d)(V:P.follows .mixedOrders=true)(W:S.dz):Er P N ops d:=by
 intro Zl hd B h ro β fr am H H1 H' v A k R f args a w id Q hh X Y Cw hA hk M ⟨⟨n,H2⟩,hz⟩ hw hp Z;have C:=OY hA M;subst C;rw[S.Cw] at Cw;obtain⟨TA,T2,ht,Ho,h2⟩:=List.map_eq_append_iff.1 Cw;obtain⟨k',TR,iA,nr,_⟩:=List.map_eq_cons_iff.1 h2;subst iA nr Ho;have o : ∀x∈TA,qD (S.af x).op=true:=λx hx=>hA _ (List.mem_map.2 ⟨x,hx,rfl⟩);obtain⟨D,rfl,F,q,G⟩:=W Zl hd TA k' TR ht o (by rw[hk];rfl);have I:=OY (λx hx=>by obtain⟨z,hz,rfl⟩:=List.mem_map.1 hx;exact(q z hz).1) hz;subst I;have J:k'<ops.size:=(S.mem k').1 (by rw[ht];simp);have O:=S.uR;rw[ht] at O;obtain⟨p1,p2,s⟩:=AL O;have c : ∀t∈(S.af k').ft,am t=n t:=λt CF=>(Hn (λy L e=>by
  obtain⟨z,hz,rfl⟩:=List.mem_map.1 L;rw[AQ] at e;exact(q z hz).2 t e CF) hz).symm
 have jx:args.map (aJ am)=args.map (aJ n):=xd λx hx=>AC (l:=args) (λt ht=>c t (by simp only[Item.ft,hk,gB.bD,gu];exact .inl ht)) x hx;rw[jx] at hp;rw[AD c] at hw;have u : ∀j∈TA++D,j<ops.size:=λj hj=>(S.mem j).1 (by
  rw[ht];rcases List.mem_append.1 hj with hj | hj
  ·simp[hj]
  simp[F.subset hj])
 refine wpIn_region_any V ?_;obtain⟨kF,oh⟩:=X.drew;refine T9.sound (S:=S) (β0:=β) (w0:=w) (TA:=TA++D) (fr:=fr) (f1:=n) hh (df:=a.defers) J u ?_ (λx hx=> ?_) hk (λb hb=> ?_) (λj hj t h1 h2=> ?_) ?_ hw hp (fun β' w' a' v' q1 q2 q3 q4 q5=>Z β' w' a' v' q1 q2 q3 q4 λt ht=>q5 t λj hj=>ht _ (by rw[S.Cw];exact List.mem_map.2 ⟨j,(S.mem j).2 (u j hj),rfl⟩)) ops.size _ a _ ?_ ?_ ⟨⟨β,kF,oh,?_⟩,λi j U _=> ?_,Sm,rfl⟩;·rw[Sv] at s⊢;exact⟨s.1,s.2.1.sublist F,λx hx y L=>s.2.2 x hx y (F.subset L)⟩
 ·rcases List.mem_append.1 hx with hx | hx
  ·rw[T8 (o x hx)];exact o x hx
  exact(q x hx).1
 ·have:=(S.mem b).2 hb;rw[ht] at this;rcases List.mem_append.1 this with g | g
  ·exact .inl (N4 _ g)
  rcases List.mem_cons.1 g with g | g
  ·exact .inr (.inl g)
  rcases G b g with g | g
  ·exact .inl (List.mem_append_right _ g)
  exact .inr (.inr g)
 ·rcases List.mem_append.1 hj with hj | hj
  ·exact S.d4 j k' (u j (N4 _ hj)) J (by rw[hk];rfl) (p1 j hj)
  exact absurd h2 ((q j hj).2 t h1)
 ·rw[zY];refine aaN (R:=TA.map λi=>mK (S.af i)) ?_ hz;rw[xd (g:=S.af) λx hx=>T8 (o x hx)];exact M
 ·unfold nz;exact Nat.le_trans (Sz _ _) Sm
 ·simp[sC,J]
 ·have:oH S (TA++D) (Array.replicate ops.size false) fr n=fr:=by
   funext t
   unfold oH;rw[iN];rintro⟨j,j1,j2,j3⟩;have hj:=u j j1;simp[sC,hj] at j2
  rw[this];exact Y
 by_cases hi:i<ops.size
 ·simp[sC,hi] at U
 simp[sC,hi] at U
theorem aiB{N:Nat}{ops:Array dj}{d:jB}(S:DS P N ops d)(c:P.follows .mixedOrders=true)(e:S.dz):Eo P N ops d/\Er P N ops d:=⟨aix S c,aiz S c e⟩
end
section
open Go Go.RowKit
variable {P:aX}
def aiC(acc:List Nat)(o:dj):Nat:=o.after.toList.foldl (λs e=>if Gp .any e then s ||| (2 ^ e.on ||| acc.getD e.on 0) else s) 0
def Ub:List dj->List Nat->List Nat
 | [],acc=>acc
 | o::r,acc=>Ub r (acc++ [aiC acc o])
theorem aaR{ops:Array dj}{acc:List Nat}{i:Nat}{o:dj}(ho:ops[i]? = some o)(f : ∀a j,(acc.getD a 0).testBit j=true->gP ops a j) : ∀(es:List Edge) (s:Nat),(∀e∈es,e∈o.after.toList)->(∀j,s.testBit j=true->gP ops i j)->
 ∀j,(es.foldl (λs e=>if Gp .any e then s ||| (2 ^ e.on ||| acc.getD e.on 0) else s) s).testBit j=true->gP ops i j
 | [],s,_,hs=>hs
 | e::es,s,he,hs=>by
   simp only[List.foldl_cons];refine aaR ho f es _ (λx hx=>he x (jJ _ hx)) λj c=> ?_;split at c
   ·rename_i hb;rw[Nat.testBit_or,Nat.testBit_or] at c;simp only[NZ] at c;have n:gP ops i e.on:= .Kn ho (he e (lA ..)) hb;rcases c with g | g | g
    ·exact hs j g
    ·rw[Nat.testBit_two_pow] at g;have:e.on=j:=by simpa using g
     rw[<-this];exact n
    exact .trans n (f _ _ g)
   exact hs j c
theorem aaS{ops:Array dj} : ∀(l:List dj) (acc:List Nat),(∀k (h:k<l.length),ops[acc.length+k]? = some l[k])->(∀a j,(acc.getD a 0).testBit j=true->gP ops a j)->∀a j,((Ub l acc).getD a 0).testBit j=true->gP ops a j
 | [],acc,_,f=>f
 | o::l,acc,hl,f=>by
   have g:=hl 0 Sm;simp only[Nat.add_zero,List.getElem_cons_zero] at g;refine aaS l _ (λk hk=> ?_) λa j c=> ?_;·have:=hl (k+1) (by simpa using hk);simp only[List.length_append,List.length_singleton,List.getElem_cons_succ] at this⊢;rw[show acc.length+1+k=acc.length+(k+1) by omega];exact this
   rw[yq] at c;by_cases e:a<acc.length
   ·rw[qo e,<-yq] at c;exact f a j c
   rw[su Om] at c;by_cases i:a=acc.length
   ·subst i;simp only[Nat.sub_self,eZ,tt] at c;exact aaR g f _ 0 (λ_ h=>h) (λj h=>by simp at h) j c
   obtain⟨q,n⟩ : ∃q,a-acc.length=q+1:=⟨a-acc.length-1,Om⟩;rw[n] at c;simp at c
def aaT:Item:=⟨none, .p (.vX (.const undef)),none⟩
def aiD(k:Nat)(af:Nat->Item)(ms:List Nat):List Nat:=
 let c:=(mB k).filter λi=>bT (af i).op
 let l:=c.foldl (λacc w=>acc++((mB k).filter λi=>(ms.getD w 0).testBit i && !acc.contains i)++(if acc.contains w then [] else [w])) []
 l++(mB k).filter λi=> !l.contains i
structure DD where
 k:Nat
 af:Nat->Item
 ms:List Nat
 rK:List Nat
 pos:Nat->Nat
 rk:Nat->Nat
 lo:Nat->Nat
def DD.uU(D:DD)(i j:Nat):Bool:=(D.ms.getD i 0).testBit j
def DD.w (D:DD)(i:Nat):Bool:=bT (D.af i).op
def DD.a (D:DD)(i:Nat):Bool:=li (D.af i).op
def xA (k:Nat)(p:Nat->Bool):Bool:=(mB k).all p
theorem yR{k:Nat}{p:Nat->Bool}(h:xA k p=true) : ∀i,i<k->p i=true:=λi hi=>List.all_eq_true.1 h i (List.mem_range.2 hi)
def KI (k:Nat)(p:Nat->Bool):Bool:=(mB k).any p
theorem O3{k:Nat}{p:Nat->Bool}(h:KI k p=true) : ∃i,i<k/\p i=true:=by
 obtain⟨i,h1,h2⟩:=List.any_eq_true.1 h;exact⟨i,List.mem_range.1 h1,h2⟩
def mN (a b:Bool):Bool:= !a||b
theorem nH{a b:Bool}(h:mN a b=true)(ha:a=true):b=true:=by subst ha;simpa[mN] using h
def AR(x y:Item):Bool:=match x.dst with
 | some t=>y.ft.contains t
 | none=>false
theorem KJ{x y:Item}{t:Nat}(h:x.dst=some t)(hu:t∈y.ft):AR x y=true:=by simp[AR,h,hu]
def aaU(x y:Item):Bool:=match x.dst,y.dst with
 | some s,some t=>s==t
 | _,_=>false
def aaV(x y:Item):Bool:=match x.dst,y.guard with
 | some t,some (s,_)=>s==t
 | _,_=>false
def Uc:gB->Bool
 | .l _=>true
 | _=>false
def DD.free(D:DD)(r:Nat):Bool:=xA D.k λx=>mN (decide (D.pos x<D.pos r)) (mN (D.w x) (D.uU r x)&&mN (D.a x) (KI D.k (λy=>D.w y&&decide (D.pos x<D.pos y)&&D.uU r y)||AR (D.af x) (D.af r)))
def DD.hi(D:DD)(r:Nat):Nat:=((mB D.k).filter λx=>D.w x&&decide (D.pos x<=D.pos r)).length
def DD.nB(D:DD):List (Item×Nat):=(mB D.k).flatMap λr=>if Uc (D.af r).op && !D.free r then ((mB (D.hi r+1)).filter λs=>decide (D.lo r<=s)).map λs=>(D.af r,s) else []
def DD.ok(D:DD)(ops:Array dj):Bool:=
 decide (D.rK.Pairwise λa b=>D.pos a<D.pos b)&&xA D.k (λi=>D.rK.contains i)&&D.rK.all (λi=>decide (i<D.k)) &&
 xA D.k (λi=>match ops[i]? with
  | some o=>o.after.toList.all λe=>mN (Gp .any e) (decide (e.on<D.k)&&decide (D.pos e.on<D.pos i))
  | none=>true) &&
 xA D.k (λi=>xA D.k λj=>
  mN (aaU (D.af i) (D.af j)) (decide (i=j)) &&
  mN (!decide (i=j)&&AR (D.af i) (D.af j)) (D.uU j i||(D.uU i j && !D.a j)) &&
  mN (D.a i) (!aaV (D.af i) (D.af j)) &&
  mN (D.w j&&decide (D.pos i<D.pos j)) (D.uU j i) &&
  mN (!D.w i&&D.a j&&AR (D.af j) (D.af i)) (xA D.k λx=>mN (decide (D.pos x<D.pos j)) (mN (D.w x) (D.uU i x)&&mN (D.a x) ((KI D.k λy=>D.w y&&decide (D.pos x<D.pos y)&&decide (D.pos y<D.pos j))||D.uU i x))) &&
  mN (D.w i&&D.w j) (mN (decide (D.rk i<D.rk j)) (decide (D.pos i<D.pos j))&&mN (decide (D.rk i=D.rk j)) (decide (i=j))) &&
  mN (D.w j) (decide (D.rk j<D.hi i)||decide (D.pos i<D.pos j))) &&
 xA D.k (λj=>mN (D.a j) (!AR (D.af j) (D.af j)) &&
  mN (D.w j) (xA (D.rk j) λq=>KI D.k λy=>D.w y&&decide (D.rk y=q)) &&
  xA (D.lo j) (λq=>KI D.k λx=>D.w x&&decide (D.rk x=q)&&D.uU j x) &&
  mN (Uc (D.af j).op) (D.free j||xA D.k λi=>mN (AR (D.af i) (D.af j)) (D.uU j i)))
def CG (ops:Array dj)(l:List Item):DD:=
 let k:=ops.size
 let af:=λi=>l.getD i aaT
 let ms:=Ub ops.toList []
 let rK:=aiD k af ms
 let pos:=λi=>rK.idxOf i
 let rk:=λi=>((mB k).filter λx=>bT (af x).op&&decide (pos x<pos i)).length
 { k,af,ms,rK,pos,rk,lo:=λr=>((mB k).filter λx=>bT (af x).op&&(ms.getD r 0).testBit x).length }
def DD.yG(D:DD):Option (List Item):=match D.rK.dropWhile λi=>qD (D.af i).op with
 | []=>none
 | k::R=>if (R.filter λb=> !D.uU b k).all (λz=>qD (mK (D.af z)).op && !AR (D.af z) (D.af k))=true then some ((R.filter λb=> !D.uU b k).map λz=>mK (D.af z)) else none
theorem aaW{p:Nat->Bool} : ∀ {A:List Nat} {k:Nat} {R:List Nat},(∀x∈A,p x=true)->p k=false->(A++k::R).dropWhile p=k::R
 | [],k,R,_,hk=>by simp[List.dropWhile,hk]
 | x::A,k,R,hA,hk=>by
   rw[gZ,List.dropWhile_cons_of_pos (hA x Sm)];exact aaW (λy c=>hA y (by simp[c])) hk
def lX (P:aX)(N:Nat)(ops:Array dj):Option jB:=
 match Ey P N ops ops.toList with
 | some l=>if P.follows .mixedOrders&&(CG ops l).ok ops then some ⟨(CG ops l).rK.map (CG ops l).af,(CG ops l).nB,(CG ops l).yG⟩ else none
 | none=>none
theorem aaX{N:Nat}{ops:Array dj}{d:jB}(h:lX P N ops=some d):Eo P N ops d/\Er P N ops d:=by
 unfold lX at h;split at h;rotate_left
 ·cases h
 rename_i l hl;split at h;rotate_left
 ·cases h
 rename_i hg;simp only[fV] at hg;obtain⟨V,F⟩:=hg;simp only[Option.some.injEq] at h;obtain⟨u,Cw⟩:=TG hl;have n : ∀i j,(CG ops l).uU i j=true->gP ops i j:=λi j W=>
  aaS ops.toList [] (λk hk=>by
   simp only[List.length_nil,Nat.zero_add];have X:k<ops.size:=by simpa using hk
   simp[X]) (λa j f=>by simp at f) i j W
 have G : ∀i o,ops[i]? = some o->yF P N ops o ((CG ops l).af i):=λi o ho=>by
  obtain⟨hi,rfl⟩:=Array.getElem?_eq_some_iff.1 ho;have O:i<l.length:=by rw[u];simpa using hi
  have:=Cw i O (by simpa using hi);rw[yp] at this;show yF P N ops ops[i] (l.getD i aaT);rw[yq,cj O];exact this
 generalize Y:CG ops l=D at *;have hk:D.k=ops.size:=by rw[<-Y];rfl
 unfold DD.ok at F;simp only[fV] at F;obtain⟨⟨⟨⟨⟨Z,o2⟩,o3⟩,o4⟩,o5⟩,o6⟩:=F;have c5:=λi j (hi:i<ops.size) (f:j<ops.size)=>yR (yR o5 i Om) j Om;simp only[fV] at c5;have v:=λj (f:j<ops.size)=>yR o6 j Om;simp only[fV] at v;have I : ∀i j,gP ops i j->i<ops.size->j<ops.size/\D.pos j<D.pos i:=by
  intro i j ha;induction ha with
  | @Kn i o e ho he hb=>
    intro hi;have:=yR o4 i Om;rw[ho] at this;have:=nH (List.all_eq_true.1 this e he) hb;simp only[fV,decide_eq_true_eq] at this;exact⟨Om,this.2⟩
  | @trans i j m h k AF EB=>
    intro hi;obtain⟨a1,a2⟩:=AF hi;obtain⟨b1,b2⟩:=EB a1;exact⟨b1,Om⟩
 refine aiB (S:=⟨D.af,G,D.rK,by rw[<-h],λi=> ?_,D.pos,of_decide_eq_true Z,λi j hi ha=>I i j ha hi,λi j t hi f h1 h2=> ?_,λi j t hi f aB h1 h2=> ?_,λj t f h1 h2 hu=> ?_,λi j t b hi f h1 h2 h3=> ?_,λi j hi f h1 h2=> ?_,
  λdd i t hd hi h1 h2 h3 h4 x hx hp=> ?_,D.rk,λx y hx J h1 h2 h3=> ?_,λx q hx h1 h2=> ?_,λx y hx J h1 h2 h3=> ?_,D.lo,D.hi,λr q C hq=> ?_,λr x C hx h1=> ?_,λr x C h1=> ?_⟩) V ?yG
 case yG=>
  intro Zl hp A k R ht hA hk;rw[<-h] at hp;have hp:D.yG=some Zl:=hp;have ht:D.rK=A++k::R:=ht;unfold DD.yG at hp;rw[ht,aaW (p:=λi=>qD (D.af i).op) hA hk] at hp;simp only at hp;split at hp
  ·rename_i iH;cases hp;refine⟨_,rfl,List.filter_sublist,λz hz=> ?_,λb hb=> ?_⟩;·have:=List.all_eq_true.1 iH z hz;simp only[fV,zT] at this;refine⟨this.1,λt h1 h2=> ?_⟩;rw[KJ h1 h2] at this;cases this.2
   cases Q:D.uU b k with
   | true=>exact .inr (n _ _ Q)
   | false=>exact .inl (List.mem_filter.2 ⟨hb,by rw[Q];rfl⟩)
  cases hp
 ·constructor;·intro hi;have:=List.all_eq_true.1 o3 i hi;have:=of_decide_eq_true this;omega
  intro hi;have:=yR o2 i Om;simpa using this
 ·have:=nH (c5 i j hi f).1.1.1.1.1.1 (by simp[aaU,h1,h2]);exact of_decide_eq_true this
 ·have:=nH (c5 i j hi f).1.1.1.1.1.2 (by simp[aB,KJ h1 h2]);simp only[NZ,fV,zT] at this;rcases this with g | ⟨g,g'⟩
  ·exact .inl (n _ _ g)
  exact .inr ⟨n _ _ g,g'⟩
 ·have:=nH (v j f).1.1.1 h1;rw[KJ h2 hu] at this;cases this
 ·have:=nH (c5 i j hi f).1.1.1.1.2 h1;simp[aaV,h2,h3] at this
 ·exact n _ _ (nH (c5 i j hi f).1.1.1.2 (by simp only[fV,decide_eq_true_eq];exact⟨h1,h2⟩))
 ·have:=nH (c5 dd i hd hi).1.1.2 (by simp only[fV,zT];exact⟨⟨h1,h2⟩,KJ h3 h4⟩);have:=nH (yR this x Om) (by simpa using hp);simp only[fV] at this;refine⟨λg=>n _ _ (nH this.1 g),λg=> ?_⟩;have g2:=nH this.2 g;rw[NZ] at g2;rcases g2 with g2 | g2
  ·obtain⟨y,L,c⟩:=O3 g2;simp only[fV,decide_eq_true_eq] at c;exact .inl ⟨y,Om,c.1.1,c.1.2,c.2⟩
  exact .inr (n _ _ g2)
 ·have:=nH (c5 x y hx J).1.2 (by simp only[fV];exact⟨h1,h2⟩);simp only[fV] at this;exact of_decide_eq_true (nH this.1 (by simpa using h3))
 ·obtain⟨y,L,c⟩:=O3 (yR (nH (v x hx).1.1.2 h1) q h2);simp only[fV,decide_eq_true_eq] at c;exact⟨y,Om,c.1,c.2⟩
 ·have:=nH (c5 x y hx J).1.2 (by simp only[fV];exact⟨h1,h2⟩);simp only[fV] at this;exact of_decide_eq_true (nH this.2 (by simpa using h3))
 ·obtain⟨y,L,c⟩:=O3 (yR (v r C).1.2 q hq);simp only[fV,decide_eq_true_eq] at c;exact⟨y,Om,c.1.1,c.1.2,n _ _ c.2⟩
 ·have:=nH (c5 r x C hx).2 h1;simpa using this
 have U:Uc (D.af r).op=true:=by rw[h1];rfl
 have:=nH (v r C).2 U;rw[NZ] at this;cases M:D.free r with
 | true=>
   left;intro x hx hp;have:=nH (yR M x Om) (by simpa using hp);simp only[fV] at this;refine⟨λg=>n _ _ (nH this.1 g),λg=> ?_⟩;have:=nH this.2 g;rw[NZ] at this;rcases this with g | g
   ·obtain⟨y,L,c⟩:=O3 g;simp only[fV,decide_eq_true_eq] at c;exact .inl ⟨y,Om,c.1.1,c.1.2,n _ _ c.2⟩
   right;unfold AR at g;cases hd:(D.af x).dst with
   | none=>rw[hd] at g;cases g
   | some t=>rw[hd] at g;exact⟨t,rfl,by simpa using g⟩
 | false=>
   right;rw[M] at this;simp only[je,false_or] at this;refine⟨λt j ht f hd=>n _ _ (nH (yR this j Om) (KJ hd ht)),λs s1 s2=> ?_⟩;rw[<-h];show(D.af r,s)∈D.nB;unfold DD.nB;refine List.mem_flatMap.2 ⟨r,List.mem_range.2 Om,?_⟩;rw[U,M];simp only[NX,Bool.and_self,iT];exact List.mem_map.2 ⟨s,List.mem_filter.2 ⟨List.mem_range.2 Om,by simpa using s1⟩,rfl⟩
end
section
open Go Go.RowKit
variable {T:cw}
def CI (T:cw)(b:bQ)(Q:bp->Fr->CH->Prop):bp->Fr->CH->Prop:=λx fr H=>match x with
 | .normal=>dh T b fr H Q
 | x=>Q x fr H
def O4(id:Nat)(Q:bp->Fr->CH->Prop):bp->Fr->CH->Prop:=λx fr H=>match x with
 | .exit i=>if i=id then Q .normal fr H else Q (.exit i) fr H
 | x=>Q x fr H
def KK(T:cw)(r:List Item)(fr:Fr)(d:Option Nat)(K:Fr->CH->Prop):ae->CH->Prop:=λv H=>qE T r (bO fr d v) H K
def EI (o:Option ae)(K:ae->CH->Prop)(H:CH):Prop:=match o with
 | some v=>K v H
 | none=>False
def uV (o:Option (ae×CH))(K:ae->CH->Prop):Prop:=match o with
 | some q=>K q.1 q.2
 | none=>False
def Ud (o:Option (List ae×aI×Kd×AK))(K:ae->CH->Prop)(H:CH):Prop:=match o with
 | some q=>K (db q.2.2.2 H.nx) (H.new (.cells q.1 q.2.1 q.2.2.1))
 | none=>False
def KL (o:Option (List ae))(Q:ae->CH->Prop)(H:CH):Prop:=match o with
 | some vs=>Q (dU vs) H
 | none=>False
theorem cL{v:ae}{K:ae->CH->Prop}{H:CH}:EI (some v) K H↔K v H:=eM
theorem lj{v:ae}{K:ae->CH->Prop}{H:CH}:uV (some (v,H)) K↔K v H:=eM
theorem ki{cs:List ae}{e:aI}{k:Kd}{mk:AK}{K:ae->CH->Prop}{H:CH}:Ud (some (cs,e,k,mk)) K H↔K (db mk H.nx) (H.new (.cells cs e k)):=eM
theorem EJ{vs:List ae}{Q:ae->CH->Prop}{H:CH}:KL (some vs) Q H↔Q (dU vs) H:=eM
def AS (res:List pm)(Q:ae->CH->Prop):bp->Fr->CH->Prop:=λx fr H=>match x with
 | .exit _=>False
 | _=>KL (cY fr H res) Q H
theorem dx{a b:bQ}{fr:Fr}{H:CH}{Q:bp->Fr->CH->Prop}:dh T (.seq a b) fr H Q↔dh T a fr H (CI T b Q):=OR
theorem jN{id:Nat}{c:bQ}{fr:Fr}{H:CH}{Q:bp->Fr->CH->Prop}:dh T (.block id c) fr H Q↔dh T c fr H (O4 id Q):=aau
theorem cE{b:bQ}{Q:bp->Fr->CH->Prop}{fr:Fr}{H:CH}:CI T b Q .normal fr H↔dh T b fr H Q:=eM
theorem Hp{b:bQ}{Q:bp->Fr->CH->Prop}{fr:Fr}{H:CH}:CI T b Q .ret fr H↔Q .ret fr H:=eM
theorem KM{b:bQ}{Q:bp->Fr->CH->Prop}{i:Nat}{fr:Fr}{H:CH}:CI T b Q (.exit i) fr H↔Q (.exit i) fr H:=eM
theorem pU{id:Nat}{Q:bp->Fr->CH->Prop}{fr:Fr}{H:CH}:O4 id Q .normal fr H↔Q .normal fr H:=eM
theorem Hq{id:Nat}{Q:bp->Fr->CH->Prop}{fr:Fr}{H:CH}:O4 id Q .ret fr H↔Q .ret fr H:=eM
theorem KN{id i:Nat}{Q:bp->Fr->CH->Prop}{fr:Fr}{H:CH}:O4 id Q (.exit i) fr H↔if i=id then Q .normal fr H else Q (.exit i) fr H:=eM
theorem O5{res:List pm}{Q:ae->CH->Prop}{fr:Fr}{H:CH}:AS res Q .normal fr H↔KL (cY fr H res) Q H:=eM
theorem O6{res:List pm}{Q:ae->CH->Prop}{fr:Fr}{H:CH}:AS res Q .ret fr H↔KL (cY fr H res) Q H:=eM
theorem ez{af:List Item}{fr:Fr}{H:CH}{Q:bp->Fr->CH->Prop}:dh T (.mI af) fr H Q↔qE T af fr H (Q .normal):=aas
theorem kM{af:List Item}{pn:Option (List Item)}{fr:Fr}{H:CH}{Q:bp->Fr->CH->Prop}:dh T (.mJ ⟨af,[],pn⟩) fr H Q↔qE T af fr H (Q .normal):=by
 rw[TN];constructor
 ·rintro⟨n,fr',H',l,h1,h2,h3⟩;refine⟨n,fr',H',?_,h3⟩;clear h2 h3;induction af generalizing fr H l with
  | nil=>simp only[cH,Option.some.injEq,Prod.mk.injEq] at h1;obtain⟨rfl,rfl,rfl⟩:=h1;rfl
  | cons it af e=>
    simp only[cH,dP] at h1⊢
    cases hs:cX (dH T n) it fr H with
    | none=>rw[hs] at h1;cases h1
    | some q=>
      rw[hs] at h1;simp only at h1⊢
      cases hd:cH (dH T n) af q.1 q.2 with
      | none=>rw[hd] at h1;cases h1
      | some z=>obtain⟨a,b,c⟩:=z;rw[hd] at h1;simp only[dC,Option.some.injEq,Prod.mk.injEq] at h1;obtain⟨rfl,rfl,_⟩:=h1;exact e _ hd
 rintro⟨n,fr',H',h1,h3⟩;have : ∃l,cH (dH T n) af fr H=some (fr',H',l):=by
  clear h3;induction af generalizing fr H with
  | nil=>simp only[dP,Option.some.injEq,Prod.mk.injEq] at h1;obtain⟨rfl,rfl⟩:=h1;exact⟨[],rfl⟩
  | cons it af e=>
    simp only[cH,dP] at h1⊢
    cases hs:cX (dH T n) it fr H with
    | none=>rw[hs] at h1;cases h1
    | some q=>
      rw[hs] at h1;obtain⟨l,hl⟩:=e h1;simp only[hl];exact⟨_,rfl⟩
 obtain⟨l,hl⟩:=this;exact⟨n,fr',H',l,hl,λp hp=>by simp at hp,h3⟩
def EK(T:cw)(v:ae)(a b:bQ)(fr:Fr)(H:CH)(Q:bp->Fr->CH->Prop):Prop:=match v with
 | .bool t=>if t=true then dh T a fr H Q else dh T b fr H Q
 | _=>False
theorem fj{c:av}{a b:bQ}{fr:Fr}{H:CH}{Q:bp->Fr->CH->Prop}:dh T (.cond c a b) fr H Q↔EK T (aJ fr c) a b fr H Q:=TO
theorem fZ{a b:bQ}{fr:Fr}{H:CH}{Q:bp->Fr->CH->Prop}:EK T (.bool true) a b fr H Q↔dh T a fr H Q:=by simp[EK]
theorem oJ{a b:bQ}{fr:Fr}{H:CH}{Q:bp->Fr->CH->Prop}:EK T (.bool false) a b fr H Q↔dh T b fr H Q:=by simp[EK]
theorem aiG{t:Bool}{a b:bQ}{fr:Fr}{H:CH}{Q:bp->Fr->CH->Prop}(h1:t=true->dh T a fr H Q)(h2:t=false->dh T b fr H Q):EK T (.bool t) a b fr H Q:=by
 cases t;·exact oJ.2 (h2 rfl)
 exact fZ.2 (h1 rfl)
def pV (T:cw)(v:ae)(b:Bool)(d:Option Nat)(op:gB)(r:List Item)(fr:Fr)(H:CH)(K:Fr->CH->Prop):Prop:=match v with
 | .bool c=>if c=b then lW T fr H op (KK T r fr d K) else qE T r (bO fr d kg) H K
 | .chan none=>qE T r (bO fr d kg) H K
 | _=>False
theorem nI{d:Option Nat}{op:gB}{s:Nat}{b:Bool}{r:List Item}{fr:Fr}{H:CH}{K:Fr->CH->Prop}:qE T (⟨d,op,some (s,b)⟩::r) fr H K↔pV T (fr s) b d op r fr H K:=by
 rw[OP];simp only[eG];generalize fr s=v;unfold pV;cases v with
 | bool c=>
   simp only;by_cases e:c=b
   ·subst e;simp only[beq_self_eq_true,iT];exact eM
   have:(c==b)=false:=by simpa using e
   simp only[this,iN e]
 | chan r=>cases r<;>exact eM
 | _=>exact eM
variable {d:Option Nat} {op:gB} {r:List Item} {fr:Fr} {H:CH} {K:Fr->CH->Prop}
theorem Ue:pV T (.bool true) true d op r fr H K↔lW T fr H op (KK T r fr d K):=by simp[pV]
theorem nJ:pV T (.bool false) false d op r fr H K↔lW T fr H op (KK T r fr d K):=by simp[pV]
theorem rL:pV T (.bool true) false d op r fr H K↔qE T r (bO fr d kg) H K:=by simp[pV]
theorem Uf:pV T (.bool false) true d op r fr H K↔qE T r (bO fr d kg) H K:=by simp[pV]
theorem AT{b:Bool}:pV T kg b d op r fr H K↔qE T r (bO fr d kg) H K:=by simp[pV,kg]
theorem aiH{t b:Bool}(h1:t=true->pV T (.bool true) b d op r fr H K)(h2:t=false->pV T (.bool false) b d op r fr H K):pV T (.bool t) b d op r fr H K:=by
 cases t;·exact h2 rfl
 exact h1 rfl
theorem c9{d:Option Nat}{op:gB}{r:List Item}{fr:Fr}{H:CH}{K:Fr->CH->Prop}:qE T (⟨d,op,none⟩::r) fr H K↔lW T fr H op (KK T r fr d K):=OP
theorem da{r:List Item}{fr:Fr}{d:Option Nat}{K:Fr->CH->Prop}{v:ae}{H:CH}:KK T r fr d K v H↔qE T r (bO fr d v) H K:=eM
theorem cM{fr:Fr}{H:CH}{x:dY}{K:ae->CH->Prop}:lW T fr H (.p x) K↔EI (pop (aJ fr) x) K H:=by
 rw[aao];cases pop (aJ fr) x<;>simp[EI]
theorem dL{fr:Fr}{H:CH}{x:iK}{K:ae->CH->Prop}:lW T fr H (.l x) K↔EI (aD H (aJ fr) x) K H:=by
 rw[TM];cases aD H (aJ fr) x<;>simp[EI]
theorem kj{fr:Fr}{H:CH}{x:qC}{K:ae->CH->Prop}:lW T fr H (.a x) K↔Ud (cq (aJ fr) x) K H:=by
 rw[aap];cases cq (aJ fr) x with
 | none=>simp[Ud]
 | some q=>
   obtain⟨cs,e,k,mk⟩:=q;constructor;·rintro⟨cs',e',k',c,h,hk⟩;cases h;exact hk
   intro h;exact⟨cs,e,k,mk,rfl,h⟩
theorem iB{fr:Fr}{H:CH}{x:iW}{K:ae->CH->Prop}:lW T fr H (.w x) K↔uV (bq H (aJ fr) x) K:=by
 rw[aaq];cases bq H (aJ fr) x with
 | none=>simp[uV]
 | some q=>
   constructor;·rintro⟨v,H',h,hk⟩;cases h;exact hk
   intro h;exact⟨q.1,q.2,rfl,h⟩
def Ug(T:cw)(v:ae)(args:List ae)(H:CH)(K:ae->CH->Prop):Prop:=match v with
 | .func (.func f) _ dF=>aQ T f (args++dF.toList) H K
 | .func (.yield l) _ _=>TK T l args H K
 | _=>False
theorem aaY{fr:Fr}{H:CH}{g:av}{args:List av}{K:ae->CH->Prop}:lW T fr H (.pg g args) K↔Ug T (aJ fr g) (args.map (aJ fr)) H K:=aid
theorem aaZ{f:aS}{a dF:Array ae}{args:List ae}{H:CH}{K:ae->CH->Prop}:Ug T (.func (.func f) a dF) args H K↔aQ T f (args++dF.toList) H K:=eM
theorem aa0{l:Nat}{a dF:Array ae}{args:List ae}{H:CH}{K:ae->CH->Prop}:Ug T (.func (.yield l) a dF) args H K↔TK T l args H K:=eM
def O7(T:cw)(v:ae)(key:Nat×Nat)(fr:Fr)(H:CH)(Q:bp->Fr->CH->Prop):Prop:=match v with
 | .func (.func f) _ dF=>aQ T f (.func (.yield H.nx) #[] #[]::dF.toList) (H.new (.loop .ready none fr key)) (TQ H.nx fr Q)
 | _=>False
theorem aa1{g:av}{key:Nat×Nat}{fr:Fr}{H:CH}{Q:bp->Fr->CH->Prop}:dh T (.sN g key) fr H Q↔O7 T (aJ fr g) key fr H Q:=by
 constructor
 ·rintro⟨n,x,fr',H',h1,h2⟩;simp only[bE] at h1;unfold O7;split at h1
  ·rename_i f c dF hg;rw[hg];cases hc:(dH T n).call f (Value.func (.yield H.nx) #[] #[]::dF.toList) (H.new (.loop .ready none fr key)) with
   | none=>rw[hc] at h1;cases h1
   | some q=>
     rw[hc] at h1;refine⟨n,q.1,q.2,hc,?_⟩;simp only at h1;split at h1
     ·rename_i st gv am e ho;split at h1;·cases h1
      rename_i hb;simp only[Option.some.injEq,Prod.mk.injEq] at h1;obtain⟨rfl,rfl,rfl⟩:=h1;exact⟨_,_,_,_,ho,hb,h2⟩
     cases h1
  cases h1
 intro h;unfold O7 at h;split at h;·rename_i f c dF hg;exact aif hg h
 exact h.elim
theorem aa2{f:aS}{a dF:Array ae}{key:Nat×Nat}{fr:Fr}{H:CH}{Q:bp->Fr->CH->Prop}:O7 T (.func (.func f) a dF) key fr H Q↔aQ T f (.func (.yield H.nx) #[] #[]::dF.toList) (H.new (.loop .ready none fr key)) (TQ H.nx fr Q):=eM
theorem KO{fr:Fr}{H:CH}{f:aS}{args:List av}{K:ae->CH->Prop}:lW T fr H (.call f args) K↔aQ T f (args.map (aJ fr)) H K:=eM
theorem aH{fr:Fr}{d t:Nat}{v:ae}:bO fr (some d) v t=if t=d then v else fr t:=rfl
theorem dA{fr:Fr}{v:ae}:bO fr none v=fr:=rfl
theorem aL{fr:Fr}{t:Nat}:aJ fr (.tmp t)=fr t:=rfl
theorem bf{fr:Fr}{v:ae}:aJ fr (.const v)=v:=rfl
theorem O8{fr:Fr}{f:aS}:aJ fr (.func f)= .func (.func f) #[] #[]:=rfl
theorem jK{H:CH}{o:dD}:(H.new o).nx=H.nx+1:=rfl
theorem kf{H:CH}{l:Nat}{o:dD}:(H.set l o).nx=H.nx:=rfl
theorem aa3{H:CH}{o:dD}{k:Nat}(h:k=H.nx):(H.new o).ob k=o:=by simp[CH.new,h]
theorem bL{H:CH}{o:dD}{k:Nat}(h:k≠H.nx):(H.new o).ob k=H.ob k:=by simp[CH.new,h]
theorem aa4{H:CH}{o:dD}{l:Nat}:(H.set l o).ob l=o:=by simp[CH.set]
theorem aa5{H:CH}{o:dD}{l k:Nat}(h:k≠l):(H.set l o).ob k=H.ob k:=by simp[CH.set,h]
theorem Uh{f:aS}{rf:yI}(he:T.ext f=false)(e:T.fn f=some rf){args:List ae}{H:CH}{Q:ae->CH->Prop}(h:dh T rf.body (λt=>args.getD t undef) H (AS rf.res Q)):aQ T f args H Q:=by
 refine(aie he e).2 (h.mono λx fr' H' hx=> ?_);unfold AS at hx;cases x with
 | exit i=>exact hx
 | normal=>simp only at hx⊢;cases c:cY fr' H' rf.res with
   | none=>rw[c] at hx;exact hx.elim
   | some vs=>rw[c] at hx;exact⟨vs,rfl,hx⟩
 | ret=>simp only at hx⊢;cases c:cY fr' H' rf.res with
   | none=>rw[c] at hx;exact hx.elim
   | some vs=>rw[c] at hx;exact⟨vs,rfl,hx⟩
theorem cZ{v:ae}{r:List ae}:(v::r).getD 0 undef=v:=rfl
theorem eT{v:ae}{r:List ae}{n:Nat}:(v::r).getD (n+1) undef=r.getD n undef:=rfl
def Hr(I:Nat->Fr->CH->Prop)(n:Nat)(Q:bp->Fr->CH->Prop):bp->Fr->CH->Prop:=λx fr H=>match x with
 | .normal=>∃m,m<n/\I m fr H
 | x=>Q x fr H
theorem pW{I:Nat->Fr->CH->Prop}{n:Nat}{Q:bp->Fr->CH->Prop}{fr:Fr}{H:CH}:Hr I n Q .normal fr H↔∃m,m<n/\I m fr H:=eM
theorem Hs{I:Nat->Fr->CH->Prop}{n:Nat}{Q:bp->Fr->CH->Prop}{fr:Fr}{H:CH}:Hr I n Q .ret fr H↔Q .ret fr H:=eM
theorem KP{I:Nat->Fr->CH->Prop}{n i:Nat}{Q:bp->Fr->CH->Prop}{fr:Fr}{H:CH}:Hr I n Q (.exit i) fr H↔Q (.exit i) fr H:=eM
theorem aiI{c:bQ}{Q:bp->Fr->CH->Prop}(I:Nat->Fr->CH->Prop)(step : ∀n fr H,I n fr H->dh T c fr H (Hr I n Q)) : ∀ {n:Nat} {fr:Fr} {H:CH},I n fr H->dh T (.loop c) fr H Q:=by
 intro n;induction n using Nat.strongRecOn with
 | _ n e=>
   intro fr H h;refine OS.2 ((step n fr H h).mono λx fr' H' hx=> ?_);cases x with
   | normal=>obtain⟨m,f,hi⟩:=hx;exact e m f hi
   | exit i=>exact hx
   | ret=>exact hx
section ints
variable {k:IntKind} {a b:Int}
theorem gh:bP (binOp .add 0 (.int k a) (.int k b))=some (.int k (k.wrap (a+b))):=by simp[binOp,Jh,bP,kX]
theorem EL:bP (binOp .sub 0 (.int k a) (.int k b))=some (.int k (k.wrap (a-b))):=by simp[binOp,Jh,bP,kX]
theorem aa6:bP (binOp .mul 0 (.int k a) (.int k b))=some (.int k (k.wrap (a*b))):=by simp[binOp,Jh,bP,kX]
theorem aa7(h:b≠0):bP (binOp .quo 0 (.int k a) (.int k b))=some (.int k (k.wrap (a.tdiv b))):=by simp[binOp,Op.intDiv,bP,kX,h]
theorem aa8(h:b≠0):bP (binOp .rem 0 (.int k a) (.int k b))=some (.int k (a.tmod b)):=by simp[binOp,Op.intDiv,bP,kX,h]
theorem tQ:bP (binOp .eql 0 (.int k a) (.int k b))=some (.bool (decide (a=b))):=by simp[binOp,Op.intCmp,bP,kX];by_cases h:a=b<;>simp[h]
theorem aa9:bP (binOp .neq 0 (.int k a) (.int k b))=some (.bool (decide (a≠b))):=by simp[binOp,Op.intCmp,bP,kX];by_cases h:a=b<;>simp[h]
theorem mO:bP (binOp .lss 0 (.int k a) (.int k b))=some (.bool (decide (a<b))):=by simp[binOp,Op.intCmp,bP,kX]
theorem aa':bP (binOp .leq 0 (.int k a) (.int k b))=some (.bool (decide (a<=b))):=by simp[binOp,Op.intCmp,bP,kX]
theorem jg:bP (binOp .gtr 0 (.int k a) (.int k b))=some (.bool (decide (b<a))):=by simp[binOp,Op.intCmp,bP,kX]
theorem KQ:bP (binOp .geq 0 (.int k a) (.int k b))=some (.bool (decide (b<=a))):=by simp[binOp,Op.intCmp,bP,kX]
theorem aiJ:bP (binOp .and 0 (.int k a) (.int k b))=some (.int k (k.wrap (BitVec.ofInt k.bits a &&& BitVec.ofInt k.bits b).toNat)):=by simp[binOp,Op.intBits,bP,kX]
theorem aiK:bP (binOp .or 0 (.int k a) (.int k b))=some (.int k (k.wrap (BitVec.ofInt k.bits a ||| BitVec.ofInt k.bits b).toNat)):=by simp[binOp,Op.intBits,bP,kX]
theorem Ui{k':IntKind}(h:0<=b):bP (binOp .shl 0 (.int k a) (.int k' b))=some (.int k (k.wrap (a*2 ^ min b.toNat k.bits))):=by
 have : ¬b<0:=by omega
 simp[binOp,Op.shift,bP,kX,this]
theorem KR{k':IntKind}(h:0<=b):bP (binOp .shr 0 (.int k a) (.int k' b))=some (.int k (a.fdiv (2 ^ min b.toNat k.bits))):=by
 have : ¬b<0:=by omega
 simp[binOp,Op.shift,bP,kX,this]
theorem sP{t:Bool}:bP (Op.unary .not (.bool t))=some (.bool (!t)):=rfl
theorem eU(h1 : -9223372036854775808<=a)(h2:a<=9223372036854775807):IntKind.i64.wrap a=a:=by rw[IntKind.wrap_i64];omega
theorem aba(h1:0<=a)(h2:a<18446744073709551616):IntKind.u64.wrap a=a:=by rw[IntKind.wrap_u64];omega
theorem Uj(h1:0<=a)(h2:a<256):IntKind.u8.wrap a=a:=by rw[IntKind.wrap_u8];omega
theorem abb(h:0<=a):a.tdiv b=a / b:=by rw[Int.tdiv_eq_ediv_of_nonneg h]
theorem abc(h:0<=a):a.tmod b=a % b:=by rw[Int.tmod_eq_emod_of_nonneg h]
end ints
end
end Can
end Go.Proofs.YticlaccbodpkeaaGreatDoor
namespace Go.Proofs.YticlaccbodpkeaaGreatDoor
open Go.ChangeShapes Go.WideShapes Go.ChangeAt Go.RowKit
section
variable {P:aX} {T E sz:Nat} (hT:P.underlying T=some (.slice E)) (hE:(P.info? E).map (·.size)=some sz)
include hT hE
end
end Go.Proofs.YticlaccbodpkeaaGreatDoor
namespace Go.Proofs.YticlaccbodpkeaaGreatDoor
open Go.ChangeShapes Go.WideShapes Go.ChangeAt Go.RowKit Go.Deep
theorem abd{α:Type}{n:Nat}{p:Nat->α->Prop}(each : ∀i,i<n->∃y,p i y) : ∃ys:List α,ys.length=n/\∀i (h:i<ys.length),p i ys[i]:=by
 induction n with
 | zero=>exact⟨[],rfl,λi h=>absurd h (fW _)⟩
 | succ n g=>
   obtain⟨ys,c,j⟩:=g (λi hi=>each i Om);obtain⟨y,h1⟩:=each n Om;refine⟨ys++ [y],by simp[c],λi hi=> ?_⟩;by_cases f:i<ys.length
   ·rw[List.getElem_append_left f];exact j i f
   have e:i=n:=by simp at hi;omega
   subst e;rw[List.getElem_append_right Om];simpa[c] using h1
section
variable {H:Type} {enc:aI×ae->H} {P:aX} {w:ay} {base:Nat} {spare:Nat->Bool} {held:Bool}
end
end Go.Proofs.YticlaccbodpkeaaGreatDoor
