/- Canonical runs: functions. Over any program. What a value in memory reads as: slices, integers; what keeps a reading; append and make in these words. Plain lemmas over any program. -/
import Derived.Test.YtdfgkcoenagaaaaGreatYa
import Derived.Test.YtdfgkcoenagaaaaGreatYb
import Derived.Test.YtdfgkcoenagaaaaGreatRows
import Derived.WalkKit
import Derived.ProofKit
import Derived.OpenShut
import Derived.Lib.Hide
import Derived.Deep.Slices
open Array renaming all_eq_true_iff_forall_mem → aoF, ext' → qR, getD_eq_getD_getElem? → mR, getElem?_eq_getElem → sf, getElem?_push → CW, getElem?_setIfInBounds_ne → Tn, getElem_toList → Ji, replicate → ND
open Bool renaming and_eq_true → eY, false_eq_true → aM, not_eq_true' → xj, not_false → FH, or_eq_true → zl, true_and → zm
open Classical renaming byContradiction → NG
open Go renaming Code → fS, Deferred → uf, FuncId → bk, Oper → cu, Operand → au, Program → aZ, TypeId → aH, Value → ae, World → ar
open Go.Fence renaming wide → gZ
open Go.Instr renaming sureAddr → C0
open Go.Op renaming intArith → FG
open Go.Region renaming binds → Db, ready → xq, wanted → Jm
open Go.Result renaming andThen → xo, andThen_ok → bY
open Go.Sem renaming run_bind → ci, run_pure → cO
open Go.World renaming putObj_heap_other → AN
open Iff renaming rfl → fI
open List renaming append_of_mem → NF, cons_append → aS, getD_eq_getElem?_getD → ud, getElem?_append_left → uc, getElem?_append_right → th, getElem?_cons_succ → FI, getElem?_cons_zero → Jn, getElem?_eq_getElem → dA, map_append → ql, map_congr_left → vT, map_cons → dk, mem_append → fo, mem_append_left → vU, mem_cons → js, mem_cons_of_mem → kw, mem_cons_self → np, nil_append → a6, pairwise_cons → NE, range → mu
open Nat renaming add_assoc → jS, le_max_left → vR, le_max_right → vS, le_refl → ag, le_succ → nq, le_succ_of_le → xi, lt_irrefl → Dc, lt_or_ge → pv, not_lt_zero → tj
open Option renaming getD_some → qj, map_some → fm
open Pure renaming pure → kx
set_option linter.unusedSimpArgs false
set_option linter.unusedVariables false
namespace Go.Proofs.YtdfgkcoenagaaaaGreat
namespace Can
section
open Go Go.RowKit
variable {P:aZ} {B:Nat}
inductive nD where
 | tmp (t:Nat)
 | ld (t:Nat)
 | jZ (n t:Nat)
def jf (fr:Fr)(H:CH):nD->Option ae
 | .tmp t=>some (fr t)
 | .ld t=>bg H (aO fr) (.ld (.tmp t))
 | .jZ n t=>bg H (aO fr) (.jZ n (.tmp t))
def ct (fr:Fr)(H:CH):List nD->Option (List ae)
 | []=>some []
 | r::rs=>match jf fr H r,ct fr H rs with
   | some v,some vs=>some (v::vs)
   | _,_=>none
def eV:List ae->ae
 | [v]=>v
 | vs=> .tuple vs.toArray
structure wk where
 ntmps:Nat
 res:List nD
 body:bP
structure cF where
 fn:bk->Option wk
 loop:Nat×Nat->Option (List Nat×bP×bP)
 ext:bk->Bool
 xt:Hd
def DK(fr:Fr)(ps:List Nat)(args:List ae):Fr:=(ps.zip args).foldl (λfr p=>bE fr (some p.1) p.2) fr
def ux:bQ->Option (Option Nat)
 | .normal=>none
 | .ret=>some none
 | .exit i=>some (some i)
noncomputable def da(T:cF):Nat->Hd
 | 0=>⟨λ_ _ _=>none,λ_ _ _=>none⟩
 | n+1=>⟨λf args H=>if T.ext f then T.xt.call f args H else match T.fn f with
   | some rf=>match bG (da T n) n rf.body (λt=>args.getD t undef) H with
     | some (.normal,fr',H')=>(ct fr' H' rf.res).map λvs=>(eV vs,H')
     | some (.ret,fr',H')=>(ct fr' H' rf.res).map λvs=>(eV vs,H')
     | _=>none
   | none=>none,λl args H=>match H.ob l with
   | .loop .ready _ fr key=>match T.loop key with
     | some (ps,bF,body)=>if args.length=ps.length then match bG (da T n) n bF (DK fr ps args) H with
       | some (.normal,g,c)=>match c.ob l with
         | .loop .ready gN i j=>match bG (da T n) n body g (c.set l (.loop .busy gN i j)) with
           | some (x,_,e)=>match e.ob l with
             | .loop _ _ o p=>some (.bool (ux x).isNone,e.set l (.loop (if (ux x).isNone then .ready else .done) (ux x) o p))
             | _=>none
           | none=>none
         | _=>none
       | _=>none
       else none
     | none=>none
   | _=>none⟩
noncomputable def pH(T:cF)(n:Nat):bk->List ae->CH->Option (ae×CH):=(da T n).call
inductive J3(P:aZ):ResultVar->nD->Prop where
 | tmp {t:Nat}:J3 P (.tmp t) (.tmp t)
 | ld {a t:Nat} {d:TypeDesc} (h:P.underlying t=some d) (hd:(match d with | .struct _ | .array _ _=>true | _=>false)=false):J3 P (.cell a t) (.ld a)
 | jZ {a t n:Nat} {d:TypeDesc} (h:P.underlying t=some d) (hd:(match d with | .struct _ | .array _ _=>true | _=>false)=true) (hn:(P.info? t).map (·.size)=some n):J3 P (.cell a t) (.jZ n a)
inductive Bm(P:aZ):List ResultVar->List nD->Prop where
 | nil:Bm P [] []
 | cons {r:ResultVar} {q:nD} {rs:List ResultVar} {qs:List nD} (h:J3 P r q) (hs:Bm P rs qs):Bm P (r::rs) (q::qs)
structure J4(P:aZ)(f:bk)(rf:wk):Prop where
 call:q9 P f=true
 ok : ∃fn c,P.funcs[f]? = some fn/\fn.body=some c/\fn.ntmps=rf.ntmps/\jI P rf.ntmps c rf.body/\Bm P fn.results.toList rf.res
def DL(tmps:Array ae):ResultVar->Sem ae
 | .tmp t=>pure (tmps.getD t undef)
 | .cell a t=>do loadVar t (<-asAddr (tmps.getD a undef))
theorem aef{β:Nat->aB}{H:CH}{w:ar}{fr:Fr}{N:Nat}{a:Act}(j:aN P B β H w)(g:FR β N fr a) : ∀ {rs:List ResultVar} {qs:List nD} {vs:List ae},Bm P rs qs->ct fr H qs=some vs->
 ∃f,(rs.mapM (DL a.tmps)).run P w= .ok f w/\aW β vs f:=by
 intro rs qs vs h;induction h generalizing vs with
 | nil=>intro c;simp only[ct,Option.some.injEq] at c;subst c;exact⟨[],rfl,aW.nil β⟩
 | @cons r q rs qs i Q A=>
   intro c;simp only[ct] at c;split at c
   ·rename_i v C h1 h2;cases c;obtain⟨f,D,F⟩:=A h2;have hv : ∃v',(DL a.tmps r).run P w= .ok v' w/\VR β v v':=by
     cases i with
     | @tmp t=>
       simp only[jf,Option.some.injEq] at h1;subst h1;exact⟨_,rfl,g.2 t⟩
     | @ld s t d h hd=>
       simp only[jf,bg,aO] at h1;have hx:=g.2 s;split at h1
       ·rename_i l U ha;split at h1;·rename_i cs e k G;rw[ha] at hx;obtain⟨b,z,I,hc⟩:=j.load hx G;obtain⟨u,hu,J⟩:=hc _ _ h1;refine⟨u,?_,J⟩;simp only[DL,I,asAddr,loadVar,ci,cO,bY,Ud h hd,aM,iF];simp[Go.load,Sem.run,hu]
        cases h1
       cases h1
     | @jZ s t n d h hd hn=>
       have hx:=g.2 s;obtain⟨u,hu,c⟩:=Ue (x:= .tmp s) h hd hn B β H w (aO fr) (λ_=>a.tmps.getD s undef) { dst:=none,op:= .load t (.tmp s),type:=0,pos:= "",after:= #[],guard:=none } v rfl (λx o=>by simp[Op.operands] at o;subst o;exact hx) j h1;refine⟨u,?_,c⟩;simp only[DL];simp only[execOp,Instr.loadAt,ci] at hu;generalize i:a.tmps.getD s undef=q at hu⊢;rw[i] at hx;cases q with
       | pointer p=>
         cases p with
         | none=>simp[C0,Sem.run,stuck] at hu
         | some p=>
           simp only[C0,cO,bY] at hu;simp only[asAddr,ci,cO,bY];cases hl:(loadVar t p).run P w with
           | ok y L=>rw[hl] at hu;simp only[bY,Result.ok.injEq,Next.value.injEq] at hu;rw[hu.1,hu.2]
           | halt y L=>rw[hl] at hu;simp[xo] at hu
       | _=>simp[C0,Sem.run,stuck,xo] at hu
    obtain⟨v',M,O⟩:=hv;refine⟨v'::f,?_,F.cons O⟩;simp only[List.mapM_cons,ci,M,bY,D,cO]
   cases c
theorem Ot{β:Nat->aB}{H:CH}{w:ar}{fr:Fr}{N:Nat}{a:Act}(n:aN P B β H w)(o:FR β N fr a){fn:Func}{qs:List nD}{vs:List ae}(h:Bm P fn.results.toList qs)(f:ct fr H qs=some vs) :
 ∃v',(results fn a.tmps).run P w= .ok v' w/\VR β (eV vs) v':=by
 obtain⟨c,h1,h2⟩:=aef n o h f;have q:(fn.results.mapM (DL a.tmps)).run P w= .ok c.toArray w:=by
  rw[Array.mapM_eq_mapM_toList];simp only[Sem.run_map,h1,bY]
 have s:(results fn a.tmps).run P w= .ok (if g:c.toArray.size=1 then c.toArray[0] else .tuple c.toArray) w:=by
  have:results fn a.tmps=(do let vs <-fn.results.mapM (DL a.tmps);pure (if h:vs.size=1 then vs[0] else .tuple vs)):=rfl;rw[this];simp only[ci,q,bY,cO]
 refine⟨_,s,?_⟩;match vs,c,h2 with
 | [],[],_=>exact .undef _
 | [v],[v'],h2=>
   obtain⟨u,hu,f⟩:=h2.2 0 v rfl;simp at hu;subst hu;simpa[eV] using f
 | v::i::vs,v'::j::c,h2=>
   have e:(eV (v::i::vs))= .tuple (v::i::vs).toArray:=rfl;rw[e,dif_neg s0];have:=(aW.arr (xa:=(v::i::vs).toArray) (bs:=(v'::j::c).toArray)).1 (by simpa using h2);exact .tuple this.1 this.2
 | [],_::_,h2=>exact absurd h2.1 s0
 | [_],[],h2=>exact absurd h2.1 s0
 | [_],_::_::_,h2=>exact absurd h2.1 s0
 | _::_::_,[],h2=>exact absurd h2.1 s0
 | _::_::_,[_],h2=>exact absurd h2.1 s0
structure UR(P:aZ)(key:Nat×Nat)(ps:List Nat)(bF body:bP):Prop where
 ok : ∃N ca cb,keyOf P key=some (N,ps.toArray,ca,cb)/\jI P N ca bF/\jI P N cb body/\∀p∈ps,p<N
structure uy(P:aZ)(B:Nat)(T:cF):Prop where
 fn : ∀f rf,T.fn f=some rf->J4 P f rf
 loop : ∀key ps bF body,T.loop key=some (ps,bF,body)->UR P key ps bF body
 ext:HS P B T.xt
theorem aN.Ou{β:Nat->aB}{H:CH}{w:ar}(h:aN P B β H w){D:Nat}{o o':Obj}(i:w.heap[D]? = some o)(hk:(∀cs e f,o≠ .cells cs e f)/\(∀es c,o≠ .map es c)/\(∀r,o≠ .loop r)/\(∀s p,o≠ .stringIter s p)/\∀a b c d,o≠ .mapIter a b c d):aN P B β H (w.putObj D o'):=by
 refine⟨λl=>(h.iI l).mono (eU.refl β) λb hb=>AN ?_,h.nx,h.inj,by simpa using h.base⟩;rintro rfl;rcases hb with ⟨z,sz,n,kd,hb⟩ | hb | hb
 ·obtain⟨cs,e,_,cs',e',hU,g,_⟩:=h.live hb;rw[i] at g;cases g;exact hk.1 _ _ _ rfl
 ·have:=h.iI l;rw[hb] at this;cases ho:H.ob l with
  | map es c=>rw[ho] at this;obtain⟨_,j,g,_⟩:=this;rw[i] at g;cases g;exact hk.2.1 _ _ rfl
  | qp q pp=>rw[ho] at this;have g:=this.2;rw[i] at g;cases g;exact hk.2.2.2.1 _ _ rfl
  | xG t=>rw[ho] at this;obtain⟨_,_,_,_,_,_,g⟩:=this;rw[i] at g;cases g;exact hk.2.2.2.2 _ _ _ _ rfl
  | _=>rw[ho] at this;exact this.elim
 obtain⟨_,_,_,_,_,_,r,_,g,_⟩:=h.loop hb;rw[i] at g;cases g;exact hk.2.2.1 _ rfl
theorem US{fn:Func}{tmps:Array ae}{R:Ending->ar->Prop}{B1:Nat}{β0 β:Nat->aB}{w0:ar}{H:CH} : ∀(ms:List Nat) (w:ar),aN P B β H w->bD β0 w0 β w->w0.heap.size<=B1->ms.Nodup->(∀D∈ms,B1<=D/\w.heap[D]? = some (.deferred (some [])))->
 (∀w',aN P B β H w'->bD β0 w0 β w'->∃v,(results fn tmps).run P w'= .ok v w'/\R (.returned v) w')->LeavesInM gZ 0 P fn tmps R (ms.map JW) .returning w
 | [],w,c,hE,g,hn,e,f=>f w c hE
 | D::ms,w,c,hE,g,hn,e,f=>by
   obtain⟨h1,h2⟩:=e D (np ..);have s:=(Array.getElem?_eq_some_iff.1 h2).1;refine⟨s0, .inl ⟨D,w.putObj D (.deferred none),rfl,run_takeDeferred h2,?_⟩⟩;refine US ms _ (c.Ou (o':= .deferred none) h2 ⟨λ_ _ _=>by simp,λ_ _=>by simp,λ_=>by simp,λ_ _=>by simp,λ_ _ _ _=>by simp⟩) ?_ g (List.nodup_cons.1 hn).2 (λj i=> ?_) f
   ·exact⟨hE.os,hE.tape,hE.output,by simpa using hE.size,λb hb ho=>by
     obtain⟨k1,n⟩:=hE.cX b hb ho;exact⟨(AN Om).trans k1,n⟩,hE.ext⟩
   obtain⟨o,q⟩:=e j (kw _ i);refine⟨o,(AN ?_).trans q⟩;rintro rfl;exact(List.nodup_cons.1 hn).1 i
theorem UT{β:Nat->aB}{N:Nat} : ∀ {ps:List Nat} {args c:List ae} {fr:Fr} {tmps:Array ae},(∀p∈ps,p<N)->aW β args c->FR β N fr { tmps:=tmps,defers:= [] }->FR β N (DK fr ps args) { tmps:=(ps.zip c).foldl (λt p=>t.setIfInBounds p.1 p.2) tmps,defers:= [] }
 | [],args,c,fr,tmps,hp,ha,e=>by simpa[DK] using e
 | p::ps,[],c,fr,tmps,hp,ha,e=>by
   have:c= []:=List.length_eq_zero_iff.1 (by simpa using ha.1.symm);subst this;simpa[DK] using e
 | p::ps,v::args,[],fr,tmps,hp,ha,e=>absurd ha.1 s0
 | p::ps,v::args,v'::c,fr,tmps,hp,ha,e=>by
   have g:VR β v v':=by
    obtain⟨u,h1,h2⟩:=ha.2 0 v rfl;simp at h1;subst h1;exact h2
   have hs:aW β args c:=⟨by simpa using ha.1,λi v hv=>by simpa using ha.2 (i+1) v (by simpa using hv)⟩;have f:=e.put (d:=some p) (λx hx=>by cases hx;exact hp p (np ..)) g;have:=UT (ps:=ps) (λq j=>hp q (kw _ j)) hs (fr:=bE fr (some p) v) (tmps:=tmps.setIfInBounds p v') (by simpa[Act.put] using f);simpa[DK] using this
theorem sw{T:cF}(hT:uy P B T) : ∀n,HS P B (da T n)
 | 0=>⟨λf args H v H' h=>by simp[da] at h,λl args H v H' h=>by simp[da] at h⟩
 | n+1=>⟨λf args H v H' h=>(by
   have C:=sw hT n;simp only[da] at h;split at h;·exact hT.ext.1 f args H v H' h
   ·split at h
    ·rename_i rf J5;have qV:=hT.fn f rf J5;obtain⟨fn,c,DN,L,l8,wl,sv⟩:=qV.ok;refine .inl ⟨qV.call,fun β w g F j=> ?_⟩;refine callsIn_of_wp_marks DN L trivial ?_ rfl;have O:FR β rf.ntmps (λt=>args.getD t undef) { tmps:=g.toArray++ND (fn.ntmps-g.toArray.size) undef,defers:= [] }:=by
      refine⟨Sq,λt=> ?_⟩;simp only[List.getD,mR];by_cases ht:t<g.length
      ·have G:t<args.length:=by have:=j.1;omega
       obtain⟨v',h1,h2⟩:=j.2 t args[t] (by simp[G]);rw[Array.getElem?_append_left (by simpa using ht)];simp only[List.getElem?_toArray,h1,qj,dA G];exact h2
      have G:args.length<=t:=by have:=j.1;omega
      rw[List.getElem?_eq_none G];exact .undef _
     have fin : ∀(x:bQ) (fr':Fr) (K:CH),(x= .normal\/x= .ret)->bG (da T n) n rf.body (λt=>args.getD t undef) H=some (x,fr',K)->(ct fr' K rf.res).map (λvs=>(eV vs,K))=some (v,H')->
      c.wpIn gZ 0 P (bodyPostM gZ 0 P fn λe w'=>∃v' β',e= .returned v'/\VR β' v v'/\aN P B β' H' w'/\bD β w β' w') { tmps:=g.toArray++ND (fn.ntmps-g.toArray.size) undef,defers:= [] } w:=by
      intro x fr' K hx y z;cases Q:ct fr' K rf.res with
      | none=>rw[Q] at z;cases z
      | some vs=>
        rw[Q] at z;simp only[fm,Option.some.injEq,Prod.mk.injEq] at z;obtain⟨rfl,rfl⟩:=z;refine DJ (ro:=none) (B1:=w.heap.size) C wl β _ fr' H K _ w x _ F O (λb hb=>by cases hb) (DM.none (D0:= []) rfl) (ag _) y fun β' w' a' I J U V=> ?_;obtain⟨ms,m1,m2,m3⟩:=V;have tB:LeavesInM gZ 0 P fn a'.tmps (λe w'=>∃v' β',e= .returned v'/\VR β' (eV vs) v'/\aN P B β' K w'/\bD β w β' w') a'.defers .returning w':=by
         rw[m1,List.append_nil];refine US ms w' I J (ag _) m2 (λD hD=>⟨(m3 D hD).1,(m3 D hD).2.1⟩) λw2 nv kS=> ?_;obtain⟨v',W,r2⟩:=Ot nv U sv Q;exact⟨v',W,v',β',rfl,r2,nv,kS⟩
        rcases hx with rfl | rfl
        ·exact tB
        exact tB
     split at h;·rename_i fr' K y;exact fin .normal fr' K (.inl rfl) y h
     ·rename_i fr' K y;exact fin .ret fr' K (.inr rfl) y h
     cases h
    cases h),λl args H v H' h β w b g F hl j=>by
   have C:=sw hT n;obtain⟨st,gN,fr,key,ho,_,r,N,W,r2,r3,r4,r5,r6⟩:=F.loop hl;simp only[da,ho] at h;split at h
   ·rename_i aoP aj aeg gq;cases gq;split at h
    ·rename_i ps bF body Bn;split at h
     ·rename_i A;obtain⟨N',ca,cb,hk,X,Y,JH⟩:=(hT.loop _ _ _ _ Bn).ok;rw[r4] at hk;simp only[Option.some.injEq,Prod.mk.injEq] at hk;obtain⟨hN,k1,k2,k3⟩:=hk;subst hN;have fy:g.toArray.size=r.params.size:=by rw[k1];simp;rw[<-A,j.1]
      refine⟨r.fn,_,r.assign,r.body,run_yield W fy,roundIn_of_wpIn trivial ?_⟩;have Z:(r.params.zip g.toArray).foldl (λtmps (t,a)=>tmps.setIfInBounds t a) r.tmps=(ps.zip g).foldl (λt p=>t.setIfInBounds p.1 p.2) r.tmps:=by
       rw[k1,<-Array.foldl_toList];simp
      rw[Z];have O:=UT (ps:=ps) JH j (fr:=fr) (tmps:=r.tmps) ⟨r5,r6⟩;have aei:DF β (some b):=λb' fC=>by cases fC;exact⟨l,hl⟩
      split at h
      ·rename_i aX H2 aej;split at h
       ·rename_i Ov fU Gz Bl;rw[k2];refine DJ (ro:=some b) (B1:=0) C X β _ aX H H2 _ w .normal _ F O aei (DM.none (D0:= []) rfl) (Nat.zero_le _) aej fun β2 w2 a2 I J U V=> ?_;have o:β2 l= .loop b:=by
         rcases J.ext l with q | q | ⟨_,_,_,_,q,_⟩
         ·rw[q,hl]
         ·rw[hl] at q;cases q
         rw[hl] at q;cases q
        obtain⟨_,_,_,_,UU,_,s,M,s1,s2,s3,s4,s5,s6⟩:=I.loop o;rw[Bl] at UU;cases UU;obtain⟨z1,z2⟩:=I.Oj o (st:= .busy) (gN:=Ov) (fr:=fU) (key:=Gz) (r:= { s with state:= .busy }) (N:=M) rfl s3 s4 s5 s6;refine⟨_,run_beginRound s1 s2,?_⟩;rw[k3];split at h
        ·rename_i x Ow H4 L;refine DJ (ro:=some b) (B1:=0) C Y β2 _ Ow _ H4 _ _ x _ z1 (U.mono z2.ext) (λb' fC=>by cases fC;exact⟨l,o⟩) (V.kC z2 rfl) (Nat.zero_le _) L fun β4 w4 a4 p1 p2 p3 p4=> ?_;have en:β4 l= .loop b:=by
          rcases p2.ext l with q | q | ⟨_,_,_,_,q,_⟩
          ·rw[q,o]
          ·rw[o] at q;cases q
          rw[o] at q;cases q
         split at h
         ·rename_i st5 aoQ J1 J2 Ox;cases h;obtain⟨_,_,_,_,UV,_,u,M',u1,u2,u3,u4,u5,u6⟩:=p1.loop en;rw[Ox] at UV;cases UV;have fin : ∀jump:Option fS,(ux x).map NP=jump->∃v' w',(Instr.endRound b jump).run P w4= .ok v' w'/\∃Oy β',Ending.returned v'= .returned Oy/\VR β' (.bool (ux x).isNone) Oy/\aN P B β' (H4.set l (.loop (if (ux x).isNone then .ready else .done) (ux x) J1 J2)) w'/\bD β w β' w':=by
           intro jump hj;have UW:jump.isNone=(ux x).isNone:=by rw[<-hj];cases ux x<;>rfl
           obtain⟨y1,y2⟩:=p1.Oj en (st:=if (ux x).isNone then .ready else .done) (gN:=ux x) (fr:=J1) (key:=J2) (r:= { u with state:=if jump.isNone then .ready else .done,pending:=jump }) (N:=M') (by rw[UW]) hj.symm u4 u5 u6;exact⟨_,_,run_endRound jump u1,_,β4,rfl,by rw[UW];exact .bool _,y1,J.trans (z2.trans (p2.trans y2))⟩
          cases x with
          | normal=>exact fin none rfl
          | ret=>exact fin (some .ret) rfl
          | exit i=>exact fin (some (.exit i)) rfl
         cases h
        cases h
       cases h
      cases h
     cases h
    cases h
   cases h⟩
theorem UX{T:cF}(hT:uy P B T){n:Nat}{f:bk}{args:List ae}{H H':CH}{v:ae}(h:pH T n f args H=some (v,H')){β:Nat->aB}{w:ar}{c:List ae}(g:aN P B β H w)(ha:aW β args c)(hc:q9 P f=true) :
 Calls P f c.toArray w λe w'=>∃v' β',e= .returned v'/\VR β' v v'/\aN P B β' H' w'/\bD β w β' w':=
 callsIn_wide.1 (((sw hT n).1 f args H v H' h).resolve_right (λhx=>by
  obtain⟨v',_,i⟩:=hx.1.2 β c ha;have h1:=i w;rw[Bh hc] at h1;cases h1) |>.2 β w c g ha)
end
section
open Go Go.RowKit
variable {P:aZ} {B:Nat}
def ri (P:aZ)(t:aH):Option Nat:=(P.info? t).map (·.size)
def Bo:List (Option Nat)->Option (List Nat)
 | []=>some []
 | some x::r=>(Bo r).map (x:: ·)
 | none::_=>none
theorem UY : ∀ {l:List (Option Nat)} {r:List Nat},Bo l=some r->l=r.map some
 | [],r,h=>by simp[Bo] at h;subst h;rfl
 | some x::l,r,h=>by
   simp only[Bo] at h;cases hl:Bo l with
   | none=>rw[hl] at h;cases h
   | some q=>rw[hl] at h;cases h;simp[UY hl]
 | none::l,r,h=>by simp[Bo] at h
def UZ:au->Bool
 | .const _=>true
 | _=>false
def Oz(P:aZ)(c:Call):Option fF:=
 match c.callee with
 | .value (.func f)=>some (.call f c.args.toList)
 | .value (.tmp t)=>some (.ny (.tmp t) c.args.toList)
 | .builtin .len=>match c.args.toList,c.argTypes.toList with
   | [x],[t]=>match P.underlying t with
     | some (.slice _)=>some (.p (.len x))
     | some .string=>some (.p (.lens x))
     | _=>none
   | _,_=>none
 | .builtin .append=>match c.args.toList,c.argTypes.toList with
   | [s,x],[t,u]=>match P.underlying t,P.underlying u with
     | some (.slice e),some (.slice e')=>match P.info? e with
       | some i=>match i.zero with
         | some z=>if e'=e/\z.cells.size=i.size/\0<i.size then some (.w (.app e i.size i.bytes s x)) else none
         | none=>none
       | none=>none
     | some (.slice e),some .string=>match P.info? e with
       | some i=>match i.zero with
         | some z=>if z.cells.size=i.size/\0<i.size then some (.w (.app e i.size i.bytes s x)) else none
         | none=>none
       | none=>none
     | _,_=>none
   | _,_=>none
 | .builtin .unsafeSliceData=>match c.args.toList,c.argTypes.toList with
   | [x],[_]=>some (.p (.FW x))
   | _,_=>none
 | .builtin .unsafeString=>match c.args.toList,c.argTypes.toList with
   | [p,n],[g,_]=>match P.underlying g with
     | some (.pointer e)=>if P.cellsOf e=1 then some (.w (.F9 e p n)) else none
     | _=>none
   | _,_=>none
 | .builtin .max=>match c.args.toList with
   | [x,y]=>some (.p (.mx true x y))
   | _=>none
 | .builtin .min=>match c.args.toList with
   | [x,y]=>some (.p (.mx false x y))
   | _=>none
 | .builtin .delete=>match c.args.toList,c.argTypes.toList with
   | [x,k],[t,_]=>match P.underlying t with
     | some (.map j _)=>match P.underlying j with
       | some d=>match uq d with
         | some kk=>some (.w (.del kk x k))
         | none=>none
       | none=>none
     | _=>none
   | _,_=>none
 | .builtin .copy=>match c.args.toList,c.argTypes.toList with
   | [d,s],[t,_]=>match P.underlying t with
     | some (.slice e)=>match ri P e with
       | some sz=>some (.w (.F3 sz d s))
       | none=>none
     | _=>none
   | _,_=>none
 | _=>none
def lG(P:aZ):Op->Option fF
 | .move x=>some (.p (.tu x))
 | .assign x=>some (.p (.tu x))
 | .pick c a b=>some (.p (.pick c a b))
 | .box e x=>match ri P e with
   | some _=>some (.a (.box e x))
   | none=>none
 | .alloc e=>match P.info? e with
   | some i=>match i.zero with
     | some z=>if Bg z.cells.toList=true then some (.a (.new e z.cells.toList)) else none
     | none=>none
   | none=>none
 | .build t ps=>match P.underlying t,P.info? t with
   | some (.struct fs),some i=>match i.zero with
     | some (.agg z)=>match Bo (fs.toList.map λf=>ri P f.type) with
       | some o=>if Bg z.toList=true/\(ps.toList.all λp=>decide (p.1<fs.size))=true then
          some (.p (.xH z.toList (ps.toList.filterMap λp=>((fs.toList.map (·.offset)).zip o)[p.1]?.map λq=>(q.1,q.2,p.2)))) else none
       | none=>none
     | _=>none
   | some (.array n e),some i=>match i.zero,ri P e with
     | some (.agg z),some sz=>if Bg z.toList=true then some (.p (.xH z.toList (ps.toList.map λp=>(p.1*sz,sz,p.2)))) else none
     | _,_=>none
   | _,_=>none
 | .field st x f=>match P.underlying st with
   | some (.struct fs)=>match fs[f]? with
     | some jX=>match P.underlying jX.type,ri P jX.type with
       | some d,some n=>some (.p (.jX x jX.offset (if xJ d then some n else none)))
       | _,_=>none
     | none=>none
   | _=>none
 | .buildSlice t n ps=>match P.underlying t with
   | some (.slice e)=>match P.info? e with
     | some i=>match i.zero with
       | some z=>if Bg z.cells.toList=true/\0<z.cells.size then some (.a (.xR e i.size n z.cells.toList ps.toList)) else none
       | none=>none
     | none=>none
   | _=>none
 | .load t x=>match P.underlying t with
   | some d=>if xJ d then match ri P t with
      | some n=>some (.l (.jZ n x))
      | none=>none
     else some (.l (.ld x))
   | none=>none
 | .store t x v=>match ri P t with
   | some n=>some (.w (.st n x v))
   | none=>none
 | .nilCheck x=>some (.p (.A4 x))
 | .binOp op t x y _=>match P.underlying t with
   | some .bool=>match op with
     | .eql=>some (.p (.A0 false x y))
     | .neq=>some (.p (.A0 true x y))
     | _=>none
   | some (.pointer e)=>match op,UZ x||UZ y with
     | .eql,true=>some (.p (.v7 false x y))
     | .neq,true=>some (.p (.v7 true x y))
     | .eql,false=>match P.info? e with
       | some j=>if j.size≠0 then some (.l (.A7 false x y)) else some (.p (.v7 false x y))
       | none=>some (.p (.v7 false x y))
     | .neq,false=>match P.info? e with
       | some j=>if j.size≠0 then some (.l (.A7 true x y)) else some (.p (.v7 true x y))
       | none=>some (.p (.v7 true x y))
     | _,_=>none
   | some (.slice _)=>match op with
     | .eql=>some (.p (.eqs false x y))
     | .neq=>some (.p (.eqs true x y))
     | _=>none
   | some (.struct _)=>match op with
     | .eql=>some (.p (.Dl false (@JF P t) (@FZ P t) x y))
     | .neq=>some (.p (.Dl true (@JF P t) (@FZ P t) x y))
     | _=>none
   | some _=>some (.p (.bin op x y))
   | none=>none
 | .unOp op _ x=>some (.p (.un op x))
 | .convert s t x=>match P.underlying s,P.underlying t with
   | some _,some (.int k)=>some (.p (.conv k x))
   | some .string,some .string=>some (.p (.Dm x))
   | some (.slice e),some .string=>match P.underlying e with
     | some (.int .u8)=>some (.l (.b2s x))
     | _=>none
   | some .string,some (.slice e)=>match P.underlying e,P.info? e with
     | some (.int .u8),some i=>if i.size=1 then some (.w (.s2b e i.bytes x)) else none
     | _,_=>none
   | some (.slice e),some (.slice _)=>match P.underlying e with
     | some (.int .u8)=>if s=t then some (.w (.hU x)) else none
     | _=>none
   | some (.pointer u),some .unsafePointer=>match P.info? u with
     | some j=>if j.size≠0 then some (.l (.zu UD x)) else none
     | none=>none
   | some .unsafePointer,some (.pointer u)=>match P.info? u with
     | some _=>some (.l (.zu (Gj (P:=P) u) x))
     | none=>none
   | _,_=>none
 | .makeMap t r=>if r.isNone then some (.w .F4) else none
 | .insert t m k x | .mapUpdate t m k x=>match P.underlying t with
   | some (.map g _)=>match P.underlying g with
     | some d=>match uq d with
       | some kk=>some (.w (.F5 kk m k x))
       | none=>none
     | none=>none
   | _=>none
 | .lookup t x i ok=>match P.underlying t with
   | some (.map g A)=>match P.underlying g,P.info? A with
     | some d,some inf=>match uq d,inf.zero with
       | some kk,some z=>if ut z=true then some (.l (.Dt kk z ok x i)) else none
       | _,_=>none
     | _,_=>none
   | _=>none
 | .range t x=>match P.underlying t with
   | some .string=>some (.w (.F6 x))
   | some (.map _ _)=>some (.w (.F7 x))
   | _=>none
 | .next it s=>if s=true then some (.w (.cT it)) else some (.w (.F8 it))
 | .makeFunc (.func f) first dK=>if first.toList.isEmpty then some (.p (.fn f dK.toList)) else none
 | .makeSlice t l c=>match P.underlying t with
   | some (.slice e)=>match P.info? e with
     | some i=>match i.zero with
       | some z=>if Bg z.cells.toList=true/\0<z.cells.size then some (.a (.F1 e i.size i.bytes z.cells.toList l c)) else none
       | none=>none
     | none=>none
   | _=>none
 | .slice t x lo hi mx=>match P.underlying t with
   | some (.slice e)=>match ri P e with
     | some sz=>some (.l (.pC e sz x lo hi mx))
     | none=>none
   | some .string=>if mx.isNone then some (.p (.A3 x lo hi)) else none
   | _=>none
 | .fieldAddr s x f=>match P.underlying s with
   | some (.struct fs)=>match fs[f]? with
     | some jX=>match ri P jX.type with
       | some sz=>if sz≠0 then some (.p (.off x jX.offset)) else none
       | none=>none
     | none=>none
   | _=>none
 | .indexAddr t x i=>match P.underlying t with
   | some (.slice e)=>match ri P e with
     | some sz=>some (.p (.idx x i sz))
     | none=>none
   | some (.array n e)=>match ri P e with
     | some sz=>some (.p (.FV x i n sz))
     | none=>none
   | _=>none
 | .index t x i=>match P.underlying t with
   | some .string=>some (.p (.Dn x i))
   | some (.array n e)=>match P.underlying e,ri P e with
     | some d,some sz=>some (.p (.FX x i n sz (xJ d)))
     | _,_=>none
   | _=>none
 | .extract x i=>some (.p (.ext x i))
 | .call c=>Oz P c
 | _=>none
theorem J6{α:Type}{a:Array α}{x:α}(h:a.toList= [x]):a= #[x]:=by apply qR;simpa using h
theorem wm{α:Type}{a:Array α}{x y:α}(h:a.toList= [x,y]):a= #[x,y]:=by apply qR;simpa using h
theorem aek{c:Call}{r:fF}(h:Oz P c=some r):x8 P (.call c) r:=by
 obtain⟨callee,args,ts⟩:=c;unfold Oz at h;simp only at h;split at h;·cases h;exact .call rfl
 ·cases h;exact .ny rfl
 ·split at h
  ·rename_i x t ha ht;rw[J6 ha,J6 ht];split at h;·rename_i hu;cases h;exact .p (adb hu)
   ·rename_i hu;cases h;exact .p (adc hu)
   cases h
  cases h
 ·split at h
  ·rename_i s x t u ha ht;rw[wm ha,wm ht];split at h
   ·rename_i e e' hu f;split at h
    ·rename_i i hi;split at h
     ·rename_i z hz;split at h;·rename_i g;obtain⟨rfl,j,o⟩:=g;cases h;exact .w (Ur hu (.inl f) (by simp[hi,hz]) j o)
      cases h
     cases h
    cases h
   ·rename_i e hu f;split at h
    ·rename_i i hi;split at h
     ·rename_i z hz;split at h;·rename_i g;cases h;exact .w (Ur hu (.inr f) (by simp[hi,hz]) g.1 g.2)
      cases h
     cases h
    cases h
   cases h
  cases h
 ·split at h;·rename_i x t ha ht;rw[J6 ha,J6 ht];cases h;exact .p ac8
  cases h
 ·split at h
  ·rename_i p n q it ha ht;rw[wm ha,wm ht];split at h
   ·rename_i e hu;split at h;·rename_i hc;cases h;exact .w (ad6 hu hc)
    cases h
   cases h
  cases h
 ·split at h;·rename_i x y ha;rw[wm ha];cases h;exact .p (Uc (b:=true))
  cases h
 ·split at h;·rename_i x y ha;rw[wm ha];cases h;exact .p (Uc (b:=false))
  cases h
 ·split at h
  ·rename_i x k t u ha ht;rw[wm ha,wm ht];split at h
   ·rename_i v A hu;split at h
    ·rename_i d hd;split at h;·rename_i kk hk;cases h;exact .w (adQ hu hd hk)
     cases h
    cases h
   cases h
  cases h
 ·split at h
  ·rename_i d s t u ha ht;rw[wm ha,wm ht];split at h
   ·rename_i e hu;split at h;·rename_i sz hs;cases h;exact .w (adG hu hs)
    cases h
   cases h
  cases h
 cases h
theorem U0{op:Op}{r:fF}(h:lG P op=some r):x8 P op r:=by
 cases op with
 | move x=>cases h;exact .p acS
 | assign x=>cases h;exact .p acT
 | pick c a b=>cases h;exact .p acU
 | box e x=>
   simp only[lG] at h;split at h;·rename_i sz hs;cases h;exact .a (adq hs)
   cases h
 | alloc e=>
   simp only[lG] at h;split at h
   ·rename_i i hi;split at h
    ·rename_i z hz;split at h;·rename_i hc;cases h;exact .a (adr (sz:=i.size) (by simp[hi]) (by simp[hi,hz]) (DE hc))
     cases h
    cases h
   cases h
 | build t ps=>
   simp only[lG] at h;split at h
   ·rename_i fs i hu hi;split at h
    ·rename_i z hz;split at h
     ·rename_i D hs;split at h
      ·rename_i g;cases h;refine .p (ado hu (by simp[hi,hz]) (DE g.1) D ?_ λp hp=> ?_);·exact UY hs
       exact of_decide_eq_true (List.all_eq_true.1 g.2 p hp)
      cases h
     cases h
    cases h
   ·rename_i n e i hu hi;split at h
    ·rename_i z sz hz hs;split at h;·rename_i g;cases h;exact .p (adp hu hs (by simp[hi,hz]) (DE g))
     cases h
    cases h
   cases h
 | field st x f=>
   simp only[lG] at h;split at h
   ·rename_i fs hu;split at h
    ·rename_i jX q;split at h;·rename_i d n hd hn;cases h;exact .p (adi hu q hd rfl hn)
     cases h
    cases h
   cases h
 | buildSlice t n ps=>
   simp only[lG] at h;split at h
   ·rename_i e hu;split at h
    ·rename_i i hi;split at h
     ·rename_i z hz;split at h;·rename_i g;cases h;exact .a (ads hu (by simp[hi]) (by simp[hi,hz]) (DE g.1) g.2)
      cases h
     cases h
    cases h
   cases h
 | load t x=>
   simp only[lG] at h;split at h
   ·rename_i d hd;split at h
    ·rename_i ha;split at h;·rename_i n hn;cases h;exact .l (Ue hd (by cases d<;>first | rfl | cases ha) hn)
     cases h
    rename_i ha;cases h;exact .l (adl hd (by cases d<;>first | rfl | exact absurd rfl ha))
   cases h
 | store t x v=>
   simp only[lG] at h;split at h;·rename_i n hn;cases h;exact .w (adx hn)
   cases h
 | nilCheck x=>cases h;exact .p ac7
 | binOp op t x y u=>
   simp only[lG] at h;split at h
   ·rename_i hu;split at h;·cases h;exact .p (T3 (neg:=false) hu)
    ·cases h;exact .p (T3 (neg:=true) hu)
    cases h
   ·rename_i hu;split at h;·cases h;exact .p (A5 (neg:=false) hu)
    ·cases h;exact .p (A5 (neg:=true) hu)
    ·split at h
     ·rename_i j o;split at h;·rename_i hz;cases h;exact .l (UE (neg:=false) hu o hz)
      cases h;exact .p (A5 (neg:=false) hu)
     cases h;exact .p (A5 (neg:=false) hu)
    ·split at h
     ·rename_i j o;split at h;·rename_i hz;cases h;exact .l (UE (neg:=true) hu o hz)
      cases h;exact .p (A5 (neg:=true) hu)
     cases h;exact .p (A5 (neg:=true) hu)
    cases h
   ·rename_i hu;split at h;·cases h;exact .p (T4 (neg:=false) hu)
    ·cases h;exact .p (T4 (neg:=true) hu)
    cases h
   ·rename_i fs hu;split at h;·cases h;exact .p (T7 (neg:=false) hu)
    ·cases h;exact .p (T7 (neg:=true) hu)
    cases h
   ·cases h;exact .p acX
   cases h
 | unOp op t x=>cases h;exact .p acY
 | convert s t x=>
   simp only[lG] at h;split at h;·rename_i d k hs ht;cases h;exact .p (acZ hs ht)
   ·rename_i hs ht;cases h;exact .p (ac0 hs ht)
   ·rename_i e hs ht;split at h;·rename_i he;cases h;exact .l (adV hs ht he)
    cases h
   ·rename_i e hs ht;split at h
    ·rename_i i he hi;split at h;·rename_i h1;cases h;exact .w (adU hs ht he (by simp[hi,h1]))
     cases h
    cases h
   ·rename_i e e' hs ht;split at h
    ·rename_i he;split at h;·rename_i F;subst F;cases h;exact .w (adX hs he)
     cases h
    cases h
   ·rename_i u hs ht;split at h
    ·rename_i j o;split at h;·rename_i hz;cases h;exact .l (ad3 hs ht o hz)
     cases h
    cases h
   ·rename_i u hs ht;split at h;·rename_i j o;cases h;exact .l (ad4 hs ht o)
    cases h
   cases h
 | makeMap t r=>
   simp only[lG] at h;split at h;·rename_i G;cases h;exact .w (adK (by simpa using G))
   cases h
 | insert t m k x=>
   simp only[lG] at h;split at h
   ·rename_i A C hu;split at h
    ·rename_i d hd;split at h;·rename_i kk hk;cases h;exact .w (UA (.inr rfl) hu hd hk)
     cases h
    cases h
   cases h
 | mapUpdate t m k x=>
   simp only[lG] at h;split at h
   ·rename_i A C hu;split at h
    ·rename_i d hd;split at h;·rename_i kk hk;cases h;exact .w (UA (.inl rfl) hu hd hk)
     cases h
    cases h
   cases h
 | lookup t x i ok=>
   simp only[lG] at h;split at h
   ·rename_i A C hu;split at h
    ·rename_i d inf hd hi;split at h
     ·rename_i kk z hk hz;split at h;·rename_i hc;cases h;exact .l (adJ hu hd hk hi hz (Gm hc))
      cases h
     cases h
    cases h
   cases h
 | range t x=>
   simp only[lG] at h;split at h;·rename_i hu;cases h;exact .w (adR hu)
   ·rename_i hu;cases h;exact .w (adO hu)
   cases h
 | next it s=>
   simp only[lG] at h;split at h;·rename_i hs;subst hs;cases h;exact .w adS
   rename_i hs;have I:s=false:=by simpa using hs
   subst I;cases h;exact .w adP
 | makeFunc fn first dK=>
   cases fn with
   | func f=>
     simp only[lG] at h;split at h
     ·rename_i he;cases h;have:first= #[]:=by apply qR;simpa using he
      subst this;exact .p ac9
     cases h
   | _=>cases h
 | makeSlice t l c=>
   simp only[lG] at h;split at h
   ·rename_i e hu;split at h
    ·rename_i i hi;split at h
     ·rename_i z hz;split at h;·rename_i g;cases h;exact .a (adw hu (by simp[hi]) (by simp[hi,hz]) (DE g.1) g.2)
      cases h
     cases h
    cases h
   cases h
 | slice t x lo hi mx=>
   simp only[lG] at h;split at h
   ·rename_i e hu;split at h;·rename_i sz hs;cases h;exact .l (adm hu hs)
    cases h
   ·rename_i hu;split at h
    ·rename_i J;cases h;cases mx with
     | none=>exact .p (adf hu)
     | some m=>cases J
    cases h
   cases h
 | fieldAddr s x f=>
   simp only[lG] at h;split at h
   ·rename_i fs hu;split at h
    ·rename_i jX q;split at h
     ·rename_i sz hs;split at h;·rename_i L;cases h;exact .p (ac1 hu q hs L)
      cases h
     cases h
    cases h
   cases h
 | indexAddr t x i=>
   simp only[lG] at h;split at h
   ·rename_i e hu;split at h;·rename_i sz hs;cases h;exact .p (ac2 hu hs)
    cases h
   ·rename_i n e hu;split at h;·rename_i sz hs;cases h;exact .p (ac3 hu hs)
    cases h
   cases h
 | index t x i=>
   simp only[lG] at h;split at h;·rename_i hu;cases h;exact .p (ac4 hu)
   ·rename_i n e hu;split at h;·rename_i d sz hd hs;cases h;exact .p (adj hu hd rfl hs)
    cases h
   cases h
 | extract x i=>cases h;exact .p ac6
 | call c=>exact aek h
 | _=>cases h
end
section
open Go Go.RowKit
variable {P:aZ} {B:Nat}
def ael:Op->Bool
 | .defer _=>true
 | _=>false
def U1(N:Nat):Option Nat->Bool
 | some d=>decide (d<N)
 | none=>true
def OB(P:aZ)(N:Nat)(ops:Array cu)(o:cu):Option Item:=
 match lG P o.op with
 | some r=>
   if U1 N o.dst&&o.op.operands.toList.all zA && !ael o.op then
    match o.guard with
    | none=>some ⟨o.dst,r,none⟩
    | some (j,b)=>match (ops[j]?).bind (·.dst) with
      | some s=>if s<N then some ⟨o.dst,r,some (s,b)⟩ else none
      | none=>none
   else none
 | none=>none
theorem aem{N:Nat}{ops:Array cu}{o:cu}{it:Item}(h:OB P N ops o=some it):uu P N ops o it:=by
 unfold OB at h;split at h
 ·rename_i r g;split at h
  ·rename_i hg;simp only[eY,xj] at hg;obtain⟨⟨i,u⟩,n⟩:=hg;have p : ∀d,o.dst=some d->d<N:=λd hd=>by rw[hd] at i;simpa[U1] using i
   have q : ∀x∈o.op.operands,zA x=true:=λx hx=>List.all_eq_true.1 u x (by simpa using hx);have t : ∀c,o.op≠ .defer c:=λc e=>by rw[e] at n;cases n
   split at h;·rename_i f;cases h;exact⟨rfl,p,U0 g,q,t, .inl ⟨f,rfl⟩⟩
   rename_i j b f;split at h
   ·rename_i s hs;split at h;·rename_i v;cases h;exact⟨rfl,p,U0 g,q,t, .inr ⟨j,b,s,f,rfl,hs,v⟩⟩
    cases h
   cases h
  cases h
 cases h
def qt(P:aZ)(N:Nat)(ops:Array cu):List cu->Option (List Item)
 | []=>some []
 | o::r=>match OB P N ops o,qt P N ops r with
   | some it,some af=>some (it::af)
   | _,_=>none
theorem GB{N:Nat}{ops:Array cu} : ∀ {l:List cu} {af:List Item},qt P N ops l=some af->af.length=l.length/\∀i (h1:i<af.length) (h2:i<l.length),uu P N ops l[i] af[i]
 | [],af,h=>by simp[qt] at h;subst h;exact⟨rfl,λi h1=>absurd h1 s0⟩
 | o::l,af,h=>by
   simp only[qt] at h;split at h
   ·rename_i it c h1 h2;cases h;obtain⟨e,f⟩:=GB h2;refine⟨by simp[e],λi hi g=> ?_⟩;cases i with
    | zero=>exact aem h1
    | succ i=>simpa using f i (by simpa using hi) (by simpa using g)
   cases h
def kb(P:aZ)(N:Nat)(rd:Array cu->Option je)(f:Nat):Nat->fS->Option bP
 | _, .skip=>some .skip
 | _, .label _=>some .skip
 | _, .region _ ops false=>match qt P N ops ops.toList with
   | some af=>some (.gG af)
   | none=>some .bad
 | _, .region _ ops true=>match rd ops with
   | some d=>some (.lF d)
   | none=>some .bad
 | k, .seq a b=>match kb P N rd f k a,kb P N rd f (k+(lY a).length) b with
   | some x,some y=>some (.seq x y)
   | _,_=>none
 | k, .cond c a b=>if zA c then match kb P N rd f k a,kb P N rd f (k+(lY a).length) b with
    | some x,some y=>some (.cond c x y)
    | _,_=>none
   else some .bad
 | k, .block id c=>(kb P N rd f k c).map (.block id)
 | k, .loop c=>(kb P N rd f k c).map .loop
 | k, .scope c=>kb P N rd f k c
 | _, .exit id=>some (.exit id)
 | _, .ret=>some .ret
 | k, .rangeFunc g _ _ _=>if zA g then some (.rh g (f,k)) else some .bad
 | _,_=>some .bad
theorem OD{N f:Nat}{rd:Array cu->Option je}(u : ∀ops d,rd ops=some d->zD P N ops d/\zF P N ops d) : ∀ {c:fS} {k:Nat} {r:bP},(∀j x,(lY c)[j]? = some x->keyOf P (f,k+j)=some (N,x))->kb P N rd f k c=some r->jI P N c r:=by
 intro c;induction c with
 | skip=>intro k r hk h;simp only[kb] at h;cases h;exact .skip
 | label l=>intro k r hk h;simp only[kb] at h;cases h;exact .label
 | region id ops draw=>
   intro k r hk h;cases draw with
   | false=>
     simp only[kb] at h;cases hi:qt P N ops ops.toList with
     | none=>rw[hi] at h;cases h;exact .bad
     | some af=>
       rw[hi] at h;cases h;obtain⟨v,z⟩:=GB hi;exact .gG (by simpa using v) λi h1 h2=>by have:=z i h1 (by simpa using h2);rwa [Ji] at this
   | true=>
     simp only[kb] at h;cases hi:rd ops with
     | none=>rw[hi] at h;cases h;exact .bad
     | some d=>rw[hi] at h;cases h;exact .lF (u ops d hi)
 | seq a b o s=>
   intro k r hk h;simp only[lY] at hk;simp only[kb] at h;split at h
   ·rename_i x y hx t;cases h;exact .seq (o (λj q e=>hk j q (by rw[uc (List.getElem?_eq_some_iff.1 e).1];exact e)) hx)
     (s (λj q e=>by rw[jS];exact hk _ q (by rw[th Om];simpa using e)) t)
   cases h
 | cond c a b o s=>
   intro k r hk h;simp only[lY] at hk;simp only[kb] at h;split at h
   ·rename_i hc;split at h
    ·rename_i x y hx t;cases h;exact .cond hc (o (λj q e=>hk j q (by rw[uc (List.getElem?_eq_some_iff.1 e).1];exact e)) hx)
      (s (λj q e=>by rw[jS];exact hk _ q (by rw[th Om];simpa using e)) t)
    cases h
   cases h;exact .bad
 | block id c n=>
   intro k r hk h;simp only[kb] at h;cases hc:kb P N rd f k c with
   | none=>rw[hc] at h;cases h
   | some x=>rw[hc] at h;cases h;exact .block (n hk hc)
 | loop c n=>
   intro k r hk h;simp only[kb] at h;cases hc:kb P N rd f k c with
   | none=>rw[hc] at h;cases h
   | some x=>rw[hc] at h;cases h;exact .loop (n hk hc)
 | scope c n=>
   intro k r hk h;simp only[kb] at h;exact .scope (n hk h)
 | exit id=>intro k r hk h;simp only[kb] at h;cases h;exact .exit
 | ret=>intro k r hk h;simp only[kb] at h;cases h;exact .ret
 | rangeFunc g ps a b o s=>
   intro k r hk h;simp only[kb] at h;split at h;·rename_i hg;cases h;exact .rh hg (hk 0 _ rfl)
   cases h;exact .bad
 | _=>intro k r hk h;simp only[kb,Option.some.injEq] at h;subst h;exact .bad
def DO(L:List (Array Tmp×fS×fS)):Prop:=∀(i:Nat) (ps:Array Tmp) (a b:fS),L[i]? = some (ps,a,b)->∀j x,(lY a++lY b)[j]? = some x->L[i+1+j]? = some x
theorem DO.append{L M:List (Array Tmp×fS×fS)}(h:DO L)(k:DO M):DO (L++M):=by
 intro i ps a b hi j x c;by_cases hl:i<L.length
 ·rw[uc hl] at hi;have:=h i ps a b hi j x c;rw[uc (List.getElem?_eq_some_iff.1 this).1];exact this
 rw[th Om] at hi;have:=k _ ps a b hi j x c;rw[th Om,show i+1+j-L.length=i-L.length+1+j by omega];exact this
theorem aen(c:fS):DO (lY c):=by
 have p:DO []:=λi ps a b h=>by simp at h
 induction c with
 | seq a b e f=>exact e.append f
 | cond c a b e f=>exact e.append f
 | block id c n=>exact n
 | loop c n=>exact n
 | scope c n=>exact n
 | rangeFunc g ps a b e f=>
   have:=e.append f;intro i qs x y hi j z o;cases i with
   | zero=>
     simp only[lY,Jn,Option.some.injEq,Prod.mk.injEq] at hi;obtain⟨rfl,rfl,rfl⟩:=hi;simp only[lY];rw[show 0+1+j=j+1 by omega,FI];exact o
   | succ i=>
     simp only[lY,FI] at hi;simp only[lY];rw[show i+1+1+j=(i+1+j)+1 by omega,FI];exact this i qs x y hi j z o
 | _=>exact p
theorem U2{f k N:Nat}{fn:Func}{c:fS}(e:P.funcs[f]? = some fn)(hb:fn.body=some c){x:Array Tmp×fS×fS}:keyOf P (f,k)=some (N,x)↔fn.ntmps=N/\(lY c)[k]? = some x:=by
 simp only[keyOf,e,hb,Option.map_eq_some_iff,Prod.mk.injEq];constructor;·rintro⟨y,h1,h2,rfl⟩;exact⟨h2,h1⟩
 rintro⟨h1,h2⟩;exact⟨x,h2,h1,rfl⟩
theorem U3{f k N:Nat}{ps:Array Tmp}{a b:fS}(h:keyOf P (f,k)=some (N,ps,a,b)){j:Nat}{x:Array Tmp×fS×fS}(g:(lY a++lY b)[j]? = some x):keyOf P (f,k+1+j)=some (N,x):=by
 cases e:P.funcs[f]? with
 | none=>simp[keyOf,e] at h
 | some fn=>
   cases hb:fn.body with
   | none=>simp[keyOf,e,hb] at h
   | some c=>
     rw[U2 e hb] at h⊢;exact⟨h.1,aen c k ps a b h.2 j x g⟩
def J7(P:aZ)(rd:Nat->Array cu->Option je)(key:Nat×Nat):Option (List Nat×bP×bP):=
 match keyOf P key with
 | some (N,ps,a,b)=>if (ps.toList.all λp=>decide (p<N))=true then match kb P N (rd N) key.1 (key.2+1) a,kb P N (rd N) key.1 (key.2+1+(lY a).length) b with
   | some x,some y=>some (ps.toList,x,y)
   | _,_=>none
   else none
 | none=>none
theorem aeo{rd:Nat->Array cu->Option je}(e : ∀N ops d,rd N ops=some d->zD P N ops d/\zF P N ops d){key:Nat×Nat}{ps:List Nat}{bF body:bP}(h:J7 P rd key=some (ps,bF,body)):UR P key ps bF body:=by
 unfold J7 at h;split at h
 ·rename_i N qs a b hk;split at h
  ·rename_i f;split at h
   ·rename_i x y hx g;cases h;refine⟨N,a,b,by simpa using hk,OD (e N) (λj q c=>U3 hk (by rw[uc (List.getElem?_eq_some_iff.1 c).1];exact c)) hx,
     OD (e N) (λj q c=>by rw[jS (key.2+1)];exact U3 hk (by rw[th Om];simpa using c)) g,λp hp=>of_decide_eq_true (List.all_eq_true.1 f p hp)⟩
   cases h
  cases h
 cases h
def GC(P:aZ):List ResultVar->Option (List nD)
 | []=>some []
 | r::rs=>match (match r with
    | .tmp t=>some (.tmp t)
    | .cell a t=>match P.underlying t with
      | some d=>if xJ d then (ri P t).map λn=> .jZ n a else some (.ld a)
      | none=>none:Option nD),GC P rs with
   | some q,some qs=>some (q::qs)
   | _,_=>none
theorem U4 : ∀ {rs:List ResultVar} {qs:List nD},GC P rs=some qs->Bm P rs qs
 | [],qs,h=>by simp[GC] at h;subst h;exact .nil
 | r::rs,qs,h=>by
   simp only[GC] at h;split at h
   ·rename_i q c h1 h2;cases h;refine .cons ?_ (U4 h2);cases r with
    | tmp t=>simp at h1;subst h1;exact .tmp
    | cell a t=>
      simp only at h1;split at h1
      ·rename_i d hd;split at h1
       ·rename_i ha;cases hs:ri P t with
        | none=>rw[hs] at h1;cases h1
        | some n=>rw[hs] at h1;cases h1;exact .jZ hd (by cases d<;>first | rfl | cases ha) hs
       rename_i ha;cases h1;exact .ld hd (by cases d<;>first | rfl | exact absurd rfl ha)
      cases h1
   cases h
def mH(P:aZ)(rd:Nat->Array cu->Option je)(f:bk):Option wk:=
 if q9 P f then match P.funcs[f]? with
  | some fn=>match fn.body with
    | some c=>match kb P fn.ntmps (rd fn.ntmps) f 0 c,GC P fn.results.toList with
      | some r,some q=>some ⟨fn.ntmps,q,r⟩
      | _,_=>none
    | none=>none
  | none=>none
 else none
theorem U5{rd:Nat->Array cu->Option je}(g : ∀N ops d,rd N ops=some d->zD P N ops d/\zF P N ops d){f:bk}{rf:wk}(h:mH P rd f=some rf):J4 P f rf:=by
 unfold mH at h;split at h
 ·rename_i hc;split at h
  ·rename_i fn e;split at h
   ·rename_i c hb;split at h;·rename_i r q i n;cases h;exact⟨hc,fn,c,e,hb,rfl,OD (g _) (λj x o=>by rw[Nat.zero_add,U2 e hb];exact⟨rfl,o⟩) i,U4 n⟩
    cases h
   cases h
  cases h
 cases h
end
section
open Go Go.RowKit
structure Bq(h h':Hd):Prop where
 call : ∀f a H r,h.call f a H=some r->h'.call f a H=some r
 round : ∀l a H r,h.round l a H=some r->h'.round l a H=some r
theorem OE{h h':Hd}(c:Bq h h'){fr:Fr}{H:CH}{o:fF}{r:ae×CH}(e:eb h fr H o=some r):eb h' fr H o=some r:=by
 cases o with
 | call f args=>exact c.call _ _ _ _ e
 | ny g args=>
   simp only[eb] at e⊢;split at e;·exact c.call _ _ _ _ e
   ·exact c.round _ _ _ _ e
   cases e
 | _=>exact e
theorem OF{h h':Hd}(e:Bq h h'){it:Item}{fr:Fr}{H:CH}{r:Fr×CH}(c:cA h it fr H=some r):cA h' it fr H=some r:=by
 simp only[cA] at c⊢;split at c
 ·cases f:eb h fr H it.op with
  | none=>rw[f] at c;cases c
  | some q=>rw[f] at c;rw[OE e f];exact c
 ·exact c
 cases c
theorem DP{h h':Hd}(e:Bq h h') : ∀ {af:List Item} {fr:Fr} {H:CH} {r:Fr×CH},c7 h af fr H=some r->c7 h' af fr H=some r
 | [],fr,H,r,c=>c
 | it::af,fr,H,r,c=>by
   simp only[c7] at c⊢
   cases hs:cA h it fr H with
   | none=>rw[hs] at c;cases c
   | some q=>rw[hs] at c;rw[OF e hs];exact DP e c
theorem OG{h h':Hd}(e:Bq h h') : ∀ {af:List Item} {fr:Fr} {H:CH} {r:Fr×CH×List CH},cE h af fr H=some r->cE h' af fr H=some r
 | [],fr,H,r,c=>c
 | it::af,fr,H,r,c=>by
   simp only[cE] at c⊢
   cases hs:cA h it fr H with
   | none=>rw[hs] at c;cases c
   | some q=>
     rw[hs] at c;rw[OF e hs];simp only at c⊢
     cases hd:cE h af q.1 q.2 with
     | none=>rw[hd] at c;cases c
     | some d=>rw[hd] at c;rw[OG e hd];exact c
theorem aep{h h':Hd}(e:Bq h h'){d:je}{fr:Fr}{H:CH}{r:Fr×CH}(c:su h d fr H=some r):su h' d fr H=some r:=by
 simp only[su] at c⊢
 cases hd:cE h d.af fr H with
 | none=>rw[hd] at c;cases c
 | some q=>rw[hd] at c;rw[OG e hd];exact c
theorem OH{n m:Nat}(s:n<=m){f g:Fr->CH->Gt}(e : ∀fr H r,f fr H=some r->g fr H=some r) : ∀ {fr:Fr} {H:CH} {r:bQ×Fr×CH},oS n f fr H=some r->oS m g fr H=some r:=by
 induction n generalizing m with
 | zero=>intro fr H r c;simp[oS] at c
 | succ n o=>
   intro fr H r c;obtain⟨m,rfl⟩ : ∃k,m=k+1:=⟨m-1,Om⟩;simp only[oS] at c⊢
   cases j:f fr H with
   | none=>rw[j] at c;cases c
   | some q=>
     obtain⟨x,aj,H1⟩:=q;rw[j] at c;rw[e _ _ _ j];cases x with
     | normal=>exact o (m:=m) Om c
     | exit i=>exact c
     | ret=>exact c
theorem yc{h h':Hd}(j:Bq h h'){n m:Nat}(t:n<=m) : ∀ {c:bP} {fr:Fr} {H:CH} {r:bQ×Fr×CH},bG h n c fr H=some r->bG h' m c fr H=some r:=by
 intro c;induction c with
 | bad=>intro fr H r e;simp[bG] at e
 | skip=>intro fr H r e;exact e
 | gG af=>
   intro fr H r e;simp only[bG] at e⊢
   cases hi:c7 h af fr H with
   | none=>rw[hi] at e;cases e
   | some q=>rw[hi] at e;rw[DP j hi];exact e
 | lF d=>
   intro fr H r e;simp only[bG] at e⊢
   cases hi:su h d fr H with
   | none=>rw[hi] at e;cases e
   | some q=>rw[hi] at e;rw[aep j hi];exact e
 | seq a b o p=>
   intro fr H r e;simp only[bG] at e⊢
   cases ha:bG h n a fr H with
   | none=>rw[ha] at e;cases e
   | some q=>
     obtain⟨x,aj,H1⟩:=q;rw[ha] at e;rw[o ha];cases x with
     | normal=>exact p e
     | exit i=>exact e
     | ret=>exact e
 | cond c a b o p=>
   intro fr H r e;simp only[bG] at e⊢;split at e;·exact o e
   ·exact p e
   cases e
 | block id c s=>
   intro fr H r e;simp only[bG] at e⊢
   cases ha:bG h n c fr H with
   | none=>rw[ha] at e;cases e
   | some q=>rw[ha] at e;rw[s ha];exact e
 | loop c s=>
   intro fr H r e;simp only[bG] at e⊢;exact OH t (λ_ _ _ u=>s u) e
 | exit id=>intro fr H r e;exact e
 | ret=>intro fr H r e;exact e
 | rh g key=>
   intro fr H r e;simp only[bG] at e⊢;split at e
   ·rename_i f v dK hg;cases hc:h.call f (Value.func (.yield H.nx) #[] #[]::dK.toList) (H.new (.loop .ready none fr key)) with
    | none=>rw[hc] at e;cases e
    | some q=>rw[hc] at e;rw[j.call _ _ _ _ hc];exact e
   cases e
theorem pI{T:cF} : ∀ {n m:Nat},n<=m->Bq (da T n) (da T m)
 | 0,m,_=>⟨λf a H r c=>by simp[da] at c,λf a H r c=>by simp[da] at c⟩
 | n+1,m,s=>by
   obtain⟨m,rfl⟩ : ∃k,m=k+1:=⟨m-1,Om⟩;have g:=pI (T:=T) (n:=n) (m:=m) Om;have j:n<=m:=by omega
   refine⟨λf a H r c=> ?_,λl a H r c=> ?_⟩
   ·simp only[da] at c⊢;split at c;·rename_i he;rw[iP he];exact c
    rename_i he;rw[iN he];split at c
    ·rename_i rf C;cases hb:bG (da T n) n rf.body (λt=>a.getD t undef) H with
     | none=>rw[hb] at c;cases c
     | some q=>rw[hb] at c;rw[yc g j hb];exact c
    cases c
   simp only[da] at c⊢;split at c
   ·rename_i gN fr key ho;split at c
    ·rename_i ps bF body hl;split at c
     ·rename_i e;rw[iP e];cases hb:bG (da T n) n bF (DK fr ps a) H with
      | none=>rw[hb] at c;cases c
      | some q=>
        obtain⟨x,u,v⟩:=q;rw[hb] at c;rw[yc g j hb];cases x with
        | normal=>
          simp only at c⊢;split at c
          ·rename_i y z A D;cases o:bG (da T n) n body u (v.set l (.loop .busy y z A)) with
           | none=>rw[o] at c;cases c
           | some F=>rw[o] at c;rw[yc g j o];exact c
          cases c
        | ret=>cases c
        | exit i=>cases c
     cases c
    cases c
   cases c
theorem U6{T:cF}{n m:Nat}(h:n<=m) : ∀f a H r,pH T n f a H=some r->pH T m f a H=some r:=(pI h).call
def bw (T:cF)(f:bk)(args:List ae)(H:CH)(Q:ae->CH->Prop):Prop:=∃n v H',pH T n f args H=some (v,H')/\Q v H'
def OI (T:cF)(l:Nat)(args:List ae)(H:CH)(Q:ae->CH->Prop):Prop:=∃n v H',(da T n).round l args H=some (v,H')/\Q v H'
def nF (T:cF)(af:List Item)(fr:Fr)(H:CH)(K:Fr->CH->Prop):Prop:=∃n fr' H',c7 (da T n) af fr H=some (fr',H')/\K fr' H'
def zH (T:cF)(af:List Item)(fr:Fr)(H:CH)(K:Fr->CH->List CH->Prop):Prop:=∃n fr' H' l,cE (da T n) af fr H=some (fr',H',l)/\K fr' H' l
def dx (T:cF)(c:bP)(fr:Fr)(H:CH)(Q:bQ->Fr->CH->Prop):Prop:=∃n x fr' H',bG (da T n) n c fr H=some (x,fr',H')/\Q x fr' H'
variable {T:cF}
theorem bw.mono{f:bk}{args:List ae}{H:CH}{Q c:ae->CH->Prop}(h:bw T f args H Q)(e : ∀v H',Q v H'->c v H'):bw T f args H c:=by
 obtain⟨n,v,H',h1,h2⟩:=h;exact⟨n,v,H',h1,e _ _ h2⟩
theorem dx.mono{c:bP}{fr:Fr}{H:CH}{Q e:bQ->Fr->CH->Prop}(h:dx T c fr H Q)(f : ∀x fr' H',Q x fr' H'->e x fr' H'):dx T c fr H e:=by
 obtain⟨n,x,fr',H',h1,h2⟩:=h;exact⟨n,x,fr',H',h1,f _ _ _ h2⟩
theorem DQ{fr:Fr}{H:CH}{K:Fr->CH->Prop}:nF T [] fr H K↔K fr H:=
 ⟨λ⟨n,fr',H',h1,h2⟩=>by simp[c7] at h1;rw[h1.1,h1.2];exact h2,λh=>⟨0,fr,H,rfl,h⟩⟩
def lH (T:cF)(fr:Fr)(H:CH)(o:fF)(K:ae->CH->Prop):Prop:=∃n v H',eb (da T n) fr H o=some (v,H')/\K v H'
theorem J8{it:Item}{r:List Item}{fr:Fr}{H:CH}{K:Fr->CH->Prop}:nF T (it::r) fr H K↔
 match ec fr it.guard with
 | some true=>lH T fr H it.op λv H'=>nF T r (bE fr it.dst v) H' K
 | some false=>nF T r (bE fr it.dst jH) H K
 | none=>False:=by
 constructor
 ·rintro⟨n,fr',H',h1,h2⟩;simp only[c7,cA] at h1;cases hw:ec fr it.guard with
  | none=>rw[hw] at h1;cases h1
  | some b=>
    rw[hw] at h1;cases b with
    | true=>
      simp only at h1⊢
      cases c:eb (da T n) fr H it.op with
      | none=>rw[c] at h1;cases h1
      | some q=>rw[c] at h1;exact⟨n,q.1,q.2,c,n,fr',H',h1,h2⟩
    | false=>exact⟨n,fr',H',h1,h2⟩
 intro h;cases hw:ec fr it.guard with
 | none=>rw[hw] at h;exact h.elim
 | some b=>
   rw[hw] at h;cases b with
   | true=>
     obtain⟨n,v,H1,h1,m,fr',H',h2,h3⟩:=h;refine⟨max n m,fr',H',?_,h3⟩;simp only[c7,cA,hw];rw[OE (pI (vR n m)) h1];exact DP (pI (vS n m)) h2
   | false=>
     obtain⟨n,fr',H',h1,h2⟩:=h;exact⟨n,fr',H',by simp only[c7,cA,hw];exact h1,h2⟩
theorem U7{fr:Fr}{H:CH}{x:dM}{K:ae->CH->Prop}:lH T fr H (.p x) K↔∃v,pop (aO fr) x=some v/\K v H:=by
 constructor
 ·rintro⟨n,v,H',h1,h2⟩;simp only[eb] at h1;cases hp:pop (aO fr) x with
  | none=>rw[hp] at h1;cases h1
  | some u=>rw[hp] at h1;cases h1;exact⟨_,rfl,h2⟩
 rintro⟨v,h1,h2⟩;exact⟨0,v,H,by simp[eb,h1],h2⟩
theorem OJ{fr:Fr}{H:CH}{x:gU}{K:ae->CH->Prop}:lH T fr H (.l x) K↔∃v,bg H (aO fr) x=some v/\K v H:=by
 constructor
 ·rintro⟨n,v,H',h1,h2⟩;simp only[eb] at h1;cases hp:bg H (aO fr) x with
  | none=>rw[hp] at h1;cases h1
  | some u=>rw[hp] at h1;cases h1;exact⟨_,rfl,h2⟩
 rintro⟨v,h1,h2⟩;exact⟨0,v,H,by simp[eb,h1],h2⟩
theorem U8{fr:Fr}{H:CH}{x:oO}{K:ae->CH->Prop}:lH T fr H (.a x) K↔∃cs e k mk,fT (aO fr) x=some (cs,e,k,mk)/\K (kz mk H.nx) (H.new (.cells cs e k)):=by
 constructor
 ·rintro⟨n,v,H',h1,h2⟩;simp only[eb] at h1;cases hp:fT (aO fr) x with
  | none=>rw[hp] at h1;cases h1
  | some u=>obtain⟨cs,e,k,mk⟩:=u;rw[hp] at h1;cases h1;exact⟨cs,e,k,mk,rfl,h2⟩
 rintro⟨cs,e,k,mk,h1,h2⟩;exact⟨0,_,_,by simp[eb,h1],h2⟩
theorem U9{fr:Fr}{H:CH}{x:hO}{K:ae->CH->Prop}:lH T fr H (.w x) K↔∃v H',cy H (aO fr) x=some (v,H')/\K v H':=by
 constructor;·rintro⟨n,v,H',h1,h2⟩;exact⟨v,H',h1,h2⟩
 rintro⟨v,H',h1,h2⟩;exact⟨0,v,H',h1,h2⟩
theorem U'{fr:Fr}{H:CH}{f:bk}{args:List au}{K:ae->CH->Prop}:lH T fr H (.call f args) K↔bw T f (args.map (aO fr)) H K:=fI
theorem aeq{fr:Fr}{H:CH}{g:au}{args:List au}{K:ae->CH->Prop}:lH T fr H (.ny g args) K↔
 match aO fr g with
 | .func (.func f) _ dK=>bw T f (args.map (aO fr)++dK.toList) H K
 | .func (.yield l) _ _=>OI T l (args.map (aO fr)) H K
 | _=>False:=by
 constructor
 ·rintro⟨n,v,H',h1,h2⟩;simp only[eb] at h1;split at h1;·rename_i hg;simp only[hg];exact⟨n,v,H',h1,h2⟩
  ·rename_i hg;simp only[hg];exact⟨n,v,H',h1,h2⟩
  cases h1
 intro h;split at h;·rename_i hg;obtain⟨n,v,H',h1,h2⟩:=h;exact⟨n,v,H',by simp only[eb,hg];exact h1,h2⟩
 ·rename_i hg;obtain⟨n,v,H',h1,h2⟩:=h;exact⟨n,v,H',by simp only[eb,hg];exact h1,h2⟩
 exact h.elim
theorem OK{fr:Fr}{H:CH}{Q:bQ->Fr->CH->Prop}:dx T .skip fr H Q↔Q .normal fr H:=
 ⟨λ⟨n,x,fr',H',h1,h2⟩=>by simp only[bG,Option.some.injEq,Prod.mk.injEq] at h1;obtain⟨rfl,rfl,rfl⟩:=h1;exact h2,λh=>⟨0,_,_,_,rfl,h⟩⟩
theorem Va{id:Nat}{fr:Fr}{H:CH}{Q:bQ->Fr->CH->Prop}:dx T (.exit id) fr H Q↔Q (.exit id) fr H:=
 ⟨λ⟨n,x,fr',H',h1,h2⟩=>by simp only[bG,Option.some.injEq,Prod.mk.injEq] at h1;obtain⟨rfl,rfl,rfl⟩:=h1;exact h2,λh=>⟨0,_,_,_,rfl,h⟩⟩
theorem OL{fr:Fr}{H:CH}{Q:bQ->Fr->CH->Prop}:dx T .ret fr H Q↔Q .ret fr H:=
 ⟨λ⟨n,x,fr',H',h1,h2⟩=>by simp only[bG,Option.some.injEq,Prod.mk.injEq] at h1;obtain⟨rfl,rfl,rfl⟩:=h1;exact h2,λh=>⟨0,_,_,_,rfl,h⟩⟩
theorem Vb{af:List Item}{fr:Fr}{H:CH}{Q:bQ->Fr->CH->Prop}:dx T (.gG af) fr H Q↔nF T af fr H (Q .normal):=by
 constructor
 ·rintro⟨n,x,fr',H',h1,h2⟩;simp only[bG] at h1;cases c:c7 (da T n) af fr H with
  | none=>rw[c] at h1;cases h1
  | some q=>rw[c] at h1;cases h1;exact⟨n,_,_,c,h2⟩
 rintro⟨n,fr',H',h1,h2⟩;exact⟨n,_,_,_,by simp only[bG,h1];rfl,h2⟩
theorem OM{d:je}{fr:Fr}{H:CH}{Q:bQ->Fr->CH->Prop}:dx T (.lF d) fr H Q↔zH T d.af fr H λfr' H' l=>(∀p∈d.m7,∃G,(H::l)[p.2]? = some G/\wj fr' G p.1)/\Q .normal fr' H':=by
 constructor
 ·rintro⟨n,x,fr',H',h1,h2⟩;simp only[bG,su] at h1;cases c:cE (da T n) d.af fr H with
  | none=>rw[c] at h1;cases h1
  | some q=>
    obtain⟨f,K,l⟩:=q;rw[c] at h1;simp only at h1;split at h1;·rename_i hc;cases h1;exact⟨n,_,_,_,c,hc,h2⟩
    cases h1
 rintro⟨n,fr',H',l,h1,h2,h3⟩;refine⟨n,_,fr',H',?_,h3⟩;simp only[bG,su,h1];rw[iP h2];rfl
theorem Vc{fr:Fr}{H:CH}{K:Fr->CH->List CH->Prop}:zH T [] fr H K↔K fr H []:=
 ⟨λ⟨n,fr',H',l,h1,h2⟩=>by simp only[cE,Option.some.injEq,Prod.mk.injEq] at h1;obtain⟨rfl,rfl,rfl⟩:=h1;exact h2,λh=>⟨0,fr,H,[],rfl,h⟩⟩
theorem J9{it:Item}{r:List Item}{fr:Fr}{H:CH}{K:Fr->CH->List CH->Prop}:zH T (it::r) fr H K↔
 match ec fr it.guard with
 | some true=>lH T fr H it.op λv H'=>zH T r (bE fr it.dst v) H' λf L l=>K f L (if cn it.op then H'::l else l)
 | some false=>zH T r (bE fr it.dst jH) H λf L l=>K f L (if cn it.op then H::l else l)
 | none=>False:=by
 constructor
 ·rintro⟨n,fr',H',l,h1,h2⟩;simp only[cE,cA] at h1;cases hw:ec fr it.guard with
  | none=>rw[hw] at h1;cases h1
  | some b=>
    rw[hw] at h1;cases b with
    | true=>
      simp only at h1⊢
      cases e:eb (da T n) fr H it.op with
      | none=>rw[e] at h1;cases h1
      | some q=>
        rw[e] at h1;simp only[fm] at h1;cases hd:cE (da T n) r (bE fr it.dst q.1) q.2 with
        | none=>rw[hd] at h1;cases h1
        | some z=>
          obtain⟨a,b,c⟩:=z;rw[hd] at h1;simp only[fm,Option.some.injEq,Prod.mk.injEq] at h1;obtain⟨rfl,rfl,rfl⟩:=h1;exact⟨n,q.1,q.2,e,n,_,_,_,hd,h2⟩
    | false=>
      simp only at h1⊢
      cases hd:cE (da T n) r (bE fr it.dst jH) H with
      | none=>rw[hd] at h1;cases h1
      | some z=>
        obtain⟨a,b,c⟩:=z;rw[hd] at h1;simp only[fm,Option.some.injEq,Prod.mk.injEq] at h1;obtain⟨rfl,rfl,rfl⟩:=h1;exact⟨n,_,_,_,hd,h2⟩
 intro h;cases hw:ec fr it.guard with
 | none=>rw[hw] at h;exact h.elim
 | some b=>
   rw[hw] at h;cases b with
   | true=>
     obtain⟨n,v,H1,h1,m,fr',H',l,h2,h3⟩:=h;refine⟨max n m,fr',H',_,?_,h3⟩;simp only[cE,cA,hw];rw[OE (pI (vR n m)) h1];simp only[fm];rw[OG (pI (vS n m)) h2];rfl
   | false=>
     obtain⟨n,fr',H',l,h1,h2⟩:=h;exact⟨n,fr',H',_,by simp only[cE,cA,hw,h1];rfl,h2⟩
theorem J'{a b:bP}{fr:Fr}{H:CH}{Q:bQ->Fr->CH->Prop}:dx T (.seq a b) fr H Q↔dx T a fr H λx fr' H'=>match x with
 | .normal=>dx T b fr' H' Q
 | x=>Q x fr' H':=by
 constructor
 ·rintro⟨n,x,fr',H',h1,h2⟩;simp only[bG] at h1;cases ha:bG (da T n) n a fr H with
  | none=>rw[ha] at h1;cases h1
  | some q=>
    obtain⟨y,aj,H1⟩:=q;rw[ha] at h1;refine⟨n,y,aj,H1,ha,?_⟩;cases y with
    | normal=>exact⟨n,x,fr',H',h1,h2⟩
    | exit i=>cases h1;exact h2
    | ret=>cases h1;exact h2
 rintro⟨n,y,aj,H1,h1,h2⟩;cases y with
 | normal=>
   obtain⟨m,x,fr',H',h3,h4⟩:=h2;refine⟨max n m,x,fr',H',?_,h4⟩;simp only[bG];rw[yc (pI (vR n m)) (vR n m) h1];exact yc (pI (vS n m)) (vS n m) h3
 | exit i=>exact⟨n,_,aj,H1,by simp only[bG,h1],h2⟩
 | ret=>exact⟨n,_,aj,H1,by simp only[bG,h1],h2⟩
theorem ON{c:au}{a b:bP}{fr:Fr}{H:CH}{Q:bQ->Fr->CH->Prop}:dx T (.cond c a b) fr H Q↔match aO fr c with
 | .bool t=>if t=true then dx T a fr H Q else dx T b fr H Q
 | _=>False:=by
 constructor
 ·rintro⟨n,x,fr',H',h1,h2⟩;simp only[bG] at h1;split at h1;·rename_i e;rw[e];exact⟨n,x,fr',H',h1,h2⟩
  ·rename_i e;rw[e];exact⟨n,x,fr',H',h1,h2⟩
  cases h1
 intro h;split at h
 ·rename_i t e;cases t with
  | true=>obtain⟨n,x,fr',H',h1,h2⟩:=h;exact⟨n,x,fr',H',by simp only[bG,e];exact h1,h2⟩
  | false=>obtain⟨n,x,fr',H',h1,h2⟩:=h;exact⟨n,x,fr',H',by simp only[bG,e];exact h1,h2⟩
 exact h.elim
theorem Vd{id:Nat}{c:bP}{fr:Fr}{H:CH}{Q:bQ->Fr->CH->Prop}:dx T (.block id c) fr H Q↔dx T c fr H λx fr' H'=>match x with
 | .exit i=>if i=id then Q .normal fr' H' else Q (.exit i) fr' H'
 | x=>Q x fr' H':=by
 constructor
 ·rintro⟨n,x,fr',H',h1,h2⟩;simp only[bG] at h1;cases ha:bG (da T n) n c fr H with
  | none=>rw[ha] at h1;cases h1
  | some q=>
    obtain⟨y,aj,H1⟩:=q;rw[ha] at h1;refine⟨n,y,aj,H1,ha,?_⟩;cases y with
    | normal=>cases h1;exact h2
    | exit i=>
      simp only at h1⊢;split at h1;·rename_i e;rw[iP e];cases h1;exact h2
      rename_i e;rw[iN e];cases h1;exact h2
    | ret=>cases h1;exact h2
 rintro⟨n,y,aj,H1,h1,h2⟩;cases y with
 | normal=>exact⟨n,_,aj,H1,by simp only[bG,h1],h2⟩
 | exit i=>
   simp only at h2;split at h2;·rename_i e;exact⟨n,_,aj,H1,by simp only[bG,h1,iP e],h2⟩
   rename_i e;exact⟨n,_,aj,H1,by simp only[bG,h1,iN e],h2⟩
 | ret=>exact⟨n,_,aj,H1,by simp only[bG,h1],h2⟩
theorem Ka{c:bP}{fr:Fr}{H:CH}{Q:bQ->Fr->CH->Prop}:dx T (.loop c) fr H Q↔dx T c fr H λx fr' H'=>match x with
 | .normal=>dx T (.loop c) fr' H' Q
 | x=>Q x fr' H':=by
 constructor
 ·rintro⟨n,x,fr',H',h1,h2⟩;simp only[bG] at h1;cases n with
  | zero=>simp[oS] at h1
  | succ n=>
    simp only[oS] at h1;cases ha:bG (da T (n+1)) (n+1) c fr H with
    | none=>rw[ha] at h1;cases h1
    | some q=>
      obtain⟨y,aj,H1⟩:=q;rw[ha] at h1;refine⟨n+1,y,aj,H1,ha,?_⟩;cases y with
      | normal=>exact⟨n+1,x,fr',H',by simp only[bG];exact OH (nq n) (λ_ _ _ h=>h) h1,h2⟩
      | exit i=>cases h1;exact h2
      | ret=>cases h1;exact h2
 rintro⟨n,y,aj,H1,h1,h2⟩;cases y with
 | normal=>
   obtain⟨m,x,fr',H',h3,h4⟩:=h2;refine⟨max n m+1,x,fr',H',?_,h4⟩;simp only[bG,oS] at h3⊢;rw[yc (pI (xi (vR n m))) (xi (vR n m)) h1];exact OH (vS n m) (λ_ _ _ h=>yc (pI (xi (vS n m))) (xi (vS n m)) h) h3
 | exit i=>exact⟨n+1,_,aj,H1,by simp only[bG,oS];rw[yc (pI (nq n)) (nq n) h1],h2⟩
 | ret=>exact⟨n+1,_,aj,H1,by simp only[bG,oS];rw[yc (pI (nq n)) (nq n) h1],h2⟩
theorem aer{f:bk}{rf:wk}(he:T.ext f=false)(c:T.fn f=some rf){args:List ae}{H:CH}{Q:ae->CH->Prop}:bw T f args H Q↔dx T rf.body (λt=>args.getD t undef) H λx fr' H'=>match x with
 | .exit _=>False
 | _=>∃vs,ct fr' H' rf.res=some vs/\Q (eV vs) H':=by
 constructor
 ·rintro⟨n,v,H',h1,h2⟩;cases n with
  | zero=>simp[pH,da] at h1
  | succ n=>
    simp only[pH,da,he,c,aM,iF] at h1;cases hb:bG (da T n) n rf.body (λt=>args.getD t undef) H with
    | none=>rw[hb] at h1;cases h1
    | some q=>
      obtain⟨y,aj,H1⟩:=q;rw[hb] at h1;refine⟨n,y,aj,H1,hb,?_⟩;cases y with
      | exit i=>cases h1
      | normal=>
        simp only at h1⊢
        cases hv:ct aj H1 rf.res with
        | none=>rw[hv] at h1;cases h1
        | some vs=>rw[hv] at h1;cases h1;exact⟨vs,rfl,h2⟩
      | ret=>
        simp only at h1⊢
        cases hv:ct aj H1 rf.res with
        | none=>rw[hv] at h1;cases h1
        | some vs=>rw[hv] at h1;cases h1;exact⟨vs,rfl,h2⟩
 rintro⟨n,y,aj,H1,h1,h2⟩;cases y with
 | exit i=>exact h2.elim
 | normal=>
   obtain⟨vs,h3,h4⟩:=h2;exact⟨n+1,eV vs,H1,by simp only[pH,da,he,c,aM,iF,h1,h3];rfl,h4⟩
 | ret=>
   obtain⟨vs,h3,h4⟩:=h2;exact⟨n+1,eV vs,H1,by simp only[pH,da,he,c,aM,iF,h1,h3];rfl,h4⟩
def OO(l:Nat)(fr:Fr)(Q:bQ->Fr->CH->Prop):ae->CH->Prop:=λ_ H=>∃st gN fr' key,H.ob l= .loop st gN fr' key/\st≠ .busy/\Q (Oi gN) fr (H.set l (.loop .exhausted gN fr' key))
theorem aes{g:au}{key:Nat×Nat}{fr:Fr}{H:CH}{Q:bQ->Fr->CH->Prop}{f:bk}{c dK:Array ae}(hg:aO fr g= .func (.func f) c dK)
 (k:bw T f (.func (.yield H.nx) #[] #[]::dK.toList) (H.new (.loop .ready none fr key)) (OO H.nx fr Q)):dx T (.rh g key) fr H Q:=by
 obtain⟨n,v,e,h1,st,gN,fr',i,h2,h3,h4⟩:=k;refine⟨n,_,_,_,?_,h4⟩;simp only[bG,hg];simp only[pH] at h1;rw[h1];simp only[h2,iN h3]
end
section
open Go Go.RowKit
variable {P:aZ} {B:Nat}
def dM.bB:dM->List au
 | .tu x | .un _ x | .conv _ x | .Dm x | .off x _ | .ext x _ | .len x | .lens x | .A4 x | .FW x | .jX x _ _=> [x]
 | .pick c a b=> [c,a,b]
 | .bin _ x y | .A0 _ x y | .v7 _ x y | .eqs _ x y | .Dl _ _ _ x y | .idx x y _ | .FV x y _ _ | .Dn x y | .FX x y _ _ _ | .mx _ x y=> [x,y]
 | .A3 x lo hi=>x::(lo.toList++hi.toList)
 | .fn _ dK=>dK
 | .xH _ ps=>ps.map (·.2.2)
def gU.bB:gU->List au
 | .ld x | .jZ _ x | .b2s x | .zu _ x=> [x]
 | .A7 _ x y=> [x,y]
 | .Dt _ _ _ x i=> [x,i]
 | .pC _ _ x lo hi mx=>x::(lo.toList++(hi.toList++mx.toList))
def oO.bB:oO->List au
 | .box _ x=> [x]
 | .new _ _=> []
 | .xR _ _ _ _ ps=>ps.map (·.2)
 | .F1 _ _ _ _ l c=> [l,c]
def hO.bB:hO->List au
 | .st _ x v=> [x,v]
 | .app _ _ _ s x=> [s,x]
 | .F3 _ d s=> [d,s]
 | .F4=> []
 | .F5 _ x k v=> [x,k,v]
 | .F6 x | .cT x | .F7 x | .F8 x | .hU x | .s2b _ _ x=> [x]
 | .del _ x k=> [x,k]
 | .F9 _ p n=> [p,n]
def fF.bB:fF->List au
 | .p x=>x.bB
 | .l x=>x.bB
 | .a x=>x.bB
 | .w x=>x.bB
 | .call _ args=>args
 | .ny g args=>g::args
theorem GD{ev ev':au->ae}{d d':Nat}{o:Option au}(h : ∀x∈o.toList,ev x=ev' x)(hd:d=d'):eJ ev d o=eJ ev' d' o:=by
 subst hd;cases o with
 | none=>rfl
 | some x=>simp only[eJ,h x s0]
theorem Ve{ev ev':au->ae}{p:dM}(h : ∀x∈p.bB,ev x=ev' x):pop ev p=pop ev' p:=by
 cases p with
 | pick c a b=>simp only[pop,h c (by simp[dM.bB]),h a (by simp[dM.bB]),h b (by simp[dM.bB])]
 | A3 x lo hi=>
   have hx:=h x (by simp[dM.bB]);simp only[pop,hx];rw[GD (ev:=ev) (ev':=ev') (o:=lo) (λy e=>h y (by simp only[dM.bB,js,fo];exact .inr (.inl e))) rfl,GD (ev:=ev) (ev':=ev') (o:=hi) (λy e=>h y (by simp only[dM.bB,js,fo];exact .inr (.inr e))) rfl]
 | fn f dK=>
   have:dK.map ev=dK.map ev':=vT λx hx=>h x hx;simp only[pop,this]
 | xH z ps=>
   simp only[pop];have:ps.map (λ(o,s,x)=>(o,s,ev x))=ps.map (λ(o,s,x)=>(o,s,ev' x)):=vT λq i=>by
    obtain⟨a,b,c⟩:=q;simp only[h c (List.mem_map.2 ⟨_,i,rfl⟩)]
   rw[this]
 | tu x=>simp only[pop,h x (by simp[dM.bB])]
 | un op x=>simp only[pop,h x (by simp[dM.bB])]
 | conv k x=>simp only[pop,h x (by simp[dM.bB])]
 | Dm x=>simp only[pop,h x (by simp[dM.bB])]
 | off x d=>simp only[pop,h x (by simp[dM.bB])]
 | ext x d=>simp only[pop,h x (by simp[dM.bB])]
 | len x=>simp only[pop,h x (by simp[dM.bB])]
 | lens x=>simp only[pop,h x (by simp[dM.bB])]
 | A4 x=>simp only[pop,h x (by simp[dM.bB])]
 | FW x=>simp only[pop,h x (by simp[dM.bB])]
 | bin op x y=>simp only[pop,h x (by simp[dM.bB]),h y (by simp[dM.bB])]
 | A0 n x y=>simp only[pop,h x (by simp[dM.bB]),h y (by simp[dM.bB])]
 | v7 n x y=>simp only[pop,h x (by simp[dM.bB]),h y (by simp[dM.bB])]
 | eqs n x y=>simp only[pop,h x (by simp[dM.bB]),h y (by simp[dM.bB])]
 | Dl n g ks x y=>simp only[pop,h x (by simp[dM.bB]),h y (by simp[dM.bB])]
 | idx x y s=>simp only[pop,h x (by simp[dM.bB]),h y (by simp[dM.bB])]
 | FV x y n s=>simp only[pop,h x (by simp[dM.bB]),h y (by simp[dM.bB])]
 | Dn x y=>simp only[pop,h x (by simp[dM.bB]),h y (by simp[dM.bB])]
 | jX x d n=>simp only[pop,h x (by simp[dM.bB])]
 | FX x y n s g=>simp only[pop,h x (by simp[dM.bB]),h y (by simp[dM.bB])]
 | mx b x y=>simp only[pop,h x (by simp[dM.bB]),h y (by simp[dM.bB])]
theorem Vf{ev ev':au->ae}{H:CH}{p:gU}(h : ∀x∈p.bB,ev x=ev' x):bg H ev p=bg H ev' p:=by
 cases p with
 | ld x=>simp only[bg,h x (by simp[gU.bB])]
 | jZ n x=>simp only[bg,h x (by simp[gU.bB])]
 | b2s x=>simp only[bg,h x (by simp[gU.bB])]
 | zu f x=>simp only[bg,h x (by simp[gU.bB])]
 | A7 neg x y=>simp only[bg,h x (by simp[gU.bB]),h y (by simp[gU.bB])]
 | Dt kk z ok x i=>simp only[bg,h x (by simp[gU.bB]),h i (by simp[gU.bB])]
 | pC e sz x lo hi mx=>
   have hx:=h x (by simp[gU.bB]);simp only[bg,hx];rw[GD (ev:=ev) (ev':=ev') (o:=lo) (λy c=>h y (by simp only[gU.bB,js,fo];exact .inr (.inl c))) rfl,
    GD (ev:=ev) (ev':=ev') (o:=hi) (λy c=>h y (by simp only[gU.bB,js,fo];exact .inr (.inr (.inl c)))) rfl,
    GD (ev:=ev) (ev':=ev') (o:=mx) (λy c=>h y (by simp only[gU.bB,js,fo];exact .inr (.inr (.inr c)))) rfl]
theorem GF{ev ev':au->ae}{p:oO}(h : ∀x∈p.bB,ev x=ev' x):fT ev p=fT ev' p:=by
 cases p with
 | box e x=>simp only[fT,h x (by simp[oO.bB])]
 | new e z=>rfl
 | xR e sz n z ps=>
   simp only[fT];have:ps.map (λ(i,x)=>(i*sz,sz,ev x))=ps.map (λ(i,x)=>(i*sz,sz,ev' x)):=vT λq f=>by
    obtain⟨a,c⟩:=q;simp only[h c (List.mem_map.2 ⟨_,f,rfl⟩)]
   rw[this]
 | F1 e sz b z l c=>simp only[fT,h l (by simp[oO.bB]),h c (by simp[oO.bB])]
theorem aet{ev ev':au->ae}{H:CH}{p:hO}(h : ∀x∈p.bB,ev x=ev' x):cy H ev p=cy H ev' p:=by
 cases p with
 | st n x v=>simp only[cy,h x (by simp[hO.bB]),h v (by simp[hO.bB])]
 | app e sz b s x=>simp only[cy,h s (by simp[hO.bB]),h x (by simp[hO.bB])]
 | F3 sz d s=>simp only[cy,h d (by simp[hO.bB]),h s (by simp[hO.bB])]
 | F4=>rfl
 | F5 kk x k v=>simp only[cy,h x (by simp[hO.bB]),h k (by simp[hO.bB]),h v (by simp[hO.bB])]
 | F6 x=>simp only[cy,h x (by simp[hO.bB])]
 | cT x=>simp only[cy,h x (by simp[hO.bB])]
 | F7 x=>simp only[cy,h x (by simp[hO.bB])]
 | F8 x=>simp only[cy,h x (by simp[hO.bB])]
 | del kk x k=>simp only[cy,h x (by simp[hO.bB]),h k (by simp[hO.bB])]
 | hU x=>simp only[cy,h x (by simp[hO.bB])]
 | F9 e p n=>simp only[cy,h p (by simp[hO.bB]),h n (by simp[hO.bB])]
 | s2b e b x=>simp only[cy,h x (by simp[hO.bB])]
theorem aeu{h:Hd}{fr fr':Fr}{H:CH}{o:fF}(he : ∀x∈o.bB,aO fr x=aO fr' x):eb h fr H o=eb h fr' H o:=by
 cases o with
 | p x=>simp only[eb,Ve (p:=x) he]
 | l x=>simp only[eb,Vf (p:=x) he]
 | a x=>simp only[eb,GF (p:=x) he]
 | w x=>simp only[eb];exact aet he
 | call f args=>
   have:args.map (aO fr)=args.map (aO fr'):=vT λx hx=>he x hx;simp only[eb,this]
 | ny g args=>
   have hg:=he g (by simp[fF.bB]);have ha:args.map (aO fr)=args.map (aO fr'):=vT λx hx=>he x (by simp[fF.bB,hx]);simp only[eb,hg,ha]
def slotsOf:List au->List Nat:=λl=>l.filterMap fun | .tmp t=>some t | _=>none
def Item.eN(it:Item):List Nat:=slotsOf it.op.bB++(match it.guard with | some (s,_)=> [s] | none=> [])
theorem yd{fr fr':Fr}{l:List au}(h : ∀t∈slotsOf l,fr t=fr' t) : ∀x∈l,aO fr x=aO fr' x:=by
 intro x hx;cases x with
 | tmp t=>exact h t (List.mem_filterMap.2 ⟨.tmp t,hx,rfl⟩)
 | _=>rfl
theorem ye{fr fr':Fr}{it:Item}(h : ∀t∈it.eN,fr t=fr' t):ec fr it.guard=ec fr' it.guard:=by
 cases hg:it.guard with
 | none=>rfl
 | some q=>
   obtain⟨s,b⟩:=q;simp only[ec,h s (by simp[Item.eN,hg])]
theorem Br{h:Hd}{it:Item}{fr aX aj:Fr}{H H1:CH}(ha : ∀t∈it.eN,fr t=aX t)(hs:cA h it fr H=some (aj,H1)) : ∃v,aj=bE fr it.dst v/\cA h it aX H=some (bE aX it.dst v,H1):=by
 have hw:=ye ha;have e:eb h fr H it.op=eb h aX H it.op:=aeu (yd λt ht=>ha t (by simp[Item.eN,ht]));simp only[cA] at hs⊢;rw[<-hw,<-e];split at hs
 ·cases c:eb h fr H it.op with
  | none=>rw[c] at hs;cases hs
  | some q=>rw[c] at hs;cases hs;exact⟨q.1,rfl,rfl⟩
 ·cases hs;exact⟨jH,rfl,rfl⟩
 cases hs
theorem aev{fr:Fr}{a b:Option Nat}{u v:ae}(h : ∀x,a=some x->b≠some x):bE (bE fr a u) b v=bE (bE fr b v) a u:=by
 cases a with
 | none=>rfl
 | some x=>
   cases b with
   | none=>rfl
   | some y=>
     have av:x≠y:=λe=>h x rfl (by rw[e]);funext t
     simp only[bE];by_cases f:t=y
     ·subst f;have c : ¬t=x:=λg=>av g.symm;simp[c]
     by_cases c:t=x
     ·subst c;simp[f]
     simp[f,c]
theorem yf{fr:Fr}{a:Option Nat}{v:ae}{t:Nat}(h:a≠some t):bE fr a v t=fr t:=by
 cases a with
 | none=>rfl
 | some x=>simp only[bE];rw[iN (λe=>h (by rw[e]))]
theorem OP{h:Hd}{d:Option Nat}{v:ae} : ∀ {R:List Item} {fr aj:Fr} {H H1:CH} {l:List CH},(∀x∈R,∀t,d=some t->t∉x.eN/\x.dst≠some t)->cE h R fr H=some (aj,H1,l)->cE h R (bE fr d v) H=some (bE aj d v,H1,l)
 | [],fr,aj,H,H1,l,_,i=>by simp only[cE,Option.some.injEq,Prod.mk.injEq] at i;obtain⟨rfl,rfl,rfl⟩:=i;rfl
 | x::R,fr,aj,H,H1,l,hx,i=>by
   simp only[cE] at i⊢
   cases hs:cA h x fr H with
   | none=>rw[hs] at i;cases i
   | some q=>
     obtain⟨f,K⟩:=q;rw[hs] at i;have j:=hx x (np ..);obtain⟨u,rfl,h2⟩:=Br (aX:=bE fr d v) (λt ht=>by
      rw[yf];intro e;exact(j t e).1 ht) hs
     rw[h2];simp only at i⊢
     cases hd:cE h R (bE fr x.dst u) K with
     | none=>rw[hd] at i;cases i
     | some z=>
       obtain⟨a,b,c⟩:=z;rw[hd] at i;simp only[fm,Option.some.injEq,Prod.mk.injEq] at i;obtain⟨rfl,rfl,rfl⟩:=i;have:=OP (v:=v) (λy n=>hx y (kw _ n)) hd;rw[aev (λt e g=>(j t g).2 e)] at this;rw[this];rfl
theorem Bs{h:Hd}{t:Nat} : ∀ {R:List Item} {fr aj:Fr} {H H1:CH} {l:List CH},(∀x∈R,x.dst≠some t)->cE h R fr H=some (aj,H1,l)->aj t=fr t
 | [],fr,aj,H,H1,l,_,e=>by simp only[cE,Option.some.injEq,Prod.mk.injEq] at e;obtain⟨rfl,rfl,rfl⟩:=e;rfl
 | x::R,fr,aj,H,H1,l,hx,e=>by
   simp only[cE] at e;cases hs:cA h x fr H with
   | none=>rw[hs] at e;cases e
   | some q=>
     obtain⟨f,K⟩:=q;rw[hs] at e;simp only at e;obtain⟨u,rfl,_⟩:=Br (aX:=fr) (λt _=>rfl) hs;cases hd:cE h R (bE fr x.dst u) K with
     | none=>rw[hd] at e;cases e
     | some z=>
       obtain⟨a,b,c⟩:=z;rw[hd] at e;simp only[fm,Option.some.injEq,Prod.mk.injEq] at e;obtain⟨rfl,rfl,rfl⟩:=e;rw[Bs (λy g=>hx y (kw _ g)) hd,yf (hx x (np ..))]
theorem Kb{h:Hd} : ∀ {R S:List Item} {fr aX:Fr} {H g:CH} {l:List CH},cE h (R++S) fr H=some (aX,g,l)->∃aj H1 f i,cE h R fr H=some (aj,H1,f)/\cE h S aj H1=some (aX,g,i)/\l=f++i
 | [],S,fr,aX,H,g,l,e=>⟨fr,H,[],l,rfl,e,rfl⟩
 | x::R,S,fr,aX,H,g,l,e=>by
   simp only[aS,cE] at e;cases hs:cA h x fr H with
   | none=>rw[hs] at e;cases e
   | some q=>
     rw[hs] at e;simp only at e;cases hd:cE h (R++S) q.1 q.2 with
     | none=>rw[hd] at e;cases e
     | some z=>
       obtain⟨a,b,c⟩:=z;rw[hd] at e;simp only[fm,Option.some.injEq,Prod.mk.injEq] at e;obtain⟨rfl,rfl,rfl⟩:=e;obtain⟨aj,H1,f,i,h1,h2,rfl⟩:=Kb hd;refine⟨aj,H1,if cn x.op then q.2::f else f,i,?_,h2,by split<;>rfl⟩;simp only[cE,hs,h1];rfl
theorem OQ{h:Hd} : ∀ {R S:List Item} {fr aj aX:Fr} {H H1 e:CH} {f g:List CH},cE h R fr H=some (aj,H1,f)->cE h S aj H1=some (aX,e,g)->cE h (R++S) fr H=some (aX,e,f++g)
 | [],S,fr,aj,aX,H,H1,e,f,g,h1,h2=>by simp only[cE,Option.some.injEq,Prod.mk.injEq] at h1;obtain⟨rfl,rfl,rfl⟩:=h1;exact h2
 | x::R,S,fr,aj,aX,H,H1,e,f,g,h1,h2=>by
   simp only[aS,cE] at h1⊢
   cases hs:cA h x fr H with
   | none=>rw[hs] at h1;cases h1
   | some q=>
     rw[hs] at h1;simp only at h1⊢
     cases hd:cE h R q.1 q.2 with
     | none=>rw[hd] at h1;cases h1
     | some z=>
       obtain⟨a,b,c⟩:=z;rw[hd] at h1;simp only[fm,Option.some.injEq,Prod.mk.injEq] at h1;obtain⟨rfl,rfl,rfl⟩:=h1;rw[OQ hd h2];simp only[fm];split<;>rfl
def Kc (H K:CH):Prop:=∀l,((∃cs e k,H.ob l= .cells cs e k)\/∃es c,H.ob l= .map es c)->K.ob l=H.ob l
theorem Vg{H K:CH}(j:Kc H K){ev:au->ae}{x:gU}{v:ae}(h:bg H ev x=some v):bg K ev x=some v:=by
 cases x with
 | Dt kk z ok x i=>
   simp only[bg] at h⊢;split at h;·exact h
   ·rename_i l hx;cases ho:H.ob l with
    | map es c=>rw[j _ (.inr ⟨_,_,ho⟩),ho];rw[ho] at h;exact h
    | _=>rw[ho] at h;cases h
   cases h
 | ld x=>
   simp only[bg] at h⊢;split at h
   ·split at h;·rename_i g;rw[j _ (.inl ⟨_,_,_,g⟩),g];exact h
    cases h
   cases h
 | jZ n x=>
   simp only[bg] at h⊢;split at h
   ·split at h;·rename_i g;rw[j _ (.inl ⟨_,_,_,g⟩),g];exact h
    cases h
   cases h
 | A7 neg x y=>
   simp only[bg] at h⊢;split at h;·exact h
   ·exact h
   ·split at h;·rename_i g;rw[j _ (.inl ⟨_,_,_,g⟩),g];exact h
    cases h
   cases h
 | zu f x=>
   simp only[bg] at h⊢;split at h;·exact h
   ·split at h;·rename_i g;rw[j _ (.inl ⟨_,_,_,g⟩),g];exact h
    cases h
   cases h
 | b2s x=>
   simp only[bg] at h⊢;split at h;·exact h
   ·split at h;·rename_i g;rw[j _ (.inl ⟨_,_,_,g⟩),g];exact h
    cases h
   ·exact h
   cases h
 | pC e sz x lo hi mx=>
   simp only[bg] at h⊢;split at h
   ·rename_i l hh m h1 h2 h3;split at h
    ·rename_i o;have:px K e (ev x)=true:=by
      simp only[eY] at o;have:=o.1;unfold px at this⊢;split at this
      ·split at this;·rename_i g;rw[j _ (.inl ⟨_,_,_,g⟩),g]
       ·rename_i k hk g;rw[j _ (.inl ⟨_,_,_,g⟩),g];cases k<;>first | rfl | exact this
       cases this
      rfl
     simp only[eY] at o;simp only[this,o.2,Bool.and_self,iT];exact h
    cases h
   cases h
end
section
open Go Go.RowKit
variable {P:aZ} {B:Nat}
def kD:fF->Bool
 | .a _=>true
 | _=>false
inductive fV(ops:Array cu):Nat->Nat->Prop where
 | GH {i:Nat} {o:cu} {e:Edge} (ho:ops[i]? = some o) (he:e∈o.after.toList) (hb:Db .any e=true):fV ops i e.on
 | trans {i j l:Nat} (h:fV ops i j) (k:fV ops j l):fV ops i l
def DC (ops:Array cu)(a7:Array Bool):Prop:=∀i j,a7.getD i false=true->fV ops i j->a7.getD j false=true
theorem GI{ops:Array cu}{a7:Array Bool}{i:Nat}(h:i∈xq .any ops a7):i<ops.size/\a7.getD i true=false/\∀o,ops[i]? = some o->∀e∈o.after.toList,Db .any e=true->a7.getD e.on false=true:=by
 unfold xq at h;obtain⟨h1,h2⟩:=List.mem_filter.1 h;have hi:i<ops.size:=List.mem_range.1 h1;simp only[eY,xj] at h2;refine⟨hi,h2.1,λo ho e he hb=> ?_⟩;have h3:=h2.2;rw[ho] at h3;simp only[fm,qj] at h3;have:=Array.all_eq_true_iff_forall_mem.1 h3 e (by simpa using he);simpa[hb] using this
theorem OR{ops:Array cu}{a7:Array Bool}(c:DC ops a7){i j:Nat}(ha:fV ops i j):(∀o,ops[i]? = some o->∀e∈o.after.toList,Db .any e=true->a7.getD e.on false=true)->a7.getD j false=true:=by
 induction ha with
 | GH ho he hb=>intro h;exact h _ ho _ he hb
 | trans h k f n=>intro g;exact c _ _ (f g) k
theorem yg{a7:Array Bool}{i j:Nat}:(a7.setIfInBounds i true).getD j false=true↔(j=i/\i<a7.size)\/a7.getD j false=true:=by
 simp only[mR];by_cases h:i=j
 ·subst h;by_cases hi:i<a7.size
  ·simp[hi]
  simp[hi]
 rw[Tn h];constructor;·exact .inr
 rintro(⟨e,_⟩ | e);·exact absurd e.symm h
 exact e
theorem Vi{ops:Array cu}{a7:Array Bool}(c:DC ops a7){i:Nat}(hi:i∈xq .any ops a7):DC ops (a7.setIfInBounds i true):=by
 intro a b ha e;rw[yg] at ha⊢
 rcases ha with ⟨rfl,_⟩ | ha
 ·exact .inr (OR c e (GI hi).2.2)
 exact .inr (c _ _ ha e)
theorem aN.push{β:Nat->aB}{H:CH}{w w':ar}(h:aN P B β H w){o:Obj}(hw:w'.heap=w.heap.push o):aN P B β H w':=by
 have c : ∀b,b<w.heap.size->w'.heap[b]? = w.heap[b]? :=λb hb=>by rw[hw,CW,iN Om]
 refine⟨λl=>(h.iI l).mono (eU.refl β) λb hb=>c b ?_,h.nx,h.inj,by rw[hw];simp;exact xi h.base⟩;exact Dj h hb
theorem aN.aew{β:Nat->aB}{H:CH}{w:ar}(h:aN P B β H w){b sz:Nat}{cs:List ae}{cs':Array ae}{e:aH}{k:Kd}{fr:Nat×Nat}(hb:w.heap[b]? = some (.cells cs' e fr))(o:B<=b)(n:Out β b)(hk:k≠ .ro)(he:(P.info? e).map (·.size)=some sz)
 (hl:cs.length<=cs'.size) (hx:k= .ex->cs.length=cs'.size) (hc : ∀(i:Nat) (v:ae),cs[i]? = some v->∃v',cs'[i]? = some v'/\VR β v v') (p:zt cs'.size fr) :
 aN P B (dR β H.nx (.live (b,0) sz cs'.size k)) (H.new (.cells cs e k)) w/\eU β (dR β H.nx (.live (b,0) sz cs'.size k))/\∀b',b'≠b->Out β b'->Out (dR β H.nx (.live (b,0) sz cs'.size k)) b':=by
 have q:=h.oL;have f:eU β (dR β H.nx (.live (b,0) sz cs'.size k)):=λl=>by
  by_cases hl:l=H.nx
  ·subst hl;exact .inr (.inl q)
  exact .inl (eC hl)
 refine⟨⟨λl=> ?_,λl hl=> ?_,λl l' b' ho c=> ?_,h.base⟩,f,λb' av g l ho=> ?_⟩
 ·by_cases j:l=H.nx
  ·subst j;simp only[fa,CH.new,iT];exact⟨rfl,cs',e,fr,hb,rfl,hl,λi v hv=>let ⟨v',a,b⟩:=hc i v hv;⟨v',a,b.mono f⟩,λ_=>he,λ_=>⟨rfl,o,p⟩,λe=>absurd e hk,λe=>⟨hx e,rfl⟩⟩
  simp only[eC j,CH.new,iN j];exact(h.iI l).mono f λ_ _=>rfl
 ·have:l≠H.nx:=by simp[CH.new] at hl;omega
  simp only[CH.new,iN this];exact h.nx l (by simp[CH.new] at hl;omega)
 ·by_cases h1:l=H.nx<;>by_cases h2:l'=H.nx
  ·rw[h1,h2]
  ·subst h1;rw[fa] at ho;rw[eC h2] at c;rw[<-ho.2] at c;exact absurd c (n l')
  ·subst h2;rw[fa] at c;rw[eC h1] at ho;rw[<-c.2] at ho;exact absurd ho (n l)
  rw[eC h1] at ho;rw[eC h2] at c;exact h.inj _ _ b' ho c
 by_cases h1:l=H.nx
 ·subst h1;rw[fa] at ho;exact av ho.2.symm
 rw[eC h1] at ho;exact g l ho
theorem OT{h:Hd} : ∀ {R:List Item} {fr aj:Fr} {H H1:CH} {l:List CH},(∀x∈R,cn x.op=false/\kD x.op=false)->cE h R fr H=some (aj,H1,l)->H1=H/\l= []
 | [],fr,aj,H,H1,l,_,e=>by simp only[cE,Option.some.injEq,Prod.mk.injEq] at e;obtain⟨rfl,rfl,rfl⟩:=e;exact⟨rfl,rfl⟩
 | x::R,fr,aj,H,H1,l,hx,e=>by
   simp only[cE] at e;cases hs:cA h x fr H with
   | none=>rw[hs] at e;cases e
   | some q=>
     obtain⟨f,K⟩:=q;have g:=hx x (np ..);have j:K=H:=by
      simp only[cA] at hs;split at hs
      ·cases i:x.op with
       | p y=>rw[i] at hs;simp only[eb] at hs;cases hp:pop (aO fr) y<;>rw[hp] at hs<;>simp at hs;exact hs.2.symm
       | l y=>rw[i] at hs;simp only[eb] at hs;cases hp:bg H (aO fr) y<;>rw[hp] at hs<;>simp at hs;exact hs.2.symm
       | a y=>rw[i] at g;cases g.2
       | w y=>rw[i] at g;cases g.1
       | call f a=>rw[i] at g;cases g.1
       | ny f a=>rw[i] at g;cases g.1
      ·cases hs;rfl
      cases hs
     rw[hs] at e;simp only[g.1,aM,iF] at e;cases hd:cE h R f K with
     | none=>rw[hd] at e;cases e
     | some z=>
       obtain⟨a,b,c⟩:=z;rw[hd] at e;simp only[fm,Option.some.injEq,Prod.mk.injEq] at e;obtain⟨rfl,rfl,rfl⟩:=e;obtain⟨h1,h2⟩:=OT (λy n=>hx y (kw _ n)) hd;exact⟨h1.trans j,h2⟩
theorem Vj{h:Hd}{K:CH} : ∀ {R:List Item} {fr aj:Fr} {H H1:CH} {l:List CH},Kc H K->(∀x∈R,cn x.op=false/\kD x.op=false)->cE h R fr H=some (aj,H1,l)->cE h R fr K=some (aj,K,[])
 | [],fr,aj,H,H1,l,_,_,e=>by simp only[cE,Option.some.injEq,Prod.mk.injEq] at e;obtain⟨rfl,rfl,rfl⟩:=e;rfl
 | x::R,fr,aj,H,H1,l,n,hx,e=>by
   simp only[cE] at e⊢
   cases hs:cA h x fr H with
   | none=>rw[hs] at e;cases e
   | some q=>
     obtain⟨f,o⟩:=q;have g:=hx x (np ..);have s:cA h x fr K=some (f,K)/\o=H:=by
      simp only[cA] at hs⊢;split at hs
      ·cases i:x.op with
       | p y=>rw[i] at hs;simp only[eb] at hs⊢;cases hp:pop (aO fr) y<;>rw[hp] at hs<;>simp at hs;simp[hs.1,hs.2]
       | l y=>rw[i] at hs;simp only[eb] at hs⊢;cases hp:bg H (aO fr) y<;>rw[hp] at hs<;>simp at hs;rw[Vg n hp];simp[hs.1,hs.2]
       | a y=>rw[i] at g;cases g.2
       | w y=>rw[i] at g;cases g.1
       | call f a=>rw[i] at g;cases g.1
       | ny f a=>rw[i] at g;cases g.1
      ·cases hs;exact⟨rfl,rfl⟩
      cases hs
     obtain⟨j,rfl⟩:=s;rw[hs] at e;rw[j];simp only[g.1,aM,iF] at e⊢
     cases hd:cE h R f o with
     | none=>rw[hd] at e;cases e
     | some z=>
       obtain⟨a,b,c⟩:=z;rw[hd] at e;simp only[fm,Option.some.injEq,Prod.mk.injEq] at e;obtain⟨rfl,rfl,rfl⟩:=e;rw[Vj n (λy t=>hx y (kw _ t)) hd];rfl
end
section
open Go Go.RowKit
variable {P:aZ} {B:Nat}
structure DS(P:aZ)(N:Nat)(ops:Array cu)(d:je) where
 af:Nat->Item
 ok : ∀i o,ops[i]? = some o->uu P N ops o (af i)
 pJ:List Nat
 rm:d.af=pJ.map af
 mem : ∀i,i∈pJ↔i<ops.size
 pos:Nat->Nat
 sA:pJ.Pairwise (λa b=>pos a<pos b)
 wq : ∀i j,i<ops.size->fV ops i j->j<ops.size/\pos j<pos i
 dd : ∀i j t,i<ops.size->j<ops.size->(af i).dst=some t->(af j).dst=some t->i=j
 d2 : ∀i j t,i<ops.size->j<ops.size->i≠j->(af i).dst=some t->t∈(af j).eN->fV ops j i\/(fV ops i j/\kD (af j).op=false)
 d2' : ∀j t,j<ops.size->kD (af j).op=true->(af j).dst=some t->t∉(af j).eN
 ga : ∀i j t b,i<ops.size->j<ops.size->kD (af i).op=true->(af i).dst=some t->(af j).guard≠some (t,b)
 d4 : ∀i j,i<ops.size->j<ops.size->cn (af j).op=true->pos i<pos j->fV ops j i
 s2 : ∀d i t,d<ops.size->i<ops.size->cn (af d).op=false->kD (af i).op=true->(af i).dst=some t->t∈(af d).eN->∀x,x<ops.size->pos x<pos i->
  (cn (af x).op=true->fV ops d x)/\(kD (af x).op=true->(∃y,y<ops.size/\cn (af y).op=true/\pos x<pos y/\pos y<pos i)\/fV ops d x)
 rk:Nat->Nat
 rk1 : ∀x y,x<ops.size->y<ops.size->cn (af x).op=true->cn (af y).op=true->rk x<rk y->pos x<pos y
 rk2 : ∀x q,x<ops.size->cn (af x).op=true->q<rk x->∃y,y<ops.size/\cn (af y).op=true/\rk y=q
 rk3 : ∀x y,x<ops.size->y<ops.size->cn (af x).op=true->cn (af y).op=true->rk x=rk y->x=y
 lo:Nat->Nat
 hi:Nat->Nat
 lo1 : ∀r q,r<ops.size->q<lo r->∃x,x<ops.size/\cn (af x).op=true/\rk x=q/\fV ops r x
 uA : ∀r x,r<ops.size->x<ops.size->cn (af x).op=true->rk x<hi r\/pos r<pos x
 rd : ∀r x,r<ops.size->(af r).op= .l x->
  (∀x,x<ops.size->pos x<pos r->(cn (af x).op=true->fV ops r x)/\(kD (af x).op=true->(∃y,y<ops.size/\cn (af y).op=true/\pos x<pos y/\fV ops r y)\/∃t,(af x).dst=some t/\t∈(af r).eN))\/
  ((∀t j,t∈(af r).eN->j<ops.size->(af j).dst=some t->fV ops r j)/\∀s,lo r<=s->s<=hi r->(af r,s)∈d.m7)
def DS.ce{P:aZ}{N:Nat}{ops:Array cu}{d:je}(S:DS P N ops d):Prop:=∀Zl,d.wi=some Zl->∀A k R,S.pJ=A++k::R->(∀x∈A,oT (S.af x).op=true)->oT (S.af k).op=false->∃c:List Nat,Zl=c.map (λz=>l7 (S.af z))/\c.Sublist R/\(∀z∈c,oT (l7 (S.af z)).op=true/\∀t,(S.af z).dst=some t->t∉(S.af k).eN)/\∀b∈R,b∈c\/fV ops b k
structure yi(P:aZ)(B N:Nat)(w0:ar)(β:Nat->aB)(fr:Fr)(a:Act)(w:ar)(it:Item)(b:Nat):Prop where
 ex : ∃x cs e k mk cs' hU sz v',it.op= .a x/\ec fr it.guard=some true/\fT (aO fr) x=some (cs,e,k,mk)/\k≠ .ro/\(P.info? e).map (·.size)=some sz/\w.heap[b]? = some (.cells cs' e hU)/\
  cs.length<=cs'.size/\(k= .ex->cs.length=cs'.size)/\(∀(i:Nat) (v:ae),cs[i]? = some v->∃u,cs'[i]? = some u/\VR β v u)/\(zt cs'.size hU)/\
  JI mk b sz k cs'.size v'/\∀t,it.dst=some t->a.tmps.getD t undef=v'
 base:B<=b
 aoS:w0.heap.size<=b
 out:Out β b
structure Core{N:Nat}{ops:Array cu}{d:je}(S:DS P N ops d)(B:Nat)(h:Hd)(β0:Nat->aB)(w0:ar)(fr':Fr)(H':CH)(β:Nat->aB)(fr:Fr)(H:CH)(R:List Nat)(bi:List (Nat×Nat))(l:List CH)(m:Nat)(a:Act)(w:ar):Prop where
 lt : ∀i∈R,i<ops.size
 sA:R.Pairwise (λx y=>S.pos x<S.pos y)
 nY : ∀p∈bi,p.1∈R/\kD (S.af p.1).op=true
 DR : ∀p∈bi,yi P B N w0 β fr a w (S.af p.1) p.2
 GJ:bi.Pairwise (λp q=>p.1≠q.1/\p.2≠q.2)
 zI : ∀p∈bi,∀j,fV ops p.1 j->j∉R\/∃q∈bi,q.1=j
 GK : ∀p∈bi,∀q∈bi,∀t,(S.af q.1).dst=some t->t∉(S.af p.1).eN
 run:cE h (R.map S.af) fr H=some (fr',H',l)
 yj:aN P B β H w
 kC:bD β0 w0 β w
 size:N<=a.tmps.size
 fr : ∀t,(∃p∈bi,(S.af p.1).dst=some t)\/VR β (fr t) (a.tmps.getD t undef)
 done : ∀x,x<ops.size->cn (S.af x).op=true->(x∉R↔S.rk x<m)
 mW : ∀q,q<m->∃y,y<ops.size/\cn (S.af y).op=true/\S.rk y=q
 Bt : ∀y,y<ops.size->cn (S.af y).op=true->y∉R->∀x,x<ops.size->S.pos x<S.pos y->x∉R
 m7 : ∀r∈R,∀s,(S.af r,s)∈d.m7->S.lo r<=s->s<=S.hi r->m<=s->∃G,(H::l)[s-m]? = some G/\wj fr' G (S.af r)
theorem wj.fill{fr:Fr}{G K:CH}{it:Item}(h:wj fr G it)(c:Kc G K):wj fr K it:=by
 rcases h with h | ⟨x,d,h1,h2,h3⟩
 ·exact .inl h
 exact .inr ⟨x,d,h1,h2,Vg c h3⟩
theorem Vk{P:aZ}{B:Nat}{β:Nat->aB}{H:CH}{w:ar}(h:aN P B β H w)(o:dm):Kc H (H.new o):=λl hl=>by
 have:l≠H.nx:=λg=>by
  rw[g,h.nx _ (ag _)] at hl;rcases hl with ⟨_,_,_,hl⟩ | ⟨_,_,hl⟩<;>cases hl
 simp[CH.new,this]
theorem yi.cX{N:Nat}{w0:ar}{β β':Nat->aB}{fr aX:Fr}{a a':Act}{w w':ar}{it:Item}{b:Nat}(h:yi P B N w0 β fr a w it b)(hx:eU β β')(hw:w'.heap[b]? = w.heap[b]?)(ho:Out β' b)(c : ∀t∈it.eN,aX t=fr t)(ha : ∀t,it.dst=some t->a'.tmps.getD t undef=a.tmps.getD t undef) :
 yi P B N w0 β' aX a' w' it b:=by
 obtain⟨⟨x,cs,e,k,mk,cs',hU,sz,v',h1,h2,h3,h4,h5,f,g,j,n,o,s,y⟩,hb,z,_⟩:=h;refine⟨⟨x,cs,e,k,mk,cs',hU,sz,v',h1,?_,?_,h4,h5,hw.trans f,g,j,λi v hv=>let ⟨u,p,q⟩:=n i v hv;⟨u,p,q.mono hx⟩,o,s,λt ht=>(ha t ht).trans (y t ht)⟩,hb,z,ho⟩;·rw[ye c];exact h2
 rw[GF (yd λt ht=>c t (by simp only[Item.eN,h1,fo];exact .inl ht))];exact h3
theorem yk{α:Type}{r:α->α->Prop}{R1 R2:List α}{i:α}(h:(R1++i::R2).Pairwise r):(∀x∈R1,r x i)/\(∀x∈R2,r i x)/\(R1++R2).Pairwise r:=by
 rw[List.pairwise_append] at h;obtain⟨h1,h2,h3⟩:=h;rw[NE] at h2;refine⟨λx hx=>h3 x hx i (np ..),h2.1,?_⟩;rw[List.pairwise_append];exact⟨h1,h2.2,λx hx y c=>h3 x hx y (kw _ c)⟩
theorem Core.catch{N:Nat}{ops:Array cu}{d:je}{S:DS P N ops d}{h:Hd}{β0:Nat->aB}{w0:ar}{fr':Fr}{H':CH}{β:Nat->aB}{fr:Fr}{H:CH}{R1 R2:List Nat}{i b:Nat}{bi:List (Nat×Nat)}{l:List CH}{m:Nat}{a:Act}{w:ar}
 (C:Core S B h β0 w0 fr' H' β fr H (R1++i::R2) bi l m a w) (hl:(i,b)∈bi) (U : ∀x∈R1,cn (S.af x).op=false/\kD (S.af x).op=false) :
 ∃β2 aX H2 V,Core S B h β0 w0 fr' H' β2 aX H2 (R1++R2) V l m a w/\(∀p,p∈V↔p∈bi/\p.1≠i)/\V.length<bi.length:=by
 obtain⟨p1,p2,p3⟩:=yk C.sA;have hi:i<ops.size:=C.lt i s0;have W:kD (S.af i).op=true:=(C.nY _ hl).2;have X:cn (S.af i).op=false:=by cases bS:(S.af i).op<;>rw[bS] at W<;>first | rfl | cases W
 obtain⟨⟨x,cs,e,k,mk,cs',hU,sz,v',h1,h2,h3,h4,h5,h6,h7,h8,h9,jw,Y,wu⟩,Z,JK,gF⟩:=C.DR _ hl;have aY:=C.run;rw[ql,dk] at aY;obtain⟨aj,H1,l1,l2,g1,F,rfl⟩:=Kb aY;obtain⟨rfl,rfl⟩:=OT (λy o=>by obtain⟨z,hz,rfl⟩:=List.mem_map.1 o;exact U z hz) g1;have O : ∀z∈R1++R2,z≠i:=λz hz e=>by
  subst e;rcases List.mem_append.1 hz with hz | hz
  ·exact absurd (p1 z hz) (Dc _)
  exact absurd (p2 z hz) (Dc _)
 have bn : ∀z∈R1++R2,z<ops.size:=λz hz=>C.lt z (by rcases List.mem_append.1 hz with hz | hz<;>simp[hz]);have aey : ∀z∈R1,¬ ∃q∈bi,q.1=z:=λz hz ⟨q,yn,yo⟩=>by
  have:=(C.nY q yn).2;rw[yo,(U z hz).2] at this;cases this
 have iK : ∀z∈R1,¬fV ops i z:=λz hz ha=>by
  rcases C.zI _ hl z ha with g | g
  ·exact g (by simp[hz])
  exact aey z hz g
 have zK : ∀t∈(S.af i).eN,aj t=fr t:=λt ht=>by
  refine Bs (λy o e=> ?_) g1;obtain⟨z,hz,rfl⟩:=List.mem_map.1 o;have I:=bn z (by simp[hz]);rcases S.d2 z i t I hi (O z (by simp[hz])) e ht with q | ⟨q,q'⟩
  ·exact iK z hz q
  rw[W] at q';cases q'
 have DU : ∀y∈R1.map S.af,∀t,(S.af i).dst=some t->t∉y.eN/\y.dst≠some t:=λy o t ht=>by
  obtain⟨z,hz,rfl⟩:=List.mem_map.1 o;have I:=bn z (by simp[hz]);refine⟨λhu=> ?_,λe=>O z (by simp[hz]) (S.dd _ _ t I hi e ht)⟩;rcases S.d2 i z t hi I (λe=>O z (by simp[hz]) e.symm) ht hu with q | ⟨q,_⟩
  ·exact absurd (S.wq _ _ I q).2 (by have:=p1 z hz;omega)
  exact iK z hz q
 have GM : ∀f:Fr,(∀t∈(S.af i).eN,f t=fr t)->cA h (S.af i) f H1=some (bE f (S.af i).dst (kz mk H1.nx),H1.new (.cells cs e k)):=λf hf=>by
  have hw:ec f (S.af i).guard=some true:=by rw[ye hf];exact h2
  have ha:fT (aO f) x=some (cs,e,k,mk):=by
   rw[GF (yd λt ht=>hf t (by simp only[Item.eN,h1,fo];exact .inl ht))];exact h3
  simp only[cA,hw,h1,eb,ha,fm]
 have Gc:=GM aj zK;simp only[cE,Gc,X,aM,iF] at F;have g2':cE h (R2.map S.af) (bE aj (S.af i).dst (kz mk H1.nx)) (H1.new (.cells cs e k))=some (fr',H',l2):=by
  cases hz:cE h (R2.map S.af) (bE aj (S.af i).dst (kz mk H1.nx)) (H1.new (.cells cs e k)) with
  | none=>rw[hz] at F;cases F
  | some z=>obtain⟨v,J,z3⟩:=z;rw[hz] at F;simpa using F
 have Bu:cE h ((R1++R2).map S.af) (bE fr (S.af i).dst (kz mk H1.nx)) (H1.new (.cells cs e k))=some (fr',H',[]++l2):=by
  rw[ql];exact OQ (Vj (Vk C.yj _) (λy o=>by obtain⟨z,hz,rfl⟩:=List.mem_map.1 o;exact U z hz) (OP DU g1)) g2'
 obtain⟨q1,q2,q3⟩:=C.yj.aew h6 Z gF h4 h5 h7 h8 h9 jw;have A : ∀p,p∈bi.filter (λp=>decide (p.1≠i))↔p∈bi/\p.1≠i:=λp=>by simp[List.mem_filter]
 refine⟨dR β H1.nx (.live (b,0) sz cs'.size k),bE fr (S.af i).dst (kz mk H1.nx),H1.new (.cells cs e k),bi.filter (λp=>decide (p.1≠i)),?_,A,List.length_filter_lt_length_iff_exists.2 ⟨_,hl,s0⟩⟩;have aez : ∀p∈bi,p.1≠i->p.2≠b:=λp hp av e=>by
  have key : ∀(L:List (Nat×Nat)),L.Pairwise (λp q=>p.1≠q.1/\p.2≠q.2)->p∈L->(i,b)∈L->False:=by
   intro L;induction L with
   | nil=>intro _ hp;cases hp
   | cons y L ih=>
     intro M hp Vl;rw[NE] at M;rcases List.mem_cons.1 hp with rfl | lI
     ·rcases List.mem_cons.1 Vl with e' | OU
      ·exact av (by rw[<-e'])
      exact(M.1 _ OU).2 e
     rcases List.mem_cons.1 Vl with e' | OU
     ·rw[<-e'] at M;exact(M.1 _ lI).2 e.symm
     exact ih M.2 lI OU
  exact key bi C.GJ hp hl
 refine⟨bn,p3,λp hp=> ?_,λp hp=> ?_,C.GJ.filter _,λp hp j hj=> ?_,λp hp q GO t ht=> ?_,Bu,q1,?_,C.size,λt=> ?_,λy o D=> ?_,C.mW,λy o D zM z hz GP=> ?_,λr hr s hs c1 c2 c3=> ?_⟩
 ·obtain⟨u,lI⟩:=(A p).1 hp;refine⟨?_,(C.nY p u).2⟩;have:=(C.nY p u).1;simp only[fo,js] at this⊢
  rcases this with g | g | g
  ·exact .inl g
  ·exact absurd g lI
  exact .inr g
 ·obtain⟨u,lI⟩:=(A p).1 hp;refine(C.DR p u).cX q2 rfl (q3 _ (aez p u lI) (C.DR p u).out) (λt ht=>yf λe=>C.GK p u _ hl t e ht) (λt ht=>rfl)
 ·obtain⟨u,lI⟩:=(A p).1 hp;rcases C.zI p u j hj with g | ⟨q,yn,rfl⟩
  ·exact .inl λzN=>g (by rcases List.mem_append.1 zN with zN | zN<;>simp[zN])
  by_cases e:q.1=i
  ·refine .inl λzN=>O _ zN e
  exact .inr ⟨q,(A q).2 ⟨yn,e⟩,rfl⟩
 ·exact C.GK p ((A p).1 hp).1 q ((A q).1 GO).1 t ht
 ·refine⟨C.kC.os,C.kC.tape,C.kC.output,C.kC.size,λb' fC dS=> ?_,C.kC.ext.trans q2⟩;obtain⟨r1,r2⟩:=C.kC.cX b' fC dS;exact⟨r1,q3 b' Om r2⟩
 ·by_cases Q:(S.af i).dst=some t
  ·right;rw[Q];simp only[bE,iT];rw[wu t Q];cases mk with
   | ptr=>simp only[JI] at Y;subst Y;exact .ptr fa
   | sl n c=>
     obtain⟨c',rfl,v,J,z3,z4,z5⟩:=Y;exact .sl fa v J z3 (λ_=>by simpa using z4) z5
  rw[yf Q];rcases C.fr t with ⟨p,u,lI⟩ | g
  ·left;refine⟨p,(A p).2 ⟨u,λe=>Q (by rw[<-e];exact lI)⟩,lI⟩
  exact .inr (g.mono q2)
 ·have OV:y≠i:=λe=>by rw[e,X] at D;cases D
  rw[<-C.done y o D];simp only[fo,js,OV,false_or]
 ·have OV:y≠i:=λe=>by rw[e,X] at D;cases D
  have:=C.Bt y o D (by simp only[fo,js,OV,false_or] at zM⊢;exact zM) z hz GP;intro g;exact this (by rcases List.mem_append.1 g with g | g<;>simp[g])
 obtain⟨G,v,J⟩:=C.m7 r (by rcases List.mem_append.1 hr with hr | hr<;>simp[hr]) s hs c1 c2 c3;cases yp:s-m with
 | zero=>
   rw[yp] at v;simp only[Jn,Option.some.injEq] at v⊢;subst v;exact⟨_,rfl,J.fill (Vk C.yj _)⟩
 | succ q=>
   rw[yp] at v;simp only[FI] at v⊢;exact⟨G,v,J⟩
def Ex (R:List Nat)(bi:List (Nat×Nat))(j:Nat):Prop:=j∉R\/∃q∈bi,q.1=j
section
variable {N:Nat} {ops:Array cu} {d:je} {S:DS P N ops d} {h:Hd} {β0:Nat->aB} {w0:ar} {fr':Fr} {H':CH} {β:Nat->aB} {fr:Fr} {H:CH} {R:List Nat} {bi:List (Nat×Nat)} {l:List CH} {m:Nat} {a:Act} {w:ar}
theorem OW{R1 R2:List Nat}{i b:Nat}{n:List (Nat×Nat)}(s:i∉R1++R2)(hl:(i,b)∈bi)(o : ∀p,p∈n↔p∈bi/\p.1≠i)(j:Nat):Ex (R1++R2) n j↔Ex (R1++i::R2) bi j:=by
 unfold Ex;by_cases e:j=i
 ·subst e;exact⟨λ_=> .inr ⟨_,hl,rfl⟩,λ_=> .inl s⟩
 constructor
 ·rintro(g | ⟨q,f,rfl⟩)
  ·refine .inl λc=>g ?_;simp only[fo,js,e,false_or] at c⊢;exact c
  exact .inr ⟨q,((o q).1 f).1,rfl⟩
 rintro(g | ⟨q,f,rfl⟩)
 ·refine .inl λc=>g ?_;simp only[fo,js,e,false_or] at c⊢;exact c
 exact .inr ⟨q,(o q).2 ⟨f,e⟩,rfl⟩
theorem Core.yq{R1 R2:List Nat}{i:Nat}(C:Core S B h β0 w0 fr' H' β fr H (R1++i::R2) bi l m a w):i∉R1++R2:=λc=>by
 obtain⟨e,f,_⟩:=yk C.sA;rcases List.mem_append.1 c with g | g
 ·exact absurd (e i g) (Dc _)
 exact absurd (f i g) (Dc _)
theorem Core.zO(C:Core S B h β0 w0 fr' H' β fr H R bi l m a w){x:Nat}(hx:cn (S.af x).op=true) : ¬ ∃q∈bi,q.1=x:=λ⟨q,c,e⟩=>by
 have:=(C.nY q c).2;rw[e] at this;cases f:(S.af x).op<;>rw[f] at hx this<;>first | (cases hx;done) | (cases this;done)
theorem Vm{p:Nat->Bool} : ∀ {l:List Nat},(∃z∈l,p z=true)->∃c z e,l=c++z::e/\p z=true/\∀y∈c,p y=false
 | [],h=>by obtain⟨z,hz,_⟩:=h;cases hz
 | a::l,h=>by
   cases ha:p a with
   | true=>exact⟨[],a,l,rfl,ha,λy hy=>by cases hy⟩
   | false=>
     have : ∃z∈l,p z=true:=by
      obtain⟨z,hz,h2⟩:=h;rcases List.mem_cons.1 hz with rfl | hz
      ·rw[ha] at h2;cases h2
      exact⟨z,hz,h2⟩
     obtain⟨c,z,e,rfl,h1,h2⟩:=Vm this;refine⟨a::c,z,e,rfl,h1,λy hy=> ?_⟩;rcases List.mem_cons.1 hy with rfl | hy
     ·exact ha
     exact h2 y hy
theorem Core.feed : ∀(n:Nat) {β:Nat->aB} {fr:Fr} {H:CH} {R:List Nat} {bi:List (Nat×Nat)},bi.length<=n->∀(C:Core S B h β0 w0 fr' H' β fr H R bi l m a w) {i:Nat},i<ops.size->cn (S.af i).op=false->i∈R->(¬ ∃q∈bi,q.1=i)->(∀j,fV ops i j->Ex R bi j)->
 ∃β2 aX Q R2 v,Core S B h β0 w0 fr' H' β2 aX Q R2 v l m a w/\(∀j,Ex R2 v j↔Ex R bi j)/\i∈R2/\(∀q∈v,∀t,(S.af q.1).dst=some t->t∉(S.af i).eN):=by
 intro n;induction n with
 | zero=>
   intro β fr H R bi hn C i hi J f A s;have:bi= []:=List.length_eq_zero_iff.1 Om;subst this;exact⟨β,fr,H,R,[],C,λ_=>fI,f,λq o=>by cases o⟩
 | succ n ih=>
   intro β fr H R bi hn C i hi J f A s;by_cases hex : ∃q∈bi,∃t,(S.af q.1).dst=some t/\t∈(S.af i).eN
   ·obtain⟨⟨x,b⟩,o,t,ht,hu⟩:=hex;obtain⟨U,Vn⟩:=C.nY _ o;simp only at U Vn ht;have hx:=C.lt x U;obtain⟨c,R2,rfl⟩:=NF U;have V:=S.s2 i x t hi hx J Vn ht hu;obtain⟨p1,p2,_⟩:=yk C.sA;have Vo : ∀z∈c,cn (S.af z).op=false:=λz hz=>by
     have u:z∈c++x::R2:=by simp[hz]
     have L:=C.lt z u;cases GQ:cn (S.af z).op with
     | false=>rfl
     | true=>
       rcases s z ((V z L (p1 z hz)).1 GQ) with g | g
       ·exact absurd u g
       exact absurd g (C.zO GQ)
    have W : ∀z∈c,kD (S.af z).op=true->∃q∈bi,q.1=z:=λz hz D=>by
     have u:z∈c++x::R2:=by simp[hz]
     have L:=C.lt z u;rcases(V z L (p1 z hz)).2 D with ⟨y,y1,X,y3,y4⟩ | ha
     ·have M:y∉c++x::R2:=by
       rcases s y ((V y y1 y4).1 X) with g | g
       ·exact g
       exact absurd g (C.zO X)
      exact absurd u (C.Bt y y1 X M z L y3)
     rcases s z ha with g | g
     ·exact absurd u g
     exact g
    by_cases Vp : ∃z∈c,kD (S.af z).op=true
    ·obtain⟨O,z,Y,rfl,D,xW⟩:=Vm (p:=λz=>kD (S.af z).op) Vp;obtain⟨⟨Z,b'⟩,GO,tw⟩:=W z s0 D;simp only at tw;subst tw;have hRe:(O++Z::Y)++x::R2=O++Z::(Y++x::R2):=by simp
     rw[hRe] at C f s⊢
     have GR : ∀y∈O,cn (S.af y).op=false/\kD (S.af y).op=false:=λy M=>⟨Vo y (by simp[M]),xW y M⟩;obtain⟨β2,aX,Q,v,C2,F,G⟩:=C.catch GO GR;have I:=λj=>OW (R1:=O) (R2:=Y++x::R2) C.yq GO F j;have Bc:i≠Z:=λe=>A ⟨_,GO,e.symm⟩;obtain⟨β3,uw,H3,R3,GS,C3,e3,m3,f3⟩:=ih Om C2 hi J (by simp only[fo,js,Bc,false_or] at f⊢;exact f) (λ⟨q,q1,q2⟩=>A ⟨q,((F q).1 q1).1,q2⟩) (λj hj=>(I j).2 (s j hj));exact⟨β3,uw,H3,R3,GS,C3,λj=>(e3 j).trans (I j),m3,f3⟩
    have GR : ∀z∈c,cn (S.af z).op=false/\kD (S.af z).op=false:=λz hz=>⟨Vo z hz,by
     cases D:kD (S.af z).op with
     | false=>rfl
     | true=>exact absurd ⟨z,hz,D⟩ Vp⟩
    obtain⟨β2,aX,Q,v,C2,F,G⟩:=C.catch o GR;have I:=λj=>OW (R1:=c) (R2:=R2) C.yq o F j;have Bc:i≠x:=λe=>A ⟨_,o,e.symm⟩;obtain⟨β3,uw,H3,R3,GS,C3,e3,m3,f3⟩:=ih Om C2 hi J (by simp only[fo,js,Bc,false_or] at f⊢;exact f) (λ⟨q,q1,q2⟩=>A ⟨q,((F q).1 q1).1,q2⟩) (λj hj=>(I j).2 (s j hj));exact⟨β3,uw,H3,R3,GS,C3,λj=>(e3 j).trans (I j),m3,f3⟩
   exact⟨β,fr,H,R,bi,C,λ_=>fI,f,λq o t ht hu=>hex ⟨q,o,t,ht,hu⟩⟩
theorem Core.front : ∀(R1:List Nat) {R2:List Nat} {i:Nat} {β:Nat->aB} {fr:Fr} {H:CH} {bi:List (Nat×Nat)} (C:Core S B h β0 w0 fr' H' β fr H (R1++i::R2) bi l m a w),(∀x∈R1,∃q∈bi,q.1=x)->
 ∃β2 aX g c,Core S B h β0 w0 fr' H' β2 aX g (i::R2) c l m a w/\(∀j,Ex (i::R2) c j↔Ex (R1++i::R2) bi j)
 | [],R2,i,β,fr,H,bi,C,_=>⟨β,fr,H,bi,C,λ_=>fI⟩
 | x::R1,R2,i,β,fr,H,bi,C,hx=>by
   obtain⟨⟨x',b⟩,n,rfl⟩:=hx x (np ..);have f:Core S B h β0 w0 fr' H' β fr H ([]++x'::(R1++i::R2)) bi l m a w:=C;obtain⟨β2,aX,g,c,t,o,p⟩:=f.catch n (λz hz=>by cases hz);have u:=λj=>OW (R1:= []) (R2:=R1++i::R2) f.yq n o j;have v:=f.yq;obtain⟨β3,y,A,D,F,G⟩:=Core.front R1 t (λz hz=>by
    obtain⟨q,I,s⟩:=hx z (kw _ hz);exact⟨q,(o q).2 ⟨I,λe=>v (by rw[<-e,s];simp[hz])⟩,s⟩)
   exact⟨β3,y,A,D,F,λj=>(G j).trans (u j)⟩
end
end
section
open Go Go.RowKit
variable {P:aZ} {B:Nat}
section
variable {N:Nat} {ops:Array cu} {d:je} {S:DS P N ops d} {h:Hd} {β0:Nat->aB} {w0:ar} {fr':Fr} {H':CH} {β:Nat->aB} {fr:Fr} {H:CH} {R:List Nat} {bi:List (Nat×Nat)} {l:List CH} {m:Nat} {a:Act} {w:ar}
open Classical in
noncomputable def patch(S:DS P N ops d)(bi:List (Nat×Nat))(fr:Fr):Fr:=λt=>if ∃q∈bi,(S.af q.1).dst=some t then undef else fr t
theorem Core.Vq(C:Core S B h β0 w0 fr' H' β fr H R bi l m a w):FR β N (patch S bi fr) a:=by
 refine⟨C.size,λt=> ?_⟩;unfold patch;split;·exact .undef _
 rename_i hn;rcases C.fr t with g | g
 ·exact absurd g hn
 exact g
theorem Vr{i:Nat}(c : ∀q∈bi,∀t,(S.af q.1).dst=some t->t∉(S.af i).eN) : ∀t∈(S.af i).eN,fr t=patch S bi fr t:=by
 intro t ht;unfold patch;rw[iN];rintro⟨q,f,e⟩;exact c q f t e ht
theorem Core.quiet(C:Core S B h β0 w0 fr' H' β fr H R bi l m a w){i:Nat}(hi:i<ops.size)(m8:i∈R)(iw : ¬ ∃q∈bi,q.1=i)(F:cn (S.af i).op=false)(zJ:kD (S.af i).op=false\/ec fr (S.af i).guard=some false)
 (V : ∀j,fV ops i j->Ex R bi j) (yt : ∀q∈bi,∀t,(S.af q.1).dst=some t->t∉(S.af i).eN) :
 ∃R1 R2 v,R=R1++i::R2/\cA h (S.af i) fr H=some (bE fr (S.af i).dst v,H)/\cE h ((R1++R2).map S.af) (bE fr (S.af i).dst v) H=some (fr',H',l):=by
 obtain⟨R1,R2,rfl⟩:=NF m8;obtain⟨W,p2,p3⟩:=yk C.sA;have O : ∀z∈R1++R2,z≠i:=λz hz e=>C.yq (e▸hz);have X : ∀z∈R1++R2,z<ops.size:=λz hz=>C.lt z (by rcases List.mem_append.1 hz with hz | hz<;>simp[hz]);have Vs : ∀z∈R1,z∈R1++i::R2:=λz hz=>by simp[hz]
 have Y : ∀z∈R1,fV ops i z->∃q∈bi,q.1=z:=λz hz ha=>by
  rcases V z ha with g | g
  ·exact absurd (Vs z hz) g
  exact g
 have aY:=C.run;rw[ql,dk] at aY;obtain⟨aj,H1,l1,l2,g1,s,rfl⟩:=Kb aY;have zK : ∀t∈(S.af i).eN,aj t=fr t:=λt ht=>by
  refine Bs (λy c e=> ?_) g1;obtain⟨z,hz,rfl⟩:=List.mem_map.1 c;have n:=X z (by simp[hz]);rcases S.d2 z i t n hi (O z (by simp[hz])) e ht with q | ⟨q,_⟩
  ·obtain⟨I,J,L⟩:=Y z hz q;exact yt I J t (by rw[L];exact e) ht
  exact absurd (S.wq _ _ n q).2 (by have:=W z hz;omega)
 have DU : ∀y∈R1.map S.af,∀t,(S.af i).dst=some t->t∉y.eN/\y.dst≠some t:=λy c t ht=>by
  obtain⟨z,hz,rfl⟩:=List.mem_map.1 c;have n:=X z (by simp[hz]);refine⟨λhu=> ?_,λe=>O z (by simp[hz]) (S.dd _ _ t n hi e ht)⟩;rcases S.d2 i z t hi n (λe=>O z (by simp[hz]) e.symm) ht hu with q | ⟨q,qa⟩
  ·exact absurd (S.wq _ _ n q).2 (by have:=W z hz;omega)
  obtain⟨I,J,L⟩:=Y z hz q;have:=(C.nY I J).2;rw[L,qa] at this;cases this
 have tD:ec aj (S.af i).guard=ec fr (S.af i).guard:=ye zK;simp only[cE] at s;cases hs:cA h (S.af i) aj H1 with
 | none=>rw[hs] at s;cases s
 | some q=>
   obtain⟨f,K⟩:=q;rw[hs] at s;simp only[F,aM,iF] at s;have g3:cE h (R2.map S.af) f K=some (fr',H',l2):=by
    cases hz:cE h (R2.map S.af) f K with
    | none=>rw[hz] at s;cases s
    | some z=>obtain⟨Z,D,z3⟩:=z;rw[hz] at s;simpa using s
   have fin : ∀v,f=bE aj (S.af i).dst v->K=H1->cA h (S.af i) fr H=some (bE fr (S.af i).dst v,H)->∃Q U v,R1++i::R2=Q++i::U/\cA h (S.af i) fr H=some (bE fr (S.af i).dst v,H)/\cE h ((Q++U).map S.af) (bE fr (S.af i).dst v) H=some (fr',H',l1++l2):=by
    intro v e1 e2 e3;subst e1 e2;refine⟨R1,R2,v,rfl,e3,?_⟩;rw[ql];exact OQ (OP DU g1) g3
   simp only[cA] at hs;cases hw:ec fr (S.af i).guard with
   | none=>rw[tD,hw] at hs;cases hs
   | some b=>
     rw[tD,hw] at hs;cases b with
     | false=>
       simp only[Option.some.injEq,Prod.mk.injEq] at hs;exact fin jH hs.1.symm hs.2.symm (by simp only[cA,hw])
     | true=>
       have hA:kD (S.af i).op=false:=by
        rcases zJ with g | g
        ·exact g
        rw[hw] at g;cases g
       simp only at hs;cases o:(S.af i).op with
       | a x=>rw[o] at hA;cases hA
       | w x=>rw[o] at F;cases F
       | call f a=>rw[o] at F;cases F
       | ny f a=>rw[o] at F;cases F
       | p x=>
         rw[o] at hs;simp only[eb] at hs;cases hp:pop (aO aj) x with
         | none=>rw[hp] at hs;cases hs
         | some u=>
           rw[hp] at hs;simp only[fm,Option.some.injEq,Prod.mk.injEq] at hs;have lI:pop (aO fr) x=some u:=by
            rw[<-hp];exact Ve (yd λt ht=>(zK t (by simp only[Item.eN,o,fo];exact .inl ht)).symm)
           exact fin u hs.1.symm hs.2.symm (by simp only[cA,hw,o,eb,lI,fm])
       | l x=>
         rw[o] at hs;simp only[eb] at hs;cases hp:bg H1 (aO aj) x with
         | none=>rw[hp] at hs;cases hs
         | some u=>
           rw[hp] at hs;simp only[fm,Option.some.injEq,Prod.mk.injEq] at hs;have Vt : ∀(f:Fr) (G:CH),(∀t∈(S.af i).eN,f t=fr t)->bg G (aO f) x=bg G (aO fr) x:=λf G hf=>
            Vf (yd λt ht=>hf t (by simp only[Item.eN,o,fo];exact .inl ht))
           have lI:bg H (aO fr) x=some u:=by
            rcases S.rd i x hi o with aeA | ⟨c1,c2⟩
            ·have GR : ∀z∈R1,cn (S.af z).op=false/\kD (S.af z).op=false:=λz hz=>by
              have n:=X z (by simp[hz]);obtain⟨s1,s2⟩:=aeA z n (W z hz);refine⟨?_,?_⟩
              ·cases GQ:cn (S.af z).op with
               | false=>rfl
               | true=>exact absurd (Y z hz (s1 GQ)) (C.zO GQ)
              cases Bv:kD (S.af z).op with
              | false=>rfl
              | true=>
                rcases s2 Bv with ⟨y,M,A,y3,y4⟩ | ⟨t,t1,t2⟩
                ·have c:y∉R1++i::R2:=by
                  rcases V y y4 with g | g
                  ·exact g
                  exact absurd g (C.zO A)
                 exact absurd (Vs z hz) (C.Bt y M A c z n y3)
                rcases S.d2 z i t n hi (O z (by simp[hz])) t1 t2 with q | ⟨q,_⟩
                ·obtain⟨I,J,L⟩:=Y z hz q;exact absurd t2 (yt I J t (by rw[L];exact t1))
                exact absurd (S.wq _ _ n q).2 (by have:=W z hz;omega)
             obtain⟨e1,_⟩:=OT (λy c=>by obtain⟨z,hz,rfl⟩:=List.mem_map.1 c;exact GR z hz) g1;rw[<-Vt aj H zK,<-e1];exact hp
            have rp:S.lo i<=m:=by
             rcases pv m (S.lo i) with g | g
             ·obtain⟨y,M,A,y3,y4⟩:=S.lo1 i m hi g;have c:y∉R1++i::R2:=by
               rcases V y y4 with g | g
               ·exact g
               exact absurd g (C.zO A)
              have:=(C.done y M A).1 c;omega
             exact g
            have yu:m<=S.hi i:=by
             rcases pv (S.hi i) m with g | g
             ·obtain⟨y,M,A,y3⟩:=C.mW _ g;have c:y∉R1++i::R2:=(C.done y M A).2 Om;rcases S.uA i y hi M A with q | q
              ·omega
              exact absurd m8 (C.Bt y M A c i hi q)
             exact g
            obtain⟨G,Z,D⟩:=C.m7 i m8 m (c2 m rp yu) rp yu (ag m);rw[Nat.sub_self] at Z;simp only[Jn,Option.some.injEq] at Z;subst Z;have mG : ∀t∈(S.af i).eN,fr' t=fr t:=λt ht=>by
             refine Bs (λy c e=> ?_) C.run;obtain⟨z,hz,rfl⟩:=List.mem_map.1 c;have n:=C.lt z hz;have ha:=c1 t z ht n e;rcases V z ha with g | ⟨I,J,L⟩
             ·exact g hz
             exact yt I J t (by rw[L];exact e) ht
            have DW:ec fr' (S.af i).guard=some true:=by rw[ye mG];exact hw
            rcases D with D | ⟨x',d',D,z3,z4⟩
            ·rw[DW] at D;cases D
            rw[o] at D;cases D;rw[Vt fr' H mG] at z4;rw[z4];have:fr' d'=u:=by
             rw[Bs (t:=d') (λy c e=> ?_) g3,<-hs.1,z3];·simp[bE]
             obtain⟨z,hz,rfl⟩:=List.mem_map.1 c;exact O z (by simp[hz]) (S.dd _ _ d' (X z (by simp[hz])) hi e z3)
            rw[this]
           exact fin u hs.1.symm hs.2.symm (by simp only[cA,hw,o,eb,lI,fm])
end
end
section
open Go Go.RowKit
variable {P:aZ} {B:Nat}
section
variable {N:Nat} {ops:Array cu} {d:je} {S:DS P N ops d} {h:Hd} {β0:Nat->aB} {w0:ar} {fr':Fr} {H':CH} {β:Nat->aB} {fr:Fr} {H:CH} {R:List Nat} {bi:List (Nat×Nat)} {l:List CH} {m:Nat} {a:Act} {w:ar}
theorem yi.lt{N:Nat}{it:Item}{b:Nat}(h:yi P B N w0 β fr a w it b):b<w.heap.size:=by
 obtain⟨_,_,_,_,_,_,_,_,_,_,_,_,_,_,c,_⟩:=h.ex;exact(Array.getElem?_eq_some_iff.1 c).1
theorem OX{a:Act}{d:Option Nat}{v:ae}{t:Nat}(h:d≠some t):(a.put d v).tmps.getD t undef=a.tmps.getD t undef:=by
 cases d with
 | none=>rfl
 | some x=>
   have av:x≠t:=λe=>h (by rw[e]);simp only[Act.put,mR,Tn av]
theorem Core.Vu(C:Core S B h β0 w0 fr' H' β fr H R bi l m a w){i:Nat}(hi:i<ops.size)(o:i∈R)(j : ¬ ∃q∈bi,q.1=i){β':Nat->aB}{w':ar}{v v':ae}(hx:eU β β')(hk : ∀b,b<w.heap.size->Out β b->w'.heap[b]? = w.heap[b]? /\Out β' b) :
 ∀p∈bi,yi P B N w0 β' (bE fr (S.af i).dst v) (a.put (S.af i).dst v') w' (S.af p.1) p.2:=λp hp=>by
 have c:=C.DR p hp;obtain⟨k1,s⟩:=hk _ c.lt c.out;obtain⟨u,f⟩:=C.nY p hp;have n:=C.lt _ u;have av:p.1≠i:=λe=>j ⟨p,hp,e⟩;refine c.cX hx k1 s (λt ht=>yf λe=> ?_) (λt ht=>OX λe=>av (S.dd _ _ t n hi ht e));rcases S.d2 i p.1 t hi n av.symm e ht with q | ⟨_,q⟩
 ·rcases C.zI p hp i q with g | g
  ·exact g o
  exact j g
 rw[f] at q;cases q
theorem Core.Vv(C:Core S B h β0 w0 fr' H' β fr H R bi l m a w){i:Nat}{β':Nat->aB}{v:ae}{a':Act}(c:FR β' N (bE (patch S bi fr) (S.af i).dst v) a') :
 ∀t,(∃p∈bi,(S.af p.1).dst=some t)\/VR β' (bE fr (S.af i).dst v t) (a'.tmps.getD t undef):=λt=>by
 by_cases hl : ∃p∈bi,(S.af p.1).dst=some t
 ·exact .inl hl
 right;have:=c.2 t;by_cases e:(S.af i).dst=some t
 ·rw[e] at this⊢
  simpa only[bE,iT] using this
 rw[yf e] at this⊢;unfold patch at this;rwa [iN hl] at this
theorem Core.aeB{R1 R2:List Nat}{i:Nat}(C:Core S B h β0 w0 fr' H' β fr H (R1++i::R2) bi l m a w)(o : ¬ ∃q∈bi,q.1=i)(x:cn (S.af i).op=false){v v':ae}{β':Nat->aB}{w':ar}
 (A:cE h ((R1++R2).map S.af) (bE fr (S.af i).dst v) H=some (fr',H',l)) (D:aN P B β' H w') (hE:bD β w β' w') (t:FR β' N (bE (patch S bi fr) (S.af i).dst v) (a.put (S.af i).dst v')) :
 Core S B h β0 w0 fr' H' β' (bE fr (S.af i).dst v) H (R1++R2) bi l m (a.put (S.af i).dst v') w':=by
 obtain⟨U,V,F⟩:=yk C.sA;have hi:i<ops.size:=C.lt i s0;have sub : ∀z,z∈R1++R2->z∈R1++i::R2:=λz hz=>by rcases List.mem_append.1 hz with hz | hz<;>simp[hz]
 have c : ∀z,z≠i->(z∈R1++R2↔z∈R1++i::R2):=λz hz=>by simp only[fo,js,hz,false_or]
 have u : ∀y,cn (S.af y).op=true->y≠i:=λy f e=>by rw[e,x] at f;cases f
 refine⟨λz hz=>C.lt z (sub z hz),F,λp hp=> ?_,C.Vu hi s0 o hE.ext hE.cX,C.GJ,λp hp j G=> ?_,C.GK,A,D,C.kC.trans hE,t.1,C.Vv t,λy f n=> ?_,C.mW,λy f n I z hz J g=> ?_,λr L s hs M O Q=>C.m7 r (sub r L) s hs M O Q⟩;·exact⟨(c _ λe=>o ⟨p,hp,e⟩).2 (C.nY p hp).1,(C.nY p hp).2⟩
 ·rcases C.zI p hp j G with g | g
  ·exact .inl λq=>g (sub _ q)
  exact .inr g
 ·rw[<-C.done y f n,c y (u y n)]
 exact C.Bt y f n (λq=>I ((c y (u y n)).2 q)) z hz J (sub z g)
theorem Core.aeC{i:Nat}(C:Core S B h β0 w0 fr' H' β fr H R bi l m a w)(hi:i<ops.size)(x:i∈R)(s : ¬ ∃q∈bi,q.1=i)(y:kD (S.af i).op=true)(A : ∀j,fV ops i j->Ex R bi j)(D : ∀q∈bi,∀t,(S.af q.1).dst=some t->t∉(S.af i).eN)
 {v':ae} {w':ar} {o:Obj} (hw:w'.heap=w.heap.push o) (F:w'.os=w.os) (G:w'.tape=w.tape) (I:w'.output=w.output) (O : ∀t,(S.af i).dst=some t->t<N) (n:yi P B N w0 β fr (a.put (S.af i).dst v') w' (S.af i) w.heap.size) :
 Core S B h β0 w0 fr' H' β fr H R ((i,w.heap.size)::bi) l m (a.put (S.af i).dst v') w':=by
 have c : ∀b,b<w.heap.size->Out β b->w'.heap[b]? = w.heap[b]? /\Out β b:=λb hb ho=>⟨by rw[hw,CW,iN Om],ho⟩;have hE:bD β w β w':=⟨F,G,I,by rw[hw];simp,c,eU.refl β⟩;have J : ∀p∈bi,yi P B N w0 β fr (a.put (S.af i).dst v') w' (S.af p.1) p.2:=λp hp=>by
  have n:=C.DR p hp;obtain⟨k1,L⟩:=c _ n.lt n.out;exact n.cX (eU.refl β) k1 L (λt ht=>rfl) (λt ht=>OX λe=>s ⟨p,hp,S.dd _ _ t (C.lt _ (C.nY p hp).1) hi ht e⟩)
 refine⟨C.lt,C.sA,λp hp=> ?_,λp hp=> ?_,?_,λp hp j z=> ?_,λp hp q hq t ht=> ?_,C.run,C.yj.push hw,C.kC.trans hE,?_,λt=> ?_,C.done,C.mW,C.Bt,C.m7⟩
 ·rcases List.mem_cons.1 hp with rfl | hp
  ·exact⟨x,y⟩
  exact C.nY p hp
 ·rcases List.mem_cons.1 hp with rfl | hp
  ·exact n
  exact J p hp
 ·rw[NE];refine⟨λp hp=>⟨λe=>s ⟨p,hp,e.symm⟩,λe=> ?_⟩,C.GJ⟩;have:=(C.DR p hp).lt;simp only at e;omega
 ·have f:Ex R bi j->j∉R\/∃q∈(i,w.heap.size)::bi,q.1=j:=by
   rintro(g | ⟨q,u,v⟩);·exact .inl g
   exact .inr ⟨q,kw _ u,v⟩
  rcases List.mem_cons.1 hp with rfl | hp
  ·exact f (A j z)
  exact f (C.zI p hp j z)
 ·rcases List.mem_cons.1 hp with rfl | hp<;>rcases List.mem_cons.1 hq with rfl | hq
  ·exact S.d2' _ t hi y ht
  ·exact D q hq t ht
  ·intro hu;have M:=(C.nY p hp).1;rcases S.d2 i p.1 t hi (C.lt _ M) (λe=>s ⟨p,hp,e.symm⟩) ht hu with q | ⟨_,q⟩
   ·rcases C.zI p hp i q with g | g
    ·exact g x
    exact s g
   rw[(C.nY p hp).2] at q;cases q
  exact C.GK p hp q hq t ht
 ·have:=C.size;cases (S.af i).dst<;>simpa[Act.put] using this
 by_cases e:(S.af i).dst=some t
 ·exact .inl ⟨_,np ..,e⟩
 rw[OX e];rcases C.fr t with ⟨p,u,v⟩ | g
 ·exact .inl ⟨p,kw _ u,v⟩
 exact .inr g
theorem Core.kE{R2:List Nat}{i:Nat}(C:Core S B h β0 w0 fr' H' β fr H (i::R2) bi l m a w)(c:cn (S.af i).op=true)(n : ∀j,fV ops i j->Ex (i::R2) bi j):S.rk i=m:=by
 have hi:i<ops.size:=C.lt i s0;have h1 : ¬S.rk i<m:=λg=>((C.done i hi c).2 g) s0;rcases pv m (S.rk i) with g | g
 ·obtain⟨y,e,f,o⟩:=S.rk2 i m hi c g;have hp:=S.rk1 y i e hi f c Om;rcases n y (S.d4 y i e hi c hp) with q | q
  ·have:=(C.done y e f).1 q;omega
  exact absurd q (C.zO f)
 omega
theorem Core.aeD{R2:List Nat}{i:Nat}(C:Core S B h β0 w0 fr' H' β fr H (i::R2) bi l m a w)(t:cn (S.af i).op=true)(I:S.rk i=m){v v':ae}{β':Nat->aB}{w':ar}{H1:CH}{u:List CH}(hl:l=H1::u)
 (J:cE h (R2.map S.af) (bE fr (S.af i).dst v) H1=some (fr',H',u)) (L:aN P B β' H1 w') (hE:bD β w β' w') (D:FR β' N (bE (patch S bi fr) (S.af i).dst v) (a.put (S.af i).dst v')) :
 Core S B h β0 w0 fr' H' β' (bE fr (S.af i).dst v) H1 R2 bi u (m+1) (a.put (S.af i).dst v') w':=by
 have hi:i<ops.size:=C.lt i s0;have F:=C.zO t;have f:=C.sA;rw[NE] at f;have c : ∀z,z≠i->(z∈R2↔z∈i::R2):=λz hz=>by simp only[js,hz,false_or]
 have x:i∉R2:=λg=>absurd (f.1 i g) (Dc _);refine⟨λz hz=>C.lt z (kw _ hz),f.2,λp hp=> ?_,C.Vu hi s0 F hE.ext hE.cX,C.GJ,λp hp j M=> ?_,C.GK,J,L,C.kC.trans hE,D.1,C.Vv D,λy n o=> ?_,λq Y=> ?_,λy n o O z hz Q g=> ?_,λr U s hs V W Z=> ?_⟩;·exact⟨(c _ λe=>F ⟨p,hp,e⟩).2 (C.nY p hp).1,(C.nY p hp).2⟩
 ·rcases C.zI p hp j M with g | g
  ·exact .inl λq=>g (kw _ q)
  exact .inr g
 ·by_cases e:y=i
  ·subst e;exact⟨λ_=>by omega,λ_=>x⟩
  rw[c y e,C.done y n o];constructor;·intro g;omega
  intro g;rcases pv (S.rk y) m with q | q
  ·exact q
  exact absurd (S.rk3 y i n hi o t Om) e
 ·by_cases e:q=m
  ·exact⟨i,hi,t,Om⟩
  exact C.mW q Om
 ·by_cases e:y=i
  ·subst e;have:=f.1 z g;omega
  exact C.Bt y n o (λq=>O ((c y e).2 q)) z hz Q (kw _ g)
 obtain⟨G,A,X⟩:=C.m7 r (kw _ U) s hs V W Om;refine⟨G,?_,X⟩;rw[hl] at A;rw[show s-m=(s-(m+1))+1 by omega,FI] at A;exact A
end
end
section
open Go Go.RowKit
variable {P:aZ} {B:Nat}
section
variable {N:Nat} {ops:Array cu} {d:je} {S:DS P N ops d} {h:Hd} {β0:Nat->aB} {w0:ar} {fr':Fr} {H':CH}
structure Inv(S:DS P N ops d)(B:Nat)(h:Hd)(β0:Nat->aB)(w0:ar)(fr':Fr)(H':CH)(df:List uf)(a7:Array Bool)(a:Act)(w:ar):Prop where
 core : ∃β fr H R bi l m,Core S B h β0 w0 fr' H' β fr H R bi l m a w/\∀j,j<ops.size->(a7.getD j false=true↔Ex R bi j)
 dc:DC ops a7
 size:a7.size=ops.size
 defers:a.defers=df
theorem Vx{R1 R2:List Nat}{i:Nat}{bi:List (Nat×Nat)}(hn:i∉R1++R2)(j:Nat):Ex (R1++R2) bi j↔j=i\/Ex (R1++i::R2) bi j:=by
 unfold Ex;by_cases e:j=i
 ·subst e;exact⟨λ_=> .inl rfl,λ_=> .inl hn⟩
 simp only[fo,js,e,false_or]
theorem DX{Q:Exit->Act->ar->Prop}{F:Fence}{n i:Nat}{K:Act->ar->Prop}{a:Act}{w:ar}{o:cu}(ho:ops[i]? = some o)(c : ∀f,F.fn f)
 (h1:Jm o (yielded ops a.tmps)=true->o.wpIn F n P a w K Q) (h2:Jm o (yielded ops a.tmps)=false->K (a.put o.dst undef) w):wpOpIn F n P ops Q i K a w:=by
 unfold wpOpIn;simp only[ho];cases hw:Jm o (yielded ops a.tmps) with
 | true=>simp only[iT];exact h1 hw
 | false=>simp only[aM,iF];exact⟨λf _=>c f,h2 hw⟩
theorem Inv.step(hh:HS P B h){ro:Option Nat}{df:List uf}{a7:Array Bool}{a:Act}{w:ar}{Q:Exit->Act->ar->Prop}(I:Inv S B h β0 w0 fr' H' df a7 a w){i:Nat}(hi:i∈xq .any ops a7){K:Act->ar->Prop}
 (hK : ∀a' w',Inv S B h β0 w0 fr' H' df (a7.setIfInBounds i true) a' w'->K a' w'):wpOpIn (Fn ro) 0 P ops Q i K a w:=by
 obtain⟨β,fr,H,R,bi,l,m,C,hex⟩:=I.core;obtain⟨D,nr,DY⟩:=GI hi;obtain⟨o,ho⟩ : ∃o,ops[i]? = some o:=⟨ops[i],by simp[D]⟩;have G:=S.ok i o ho;have GU : ∀j,fV ops i j->a7.getD j false=true:=λj J=>OR I.dc J DY;have Kg : ∀j,fV ops i j->Ex R bi j:=λj J=>(hex j (S.wq i j D J).1).1 (GU j J);have aeE : ¬a7.getD i false=true:=λg=>by
  simp only[mR] at nr g;have:i<a7.size:=by rw[I.size];exact D
  rw[sf this] at nr g;simp only[qj] at nr g;rw[g] at nr;cases nr
 have dD : ¬Ex R bi i:=λg=>aeE ((hex i D).2 g);have m8:i∈R:=NG λg=>dD (.inl g);have iw : ¬ ∃q∈bi,q.1=i:=λg=>dD (.inr g);have bn : ∀t,(S.af i).dst=some t->t<N:=λt ht=>G.lt t (by rw[<-G.dst];exact ht);have nS : ∀ {R':List Nat} {O0:List (Nat×Nat)},(∀j,Ex R' O0 j↔j=i\/Ex R bi j)->∀j,j<ops.size->((a7.setIfInBounds i true).getD j false=true↔Ex R' O0 j):=by
  intro R' O0 hE j J;rw[yg,hE j,<-hex j J];constructor
  ·rintro(⟨e,_⟩ | g);·exact .inl e
   exact .inr g
  rintro(e | g);·exact .inl ⟨e,by rw[I.size];exact D⟩
  exact .inr g
 have zz : ∀v',(a.put o.dst v').defers=df:=λv'=>by rw[<-I.defers];cases o.dst<;>rfl
 have close : ∀ {β2:Nat->aB} {c:Fr} {L:CH} {R2:List Nat} {s:List (Nat×Nat)} {O:List CH} {Y:Nat} {v':ae} {w':ar},Core S B h β0 w0 fr' H' β2 c L R2 s O Y (a.put (S.af i).dst v') w'->(∀j,Ex R2 s j↔j=i\/Ex R bi j)->K (a.put o.dst v') w':=by
  intro β2 c L R2 s O Y v' w' n hE;rw[G.dst] at n;exact hK _ _ ⟨⟨β2,c,L,R2,s,O,Y,n,nS hE⟩,Vi I.dc hi,by simp[I.size],zz v'⟩
 have act : ∀ {β2:Nat->aB} {c:Fr} {L H3:CH} {R2:List Nat} {s:List (Nat×Nat)} {O:List CH} {Y:Nat} {v:ae},Core S B h β0 w0 fr' H' β2 c L R2 s O Y a w->
  (∀q∈s,∀t,(S.af q.1).dst=some t->t∉(S.af i).eN)->cA h (S.af i) c L=some (bE c (S.af i).dst v,H3)->
  (∀β' w' v',aN P B β' H3 w'->bD β2 w β' w'->FR β' N (bE (patch S s c) (S.af i).dst v) (a.put (S.af i).dst v')->K (a.put o.dst v') w')->wpOpIn (Fn ro) 0 P ops Q i K a w:=by
  intro β2 c L H3 R2 s O Y v n yt GM hk;have bp:=Vr (S:=S) (bi:=s) (fr:=c) yt;obtain⟨u,e1,cx⟩:=Br (aX:=patch S s c) bp GM;have hpu:bE (patch S s c) (S.af i).dst u=bE (patch S s c) (S.af i).dst v:=by
   cases hd:(S.af i).dst with
   | none=>rfl
   | some t=>
     rw[hd] at e1;have:=congrFun e1 t;simp only[bE,iT] at this;rw[this]
  rw[hpu] at cx;have Z:=n.Vq;have W:=cx;simp only[cA] at W;cases hw:ec (patch S s c) (S.af i).guard with
  | none=>rw[hw] at W;cases W
  | some b=>
    have rq:=Bi G Z hw;rw[hw] at W;cases b with
    | true=>
      refine DX ho (λ_=>trivial) (λ_=> ?_) (λg=>by rw[rq] at g;cases g);refine JT hh G n.yj Z hw W fun β' w' v' q1 F U=> ?_;rw[<-G.dst] at U;exact hk β' w' v' q1 F U
    | false=>
      refine DX ho (λ_=>trivial) (λg=>by rw[rq] at g;cases g) (λ_=> ?_);simp only[Option.some.injEq,Prod.mk.injEq] at W;obtain⟨z1,rfl⟩:=W;refine hk β2 w undef n.yj (bD.refl β2 w) ?_;rw[<-z1];exact Z.put bn .skip
 cases V:cn (S.af i).op with
 | true=>
   obtain⟨R1,R2,rfl⟩:=NF m8;obtain⟨p1,p2,p3⟩:=yk C.sA;have rj:=C.yq;obtain⟨β2,c,L,s,n,M⟩:=Core.front R1 C λx hx=>by
    have DV:x∈R1++i::R2:=by simp[hx]
    rcases Kg x (S.d4 x i (C.lt x DV) D V (p1 x hx)) with g | g
    ·exact absurd DV g
    exact g
   have GV : ∀j,fV ops i j->Ex (i::R2) s j:=λj J=>(M j).2 (Kg j J);have D1:=n.zO V;have Vy:=n.sA;rw[NE] at Vy;have X : ∀q∈s,∀t,(S.af q.1).dst=some t->t∉(S.af i).eN:=λq hq t ht hu=>by
    have Vz:=(n.nY q hq).1;have av:q.1≠i:=λe=>D1 ⟨q,hq,e⟩;have yo:q.1∈R2:=by simpa[av] using Vz
    rcases S.d2 q.1 i t (n.lt _ Vz) D av ht hu with g | ⟨g,_⟩
    ·have:=(S.wq _ _ D g).2;have:=Vy.1 _ yo;omega
    rcases n.zI q hq i g with g | g
    ·exact g s0
    exact D1 g
   have A:=n.run;simp only[dk,cE] at A;cases hs:cA h (S.af i) c L with
   | none=>rw[hs] at A;cases A
   | some q=>
     obtain⟨f,H3⟩:=q;rw[hs] at A;obtain⟨v,rfl,_⟩:=Br (aX:=c) (λt _=>rfl) hs;simp only[V,iT] at A;cases hz:cE h (R2.map S.af) (bE c (S.af i).dst v) H3 with
     | none=>rw[hz] at A;cases A
     | some z=>
       obtain⟨z1,z2,O⟩:=z;rw[hz] at A;simp only[fm,Option.some.injEq,Prod.mk.injEq] at A;obtain⟨rfl,rfl,hl⟩:=A;refine act n X hs fun β' w' v' q1 F U=>close (n.aeD V (n.kE V GV) hl.symm hz q1 F U) λj=> ?_;have:=Vx (R1:= []) (R2:=R2) (i:=i) (bi:=s) (λg=>rj (by simp only[a6] at g;simp[g])) j;simp only[a6] at this;rw[this,M j]
 | false=>
   obtain⟨β2,c,L,R2,s,n,M,O1,X⟩:=C.feed bi.length (ag _) D V m8 iw Kg;have aeF : ¬Ex R2 s i:=λg=>dD ((M i).1 g);have D1 : ¬ ∃q∈s,q.1=i:=λg=>aeF (.inr g);have GV : ∀j,fV ops i j->Ex R2 s j:=λj J=>(M j).2 (Kg j J);have viaQuiet:(kD (S.af i).op=false\/ec c (S.af i).guard=some false)->wpOpIn (Fn ro) 0 P ops Q i K a w:=by
    intro hA;obtain⟨Ra,Rb,v,rfl,GM,A⟩:=n.quiet D O1 D1 V hA GV X;refine act n X GM fun β' w' v' q1 F U=>close (n.aeB D1 V A q1 F U) λj=> ?_;rw[Vx n.yq j,M j]
   cases hA:kD (S.af i).op with
   | false=>exact viaQuiet (.inl hA)
   | true=>
     obtain⟨Ra,Rb,VA⟩:=NF O1;have GW:=n;rw[VA] at GW;obtain⟨p1,p2,p3⟩:=yk GW.sA;have rj:=GW.yq;have A:=GW.run;rw[ql,dk] at A;obtain⟨aj,H1,l1,O,g1,g2,_⟩:=Kb A;have zK : ∀t∈(S.af i).eN,aj t=c t:=λt ht=>by
      refine Bs (λy hy e=> ?_) g1;obtain⟨z,hz,rfl⟩:=List.mem_map.1 hy;have yr:z∈Ra++i::Rb:=by simp[hz]
      have ii:=GW.lt z yr;rcases S.d2 z i t ii D (λe=>rj (by rw[<-e];simp[hz])) e ht with q | ⟨_,q⟩
      ·rcases GV z q with g | ⟨q1,F,U⟩
       ·exact g (by rw[VA];exact yr)
       exact X q1 F t (by rw[U];exact e) ht
      rw[hA] at q;cases q
     simp only[cE] at g2;cases hs:cA h (S.af i) aj H1 with
     | none=>rw[hs] at g2;cases g2
     | some q=>
       simp only[cA] at hs;have tD:ec aj (S.af i).guard=ec c (S.af i).guard:=ye zK;rw[tD] at hs;cases hw:ec c (S.af i).guard with
       | none=>rw[hw] at hs;cases hs
       | some b=>
         cases b with
         | false=>exact viaQuiet (.inr hw)
         | true=>
           rw[hw] at hs;simp only at hs;have VB:=G.op;cases bS:(S.af i).op with
           | a x=>
             rw[bS] at hs VB;simp only[eb] at hs;cases hp:fT (aO aj) x with
             | none=>rw[hp] at hs;cases hs
             | some u=>
               obtain⟨cs,e,k,mk⟩:=u;have VC : ∀t∈slotsOf x.bB,t∈(S.af i).eN:=λt ht=>by simp only[Item.eN,bS,fo];exact .inl ht
               have lI:fT (aO c) x=some (cs,e,k,mk):=by
                rw[<-hp];exact GF (yd λt ht=>(zK t (VC t ht)).symm)
               have bp:=Vr (S:=S) (bi:=s) (fr:=c) X;have hp3:fT (aO (patch S s c)) x=some (cs,e,k,mk):=by
                rw[<-lI];exact GF (yd λt ht=>(bp t (VC t ht)).symm)
               have Z:=n.Vq;have rq:=Bi G Z (b:=true) (by rw[<-ye bp];exact hw);cases VB with
               | a Oq=>
                 obtain⟨hk,sz,fy,Bu⟩:=Oq β2 (aO (patch S s c)) a.eval o cs e k mk rfl (λy hy=>zB Z (G.bB y hy)) hp3;obtain⟨cs',hU,w',v',h1,h2,h3,h4,h5,h6,h7,h8,h9,jw⟩:=Bu w;refine DX ho (λ_=>trivial) (λ_=> ?_) (λg=>by rw[rq] at g;cases g);refine⟨λf _=>trivial,?_⟩;rw[show(Fn ro).round=ro from rfl,Oper.semAt_eq ro _ _ G.nodefer,h1];show K (a.put o.dst v') w';have hb:w'.heap[w.heap.size]? = some (.cells cs' e hU):=by rw[h2];simp
                 refine close (n.aeC D O1 D1 hA GV X h2 h3 h4 h5 bn ⟨⟨x,cs,e,k,mk,cs',hU,sz,v',bS,hw,lI,hk,fy,hb,h6,h7,h8,h9,jw,λt ht=> ?_⟩,n.yj.base,n.kC.size,λz hz=> ?_⟩) λj=> ?_;·rw[ht];have:t<a.tmps.size:=Nat.lt_of_lt_of_le (bn t ht) n.size;simp[Act.put,this]
                 ·have:=(tt n.yj hz).2;omega
                 unfold Ex;constructor
                 ·rintro(g | ⟨q,q1,F⟩);·exact .inr ((M j).1 (.inl g))
                  rcases List.mem_cons.1 q1 with rfl | q1
                  ·exact .inl F.symm
                  exact .inr ((M j).1 (.inr ⟨q,q1,F⟩))
                 rintro(e | g);·exact .inr ⟨_,np ..,e.symm⟩
                 rcases(M j).2 g with g | ⟨q,q1,F⟩
                 ·exact .inl g
                 exact .inr ⟨q,kw _ q1,F⟩
           | _=>rw[bS] at hA;cases hA
theorem Core.all : ∀(R:List Nat) {β:Nat->aB} {fr:Fr} {H:CH} {bi:List (Nat×Nat)} {l:List CH} {m:Nat} {a:Act} {w:ar} (C:Core S B h β0 w0 fr' H' β fr H R bi l m a w),(∀x∈R,∃q∈bi,q.1=x)->
 ∃β2,aN P B β2 H' w/\bD β0 w0 β2 w/\FR β2 N fr' a
 | [],β,fr,H,bi,l,m,a,w,C,_=>by
   have c:=C.run;simp only[List.map_nil,cE,Option.some.injEq,Prod.mk.injEq] at c;obtain⟨rfl,rfl,_⟩:=c;refine⟨β,C.yj,C.kC,C.size,λt=> ?_⟩;rcases C.fr t with ⟨p,hp,_⟩ | g
   ·have:=(C.nY p hp).1;cases this
   exact g
 | x::R,β,fr,H,bi,l,m,a,w,C,hx=>by
   obtain⟨⟨x',b⟩,j,rfl⟩:=hx x (np ..);have f:Core S B h β0 w0 fr' H' β fr H ([]++x'::R) bi l m a w:=C;obtain⟨β2,v,y,A,n,o,_⟩:=f.catch j (λz hz=>by cases hz);have s:=f.yq;exact Core.all R n λz hz=>by
    obtain⟨q,u,i⟩:=hx z (kw _ hz);exact⟨q,(o q).2 ⟨u,λe=>s (by rw[<-e,i];simpa using hz)⟩,i⟩
def rr (k:Nat)(a7:Array Bool):Nat:=((mu k).filter λj=> !a7.getD j false).length
theorem VD{a7:Array Bool}{i:Nat}(hi:i<ops.size)(hs:a7.size=ops.size)(hu:a7.getD i false=false):rr ops.size (a7.setIfInBounds i true)<rr ops.size a7:=by
 unfold rr;have:(mu ops.size).filter (λj=> !(a7.setIfInBounds i true).getD j false)=((mu ops.size).filter λj=> !a7.getD j false).filter (λj=>decide (j≠i)):=by
  rw[List.filter_filter];apply List.filter_congr;intro j c;by_cases e:j=i
  ·subst e;have:(a7.setIfInBounds j true).getD j false=true:=yg.2 (.inl ⟨rfl,Om⟩);simp[this]
  have:(a7.setIfInBounds i true).getD j false=a7.getD j false:=by
   cases hb:a7.getD j false with
   | true=>exact yg.2 (.inr hb)
   | false=>
     cases hc:(a7.setIfInBounds i true).getD j false with
     | false=>rfl
     | true=>
       rcases yg.1 hc with ⟨g,_⟩ | g
       ·exact absurd g e
       rw[hb] at g;cases g
  simp[this,e]
 rw[this];exact List.length_filter_lt_length_iff_exists.2 ⟨i,by simp[hi];exact by simpa using hu,s0⟩
theorem Inv.sound(hh:HS P B h){ro:Option Nat}{df:List uf}{Q:Exit->Act->ar->Prop}(v : ∀β' w' a',aN P B β' H' w'->bD β0 w0 β' w'->FR β' N fr' a'->a'.defers=df->Q .normal a' w') : ∀(fuel:Nat) (a7:Array Bool) (a:Act) (w:ar),
 rr ops.size a7<=fuel->Inv S B h β0 w0 fr' H' df a7 a w->wpAnyIn (Fn ro) 0 P .any ops Q fuel a7 a w:=by
 have t : ∀(a7:Array Bool) (a:Act) (w:ar),Inv S B h β0 w0 fr' H' df a7 a w->(∀j,j<ops.size->a7.getD j false=true)->Q .normal a w:=by
  intro a7 a w I f;obtain⟨β,fr,H,R,bi,l,m,C,hex⟩:=I.core;obtain⟨β2,h1,h2,h3⟩:=Core.all R C λx hx=>by
   rcases(hex x (C.lt x hx)).1 (f x (C.lt x hx)) with g | g
   ·exact absurd hx g
   exact g
  exact v β2 w a h1 h2 h3 I.defers
 have o : ∀(a7:Array Bool),a7.size=ops.size->xq .any ops a7= []->∀j,j<ops.size->a7.getD j false=true:=by
  intro a7 hs q j s;apply NG;intro hn;have : ∃p,∃j,j<ops.size/\¬a7.getD j false=true/\S.pos j=p:=⟨_,j,s,hn,rfl⟩;obtain⟨p,⟨x,n,u,G⟩,y⟩:=Gw this;have hx:x∈xq .any ops a7:=by
   unfold xq;refine List.mem_filter.2 ⟨List.mem_range.2 n,?_⟩;have c:x<a7.size:=by omega
   have z:a7.getD x true=false:=by
    simp only[mR,sf c,qj] at u⊢
    simpa using u
   rw[z];simp only[FH,zm];rw[sf n];simp only[fm,qj];rw[aoF];intro e he;cases hb:Db .any e with
   | false=>rfl
   | true=>
     simp only[Bool.not_true,Bool.false_or];obtain⟨A,J⟩:=S.wq x e.on n (.GH (sf n) (by simpa using he) hb);apply NG;intro g;have:=y _ ⟨e.on,A,g,rfl⟩;omega
  rw[q] at hx;cases hx
 intro fuel;induction fuel with
 | zero=>
   intro a7 a w hc I;have hz:rr ops.size a7=0:=by omega
   have f : ∀j,j<ops.size->a7.getD j false=true:=λj s=>by
    unfold rr at hz;have:=List.length_eq_zero_iff.1 hz;rw[List.filter_eq_nil_iff] at this;simpa using this j (List.mem_range.2 s)
   refine⟨?_,t a7 a w I f⟩;apply List.eq_nil_iff_forall_not_mem.2;intro x hx;obtain⟨h1,h2,_⟩:=GI hx;have:=f x h1;have c:x<a7.size:=by rw[I.size];exact h1
   simp only[mR,sf c,qj] at h2 this;rw[this] at h2;cases h2
 | succ fuel D=>
   intro a7 a w hc I;refine⟨λq=>t a7 a w I (o a7 I.size q),λi hi=>I.step hh hi λa' w' F=>D _ a' w' ?_ F⟩;obtain⟨h1,h2,_⟩:=GI hi;have c:i<a7.size:=by rw[I.size];exact h1
   have:a7.getD i false=false:=by
    simp only[mR,sf c,qj] at h2⊢;exact h2
   have:=VD h1 I.size this;omega
end
theorem VF{h:Hd} : ∀ {R S:List Item} {fr aX:Fr} {H e:CH},c7 h (R++S) fr H=some (aX,e)->∃aj H1,c7 h R fr H=some (aj,H1)/\c7 h S aj H1=some (aX,e)
 | [],S,fr,aX,H,e,c=>⟨fr,H,rfl,c⟩
 | x::R,S,fr,aX,H,e,c=>by
   simp only[aS,c7] at c;cases hs:cA h x fr H with
   | none=>rw[hs] at c;cases c
   | some q=>
     rw[hs] at c;obtain⟨aj,H1,h1,h2⟩:=VF c;exact⟨aj,H1,by simp only[c7,hs];exact h1,h2⟩
theorem VG{h:Hd} : ∀ {R S:List Item} {fr aj aX:Fr} {H H1 c:CH},c7 h R fr H=some (aj,H1)->c7 h S aj H1=some (aX,c)->c7 h (R++S) fr H=some (aX,c)
 | [],S,fr,aj,aX,H,H1,c,h1,h2=>by simp only[c7,Option.some.injEq,Prod.mk.injEq] at h1;obtain⟨rfl,rfl⟩:=h1;exact h2
 | x::R,S,fr,aj,aX,H,H1,c,h1,h2=>by
   simp only[aS,c7] at h1⊢
   cases hs:cA h x fr H with
   | none=>rw[hs] at h1;cases h1
   | some q=>rw[hs] at h1;exact VG h1 h2
theorem D2{h:Hd}{t:Nat} : ∀ {R:List Item} {fr aj:Fr} {H H1:CH},(∀x∈R,x.dst≠some t)->c7 h R fr H=some (aj,H1)->aj t=fr t
 | [],fr,aj,H,H1,_,c=>by simp only[c7,Option.some.injEq,Prod.mk.injEq] at c;obtain⟨rfl,rfl⟩:=c;rfl
 | x::R,fr,aj,H,H1,hx,c=>by
   simp only[c7] at c;cases hs:cA h x fr H with
   | none=>rw[hs] at c;cases c
   | some q=>
     obtain⟨f,K⟩:=q;rw[hs] at c;obtain⟨u,rfl,_⟩:=Br (aX:=fr) (λt _=>rfl) hs;rw[D2 (λy e=>hx y (kw _ e)) c,yf (hx x (np ..))]
theorem yw{it:Item}:(l7 it).dst=it.dst:=by unfold l7;split<;>rfl
theorem aeH{it:Item}:(l7 it).guard=it.guard:=by unfold l7;split<;>rfl
theorem aeI{it:Item}{t:Nat}(h:t∈(l7 it).eN):t∈it.eN:=by
 unfold l7 at h;split at h
 ·simp only[Item.eN,fo] at h⊢
  rcases h with h | h
  ·simp[fF.bB,dM.bB,slotsOf] at h
  exact .inr h
 exact h
theorem O2{it:Item}(h:oT it.op=true):l7 it=it:=by
 unfold l7;split;·rename_i e;rw[e] at h;cases h
 rfl
theorem aeJ{N:Nat}{ops:Array cu}{ro:Option Nat}{o:cu}{it:Item}(c:uu P N ops o it){β:Nat->aB}{fr:Fr}{H:CH}{a:Act}{w:ar}(i:aN P B β H w)(g:FR β N fr a){e:aH}{z:List ae}(j:it.op= .a (.new e z)){K:Act->ar->Prop}{Q:Exit->Act->ar->Prop}
 (n : ∀w' v',aN P B β H w'->bD β w β w'->FR β N (bE fr it.dst undef) (a.put o.dst v')->K (a.put o.dst v') w'):o.wpIn (Fn ro) 0 P a w K Q:=by
 refine⟨λf _=>trivial,?_⟩;rw[show(Fn ro).round=ro from rfl,Oper.semAt_eq ro _ _ c.nodefer];have hv : ∀x∈o.op.operands,VR β (aO fr x) (a.eval x):=λx hx=>zB g (c.bB x hx);have hd : ∀x,it.dst=some x->x<N:=λx hx=>c.lt x (by rw[<-c.dst];exact hx);have h:=c.op;rw[j] at h;cases h with
 | a ha=>
   obtain⟨hk,sz,u,q⟩:=ha β _ _ o z e .ex .ptr rfl hv rfl;obtain⟨cs',hU,w',v',h1,h2,h3,h4,h5,_⟩:=q w;have s:=i.push h2;have t:bD β w β w':=⟨h3,h4,h5,by rw[h2];simp,λb hb ho=>⟨by rw[h2,CW,iN Om],ho⟩,eU.refl β⟩;rw[h1];exact n w' v' s t (by rw[<-c.dst];exact g.put hd (.undef _))
theorem VH{h:Hd}{x:Item}(e:oT x.op=true){fr aj:Fr}{H H1:CH}(hs:cA h x fr H=some (aj,H1)):H1=H:=by
 simp only[cA] at hs;split at hs
 ·cases c:x.op with
  | p y=>rw[c] at hs;simp only[eb] at hs;cases hp:pop (aO fr) y<;>rw[hp] at hs<;>simp at hs;exact hs.2.symm
  | l y=>rw[c] at hs;simp only[eb] at hs;cases hp:bg H (aO fr) y<;>rw[hp] at hs<;>simp at hs;exact hs.2.symm
  | _=>rw[c] at e;cases e
 ·cases hs;rfl
 cases hs
theorem Kh{h:Hd} : ∀ {R:List Item} {fr aj:Fr} {H H1:CH},(∀x∈R,oT x.op=true)->c7 h R fr H=some (aj,H1)->H1=H
 | [],fr,aj,H,H1,_,c=>by simp only[c7,Option.some.injEq,Prod.mk.injEq] at c;exact c.2.symm
 | x::R,fr,aj,H,H1,hx,c=>by
   simp only[c7] at c;cases hs:cA h x fr H with
   | none=>rw[hs] at c;cases c
   | some q=>
     obtain⟨f,K⟩:=q;rw[hs] at c;rw[Kh (λy e=>hx y (kw _ e)) c,VH (hx x (np ..)) hs]
section
variable {N:Nat} {ops:Array cu} {d:je} {S:DS P N ops d} {h:Hd} {β0:Nat->aB} {w0:ar} {H:CH} {TA:List Nat}
open Classical in
noncomputable def m9(S:DS P N ops d)(TA:List Nat)(a7:Array Bool)(fr f1:Fr):Fr:=λt=>if ∃j∈TA,a7.getD j false=true/\(S.af j).dst=some t then f1 t else fr t
structure O3(S:DS P N ops d)(B:Nat)(β0:Nat->aB)(w0:ar)(H:CH)(TA:List Nat)(fr f1:Fr)(df:List uf)(a7:Array Bool)(a:Act)(w:ar):Prop where
 core : ∃β,aN P B β H w/\bD β0 w0 β w/\FR β N (m9 S TA a7 fr f1) a
 dc:DC ops a7
 size:a7.size=ops.size
 defers:a.defers=df
theorem aeK(a7:Array Bool)(hs:a7.size=ops.size)(S:DS P N ops d)(i:xq .any ops a7= []) : ∀j,j<ops.size->a7.getD j false=true:=by
 intro j n;apply NG;intro hn;have : ∃p,∃j,j<ops.size/\¬a7.getD j false=true/\S.pos j=p:=⟨_,j,n,hn,rfl⟩;obtain⟨p,⟨x,c,f,u⟩,o⟩:=Gw this;have hx:x∈xq .any ops a7:=by
  unfold xq;refine List.mem_filter.2 ⟨List.mem_range.2 c,?_⟩;have q:x<a7.size:=by omega
  have s:a7.getD x true=false:=by
   simp only[mR,sf q,qj] at f⊢
   simpa using f
  rw[s];simp only[FH,zm];rw[sf c];simp only[fm,qj];rw[aoF];intro e he;cases hb:Db .any e with
  | false=>rfl
  | true=>
    simp only[Bool.not_true,Bool.false_or];obtain⟨t,v⟩:=S.wq x e.on c (.GH (sf c) (by simpa using he) hb);apply NG;intro g;have:=o _ ⟨e.on,t,g,rfl⟩;omega
 rw[i] at hx;cases hx
theorem O3.sound(hh:HS P B h){ro:Option Nat}{df:List uf}{Q:Exit->Act->ar->Prop}{fr f1:Fr}{k:Nat}{f:bk}{args:List au}{v:ae}{H':CH}(bq:k<ops.size)(W : ∀j∈TA,j<ops.size)(yv:TA.Pairwise (λa b=>S.pos a<S.pos b))(hA : ∀x∈TA,oT (l7 (S.af x)).op=true)(hk:(S.af k).op= .call f args)(j0 : ∀b,b<ops.size->b∈TA\/b=k\/fV ops b k)
 (yt : ∀j∈TA,∀t,(S.af j).dst=some t->t∈(S.af k).eN->fV ops k j) (aY:c7 h (TA.map λi=>l7 (S.af i)) fr H=some (f1,H)) (hw:ec f1 (S.af k).guard=some true) (hp:zE P B f (args.map (aO f1)) H v H')
 (hQ : ∀β' w' a' v',aN P B β' H' w'->bD β0 w0 β' w'->VR β' v v'->a'.defers=df->(∀t,(∀j∈TA,(S.af j).dst≠some t)->VR β' (fr t) (a'.tmps.getD t undef))->Q (.panic [{ v:=v',recovered:=false }]) a' w') : ∀(fuel:Nat) (a7:Array Bool) (a:Act) (w:ar),
 rr ops.size a7<=fuel->a7.getD k false=false->O3 S B β0 w0 H TA fr f1 df a7 a w->wpAnyIn (Fn ro) 0 P .any ops Q fuel a7 a w:=by
 have hkW:cn (S.af k).op=true:=by rw[hk];rfl
 have DA : ∀a7:Array Bool,a7.size=ops.size->a7.getD k false=false->xq .any ops a7= []->False:=λa7 hs hl hr=>by
  have:=aeK a7 hs S hr k bq;rw[hl] at this;cases this
 intro fuel;induction fuel with
 | zero=>
   intro a7 a w hc hl I;have hz:rr ops.size a7=0:=by omega
   unfold rr at hz;have:=List.length_eq_zero_iff.1 hz;rw[List.filter_eq_nil_iff] at this;have:=this k (List.mem_range.2 bq);rw[hl] at this;exact absurd rfl this
 | succ fuel ih=>
   intro a7 a w hc hl I;refine⟨λhr=>(DA a7 I.size hl hr).elim,λi hi=> ?_⟩;obtain⟨A,nr,DY⟩:=GI hi;obtain⟨β,X,hE,C⟩:=I.core;have pF:i<a7.size:=by rw[I.size];exact A
   have O4:a7.getD i false=false:=by
    simp only[mR,sf pF,qj] at nr⊢;exact nr
   have GU : ∀j,fV ops i j->a7.getD j false=true:=λj hj=>OR I.dc hj DY;obtain⟨o,ho⟩ : ∃o,ops[i]? = some o:=⟨ops[i],by simp[A]⟩;have n:=S.ok i o ho;have aoT:=VD A I.size O4;rcases j0 i A with yx | yx | yx
   ·
    obtain⟨A1,A2,Y⟩:=NF yx;have av:i≠k:=λe=>by have:=hA i yx;rw[e] at this;unfold l7 at this;rw[hk] at this;simp only[hk] at this;cases this
    have VI:=aY;rw[Y,ql,dk] at VI;obtain⟨g,Hg,r1,r2⟩:=VF VI;have GY : ∀x∈A1,x∈TA:=λx hx=>by rw[Y];simp[hx]
    have VJ : ∀x∈A2,x∈TA:=λx hx=>by rw[Y];simp[hx]
    have hHg:Hg=H:=Kh (λx hx=>by obtain⟨z,hz,rfl⟩:=List.mem_map.1 hx;exact hA z (GY z hz)) r1;subst hHg;have GZ:=yv;rw[Y] at GZ;obtain⟨u1,u2,u3⟩:=yk GZ;simp only[c7] at r2;cases hs:cA h (l7 (S.af i)) g Hg with
    | none=>rw[hs] at r2;cases r2
    | some q=>
      obtain⟨gf,K⟩:=q;rw[hs] at r2;simp only at r2;have hK:=VH (hA i yx) hs;subst hK;obtain⟨u,rfl,_⟩:=Br (aX:=g) (λt _=>rfl) hs;have bp : ∀t∈(l7 (S.af i)).eN,g t=m9 S TA a7 fr f1 t:=λt J=>by
       have J:=aeI J;unfold m9;split
       ·rename_i hex;obtain⟨j,D,F,s⟩:=hex;have VK:j≠i:=λe=>by rw[e,O4] at F;cases F
        have um:=W j D;rcases S.d2 j i t um A VK s J with q | ⟨q,_⟩
        ·have G0:=(S.wq _ _ A q).2;have M:f1 t=bE g (l7 (S.af i)).dst u t:=D2 (λy G e=>by
          obtain⟨z,hz,rfl⟩:=List.mem_map.1 G;rw[yw] at e;have Z:=W z (VJ z hz);have:=S.dd j z t um Z s e;subst this;have:=u2 j hz;omega) r2
         rw[M,yw,yf λe=>VK (S.dd j i t um A s e)]
        have:=I.dc j i F q;rw[O4] at this;cases this
       rename_i hn;refine D2 (λy G e=> ?_) r1;obtain⟨z,hz,rfl⟩:=List.mem_map.1 G;rw[yw] at e;have Z:=W z (GY z hz);have hzi:z≠i:=λe'=>by have:=u1 z hz;rw[e'] at this;omega
       rcases S.d2 z i t Z A hzi e J with q | ⟨q,_⟩
       ·exact hn ⟨z,GY z hz,GU z q,e⟩
       have:=(S.wq _ _ Z q).2;have:=u1 z hz;omega
      obtain⟨v1,M,cx⟩:=Br (aX:=m9 S TA a7 fr f1) bp hs;have nB : ∀t,(S.af i).dst=some t->f1 t=v1:=λt hd=>by
       rw[D2 (t:=t) (λy G e=>by
        obtain⟨z,hz,rfl⟩:=List.mem_map.1 G;rw[yw] at e;have:=S.dd i z t A (W z (VJ z hz)) hd e;subst this;have:=u2 i hz;omega) r2,M,yw,hd]
       simp[bE]
      have nS:m9 S TA (a7.setIfInBounds i true) fr f1=bE (m9 S TA a7 fr f1) (S.af i).dst v1:=by
       funext t
       by_cases hd:(S.af i).dst=some t
       ·rw[hd];simp only[bE,iT];unfold m9;rw[iP ⟨i,yx,yg.2 (.inl ⟨rfl,pF⟩),hd⟩];exact nB t hd
       rw[yf hd];unfold m9;have:(∃j∈TA,(a7.setIfInBounds i true).getD j false=true/\(S.af j).dst=some t)↔∃j∈TA,a7.getD j false=true/\(S.af j).dst=some t:=by
        constructor
        ·rintro⟨j,D,F,s⟩;rcases yg.1 F with ⟨e,_⟩ | e
         ·subst e;exact absurd s hd
         exact⟨j,D,e,s⟩
        rintro⟨j,D,F,s⟩;exact⟨j,D,yg.2 (.inr F),s⟩
       simp only[this]
      have ru:(a7.setIfInBounds i true).getD k false=false:=by
       cases hb:(a7.setIfInBounds i true).getD k false with
       | false=>rfl
       | true=>
         rcases yg.1 hb with ⟨e,_⟩ | e
         ·exact absurd e.symm av
         rw[hl] at e;cases e
      have zz : ∀v',(a.put o.dst v').defers=df:=λv'=>by rw[<-I.defers];cases o.dst<;>rfl
      have next : ∀β' w' v',aN P B β' K w'->bD β w β' w'->FR β' N (bE (m9 S TA a7 fr f1) (S.af i).dst v1) (a.put o.dst v')->wpAnyIn (Fn ro) 0 P .any ops Q fuel (a7.setIfInBounds i true) (a.put o.dst v') w':=fun β' w' v' O U V=>
       ih _ _ _ Om ru ⟨⟨β',O,hE.trans U,by rw[nS];exact V⟩,Vi I.dc hi,by simp[I.size],zz v'⟩
      have c:=cx;simp only[cA] at c;rw[aeH] at c;cases DW:ec (m9 S TA a7 fr f1) (S.af i).guard with
      | none=>rw[DW] at c;cases c
      | some b=>
        have rq:=Bi n C DW;rw[DW] at c;cases b with
        | true=>
          refine DX ho (λ_=>trivial) (λ_=> ?_) (λg=>by rw[rq] at g;cases g);cases hq:oT (S.af i).op with
          | true=>
            rw[O2 hq] at c;exact JT hh n X C DW c fun β' w' v' O U V=>next β' w' v' O U V
          | false=>
            obtain⟨e,z,L⟩ : ∃e z,(S.af i).op= .a (.new e z):=by
             have h2:=hA i yx;unfold l7 at h2;split at h2;·rename_i e z h3;exact⟨e,z,h3⟩
             rw[hq] at h2;cases h2
            have VL:(l7 (S.af i)).op= .p (.tu (.const undef)):=by unfold l7;rw[L]
            have heq:bE (m9 S TA a7 fr f1) (S.af i).dst undef=bE (m9 S TA a7 fr f1) (S.af i).dst v1:=by
             rw[VL,yw] at c;simp only[eb,pop,fm,Option.some.injEq,Prod.mk.injEq] at c;exact c.1
            rw[<-heq] at next
            exact aeJ n X C L λw' v' O U V=>next β w' v' O U V
        | false=>
          refine DX ho (λ_=>trivial) (λg=>by rw[rq] at g;cases g) (λ_=> ?_);simp only[Option.some.injEq,Prod.mk.injEq] at c;refine next β w undef X (bD.refl β w) ?_
          rw[yw] at c;rw[<-c.1,<-n.dst];exact C.put (λx hx=>n.lt x (by rw[<-n.dst];exact hx)) .skip
   ·
    subst yx;have Kj : ∀t∈(S.af i).eN,f1 t=m9 S TA a7 fr f1 t:=λt J=>by
     unfold m9;split;·rfl
     rename_i hn;refine D2 (λy G e=> ?_) aY;obtain⟨z,hz,rfl⟩:=List.mem_map.1 G;rw[yw] at e;exact hn ⟨z,hz,GU z (yt z hz t e J),e⟩
    rw[ye Kj] at hw;have lI:args.map (aO f1)=args.map (aO (m9 S TA a7 fr f1)):=vT λx hx=>yd (l:=args) (λt ht=>Kj t (by simp only[Item.eN,hk,fF.bB,fo];exact .inl ht)) x hx;rw[lI] at hp;have cx : ∀t,(∀j∈TA,(S.af j).dst≠some t)->m9 S TA a7 fr f1 t=fr t:=λt ht=>by
     unfold m9;rw[iN];rintro⟨j,D,_,s⟩;exact ht j D s
    generalize m9 S TA a7 fr f1=VM at C hw hp cx;refine DX ho (λ_=>trivial) (λ_=> ?_) (λg=>by rw[Bi n C hw] at g;cases g);refine⟨λf _=>trivial,?_⟩;rw[show(Fn ro).round=ro from rfl,Oper.semAt_eq ro _ _ n.nodefer];have L:=n.op;rw[hk] at L;generalize zC:o.op=io at L;cases L with
    | @call f args ts he=>
      rw[he] at zC;have hv : ∀x∈o.op.operands,VR β (aO VM x) (a.eval x):=λx hx=>zB C (n.bB x hx);have fA:aW β (args.toList.map (aO VM)) (args.toList.map a.eval):=by
       refine⟨s0,λj u hu=> ?_⟩;rw[List.getElem?_map] at hu⊢
       cases hx:args.toList[j]? with
       | none=>rw[hx] at hu;cases hu
       | some x=>
         rw[hx] at hu;cases hu;exact⟨_,rfl,hv x (by rw[zC];simp[Op.operands,Call.operands];exact .inr (by have:=List.mem_of_getElem? hx;simpa using this))⟩
      have Bu:(execOp a.eval o).run P w= .ok (.enter f (args.map a.eval)) w:=by
       simp only[execOp,zC,resolve,Act.eval,Deferred.ofValue,ci,cO,bY,invoke];rw[Bh hp.1];simp
      rw[Bu];refine⟨λh=>absurd h (by simp[Fn,gZ]),Gn ?_⟩;have:=hp.2 β w _ X fA;have M:(args.toList.map a.eval).toArray=args.map a.eval:=by apply qR;simp
      rw[M] at this;refine this.mono ?_;rintro e w' ⟨v',β',rfl,g1,g2,g3⟩;exact hQ β' w' _ v' g2 (hE.trans g3) g1 I.defers λt ht=>by
       rw[<-cx t ht];exact(C.2 t).mono g3.ext
   have:=GU k yx;rw[hl] at this;cases this
end
theorem aeL{N:Nat}{ops:Array cu}{d:je}(S:DS P N ops d)(A:P.follows .mixedOrders=true):zD P N ops d:=by
 intro B h ro β fr fr' H H' a w id Q hh C u c D;refine wpIn_region_any A ?_;unfold su at c;cases e:cE h d.af fr H with
 | none=>rw[e] at c;cases c
 | some q=>
   obtain⟨f,K,l⟩:=q;rw[e] at c;simp only at c;split at c;rotate_left
   ·cases c
   rename_i n;simp only[Option.some.injEq,Prod.mk.injEq] at c;obtain⟨rfl,rfl⟩:=c;obtain⟨F,I⟩:=C.drew;refine Inv.sound (S:=S) (β0:=β) (w0:=w) (fr':=f) (H':=K) hh (df:=a.defers) D ops.size _ a _ ?_ ⟨⟨β,fr,H,S.pJ,[],l,0,?_,λj v=> ?_⟩,λi j z _=> ?_,s0,rfl⟩;·unfold rr;exact Nat.le_trans (List.length_filter_le _ _) s0
   ·refine⟨λi hi=>(S.mem i).1 hi,S.sA,λp hp=>(by cases hp),λp hp=>(by cases hp),List.Pairwise.nil,λp hp=>(by cases hp),λp hp=>(by cases hp),by rw[<-S.rm];exact e,F,I,u.1,λt=> .inr (u.2 t),λx hx J=> ?_,λq o=>absurd o (tj _),λy L V M=>absurd ((S.mem y).2 L) M,λr c s hs _ _ _=> ?_⟩;·exact⟨λg=>absurd ((S.mem x).2 hx) g,λg=>absurd g (tj _)⟩
    obtain⟨G,O,U⟩:=n _ hs;exact⟨G,by simpa using O,U⟩
   ·unfold Ex;have:(ND ops.size false).getD j false=false:=by simp[mR,v]
    rw[this];constructor;·intro g;cases g
    rintro(g | ⟨q,o,_⟩);·exact absurd ((S.mem j).2 v) g
    cases o
   rename_i W;by_cases hi:i<ops.size
   ·simp[mR,hi] at z
   simp[mR,hi] at z
theorem aeN{N:Nat}{ops:Array cu}{d:je}(S:DS P N ops d)(U:P.follows .mixedOrders=true)(V:S.ce):zF P N ops d:=by
 intro Zl hd B h ro β fr aj H H1 H' v A k R f args a w id Q hh W X rm hA hk J ⟨⟨c,H2⟩,hz⟩ hw hp Y;have u:=Kh hA J;subst u;rw[S.rm] at rm;obtain⟨TA,T2,ht,Z,h2⟩:=List.map_eq_append_iff.1 rm;obtain⟨k',TR,qu,fB,_⟩:=List.map_eq_cons_iff.1 h2;subst qu fB Z;have n : ∀x∈TA,oT (S.af x).op=true:=λx hx=>hA _ (List.mem_map.2 ⟨x,hx,rfl⟩);obtain⟨C,rfl,D,o,F⟩:=V Zl hd TA k' TR ht n (by rw[hk];rfl);have G:=Kh (λx hx=>by obtain⟨z,hz,rfl⟩:=List.mem_map.1 hx;exact(o z hz).1) hz;subst G;have bq:k'<ops.size:=(S.mem k').1 (by rw[ht];simp);have L:=S.sA;rw[ht] at L;obtain⟨p1,p2,q⟩:=yk L;have M : ∀t∈(S.af k').eN,aj t=c t:=λt jJ=>(D2 (λy I e=>by
  obtain⟨z,hz,rfl⟩:=List.mem_map.1 I;rw[yw] at e;exact(o z hz).2 t e jJ) hz).symm
 have lI:args.map (aO aj)=args.map (aO c):=vT λx hx=>yd (l:=args) (λt ht=>M t (by simp only[Item.eN,hk,fF.bB,fo];exact .inl ht)) x hx;rw[lI] at hp;rw[ye M] at hw;have s : ∀j∈TA++C,j<ops.size:=λj hj=>(S.mem j).1 (by
  rw[ht];rcases List.mem_append.1 hj with hj | hj
  ·simp[hj]
  simp[D.subset hj])
 refine wpIn_region_any U ?_;obtain⟨jW,mX⟩:=W.drew;refine O3.sound (S:=S) (β0:=β) (w0:=w) (TA:=TA++C) (fr:=fr) (f1:=c) hh (df:=a.defers) bq s ?_ (λx hx=> ?_) hk (λb hb=> ?_) (λj hj t h1 h2=> ?_) ?_ hw hp (fun β' w' a' v' q1 q2 q3 q4 q5=>Y β' w' a' v' q1 q2 q3 q4 λt ht=>q5 t λj hj=>ht _ (by rw[S.rm];exact List.mem_map.2 ⟨j,(S.mem j).2 (s j hj),rfl⟩)) ops.size _ a _ ?_ ?_ ⟨⟨β,jW,mX,?_⟩,λi j O _=> ?_,s0,rfl⟩;·rw[List.pairwise_append] at q⊢;exact⟨q.1,q.2.1.sublist D,λx hx y I=>q.2.2 x hx y (D.subset I)⟩
 ·rcases List.mem_append.1 hx with hx | hx
  ·rw[O2 (n x hx)];exact n x hx
  exact(o x hx).1
 ·have:=(S.mem b).2 hb;rw[ht] at this;rcases List.mem_append.1 this with g | g
  ·exact .inl (vU _ g)
  rcases List.mem_cons.1 g with g | g
  ·exact .inr (.inl g)
  rcases F b g with g | g
  ·exact .inl (List.mem_append_right _ g)
  exact .inr (.inr g)
 ·rcases List.mem_append.1 hj with hj | hj
  ·exact S.d4 j k' (s j (vU _ hj)) bq (by rw[hk];rfl) (p1 j hj)
  exact absurd h2 ((o j hj).2 t h1)
 ·rw[ql];refine VG (R:=TA.map λi=>l7 (S.af i)) ?_ hz;rw[vT (g:=S.af) λx hx=>O2 (n x hx)];exact J
 ·unfold rr;exact Nat.le_trans (List.length_filter_le _ _) s0
 ·simp[mR,bq]
 ·have:m9 S (TA++C) (ND ops.size false) fr c=fr:=by
   funext t
   unfold m9;rw[iN];rintro⟨j,j1,j2,j3⟩;have hj:=s j j1;simp[mR,hj] at j2
  rw[this];exact X
 by_cases hi:i<ops.size
 ·simp[mR,hi] at O
 simp[mR,hi] at O
theorem aeP{N:Nat}{ops:Array cu}{d:je}(S:DS P N ops d)(c:P.follows .mixedOrders=true)(e:S.ce):zD P N ops d/\zF P N ops d:=⟨aeL S c,aeN S c e⟩
end
section
open Go Go.RowKit
variable {P:aZ}
def aeQ(acc:List Nat)(o:cu):Nat:=o.after.toList.foldl (λs e=>if Db .any e then s ||| (2 ^ e.on ||| acc.getD e.on 0) else s) 0
def O5:List cu->List Nat->List Nat
 | [],acc=>acc
 | o::r,acc=>O5 r (acc++ [aeQ acc o])
theorem VO{ops:Array cu}{acc:List Nat}{i:Nat}{o:cu}(ho:ops[i]? = some o)(f : ∀a j,(acc.getD a 0).testBit j=true->fV ops a j) : ∀(es:List Edge) (s:Nat),(∀e∈es,e∈o.after.toList)->(∀j,s.testBit j=true->fV ops i j)->
 ∀j,(es.foldl (λs e=>if Db .any e then s ||| (2 ^ e.on ||| acc.getD e.on 0) else s) s).testBit j=true->fV ops i j
 | [],s,_,hs=>hs
 | e::es,s,he,hs=>by
   simp only[List.foldl_cons];refine VO ho f es _ (λx hx=>he x (kw _ hx)) λj c=> ?_;split at c
   ·rename_i hb;rw[Nat.testBit_or,Nat.testBit_or] at c;simp only[zl] at c;have n:fV ops i e.on:= .GH ho (he e (np ..)) hb;rcases c with g | g | g
    ·exact hs j g
    ·rw[Nat.testBit_two_pow] at g;have:e.on=j:=by simpa using g
     rw[<-this];exact n
    exact .trans n (f _ _ g)
   exact hs j c
theorem VP{ops:Array cu} : ∀(l:List cu) (acc:List Nat),(∀k (h:k<l.length),ops[acc.length+k]? = some l[k])->(∀a j,(acc.getD a 0).testBit j=true->fV ops a j)->∀a j,((O5 l acc).getD a 0).testBit j=true->fV ops a j
 | [],acc,_,f=>f
 | o::l,acc,hl,f=>by
   have g:=hl 0 s0;simp only[Nat.add_zero,List.getElem_cons_zero] at g;refine VP l _ (λk hk=> ?_) λa j c=> ?_;·have:=hl (k+1) (by simpa using hk);simp only[List.length_append,List.length_singleton,List.getElem_cons_succ] at this⊢;rw[show acc.length+1+k=acc.length+(k+1) by omega];exact this
   rw[ud] at c;by_cases e:a<acc.length
   ·rw[uc e,<-ud] at c;exact f a j c
   rw[th Om] at c;by_cases i:a=acc.length
   ·subst i;simp only[Nat.sub_self,Jn,qj] at c;exact VO g f _ 0 (λ_ h=>h) (λj h=>by simp at h) j c
   obtain⟨q,n⟩ : ∃q,a-acc.length=q+1:=⟨a-acc.length-1,Om⟩;rw[n] at c;simp at c
def VQ:Item:=⟨none, .p (.tu (.const undef)),none⟩
def aeR(k:Nat)(af:Nat->Item)(ms:List Nat):List Nat:=
 let c:=(mu k).filter λi=>cn (af i).op
 let l:=c.foldl (λacc w=>acc++((mu k).filter λi=>(ms.getD w 0).testBit i && !acc.contains i)++(if acc.contains w then [] else [w])) []
 l++(mu k).filter λi=> !l.contains i
structure DD where
 k:Nat
 af:Nat->Item
 ms:List Nat
 pJ:List Nat
 pos:Nat->Nat
 rk:Nat->Nat
 lo:Nat->Nat
def DD.sB(D:DD)(i j:Nat):Bool:=(D.ms.getD i 0).testBit j
def DD.w (D:DD)(i:Nat):Bool:=cn (D.af i).op
def DD.a (D:DD)(i:Nat):Bool:=kD (D.af i).op
def uC (k:Nat)(p:Nat->Bool):Bool:=(mu k).all p
theorem wx{k:Nat}{p:Nat->Bool}(h:uC k p=true) : ∀i,i<k->p i=true:=λi hi=>List.all_eq_true.1 h i (List.mem_range.2 hi)
def G1 (k:Nat)(p:Nat->Bool):Bool:=(mu k).any p
theorem Kl{k:Nat}{p:Nat->Bool}(h:G1 k p=true) : ∃i,i<k/\p i=true:=by
 obtain⟨i,h1,h2⟩:=List.any_eq_true.1 h;exact⟨i,List.mem_range.1 h1,h2⟩
def mb (a b:Bool):Bool:= !a||b
theorem mJ{a b:Bool}(h:mb a b=true)(ha:a=true):b=true:=by subst ha;simpa[mb] using h
def yy(x y:Item):Bool:=match x.dst with
 | some t=>y.eN.contains t
 | none=>false
theorem G2{x y:Item}{t:Nat}(h:x.dst=some t)(hu:t∈y.eN):yy x y=true:=by simp[yy,h,hu]
def VS(x y:Item):Bool:=match x.dst,y.dst with
 | some s,some t=>s==t
 | _,_=>false
def VT(x y:Item):Bool:=match x.dst,y.guard with
 | some t,some (s,_)=>s==t
 | _,_=>false
def O6:fF->Bool
 | .l _=>true
 | _=>false
def DD.free(D:DD)(r:Nat):Bool:=uC D.k λx=>mb (decide (D.pos x<D.pos r)) (mb (D.w x) (D.sB r x)&&mb (D.a x) (G1 D.k (λy=>D.w y&&decide (D.pos x<D.pos y)&&D.sB r y)||yy (D.af x) (D.af r)))
def DD.hi(D:DD)(r:Nat):Nat:=((mu D.k).filter λx=>D.w x&&decide (D.pos x<=D.pos r)).length
def DD.m7(D:DD):List (Item×Nat):=(mu D.k).flatMap λr=>if O6 (D.af r).op && !D.free r then ((mu (D.hi r+1)).filter λs=>decide (D.lo r<=s)).map λs=>(D.af r,s) else []
def DD.ok(D:DD)(ops:Array cu):Bool:=
 decide (D.pJ.Pairwise λa b=>D.pos a<D.pos b)&&uC D.k (λi=>D.pJ.contains i)&&D.pJ.all (λi=>decide (i<D.k)) &&
 uC D.k (λi=>match ops[i]? with
  | some o=>o.after.toList.all λe=>mb (Db .any e) (decide (e.on<D.k)&&decide (D.pos e.on<D.pos i))
  | none=>true) &&
 uC D.k (λi=>uC D.k λj=>
  mb (VS (D.af i) (D.af j)) (decide (i=j)) &&
  mb (!decide (i=j)&&yy (D.af i) (D.af j)) (D.sB j i||(D.sB i j && !D.a j)) &&
  mb (D.a i) (!VT (D.af i) (D.af j)) &&
  mb (D.w j&&decide (D.pos i<D.pos j)) (D.sB j i) &&
  mb (!D.w i&&D.a j&&yy (D.af j) (D.af i)) (uC D.k λx=>mb (decide (D.pos x<D.pos j)) (mb (D.w x) (D.sB i x)&&mb (D.a x) ((G1 D.k λy=>D.w y&&decide (D.pos x<D.pos y)&&decide (D.pos y<D.pos j))||D.sB i x))) &&
  mb (D.w i&&D.w j) (mb (decide (D.rk i<D.rk j)) (decide (D.pos i<D.pos j))&&mb (decide (D.rk i=D.rk j)) (decide (i=j))) &&
  mb (D.w j) (decide (D.rk j<D.hi i)||decide (D.pos i<D.pos j))) &&
 uC D.k (λj=>mb (D.a j) (!yy (D.af j) (D.af j)) &&
  mb (D.w j) (uC (D.rk j) λq=>G1 D.k λy=>D.w y&&decide (D.rk y=q)) &&
  uC (D.lo j) (λq=>G1 D.k λx=>D.w x&&decide (D.rk x=q)&&D.sB j x) &&
  mb (O6 (D.af j).op) (D.free j||uC D.k λi=>mb (yy (D.af i) (D.af j)) (D.sB j i)))
def zP (ops:Array cu)(l:List Item):DD:=
 let k:=ops.size
 let af:=λi=>l.getD i VQ
 let ms:=O5 ops.toList []
 let pJ:=aeR k af ms
 let pos:=λi=>pJ.idxOf i
 let rk:=λi=>((mu k).filter λx=>cn (af x).op&&decide (pos x<pos i)).length
 { k,af,ms,pJ,pos,rk,lo:=λr=>((mu k).filter λx=>cn (af x).op&&(ms.getD r 0).testBit x).length }
def DD.wi(D:DD):Option (List Item):=match D.pJ.dropWhile λi=>oT (D.af i).op with
 | []=>none
 | k::R=>if (R.filter λb=> !D.sB b k).all (λz=>oT (l7 (D.af z)).op && !yy (D.af z) (D.af k))=true then some ((R.filter λb=> !D.sB b k).map λz=>l7 (D.af z)) else none
theorem VU{p:Nat->Bool} : ∀ {A:List Nat} {k:Nat} {R:List Nat},(∀x∈A,p x=true)->p k=false->(A++k::R).dropWhile p=k::R
 | [],k,R,_,hk=>by simp[List.dropWhile,hk]
 | x::A,k,R,hA,hk=>by
   rw[aS,List.dropWhile_cons_of_pos (hA x s0)];exact VU (λy c=>hA y (by simp[c])) hk
def jK (P:aZ)(N:Nat)(ops:Array cu):Option je:=
 match qt P N ops ops.toList with
 | some l=>if P.follows .mixedOrders&&(zP ops l).ok ops then some ⟨(zP ops l).pJ.map (zP ops l).af,(zP ops l).m7,(zP ops l).wi⟩ else none
 | none=>none
theorem Km{N:Nat}{ops:Array cu}{d:je}(h:jK P N ops=some d):zD P N ops d/\zF P N ops d:=by
 unfold jK at h;split at h;rotate_left
 ·cases h
 rename_i l hl;split at h;rotate_left
 ·cases h
 rename_i hg;simp only[eY] at hg;obtain⟨W,G⟩:=hg;simp only[Option.some.injEq] at h;obtain⟨v,rm⟩:=GB hl;have n : ∀i j,(zP ops l).sB i j=true->fV ops i j:=λi j X=>
  VP ops.toList [] (λk hk=>by
   simp only[List.length_nil,Nat.zero_add];have Y:k<ops.size:=by simpa using hk
   simp[Y]) (λa j f=>by simp at f) i j X
 have I : ∀i o,ops[i]? = some o->uu P N ops o ((zP ops l).af i):=λi o ho=>by
  obtain⟨hi,rfl⟩:=Array.getElem?_eq_some_iff.1 ho;have Q:i<l.length:=by rw[v];simpa using hi
  have:=rm i Q (by simpa using hi);rw[Ji] at this;show uu P N ops ops[i] (l.getD i VQ);rw[ud,dA Q];exact this
 generalize Z:zP ops l=D at *;have hk:D.k=ops.size:=by rw[<-Z];rfl
 unfold DD.ok at G;simp only[eY] at G;obtain⟨⟨⟨⟨⟨o1,o2⟩,o3⟩,o4⟩,o5⟩,o6⟩:=G;have u:=λi j (hi:i<ops.size) (f:j<ops.size)=>wx (wx o5 i Om) j Om;simp only[eY] at u;have C:=λj (f:j<ops.size)=>wx o6 j Om;simp only[eY] at C;have J : ∀i j,fV ops i j->i<ops.size->j<ops.size/\D.pos j<D.pos i:=by
  intro i j ha;induction ha with
  | @GH i o e ho he hb=>
    intro hi;have:=wx o4 i Om;rw[ho] at this;have:=mJ (List.all_eq_true.1 this e he) hb;simp only[eY,decide_eq_true_eq] at this;exact⟨Om,this.2⟩
  | @trans i j m h k OS Vh=>
    intro hi;obtain⟨a1,a2⟩:=OS hi;obtain⟨b1,b2⟩:=Vh a1;exact⟨b1,Om⟩
 refine aeP (S:=⟨D.af,I,D.pJ,by rw[<-h],λi=> ?_,D.pos,of_decide_eq_true o1,λi j hi ha=>J i j ha hi,λi j t hi f h1 h2=> ?_,λi j t hi f av h1 h2=> ?_,λj t f h1 h2 hu=> ?_,λi j t b hi f h1 h2 h3=> ?_,λi j hi f h1 h2=> ?_,
  λdd i t hd hi h1 h2 h3 h4 x hx hp=> ?_,D.rk,λx y hx L h1 h2 h3=> ?_,λx q hx h1 h2=> ?_,λx y hx L h1 h2 h3=> ?_,D.lo,D.hi,λr q F hq=> ?_,λr x F hx h1=> ?_,λr x F h1=> ?_⟩) W ?wi
 case wi=>
  intro Zl hp A k R ht hA hk;rw[<-h] at hp;have hp:D.wi=some Zl:=hp;have ht:D.pJ=A++k::R:=ht;unfold DD.wi at hp;rw[ht,VU (p:=λi=>oT (D.af i).op) hA hk] at hp;simp only at hp;split at hp
  ·rename_i j0;cases hp;refine⟨_,rfl,List.filter_sublist,λz hz=> ?_,λb hb=> ?_⟩;·have:=List.all_eq_true.1 j0 z hz;simp only[eY,xj] at this;refine⟨this.1,λt h1 h2=> ?_⟩;rw[G2 h1 h2] at this;cases this.2
   cases U:D.sB b k with
   | true=>exact .inr (n _ _ U)
   | false=>exact .inl (List.mem_filter.2 ⟨hb,by rw[U];rfl⟩)
  cases hp
 ·constructor;·intro hi;have:=List.all_eq_true.1 o3 i hi;have:=of_decide_eq_true this;omega
  intro hi;have:=wx o2 i Om;simpa using this
 ·have:=mJ (u i j hi f).1.1.1.1.1.1 (by simp[VS,h1,h2]);exact of_decide_eq_true this
 ·have:=mJ (u i j hi f).1.1.1.1.1.2 (by simp[av,G2 h1 h2]);simp only[zl,eY,xj] at this;rcases this with g | ⟨g,g'⟩
  ·exact .inl (n _ _ g)
  exact .inr ⟨n _ _ g,g'⟩
 ·have:=mJ (C j f).1.1.1 h1;rw[G2 h2 hu] at this;cases this
 ·have:=mJ (u i j hi f).1.1.1.1.2 h1;simp[VT,h2,h3] at this
 ·exact n _ _ (mJ (u i j hi f).1.1.1.2 (by simp only[eY,decide_eq_true_eq];exact⟨h1,h2⟩))
 ·have:=mJ (u dd i hd hi).1.1.2 (by simp only[eY,xj];exact⟨⟨h1,h2⟩,G2 h3 h4⟩);have:=mJ (wx this x Om) (by simpa using hp);simp only[eY] at this;refine⟨λg=>n _ _ (mJ this.1 g),λg=> ?_⟩;have g2:=mJ this.2 g;rw[zl] at g2;rcases g2 with g2 | g2
  ·obtain⟨y,M,c⟩:=Kl g2;simp only[eY,decide_eq_true_eq] at c;exact .inl ⟨y,Om,c.1.1,c.1.2,c.2⟩
  exact .inr (n _ _ g2)
 ·have:=mJ (u x y hx L).1.2 (by simp only[eY];exact⟨h1,h2⟩);simp only[eY] at this;exact of_decide_eq_true (mJ this.1 (by simpa using h3))
 ·obtain⟨y,M,c⟩:=Kl (wx (mJ (C x hx).1.1.2 h1) q h2);simp only[eY,decide_eq_true_eq] at c;exact⟨y,Om,c.1,c.2⟩
 ·have:=mJ (u x y hx L).1.2 (by simp only[eY];exact⟨h1,h2⟩);simp only[eY] at this;exact of_decide_eq_true (mJ this.2 (by simpa using h3))
 ·obtain⟨y,M,c⟩:=Kl (wx (C r F).1.2 q hq);simp only[eY,decide_eq_true_eq] at c;exact⟨y,Om,c.1.1,c.1.2,n _ _ c.2⟩
 ·have:=mJ (u r x F hx).2 h1;simpa using this
 have V:O6 (D.af r).op=true:=by rw[h1];rfl
 have:=mJ (C r F).2 V;rw[zl] at this;cases O:D.free r with
 | true=>
   left;intro x hx hp;have:=mJ (wx O x Om) (by simpa using hp);simp only[eY] at this;refine⟨λg=>n _ _ (mJ this.1 g),λg=> ?_⟩;have:=mJ this.2 g;rw[zl] at this;rcases this with g | g
   ·obtain⟨y,M,c⟩:=Kl g;simp only[eY,decide_eq_true_eq] at c;exact .inl ⟨y,Om,c.1.1,c.1.2,n _ _ c.2⟩
   right;unfold yy at g;cases hd:(D.af x).dst with
   | none=>rw[hd] at g;cases g
   | some t=>rw[hd] at g;exact⟨t,rfl,by simpa using g⟩
 | false=>
   right;rw[O] at this;simp only[aM,false_or] at this;refine⟨λt j ht f hd=>n _ _ (mJ (wx this j Om) (G2 hd ht)),λs s1 s2=> ?_⟩;rw[<-h];show(D.af r,s)∈D.m7;unfold DD.m7;refine List.mem_flatMap.2 ⟨r,List.mem_range.2 Om,?_⟩;rw[V,O];simp only[FH,Bool.and_self,iT];exact List.mem_map.2 ⟨s,List.mem_filter.2 ⟨List.mem_range.2 Om,by simpa using s1⟩,rfl⟩
end
section
open Go Go.RowKit
variable {T:cF}
def G3 (T:cF)(b:bP)(Q:bQ->Fr->CH->Prop):bQ->Fr->CH->Prop:=λx fr H=>match x with
 | .normal=>dx T b fr H Q
 | x=>Q x fr H
def Kn(id:Nat)(Q:bQ->Fr->CH->Prop):bQ->Fr->CH->Prop:=λx fr H=>match x with
 | .exit i=>if i=id then Q .normal fr H else Q (.exit i) fr H
 | x=>Q x fr H
def G4(T:cF)(r:List Item)(fr:Fr)(d:Option Nat)(K:Fr->CH->Prop):ae->CH->Prop:=λv H=>nF T r (bE fr d v) H K
def G5 (o:Option ae)(K:ae->CH->Prop)(H:CH):Prop:=match o with
 | some v=>K v H
 | none=>False
def G6 (o:Option (ae×CH))(K:ae->CH->Prop):Prop:=match o with
 | some q=>K q.1 q.2
 | none=>False
def O7 (o:Option (List ae×aH×Kd×AK))(K:ae->CH->Prop)(H:CH):Prop:=match o with
 | some q=>K (kz q.2.2.2 H.nx) (H.new (.cells q.1 q.2.1 q.2.2.1))
 | none=>False
def G7 (o:Option (List ae))(Q:ae->CH->Prop)(H:CH):Prop:=match o with
 | some vs=>Q (eV vs) H
 | none=>False
theorem D6{v:ae}{K:ae->CH->Prop}{H:CH}:G5 (some v) K H↔K v H:=fI
theorem Ko{v:ae}{K:ae->CH->Prop}{H:CH}:G6 (some (v,H)) K↔K v H:=fI
theorem Kq{cs:List ae}{e:aH}{k:Kd}{mk:AK}{K:ae->CH->Prop}{H:CH}:O7 (some (cs,e,k,mk)) K H↔K (kz mk H.nx) (H.new (.cells cs e k)):=fI
theorem Ks{vs:List ae}{Q:ae->CH->Prop}{H:CH}:G7 (some vs) Q H↔Q (eV vs) H:=fI
def zQ (res:List nD)(Q:ae->CH->Prop):bQ->Fr->CH->Prop:=λx fr H=>match x with
 | .exit _=>False
 | _=>G7 (ct fr H res) Q H
theorem D7{a b:bP}{fr:Fr}{H:CH}{Q:bQ->Fr->CH->Prop}:dx T (.seq a b) fr H Q↔dx T a fr H (G3 T b Q):=J'
theorem O8{id:Nat}{c:bP}{fr:Fr}{H:CH}{Q:bQ->Fr->CH->Prop}:dx T (.block id c) fr H Q↔dx T c fr H (Kn id Q):=Vd
theorem D8{b:bP}{Q:bQ->Fr->CH->Prop}{fr:Fr}{H:CH}:G3 T b Q .normal fr H↔dx T b fr H Q:=fI
theorem VV{b:bP}{Q:bQ->Fr->CH->Prop}{fr:Fr}{H:CH}:G3 T b Q .ret fr H↔Q .ret fr H:=fI
theorem VW{b:bP}{Q:bQ->Fr->CH->Prop}{i:Nat}{fr:Fr}{H:CH}:G3 T b Q (.exit i) fr H↔Q (.exit i) fr H:=fI
theorem VX{id:Nat}{Q:bQ->Fr->CH->Prop}{fr:Fr}{H:CH}:Kn id Q .normal fr H↔Q .normal fr H:=fI
theorem VY{id:Nat}{Q:bQ->Fr->CH->Prop}{fr:Fr}{H:CH}:Kn id Q .ret fr H↔Q .ret fr H:=fI
theorem VZ{id i:Nat}{Q:bQ->Fr->CH->Prop}{fr:Fr}{H:CH}:Kn id Q (.exit i) fr H↔if i=id then Q .normal fr H else Q (.exit i) fr H:=fI
theorem V0{res:List nD}{Q:ae->CH->Prop}{fr:Fr}{H:CH}:zQ res Q .normal fr H↔G7 (ct fr H res) Q H:=fI
theorem O9{res:List nD}{Q:ae->CH->Prop}{fr:Fr}{H:CH}:zQ res Q .ret fr H↔G7 (ct fr H res) Q H:=fI
theorem G8{af:List Item}{fr:Fr}{H:CH}{Q:bQ->Fr->CH->Prop}:dx T (.gG af) fr H Q↔nF T af fr H (Q .normal):=Vb
theorem V1{af:List Item}{f:Option (List Item)}{fr:Fr}{H:CH}{Q:bQ->Fr->CH->Prop}:dx T (.lF ⟨af,[],f⟩) fr H Q↔nF T af fr H (Q .normal):=by
 rw[OM];constructor
 ·rintro⟨n,fr',H',l,h1,h2,h3⟩;refine⟨n,fr',H',?_,h3⟩;clear h2 h3;induction af generalizing fr H l with
  | nil=>simp only[cE,Option.some.injEq,Prod.mk.injEq] at h1;obtain⟨rfl,rfl,rfl⟩:=h1;rfl
  | cons it af e=>
    simp only[cE,c7] at h1⊢
    cases hs:cA (da T n) it fr H with
    | none=>rw[hs] at h1;cases h1
    | some q=>
      rw[hs] at h1;simp only at h1⊢
      cases hd:cE (da T n) af q.1 q.2 with
      | none=>rw[hd] at h1;cases h1
      | some z=>obtain⟨a,b,c⟩:=z;rw[hd] at h1;simp only[fm,Option.some.injEq,Prod.mk.injEq] at h1;obtain⟨rfl,rfl,_⟩:=h1;exact e _ hd
 rintro⟨n,fr',H',h1,h3⟩;have : ∃l,cE (da T n) af fr H=some (fr',H',l):=by
  clear h3;induction af generalizing fr H with
  | nil=>simp only[c7,Option.some.injEq,Prod.mk.injEq] at h1;obtain⟨rfl,rfl⟩:=h1;exact⟨[],rfl⟩
  | cons it af e=>
    simp only[cE,c7] at h1⊢
    cases hs:cA (da T n) it fr H with
    | none=>rw[hs] at h1;cases h1
    | some q=>
      rw[hs] at h1;obtain⟨l,hl⟩:=e h1;simp only[hl];exact⟨_,rfl⟩
 obtain⟨l,hl⟩:=this;exact⟨n,fr',H',l,hl,λp hp=>by simp at hp,h3⟩
def Bz(T:cF)(v:ae)(a b:bP)(fr:Fr)(H:CH)(Q:bQ->Fr->CH->Prop):Prop:=match v with
 | .bool t=>if t=true then dx T a fr H Q else dx T b fr H Q
 | _=>False
theorem Kt{c:au}{a b:bP}{fr:Fr}{H:CH}{Q:bQ->Fr->CH->Prop}:dx T (.cond c a b) fr H Q↔Bz T (aO fr c) a b fr H Q:=ON
theorem Ku{a b:bP}{fr:Fr}{H:CH}{Q:bQ->Fr->CH->Prop}:Bz T (.bool true) a b fr H Q↔dx T a fr H Q:=by simp[Bz]
theorem Kv{a b:bP}{fr:Fr}{H:CH}{Q:bQ->Fr->CH->Prop}:Bz T (.bool false) a b fr H Q↔dx T b fr H Q:=by simp[Bz]
theorem aeU{t:Bool}{a b:bP}{fr:Fr}{H:CH}{Q:bQ->Fr->CH->Prop}(h1:t=true->dx T a fr H Q)(h2:t=false->dx T b fr H Q):Bz T (.bool t) a b fr H Q:=by
 cases t;·exact Kv.2 (h2 rfl)
 exact Ku.2 (h1 rfl)
def nZ (T:cF)(v:ae)(b:Bool)(d:Option Nat)(op:fF)(r:List Item)(fr:Fr)(H:CH)(K:Fr->CH->Prop):Prop:=match v with
 | .bool c=>if c=b then lH T fr H op (G4 T r fr d K) else nF T r (bE fr d jH) H K
 | .chan none=>nF T r (bE fr d jH) H K
 | _=>False
theorem V2{d:Option Nat}{op:fF}{s:Nat}{b:Bool}{r:List Item}{fr:Fr}{H:CH}{K:Fr->CH->Prop}:nF T (⟨d,op,some (s,b)⟩::r) fr H K↔nZ T (fr s) b d op r fr H K:=by
 rw[J8];simp only[ec];generalize fr s=v;unfold nZ;cases v with
 | bool c=>
   simp only;by_cases e:c=b
   ·subst e;simp only[beq_self_eq_true,iT];exact fI
   have:(c==b)=false:=by simpa using e
   simp only[this,iN e]
 | chan r=>cases r<;>exact fI
 | _=>exact fI
variable {d:Option Nat} {op:fF} {r:List Item} {fr:Fr} {H:CH} {K:Fr->CH->Prop}
theorem V3:nZ T (.bool true) true d op r fr H K↔lH T fr H op (G4 T r fr d K):=by simp[nZ]
theorem V4:nZ T (.bool false) false d op r fr H K↔lH T fr H op (G4 T r fr d K):=by simp[nZ]
theorem V5:nZ T (.bool true) false d op r fr H K↔nF T r (bE fr d jH) H K:=by simp[nZ]
theorem V6:nZ T (.bool false) true d op r fr H K↔nF T r (bE fr d jH) H K:=by simp[nZ]
theorem V7{b:Bool}:nZ T jH b d op r fr H K↔nF T r (bE fr d jH) H K:=by simp[nZ,jH]
theorem aeV{t b:Bool}(h1:t=true->nZ T (.bool true) b d op r fr H K)(h2:t=false->nZ T (.bool false) b d op r fr H K):nZ T (.bool t) b d op r fr H K:=by
 cases t;·exact h2 rfl
 exact h1 rfl
theorem G9{d:Option Nat}{op:fF}{r:List Item}{fr:Fr}{H:CH}{K:Fr->CH->Prop}:nF T (⟨d,op,none⟩::r) fr H K↔lH T fr H op (G4 T r fr d K):=J8
theorem G'{r:List Item}{fr:Fr}{d:Option Nat}{K:Fr->CH->Prop}{v:ae}{H:CH}:G4 T r fr d K v H↔nF T r (bE fr d v) H K:=fI
theorem D9{fr:Fr}{H:CH}{x:dM}{K:ae->CH->Prop}:lH T fr H (.p x) K↔G5 (pop (aO fr) x) K H:=by
 rw[U7];cases pop (aO fr) x<;>simp[G5]
theorem Kw{fr:Fr}{H:CH}{x:gU}{K:ae->CH->Prop}:lH T fr H (.l x) K↔G5 (bg H (aO fr) x) K H:=by
 rw[OJ];cases bg H (aO fr) x<;>simp[G5]
theorem Kx{fr:Fr}{H:CH}{x:oO}{K:ae->CH->Prop}:lH T fr H (.a x) K↔O7 (fT (aO fr) x) K H:=by
 rw[U8];cases fT (aO fr) x with
 | none=>simp[O7]
 | some q=>
   obtain⟨cs,e,k,mk⟩:=q;constructor;·rintro⟨cs',e',k',c,h,hk⟩;cases h;exact hk
   intro h;exact⟨cs,e,k,mk,rfl,h⟩
theorem Ky{fr:Fr}{H:CH}{x:hO}{K:ae->CH->Prop}:lH T fr H (.w x) K↔G6 (cy H (aO fr) x) K:=by
 rw[U9];cases cy H (aO fr) x with
 | none=>simp[G6]
 | some q=>
   constructor;·rintro⟨v,H',h,hk⟩;cases h;exact hk
   intro h;exact⟨q.1,q.2,rfl,h⟩
def O'(T:cF)(v:ae)(args:List ae)(H:CH)(K:ae->CH->Prop):Prop:=match v with
 | .func (.func f) _ dK=>bw T f (args++dK.toList) H K
 | .func (.yield l) _ _=>OI T l args H K
 | _=>False
theorem V8{fr:Fr}{H:CH}{g:au}{args:List au}{K:ae->CH->Prop}:lH T fr H (.ny g args) K↔O' T (aO fr g) (args.map (aO fr)) H K:=aeq
theorem V9{f:bk}{a dK:Array ae}{args:List ae}{H:CH}{K:ae->CH->Prop}:O' T (.func (.func f) a dK) args H K↔bw T f (args++dK.toList) H K:=fI
theorem V'{l:Nat}{a dK:Array ae}{args:List ae}{H:CH}{K:ae->CH->Prop}:O' T (.func (.yield l) a dK) args H K↔OI T l args H K:=fI
def Kz(T:cF)(v:ae)(key:Nat×Nat)(fr:Fr)(H:CH)(Q:bQ->Fr->CH->Prop):Prop:=match v with
 | .func (.func f) _ dK=>bw T f (.func (.yield H.nx) #[] #[]::dK.toList) (H.new (.loop .ready none fr key)) (OO H.nx fr Q)
 | _=>False
theorem Wa{g:au}{key:Nat×Nat}{fr:Fr}{H:CH}{Q:bQ->Fr->CH->Prop}:dx T (.rh g key) fr H Q↔Kz T (aO fr g) key fr H Q:=by
 constructor
 ·rintro⟨n,x,fr',H',h1,h2⟩;simp only[bG] at h1;unfold Kz;split at h1
  ·rename_i f c dK hg;rw[hg];cases hc:(da T n).call f (Value.func (.yield H.nx) #[] #[]::dK.toList) (H.new (.loop .ready none fr key)) with
   | none=>rw[hc] at h1;cases h1
   | some q=>
     rw[hc] at h1;refine⟨n,q.1,q.2,hc,?_⟩;simp only at h1;split at h1
     ·rename_i st gN aj e ho;split at h1;·cases h1
      rename_i hb;simp only[Option.some.injEq,Prod.mk.injEq] at h1;obtain⟨rfl,rfl,rfl⟩:=h1;exact⟨_,_,_,_,ho,hb,h2⟩
     cases h1
  cases h1
 intro h;unfold Kz at h;split at h;·rename_i f c dK hg;exact aes hg h
 exact h.elim
theorem Wb{f:bk}{a dK:Array ae}{key:Nat×Nat}{fr:Fr}{H:CH}{Q:bQ->Fr->CH->Prop}:Kz T (.func (.func f) a dK) key fr H Q↔bw T f (.func (.yield H.nx) #[] #[]::dK.toList) (H.new (.loop .ready none fr key)) (OO H.nx fr Q):=fI
theorem Pa{fr:Fr}{H:CH}{f:bk}{args:List au}{K:ae->CH->Prop}:lH T fr H (.call f args) K↔bw T f (args.map (aO fr)) H K:=fI
theorem cg{fr:Fr}{d t:Nat}{v:ae}:bE fr (some d) v t=if t=d then v else fr t:=rfl
theorem jx{fr:Fr}{v:ae}:bE fr none v=fr:=rfl
theorem cU{fr:Fr}{t:Nat}:aO fr (.tmp t)=fr t:=rfl
theorem dr{fr:Fr}{v:ae}:aO fr (.const v)=v:=rfl
theorem KA{fr:Fr}{f:bk}:aO fr (.func f)= .func (.func f) #[] #[]:=rfl
theorem gC{H:CH}{o:dm}:(H.new o).nx=H.nx+1:=rfl
theorem AW{H:CH}{l:Nat}{o:dm}:(H.set l o).nx=H.nx:=rfl
theorem Wd{H:CH}{o:dm}{k:Nat}(h:k=H.nx):(H.new o).ob k=o:=by simp[CH.new,h]
theorem kc{H:CH}{o:dm}{k:Nat}(h:k≠H.nx):(H.new o).ob k=H.ob k:=by simp[CH.new,h]
theorem We{H:CH}{o:dm}{l:Nat}:(H.set l o).ob l=o:=by simp[CH.set]
theorem Pb{H:CH}{o:dm}{l k:Nat}(h:k≠l):(H.set l o).ob k=H.ob k:=by simp[CH.set,h]
theorem Pd{f:bk}{rf:wk}(he:T.ext f=false)(e:T.fn f=some rf){args:List ae}{H:CH}{Q:ae->CH->Prop}(h:dx T rf.body (λt=>args.getD t undef) H (zQ rf.res Q)):bw T f args H Q:=by
 refine(aer he e).2 (h.mono λx fr' H' hx=> ?_);unfold zQ at hx;cases x with
 | exit i=>exact hx
 | normal=>simp only at hx⊢;cases c:ct fr' H' rf.res with
   | none=>rw[c] at hx;exact hx.elim
   | some vs=>rw[c] at hx;exact⟨vs,rfl,hx⟩
 | ret=>simp only at hx⊢;cases c:ct fr' H' rf.res with
   | none=>rw[c] at hx;exact hx.elim
   | some vs=>rw[c] at hx;exact⟨vs,rfl,hx⟩
theorem di{v:ae}{r:List ae}:(v::r).getD 0 undef=v:=rfl
theorem rv{v:ae}{r:List ae}{n:Nat}:(v::r).getD (n+1) undef=r.getD n undef:=rfl
def Ea(I:Nat->Fr->CH->Prop)(n:Nat)(Q:bQ->Fr->CH->Prop):bQ->Fr->CH->Prop:=λx fr H=>match x with
 | .normal=>∃m,m<n/\I m fr H
 | x=>Q x fr H
theorem Wf{I:Nat->Fr->CH->Prop}{n:Nat}{Q:bQ->Fr->CH->Prop}{fr:Fr}{H:CH}:Ea I n Q .normal fr H↔∃m,m<n/\I m fr H:=fI
theorem Wg{I:Nat->Fr->CH->Prop}{n:Nat}{Q:bQ->Fr->CH->Prop}{fr:Fr}{H:CH}:Ea I n Q .ret fr H↔Q .ret fr H:=fI
theorem Wh{I:Nat->Fr->CH->Prop}{n i:Nat}{Q:bQ->Fr->CH->Prop}{fr:Fr}{H:CH}:Ea I n Q (.exit i) fr H↔Q (.exit i) fr H:=fI
theorem aeW{c:bP}{Q:bQ->Fr->CH->Prop}(I:Nat->Fr->CH->Prop)(step : ∀n fr H,I n fr H->dx T c fr H (Ea I n Q)) : ∀ {n:Nat} {fr:Fr} {H:CH},I n fr H->dx T (.loop c) fr H Q:=by
 intro n;induction n using Nat.strongRecOn with
 | _ n e=>
   intro fr H h;refine Ka.2 ((step n fr H h).mono λx fr' H' hx=> ?_);cases x with
   | normal=>obtain⟨m,f,hi⟩:=hx;exact e m f hi
   | exit i=>exact hx
   | ret=>exact hx
section ints
variable {k:IntKind} {a b:Int}
theorem Wi:ck (binOp .add 0 (.int k a) (.int k b))=some (.int k (k.wrap (a+b))):=by simp[binOp,FG,ck,kx]
theorem Pe:ck (binOp .sub 0 (.int k a) (.int k b))=some (.int k (k.wrap (a-b))):=by simp[binOp,FG,ck,kx]
theorem Wj:ck (binOp .mul 0 (.int k a) (.int k b))=some (.int k (k.wrap (a*b))):=by simp[binOp,FG,ck,kx]
theorem Wk(h:b≠0):ck (binOp .quo 0 (.int k a) (.int k b))=some (.int k (k.wrap (a.tdiv b))):=by simp[binOp,Op.intDiv,ck,kx,h]
theorem Wl(h:b≠0):ck (binOp .rem 0 (.int k a) (.int k b))=some (.int k (a.tmod b)):=by simp[binOp,Op.intDiv,ck,kx,h]
theorem Wm:ck (binOp .eql 0 (.int k a) (.int k b))=some (.bool (decide (a=b))):=by simp[binOp,Op.intCmp,ck,kx];by_cases h:a=b<;>simp[h]
theorem Wn:ck (binOp .neq 0 (.int k a) (.int k b))=some (.bool (decide (a≠b))):=by simp[binOp,Op.intCmp,ck,kx];by_cases h:a=b<;>simp[h]
theorem Wo:ck (binOp .lss 0 (.int k a) (.int k b))=some (.bool (decide (a<b))):=by simp[binOp,Op.intCmp,ck,kx]
theorem Wp:ck (binOp .leq 0 (.int k a) (.int k b))=some (.bool (decide (a<=b))):=by simp[binOp,Op.intCmp,ck,kx]
theorem KB:ck (binOp .gtr 0 (.int k a) (.int k b))=some (.bool (decide (b<a))):=by simp[binOp,Op.intCmp,ck,kx]
theorem Wq:ck (binOp .geq 0 (.int k a) (.int k b))=some (.bool (decide (b<=a))):=by simp[binOp,Op.intCmp,ck,kx]
theorem aeX:ck (binOp .and 0 (.int k a) (.int k b))=some (.int k (k.wrap (BitVec.ofInt k.bits a &&& BitVec.ofInt k.bits b).toNat)):=by simp[binOp,Op.intBits,ck,kx]
theorem aeY:ck (binOp .or 0 (.int k a) (.int k b))=some (.int k (k.wrap (BitVec.ofInt k.bits a ||| BitVec.ofInt k.bits b).toNat)):=by simp[binOp,Op.intBits,ck,kx]
theorem Pf{k':IntKind}(h:0<=b):ck (binOp .shl 0 (.int k a) (.int k' b))=some (.int k (k.wrap (a*2 ^ min b.toNat k.bits))):=by
 have : ¬b<0:=by omega
 simp[binOp,Op.shift,ck,kx,this]
theorem Ha{k':IntKind}(h:0<=b):ck (binOp .shr 0 (.int k a) (.int k' b))=some (.int k (a.fdiv (2 ^ min b.toNat k.bits))):=by
 have : ¬b<0:=by omega
 simp[binOp,Op.shift,ck,kx,this]
theorem Eb{t:Bool}:ck (Op.unary .not (.bool t))=some (.bool (!t)):=rfl
theorem na(h1 : -9223372036854775808<=a)(h2:a<=9223372036854775807):IntKind.i64.wrap a=a:=by rw[IntKind.wrap_i64];omega
theorem Wr(h1:0<=a)(h2:a<18446744073709551616):IntKind.u64.wrap a=a:=by rw[IntKind.wrap_u64];omega
theorem Ws(h1:0<=a)(h2:a<256):IntKind.u8.wrap a=a:=by rw[IntKind.wrap_u8];omega
theorem Wt(h:0<=a):a.tdiv b=a / b:=by rw[Int.tdiv_eq_ediv_of_nonneg h]
theorem Wu(h:0<=a):a.tmod b=a % b:=by rw[Int.tmod_eq_emod_of_nonneg h]
end ints
end
end Can
end Go.Proofs.YtdfgkcoenagaaaaGreat
namespace Go.Proofs.YtdfgkcoenagaaaaGreat
open Go.ChangeShapes Go.WideShapes Go.ChangeAt Go.RowKit
section
variable {P:aZ} {T E sz:Nat} (hT:P.underlying T=some (.slice E)) (hE:(P.info? E).map (·.size)=some sz)
include hT hE
end
end Go.Proofs.YtdfgkcoenagaaaaGreat
namespace Go.Proofs.YtdfgkcoenagaaaaGreat
open Go.ChangeShapes Go.WideShapes Go.ChangeAt Go.RowKit Go.Deep
theorem Wv{α:Type}{n:Nat}{p:Nat->α->Prop}(each : ∀i,i<n->∃y,p i y) : ∃ys:List α,ys.length=n/\∀i (h:i<ys.length),p i ys[i]:=by
 induction n with
 | zero=>exact⟨[],rfl,λi h=>absurd h (tj _)⟩
 | succ n g=>
   obtain⟨ys,c,j⟩:=g (λi hi=>each i Om);obtain⟨y,h1⟩:=each n Om;refine⟨ys++ [y],by simp[c],λi hi=> ?_⟩;by_cases f:i<ys.length
   ·rw[List.getElem_append_left f];exact j i f
   have e:i=n:=by simp at hi;omega
   subst e;rw[List.getElem_append_right Om];simpa[c] using h1
section
variable {H:Type} {enc:aH×ae->H} {P:aZ} {w:ar} {base:Nat} {spare:Nat->Bool} {held:Bool}
end
end Go.Proofs.YtdfgkcoenagaaaaGreat
