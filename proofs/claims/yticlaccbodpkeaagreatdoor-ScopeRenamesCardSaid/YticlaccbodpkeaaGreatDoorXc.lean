/- Canonical runs: functions. Over any program. What a value in memory reads as: slices, integers; what keeps a reading; append and make in these words. Plain lemmas over any program. -/
import Derived.Test.YticlaccbodpkeaaGreatDoorXb
import Derived.Test.YticlaccbodpkeaaGreatDoorRows
import Derived.WalkKit
import Derived.ProofKit
import Derived.OpenShut
import Derived.Lib.Hide
import Derived.Deep.Slices
section
namespace Go.Proofs.YticlaccbodpkeaaGreatDoor
namespace Can
open Go Go.RowKit
set_option linter.unusedSimpArgs false
set_option linter.unusedVariables false
variable {P:Program} {B:Nat}
inductive RRes where
 | tmp (t:Nat)
 | ld (t:Nat)
 | lda (n t:Nat)
def resV (fr:Fr)(H:CH):RRes→Option Value
 | .tmp t=>some (fr t)
 | .ld t=>lop H (evF fr) (.ld (.tmp t))
 | .lda n t=>lop H (evF fr) (.lda n (.tmp t))
def resL (fr:Fr)(H:CH):List RRes→Option (List Value)
 | []=>some []
 | r::rs=>match resV fr H r,resL fr H rs with
   | some v,some vs=>some (v::vs)
   | _,_=>none
def tupleV:List Value→Value
 | [v]=>v
 | vs=> .tuple vs.toArray
structure RFunc where
 ntmps:Nat
 res:List RRes
 body:RCode
structure Tbl where
 fn:FuncId→Option RFunc
 loop:Nat×Nat→Option (List Nat×RCode×RCode)
 ext:FuncId→Bool
 xt:Hd
def putPs(fr:Fr)(ps:List Nat)(args:List Value):Fr:=(ps.zip args).foldl (fun fr p=>putF fr (some p.1) p.2) fr
def xPend:CExit→Option (Option Nat)
 | .normal=>none
 | .ret=>some none
 | .exit i=>some (some i)
noncomputable def evH(T:Tbl):Nat→Hd
 | 0=>⟨fun _ _ _=>none,fun _ _ _=>none⟩
 | n+1=>⟨fun f args H=>if T.ext f then T.xt.call f args H else match T.fn f with
   | some rf=>match evR (evH T n) n rf.body (fun t=>args.getD t undef) H with
     | some (.normal,fr',H')=>(resL fr' H' rf.res).map fun vs=>(tupleV vs,H')
     | some (.ret,fr',H')=>(resL fr' H' rf.res).map fun vs=>(tupleV vs,H')
     | _=>none
   | none=>none,fun l args H=>match H.ob l with
   | .loop .ready _ fr key=>match T.loop key with
     | some (ps,asg,body)=>if args.length=ps.length then match evR (evH T n) n asg (putPs fr ps args) H with
       | some (.normal,fr2,H2)=>match H2.ob l with
         | .loop .ready pend fr0 key0=>match evR (evH T n) n body fr2 (H2.set l (.loop .busy pend fr0 key0)) with
           | some (x,_,H4)=>match H4.ob l with
             | .loop _ _ fr5 key5=>some (.bool (xPend x).isNone,H4.set l (.loop (if (xPend x).isNone then .ready else .done) (xPend x) fr5 key5))
             | _=>none
           | none=>none
         | _=>none
       | _=>none
       else none
     | none=>none
   | _=>none⟩
noncomputable def evFn(T:Tbl)(n:Nat):FuncId→List Value→CH→Option (Value×CH):=(evH T n).call
inductive ResOk(P:Program):ResultVar→RRes→Prop where
 | tmp {t:Nat}:ResOk P (.tmp t) (.tmp t)
 | ld {a t:Nat} {d:TypeDesc} (h:P.underlying t=some d) (hd:(match d with | .struct _ | .array _ _=>true | _=>false)=false):ResOk P (.cell a t) (.ld a)
 | lda {a t n:Nat} {d:TypeDesc} (h:P.underlying t=some d) (hd:(match d with | .struct _ | .array _ _=>true | _=>false)=true) (hn:(P.info? t).map (·.size)=some n):ResOk P (.cell a t) (.lda n a)
inductive ResOks(P:Program):List ResultVar→List RRes→Prop where
 | nil:ResOks P [] []
 | cons {r:ResultVar} {q:RRes} {rs:List ResultVar} {qs:List RRes} (h:ResOk P r q) (hs:ResOks P rs qs):ResOks P (r::rs) (q::qs)
structure FuncOk(P:Program)(f:FuncId)(rf:RFunc):Prop where
 call:callable P f=true
 ok : ∃fn c,P.funcs[f]? = some fn∧fn.body=some c∧fn.ntmps=rf.ntmps∧CodeOk P rf.ntmps c rf.body∧ResOks P fn.results.toList rf.res
def resSem(tmps:Array Value):ResultVar→Sem Value
 | .tmp t=>pure (tmps.getD t undef)
 | .cell a t=>do loadVar t (←asAddr (tmps.getD a undef))
theorem res_sound{β:Nat→Ent}{H:CH}{w:World}{fr:Fr}{N:Nat}{a:Act}(hS:Sim P B β H w)(hf:FR β N fr a) : ∀ {rs:List ResultVar} {qs:List RRes} {vs:List Value},ResOks P rs qs→resL fr H qs=some vs→
 ∃vs',(rs.mapM (resSem a.tmps)).run P w= .ok vs' w∧VRs β vs vs':=by
 intro rs qs vs h
 induction h generalizing vs with
 | nil=>intro hr;simp only[resL,Option.some.injEq] at hr;subst hr;exact⟨[],rfl,VRs.nil β⟩
 | @cons r q rs qs hq hqs ih=>
   intro hr
   simp only[resL] at hr
   split at hr
   ·rename_i v vs0 h1 h2
    cases hr
    obtain⟨vs',g1,g2⟩:=ih h2
    have hv : ∃v',(resSem a.tmps r).run P w= .ok v' w∧VR β v v':=by
     cases hq with
     | @tmp t=>
       simp only[resV,Option.some.injEq] at h1
       subst h1
       exact⟨_,rfl,hf.2 t⟩
     | @ld s t d h hd=>
       simp only[resV,lop,evF] at h1
       have hx:=hf.2 s
       split at h1
       ·rename_i l oo ha
        split at h1
        ·rename_i cs e k hob
         rw[ha] at hx
         obtain⟨b,z,hxv,hc⟩:=hS.load hx hob
         obtain⟨u,hu,hvu⟩:=hc _ _ h1
         refine⟨u,?_,hvu⟩
         simp only[resSem,hxv,asAddr,loadVar,Sem.run_bind,Sem.run_pure,Result.andThen_ok,run_isAgg_no h hd,Bool.false_eq_true,if_false]
         simp[Go.load,Sem.run,hu]
        ·cases h1
       ·cases h1
     | @lda s t n d h hd hn=>
       have hx:=hf.2 s
       obtain⟨u,hu,hr⟩:=lsound_lda (x:= .tmp s) h hd hn B β H w (evF fr) (fun _=>a.tmps.getD s undef) { dst:=none,op:= .load t (.tmp s),type:=0,pos:= "",after:= #[],guard:=none } v rfl (fun x hx'=>by simp[Op.operands] at hx';subst hx';exact hx) hS h1
       refine⟨u,?_,hr⟩
       simp only[resSem]
       simp only[execOp,Instr.loadAt,Sem.run_bind] at hu
       generalize hq:a.tmps.getD s undef=q at hu⊢
       rw[hq] at hx
       cases q with
       | pointer p=>
         cases p with
         | none=>simp[Instr.sureAddr,Sem.run,stuck] at hu
         | some p=>
           simp only[Instr.sureAddr,Sem.run_pure,Result.andThen_ok] at hu
           simp only[asAddr,Sem.run_bind,Sem.run_pure,Result.andThen_ok]
           cases hl:(loadVar t p).run P w with
           | ok y w1=>rw[hl] at hu;simp only[Result.andThen_ok,Result.ok.injEq,Next.value.injEq] at hu;rw[hu.1,hu.2]
           | halt y w1=>rw[hl] at hu;simp[Result.andThen] at hu
       | _=>simp[Instr.sureAddr,Sem.run,stuck,Result.andThen] at hu
    obtain⟨v',g3,g4⟩:=hv
    refine⟨v'::vs',?_,g2.cons g4⟩
    simp only[List.mapM_cons,Sem.run_bind,g3,Result.andThen_ok,g1,Sem.run_pure]
   ·cases hr
theorem results_sound{β:Nat→Ent}{H:CH}{w:World}{fr:Fr}{N:Nat}{a:Act}(hS:Sim P B β H w)(hf:FR β N fr a){fn:Func}{qs:List RRes}{vs:List Value}(h:ResOks P fn.results.toList qs)(hr:resL fr H qs=some vs) :
 ∃v',(results fn a.tmps).run P w= .ok v' w∧VR β (tupleV vs) v':=by
 obtain⟨vs',h1,h2⟩:=res_sound hS hf h hr
 have hm:(fn.results.mapM (resSem a.tmps)).run P w= .ok vs'.toArray w:=by
  rw[Array.mapM_eq_mapM_toList]
  simp only[Sem.run_map,h1,Result.andThen_ok]
 have hres:(results fn a.tmps).run P w= .ok (if g:vs'.toArray.size=1 then vs'.toArray[0] else .tuple vs'.toArray) w:=by
  have:results fn a.tmps=(do let vs ←fn.results.mapM (resSem a.tmps);pure (if h:vs.size=1 then vs[0] else .tuple vs)):=rfl
  rw[this]
  simp only[Sem.run_bind,hm,Result.andThen_ok,Sem.run_pure]
 refine⟨_,hres,?_⟩
 match vs,vs',h2 with
 | [],[],_=>exact .undef _
 | [v],[v'],h2=>
   obtain⟨u,hu,hr⟩:=h2.2 0 v rfl
   simp at hu
   subst hu
   simpa[tupleV] using hr
 | v::v2::vs,v'::v2'::vs',h2=>
   have e:(tupleV (v::v2::vs))= .tuple (v::v2::vs).toArray:=rfl
   rw[e,dif_neg (by simp)]
   have:=(VRs.arr (xa:=(v::v2::vs).toArray) (bs:=(v'::v2'::vs').toArray)).1 (by simpa using h2)
   exact .tuple this.1 this.2
 | [],_::_,h2=>exact absurd h2.1 (by simp)
 | [_],[],h2=>exact absurd h2.1 (by simp)
 | [_],_::_::_,h2=>exact absurd h2.1 (by simp)
 | _::_::_,[],h2=>exact absurd h2.1 (by simp)
 | _::_::_,[_],h2=>exact absurd h2.1 (by simp)
structure LoopOk(P:Program)(key:Nat×Nat)(ps:List Nat)(asg body:RCode):Prop where
 ok : ∃N ca cb,keyOf P key=some (N,ps.toArray,ca,cb)∧CodeOk P N ca asg∧CodeOk P N cb body∧∀p∈ps,p<N
structure TblOk(P:Program)(B:Nat)(T:Tbl):Prop where
 fn : ∀f rf,T.fn f=some rf→FuncOk P f rf
 loop : ∀key ps asg body,T.loop key=some (ps,asg,body)→LoopOk P key ps asg body
 ext:HS P B T.xt
theorem Sim.putOther{β:Nat→Ent}{H:CH}{w:World}(h:Sim P B β H w){D:Nat}{o o':Obj}(hD:w.heap[D]? = some o)(hk:(∀cs e f,o≠ .cells cs e f)∧(∀es c,o≠ .map es c)∧(∀r,o≠ .loop r)∧(∀s p,o≠ .stringIter s p)∧∀a b c d,o≠ .mapIter a b c d):Sim P B β H (w.putObj D o'):=by
 refine⟨fun l=>(h.ent l).mono (EntExt.refl β) fun b hb=>World.putObj_heap_other ?_,h.nx,h.inj,by simpa using h.base,h.ro⟩
 rintro rfl
 rcases hb with ⟨z,sz,n,kd,hb⟩ | hb | hb
 ·obtain⟨cs,e,_,cs',e',frz,p1,_⟩:=h.live hb
  rw[hD] at p1;cases p1;exact hk.1 _ _ _ rfl
 ·have:=h.ent l
  rw[hb] at this
  cases ho:H.ob l with
  | map es c=>rw[ho] at this;obtain⟨_,es',p1,_⟩:=this;rw[hD] at p1;cases p1;exact hk.2.1 _ _ rfl
  | siter ss pp=>rw[ho] at this;have p1:=this.2;rw[hD] at p1;cases p1;exact hk.2.2.2.1 _ _ rfl
  | fm ff kk=>rw[ho] at this;obtain⟨_,_,_,p1,_⟩:=this;rw[hD] at p1;cases p1;exact hk.2.1 _ _ rfl
  | miter mm=>rw[ho] at this;obtain⟨_,_,_,_,_,_,p1⟩:=this;rw[hD] at p1;cases p1;exact hk.2.2.2.2 _ _ _ _ rfl
  | _=>rw[ho] at this;exact this.elim
 ·obtain⟨_,_,_,_,_,_,r,_,p1,_⟩:=h.loop hb
  rw[hD] at p1;cases p1;exact hk.2.2.1 _ rfl
theorem leaves_marks{fn:Func}{tmps:Array Value}{R:Ending→World→Prop}{B1:Nat}{β0 β:Nat→Ent}{w0:World}{H:CH} : ∀(ms:List Nat) (w:World),Sim P B β H w→Evo β0 w0 β w→w0.heap.size≤B1→ms.Nodup→(∀D∈ms,B1≤D∧w.heap[D]? = some (.deferred (some [])))→
 (∀w',Sim P B β H w'→Evo β0 w0 β w'→∃v,(results fn tmps).run P w'= .ok v w'∧R (.returned v) w')→LeavesInM Fence.wide 0 P fn tmps R (ms.map mkD) .returning w
 | [],w,hS,hE,hB,hn,hm,hK=>hK w hS hE
 | D::ms,w,hS,hE,hB,hn,hm,hK=>by
   obtain⟨h1,h2⟩:=hm D (List.mem_cons_self ..)
   have hlt:=(Array.getElem?_eq_some_iff.1 h2).1
   refine⟨by simp, .inl ⟨D,w.putObj D (.deferred none),rfl,run_takeDeferred h2,?_⟩⟩
   refine leaves_marks ms _ (hS.putOther (o':= .deferred none) h2 ⟨fun _ _ _=>by simp,fun _ _=>by simp,fun _=>by simp,fun _ _=>by simp,fun _ _ _ _=>by simp⟩) ?_ hB (List.nodup_cons.1 hn).2 (fun D' hD'=> ?_) hK
   ·exact⟨hE.os,hE.tape,hE.output,by simpa using hE.size,fun b hb ho=>by
     obtain⟨k1,k2⟩:=hE.keep b hb ho
     exact⟨(World.putObj_heap_other (by omega)).trans k1,k2⟩,hE.ext⟩
   ·obtain⟨g1,g2⟩:=hm D' (List.mem_cons_of_mem _ hD')
    refine⟨g1,(World.putObj_heap_other ?_).trans g2⟩
    rintro rfl
    exact(List.nodup_cons.1 hn).1 hD'
theorem putPs_rel{β:Nat→Ent}{N:Nat} : ∀ {ps:List Nat} {args args':List Value} {fr:Fr} {tmps:Array Value},(∀p∈ps,p<N)→VRs β args args'→FR β N fr { tmps:=tmps,defers:= [] }→FR β N (putPs fr ps args) { tmps:=(ps.zip args').foldl (fun t p=>t.setIfInBounds p.1 p.2) tmps,defers:= [] }
 | [],args,args',fr,tmps,hp,ha,hf=>by simpa[putPs] using hf
 | p::ps,[],args',fr,tmps,hp,ha,hf=>by
   have:args'= []:=List.length_eq_zero_iff.1 (by simpa using ha.1.symm)
   subst this
   simpa[putPs] using hf
 | p::ps,v::args,[],fr,tmps,hp,ha,hf=>absurd ha.1 (by simp)
 | p::ps,v::args,v'::args',fr,tmps,hp,ha,hf=>by
   have h0:VR β v v':=by
    obtain⟨u,h1,h2⟩:=ha.2 0 v rfl
    simp at h1;subst h1;exact h2
   have hs:VRs β args args':=⟨by simpa using ha.1,fun i v hv=>by simpa using ha.2 (i+1) v (by simpa using hv)⟩
   have hf':=hf.put (d:=some p) (fun x hx=>by cases hx;exact hp p (List.mem_cons_self ..)) h0
   have:=putPs_rel (ps:=ps) (fun q hq=>hp q (List.mem_cons_of_mem _ hq)) hs (fr:=putF fr (some p) v) (tmps:=tmps.setIfInBounds p v') (by simpa[Act.put] using hf')
   simpa[putPs] using this
theorem fn_sound{T:Tbl}(hT:TblOk P B T) : ∀n,HS P B (evH T n)
 | 0=>⟨fun f args H v H' h=>by simp[evH] at h,fun l args H v H' h=>by simp[evH] at h⟩
 | n+1=>⟨fun f args H v H' h=>(by
   have ih:=fn_sound hT n
   simp only[evH] at h
   split at h
   ·exact hT.ext.1 f args H v H' h
   ·split at h
    ·rename_i rf hrf
     have hfo:=hT.fn f rf hrf
     obtain⟨fn,c,hfn,hbody,hnt,hcode,hres⟩:=hfo.ok
     refine .inl ⟨hfo.call,fun β w args' hS hargs=> ?_⟩
     refine callsIn_of_wp_marks hfn hbody trivial ?_ rfl
     have hf:FR β rf.ntmps (fun t=>args.getD t undef) { tmps:=args'.toArray++Array.replicate (fn.ntmps-args'.toArray.size) undef,defers:= [] }:=by
      refine⟨by simp;omega,fun t=> ?_⟩
      simp only[List.getD,Array.getD_eq_getD_getElem?]
      by_cases ht:t<args'.length
      ·have hta:t<args.length:=by have:=hargs.1;omega
       obtain⟨v',h1,h2⟩:=hargs.2 t args[t] (by simp[hta])
       rw[Array.getElem?_append_left (by simpa using ht)]
       simp only[List.getElem?_toArray,h1,Option.getD_some,List.getElem?_eq_getElem hta]
       exact h2
      ·have hta:args.length≤t:=by have:=hargs.1;omega
       rw[List.getElem?_eq_none hta]
       exact .undef _
     have fin : ∀(x:CExit) (fr':Fr) (K:CH),(x= .normal∨x= .ret)→evR (evH T n) n rf.body (fun t=>args.getD t undef) H=some (x,fr',K)→(resL fr' K rf.res).map (fun vs=>(tupleV vs,K))=some (v,H')→
      c.wpIn Fence.wide 0 P (bodyPostM Fence.wide 0 P fn fun e w'=>∃v' β',e= .returned v'∧VR β' v v'∧Sim P B β' H' w'∧Evo β w β' w') { tmps:=args'.toArray++Array.replicate (fn.ntmps-args'.toArray.size) undef,defers:= [] } w:=by
      intro x fr' K hx hrun hvs
      cases hvl:resL fr' K rf.res with
      | none=>rw[hvl] at hvs;cases hvs
      | some vs=>
        rw[hvl] at hvs
        simp only[Option.map_some,Option.some.injEq,Prod.mk.injEq] at hvs
        obtain⟨rfl,rfl⟩:=hvs
        refine code_sound (ro:=none) (B1:=w.heap.size) ih hcode β _ fr' H K _ w x _ hS hf (fun b hb=>by cases hb) (DM.none (D0:= []) rfl) (Nat.le_refl _) hrun fun β' w' a' q1 q2 q3 q4=> ?_
        obtain⟨ms,m1,m2,m3⟩:=q4
        have hlv:LeavesInM Fence.wide 0 P fn a'.tmps (fun e w'=>∃v' β',e= .returned v'∧VR β' (tupleV vs) v'∧Sim P B β' K w'∧Evo β w β' w') a'.defers .returning w':=by
         rw[m1,List.append_nil]
         refine leaves_marks ms w' q1 q2 (Nat.le_refl _) m2 (fun D hD=>⟨(m3 D hD).1,(m3 D hD).2.1⟩) fun w2 hS2 hE2=> ?_
         obtain⟨v',r1,r2⟩:=results_sound hS2 q3 hres hvl
         exact⟨v',r1,v',β',rfl,r2,hS2,hE2⟩
        rcases hx with rfl | rfl
        ·exact hlv
        ·exact hlv
     split at h
     ·rename_i fr' K hrun
      exact fin .normal fr' K (.inl rfl) hrun h
     ·rename_i fr' K hrun
      exact fin .ret fr' K (.inr rfl) hrun h
     ·cases h
    ·cases h),fun l args H v H' h β w b args' hS hl hargs=>by
   have ih:=fn_sound hT n
   obtain⟨st,pend,fr,key,ho,_,r,N,r1,r2,r3,r4,r5,r6⟩:=hS.loop hl
   simp only[evH,ho] at h
   split at h
   ·rename_i pend1 fr1 key1 hob1
    cases hob1
    split at h
    ·rename_i ps asg body htl
     split at h
     ·rename_i hlen
      obtain⟨N',ca,cb,hk,hca,hcb,hps⟩:=(hT.loop _ _ _ _ htl).ok
      rw[r4] at hk
      simp only[Option.some.injEq,Prod.mk.injEq] at hk
      obtain⟨hN,k1,k2,k3⟩:=hk
      subst hN
      have hsz:args'.toArray.size=r.params.size:=by rw[k1];simp;rw[←hlen,hargs.1]
      refine⟨r.fn,_,r.assign,r.body,run_yield r1 hsz,roundIn_of_wpIn trivial ?_⟩
      have hfold:(r.params.zip args'.toArray).foldl (fun tmps (t,a)=>tmps.setIfInBounds t a) r.tmps=(ps.zip args').foldl (fun t p=>t.setIfInBounds p.1 p.2) r.tmps:=by
       rw[k1,←Array.foldl_toList];simp
      rw[hfold]
      have hf:=putPs_rel (ps:=ps) hps hargs (fr:=fr) (tmps:=r.tmps) ⟨r5,r6⟩
      have hroOk:RoOk β (some b):=fun b' hb'=>by cases hb';exact⟨l,hl⟩
      split at h
      ·rename_i fr2 H2 hasg
       split at h
       ·rename_i pend0 fr0 key0 ho2
        rw[k2]
        refine code_sound (ro:=some b) (B1:=0) ih hca β _ fr2 H H2 _ w .normal _ hS hf hroOk (DM.none (D0:= []) rfl) (Nat.zero_le _) hasg fun β2 w2 a2 q1 q2 q3 q4=> ?_
        have hl2:β2 l= .loop b:=by
         rcases q2.ext l with q | q | ⟨_,_,_,_,q,_⟩
         ·rw[q,hl]
         ·rw[hl] at q;cases q
         ·rw[hl] at q;cases q
        obtain⟨_,_,_,_,ho2',_,s,M,s1,s2,s3,s4,s5,s6⟩:=q1.loop hl2
        rw[ho2] at ho2'
        cases ho2'
        obtain⟨z1,z2⟩:=q1.setLoop hl2 (st:= .busy) (pend:=pend0) (fr:=fr0) (key:=key0) (r:= { s with state:= .busy }) (N:=M) rfl s3 s4 s5 s6
        refine⟨_,run_beginRound s1 s2,?_⟩
        rw[k3]
        split at h
        ·rename_i x fr4 H4 hbody
         refine code_sound (ro:=some b) (B1:=0) ih hcb β2 _ fr4 _ H4 _ _ x _ z1 (q3.mono z2.ext) (fun b' hb'=>by cases hb';exact⟨l,hl2⟩) (q4.evo z2 rfl) (Nat.zero_le _) hbody fun β4 w4 a4 p1 p2 p3 p4=> ?_
         have hl4:β4 l= .loop b:=by
          rcases p2.ext l with q | q | ⟨_,_,_,_,q,_⟩
          ·rw[q,hl2]
          ·rw[hl2] at q;cases q
          ·rw[hl2] at q;cases q
         split at h
         ·rename_i st5 pend5 fr5 key5 ho4
          cases h
          obtain⟨_,_,_,_,ho4',_,u,M',u1,u2,u3,u4,u5,u6⟩:=p1.loop hl4
          rw[ho4] at ho4'
          cases ho4'
          have fin : ∀jump:Option Code,(xPend x).map pendC=jump→∃v' w',(Instr.endRound b jump).run P w4= .ok v' w'∧∃v'' β',Ending.returned v'= .returned v''∧VR β' (.bool (xPend x).isNone) v''∧Sim P B β' (H4.set l (.loop (if (xPend x).isNone then .ready else .done) (xPend x) fr5 key5)) w'∧Evo β w β' w':=by
           intro jump hj
           have hjn:jump.isNone=(xPend x).isNone:=by rw[←hj];cases xPend x<;>rfl
           obtain⟨y1,y2⟩:=p1.setLoop hl4 (st:=if (xPend x).isNone then .ready else .done) (pend:=xPend x) (fr:=fr5) (key:=key5) (r:= { u with state:=if jump.isNone then .ready else .done,pending:=jump }) (N:=M') (by rw[hjn]) hj.symm u4 u5 u6
           exact⟨_,_,run_endRound jump u1,_,β4,rfl,by rw[hjn];exact .bool _,y1,q2.trans (z2.trans (p2.trans y2))⟩
          cases x with
          | normal=>exact fin none rfl
          | ret=>exact fin (some .ret) rfl
          | exit i=>exact fin (some (.exit i)) rfl
         ·cases h
        ·cases h
       ·cases h
      ·cases h
     ·cases h
    ·cases h
   ·cases h⟩
theorem calls_of_ev{T:Tbl}(hT:TblOk P B T){n:Nat}{f:FuncId}{args:List Value}{H H':CH}{v:Value}(h:evFn T n f args H=some (v,H')){β:Nat→Ent}{w:World}{args':List Value}(hS:Sim P B β H w)(ha:VRs β args args')(hc:callable P f=true) :
 Calls P f args'.toArray w fun e w'=>∃v' β',e= .returned v'∧VR β' v v'∧Sim P B β' H' w'∧Evo β w β' w':=
 callsIn_wide.1 (((fn_sound hT n).1 f args H v H' h).resolve_right (fun hx=>by
  obtain⟨v',_,hx2⟩:=hx.1.2 β args' ha
  have h1:=hx2 w
  rw[run_callFunc hc] at h1
  cases h1) |>.2 β w args' hS ha)
end Can
end Go.Proofs.YticlaccbodpkeaaGreatDoor
namespace Go.Proofs.YticlaccbodpkeaaGreatDoor
namespace Can
open Go Go.RowKit
set_option linter.unusedSimpArgs false
set_option linter.unusedVariables false
variable {P:Program} {B:Nat}
def szOf (P:Program)(t:TypeId):Option Nat:=(P.info? t).map (·.size)
def allSome:List (Option Nat)→Option (List Nat)
 | []=>some []
 | some x::r=>(allSome r).map (x:: ·)
 | none::_=>none
theorem allSome_spec : ∀ {l:List (Option Nat)} {r:List Nat},allSome l=some r→l=r.map some
 | [],r,h=>by simp[allSome] at h;subst h;rfl
 | some x::l,r,h=>by
   simp only[allSome] at h
   cases hl:allSome l with
   | none=>rw[hl] at h;cases h
   | some q=>rw[hl] at h;cases h;simp[allSome_spec hl]
 | none::l,r,h=>by simp[allSome] at h
def isC:Operand→Bool
 | .const _=>true
 | _=>false
def resCall(P:Program)(c:Call):Option ROp:=
 match c.callee with
 | .value (.func f)=>some (.call f c.args.toList)
 | .value (.tmp t)=>some (.callv (.tmp t) c.args.toList)
 | .builtin .len=>match c.args.toList,c.argTypes.toList with
   | [x],[t]=>match P.underlying t with
     | some (.slice _)=>some (.p (.len x))
     | some .string=>some (.p (.lens x))
     | _=>none
   | _,_=>none
 | .builtin .append=>match c.args.toList,c.argTypes.toList with
   | [s,x],[t,u]=>match P.underlying t,P.underlying u with
     | some (.slice e),some (.slice e')=>match P.info? e with
       | some i=>match i.zero with
         | some z=>if e'=e∧z.cells.size=i.size∧0<i.size then some (.w (.app e i.size i.bytes s x)) else none
         | none=>none
       | none=>none
     | some (.slice e),some .string=>match P.info? e with
       | some i=>match i.zero with
         | some z=>if z.cells.size=i.size∧0<i.size then some (.w (.app e i.size i.bytes s x)) else none
         | none=>none
       | none=>none
     | _,_=>none
   | _,_=>none
 | .builtin .unsafeSliceData=>match c.args.toList,c.argTypes.toList with
   | [x],[_]=>some (.p (.sld x))
   | _,_=>none
 | .builtin .unsafeString=>match c.args.toList,c.argTypes.toList with
   | [p,n],[pt,_]=>match P.underlying pt with
     | some (.pointer e)=>if P.cellsOf e=1 then some (.w (.ust e p n)) else none
     | _=>none
   | _,_=>none
 | .builtin .max=>match c.args.toList with
   | [x,y]=>some (.p (.mx true x y))
   | _=>none
 | .builtin .min=>match c.args.toList with
   | [x,y]=>some (.p (.mx false x y))
   | _=>none
 | .builtin .delete=>match c.args.toList,c.argTypes.toList with
   | [x,k],[t,_]=>match P.underlying t with
     | some (.map kt _)=>match P.underlying kt with
       | some d=>match kkOf d with
         | some kk=>some (.w (.del kk x k))
         | none=>none
       | none=>none
     | _=>none
   | _,_=>none
 | .builtin .copy=>match c.args.toList,c.argTypes.toList with
   | [d,s],[t,_]=>match P.underlying t with
     | some (.slice e)=>match szOf P e with
       | some sz=>some (.w (.cpy sz d s))
       | none=>none
     | _=>none
   | _,_=>none
 | _=>none
def resOp(P:Program):Op→Option ROp
 | .move x=>some (.p (.mov x))
 | .assign x=>some (.p (.mov x))
 | .pick c a b=>some (.p (.pick c a b))
 | .box e x=>match szOf P e with
   | some _=>some (.a (.box e x))
   | none=>none
 | .alloc e=>match P.info? e with
   | some i=>match i.zero with
     | some z=>if closedC z.cells.toList=true then some (.a (.new e z.cells.toList)) else none
     | none=>none
   | none=>none
 | .build t ps=>match P.underlying t,P.info? t with
   | some (.struct fs),some i=>match i.zero with
     | some (.agg z)=>match allSome (fs.toList.map fun f=>szOf P f.type) with
       | some szs=>if closedC z.toList=true∧(ps.toList.all fun p=>decide (p.1<fs.size))=true then
          some (.p (.bld z.toList (ps.toList.filterMap fun p=>((fs.toList.map (·.offset)).zip szs)[p.1]?.map fun q=>(q.1,q.2,p.2)))) else none
       | none=>none
     | _=>none
   | some (.array n e),some i=>match i.zero,szOf P e with
     | some (.agg z),some sz=>if closedC z.toList=true then some (.p (.bld z.toList (ps.toList.map fun p=>(p.1*sz,sz,p.2)))) else none
     | _,_=>none
   | _,_=>none
 | .field st x f=>match P.underlying st with
   | some (.struct fs)=>match fs[f]? with
     | some fld=>match P.underlying fld.type,szOf P fld.type with
       | some d,some n=>some (.p (.fld x fld.offset (if isAggD d then some n else none)))
       | _,_=>none
     | none=>none
   | _=>none
 | .buildSlice t n ps=>match P.underlying t with
   | some (.slice e)=>match P.info? e with
     | some i=>match i.zero with
       | some z=>if closedC z.cells.toList=true∧0<z.cells.size then some (.a (.bsl e i.size n z.cells.toList ps.toList)) else none
       | none=>none
     | none=>none
   | _=>none
 | .load t x=>match P.underlying t with
   | some d=>if isAggD d then match szOf P t with
      | some n=>some (.l (.lda n x))
      | none=>none
     else some (.l (.ld x))
   | none=>none
 | .store t x v=>match szOf P t with
   | some n=>some (.w (.st n x v))
   | none=>none
 | .nilCheck x=>some (.p (.nck x))
 | .binOp op t x y _=>match P.underlying t with
   | some .bool=>match op with
     | .eql=>some (.p (.eqb false x y))
     | .neq=>some (.p (.eqb true x y))
     | _=>none
   | some (.pointer e)=>match op,isC x||isC y with
     | .eql,true=>some (.p (.eqp false x y))
     | .neq,true=>some (.p (.eqp true x y))
     | .eql,false=>match P.info? e with
       | some j=>if j.size≠0 then some (.l (.eqq false x y)) else some (.p (.eqp false x y))
       | none=>some (.p (.eqp false x y))
     | .neq,false=>match P.info? e with
       | some j=>if j.size≠0 then some (.l (.eqq true x y)) else some (.p (.eqp true x y))
       | none=>some (.p (.eqp true x y))
     | _,_=>none
   | some (.slice _)=>match op with
     | .eql=>some (.p (.eqs false x y))
     | .neq=>some (.p (.eqs true x y))
     | _=>none
   | some (.struct _)=>match op with
     | .eql=>some (.p (.eqg false (@gOK P t) (@gKs P t) x y))
     | .neq=>some (.p (.eqg true (@gOK P t) (@gKs P t) x y))
     | _=>none
   | some _=>some (.p (.bin op x y))
   | none=>none
 | .unOp op _ x=>some (.p (.un op x))
 | .convert s t x=>match P.underlying s,P.underlying t with
   | some _,some (.int k)=>some (.p (.conv k x))
   | some .string,some .string=>some (.p (.cstr x))
   | some (.slice e),some .string=>match P.underlying e with
     | some (.int .u8)=>some (.l (.b2s x))
     | _=>none
   | some .string,some (.slice e)=>match P.underlying e,P.info? e with
     | some (.int .u8),some i=>if i.size=1 then some (.w (.s2b e i.bytes x)) else none
     | _,_=>none
   | some (.slice e),some (.slice _)=>match P.underlying e with
     | some (.int .u8)=>if s=t then some (.w (.frz x)) else none
     | _=>none
   | some (.pointer u),some .unsafePointer=>match P.info? u with
     | some j=>if j.size≠0 then some (.l (.ucv touB x)) else none
     | none=>none
   | some .unsafePointer,some (.pointer u)=>match P.info? u with
     | some _=>some (.l (.ucv (friB (P:=P) u) x))
     | none=>none
   | _,_=>none
 | .makeMap t r=>if r.isNone then some (.w .mkm) else none
 | .insert t m k x | .mapUpdate t m k x=>match P.underlying t with
   | some (.map kt _)=>match P.underlying kt with
     | some d=>match kkOf d with
       | some kk=>some (.w (.mup kk m k x))
       | none=>none
     | none=>none
   | _=>none
 | .lookup t x i ok=>match P.underlying t with
   | some (.map kt et)=>match P.underlying kt,P.info? et with
     | some d,some inf=>match kkOf d,inf.zero with
       | some kk,some z=>if closedW z=true then some (.l (.lkm kk z ok x i)) else none
       | _,_=>none
     | _,_=>none
   | _=>none
 | .range t x=>match P.underlying t with
   | some .string=>some (.w (.sit x))
   | some (.map _ _)=>some (.w (.mit x))
   | _=>none
 | .next it s=>if s=true then some (.w (.nxt it)) else some (.w (.mnx it))
 | .makeFunc (.func f) first caps=>if first.toList.isEmpty then some (.p (.fn f caps.toList)) else none
 | .makeSlice t l c=>match P.underlying t with
   | some (.slice e)=>match P.info? e with
     | some i=>match i.zero with
       | some z=>if closedC z.cells.toList=true∧0<z.cells.size then some (.a (.mks e i.size i.bytes z.cells.toList l c)) else none
       | none=>none
     | none=>none
   | _=>none
 | .slice t x lo hi mx=>match P.underlying t with
   | some (.slice e)=>match szOf P e with
     | some sz=>some (.l (.slc e sz x lo hi mx))
     | none=>none
   | some .string=>if mx.isNone then some (.p (.sstr x lo hi)) else none
   | _=>none
 | .fieldAddr s x f=>match P.underlying s with
   | some (.struct fs)=>match fs[f]? with
     | some fld=>match szOf P fld.type with
       | some sz=>if sz≠0 then some (.p (.off x fld.offset)) else none
       | none=>none
     | none=>none
   | _=>none
 | .indexAddr t x i=>match P.underlying t with
   | some (.slice e)=>match szOf P e with
     | some sz=>some (.p (.idx x i sz))
     | none=>none
   | some (.array n e)=>match szOf P e with
     | some sz=>some (.p (.idxp x i n sz))
     | none=>none
   | _=>none
 | .index t x i=>match P.underlying t with
   | some .string=>some (.p (.sidx x i))
   | some (.array n e)=>match P.underlying e,szOf P e with
     | some d,some sz=>some (.p (.idxv x i n sz (isAggD d)))
     | _,_=>none
   | _=>none
 | .extract x i=>some (.p (.ext x i))
 | .call c=>resCall P c
 | _=>none
theorem arr1{α:Type}{a:Array α}{x:α}(h:a.toList= [x]):a= #[x]:=by apply Array.ext';simpa using h
theorem arr2{α:Type}{a:Array α}{x y:α}(h:a.toList= [x,y]):a= #[x,y]:=by apply Array.ext';simpa using h
theorem resCall_ok{c:Call}{r:ROp}(h:resCall P c=some r):OpOk P (.call c) r:=by
 obtain⟨callee,args,ts⟩:=c
 unfold resCall at h
 simp only at h
 split at h
 ·cases h;exact .call rfl
 ·cases h;exact .callv rfl
 ·split at h
  ·rename_i x t ha ht
   rw[arr1 ha,arr1 ht]
   split at h
   ·rename_i hu;cases h;exact .p (psound_len hu)
   ·rename_i hu;cases h;exact .p (psound_lens hu)
   ·cases h
  ·cases h
 ·split at h
  ·rename_i s x t u ha ht
   rw[arr2 ha,arr2 ht]
   split at h
   ·rename_i e e' hu hu'
    split at h
    ·rename_i i hi
     split at h
     ·rename_i z hz
      split at h
      ·rename_i g
       obtain⟨rfl,g2,g3⟩:=g
       cases h
       exact .w (wsound_app hu (.inl hu') (by simp[hi,hz]) g2 g3)
      ·cases h
     ·cases h
    ·cases h
   ·rename_i e hu hu'
    split at h
    ·rename_i i hi
     split at h
     ·rename_i z hz
      split at h
      ·rename_i g
       cases h
       exact .w (wsound_app hu (.inr hu') (by simp[hi,hz]) g.1 g.2)
      ·cases h
     ·cases h
    ·cases h
   ·cases h
  ·cases h
 ·split at h
  ·rename_i x t ha ht
   rw[arr1 ha,arr1 ht]
   cases h
   exact .p psound_sld
  ·cases h
 ·split at h
  ·rename_i p n pt it ha ht
   rw[arr2 ha,arr2 ht]
   split at h
   ·rename_i e hu
    split at h
    ·rename_i hc;cases h;exact .w (wsound_ust hu hc)
    ·cases h
   ·cases h
  ·cases h
 ·split at h
  ·rename_i x y ha
   rw[arr2 ha]
   cases h
   exact .p (psound_mx (b:=true))
  ·cases h
 ·split at h
  ·rename_i x y ha
   rw[arr2 ha]
   cases h
   exact .p (psound_mx (b:=false))
  ·cases h
 ·split at h
  ·rename_i x k t u ha ht
   rw[arr2 ha,arr2 ht]
   split at h
   ·rename_i kt et hu
    split at h
    ·rename_i d hd
     split at h
     ·rename_i kk hk
      cases h
      exact .w (wsound_del hu hd hk)
     ·cases h
    ·cases h
   ·cases h
  ·cases h
 ·split at h
  ·rename_i d s t u ha ht
   rw[arr2 ha,arr2 ht]
   split at h
   ·rename_i e hu
    split at h
    ·rename_i sz hs
     cases h
     exact .w (wsound_cpy hu hs)
    ·cases h
   ·cases h
  ·cases h
 ·cases h
theorem resOp_ok{op:Op}{r:ROp}(h:resOp P op=some r):OpOk P op r:=by
 cases op with
 | move x=>cases h;exact .p psound_move
 | assign x=>cases h;exact .p psound_assign
 | pick c a b=>cases h;exact .p psound_pick
 | box e x=>
   simp only[resOp] at h
   split at h
   ·rename_i sz hs;cases h;exact .a (asound_box hs)
   ·cases h
 | alloc e=>
   simp only[resOp] at h
   split at h
   ·rename_i i hi
    split at h
    ·rename_i z hz
     split at h
     ·rename_i hc
      cases h
      exact .a (asound_new (sz:=i.size) (by simp[hi]) (by simp[hi,hz]) (closedC_rel hc))
     ·cases h
    ·cases h
   ·cases h
 | build t ps=>
   simp only[resOp] at h
   split at h
   ·rename_i fs i hu hi
    split at h
    ·rename_i z hz
     split at h
     ·rename_i szs hs
      split at h
      ·rename_i g
       cases h
       refine .p (psound_bld_struct hu (by simp[hi,hz]) (closedC_rel g.1) szs ?_ fun p hp=> ?_)
       ·exact allSome_spec hs
       ·exact of_decide_eq_true (List.all_eq_true.1 g.2 p hp)
      ·cases h
     ·cases h
    ·cases h
   ·rename_i n e i hu hi
    split at h
    ·rename_i z sz hz hs
     split at h
     ·rename_i g
      cases h
      exact .p (psound_bld_array hu hs (by simp[hi,hz]) (closedC_rel g))
     ·cases h
    ·cases h
   ·cases h
 | field st x f=>
   simp only[resOp] at h
   split at h
   ·rename_i fs hu
    split at h
    ·rename_i fld hf
     split at h
     ·rename_i d n hd hn
      cases h
      exact .p (psound_fld hu hf hd rfl hn)
     ·cases h
    ·cases h
   ·cases h
 | buildSlice t n ps=>
   simp only[resOp] at h
   split at h
   ·rename_i e hu
    split at h
    ·rename_i i hi
     split at h
     ·rename_i z hz
      split at h
      ·rename_i g
       cases h
       exact .a (asound_bsl hu (by simp[hi]) (by simp[hi,hz]) (closedC_rel g.1) g.2)
      ·cases h
     ·cases h
    ·cases h
   ·cases h
 | load t x=>
   simp only[resOp] at h
   split at h
   ·rename_i d hd
    split at h
    ·rename_i ha
     split at h
     ·rename_i n hn
      cases h
      exact .l (lsound_lda hd (by cases d<;>first | rfl | cases ha) hn)
     ·cases h
    ·rename_i ha
     cases h
     exact .l (lsound_ld hd (by cases d<;>first | rfl | exact absurd rfl ha))
   ·cases h
 | store t x v=>
   simp only[resOp] at h
   split at h
   ·rename_i n hn;cases h;exact .w (wsound_st hn)
   ·cases h
 | nilCheck x=>cases h;exact .p psound_nck
 | binOp op t x y u=>
   simp only[resOp] at h
   split at h
   ·rename_i hu
    split at h
    ·cases h;exact .p (psound_eqb (neg:=false) hu)
    ·cases h;exact .p (psound_eqb (neg:=true) hu)
    ·cases h
   ·rename_i hu
    split at h
    ·cases h;exact .p (psound_eqp (neg:=false) hu)
    ·cases h;exact .p (psound_eqp (neg:=true) hu)
    ·split at h
     ·rename_i j hj
      split at h
      ·rename_i hz;cases h;exact .l (lsound_eqq (neg:=false) hu hj hz)
      ·cases h;exact .p (psound_eqp (neg:=false) hu)
     ·cases h;exact .p (psound_eqp (neg:=false) hu)
    ·split at h
     ·rename_i j hj
      split at h
      ·rename_i hz;cases h;exact .l (lsound_eqq (neg:=true) hu hj hz)
      ·cases h;exact .p (psound_eqp (neg:=true) hu)
     ·cases h;exact .p (psound_eqp (neg:=true) hu)
    ·cases h
   ·rename_i hu
    split at h
    ·cases h;exact .p (psound_eqs (neg:=false) hu)
    ·cases h;exact .p (psound_eqs (neg:=true) hu)
    ·cases h
   ·rename_i fs hu
    split at h
    ·cases h;exact .p (psound_eqg (neg:=false) hu)
    ·cases h;exact .p (psound_eqg (neg:=true) hu)
    ·cases h
   ·cases h;exact .p psound_bin
   ·cases h
 | unOp op t x=>cases h;exact .p psound_un
 | convert s t x=>
   simp only[resOp] at h
   split at h
   ·rename_i d k hs ht;cases h;exact .p (psound_conv hs ht)
   ·rename_i hs ht;cases h;exact .p (psound_cstr hs ht)
   ·rename_i e hs ht
    split at h
    ·rename_i he;cases h;exact .l (lsound_b2s hs ht he)
    ·cases h
   ·rename_i e hs ht
    split at h
    ·rename_i i he hi
     split at h
     ·rename_i h1;cases h;exact .w (wsound_s2b hs ht he (by simp[hi,h1]))
     ·cases h
    ·cases h
   ·rename_i e e' hs ht
    split at h
    ·rename_i he
     split at h
     ·rename_i hst;subst hst;cases h;exact .w (wsound_frz hs he)
     ·cases h
    ·cases h
   ·rename_i u hs ht
    split at h
    ·rename_i j hj
     split at h
     ·rename_i hz;cases h;exact .l (lsound_tou hs ht hj hz)
     ·cases h
    ·cases h
   ·rename_i u hs ht
    split at h
    ·rename_i j hj;cases h;exact .l (lsound_fru hs ht hj)
    ·cases h
   ·cases h
 | makeMap t r=>
   simp only[resOp] at h
   split at h
   ·rename_i hr;cases h;exact .w (wsound_mkm (by simpa using hr))
   ·cases h
 | insert t m k x=>
   simp only[resOp] at h
   split at h
   ·rename_i kt et hu
    split at h
    ·rename_i d hd
     split at h
     ·rename_i kk hk;cases h;exact .w (wsound_mup (.inr rfl) hu hd hk)
     ·cases h
    ·cases h
   ·cases h
 | mapUpdate t m k x=>
   simp only[resOp] at h
   split at h
   ·rename_i kt et hu
    split at h
    ·rename_i d hd
     split at h
     ·rename_i kk hk;cases h;exact .w (wsound_mup (.inl rfl) hu hd hk)
     ·cases h
    ·cases h
   ·cases h
 | lookup t x i ok=>
   simp only[resOp] at h
   split at h
   ·rename_i kt et hu
    split at h
    ·rename_i d inf hd hi
     split at h
     ·rename_i kk z hk hz
      split at h
      ·rename_i hc;cases h;exact .l (lsound_lkm hu hd hk hi hz (closedW_rel hc))
      ·cases h
     ·cases h
    ·cases h
   ·cases h
 | range t x=>
   simp only[resOp] at h
   split at h
   ·rename_i hu;cases h;exact .w (wsound_sit hu)
   ·rename_i hu;cases h;exact .w (wsound_mit hu)
   ·cases h
 | next it s=>
   simp only[resOp] at h
   split at h
   ·rename_i hs;subst hs;cases h;exact .w wsound_nxt
   ·rename_i hs;have hs':s=false:=by simpa using hs
    subst hs';cases h;exact .w wsound_mnx
 | makeFunc fn first caps=>
   cases fn with
   | func f=>
     simp only[resOp] at h
     split at h
     ·rename_i he
      cases h
      have:first= #[]:=by apply Array.ext';simpa using he
      subst this
      exact .p psound_fn
     ·cases h
   | _=>cases h
 | makeSlice t l c=>
   simp only[resOp] at h
   split at h
   ·rename_i e hu
    split at h
    ·rename_i i hi
     split at h
     ·rename_i z hz
      split at h
      ·rename_i g
       cases h
       exact .a (asound_mks hu (by simp[hi]) (by simp[hi,hz]) (closedC_rel g.1) g.2)
      ·cases h
     ·cases h
    ·cases h
   ·cases h
 | slice t x lo hi mx=>
   simp only[resOp] at h
   split at h
   ·rename_i e hu
    split at h
    ·rename_i sz hs;cases h;exact .l (lsound_slc hu hs)
    ·cases h
   ·rename_i hu
    split at h
    ·rename_i hm
     cases h
     cases mx with
     | none=>exact .p (psound_sstr hu)
     | some m=>cases hm
    ·cases h
   ·cases h
 | fieldAddr s x f=>
   simp only[resOp] at h
   split at h
   ·rename_i fs hu
    split at h
    ·rename_i fld hf
     split at h
     ·rename_i sz hs
      split at h
      ·rename_i h0;cases h;exact .p (psound_off hu hf hs h0)
      ·cases h
     ·cases h
    ·cases h
   ·cases h
 | indexAddr t x i=>
   simp only[resOp] at h
   split at h
   ·rename_i e hu
    split at h
    ·rename_i sz hs;cases h;exact .p (psound_idx hu hs)
    ·cases h
   ·rename_i n e hu
    split at h
    ·rename_i sz hs;cases h;exact .p (psound_idxp hu hs)
    ·cases h
   ·cases h
 | index t x i=>
   simp only[resOp] at h
   split at h
   ·rename_i hu;cases h;exact .p (psound_sidx hu)
   ·rename_i n e hu
    split at h
    ·rename_i d sz hd hs
     cases h
     exact .p (psound_idxv hu hd rfl hs)
    ·cases h
   ·cases h
 | extract x i=>cases h;exact .p psound_ext
 | call c=>exact resCall_ok h
 | _=>cases h
end Can
end Go.Proofs.YticlaccbodpkeaaGreatDoor
namespace Go.Proofs.YticlaccbodpkeaaGreatDoor
namespace Can
open Go Go.RowKit
set_option linter.unusedSimpArgs false
set_option linter.unusedVariables false
variable {P:Program} {B:Nat}
def isDefer:Op→Bool
 | .defer _=>true
 | _=>false
def dstOk(N:Nat):Option Nat→Bool
 | some d=>decide (d<N)
 | none=>true
def resItem(P:Program)(N:Nat)(ops:Array Oper)(o:Oper):Option Item:=
 match resOp P o.op with
 | some r=>
   if dstOk N o.dst&&o.op.operands.toList.all okOpnd && !isDefer o.op then
    match o.guard with
    | none=>some ⟨o.dst,r,none⟩
    | some (j,b)=>match (ops[j]?).bind (·.dst) with
      | some s=>if s<N then some ⟨o.dst,r,some (s,b)⟩ else none
      | none=>none
   else none
 | none=>none
theorem resItem_ok{N:Nat}{ops:Array Oper}{o:Oper}{it:Item}(h:resItem P N ops o=some it):ItemOk P N ops o it:=by
 unfold resItem at h
 split at h
 ·rename_i r hr
  split at h
  ·rename_i hg
   simp only[Bool.and_eq_true,Bool.not_eq_true'] at hg
   obtain⟨⟨g1,g2⟩,g3⟩:=hg
   have hlt : ∀d,o.dst=some d→d<N:=fun d hd=>by rw[hd] at g1;simpa[dstOk] using g1
   have hop : ∀x∈o.op.operands,okOpnd x=true:=fun x hx=>List.all_eq_true.1 g2 x (by simpa using hx)
   have hnd : ∀c,o.op≠ .defer c:=fun c e=>by rw[e] at g3;cases g3
   split at h
   ·rename_i hgd
    cases h
    exact⟨rfl,hlt,resOp_ok hr,hop,hnd, .inl ⟨hgd,rfl⟩⟩
   ·rename_i j b hgd
    split at h
    ·rename_i s hs
     split at h
     ·rename_i hsl
      cases h
      exact⟨rfl,hlt,resOp_ok hr,hop,hnd, .inr ⟨j,b,s,hgd,rfl,hs,hsl⟩⟩
     ·cases h
    ·cases h
  ·cases h
 ·cases h
def resItems(P:Program)(N:Nat)(ops:Array Oper):List Oper→Option (List Item)
 | []=>some []
 | o::r=>match resItem P N ops o,resItems P N ops r with
   | some it,some its=>some (it::its)
   | _,_=>none
theorem resItems_ok{N:Nat}{ops:Array Oper} : ∀ {l:List Oper} {its:List Item},resItems P N ops l=some its→its.length=l.length∧∀i (h1:i<its.length) (h2:i<l.length),ItemOk P N ops l[i] its[i]
 | [],its,h=>by simp[resItems] at h;subst h;exact⟨rfl,fun i h1=>absurd h1 (by simp)⟩
 | o::l,its,h=>by
   simp only[resItems] at h
   split at h
   ·rename_i it its0 h1 h2
    cases h
    obtain⟨g1,g2⟩:=resItems_ok h2
    refine⟨by simp[g1],fun i hi hj=> ?_⟩
    cases i with
    | zero=>exact resItem_ok h1
    | succ i=>simpa using g2 i (by simpa using hi) (by simpa using hj)
   ·cases h
def resCode(P:Program)(N:Nat)(rd:Array Oper→Option DReg)(f:Nat):Nat→Code→Option RCode
 | _, .skip=>some .skip
 | _, .label _=>some .skip
 | _, .region _ ops false=>match resItems P N ops ops.toList with
   | some its=>some (.reg its)
   | none=>some .bad
 | _, .region _ ops true=>match rd ops with
   | some d=>some (.drw d)
   | none=>some .bad
 | k, .seq a b=>match resCode P N rd f k a,resCode P N rd f (k+(loopsOf a).length) b with
   | some x,some y=>some (.seq x y)
   | _,_=>none
 | k, .cond c a b=>if okOpnd c then match resCode P N rd f k a,resCode P N rd f (k+(loopsOf a).length) b with
    | some x,some y=>some (.cond c x y)
    | _,_=>none
   else some .bad
 | k, .block id c=>(resCode P N rd f k c).map (.block id)
 | k, .loop c=>(resCode P N rd f k c).map .loop
 | k, .scope c=>resCode P N rd f k c
 | _, .exit id=>some (.exit id)
 | _, .ret=>some .ret
 | k, .rangeFunc g _ _ _=>if okOpnd g then some (.rangeF g (f,k)) else some .bad
 | _,_=>some .bad
theorem resCode_ok{N f:Nat}{rd:Array Oper→Option DReg}(hrd : ∀ops d,rd ops=some d→DOk P N ops d∧PDOk P N ops d) : ∀ {c:Code} {k:Nat} {r:RCode},(∀j x,(loopsOf c)[j]? = some x→keyOf P (f,k+j)=some (N,x))→resCode P N rd f k c=some r→CodeOk P N c r:=by
 intro c
 induction c with
 | skip=>intro k r hk h;simp only[resCode] at h;cases h;exact .skip
 | label l=>intro k r hk h;simp only[resCode] at h;cases h;exact .label
 | region id ops draw=>
   intro k r hk h
   cases draw with
   | false=>
     simp only[resCode] at h
     cases hi:resItems P N ops ops.toList with
     | none=>rw[hi] at h;cases h;exact .bad
     | some its=>
       rw[hi] at h
       cases h
       obtain⟨g1,g2⟩:=resItems_ok hi
       exact .reg (by simpa using g1) fun i h1 h2=>by have:=g2 i h1 (by simpa using h2);rwa [Array.getElem_toList] at this
   | true=>
     simp only[resCode] at h
     cases hi:rd ops with
     | none=>rw[hi] at h;cases h;exact .bad
     | some d=>rw[hi] at h;cases h;exact .drw (hrd ops d hi)
 | seq a b iha ihb=>
   intro k r hk h
   simp only[loopsOf] at hk
   simp only[resCode] at h
   split at h
   ·rename_i x y hx hy
    cases h
    exact .seq (iha (fun j q hq=>hk j q (by rw[List.getElem?_append_left (List.getElem?_eq_some_iff.1 hq).1];exact hq)) hx)
     (ihb (fun j q hq=>by rw[Nat.add_assoc];exact hk _ q (by rw[List.getElem?_append_right (by omega)];simpa using hq)) hy)
   ·cases h
 | cond c a b iha ihb=>
   intro k r hk h
   simp only[loopsOf] at hk
   simp only[resCode] at h
   split at h
   ·rename_i hc
    split at h
    ·rename_i x y hx hy
     cases h
     exact .cond hc (iha (fun j q hq=>hk j q (by rw[List.getElem?_append_left (List.getElem?_eq_some_iff.1 hq).1];exact hq)) hx)
      (ihb (fun j q hq=>by rw[Nat.add_assoc];exact hk _ q (by rw[List.getElem?_append_right (by omega)];simpa using hq)) hy)
    ·cases h
   ·cases h;exact .bad
 | block id c ih=>
   intro k r hk h
   simp only[resCode] at h
   cases hc:resCode P N rd f k c with
   | none=>rw[hc] at h;cases h
   | some x=>rw[hc] at h;cases h;exact .block (ih hk hc)
 | loop c ih=>
   intro k r hk h
   simp only[resCode] at h
   cases hc:resCode P N rd f k c with
   | none=>rw[hc] at h;cases h
   | some x=>rw[hc] at h;cases h;exact .loop (ih hk hc)
 | scope c ih=>
   intro k r hk h
   simp only[resCode] at h
   exact .scope (ih hk h)
 | exit id=>intro k r hk h;simp only[resCode] at h;cases h;exact .exit
 | ret=>intro k r hk h;simp only[resCode] at h;cases h;exact .ret
 | rangeFunc g ps a b iha ihb=>
   intro k r hk h
   simp only[resCode] at h
   split at h
   ·rename_i hg
    cases h
    exact .rangeF hg (hk 0 _ rfl)
   ·cases h;exact .bad
 | _=>intro k r hk h;simp only[resCode,Option.some.injEq] at h;subst h;exact .bad
def Nests(L:List (Array Tmp×Code×Code)):Prop:=∀(i:Nat) (ps:Array Tmp) (a b:Code),L[i]? = some (ps,a,b)→∀j x,(loopsOf a++loopsOf b)[j]? = some x→L[i+1+j]? = some x
theorem Nests.append{L M:List (Array Tmp×Code×Code)}(h:Nests L)(k:Nests M):Nests (L++M):=by
 intro i ps a b hi j x hj
 by_cases hl:i<L.length
 ·rw[List.getElem?_append_left hl] at hi
  have:=h i ps a b hi j x hj
  rw[List.getElem?_append_left (List.getElem?_eq_some_iff.1 this).1]
  exact this
 ·rw[List.getElem?_append_right (by omega)] at hi
  have:=k _ ps a b hi j x hj
  rw[List.getElem?_append_right (by omega),show i+1+j-L.length=i-L.length+1+j by omega]
  exact this
theorem nests_loopsOf(c:Code):Nests (loopsOf c):=by
 have hnil:Nests []:=fun i ps a b h=>by simp at h
 induction c with
 | seq a b iha ihb=>exact iha.append ihb
 | cond c a b iha ihb=>exact iha.append ihb
 | block id c ih=>exact ih
 | loop c ih=>exact ih
 | scope c ih=>exact ih
 | rangeFunc g ps a b iha ihb=>
   have:=iha.append ihb
   intro i qs x y hi j z hj
   cases i with
   | zero=>
     simp only[loopsOf,List.getElem?_cons_zero,Option.some.injEq,Prod.mk.injEq] at hi
     obtain⟨rfl,rfl,rfl⟩:=hi
     simp only[loopsOf]
     rw[show 0+1+j=j+1 by omega,List.getElem?_cons_succ]
     exact hj
   | succ i=>
     simp only[loopsOf,List.getElem?_cons_succ] at hi
     simp only[loopsOf]
     rw[show i+1+1+j=(i+1+j)+1 by omega,List.getElem?_cons_succ]
     exact this i qs x y hi j z hj
 | _=>exact hnil
theorem keyOf_body{f k N:Nat}{fn:Func}{c:Code}(hf:P.funcs[f]? = some fn)(hb:fn.body=some c){x:Array Tmp×Code×Code}:keyOf P (f,k)=some (N,x)↔fn.ntmps=N∧(loopsOf c)[k]? = some x:=by
 simp only[keyOf,hf,hb,Option.map_eq_some_iff,Prod.mk.injEq]
 constructor
 ·rintro⟨y,h1,h2,rfl⟩;exact⟨h2,h1⟩
 ·rintro⟨h1,h2⟩;exact⟨x,h2,h1,rfl⟩
theorem keyOf_nest{f k N:Nat}{ps:Array Tmp}{a b:Code}(h:keyOf P (f,k)=some (N,ps,a,b)){j:Nat}{x:Array Tmp×Code×Code}(hj:(loopsOf a++loopsOf b)[j]? = some x):keyOf P (f,k+1+j)=some (N,x):=by
 cases hf:P.funcs[f]? with
 | none=>simp[keyOf,hf] at h
 | some fn=>
   cases hb:fn.body with
   | none=>simp[keyOf,hf,hb] at h
   | some c=>
     rw[keyOf_body hf hb] at h⊢
     exact⟨h.1,nests_loopsOf c k ps a b h.2 j x hj⟩
def resLoop(P:Program)(rd:Nat→Array Oper→Option DReg)(key:Nat×Nat):Option (List Nat×RCode×RCode):=
 match keyOf P key with
 | some (N,ps,a,b)=>if (ps.toList.all fun p=>decide (p<N))=true then match resCode P N (rd N) key.1 (key.2+1) a,resCode P N (rd N) key.1 (key.2+1+(loopsOf a).length) b with
   | some x,some y=>some (ps.toList,x,y)
   | _,_=>none
   else none
 | none=>none
theorem resLoop_ok{rd:Nat→Array Oper→Option DReg}(hrd : ∀N ops d,rd N ops=some d→DOk P N ops d∧PDOk P N ops d){key:Nat×Nat}{ps:List Nat}{asg body:RCode}(h:resLoop P rd key=some (ps,asg,body)):LoopOk P key ps asg body:=by
 unfold resLoop at h
 split at h
 ·rename_i N qs a b hk
  split at h
  ·rename_i hall
   split at h
   ·rename_i x y hx hy
    cases h
    refine⟨N,a,b,by simpa using hk,resCode_ok (hrd N) (fun j q hq=>keyOf_nest hk (by rw[List.getElem?_append_left (List.getElem?_eq_some_iff.1 hq).1];exact hq)) hx,
     resCode_ok (hrd N) (fun j q hq=>by rw[Nat.add_assoc (key.2+1)];exact keyOf_nest hk (by rw[List.getElem?_append_right (by omega)];simpa using hq)) hy,fun p hp=>of_decide_eq_true (List.all_eq_true.1 hall p hp)⟩
   ·cases h
  ·cases h
 ·cases h
def resRes(P:Program):List ResultVar→Option (List RRes)
 | []=>some []
 | r::rs=>match (match r with
    | .tmp t=>some (.tmp t)
    | .cell a t=>match P.underlying t with
      | some d=>if isAggD d then (szOf P t).map fun n=> .lda n a else some (.ld a)
      | none=>none:Option RRes),resRes P rs with
   | some q,some qs=>some (q::qs)
   | _,_=>none
theorem resRes_ok : ∀ {rs:List ResultVar} {qs:List RRes},resRes P rs=some qs→ResOks P rs qs
 | [],qs,h=>by simp[resRes] at h;subst h;exact .nil
 | r::rs,qs,h=>by
   simp only[resRes] at h
   split at h
   ·rename_i q qs0 h1 h2
    cases h
    refine .cons ?_ (resRes_ok h2)
    cases r with
    | tmp t=>simp at h1;subst h1;exact .tmp
    | cell a t=>
      simp only at h1
      split at h1
      ·rename_i d hd
       split at h1
       ·rename_i ha
        cases hs:szOf P t with
        | none=>rw[hs] at h1;cases h1
        | some n=>rw[hs] at h1;cases h1;exact .lda hd (by cases d<;>first | rfl | cases ha) hs
       ·rename_i ha
        cases h1
        exact .ld hd (by cases d<;>first | rfl | exact absurd rfl ha)
      ·cases h1
   ·cases h
def resFunc(P:Program)(rd:Nat→Array Oper→Option DReg)(f:FuncId):Option RFunc:=
 if callable P f then match P.funcs[f]? with
  | some fn=>match fn.body with
    | some c=>match resCode P fn.ntmps (rd fn.ntmps) f 0 c,resRes P fn.results.toList with
      | some r,some q=>some ⟨fn.ntmps,q,r⟩
      | _,_=>none
    | none=>none
  | none=>none
 else none
theorem resFunc_ok{rd:Nat→Array Oper→Option DReg}(hrd : ∀N ops d,rd N ops=some d→DOk P N ops d∧PDOk P N ops d){f:FuncId}{rf:RFunc}(h:resFunc P rd f=some rf):FuncOk P f rf:=by
 unfold resFunc at h
 split at h
 ·rename_i hc
  split at h
  ·rename_i fn hf
   split at h
   ·rename_i c hb
    split at h
    ·rename_i r q hr hq
     cases h
     exact⟨hc,fn,c,hf,hb,rfl,resCode_ok (hrd _) (fun j x hj=>by rw[Nat.zero_add,keyOf_body hf hb];exact⟨rfl,hj⟩) hr,resRes_ok hq⟩
    ·cases h
   ·cases h
  ·cases h
 ·cases h
end Can
end Go.Proofs.YticlaccbodpkeaaGreatDoor
namespace Go.Proofs.YticlaccbodpkeaaGreatDoor
namespace Can
open Go Go.RowKit
set_option linter.unusedSimpArgs false
set_option linter.unusedVariables false
structure HLe(h h':Hd):Prop where
 call : ∀f a H r,h.call f a H=some r→h'.call f a H=some r
 round : ∀l a H r,h.round l a H=some r→h'.round l a H=some r
theorem rop_mono{h h':Hd}(hle:HLe h h'){fr:Fr}{H:CH}{o:ROp}{r:Value×CH}(hr:rop h fr H o=some r):rop h' fr H o=some r:=by
 cases o with
 | call f args=>exact hle.call _ _ _ _ hr
 | callv g args=>
   simp only[rop] at hr⊢
   split at hr
   ·exact hle.call _ _ _ _ hr
   ·exact hle.round _ _ _ _ hr
   ·cases hr
 | _=>exact hr
theorem stepI_mono{h h':Hd}(hle:HLe h h'){it:Item}{fr:Fr}{H:CH}{r:Fr×CH}(hr:stepI h it fr H=some r):stepI h' it fr H=some r:=by
 simp only[stepI] at hr⊢
 split at hr
 ·cases hrop:rop h fr H it.op with
  | none=>rw[hrop] at hr;cases hr
  | some q=>rw[hrop] at hr;rw[rop_mono hle hrop];exact hr
 ·exact hr
 ·cases hr
theorem runI_mono{h h':Hd}(hle:HLe h h') : ∀ {its:List Item} {fr:Fr} {H:CH} {r:Fr×CH},runI h its fr H=some r→runI h' its fr H=some r
 | [],fr,H,r,hr=>hr
 | it::its,fr,H,r,hr=>by
   simp only[runI] at hr⊢
   cases hs:stepI h it fr H with
   | none=>rw[hs] at hr;cases hr
   | some q=>rw[hs] at hr;rw[stepI_mono hle hs];exact runI_mono hle hr
theorem runD_mono{h h':Hd}(hle:HLe h h') : ∀ {its:List Item} {fr:Fr} {H:CH} {r:Fr×CH×List CH},runD h its fr H=some r→runD h' its fr H=some r
 | [],fr,H,r,hr=>hr
 | it::its,fr,H,r,hr=>by
   simp only[runD] at hr⊢
   cases hs:stepI h it fr H with
   | none=>rw[hs] at hr;cases hr
   | some q=>
     rw[hs] at hr
     rw[stepI_mono hle hs]
     simp only at hr⊢
     cases hd:runD h its q.1 q.2 with
     | none=>rw[hd] at hr;cases hr
     | some d=>rw[hd] at hr;rw[runD_mono hle hd];exact hr
theorem evD_mono{h h':Hd}(hle:HLe h h'){d:DReg}{fr:Fr}{H:CH}{r:Fr×CH}(hr:evD h d fr H=some r):evD h' d fr H=some r:=by
 simp only[evD] at hr⊢
 cases hd:runD h d.its fr H with
 | none=>rw[hd] at hr;cases hr
 | some q=>rw[hd] at hr;rw[runD_mono hle hd];exact hr
theorem loopN_mono{n m:Nat}(hnm:n≤m){f g:Fr→CH→Res}(hfg : ∀fr H r,f fr H=some r→g fr H=some r) : ∀ {fr:Fr} {H:CH} {r:CExit×Fr×CH},loopN n f fr H=some r→loopN m g fr H=some r:=by
 induction n generalizing m with
 | zero=>intro fr H r hr;simp[loopN] at hr
 | succ n ih=>
   intro fr H r hr
   obtain⟨m,rfl⟩ : ∃k,m=k+1:=⟨m-1,by omega⟩
   simp only[loopN] at hr⊢
   cases hf:f fr H with
   | none=>rw[hf] at hr;cases hr
   | some q=>
     obtain⟨x,fr1,H1⟩:=q
     rw[hf] at hr
     rw[hfg _ _ _ hf]
     cases x with
     | normal=>exact ih (m:=m) (by omega) hr
     | exit i=>exact hr
     | ret=>exact hr
theorem evR_mono{h h':Hd}(hle:HLe h h'){n m:Nat}(hnm:n≤m) : ∀ {c:RCode} {fr:Fr} {H:CH} {r:CExit×Fr×CH},evR h n c fr H=some r→evR h' m c fr H=some r:=by
 intro c
 induction c with
 | bad=>intro fr H r hr;simp[evR] at hr
 | skip=>intro fr H r hr;exact hr
 | reg its=>
   intro fr H r hr
   simp only[evR] at hr⊢
   cases hi:runI h its fr H with
   | none=>rw[hi] at hr;cases hr
   | some q=>rw[hi] at hr;rw[runI_mono hle hi];exact hr
 | drw d=>
   intro fr H r hr
   simp only[evR] at hr⊢
   cases hi:evD h d fr H with
   | none=>rw[hi] at hr;cases hr
   | some q=>rw[hi] at hr;rw[evD_mono hle hi];exact hr
 | seq a b iha ihb=>
   intro fr H r hr
   simp only[evR] at hr⊢
   cases ha:evR h n a fr H with
   | none=>rw[ha] at hr;cases hr
   | some q=>
     obtain⟨x,fr1,H1⟩:=q
     rw[ha] at hr
     rw[iha ha]
     cases x with
     | normal=>exact ihb hr
     | exit i=>exact hr
     | ret=>exact hr
 | cond c a b iha ihb=>
   intro fr H r hr
   simp only[evR] at hr⊢
   split at hr
   ·exact iha hr
   ·exact ihb hr
   ·cases hr
 | block id c ih=>
   intro fr H r hr
   simp only[evR] at hr⊢
   cases ha:evR h n c fr H with
   | none=>rw[ha] at hr;cases hr
   | some q=>rw[ha] at hr;rw[ih ha];exact hr
 | loop c ih=>
   intro fr H r hr
   simp only[evR] at hr⊢
   exact loopN_mono hnm (fun _ _ _ hq=>ih hq) hr
 | exit id=>intro fr H r hr;exact hr
 | ret=>intro fr H r hr;exact hr
 | rangeF g key=>
   intro fr H r hr
   simp only[evR] at hr⊢
   split at hr
   ·rename_i f fst caps hg
    cases hc:h.call f (Value.func (.yield H.nx) #[] #[]::caps.toList) (H.new (.loop .ready none fr key)) with
    | none=>rw[hc] at hr;cases hr
    | some q=>rw[hc] at hr;rw[hle.call _ _ _ _ hc];exact hr
   ·cases hr
theorem evH_mono{T:Tbl} : ∀ {n m:Nat},n≤m→HLe (evH T n) (evH T m)
 | 0,m,_=>⟨fun f a H r hr=>by simp[evH] at hr,fun f a H r hr=>by simp[evH] at hr⟩
 | n+1,m,hle=>by
   obtain⟨m,rfl⟩ : ∃k,m=k+1:=⟨m-1,by omega⟩
   have ih:=evH_mono (T:=T) (n:=n) (m:=m) (by omega)
   have hnm:n≤m:=by omega
   refine⟨fun f a H r hr=> ?_,fun l a H r hr=> ?_⟩
   ·simp only[evH] at hr⊢
    split at hr
    ·rename_i he;rw[if_pos he];exact hr
    ·rename_i he
     rw[if_neg he]
     split at hr
     ·rename_i rf hrf
      cases hb:evR (evH T n) n rf.body (fun t=>a.getD t undef) H with
      | none=>rw[hb] at hr;cases hr
      | some q=>rw[hb] at hr;rw[evR_mono ih hnm hb];exact hr
     ·cases hr
   ·simp only[evH] at hr⊢
    split at hr
    ·rename_i pend fr key ho
     split at hr
     ·rename_i ps asg body hl
      split at hr
      ·rename_i hlen
       rw[if_pos hlen]
       cases hb:evR (evH T n) n asg (putPs fr ps a) H with
       | none=>rw[hb] at hr;cases hr
       | some q=>
         obtain⟨x,fr2,H2⟩:=q
         rw[hb] at hr
         rw[evR_mono ih hnm hb]
         cases x with
         | normal=>
           simp only at hr⊢
           split at hr
           ·rename_i pend0 fr0 key0 ho2
            cases hb2:evR (evH T n) n body fr2 (H2.set l (.loop .busy pend0 fr0 key0)) with
            | none=>rw[hb2] at hr;cases hr
            | some q2=>rw[hb2] at hr;rw[evR_mono ih hnm hb2];exact hr
           ·cases hr
         | ret=>cases hr
         | exit i=>cases hr
      ·cases hr
     ·cases hr
    ·cases hr
theorem evFn_mono{T:Tbl}{n m:Nat}(h:n≤m) : ∀f a H r,evFn T n f a H=some r→evFn T m f a H=some r:=(evH_mono h).call
def WpF (T:Tbl)(f:FuncId)(args:List Value)(H:CH)(Q:Value→CH→Prop):Prop:=∃n v H',evFn T n f args H=some (v,H')∧Q v H'
def WpY (T:Tbl)(l:Nat)(args:List Value)(H:CH)(Q:Value→CH→Prop):Prop:=∃n v H',(evH T n).round l args H=some (v,H')∧Q v H'
def WpI (T:Tbl)(its:List Item)(fr:Fr)(H:CH)(K:Fr→CH→Prop):Prop:=∃n fr' H',runI (evH T n) its fr H=some (fr',H')∧K fr' H'
def WpD (T:Tbl)(its:List Item)(fr:Fr)(H:CH)(K:Fr→CH→List CH→Prop):Prop:=∃n fr' H' l,runD (evH T n) its fr H=some (fr',H',l)∧K fr' H' l
def WpR (T:Tbl)(c:RCode)(fr:Fr)(H:CH)(Q:CExit→Fr→CH→Prop):Prop:=∃n x fr' H',evR (evH T n) n c fr H=some (x,fr',H')∧Q x fr' H'
variable {T:Tbl}
theorem WpF.mono{f:FuncId}{args:List Value}{H:CH}{Q Q':Value→CH→Prop}(h:WpF T f args H Q)(hq : ∀v H',Q v H'→Q' v H'):WpF T f args H Q':=by
 obtain⟨n,v,H',h1,h2⟩:=h;exact⟨n,v,H',h1,hq _ _ h2⟩
theorem WpR.mono{c:RCode}{fr:Fr}{H:CH}{Q Q':CExit→Fr→CH→Prop}(h:WpR T c fr H Q)(hq : ∀x fr' H',Q x fr' H'→Q' x fr' H'):WpR T c fr H Q':=by
 obtain⟨n,x,fr',H',h1,h2⟩:=h;exact⟨n,x,fr',H',h1,hq _ _ _ h2⟩
theorem wpI_nil{fr:Fr}{H:CH}{K:Fr→CH→Prop}:WpI T [] fr H K↔K fr H:=
 ⟨fun⟨n,fr',H',h1,h2⟩=>by simp[runI] at h1;rw[h1.1,h1.2];exact h2,fun h=>⟨0,fr,H,rfl,h⟩⟩
def WpO (T:Tbl)(fr:Fr)(H:CH)(o:ROp)(K:Value→CH→Prop):Prop:=∃n v H',rop (evH T n) fr H o=some (v,H')∧K v H'
theorem wpI_cons{it:Item}{r:List Item}{fr:Fr}{H:CH}{K:Fr→CH→Prop}:WpI T (it::r) fr H K↔
 match wantedF fr it.guard with
 | some true=>WpO T fr H it.op fun v H'=>WpI T r (putF fr it.dst v) H' K
 | some false=>WpI T r (putF fr it.dst skipV) H K
 | none=>False:=by
 constructor
 ·rintro⟨n,fr',H',h1,h2⟩
  simp only[runI,stepI] at h1
  cases hw:wantedF fr it.guard with
  | none=>rw[hw] at h1;cases h1
  | some b=>
    rw[hw] at h1
    cases b with
    | true=>
      simp only at h1⊢
      cases hr:rop (evH T n) fr H it.op with
      | none=>rw[hr] at h1;cases h1
      | some q=>rw[hr] at h1;exact⟨n,q.1,q.2,hr,n,fr',H',h1,h2⟩
    | false=>exact⟨n,fr',H',h1,h2⟩
 ·intro h
  cases hw:wantedF fr it.guard with
  | none=>rw[hw] at h;exact h.elim
  | some b=>
    rw[hw] at h
    cases b with
    | true=>
      obtain⟨n,v,H1,h1,m,fr',H',h2,h3⟩:=h
      refine⟨max n m,fr',H',?_,h3⟩
      simp only[runI,stepI,hw]
      rw[rop_mono (evH_mono (Nat.le_max_left n m)) h1]
      exact runI_mono (evH_mono (Nat.le_max_right n m)) h2
    | false=>
      obtain⟨n,fr',H',h1,h2⟩:=h
      exact⟨n,fr',H',by simp only[runI,stepI,hw];exact h1,h2⟩
theorem wpO_p{fr:Fr}{H:CH}{x:POp}{K:Value→CH→Prop}:WpO T fr H (.p x) K↔∃v,pop (evF fr) x=some v∧K v H:=by
 constructor
 ·rintro⟨n,v,H',h1,h2⟩
  simp only[rop] at h1
  cases hp:pop (evF fr) x with
  | none=>rw[hp] at h1;cases h1
  | some u=>rw[hp] at h1;cases h1;exact⟨_,rfl,h2⟩
 ·rintro⟨v,h1,h2⟩
  exact⟨0,v,H,by simp[rop,h1],h2⟩
theorem wpO_l{fr:Fr}{H:CH}{x:LOp}{K:Value→CH→Prop}:WpO T fr H (.l x) K↔∃v,lop H (evF fr) x=some v∧K v H:=by
 constructor
 ·rintro⟨n,v,H',h1,h2⟩
  simp only[rop] at h1
  cases hp:lop H (evF fr) x with
  | none=>rw[hp] at h1;cases h1
  | some u=>rw[hp] at h1;cases h1;exact⟨_,rfl,h2⟩
 ·rintro⟨v,h1,h2⟩
  exact⟨0,v,H,by simp[rop,h1],h2⟩
theorem wpO_a{fr:Fr}{H:CH}{x:AOp}{K:Value→CH→Prop}:WpO T fr H (.a x) K↔∃cs e k mk,aop (evF fr) x=some (cs,e,k,mk)∧K (akV mk H.nx) (H.new (.cells cs e k)):=by
 constructor
 ·rintro⟨n,v,H',h1,h2⟩
  simp only[rop] at h1
  cases hp:aop (evF fr) x with
  | none=>rw[hp] at h1;cases h1
  | some u=>obtain⟨cs,e,k,mk⟩:=u;rw[hp] at h1;cases h1;exact⟨cs,e,k,mk,rfl,h2⟩
 ·rintro⟨cs,e,k,mk,h1,h2⟩
  exact⟨0,_,_,by simp[rop,h1],h2⟩
theorem wpO_w{fr:Fr}{H:CH}{x:WOp}{K:Value→CH→Prop}:WpO T fr H (.w x) K↔∃v H',wop H (evF fr) x=some (v,H')∧K v H':=by
 constructor
 ·rintro⟨n,v,H',h1,h2⟩;exact⟨v,H',h1,h2⟩
 ·rintro⟨v,H',h1,h2⟩;exact⟨0,v,H',h1,h2⟩
theorem wpO_call{fr:Fr}{H:CH}{f:FuncId}{args:List Operand}{K:Value→CH→Prop}:WpO T fr H (.call f args) K↔WpF T f (args.map (evF fr)) H K:=Iff.rfl
theorem wpO_callv{fr:Fr}{H:CH}{g:Operand}{args:List Operand}{K:Value→CH→Prop}:WpO T fr H (.callv g args) K↔
 match evF fr g with
 | .func (.func f) _ caps=>WpF T f (args.map (evF fr)++caps.toList) H K
 | .func (.yield l) _ _=>WpY T l (args.map (evF fr)) H K
 | _=>False:=by
 constructor
 ·rintro⟨n,v,H',h1,h2⟩
  simp only[rop] at h1
  split at h1
  ·rename_i hg;simp only[hg];exact⟨n,v,H',h1,h2⟩
  ·rename_i hg;simp only[hg];exact⟨n,v,H',h1,h2⟩
  ·cases h1
 ·intro h
  split at h
  ·rename_i hg
   obtain⟨n,v,H',h1,h2⟩:=h
   exact⟨n,v,H',by simp only[rop,hg];exact h1,h2⟩
  ·rename_i hg
   obtain⟨n,v,H',h1,h2⟩:=h
   exact⟨n,v,H',by simp only[rop,hg];exact h1,h2⟩
  ·exact h.elim
theorem wpR_skip{fr:Fr}{H:CH}{Q:CExit→Fr→CH→Prop}:WpR T .skip fr H Q↔Q .normal fr H:=
 ⟨fun⟨n,x,fr',H',h1,h2⟩=>by simp only[evR,Option.some.injEq,Prod.mk.injEq] at h1;obtain⟨rfl,rfl,rfl⟩:=h1;exact h2,fun h=>⟨0,_,_,_,rfl,h⟩⟩
theorem wpR_exit{id:Nat}{fr:Fr}{H:CH}{Q:CExit→Fr→CH→Prop}:WpR T (.exit id) fr H Q↔Q (.exit id) fr H:=
 ⟨fun⟨n,x,fr',H',h1,h2⟩=>by simp only[evR,Option.some.injEq,Prod.mk.injEq] at h1;obtain⟨rfl,rfl,rfl⟩:=h1;exact h2,fun h=>⟨0,_,_,_,rfl,h⟩⟩
theorem wpR_ret{fr:Fr}{H:CH}{Q:CExit→Fr→CH→Prop}:WpR T .ret fr H Q↔Q .ret fr H:=
 ⟨fun⟨n,x,fr',H',h1,h2⟩=>by simp only[evR,Option.some.injEq,Prod.mk.injEq] at h1;obtain⟨rfl,rfl,rfl⟩:=h1;exact h2,fun h=>⟨0,_,_,_,rfl,h⟩⟩
theorem wpR_reg{its:List Item}{fr:Fr}{H:CH}{Q:CExit→Fr→CH→Prop}:WpR T (.reg its) fr H Q↔WpI T its fr H (Q .normal):=by
 constructor
 ·rintro⟨n,x,fr',H',h1,h2⟩
  simp only[evR] at h1
  cases hr:runI (evH T n) its fr H with
  | none=>rw[hr] at h1;cases h1
  | some q=>rw[hr] at h1;cases h1;exact⟨n,_,_,hr,h2⟩
 ·rintro⟨n,fr',H',h1,h2⟩
  exact⟨n,_,_,_,by simp only[evR,h1];rfl,h2⟩
theorem wpR_drw{d:DReg}{fr:Fr}{H:CH}{Q:CExit→Fr→CH→Prop}:WpR T (.drw d) fr H Q↔WpD T d.its fr H fun fr' H' l=>(∀p∈d.chk,∃G,(H::l)[p.2]? = some G∧Again fr' G p.1)∧Q .normal fr' H':=by
 constructor
 ·rintro⟨n,x,fr',H',h1,h2⟩
  simp only[evR,evD] at h1
  cases hr:runD (evH T n) d.its fr H with
  | none=>rw[hr] at h1;cases h1
  | some q=>
    obtain⟨f,K,l⟩:=q
    rw[hr] at h1
    simp only at h1
    split at h1
    ·rename_i hc;cases h1;exact⟨n,_,_,_,hr,hc,h2⟩
    ·cases h1
 ·rintro⟨n,fr',H',l,h1,h2,h3⟩
  refine⟨n,_,fr',H',?_,h3⟩
  simp only[evR,evD,h1]
  rw[if_pos h2];rfl
theorem wpD_nil{fr:Fr}{H:CH}{K:Fr→CH→List CH→Prop}:WpD T [] fr H K↔K fr H []:=
 ⟨fun⟨n,fr',H',l,h1,h2⟩=>by simp only[runD,Option.some.injEq,Prod.mk.injEq] at h1;obtain⟨rfl,rfl,rfl⟩:=h1;exact h2,fun h=>⟨0,fr,H,[],rfl,h⟩⟩
theorem wpD_cons{it:Item}{r:List Item}{fr:Fr}{H:CH}{K:Fr→CH→List CH→Prop}:WpD T (it::r) fr H K↔
 match wantedF fr it.guard with
 | some true=>WpO T fr H it.op fun v H'=>WpD T r (putF fr it.dst v) H' fun f L l=>K f L (if isW it.op then H'::l else l)
 | some false=>WpD T r (putF fr it.dst skipV) H fun f L l=>K f L (if isW it.op then H::l else l)
 | none=>False:=by
 constructor
 ·rintro⟨n,fr',H',l,h1,h2⟩
  simp only[runD,stepI] at h1
  cases hw:wantedF fr it.guard with
  | none=>rw[hw] at h1;cases h1
  | some b=>
    rw[hw] at h1
    cases b with
    | true=>
      simp only at h1⊢
      cases hr:rop (evH T n) fr H it.op with
      | none=>rw[hr] at h1;cases h1
      | some q=>
        rw[hr] at h1
        simp only[Option.map_some] at h1
        cases hd:runD (evH T n) r (putF fr it.dst q.1) q.2 with
        | none=>rw[hd] at h1;cases h1
        | some z=>
          obtain⟨a,b,c⟩:=z
          rw[hd] at h1
          simp only[Option.map_some,Option.some.injEq,Prod.mk.injEq] at h1
          obtain⟨rfl,rfl,rfl⟩:=h1
          exact⟨n,q.1,q.2,hr,n,_,_,_,hd,h2⟩
    | false=>
      simp only at h1⊢
      cases hd:runD (evH T n) r (putF fr it.dst skipV) H with
      | none=>rw[hd] at h1;cases h1
      | some z=>
        obtain⟨a,b,c⟩:=z
        rw[hd] at h1
        simp only[Option.map_some,Option.some.injEq,Prod.mk.injEq] at h1
        obtain⟨rfl,rfl,rfl⟩:=h1
        exact⟨n,_,_,_,hd,h2⟩
 ·intro h
  cases hw:wantedF fr it.guard with
  | none=>rw[hw] at h;exact h.elim
  | some b=>
    rw[hw] at h
    cases b with
    | true=>
      obtain⟨n,v,H1,h1,m,fr',H',l,h2,h3⟩:=h
      refine⟨max n m,fr',H',_,?_,h3⟩
      simp only[runD,stepI,hw]
      rw[rop_mono (evH_mono (Nat.le_max_left n m)) h1]
      simp only[Option.map_some]
      rw[runD_mono (evH_mono (Nat.le_max_right n m)) h2]
      rfl
    | false=>
      obtain⟨n,fr',H',l,h1,h2⟩:=h
      exact⟨n,fr',H',_,by simp only[runD,stepI,hw,h1];rfl,h2⟩
theorem wpR_seq{a b:RCode}{fr:Fr}{H:CH}{Q:CExit→Fr→CH→Prop}:WpR T (.seq a b) fr H Q↔WpR T a fr H fun x fr' H'=>match x with
 | .normal=>WpR T b fr' H' Q
 | x=>Q x fr' H':=by
 constructor
 ·rintro⟨n,x,fr',H',h1,h2⟩
  simp only[evR] at h1
  cases ha:evR (evH T n) n a fr H with
  | none=>rw[ha] at h1;cases h1
  | some q=>
    obtain⟨y,fr1,H1⟩:=q
    rw[ha] at h1
    refine⟨n,y,fr1,H1,ha,?_⟩
    cases y with
    | normal=>exact⟨n,x,fr',H',h1,h2⟩
    | exit i=>cases h1;exact h2
    | ret=>cases h1;exact h2
 ·rintro⟨n,y,fr1,H1,h1,h2⟩
  cases y with
  | normal=>
    obtain⟨m,x,fr',H',h3,h4⟩:=h2
    refine⟨max n m,x,fr',H',?_,h4⟩
    simp only[evR]
    rw[evR_mono (evH_mono (Nat.le_max_left n m)) (Nat.le_max_left n m) h1]
    exact evR_mono (evH_mono (Nat.le_max_right n m)) (Nat.le_max_right n m) h3
  | exit i=>exact⟨n,_,fr1,H1,by simp only[evR,h1],h2⟩
  | ret=>exact⟨n,_,fr1,H1,by simp only[evR,h1],h2⟩
theorem wpR_cond{c:Operand}{a b:RCode}{fr:Fr}{H:CH}{Q:CExit→Fr→CH→Prop}:WpR T (.cond c a b) fr H Q↔match evF fr c with
 | .bool t=>if t=true then WpR T a fr H Q else WpR T b fr H Q
 | _=>False:=by
 constructor
 ·rintro⟨n,x,fr',H',h1,h2⟩
  simp only[evR] at h1
  split at h1
  ·rename_i e;rw[e];exact⟨n,x,fr',H',h1,h2⟩
  ·rename_i e;rw[e];exact⟨n,x,fr',H',h1,h2⟩
  ·cases h1
 ·intro h
  split at h
  ·rename_i t e
   cases t with
   | true=>obtain⟨n,x,fr',H',h1,h2⟩:=h;exact⟨n,x,fr',H',by simp only[evR,e];exact h1,h2⟩
   | false=>obtain⟨n,x,fr',H',h1,h2⟩:=h;exact⟨n,x,fr',H',by simp only[evR,e];exact h1,h2⟩
  ·exact h.elim
theorem wpR_block{id:Nat}{c:RCode}{fr:Fr}{H:CH}{Q:CExit→Fr→CH→Prop}:WpR T (.block id c) fr H Q↔WpR T c fr H fun x fr' H'=>match x with
 | .exit i=>if i=id then Q .normal fr' H' else Q (.exit i) fr' H'
 | x=>Q x fr' H':=by
 constructor
 ·rintro⟨n,x,fr',H',h1,h2⟩
  simp only[evR] at h1
  cases ha:evR (evH T n) n c fr H with
  | none=>rw[ha] at h1;cases h1
  | some q=>
    obtain⟨y,fr1,H1⟩:=q
    rw[ha] at h1
    refine⟨n,y,fr1,H1,ha,?_⟩
    cases y with
    | normal=>cases h1;exact h2
    | exit i=>
      simp only at h1⊢
      split at h1
      ·rename_i e;rw[if_pos e];cases h1;exact h2
      ·rename_i e;rw[if_neg e];cases h1;exact h2
    | ret=>cases h1;exact h2
 ·rintro⟨n,y,fr1,H1,h1,h2⟩
  cases y with
  | normal=>exact⟨n,_,fr1,H1,by simp only[evR,h1],h2⟩
  | exit i=>
    simp only at h2
    split at h2
    ·rename_i e;exact⟨n,_,fr1,H1,by simp only[evR,h1,if_pos e],h2⟩
    ·rename_i e;exact⟨n,_,fr1,H1,by simp only[evR,h1,if_neg e],h2⟩
  | ret=>exact⟨n,_,fr1,H1,by simp only[evR,h1],h2⟩
theorem wpR_loop{c:RCode}{fr:Fr}{H:CH}{Q:CExit→Fr→CH→Prop}:WpR T (.loop c) fr H Q↔WpR T c fr H fun x fr' H'=>match x with
 | .normal=>WpR T (.loop c) fr' H' Q
 | x=>Q x fr' H':=by
 constructor
 ·rintro⟨n,x,fr',H',h1,h2⟩
  simp only[evR] at h1
  cases n with
  | zero=>simp[loopN] at h1
  | succ n=>
    simp only[loopN] at h1
    cases ha:evR (evH T (n+1)) (n+1) c fr H with
    | none=>rw[ha] at h1;cases h1
    | some q=>
      obtain⟨y,fr1,H1⟩:=q
      rw[ha] at h1
      refine⟨n+1,y,fr1,H1,ha,?_⟩
      cases y with
      | normal=>exact⟨n+1,x,fr',H',by simp only[evR];exact loopN_mono (Nat.le_succ n) (fun _ _ _ h=>h) h1,h2⟩
      | exit i=>cases h1;exact h2
      | ret=>cases h1;exact h2
 ·rintro⟨n,y,fr1,H1,h1,h2⟩
  cases y with
  | normal=>
    obtain⟨m,x,fr',H',h3,h4⟩:=h2
    refine⟨max n m+1,x,fr',H',?_,h4⟩
    simp only[evR,loopN] at h3⊢
    rw[evR_mono (evH_mono (Nat.le_succ_of_le (Nat.le_max_left n m))) (Nat.le_succ_of_le (Nat.le_max_left n m)) h1]
    exact loopN_mono (Nat.le_max_right n m) (fun _ _ _ h=>evR_mono (evH_mono (Nat.le_succ_of_le (Nat.le_max_right n m))) (Nat.le_succ_of_le (Nat.le_max_right n m)) h) h3
  | exit i=>exact⟨n+1,_,fr1,H1,by simp only[evR,loopN];rw[evR_mono (evH_mono (Nat.le_succ n)) (Nat.le_succ n) h1],h2⟩
  | ret=>exact⟨n+1,_,fr1,H1,by simp only[evR,loopN];rw[evR_mono (evH_mono (Nat.le_succ n)) (Nat.le_succ n) h1],h2⟩
theorem wpF_fn{f:FuncId}{rf:RFunc}(he:T.ext f=false)(hf:T.fn f=some rf){args:List Value}{H:CH}{Q:Value→CH→Prop}:WpF T f args H Q↔WpR T rf.body (fun t=>args.getD t undef) H fun x fr' H'=>match x with
 | .exit _=>False
 | _=>∃vs,resL fr' H' rf.res=some vs∧Q (tupleV vs) H':=by
 constructor
 ·rintro⟨n,v,H',h1,h2⟩
  cases n with
  | zero=>simp[evFn,evH] at h1
  | succ n=>
    simp only[evFn,evH,he,hf,Bool.false_eq_true,if_false] at h1
    cases hb:evR (evH T n) n rf.body (fun t=>args.getD t undef) H with
    | none=>rw[hb] at h1;cases h1
    | some q=>
      obtain⟨y,fr1,H1⟩:=q
      rw[hb] at h1
      refine⟨n,y,fr1,H1,hb,?_⟩
      cases y with
      | exit i=>cases h1
      | normal=>
        simp only at h1⊢
        cases hv:resL fr1 H1 rf.res with
        | none=>rw[hv] at h1;cases h1
        | some vs=>rw[hv] at h1;cases h1;exact⟨vs,rfl,h2⟩
      | ret=>
        simp only at h1⊢
        cases hv:resL fr1 H1 rf.res with
        | none=>rw[hv] at h1;cases h1
        | some vs=>rw[hv] at h1;cases h1;exact⟨vs,rfl,h2⟩
 ·rintro⟨n,y,fr1,H1,h1,h2⟩
  cases y with
  | exit i=>exact h2.elim
  | normal=>
    obtain⟨vs,h3,h4⟩:=h2
    exact⟨n+1,tupleV vs,H1,by simp only[evFn,evH,he,hf,Bool.false_eq_true,if_false,h1,h3];rfl,h4⟩
  | ret=>
    obtain⟨vs,h3,h4⟩:=h2
    exact⟨n+1,tupleV vs,H1,by simp only[evFn,evH,he,hf,Bool.false_eq_true,if_false,h1,h3];rfl,h4⟩
def RangeK(l:Nat)(fr:Fr)(Q:CExit→Fr→CH→Prop):Value→CH→Prop:=fun _ H=>∃st pend fr' key,H.ob l= .loop st pend fr' key∧st≠ .busy∧Q (jumpX pend) fr (H.set l (.loop .exhausted pend fr' key))
theorem wpR_rangeF{g:Operand}{key:Nat×Nat}{fr:Fr}{H:CH}{Q:CExit→Fr→CH→Prop}{f:FuncId}{fst caps:Array Value}(hg:evF fr g= .func (.func f) fst caps)
 (k:WpF T f (.func (.yield H.nx) #[] #[]::caps.toList) (H.new (.loop .ready none fr key)) (RangeK H.nx fr Q)):WpR T (.rangeF g key) fr H Q:=by
 obtain⟨n,v,H2,h1,st,pend,fr',key',h2,h3,h4⟩:=k
 refine⟨n,_,_,_,?_,h4⟩
 simp only[evR,hg]
 simp only[evFn] at h1
 rw[h1]
 simp only[h2,if_neg h3]
end Can
end Go.Proofs.YticlaccbodpkeaaGreatDoor
namespace Go.Proofs.YticlaccbodpkeaaGreatDoor
namespace Can
open Go Go.RowKit
set_option linter.unusedSimpArgs false
set_option linter.unusedVariables false
variable {P:Program} {B:Nat}
def POp.opnds:POp→List Operand
 | .mov x | .un _ x | .conv _ x | .cstr x | .off x _ | .ext x _ | .len x | .lens x | .nck x | .sld x | .fld x _ _=> [x]
 | .pick c a b=> [c,a,b]
 | .bin _ x y | .eqb _ x y | .eqp _ x y | .eqs _ x y | .eqg _ _ _ x y | .idx x y _ | .idxp x y _ _ | .sidx x y | .idxv x y _ _ _ | .mx _ x y=> [x,y]
 | .sstr x lo hi=>x::(lo.toList++hi.toList)
 | .fn _ caps=>caps
 | .bld _ ps=>ps.map (·.2.2)
def LOp.opnds:LOp→List Operand
 | .ld x | .lda _ x | .b2s x | .ucv _ x=> [x]
 | .eqq _ x y=> [x,y]
 | .lkm _ _ _ x i=> [x,i]
 | .slc _ _ x lo hi mx=>x::(lo.toList++(hi.toList++mx.toList))
def AOp.opnds:AOp→List Operand
 | .box _ x=> [x]
 | .new _ _=> []
 | .bsl _ _ _ _ ps=>ps.map (·.2)
 | .mks _ _ _ _ l c=> [l,c]
def WOp.opnds:WOp→List Operand
 | .st _ x v=> [x,v]
 | .app _ _ _ s x=> [s,x]
 | .cpy _ d s=> [d,s]
 | .mkm=> []
 | .mup _ x k v=> [x,k,v]
 | .sit x | .nxt x | .mit x | .mnx x | .frz x | .s2b _ _ x=> [x]
 | .del _ x k=> [x,k]
 | .ust _ p n=> [p,n]
def ROp.opnds:ROp→List Operand
 | .p x=>x.opnds
 | .l x=>x.opnds
 | .a x=>x.opnds
 | .w x=>x.opnds
 | .call _ args=>args
 | .callv g args=>g::args
theorem bnd_congr{ev ev':Operand→Value}{d d':Nat}{o:Option Operand}(h : ∀x∈o.toList,ev x=ev' x)(hd:d=d'):bnd ev d o=bnd ev' d' o:=by
 subst hd
 cases o with
 | none=>rfl
 | some x=>simp only[bnd,h x (by simp)]
theorem pop_congr{ev ev':Operand→Value}{p:POp}(h : ∀x∈p.opnds,ev x=ev' x):pop ev p=pop ev' p:=by
 cases p with
 | pick c a b=>simp only[pop,h c (by simp[POp.opnds]),h a (by simp[POp.opnds]),h b (by simp[POp.opnds])]
 | sstr x lo hi=>
   have hx:=h x (by simp[POp.opnds])
   simp only[pop,hx]
   rw[bnd_congr (ev:=ev) (ev':=ev') (o:=lo) (fun y hy=>h y (by simp only[POp.opnds,List.mem_cons,List.mem_append];exact .inr (.inl hy))) rfl,bnd_congr (ev:=ev) (ev':=ev') (o:=hi) (fun y hy=>h y (by simp only[POp.opnds,List.mem_cons,List.mem_append];exact .inr (.inr hy))) rfl]
 | fn f caps=>
   have:caps.map ev=caps.map ev':=List.map_congr_left fun x hx=>h x hx
   simp only[pop,this]
 | bld z ps=>
   simp only[pop]
   have:ps.map (fun(o,s,x)=>(o,s,ev x))=ps.map (fun(o,s,x)=>(o,s,ev' x)):=List.map_congr_left fun q hq=>by
    obtain⟨a,b,c⟩:=q
    simp only[h c (List.mem_map.2 ⟨_,hq,rfl⟩)]
   rw[this]
 | mov x=>simp only[pop,h x (by simp[POp.opnds])]
 | un op x=>simp only[pop,h x (by simp[POp.opnds])]
 | conv k x=>simp only[pop,h x (by simp[POp.opnds])]
 | cstr x=>simp only[pop,h x (by simp[POp.opnds])]
 | off x d=>simp only[pop,h x (by simp[POp.opnds])]
 | ext x d=>simp only[pop,h x (by simp[POp.opnds])]
 | len x=>simp only[pop,h x (by simp[POp.opnds])]
 | lens x=>simp only[pop,h x (by simp[POp.opnds])]
 | nck x=>simp only[pop,h x (by simp[POp.opnds])]
 | sld x=>simp only[pop,h x (by simp[POp.opnds])]
 | bin op x y=>simp only[pop,h x (by simp[POp.opnds]),h y (by simp[POp.opnds])]
 | eqb n x y=>simp only[pop,h x (by simp[POp.opnds]),h y (by simp[POp.opnds])]
 | eqp n x y=>simp only[pop,h x (by simp[POp.opnds]),h y (by simp[POp.opnds])]
 | eqs n x y=>simp only[pop,h x (by simp[POp.opnds]),h y (by simp[POp.opnds])]
 | eqg n g ks x y=>simp only[pop,h x (by simp[POp.opnds]),h y (by simp[POp.opnds])]
 | idx x y s=>simp only[pop,h x (by simp[POp.opnds]),h y (by simp[POp.opnds])]
 | idxp x y n s=>simp only[pop,h x (by simp[POp.opnds]),h y (by simp[POp.opnds])]
 | sidx x y=>simp only[pop,h x (by simp[POp.opnds]),h y (by simp[POp.opnds])]
 | fld x d n=>simp only[pop,h x (by simp[POp.opnds])]
 | idxv x y n s g=>simp only[pop,h x (by simp[POp.opnds]),h y (by simp[POp.opnds])]
 | mx b x y=>simp only[pop,h x (by simp[POp.opnds]),h y (by simp[POp.opnds])]
theorem lop_congr{ev ev':Operand→Value}{H:CH}{p:LOp}(h : ∀x∈p.opnds,ev x=ev' x):lop H ev p=lop H ev' p:=by
 cases p with
 | ld x=>simp only[lop,h x (by simp[LOp.opnds])]
 | lda n x=>simp only[lop,h x (by simp[LOp.opnds])]
 | b2s x=>simp only[lop,h x (by simp[LOp.opnds])]
 | ucv f x=>simp only[lop,h x (by simp[LOp.opnds])]
 | eqq neg x y=>simp only[lop,h x (by simp[LOp.opnds]),h y (by simp[LOp.opnds])]
 | lkm kk z ok x i=>simp only[lop,h x (by simp[LOp.opnds]),h i (by simp[LOp.opnds])]
 | slc e sz x lo hi mx=>
   have hx:=h x (by simp[LOp.opnds])
   simp only[lop,hx]
   rw[bnd_congr (ev:=ev) (ev':=ev') (o:=lo) (fun y hy=>h y (by simp only[LOp.opnds,List.mem_cons,List.mem_append];exact .inr (.inl hy))) rfl,
    bnd_congr (ev:=ev) (ev':=ev') (o:=hi) (fun y hy=>h y (by simp only[LOp.opnds,List.mem_cons,List.mem_append];exact .inr (.inr (.inl hy)))) rfl,
    bnd_congr (ev:=ev) (ev':=ev') (o:=mx) (fun y hy=>h y (by simp only[LOp.opnds,List.mem_cons,List.mem_append];exact .inr (.inr (.inr hy)))) rfl]
theorem aop_congr{ev ev':Operand→Value}{p:AOp}(h : ∀x∈p.opnds,ev x=ev' x):aop ev p=aop ev' p:=by
 cases p with
 | box e x=>simp only[aop,h x (by simp[AOp.opnds])]
 | new e z=>rfl
 | bsl e sz n z ps=>
   simp only[aop]
   have:ps.map (fun(i,x)=>(i*sz,sz,ev x))=ps.map (fun(i,x)=>(i*sz,sz,ev' x)):=List.map_congr_left fun q hq=>by
    obtain⟨a,c⟩:=q
    simp only[h c (List.mem_map.2 ⟨_,hq,rfl⟩)]
   rw[this]
 | mks e sz b z l c=>simp only[aop,h l (by simp[AOp.opnds]),h c (by simp[AOp.opnds])]
theorem wop_congr{ev ev':Operand→Value}{H:CH}{p:WOp}(h : ∀x∈p.opnds,ev x=ev' x):wop H ev p=wop H ev' p:=by
 cases p with
 | st n x v=>simp only[wop,h x (by simp[WOp.opnds]),h v (by simp[WOp.opnds])]
 | app e sz b s x=>simp only[wop,h s (by simp[WOp.opnds]),h x (by simp[WOp.opnds])]
 | cpy sz d s=>simp only[wop,h d (by simp[WOp.opnds]),h s (by simp[WOp.opnds])]
 | mkm=>rfl
 | mup kk x k v=>simp only[wop,h x (by simp[WOp.opnds]),h k (by simp[WOp.opnds]),h v (by simp[WOp.opnds])]
 | sit x=>simp only[wop,h x (by simp[WOp.opnds])]
 | nxt x=>simp only[wop,h x (by simp[WOp.opnds])]
 | mit x=>simp only[wop,h x (by simp[WOp.opnds])]
 | mnx x=>simp only[wop,h x (by simp[WOp.opnds])]
 | del kk x k=>simp only[wop,h x (by simp[WOp.opnds]),h k (by simp[WOp.opnds])]
 | frz x=>simp only[wop,h x (by simp[WOp.opnds])]
 | ust e p n=>simp only[wop,h p (by simp[WOp.opnds]),h n (by simp[WOp.opnds])]
 | s2b e b x=>simp only[wop,h x (by simp[WOp.opnds])]
theorem rop_congr{h:Hd}{fr fr':Fr}{H:CH}{o:ROp}(he : ∀x∈o.opnds,evF fr x=evF fr' x):rop h fr H o=rop h fr' H o:=by
 cases o with
 | p x=>simp only[rop,pop_congr (p:=x) he]
 | l x=>simp only[rop,lop_congr (p:=x) he]
 | a x=>simp only[rop,aop_congr (p:=x) he]
 | w x=>simp only[rop];exact wop_congr he
 | call f args=>
   have:args.map (evF fr)=args.map (evF fr'):=List.map_congr_left fun x hx=>he x hx
   simp only[rop,this]
 | callv g args=>
   have hg:=he g (by simp[ROp.opnds])
   have ha:args.map (evF fr)=args.map (evF fr'):=List.map_congr_left fun x hx=>he x (by simp[ROp.opnds,hx])
   simp only[rop,hg,ha]
def slotsOf:List Operand→List Nat:=fun l=>l.filterMap fun | .tmp t=>some t | _=>none
def Item.uses(it:Item):List Nat:=slotsOf it.op.opnds++(match it.guard with | some (s,_)=> [s] | none=> [])
theorem evF_agree{fr fr':Fr}{l:List Operand}(h : ∀t∈slotsOf l,fr t=fr' t) : ∀x∈l,evF fr x=evF fr' x:=by
 intro x hx
 cases x with
 | tmp t=>exact h t (List.mem_filterMap.2 ⟨.tmp t,hx,rfl⟩)
 | _=>rfl
theorem wanted_agree{fr fr':Fr}{it:Item}(h : ∀t∈it.uses,fr t=fr' t):wantedF fr it.guard=wantedF fr' it.guard:=by
 cases hg:it.guard with
 | none=>rfl
 | some q=>
   obtain⟨s,b⟩:=q
   simp only[wantedF,h s (by simp[Item.uses,hg])]
theorem stepI_agree{h:Hd}{it:Item}{fr fr2 fr1:Fr}{H H1:CH}(ha : ∀t∈it.uses,fr t=fr2 t)(hs:stepI h it fr H=some (fr1,H1)) : ∃v,fr1=putF fr it.dst v∧stepI h it fr2 H=some (putF fr2 it.dst v,H1):=by
 have hw:=wanted_agree ha
 have hr:rop h fr H it.op=rop h fr2 H it.op:=rop_congr (evF_agree fun t ht=>ha t (by simp[Item.uses,ht]))
 simp only[stepI] at hs⊢
 rw[←hw,←hr]
 split at hs
 ·cases hq:rop h fr H it.op with
  | none=>rw[hq] at hs;cases hs
  | some q=>rw[hq] at hs;cases hs;exact⟨q.1,rfl,rfl⟩
 ·cases hs;exact⟨skipV,rfl,rfl⟩
 ·cases hs
theorem putF_comm{fr:Fr}{a b:Option Nat}{u v:Value}(h : ∀x,a=some x→b≠some x):putF (putF fr a u) b v=putF (putF fr b v) a u:=by
 cases a with
 | none=>rfl
 | some x=>
   cases b with
   | none=>rfl
   | some y=>
     have hne:x≠y:=fun e=>h x rfl (by rw[e])
     funext t
     simp only[putF]
     by_cases e1:t=y
     ·subst e1
      have e2 : ¬t=x:=fun g=>hne g.symm
      simp[e2]
     ·by_cases e2:t=x
      ·subst e2;simp[e1]
      ·simp[e1,e2]
theorem putF_other{fr:Fr}{a:Option Nat}{v:Value}{t:Nat}(h:a≠some t):putF fr a v t=fr t:=by
 cases a with
 | none=>rfl
 | some x=>simp only[putF];rw[if_neg (fun e=>h (by rw[e]))]
theorem runD_put{h:Hd}{d:Option Nat}{v:Value} : ∀ {R:List Item} {fr fr1:Fr} {H H1:CH} {l:List CH},(∀x∈R,∀t,d=some t→t∉x.uses∧x.dst≠some t)→runD h R fr H=some (fr1,H1,l)→runD h R (putF fr d v) H=some (putF fr1 d v,H1,l)
 | [],fr,fr1,H,H1,l,_,hr=>by simp only[runD,Option.some.injEq,Prod.mk.injEq] at hr;obtain⟨rfl,rfl,rfl⟩:=hr;rfl
 | x::R,fr,fr1,H,H1,l,hx,hr=>by
   simp only[runD] at hr⊢
   cases hs:stepI h x fr H with
   | none=>rw[hs] at hr;cases hr
   | some q=>
     obtain⟨f,K⟩:=q
     rw[hs] at hr
     have hxx:=hx x (List.mem_cons_self ..)
     obtain⟨u,rfl,h2⟩:=stepI_agree (fr2:=putF fr d v) (fun t ht=>by
      rw[putF_other];intro e;exact(hxx t e).1 ht) hs
     rw[h2]
     simp only at hr⊢
     cases hd:runD h R (putF fr x.dst u) K with
     | none=>rw[hd] at hr;cases hr
     | some z=>
       obtain⟨a,b,c⟩:=z
       rw[hd] at hr
       simp only[Option.map_some,Option.some.injEq,Prod.mk.injEq] at hr
       obtain⟨rfl,rfl,rfl⟩:=hr
       have:=runD_put (v:=v) (fun y hy=>hx y (List.mem_cons_of_mem _ hy)) hd
       rw[putF_comm (fun t e g=>(hxx t g).2 e)] at this
       rw[this]
       rfl
theorem runD_keep{h:Hd}{t:Nat} : ∀ {R:List Item} {fr fr1:Fr} {H H1:CH} {l:List CH},(∀x∈R,x.dst≠some t)→runD h R fr H=some (fr1,H1,l)→fr1 t=fr t
 | [],fr,fr1,H,H1,l,_,hr=>by simp only[runD,Option.some.injEq,Prod.mk.injEq] at hr;obtain⟨rfl,rfl,rfl⟩:=hr;rfl
 | x::R,fr,fr1,H,H1,l,hx,hr=>by
   simp only[runD] at hr
   cases hs:stepI h x fr H with
   | none=>rw[hs] at hr;cases hr
   | some q=>
     obtain⟨f,K⟩:=q
     rw[hs] at hr
     simp only at hr
     obtain⟨u,rfl,_⟩:=stepI_agree (fr2:=fr) (fun t _=>rfl) hs
     cases hd:runD h R (putF fr x.dst u) K with
     | none=>rw[hd] at hr;cases hr
     | some z=>
       obtain⟨a,b,c⟩:=z
       rw[hd] at hr
       simp only[Option.map_some,Option.some.injEq,Prod.mk.injEq] at hr
       obtain⟨rfl,rfl,rfl⟩:=hr
       rw[runD_keep (fun y hy=>hx y (List.mem_cons_of_mem _ hy)) hd,putF_other (hx x (List.mem_cons_self ..))]
theorem runD_app{h:Hd} : ∀ {R S:List Item} {fr fr2:Fr} {H H2:CH} {l:List CH},runD h (R++S) fr H=some (fr2,H2,l)→∃fr1 H1 l1 l2,runD h R fr H=some (fr1,H1,l1)∧runD h S fr1 H1=some (fr2,H2,l2)∧l=l1++l2
 | [],S,fr,fr2,H,H2,l,hr=>⟨fr,H,[],l,rfl,hr,rfl⟩
 | x::R,S,fr,fr2,H,H2,l,hr=>by
   simp only[List.cons_append,runD] at hr
   cases hs:stepI h x fr H with
   | none=>rw[hs] at hr;cases hr
   | some q=>
     rw[hs] at hr
     simp only at hr
     cases hd:runD h (R++S) q.1 q.2 with
     | none=>rw[hd] at hr;cases hr
     | some z=>
       obtain⟨a,b,c⟩:=z
       rw[hd] at hr
       simp only[Option.map_some,Option.some.injEq,Prod.mk.injEq] at hr
       obtain⟨rfl,rfl,rfl⟩:=hr
       obtain⟨fr1,H1,l1,l2,h1,h2,rfl⟩:=runD_app hd
       refine⟨fr1,H1,if isW x.op then q.2::l1 else l1,l2,?_,h2,by split<;>rfl⟩
       simp only[runD,hs,h1];rfl
theorem runD_join{h:Hd} : ∀ {R S:List Item} {fr fr1 fr2:Fr} {H H1 H2:CH} {l1 l2:List CH},runD h R fr H=some (fr1,H1,l1)→runD h S fr1 H1=some (fr2,H2,l2)→runD h (R++S) fr H=some (fr2,H2,l1++l2)
 | [],S,fr,fr1,fr2,H,H1,H2,l1,l2,h1,h2=>by simp only[runD,Option.some.injEq,Prod.mk.injEq] at h1;obtain⟨rfl,rfl,rfl⟩:=h1;exact h2
 | x::R,S,fr,fr1,fr2,H,H1,H2,l1,l2,h1,h2=>by
   simp only[List.cons_append,runD] at h1⊢
   cases hs:stepI h x fr H with
   | none=>rw[hs] at h1;cases h1
   | some q=>
     rw[hs] at h1
     simp only at h1⊢
     cases hd:runD h R q.1 q.2 with
     | none=>rw[hd] at h1;cases h1
     | some z=>
       obtain⟨a,b,c⟩:=z
       rw[hd] at h1
       simp only[Option.map_some,Option.some.injEq,Prod.mk.injEq] at h1
       obtain⟨rfl,rfl,rfl⟩:=h1
       rw[runD_join hd h2]
       simp only[Option.map_some]
       split<;>rfl
def Fill (H K:CH):Prop:=∀l,((∃cs e k,H.ob l= .cells cs e k)∨(∃es c,H.ob l= .map es c)∨∃f k,H.ob l= .fm f k)→K.ob l=H.ob l
theorem lop_fill{H K:CH}(hf:Fill H K){ev:Operand→Value}{x:LOp}{v:Value}(h:lop H ev x=some v):lop K ev x=some v:=by
 cases x with
 | lkm kk z ok x i=>
   simp only[lop] at h⊢
   split at h
   ·exact h
   ·rename_i l hx
    cases ho:H.ob l with
    | map es c=>rw[hf _ (.inr (.inl ⟨_,_,ho⟩)),ho];rw[ho] at h;exact h
    | fm f k=>rw[hf _ (.inr (.inr ⟨_,_,ho⟩)),ho];rw[ho] at h;exact h
    | _=>rw[ho] at h;cases h
   ·cases h
 | ld x=>
   simp only[lop] at h⊢
   split at h
   ·split at h
    ·rename_i hob;rw[hf _ (.inl ⟨_,_,_,hob⟩),hob];exact h
    ·cases h
   ·cases h
 | lda n x=>
   simp only[lop] at h⊢
   split at h
   ·split at h
    ·rename_i hob;rw[hf _ (.inl ⟨_,_,_,hob⟩),hob];exact h
    ·cases h
   ·cases h
 | eqq neg x y=>
   simp only[lop] at h⊢
   split at h
   ·exact h
   ·exact h
   ·split at h
    ·rename_i hob;rw[hf _ (.inl ⟨_,_,_,hob⟩),hob];exact h
    ·cases h
   ·cases h
 | ucv f x=>
   simp only[lop] at h⊢
   split at h
   ·exact h
   ·split at h
    ·rename_i hob;rw[hf _ (.inl ⟨_,_,_,hob⟩),hob];exact h
    ·cases h
   ·cases h
 | b2s x=>
   simp only[lop] at h⊢
   split at h
   ·exact h
   ·split at h
    ·rename_i hob;rw[hf _ (.inl ⟨_,_,_,hob⟩),hob];exact h
    ·cases h
   ·exact h
   ·cases h
 | slc e sz x lo hi mx=>
   simp only[lop] at h⊢
   split at h
   ·rename_i l hh m h1 h2 h3
    split at h
    ·rename_i hok
     have:okSl K e (ev x)=true:=by
      simp only[Bool.and_eq_true] at hok
      have:=hok.1
      unfold okSl at this⊢
      split at this
      ·split at this
       ·rename_i hob;rw[hf _ (.inl ⟨_,_,_,hob⟩),hob]
       ·rename_i k hk hob;rw[hf _ (.inl ⟨_,_,_,hob⟩),hob];cases k<;>first | rfl | exact this
       ·cases this
      ·rfl
     simp only[Bool.and_eq_true] at hok
     simp only[this,hok.2,Bool.and_self,if_true]
     exact h
    ·cases h
   ·cases h
end Can
end Go.Proofs.YticlaccbodpkeaaGreatDoor
namespace Go.Proofs.YticlaccbodpkeaaGreatDoor
namespace Can
open Go Go.RowKit
set_option linter.unusedSimpArgs false
set_option linter.unusedVariables false
variable {P:Program} {B:Nat}
def isA:ROp→Bool
 | .a _=>true
 | _=>false
inductive Anc(ops:Array Oper):Nat→Nat→Prop where
 | edge {i:Nat} {o:Oper} {e:Edge} (ho:ops[i]? = some o) (he:e∈o.after.toList) (hb:Region.binds .any e=true):Anc ops i e.on
 | trans {i j l:Nat} (h:Anc ops i j) (k:Anc ops j l):Anc ops i l
def DC (ops:Array Oper)(listed:Array Bool):Prop:=∀i j,listed.getD i false=true→Anc ops i j→listed.getD j false=true
theorem ready_spec{ops:Array Oper}{listed:Array Bool}{i:Nat}(h:i∈Region.ready .any ops listed):i<ops.size∧listed.getD i true=false∧∀o,ops[i]? = some o→∀e∈o.after.toList,Region.binds .any e=true→listed.getD e.on false=true:=by
 unfold Region.ready at h
 obtain⟨h1,h2⟩:=List.mem_filter.1 h
 have hi:i<ops.size:=List.mem_range.1 h1
 simp only[Bool.and_eq_true,Bool.not_eq_true'] at h2
 refine⟨hi,h2.1,fun o ho e he hb=> ?_⟩
 have h3:=h2.2
 rw[ho] at h3
 simp only[Option.map_some,Option.getD_some] at h3
 have:=Array.all_eq_true_iff_forall_mem.1 h3 e (by simpa using he)
 simpa[hb] using this
theorem anc_ready{ops:Array Oper}{listed:Array Bool}(hdc:DC ops listed){i j:Nat}(ha:Anc ops i j):(∀o,ops[i]? = some o→∀e∈o.after.toList,Region.binds .any e=true→listed.getD e.on false=true)→listed.getD j false=true:=by
 induction ha with
 | edge ho he hb=>intro h;exact h _ ho _ he hb
 | trans h k ih1 ih2=>intro hr;exact hdc _ _ (ih1 hr) k
theorem getD_set{listed:Array Bool}{i j:Nat}:(listed.setIfInBounds i true).getD j false=true↔(j=i∧i<listed.size)∨listed.getD j false=true:=by
 simp only[Array.getD_eq_getD_getElem?]
 by_cases h:i=j
 ·subst h
  by_cases hi:i<listed.size
  ·simp[hi]
  ·simp[hi]
 ·rw[Array.getElem?_setIfInBounds_ne h]
  constructor
  ·exact .inr
  ·rintro(⟨e,_⟩ | e)
   ·exact absurd e.symm h
   ·exact e
theorem dc_set{ops:Array Oper}{listed:Array Bool}(hdc:DC ops listed){i:Nat}(hi:i∈Region.ready .any ops listed):DC ops (listed.setIfInBounds i true):=by
 intro a b ha hab
 rw[getD_set] at ha⊢
 rcases ha with ⟨rfl,_⟩ | ha
 ·exact .inr (anc_ready hdc hab (ready_spec hi).2.2)
 ·exact .inr (hdc _ _ ha hab)
theorem Sim.push{β:Nat→Ent}{H:CH}{w w':World}(h:Sim P B β H w){o:Obj}(hw:w'.heap=w.heap.push o):Sim P B β H w':=by
 have hold : ∀b,b<w.heap.size→w'.heap[b]? = w.heap[b]? :=fun b hb=>by rw[hw,Array.getElem?_push,if_neg (by omega)]
 refine⟨fun l=>(h.ent l).mono (EntExt.refl β) fun b hb=>hold b ?_,h.nx,h.inj,by rw[hw];simp;exact Nat.le_succ_of_le h.base,h.ro⟩
 exact at_lt h hb
theorem Sim.adopt{β:Nat→Ent}{H:CH}{w:World}(h:Sim P B β H w){b sz:Nat}{cs:List Value}{cs':Array Value}{e:TypeId}{k:Kd}{fr:Nat×Nat}(hb:w.heap[b]? = some (.cells cs' e fr))(hB:B≤b)(hout:Out β b)(hk:k≠ .ro)(he:(P.info? e).map (·.size)=some sz)
 (hl:cs.length≤cs'.size) (hx:k= .ex→cs.length=cs'.size) (hc : ∀(i:Nat) (v:Value),cs[i]? = some v→∃v',cs'[i]? = some v'∧VR β v v') (hfr:FrOk cs'.size fr) :
 Sim P B (upd β H.nx (.live (b,0) sz cs'.size k)) (H.new (.cells cs e k)) w∧EntExt β (upd β H.nx (.live (b,0) sz cs'.size k))∧∀b',b'≠b→Out β b'→Out (upd β H.nx (.live (b,0) sz cs'.size k)) b':=by
 have hun:=h.unborn
 have hext:EntExt β (upd β H.nx (.live (b,0) sz cs'.size k)):=fun l=>by
  by_cases hl:l=H.nx
  ·subst hl;exact .inr (.inl hun)
  ·exact .inl (upd_other hl)
 refine⟨⟨fun l=> ?_,fun l hl=> ?_,fun l l' b' ho ho'=> ?_,h.base,h.ro.upd fun _ _ _ e=>(by cases e;exact hk rfl)⟩,hext,fun b' hne hout' l ho=> ?_⟩
 ·by_cases hl':l=H.nx
  ·subst hl'
   simp only[upd_same,CH.new,if_true]
   exact⟨rfl,cs',e,fr,hb,rfl,hl,fun i v hv=>let ⟨v',a,b⟩:=hc i v hv;⟨v',a,b.mono hext⟩,fun _=>he,fun _=>⟨rfl,hB,hfr⟩,fun e=>absurd e hk,fun e=>⟨hx e,rfl⟩⟩
  ·simp only[upd_other hl',CH.new,if_neg hl']
   exact(h.ent l).mono hext fun _ _=>rfl
 ·have:l≠H.nx:=by simp[CH.new] at hl;omega
  simp only[CH.new,if_neg this]
  exact h.nx l (by simp[CH.new] at hl;omega)
 ·by_cases h1:l=H.nx<;>by_cases h2:l'=H.nx
  ·rw[h1,h2]
  ·subst h1
   rw[upd_same] at ho
   rw[upd_other h2] at ho'
   rw[←ho.2] at ho'
   exact absurd ho' (hout l')
  ·subst h2
   rw[upd_same] at ho'
   rw[upd_other h1] at ho
   rw[←ho'.2] at ho
   exact absurd ho (hout l)
  ·rw[upd_other h1] at ho
   rw[upd_other h2] at ho'
   exact h.inj _ _ b' ho ho'
 ·by_cases h1:l=H.nx
  ·subst h1
   rw[upd_same] at ho
   exact hne ho.2.symm
  ·rw[upd_other h1] at ho
   exact hout' l ho
theorem runD_quiet{h:Hd} : ∀ {R:List Item} {fr fr1:Fr} {H H1:CH} {l:List CH},(∀x∈R,isW x.op=false∧isA x.op=false)→runD h R fr H=some (fr1,H1,l)→H1=H∧l= []
 | [],fr,fr1,H,H1,l,_,hr=>by simp only[runD,Option.some.injEq,Prod.mk.injEq] at hr;obtain⟨rfl,rfl,rfl⟩:=hr;exact⟨rfl,rfl⟩
 | x::R,fr,fr1,H,H1,l,hx,hr=>by
   simp only[runD] at hr
   cases hs:stepI h x fr H with
   | none=>rw[hs] at hr;cases hr
   | some q=>
     obtain⟨f,K⟩:=q
     have hq:=hx x (List.mem_cons_self ..)
     have hK:K=H:=by
      simp only[stepI] at hs
      split at hs
      ·cases hop:x.op with
       | p y=>rw[hop] at hs;simp only[rop] at hs;cases hp:pop (evF fr) y<;>rw[hp] at hs<;>simp at hs;exact hs.2.symm
       | l y=>rw[hop] at hs;simp only[rop] at hs;cases hp:lop H (evF fr) y<;>rw[hp] at hs<;>simp at hs;exact hs.2.symm
       | a y=>rw[hop] at hq;cases hq.2
       | w y=>rw[hop] at hq;cases hq.1
       | call f a=>rw[hop] at hq;cases hq.1
       | callv f a=>rw[hop] at hq;cases hq.1
      ·cases hs;rfl
      ·cases hs
     rw[hs] at hr
     simp only[hq.1,Bool.false_eq_true,if_false] at hr
     cases hd:runD h R f K with
     | none=>rw[hd] at hr;cases hr
     | some z=>
       obtain⟨a,b,c⟩:=z
       rw[hd] at hr
       simp only[Option.map_some,Option.some.injEq,Prod.mk.injEq] at hr
       obtain⟨rfl,rfl,rfl⟩:=hr
       obtain⟨h1,h2⟩:=runD_quiet (fun y hy=>hx y (List.mem_cons_of_mem _ hy)) hd
       exact⟨h1.trans hK,h2⟩
theorem runD_fill{h:Hd}{K:CH} : ∀ {R:List Item} {fr fr1:Fr} {H H1:CH} {l:List CH},Fill H K→(∀x∈R,isW x.op=false∧isA x.op=false)→runD h R fr H=some (fr1,H1,l)→runD h R fr K=some (fr1,K,[])
 | [],fr,fr1,H,H1,l,_,_,hr=>by simp only[runD,Option.some.injEq,Prod.mk.injEq] at hr;obtain⟨rfl,rfl,rfl⟩:=hr;rfl
 | x::R,fr,fr1,H,H1,l,hf,hx,hr=>by
   simp only[runD] at hr⊢
   cases hs:stepI h x fr H with
   | none=>rw[hs] at hr;cases hr
   | some q=>
     obtain⟨f,H2⟩:=q
     have hq:=hx x (List.mem_cons_self ..)
     have hK:stepI h x fr K=some (f,K)∧H2=H:=by
      simp only[stepI] at hs⊢
      split at hs
      ·cases hop:x.op with
       | p y=>rw[hop] at hs;simp only[rop] at hs⊢;cases hp:pop (evF fr) y<;>rw[hp] at hs<;>simp at hs;simp[hs.1,hs.2]
       | l y=>rw[hop] at hs;simp only[rop] at hs⊢;cases hp:lop H (evF fr) y<;>rw[hp] at hs<;>simp at hs;rw[lop_fill hf hp];simp[hs.1,hs.2]
       | a y=>rw[hop] at hq;cases hq.2
       | w y=>rw[hop] at hq;cases hq.1
       | call f a=>rw[hop] at hq;cases hq.1
       | callv f a=>rw[hop] at hq;cases hq.1
      ·cases hs;exact⟨rfl,rfl⟩
      ·cases hs
     obtain⟨hK1,rfl⟩:=hK
     rw[hs] at hr
     rw[hK1]
     simp only[hq.1,Bool.false_eq_true,if_false] at hr⊢
     cases hd:runD h R f H2 with
     | none=>rw[hd] at hr;cases hr
     | some z=>
       obtain⟨a,b,c⟩:=z
       rw[hd] at hr
       simp only[Option.map_some,Option.some.injEq,Prod.mk.injEq] at hr
       obtain⟨rfl,rfl,rfl⟩:=hr
       rw[runD_fill hf (fun y hy=>hx y (List.mem_cons_of_mem _ hy)) hd]
       rfl
end Can
end Go.Proofs.YticlaccbodpkeaaGreatDoor
namespace Go.Proofs.YticlaccbodpkeaaGreatDoor
namespace Can
open Go Go.RowKit
set_option linter.unusedSimpArgs false
set_option linter.unusedVariables false
variable {P:Program} {B:Nat}
structure DS(P:Program)(N:Nat)(ops:Array Oper)(d:DReg) where
 its:Nat→Item
 ok : ∀i o,ops[i]? = some o→ItemOk P N ops o (its i)
 tau:List Nat
 hits:d.its=tau.map its
 mem : ∀i,i∈tau↔i<ops.size
 pos:Nat→Nat
 srt:tau.Pairwise (fun a b=>pos a<pos b)
 ancp : ∀i j,i<ops.size→Anc ops i j→j<ops.size∧pos j<pos i
 dd : ∀i j t,i<ops.size→j<ops.size→(its i).dst=some t→(its j).dst=some t→i=j
 d2 : ∀i j t,i<ops.size→j<ops.size→i≠j→(its i).dst=some t→t∈(its j).uses→Anc ops j i∨(Anc ops i j∧isA (its j).op=false)
 d2' : ∀j t,j<ops.size→isA (its j).op=true→(its j).dst=some t→t∉(its j).uses
 ga : ∀i j t b,i<ops.size→j<ops.size→isA (its i).op=true→(its i).dst=some t→(its j).guard≠some (t,b)
 d4 : ∀i j,i<ops.size→j<ops.size→isW (its j).op=true→pos i<pos j→Anc ops j i
 s2 : ∀d i t,d<ops.size→i<ops.size→isW (its d).op=false→isA (its i).op=true→(its i).dst=some t→t∈(its d).uses→∀x,x<ops.size→pos x<pos i→
  (isW (its x).op=true→Anc ops d x)∧(isA (its x).op=true→(∃y,y<ops.size∧isW (its y).op=true∧pos x<pos y∧pos y<pos i)∨Anc ops d x)
 rk:Nat→Nat
 rk1 : ∀x y,x<ops.size→y<ops.size→isW (its x).op=true→isW (its y).op=true→rk x<rk y→pos x<pos y
 rk2 : ∀x q,x<ops.size→isW (its x).op=true→q<rk x→∃y,y<ops.size∧isW (its y).op=true∧rk y=q
 rk3 : ∀x y,x<ops.size→y<ops.size→isW (its x).op=true→isW (its y).op=true→rk x=rk y→x=y
 lo:Nat→Nat
 hi:Nat→Nat
 lo1 : ∀r q,r<ops.size→q<lo r→∃x,x<ops.size∧isW (its x).op=true∧rk x=q∧Anc ops r x
 hi1 : ∀r x,r<ops.size→x<ops.size→isW (its x).op=true→rk x<hi r∨pos r<pos x
 rd : ∀r x,r<ops.size→(its r).op= .l x→
  (∀x,x<ops.size→pos x<pos r→(isW (its x).op=true→Anc ops r x)∧(isA (its x).op=true→(∃y,y<ops.size∧isW (its y).op=true∧pos x<pos y∧Anc ops r y)∨∃t,(its x).dst=some t∧t∈(its r).uses))∨
  ((∀t j,t∈(its r).uses→j<ops.size→(its j).dst=some t→Anc ops r j)∧∀s,lo r≤s→s≤hi r→(its r,s)∈d.chk)
def DS.Pan{P:Program}{N:Nat}{ops:Array Oper}{d:DReg}(S:DS P N ops d):Prop:=∀Zl,d.pan=some Zl→∀A k R,S.tau=A++k::R→(∀x∈A,isQ (S.its x).op=true)→isQ (S.its k).op=false→∃TZ:List Nat,Zl=TZ.map (fun z=>hush (S.its z))∧TZ.Sublist R∧(∀z∈TZ,isQ (hush (S.its z)).op=true∧∀t,(S.its z).dst=some t→t∉(S.its k).uses)∧∀b∈R,b∈TZ∨Anc ops b k
structure LagF(P:Program)(B N:Nat)(w0:World)(β:Nat→Ent)(fr:Fr)(a:Act)(w:World)(it:Item)(b:Nat):Prop where
 ex : ∃x cs e k mk cs' frz sz v',it.op= .a x∧wantedF fr it.guard=some true∧aop (evF fr) x=some (cs,e,k,mk)∧k≠ .ro∧(P.info? e).map (·.size)=some sz∧w.heap[b]? = some (.cells cs' e frz)∧
  cs.length≤cs'.size∧(k= .ex→cs.length=cs'.size)∧(∀(i:Nat) (v:Value),cs[i]? = some v→∃u,cs'[i]? = some u∧VR β v u)∧(FrOk cs'.size frz)∧
  AKr mk b sz k cs'.size v'∧∀t,it.dst=some t→a.tmps.getD t undef=v'
 base:B≤b
 young:w0.heap.size≤b
 out:Out β b
structure Core{N:Nat}{ops:Array Oper}{d:DReg}(S:DS P N ops d)(B:Nat)(h:Hd)(β0:Nat→Ent)(w0:World)(fr':Fr)(H':CH)(β:Nat→Ent)(fr:Fr)(H:CH)(R:List Nat)(lag:List (Nat×Nat))(l:List CH)(m:Nat)(a:Act)(w:World):Prop where
 lt : ∀i∈R,i<ops.size
 srt:R.Pairwise (fun x y=>S.pos x<S.pos y)
 lagR : ∀p∈lag,p.1∈R∧isA (S.its p.1).op=true
 lagF : ∀p∈lag,LagF P B N w0 β fr a w (S.its p.1) p.2
 lagD:lag.Pairwise (fun p q=>p.1≠q.1∧p.2≠q.2)
 lagAnc : ∀p∈lag,∀j,Anc ops p.1 j→j∉R∨∃q∈lag,q.1=j
 lagU : ∀p∈lag,∀q∈lag,∀t,(S.its q.1).dst=some t→t∉(S.its p.1).uses
 run:runD h (R.map S.its) fr H=some (fr',H',l)
 sim:Sim P B β H w
 evo:Evo β0 w0 β w
 size:N≤a.tmps.size
 fr : ∀t,(∃p∈lag,(S.its p.1).dst=some t)∨VR β (fr t) (a.tmps.getD t undef)
 done : ∀x,x<ops.size→isW (S.its x).op=true→(x∉R↔S.rk x<m)
 mW : ∀q,q<m→∃y,y<ops.size∧isW (S.its y).op=true∧S.rk y=q
 past : ∀y,y<ops.size→isW (S.its y).op=true→y∉R→∀x,x<ops.size→S.pos x<S.pos y→x∉R
 chk : ∀r∈R,∀s,(S.its r,s)∈d.chk→S.lo r≤s→s≤S.hi r→m≤s→∃G,(H::l)[s-m]? = some G∧Again fr' G (S.its r)
theorem Again.fill{fr:Fr}{G K:CH}{it:Item}(h:Again fr G it)(hf:Fill G K):Again fr K it:=by
 rcases h with h | ⟨x,d,h1,h2,h3⟩
 ·exact .inl h
 ·exact .inr ⟨x,d,h1,h2,lop_fill hf h3⟩
theorem fill_new{P:Program}{B:Nat}{β:Nat→Ent}{H:CH}{w:World}(h:Sim P B β H w)(o:CObj):Fill H (H.new o):=fun l hl=>by
 have:l≠H.nx:=fun g=>by
  rw[g,h.nx _ (Nat.le_refl _)] at hl
  rcases hl with ⟨_,_,_,hl⟩ | ⟨_,_,hl⟩ | ⟨_,_,hl⟩<;>cases hl
 simp[CH.new,this]
theorem LagF.keep{N:Nat}{w0:World}{β β':Nat→Ent}{fr fr2:Fr}{a a':Act}{w w':World}{it:Item}{b:Nat}(h:LagF P B N w0 β fr a w it b)(hx:EntExt β β')(hw:w'.heap[b]? = w.heap[b]?)(ho:Out β' b)(hf : ∀t∈it.uses,fr2 t=fr t)(ha : ∀t,it.dst=some t→a'.tmps.getD t undef=a.tmps.getD t undef) :
 LagF P B N w0 β' fr2 a' w' it b:=by
 obtain⟨⟨x,cs,e,k,mk,cs',frz,sz,v',h1,h2,h3,h4,h5,h6,h7,h8,h9,h10,h11,h12⟩,hb,hy,_⟩:=h
 refine⟨⟨x,cs,e,k,mk,cs',frz,sz,v',h1,?_,?_,h4,h5,hw.trans h6,h7,h8,fun i v hv=>let ⟨u,p,q⟩:=h9 i v hv;⟨u,p,q.mono hx⟩,h10,h11,fun t ht=>(ha t ht).trans (h12 t ht)⟩,hb,hy,ho⟩
 ·rw[wanted_agree hf];exact h2
 ·rw[aop_congr (evF_agree fun t ht=>hf t (by simp only[Item.uses,h1,List.mem_append];exact .inl ht))]
  exact h3
theorem pw_mem{α:Type}{r:α→α→Prop}{R1 R2:List α}{i:α}(h:(R1++i::R2).Pairwise r):(∀x∈R1,r x i)∧(∀x∈R2,r i x)∧(R1++R2).Pairwise r:=by
 rw[List.pairwise_append] at h
 obtain⟨h1,h2,h3⟩:=h
 rw[List.pairwise_cons] at h2
 refine⟨fun x hx=>h3 x hx i (List.mem_cons_self ..),h2.1,?_⟩
 rw[List.pairwise_append]
 exact⟨h1,h2.2,fun x hx y hy=>h3 x hx y (List.mem_cons_of_mem _ hy)⟩
theorem Core.catch{N:Nat}{ops:Array Oper}{d:DReg}{S:DS P N ops d}{h:Hd}{β0:Nat→Ent}{w0:World}{fr':Fr}{H':CH}{β:Nat→Ent}{fr:Fr}{H:CH}{R1 R2:List Nat}{i b:Nat}{lag:List (Nat×Nat)}{l:List CH}{m:Nat}{a:Act}{w:World}
 (C:Core S B h β0 w0 fr' H' β fr H (R1++i::R2) lag l m a w) (hl:(i,b)∈lag) (hq : ∀x∈R1,isW (S.its x).op=false∧isA (S.its x).op=false) :
 ∃β2 fr2 H2 lag2,Core S B h β0 w0 fr' H' β2 fr2 H2 (R1++R2) lag2 l m a w∧(∀p,p∈lag2↔p∈lag∧p.1≠i)∧lag2.length<lag.length:=by
 obtain⟨p1,p2,p3⟩:=pw_mem C.srt
 have hi:i<ops.size:=C.lt i (by simp)
 have hiA:isA (S.its i).op=true:=(C.lagR _ hl).2
 have hiW:isW (S.its i).op=false:=by cases hop:(S.its i).op<;>rw[hop] at hiA<;>first | rfl | cases hiA
 obtain⟨⟨x,cs,e,k,mk,cs',frz,sz,v',h1,h2,h3,h4,h5,h6,h7,h8,h9,h10,h11,h12⟩,hbB,hby,hout⟩:=C.lagF _ hl
 have hrun:=C.run
 rw[List.map_append,List.map_cons] at hrun
 obtain⟨fr1,H1,l1,l2,g1,g2,rfl⟩:=runD_app hrun
 obtain⟨rfl,rfl⟩:=runD_quiet (fun y hy=>by obtain⟨z,hz,rfl⟩:=List.mem_map.1 hy;exact hq z hz) g1
 have hnot : ∀z∈R1++R2,z≠i:=fun z hz e=>by
  subst e
  rcases List.mem_append.1 hz with hz | hz
  ·exact absurd (p1 z hz) (Nat.lt_irrefl _)
  ·exact absurd (p2 z hz) (Nat.lt_irrefl _)
 have hlt : ∀z∈R1++R2,z<ops.size:=fun z hz=>C.lt z (by rcases List.mem_append.1 hz with hz | hz<;>simp[hz])
 have hlag1 : ∀z∈R1,¬ ∃q∈lag,q.1=z:=fun z hz ⟨q,hq1,hq2⟩=>by
  have:=(C.lagR q hq1).2
  rw[hq2,(hq z hz).2] at this;cases this
 have hanc : ∀z∈R1,¬Anc ops i z:=fun z hz ha=>by
  rcases C.lagAnc _ hl z ha with g | g
  ·exact g (by simp[hz])
  ·exact hlag1 z hz g
 have huse : ∀t∈(S.its i).uses,fr1 t=fr t:=fun t ht=>by
  refine runD_keep (fun y hy e=> ?_) g1
  obtain⟨z,hz,rfl⟩:=List.mem_map.1 hy
  have hzl:=hlt z (by simp[hz])
  rcases S.d2 z i t hzl hi (hnot z (by simp[hz])) e ht with q | ⟨q,q'⟩
  ·exact hanc z hz q
  ·rw[hiA] at q';cases q'
 have hap : ∀y∈R1.map S.its,∀t,(S.its i).dst=some t→t∉y.uses∧y.dst≠some t:=fun y hy t ht=>by
  obtain⟨z,hz,rfl⟩:=List.mem_map.1 hy
  have hzl:=hlt z (by simp[hz])
  refine⟨fun hu=> ?_,fun e=>hnot z (by simp[hz]) (S.dd _ _ t hzl hi e ht)⟩
  rcases S.d2 i z t hi hzl (fun e=>hnot z (by simp[hz]) e.symm) ht hu with q | ⟨q,_⟩
  ·exact absurd (S.ancp _ _ hzl q).2 (by have:=p1 z hz;omega)
  ·exact hanc z hz q
 have hstep : ∀f:Fr,(∀t∈(S.its i).uses,f t=fr t)→stepI h (S.its i) f H1=some (putF f (S.its i).dst (akV mk H1.nx),H1.new (.cells cs e k)):=fun f hf=>by
  have hw:wantedF f (S.its i).guard=some true:=by rw[wanted_agree hf];exact h2
  have ha:aop (evF f) x=some (cs,e,k,mk):=by
   rw[aop_congr (evF_agree fun t ht=>hf t (by simp only[Item.uses,h1,List.mem_append];exact .inl ht))];exact h3
  simp only[stepI,hw,h1,rop,ha,Option.map_some]
 have hs1:=hstep fr1 huse
 simp only[runD,hs1,hiW,Bool.false_eq_true,if_false] at g2
 have g2':runD h (R2.map S.its) (putF fr1 (S.its i).dst (akV mk H1.nx)) (H1.new (.cells cs e k))=some (fr',H',l2):=by
  cases hz:runD h (R2.map S.its) (putF fr1 (S.its i).dst (akV mk H1.nx)) (H1.new (.cells cs e k)) with
  | none=>rw[hz] at g2;cases g2
  | some z=>obtain⟨z1,z2,z3⟩:=z;rw[hz] at g2;simpa using g2
 have hrun2:runD h ((R1++R2).map S.its) (putF fr (S.its i).dst (akV mk H1.nx)) (H1.new (.cells cs e k))=some (fr',H',[]++l2):=by
  rw[List.map_append]
  exact runD_join (runD_fill (fill_new C.sim _) (fun y hy=>by obtain⟨z,hz,rfl⟩:=List.mem_map.1 hy;exact hq z hz) (runD_put hap g1)) g2'
 obtain⟨q1,q2,q3⟩:=C.sim.adopt h6 hbB hout h4 h5 h7 h8 h9 h10
 have hmemf : ∀p,p∈lag.filter (fun p=>decide (p.1≠i))↔p∈lag∧p.1≠i:=fun p=>by simp[List.mem_filter]
 refine⟨upd β H1.nx (.live (b,0) sz cs'.size k),putF fr (S.its i).dst (akV mk H1.nx),H1.new (.cells cs e k),lag.filter (fun p=>decide (p.1≠i)),?_,hmemf,List.length_filter_lt_length_iff_exists.2 ⟨_,hl,by simp⟩⟩
 have hneb : ∀p∈lag,p.1≠i→p.2≠b:=fun p hp hne e=>by
  have key : ∀(L:List (Nat×Nat)),L.Pairwise (fun p q=>p.1≠q.1∧p.2≠q.2)→p∈L→(i,b)∈L→False:=by
   intro L
   induction L with
   | nil=>intro _ hp;cases hp
   | cons y L ih=>
     intro hpw hp hib
     rw[List.pairwise_cons] at hpw
     rcases List.mem_cons.1 hp with rfl | hp2
     ·rcases List.mem_cons.1 hib with e' | hib2
      ·exact hne (by rw[←e'])
      ·exact(hpw.1 _ hib2).2 e
     ·rcases List.mem_cons.1 hib with e' | hib2
      ·rw[←e'] at hpw;exact(hpw.1 _ hp2).2 e.symm
      ·exact ih hpw.2 hp2 hib2
  exact key lag C.lagD hp hl
 refine⟨hlt,p3,fun p hp=> ?_,fun p hp=> ?_,C.lagD.filter _,fun p hp j hj=> ?_,fun p hp q hq' t ht=> ?_,hrun2,q1,?_,C.size,fun t=> ?_,fun y hy hyW=> ?_,C.mW,fun y hy hyW hyR z hz hzp=> ?_,fun r hr s hs c1 c2 c3=> ?_⟩
 ·obtain⟨hp1,hp2⟩:=(hmemf p).1 hp
  refine⟨?_,(C.lagR p hp1).2⟩
  have:=(C.lagR p hp1).1
  simp only[List.mem_append,List.mem_cons] at this⊢
  rcases this with g | g | g
  ·exact .inl g
  ·exact absurd g hp2
  ·exact .inr g
 ·obtain⟨hp1,hp2⟩:=(hmemf p).1 hp
  refine(C.lagF p hp1).keep q2 rfl (q3 _ (hneb p hp1 hp2) (C.lagF p hp1).out) (fun t ht=>putF_other fun e=>C.lagU p hp1 _ hl t e ht) (fun t ht=>rfl)
 ·obtain⟨hp1,hp2⟩:=(hmemf p).1 hp
  rcases C.lagAnc p hp1 j hj with g | ⟨q,hq1,rfl⟩
  ·exact .inl fun hj'=>g (by rcases List.mem_append.1 hj' with hj' | hj'<;>simp[hj'])
  ·by_cases e:q.1=i
   ·refine .inl fun hj'=>hnot _ hj' e
   ·exact .inr ⟨q,(hmemf q).2 ⟨hq1,e⟩,rfl⟩
 ·exact C.lagU p ((hmemf p).1 hp).1 q ((hmemf q).1 hq').1 t ht
 ·refine⟨C.evo.os,C.evo.tape,C.evo.output,C.evo.size,fun b' hb' ho'=> ?_,C.evo.ext.trans q2⟩
  obtain⟨r1,r2⟩:=C.evo.keep b' hb' ho'
  exact⟨r1,q3 b' (by omega) r2⟩
 ·by_cases et:(S.its i).dst=some t
  ·right
   rw[et]
   simp only[putF,if_true]
   rw[h12 t et]
   cases mk with
   | ptr=>simp only[AKr] at h11;subst h11;exact .ptr upd_same
   | sl n c=>
     obtain⟨c',rfl,z1,z2,z3,z4,z5⟩:=h11
     exact .sl upd_same z1 z2 z3 (fun _=>by simpa using z4) z5
  ·rw[putF_other et]
   rcases C.fr t with ⟨p,hp1,hp2⟩ | g
   ·left
    refine⟨p,(hmemf p).2 ⟨hp1,fun e=>et (by rw[←e];exact hp2)⟩,hp2⟩
   ·exact .inr (g.mono q2)
 ·have hyi:y≠i:=fun e=>by rw[e,hiW] at hyW;cases hyW
  rw[←C.done y hy hyW]
  simp only[List.mem_append,List.mem_cons,hyi,false_or]
 ·have hyi:y≠i:=fun e=>by rw[e,hiW] at hyW;cases hyW
  have:=C.past y hy hyW (by simp only[List.mem_append,List.mem_cons,hyi,false_or] at hyR⊢;exact hyR) z hz hzp
  intro g
  exact this (by rcases List.mem_append.1 g with g | g<;>simp[g])
 ·obtain⟨G,z1,z2⟩:=C.chk r (by rcases List.mem_append.1 hr with hr | hr<;>simp[hr]) s hs c1 c2 c3
  cases hsm:s-m with
  | zero=>
    rw[hsm] at z1
    simp only[List.getElem?_cons_zero,Option.some.injEq] at z1⊢
    subst z1
    exact⟨_,rfl,z2.fill (fill_new C.sim _)⟩
  | succ q=>
    rw[hsm] at z1
    simp only[List.getElem?_cons_succ] at z1⊢
    exact⟨G,z1,z2⟩
def Ex (R:List Nat)(lag:List (Nat×Nat))(j:Nat):Prop:=j∉R∨∃q∈lag,q.1=j
section
variable {N:Nat} {ops:Array Oper} {d:DReg} {S:DS P N ops d} {h:Hd} {β0:Nat→Ent} {w0:World} {fr':Fr} {H':CH} {β:Nat→Ent} {fr:Fr} {H:CH} {R:List Nat} {lag:List (Nat×Nat)} {l:List CH} {m:Nat} {a:Act} {w:World}
theorem ex_catch{R1 R2:List Nat}{i b:Nat}{lag2:List (Nat×Nat)}(hnot:i∉R1++R2)(hl:(i,b)∈lag)(hm : ∀p,p∈lag2↔p∈lag∧p.1≠i)(j:Nat):Ex (R1++R2) lag2 j↔Ex (R1++i::R2) lag j:=by
 unfold Ex
 by_cases e:j=i
 ·subst e
  exact⟨fun _=> .inr ⟨_,hl,rfl⟩,fun _=> .inl hnot⟩
 ·constructor
  ·rintro(g | ⟨q,hq,rfl⟩)
   ·refine .inl fun hj=>g ?_
    simp only[List.mem_append,List.mem_cons,e,false_or] at hj⊢;exact hj
   ·exact .inr ⟨q,((hm q).1 hq).1,rfl⟩
  ·rintro(g | ⟨q,hq,rfl⟩)
   ·refine .inl fun hj=>g ?_
    simp only[List.mem_append,List.mem_cons,e,false_or] at hj⊢;exact hj
   ·exact .inr ⟨q,(hm q).2 ⟨hq,e⟩,rfl⟩
theorem Core.notmem{R1 R2:List Nat}{i:Nat}(C:Core S B h β0 w0 fr' H' β fr H (R1++i::R2) lag l m a w):i∉R1++R2:=fun hm=>by
 obtain⟨p1,p2,_⟩:=pw_mem C.srt
 rcases List.mem_append.1 hm with g | g
 ·exact absurd (p1 i g) (Nat.lt_irrefl _)
 ·exact absurd (p2 i g) (Nat.lt_irrefl _)
theorem Core.wlag(C:Core S B h β0 w0 fr' H' β fr H R lag l m a w){x:Nat}(hx:isW (S.its x).op=true) : ¬ ∃q∈lag,q.1=x:=fun⟨q,hq,e⟩=>by
 have:=(C.lagR q hq).2
 rw[e] at this
 cases hop:(S.its x).op<;>rw[hop] at hx this<;>first | (cases hx;done) | (cases this;done)
theorem first_of{p:Nat→Bool} : ∀ {l:List Nat},(∃z∈l,p z=true)→∃l1 z l2,l=l1++z::l2∧p z=true∧∀y∈l1,p y=false
 | [],h=>by obtain⟨z,hz,_⟩:=h;cases hz
 | a::l,h=>by
   cases ha:p a with
   | true=>exact⟨[],a,l,rfl,ha,fun y hy=>by cases hy⟩
   | false=>
     have : ∃z∈l,p z=true:=by
      obtain⟨z,hz,h2⟩:=h
      rcases List.mem_cons.1 hz with rfl | hz
      ·rw[ha] at h2;cases h2
      ·exact⟨z,hz,h2⟩
     obtain⟨l1,z,l2,rfl,h1,h2⟩:=first_of this
     refine⟨a::l1,z,l2,rfl,h1,fun y hy=> ?_⟩
     rcases List.mem_cons.1 hy with rfl | hy
     ·exact ha
     ·exact h2 y hy
theorem Core.feed : ∀(n:Nat) {β:Nat→Ent} {fr:Fr} {H:CH} {R:List Nat} {lag:List (Nat×Nat)},lag.length≤n→∀(C:Core S B h β0 w0 fr' H' β fr H R lag l m a w) {i:Nat},i<ops.size→isW (S.its i).op=false→i∈R→(¬ ∃q∈lag,q.1=i)→(∀j,Anc ops i j→Ex R lag j)→
 ∃β2 fr2 H2 R2 lag2,Core S B h β0 w0 fr' H' β2 fr2 H2 R2 lag2 l m a w∧(∀j,Ex R2 lag2 j↔Ex R lag j)∧i∈R2∧(∀q∈lag2,∀t,(S.its q.1).dst=some t→t∉(S.its i).uses):=by
 intro n
 induction n with
 | zero=>
   intro β fr H R lag hn C i hi hiW hiR hil hanc
   have:lag= []:=List.length_eq_zero_iff.1 (by omega)
   subst this
   exact⟨β,fr,H,R,[],C,fun _=>Iff.rfl,hiR,fun q hq=>by cases hq⟩
 | succ n ih=>
   intro β fr H R lag hn C i hi hiW hiR hil hanc
   by_cases hex : ∃q∈lag,∃t,(S.its q.1).dst=some t∧t∈(S.its i).uses
   ·obtain⟨⟨x,b⟩,hq,t,ht,hu⟩:=hex
    obtain⟨hxR,hxA⟩:=C.lagR _ hq
    simp only at hxR hxA ht
    have hx:=C.lt x hxR
    obtain⟨R1,R2,rfl⟩:=List.append_of_mem hxR
    have hs2:=S.s2 i x t hi hx hiW hxA ht hu
    obtain⟨p1,p2,_⟩:=pw_mem C.srt
    have hqw : ∀z∈R1,isW (S.its z).op=false:=fun z hz=>by
     have hzR:z∈R1++x::R2:=by simp[hz]
     have hzl:=C.lt z hzR
     cases hzw:isW (S.its z).op with
     | false=>rfl
     | true=>
       rcases hanc z ((hs2 z hzl (p1 z hz)).1 hzw) with g | g
       ·exact absurd hzR g
       ·exact absurd g (C.wlag hzw)
    have hqa : ∀z∈R1,isA (S.its z).op=true→∃q∈lag,q.1=z:=fun z hz hza=>by
     have hzR:z∈R1++x::R2:=by simp[hz]
     have hzl:=C.lt z hzR
     rcases(hs2 z hzl (p1 z hz)).2 hza with ⟨y,y1,y2,y3,y4⟩ | ha
     ·have hy:y∉R1++x::R2:=by
       rcases hanc y ((hs2 y y1 y4).1 y2) with g | g
       ·exact g
       ·exact absurd g (C.wlag y2)
      exact absurd hzR (C.past y y1 y2 hy z hzl y3)
     ·rcases hanc z ha with g | g
      ·exact absurd hzR g
      ·exact g
    by_cases hfa : ∃z∈R1,isA (S.its z).op=true
    ·obtain⟨Z1,z,Z2,rfl,hza,hz1⟩:=first_of (p:=fun z=>isA (S.its z).op) hfa
     obtain⟨⟨z',b'⟩,hq',hz'⟩:=hqa z (by simp) hza
     simp only at hz'
     subst hz'
     have hRe:(Z1++z'::Z2)++x::R2=Z1++z'::(Z2++x::R2):=by simp
     rw[hRe] at C hiR hanc⊢
     have hquiet : ∀y∈Z1,isW (S.its y).op=false∧isA (S.its y).op=false:=fun y hy=>⟨hqw y (by simp[hy]),hz1 y hy⟩
     obtain⟨β2,fr2,H2,lag2,C2,hm,hlen⟩:=C.catch hq' hquiet
     have hEx:=fun j=>ex_catch (R1:=Z1) (R2:=Z2++x::R2) C.notmem hq' hm j
     have hxi:i≠z':=fun e=>hil ⟨_,hq',e.symm⟩
     obtain⟨β3,fr3,H3,R3,lag3,C3,e3,m3,f3⟩:=ih (by omega) C2 hi hiW (by simp only[List.mem_append,List.mem_cons,hxi,false_or] at hiR⊢;exact hiR) (fun⟨q,q1,q2⟩=>hil ⟨q,((hm q).1 q1).1,q2⟩) (fun j hj=>(hEx j).2 (hanc j hj))
     exact⟨β3,fr3,H3,R3,lag3,C3,fun j=>(e3 j).trans (hEx j),m3,f3⟩
    have hquiet : ∀z∈R1,isW (S.its z).op=false∧isA (S.its z).op=false:=fun z hz=>⟨hqw z hz,by
     cases hza:isA (S.its z).op with
     | false=>rfl
     | true=>exact absurd ⟨z,hz,hza⟩ hfa⟩
    obtain⟨β2,fr2,H2,lag2,C2,hm,hlen⟩:=C.catch hq hquiet
    have hEx:=fun j=>ex_catch (R1:=R1) (R2:=R2) C.notmem hq hm j
    have hxi:i≠x:=fun e=>hil ⟨_,hq,e.symm⟩
    obtain⟨β3,fr3,H3,R3,lag3,C3,e3,m3,f3⟩:=ih (by omega) C2 hi hiW (by simp only[List.mem_append,List.mem_cons,hxi,false_or] at hiR⊢;exact hiR) (fun⟨q,q1,q2⟩=>hil ⟨q,((hm q).1 q1).1,q2⟩) (fun j hj=>(hEx j).2 (hanc j hj))
    exact⟨β3,fr3,H3,R3,lag3,C3,fun j=>(e3 j).trans (hEx j),m3,f3⟩
   ·exact⟨β,fr,H,R,lag,C,fun _=>Iff.rfl,hiR,fun q hq t ht hu=>hex ⟨q,hq,t,ht,hu⟩⟩
theorem Core.front : ∀(R1:List Nat) {R2:List Nat} {i:Nat} {β:Nat→Ent} {fr:Fr} {H:CH} {lag:List (Nat×Nat)} (C:Core S B h β0 w0 fr' H' β fr H (R1++i::R2) lag l m a w),(∀x∈R1,∃q∈lag,q.1=x)→
 ∃β2 fr2 H2 lag2,Core S B h β0 w0 fr' H' β2 fr2 H2 (i::R2) lag2 l m a w∧(∀j,Ex (i::R2) lag2 j↔Ex (R1++i::R2) lag j)
 | [],R2,i,β,fr,H,lag,C,_=>⟨β,fr,H,lag,C,fun _=>Iff.rfl⟩
 | x::R1,R2,i,β,fr,H,lag,C,hx=>by
   obtain⟨⟨x',b⟩,hq,rfl⟩:=hx x (List.mem_cons_self ..)
   have C':Core S B h β0 w0 fr' H' β fr H ([]++x'::(R1++i::R2)) lag l m a w:=C
   obtain⟨β2,fr2,H2,lag2,C2,hm,hlen⟩:=C'.catch hq (fun z hz=>by cases hz)
   have hEx:=fun j=>ex_catch (R1:= []) (R2:=R1++i::R2) C'.notmem hq hm j
   have hnm:=C'.notmem
   obtain⟨β3,fr3,H3,lag3,C3,e3⟩:=Core.front R1 C2 (fun z hz=>by
    obtain⟨q,q1,q2⟩:=hx z (List.mem_cons_of_mem _ hz)
    exact⟨q,(hm q).2 ⟨q1,fun e=>hnm (by rw[←e,q2];simp[hz])⟩,q2⟩)
   exact⟨β3,fr3,H3,lag3,C3,fun j=>(e3 j).trans (hEx j)⟩
end
end Can
end Go.Proofs.YticlaccbodpkeaaGreatDoor
namespace Go.Proofs.YticlaccbodpkeaaGreatDoor
namespace Can
open Go Go.RowKit
set_option linter.unusedSimpArgs false
set_option linter.unusedVariables false
variable {P:Program} {B:Nat}
section
variable {N:Nat} {ops:Array Oper} {d:DReg} {S:DS P N ops d} {h:Hd} {β0:Nat→Ent} {w0:World} {fr':Fr} {H':CH} {β:Nat→Ent} {fr:Fr} {H:CH} {R:List Nat} {lag:List (Nat×Nat)} {l:List CH} {m:Nat} {a:Act} {w:World}
open Classical in
noncomputable def patch(S:DS P N ops d)(lag:List (Nat×Nat))(fr:Fr):Fr:=fun t=>if ∃q∈lag,(S.its q.1).dst=some t then undef else fr t
theorem Core.patched(C:Core S B h β0 w0 fr' H' β fr H R lag l m a w):FR β N (patch S lag fr) a:=by
 refine⟨C.size,fun t=> ?_⟩
 unfold patch
 split
 ·exact .undef _
 ·rename_i hn
  rcases C.fr t with g | g
  ·exact absurd g hn
  ·exact g
theorem patch_agree{i:Nat}(hf : ∀q∈lag,∀t,(S.its q.1).dst=some t→t∉(S.its i).uses) : ∀t∈(S.its i).uses,fr t=patch S lag fr t:=by
 intro t ht
 unfold patch
 rw[if_neg]
 rintro⟨q,hq,e⟩
 exact hf q hq t e ht
theorem Core.quiet(C:Core S B h β0 w0 fr' H' β fr H R lag l m a w){i:Nat}(hi:i<ops.size)(hiR:i∈R)(hil : ¬ ∃q∈lag,q.1=i)(hiW:isW (S.its i).op=false)(hiA:isA (S.its i).op=false∨wantedF fr (S.its i).guard=some false)
 (hanc : ∀j,Anc ops i j→Ex R lag j) (hfeed : ∀q∈lag,∀t,(S.its q.1).dst=some t→t∉(S.its i).uses) :
 ∃R1 R2 v,R=R1++i::R2∧stepI h (S.its i) fr H=some (putF fr (S.its i).dst v,H)∧runD h ((R1++R2).map S.its) (putF fr (S.its i).dst v) H=some (fr',H',l):=by
 obtain⟨R1,R2,rfl⟩:=List.append_of_mem hiR
 obtain⟨p1,p2,p3⟩:=pw_mem C.srt
 have hnot : ∀z∈R1++R2,z≠i:=fun z hz e=>C.notmem (e▸hz)
 have hlt : ∀z∈R1++R2,z<ops.size:=fun z hz=>C.lt z (by rcases List.mem_append.1 hz with hz | hz<;>simp[hz])
 have hRm : ∀z∈R1,z∈R1++i::R2:=fun z hz=>by simp[hz]
 have hahead : ∀z∈R1,Anc ops i z→∃q∈lag,q.1=z:=fun z hz ha=>by
  rcases hanc z ha with g | g
  ·exact absurd (hRm z hz) g
  ·exact g
 have hrun:=C.run
 rw[List.map_append,List.map_cons] at hrun
 obtain⟨fr1,H1,l1,l2,g1,g2,rfl⟩:=runD_app hrun
 have huse : ∀t∈(S.its i).uses,fr1 t=fr t:=fun t ht=>by
  refine runD_keep (fun y hy e=> ?_) g1
  obtain⟨z,hz,rfl⟩:=List.mem_map.1 hy
  have hzl:=hlt z (by simp[hz])
  rcases S.d2 z i t hzl hi (hnot z (by simp[hz])) e ht with q | ⟨q,_⟩
  ·obtain⟨q1,q2,q3⟩:=hahead z hz q
   exact hfeed q1 q2 t (by rw[q3];exact e) ht
  ·exact absurd (S.ancp _ _ hzl q).2 (by have:=p1 z hz;omega)
 have hap : ∀y∈R1.map S.its,∀t,(S.its i).dst=some t→t∉y.uses∧y.dst≠some t:=fun y hy t ht=>by
  obtain⟨z,hz,rfl⟩:=List.mem_map.1 hy
  have hzl:=hlt z (by simp[hz])
  refine⟨fun hu=> ?_,fun e=>hnot z (by simp[hz]) (S.dd _ _ t hzl hi e ht)⟩
  rcases S.d2 i z t hi hzl (fun e=>hnot z (by simp[hz]) e.symm) ht hu with q | ⟨q,qa⟩
  ·exact absurd (S.ancp _ _ hzl q).2 (by have:=p1 z hz;omega)
  ·obtain⟨q1,q2,q3⟩:=hahead z hz q
   have:=(C.lagR q1 q2).2
   rw[q3,qa] at this;cases this
 have hw1:wantedF fr1 (S.its i).guard=wantedF fr (S.its i).guard:=wanted_agree huse
 simp only[runD] at g2
 cases hs:stepI h (S.its i) fr1 H1 with
 | none=>rw[hs] at g2;cases g2
 | some q=>
   obtain⟨f,K⟩:=q
   rw[hs] at g2
   simp only[hiW,Bool.false_eq_true,if_false] at g2
   have g3:runD h (R2.map S.its) f K=some (fr',H',l2):=by
    cases hz:runD h (R2.map S.its) f K with
    | none=>rw[hz] at g2;cases g2
    | some z=>obtain⟨z1,z2,z3⟩:=z;rw[hz] at g2;simpa using g2
   have fin : ∀v,f=putF fr1 (S.its i).dst v→K=H1→stepI h (S.its i) fr H=some (putF fr (S.its i).dst v,H)→∃R1' R2' v,R1++i::R2=R1'++i::R2'∧stepI h (S.its i) fr H=some (putF fr (S.its i).dst v,H)∧runD h ((R1'++R2').map S.its) (putF fr (S.its i).dst v) H=some (fr',H',l1++l2):=by
    intro v e1 e2 e3
    subst e1 e2
    refine⟨R1,R2,v,rfl,e3,?_⟩
    rw[List.map_append]
    exact runD_join (runD_put hap g1) g3
   simp only[stepI] at hs
   cases hw:wantedF fr (S.its i).guard with
   | none=>rw[hw1,hw] at hs;cases hs
   | some b=>
     rw[hw1,hw] at hs
     cases b with
     | false=>
       simp only[Option.some.injEq,Prod.mk.injEq] at hs
       exact fin skipV hs.1.symm hs.2.symm (by simp only[stepI,hw])
     | true=>
       have hA:isA (S.its i).op=false:=by
        rcases hiA with g | g
        ·exact g
        ·rw[hw] at g;cases g
       simp only at hs
       cases hop:(S.its i).op with
       | a x=>rw[hop] at hA;cases hA
       | w x=>rw[hop] at hiW;cases hiW
       | call f a=>rw[hop] at hiW;cases hiW
       | callv f a=>rw[hop] at hiW;cases hiW
       | p x=>
         rw[hop] at hs
         simp only[rop] at hs
         cases hp:pop (evF fr1) x with
         | none=>rw[hp] at hs;cases hs
         | some u=>
           rw[hp] at hs
           simp only[Option.map_some,Option.some.injEq,Prod.mk.injEq] at hs
           have hp2:pop (evF fr) x=some u:=by
            rw[←hp];exact pop_congr (evF_agree fun t ht=>(huse t (by simp only[Item.uses,hop,List.mem_append];exact .inl ht)).symm)
           exact fin u hs.1.symm hs.2.symm (by simp only[stepI,hw,hop,rop,hp2,Option.map_some])
       | l x=>
         rw[hop] at hs
         simp only[rop] at hs
         cases hp:lop H1 (evF fr1) x with
         | none=>rw[hp] at hs;cases hs
         | some u=>
           rw[hp] at hs
           simp only[Option.map_some,Option.some.injEq,Prod.mk.injEq] at hs
           have hcongr : ∀(f:Fr) (G:CH),(∀t∈(S.its i).uses,f t=fr t)→lop G (evF f) x=lop G (evF fr) x:=fun f G hf=>
            lop_congr (evF_agree fun t ht=>hf t (by simp only[Item.uses,hop,List.mem_append];exact .inl ht))
           have hp2:lop H (evF fr) x=some u:=by
            rcases S.rd i x hi hop with hfree | ⟨c1,c2⟩
            ·have hquiet : ∀z∈R1,isW (S.its z).op=false∧isA (S.its z).op=false:=fun z hz=>by
              have hzl:=hlt z (by simp[hz])
              obtain⟨s1,s2⟩:=hfree z hzl (p1 z hz)
              refine⟨?_,?_⟩
              ·cases hzw:isW (S.its z).op with
               | false=>rfl
               | true=>exact absurd (hahead z hz (s1 hzw)) (C.wlag hzw)
              ·cases hza:isA (S.its z).op with
               | false=>rfl
               | true=>
                 rcases s2 hza with ⟨y,y1,y2,y3,y4⟩ | ⟨t,t1,t2⟩
                 ·have hy:y∉R1++i::R2:=by
                   rcases hanc y y4 with g | g
                   ·exact g
                   ·exact absurd g (C.wlag y2)
                  exact absurd (hRm z hz) (C.past y y1 y2 hy z hzl y3)
                 ·rcases S.d2 z i t hzl hi (hnot z (by simp[hz])) t1 t2 with q | ⟨q,_⟩
                  ·obtain⟨q1,q2,q3⟩:=hahead z hz q
                   exact absurd t2 (hfeed q1 q2 t (by rw[q3];exact t1))
                  ·exact absurd (S.ancp _ _ hzl q).2 (by have:=p1 z hz;omega)
             obtain⟨e1,_⟩:=runD_quiet (fun y hy=>by obtain⟨z,hz,rfl⟩:=List.mem_map.1 hy;exact hquiet z hz) g1
             rw[←hcongr fr1 H huse,←e1];exact hp
            ·have hlo:S.lo i≤m:=by
              rcases Nat.lt_or_ge m (S.lo i) with g | g
              ·obtain⟨y,y1,y2,y3,y4⟩:=S.lo1 i m hi g
               have hy:y∉R1++i::R2:=by
                rcases hanc y y4 with g | g
                ·exact g
                ·exact absurd g (C.wlag y2)
               have:=(C.done y y1 y2).1 hy
               omega
              ·exact g
             have hhi:m≤S.hi i:=by
              rcases Nat.lt_or_ge (S.hi i) m with g | g
              ·obtain⟨y,y1,y2,y3⟩:=C.mW _ g
               have hy:y∉R1++i::R2:=(C.done y y1 y2).2 (by omega)
               rcases S.hi1 i y hi y1 y2 with q | q
               ·omega
               ·exact absurd hiR (C.past y y1 y2 hy i hi q)
              ·exact g
             obtain⟨G,z1,z2⟩:=C.chk i hiR m (c2 m hlo hhi) hlo hhi (Nat.le_refl m)
             rw[Nat.sub_self] at z1
             simp only[List.getElem?_cons_zero,Option.some.injEq] at z1
             subst z1
             have hfin : ∀t∈(S.its i).uses,fr' t=fr t:=fun t ht=>by
              refine runD_keep (fun y hy e=> ?_) C.run
              obtain⟨z,hz,rfl⟩:=List.mem_map.1 hy
              have hzl:=C.lt z hz
              have ha:=c1 t z ht hzl e
              rcases hanc z ha with g | ⟨q1,q2,q3⟩
              ·exact g hz
              ·exact hfeed q1 q2 t (by rw[q3];exact e) ht
             have hwf:wantedF fr' (S.its i).guard=some true:=by rw[wanted_agree hfin];exact hw
             rcases z2 with z2 | ⟨x',d',z2,z3,z4⟩
             ·rw[hwf] at z2;cases z2
             ·rw[hop] at z2
              cases z2
              rw[hcongr fr' H hfin] at z4
              rw[z4]
              have:fr' d'=u:=by
               rw[runD_keep (t:=d') (fun y hy e=> ?_) g3,←hs.1,z3]
               ·simp[putF]
               ·obtain⟨z,hz,rfl⟩:=List.mem_map.1 hy
                exact hnot z (by simp[hz]) (S.dd _ _ d' (hlt z (by simp[hz])) hi e z3)
              rw[this]
           exact fin u hs.1.symm hs.2.symm (by simp only[stepI,hw,hop,rop,hp2,Option.map_some])
end
end Can
end Go.Proofs.YticlaccbodpkeaaGreatDoor
namespace Go.Proofs.YticlaccbodpkeaaGreatDoor
namespace Can
open Go Go.RowKit
set_option linter.unusedSimpArgs false
set_option linter.unusedVariables false
variable {P:Program} {B:Nat}
section
variable {N:Nat} {ops:Array Oper} {d:DReg} {S:DS P N ops d} {h:Hd} {β0:Nat→Ent} {w0:World} {fr':Fr} {H':CH} {β:Nat→Ent} {fr:Fr} {H:CH} {R:List Nat} {lag:List (Nat×Nat)} {l:List CH} {m:Nat} {a:Act} {w:World}
theorem LagF.lt{N:Nat}{it:Item}{b:Nat}(h:LagF P B N w0 β fr a w it b):b<w.heap.size:=by
 obtain⟨_,_,_,_,_,_,_,_,_,_,_,_,_,_,h6,_⟩:=h.ex
 exact(Array.getElem?_eq_some_iff.1 h6).1
theorem put_other{a:Act}{d:Option Nat}{v:Value}{t:Nat}(h:d≠some t):(a.put d v).tmps.getD t undef=a.tmps.getD t undef:=by
 cases d with
 | none=>rfl
 | some x=>
   have hne:x≠t:=fun e=>h (by rw[e])
   simp only[Act.put,Array.getD_eq_getD_getElem?,Array.getElem?_setIfInBounds_ne hne]
theorem Core.lagNext(C:Core S B h β0 w0 fr' H' β fr H R lag l m a w){i:Nat}(hi:i<ops.size)(hiR:i∈R)(hil : ¬ ∃q∈lag,q.1=i){β':Nat→Ent}{w':World}{v v':Value}(hx:EntExt β β')(hk : ∀b,b<w.heap.size→Out β b→w'.heap[b]? = w.heap[b]? ∧Out β' b) :
 ∀p∈lag,LagF P B N w0 β' (putF fr (S.its i).dst v) (a.put (S.its i).dst v') w' (S.its p.1) p.2:=fun p hp=>by
 have hF:=C.lagF p hp
 obtain⟨k1,k2⟩:=hk _ hF.lt hF.out
 obtain⟨hpR,hpA⟩:=C.lagR p hp
 have hpl:=C.lt _ hpR
 have hne:p.1≠i:=fun e=>hil ⟨p,hp,e⟩
 refine hF.keep hx k1 k2 (fun t ht=>putF_other fun e=> ?_) (fun t ht=>put_other fun e=>hne (S.dd _ _ t hpl hi ht e))
 rcases S.d2 i p.1 t hi hpl hne.symm e ht with q | ⟨_,q⟩
 ·rcases C.lagAnc p hp i q with g | g
  ·exact g hiR
  ·exact hil g
 ·rw[hpA] at q;cases q
theorem Core.frNext(C:Core S B h β0 w0 fr' H' β fr H R lag l m a w){i:Nat}{β':Nat→Ent}{v:Value}{a':Act}(hf:FR β' N (putF (patch S lag fr) (S.its i).dst v) a') :
 ∀t,(∃p∈lag,(S.its p.1).dst=some t)∨VR β' (putF fr (S.its i).dst v t) (a'.tmps.getD t undef):=fun t=>by
 by_cases hl : ∃p∈lag,(S.its p.1).dst=some t
 ·exact .inl hl
 ·right
  have:=hf.2 t
  by_cases e:(S.its i).dst=some t
  ·rw[e] at this⊢
   simpa only[putF,if_true] using this
  ·rw[putF_other e] at this⊢
   unfold patch at this
   rwa [if_neg hl] at this
theorem Core.nextQuiet{R1 R2:List Nat}{i:Nat}(C:Core S B h β0 w0 fr' H' β fr H (R1++i::R2) lag l m a w)(hil : ¬ ∃q∈lag,q.1=i)(hiW:isW (S.its i).op=false){v v':Value}{β':Nat→Ent}{w':World}
 (hrun:runD h ((R1++R2).map S.its) (putF fr (S.its i).dst v) H=some (fr',H',l)) (hS:Sim P B β' H w') (hE:Evo β w β' w') (hf:FR β' N (putF (patch S lag fr) (S.its i).dst v) (a.put (S.its i).dst v')) :
 Core S B h β0 w0 fr' H' β' (putF fr (S.its i).dst v) H (R1++R2) lag l m (a.put (S.its i).dst v') w':=by
 obtain⟨p1,p2,p3⟩:=pw_mem C.srt
 have hi:i<ops.size:=C.lt i (by simp)
 have sub : ∀z,z∈R1++R2→z∈R1++i::R2:=fun z hz=>by rcases List.mem_append.1 hz with hz | hz<;>simp[hz]
 have eqv : ∀z,z≠i→(z∈R1++R2↔z∈R1++i::R2):=fun z hz=>by simp only[List.mem_append,List.mem_cons,hz,false_or]
 have hWi : ∀y,isW (S.its y).op=true→y≠i:=fun y hy e=>by rw[e,hiW] at hy;cases hy
 refine⟨fun z hz=>C.lt z (sub z hz),p3,fun p hp=> ?_,C.lagNext hi (by simp) hil hE.ext hE.keep,C.lagD,fun p hp j hj=> ?_,C.lagU,hrun,hS,C.evo.trans hE,hf.1,C.frNext hf,fun y hy hyW=> ?_,C.mW,fun y hy hyW hyR z hz hzp g=> ?_,fun r hr s hs c1 c2 c3=>C.chk r (sub r hr) s hs c1 c2 c3⟩
 ·exact⟨(eqv _ fun e=>hil ⟨p,hp,e⟩).2 (C.lagR p hp).1,(C.lagR p hp).2⟩
 ·rcases C.lagAnc p hp j hj with g | g
  ·exact .inl fun q=>g (sub _ q)
  ·exact .inr g
 ·rw[←C.done y hy hyW,eqv y (hWi y hyW)]
 ·exact C.past y hy hyW (fun q=>hyR ((eqv y (hWi y hyW)).2 q)) z hz hzp (sub z g)
theorem Core.nextLag{i:Nat}(C:Core S B h β0 w0 fr' H' β fr H R lag l m a w)(hi:i<ops.size)(hiR:i∈R)(hil : ¬ ∃q∈lag,q.1=i)(hiA:isA (S.its i).op=true)(hanc : ∀j,Anc ops i j→Ex R lag j)(hfeed : ∀q∈lag,∀t,(S.its q.1).dst=some t→t∉(S.its i).uses)
 {v':Value} {w':World} {o:Obj} (hw:w'.heap=w.heap.push o) (hos:w'.os=w.os) (htp:w'.tape=w.tape) (hout:w'.output=w.output) (hN : ∀t,(S.its i).dst=some t→t<N) (hF:LagF P B N w0 β fr (a.put (S.its i).dst v') w' (S.its i) w.heap.size) :
 Core S B h β0 w0 fr' H' β fr H R ((i,w.heap.size)::lag) l m (a.put (S.its i).dst v') w':=by
 have hold : ∀b,b<w.heap.size→Out β b→w'.heap[b]? = w.heap[b]? ∧Out β b:=fun b hb ho=>⟨by rw[hw,Array.getElem?_push,if_neg (by omega)],ho⟩
 have hE:Evo β w β w':=⟨hos,htp,hout,by rw[hw];simp,hold,EntExt.refl β⟩
 have hown : ∀p∈lag,LagF P B N w0 β fr (a.put (S.its i).dst v') w' (S.its p.1) p.2:=fun p hp=>by
  have hF:=C.lagF p hp
  obtain⟨k1,k2⟩:=hold _ hF.lt hF.out
  exact hF.keep (EntExt.refl β) k1 k2 (fun t ht=>rfl) (fun t ht=>put_other fun e=>hil ⟨p,hp,S.dd _ _ t (C.lt _ (C.lagR p hp).1) hi ht e⟩)
 refine⟨C.lt,C.srt,fun p hp=> ?_,fun p hp=> ?_,?_,fun p hp j hj=> ?_,fun p hp q hq t ht=> ?_,C.run,C.sim.push hw,C.evo.trans hE,?_,fun t=> ?_,C.done,C.mW,C.past,C.chk⟩
 ·rcases List.mem_cons.1 hp with rfl | hp
  ·exact⟨hiR,hiA⟩
  ·exact C.lagR p hp
 ·rcases List.mem_cons.1 hp with rfl | hp
  ·exact hF
  ·exact hown p hp
 ·rw[List.pairwise_cons]
  refine⟨fun p hp=>⟨fun e=>hil ⟨p,hp,e.symm⟩,fun e=> ?_⟩,C.lagD⟩
  have:=(C.lagF p hp).lt
  simp only at e
  omega
 ·have lift:Ex R lag j→j∉R∨∃q∈(i,w.heap.size)::lag,q.1=j:=by
   rintro(g | ⟨q,g1,g2⟩)
   ·exact .inl g
   ·exact .inr ⟨q,List.mem_cons_of_mem _ g1,g2⟩
  rcases List.mem_cons.1 hp with rfl | hp
  ·exact lift (hanc j hj)
  ·exact lift (C.lagAnc p hp j hj)
 ·rcases List.mem_cons.1 hp with rfl | hp<;>rcases List.mem_cons.1 hq with rfl | hq
  ·exact S.d2' _ t hi hiA ht
  ·exact hfeed q hq t ht
  ·intro hu
   have hpR:=(C.lagR p hp).1
   rcases S.d2 i p.1 t hi (C.lt _ hpR) (fun e=>hil ⟨p,hp,e.symm⟩) ht hu with q | ⟨_,q⟩
   ·rcases C.lagAnc p hp i q with g | g
    ·exact g hiR
    ·exact hil g
   ·rw[(C.lagR p hp).2] at q;cases q
  ·exact C.lagU p hp q hq t ht
 ·have:=C.size
  cases (S.its i).dst<;>simpa[Act.put] using this
 ·by_cases e:(S.its i).dst=some t
  ·exact .inl ⟨_,List.mem_cons_self ..,e⟩
  ·rw[put_other e]
   rcases C.fr t with ⟨p,g1,g2⟩ | g
   ·exact .inl ⟨p,List.mem_cons_of_mem _ g1,g2⟩
   ·exact .inr g
theorem Core.rank{R2:List Nat}{i:Nat}(C:Core S B h β0 w0 fr' H' β fr H (i::R2) lag l m a w)(hiW:isW (S.its i).op=true)(hanc : ∀j,Anc ops i j→Ex (i::R2) lag j):S.rk i=m:=by
 have hi:i<ops.size:=C.lt i (by simp)
 have h1 : ¬S.rk i<m:=fun g=>((C.done i hi hiW).2 g) (by simp)
 rcases Nat.lt_or_ge m (S.rk i) with g | g
 ·obtain⟨y,y1,y2,y3⟩:=S.rk2 i m hi hiW g
  have hp:=S.rk1 y i y1 hi y2 hiW (by omega)
  rcases hanc y (S.d4 y i y1 hi hiW hp) with q | q
  ·have:=(C.done y y1 y2).1 q;omega
  ·exact absurd q (C.wlag y2)
 ·omega
theorem Core.nextW{R2:List Nat}{i:Nat}(C:Core S B h β0 w0 fr' H' β fr H (i::R2) lag l m a w)(hiW:isW (S.its i).op=true)(hrk:S.rk i=m){v v':Value}{β':Nat→Ent}{w':World}{H1:CH}{l2:List CH}(hl:l=H1::l2)
 (hrun:runD h (R2.map S.its) (putF fr (S.its i).dst v) H1=some (fr',H',l2)) (hS:Sim P B β' H1 w') (hE:Evo β w β' w') (hf:FR β' N (putF (patch S lag fr) (S.its i).dst v) (a.put (S.its i).dst v')) :
 Core S B h β0 w0 fr' H' β' (putF fr (S.its i).dst v) H1 R2 lag l2 (m+1) (a.put (S.its i).dst v') w':=by
 have hi:i<ops.size:=C.lt i (by simp)
 have hil:=C.wlag hiW
 have hsrt:=C.srt
 rw[List.pairwise_cons] at hsrt
 have eqv : ∀z,z≠i→(z∈R2↔z∈i::R2):=fun z hz=>by simp only[List.mem_cons,hz,false_or]
 have hni:i∉R2:=fun g=>absurd (hsrt.1 i g) (Nat.lt_irrefl _)
 refine⟨fun z hz=>C.lt z (List.mem_cons_of_mem _ hz),hsrt.2,fun p hp=> ?_,C.lagNext hi (by simp) hil hE.ext hE.keep,C.lagD,fun p hp j hj=> ?_,C.lagU,hrun,hS,C.evo.trans hE,hf.1,C.frNext hf,fun y hy hyW=> ?_,fun q hq=> ?_,fun y hy hyW hyR z hz hzp g=> ?_,fun r hr s hs c1 c2 c3=> ?_⟩
 ·exact⟨(eqv _ fun e=>hil ⟨p,hp,e⟩).2 (C.lagR p hp).1,(C.lagR p hp).2⟩
 ·rcases C.lagAnc p hp j hj with g | g
  ·exact .inl fun q=>g (List.mem_cons_of_mem _ q)
  ·exact .inr g
 ·by_cases e:y=i
  ·subst e
   exact⟨fun _=>by omega,fun _=>hni⟩
  ·rw[eqv y e,C.done y hy hyW]
   constructor
   ·intro g;omega
   ·intro g
    rcases Nat.lt_or_ge (S.rk y) m with q | q
    ·exact q
    ·exact absurd (S.rk3 y i hy hi hyW hiW (by omega)) e
 ·by_cases e:q=m
  ·exact⟨i,hi,hiW,by omega⟩
  ·exact C.mW q (by omega)
 ·by_cases e:y=i
  ·subst e
   have:=hsrt.1 z g;omega
  ·exact C.past y hy hyW (fun q=>hyR ((eqv y e).2 q)) z hz hzp (List.mem_cons_of_mem _ g)
 ·obtain⟨G,z1,z2⟩:=C.chk r (List.mem_cons_of_mem _ hr) s hs c1 c2 (by omega)
  refine⟨G,?_,z2⟩
  rw[hl] at z1
  rw[show s-m=(s-(m+1))+1 by omega,List.getElem?_cons_succ] at z1
  exact z1
end
end Can
end Go.Proofs.YticlaccbodpkeaaGreatDoor
namespace Go.Proofs.YticlaccbodpkeaaGreatDoor
namespace Can
open Go Go.RowKit
set_option linter.unusedSimpArgs false
set_option linter.unusedVariables false
variable {P:Program} {B:Nat}
section
variable {N:Nat} {ops:Array Oper} {d:DReg} {S:DS P N ops d} {h:Hd} {β0:Nat→Ent} {w0:World} {fr':Fr} {H':CH}
structure Inv(S:DS P N ops d)(B:Nat)(h:Hd)(β0:Nat→Ent)(w0:World)(fr':Fr)(H':CH)(df:List Deferred)(listed:Array Bool)(a:Act)(w:World):Prop where
 core : ∃β fr H R lag l m,Core S B h β0 w0 fr' H' β fr H R lag l m a w∧∀j,j<ops.size→(listed.getD j false=true↔Ex R lag j)
 dc:DC ops listed
 size:listed.size=ops.size
 defers:a.defers=df
theorem ex_drop{R1 R2:List Nat}{i:Nat}{lag:List (Nat×Nat)}(hn:i∉R1++R2)(j:Nat):Ex (R1++R2) lag j↔j=i∨Ex (R1++i::R2) lag j:=by
 unfold Ex
 by_cases e:j=i
 ·subst e;exact⟨fun _=> .inl rfl,fun _=> .inl hn⟩
 ·simp only[List.mem_append,List.mem_cons,e,false_or]
theorem wpOpIn_some{Q:Exit→Act→World→Prop}{F:Fence}{n i:Nat}{K:Act→World→Prop}{a:Act}{w:World}{o:Oper}(ho:ops[i]? = some o)(hF : ∀f,F.fn f)
 (h1:Region.wanted o (yielded ops a.tmps)=true→o.wpIn F n P a w K Q) (h2:Region.wanted o (yielded ops a.tmps)=false→K (a.put o.dst undef) w):wpOpIn F n P ops Q i K a w:=by
 unfold wpOpIn
 simp only[ho]
 cases hw:Region.wanted o (yielded ops a.tmps) with
 | true=>simp only[if_true];exact h1 hw
 | false=>simp only[Bool.false_eq_true,if_false];exact⟨fun f _=>hF f,h2 hw⟩
theorem Inv.step(hh:HS P B h){ro:Option Nat}{df:List Deferred}{listed:Array Bool}{a:Act}{w:World}{Q:Exit→Act→World→Prop}(I:Inv S B h β0 w0 fr' H' df listed a w){i:Nat}(hi:i∈Region.ready .any ops listed){K:Act→World→Prop}
 (hK : ∀a' w',Inv S B h β0 w0 fr' H' df (listed.setIfInBounds i true) a' w'→K a' w'):wpOpIn (Fn ro) 0 P ops Q i K a w:=by
 obtain⟨β,fr,H,R,lag,l,m,C,hex⟩:=I.core
 obtain⟨hik,hun,hedge⟩:=ready_spec hi
 obtain⟨o,ho⟩ : ∃o,ops[i]? = some o:=⟨ops[i],by simp[hik]⟩
 have hok:=S.ok i o ho
 have hancl : ∀j,Anc ops i j→listed.getD j false=true:=fun j hj=>anc_ready I.dc hj hedge
 have hanc0 : ∀j,Anc ops i j→Ex R lag j:=fun j hj=>(hex j (S.ancp i j hik hj).1).1 (hancl j hj)
 have hunl : ¬listed.getD i false=true:=fun g=>by
  simp only[Array.getD_eq_getD_getElem?] at hun g
  have:i<listed.size:=by rw[I.size];exact hik
  rw[Array.getElem?_eq_getElem this] at hun g
  simp only[Option.getD_some] at hun g
  rw[g] at hun;cases hun
 have hnx : ¬Ex R lag i:=fun g=>hunl ((hex i hik).2 g)
 have hiR:i∈R:=Classical.byContradiction fun g=>hnx (.inl g)
 have hil : ¬ ∃q∈lag,q.1=i:=fun g=>hnx (.inr g)
 have hlt : ∀t,(S.its i).dst=some t→t<N:=fun t ht=>hok.lt t (by rw[←hok.dst];exact ht)
 have hnew : ∀ {R':List Nat} {lag':List (Nat×Nat)},(∀j,Ex R' lag' j↔j=i∨Ex R lag j)→∀j,j<ops.size→((listed.setIfInBounds i true).getD j false=true↔Ex R' lag' j):=by
  intro R' lag' hE j hj
  rw[getD_set,hE j,←hex j hj]
  constructor
  ·rintro(⟨e,_⟩ | g)
   ·exact .inl e
   ·exact .inr g
  ·rintro(e | g)
   ·exact .inl ⟨e,by rw[I.size];exact hik⟩
   ·exact .inr g
 have hdef : ∀v',(a.put o.dst v').defers=df:=fun v'=>by rw[←I.defers];cases o.dst<;>rfl
 have close : ∀ {β2:Nat→Ent} {fr2:Fr} {H2:CH} {R2:List Nat} {lag2:List (Nat×Nat)} {l2:List CH} {m2:Nat} {v':Value} {w':World},Core S B h β0 w0 fr' H' β2 fr2 H2 R2 lag2 l2 m2 (a.put (S.its i).dst v') w'→(∀j,Ex R2 lag2 j↔j=i∨Ex R lag j)→K (a.put o.dst v') w':=by
  intro β2 fr2 H2 R2 lag2 l2 m2 v' w' C2 hE
  rw[hok.dst] at C2
  exact hK _ _ ⟨⟨β2,fr2,H2,R2,lag2,l2,m2,C2,hnew hE⟩,dc_set I.dc hi,by simp[I.size],hdef v'⟩
 have act : ∀ {β2:Nat→Ent} {fr2:Fr} {H2 H3:CH} {R2:List Nat} {lag2:List (Nat×Nat)} {l2:List CH} {m2:Nat} {v:Value},Core S B h β0 w0 fr' H' β2 fr2 H2 R2 lag2 l2 m2 a w→
  (∀q∈lag2,∀t,(S.its q.1).dst=some t→t∉(S.its i).uses)→stepI h (S.its i) fr2 H2=some (putF fr2 (S.its i).dst v,H3)→
  (∀β' w' v',Sim P B β' H3 w'→Evo β2 w β' w'→FR β' N (putF (patch S lag2 fr2) (S.its i).dst v) (a.put (S.its i).dst v')→K (a.put o.dst v') w')→wpOpIn (Fn ro) 0 P ops Q i K a w:=by
  intro β2 fr2 H2 H3 R2 lag2 l2 m2 v C2 hfeed hstep hk
  have hag:=patch_agree (S:=S) (lag:=lag2) (fr:=fr2) hfeed
  obtain⟨u,e1,hst⟩:=stepI_agree (fr2:=patch S lag2 fr2) hag hstep
  have hpu:putF (patch S lag2 fr2) (S.its i).dst u=putF (patch S lag2 fr2) (S.its i).dst v:=by
   cases hd:(S.its i).dst with
   | none=>rfl
   | some t=>
     rw[hd] at e1
     have:=congrFun e1 t
     simp only[putF,if_true] at this
     rw[this]
  rw[hpu] at hst
  have hFR:=C2.patched
  have hst':=hst
  simp only[stepI] at hst'
  cases hw:wantedF (patch S lag2 fr2) (S.its i).guard with
  | none=>rw[hw] at hst';cases hst'
  | some b=>
    have hwr:=wanted_rel hok hFR hw
    rw[hw] at hst'
    cases b with
    | true=>
      refine wpOpIn_some ho (fun _=>trivial) (fun _=> ?_) (fun g=>by rw[hwr] at g;cases g)
      refine item_sound hh hok C2.sim hFR hw hst' fun β' w' v' q1 q2 q3=> ?_
      rw[←hok.dst] at q3
      exact hk β' w' v' q1 q2 q3
    | false=>
      refine wpOpIn_some ho (fun _=>trivial) (fun g=>by rw[hwr] at g;cases g) (fun _=> ?_)
      simp only[Option.some.injEq,Prod.mk.injEq] at hst'
      obtain⟨z1,rfl⟩:=hst'
      refine hk β2 w undef C2.sim (Evo.refl β2 w) ?_
      rw[←z1]
      exact hFR.put hlt .skip
 cases hiW:isW (S.its i).op with
 | true=>
   obtain⟨R1,R2,rfl⟩:=List.append_of_mem hiR
   obtain⟨p1,p2,p3⟩:=pw_mem C.srt
   have hnm:=C.notmem
   obtain⟨β2,fr2,H2,lag2,C2,hE2⟩:=Core.front R1 C fun x hx=>by
    have hxR:x∈R1++i::R2:=by simp[hx]
    rcases hanc0 x (S.d4 x i (C.lt x hxR) hik hiW (p1 x hx)) with g | g
    ·exact absurd hxR g
    ·exact g
   have hanc2 : ∀j,Anc ops i j→Ex (i::R2) lag2 j:=fun j hj=>(hE2 j).2 (hanc0 j hj)
   have hil2:=C2.wlag hiW
   have hsrt2:=C2.srt
   rw[List.pairwise_cons] at hsrt2
   have hfeed2 : ∀q∈lag2,∀t,(S.its q.1).dst=some t→t∉(S.its i).uses:=fun q hq t ht hu=>by
    have hqR:=(C2.lagR q hq).1
    have hne:q.1≠i:=fun e=>hil2 ⟨q,hq,e⟩
    have hq2:q.1∈R2:=by simpa[hne] using hqR
    rcases S.d2 q.1 i t (C2.lt _ hqR) hik hne ht hu with g | ⟨g,_⟩
    ·have:=(S.ancp _ _ hik g).2
     have:=hsrt2.1 _ hq2
     omega
    ·rcases C2.lagAnc q hq i g with g | g
     ·exact g (by simp)
     ·exact hil2 g
   have hrun:=C2.run
   simp only[List.map_cons,runD] at hrun
   cases hs:stepI h (S.its i) fr2 H2 with
   | none=>rw[hs] at hrun;cases hrun
   | some q=>
     obtain⟨f,H3⟩:=q
     rw[hs] at hrun
     obtain⟨v,rfl,_⟩:=stepI_agree (fr2:=fr2) (fun t _=>rfl) hs
     simp only[hiW,if_true] at hrun
     cases hz:runD h (R2.map S.its) (putF fr2 (S.its i).dst v) H3 with
     | none=>rw[hz] at hrun;cases hrun
     | some z=>
       obtain⟨z1,z2,l2⟩:=z
       rw[hz] at hrun
       simp only[Option.map_some,Option.some.injEq,Prod.mk.injEq] at hrun
       obtain⟨rfl,rfl,hl⟩:=hrun
       refine act C2 hfeed2 hs fun β' w' v' q1 q2 q3=>close (C2.nextW hiW (C2.rank hiW hanc2) hl.symm hz q1 q2 q3) fun j=> ?_
       have:=ex_drop (R1:= []) (R2:=R2) (i:=i) (lag:=lag2) (fun g=>hnm (by simp only[List.nil_append] at g;simp[g])) j
       simp only[List.nil_append] at this
       rw[this,hE2 j]
 | false=>
   obtain⟨β2,fr2,H2,R2,lag2,C2,hE2,hiR2,hfeed2⟩:=C.feed lag.length (Nat.le_refl _) hik hiW hiR hil hanc0
   have hnx2 : ¬Ex R2 lag2 i:=fun g=>hnx ((hE2 i).1 g)
   have hil2 : ¬ ∃q∈lag2,q.1=i:=fun g=>hnx2 (.inr g)
   have hanc2 : ∀j,Anc ops i j→Ex R2 lag2 j:=fun j hj=>(hE2 j).2 (hanc0 j hj)
   have viaQuiet:(isA (S.its i).op=false∨wantedF fr2 (S.its i).guard=some false)→wpOpIn (Fn ro) 0 P ops Q i K a w:=by
    intro hA
    obtain⟨Ra,Rb,v,rfl,hstep,hrun⟩:=C2.quiet hik hiR2 hil2 hiW hA hanc2 hfeed2
    refine act C2 hfeed2 hstep fun β' w' v' q1 q2 q3=>close (C2.nextQuiet hil2 hiW hrun q1 q2 q3) fun j=> ?_
    rw[ex_drop C2.notmem j,hE2 j]
   cases hA:isA (S.its i).op with
   | false=>exact viaQuiet (.inl hA)
   | true=>
     obtain⟨Ra,Rb,hRab⟩:=List.append_of_mem hiR2
     have hC2:=C2
     rw[hRab] at hC2
     obtain⟨p1,p2,p3⟩:=pw_mem hC2.srt
     have hnm:=hC2.notmem
     have hrun:=hC2.run
     rw[List.map_append,List.map_cons] at hrun
     obtain⟨fr1,H1,l1,l2,g1,g2,_⟩:=runD_app hrun
     have huse : ∀t∈(S.its i).uses,fr1 t=fr2 t:=fun t ht=>by
      refine runD_keep (fun y hy e=> ?_) g1
      obtain⟨z,hz,rfl⟩:=List.mem_map.1 hy
      have hzR:z∈Ra++i::Rb:=by simp[hz]
      have hzl:=hC2.lt z hzR
      rcases S.d2 z i t hzl hik (fun e=>hnm (by rw[←e];simp[hz])) e ht with q | ⟨_,q⟩
      ·rcases hanc2 z q with g | ⟨q1,q2,q3⟩
       ·exact g (by rw[hRab];exact hzR)
       ·exact hfeed2 q1 q2 t (by rw[q3];exact e) ht
      ·rw[hA] at q;cases q
     simp only[runD] at g2
     cases hs:stepI h (S.its i) fr1 H1 with
     | none=>rw[hs] at g2;cases g2
     | some q=>
       simp only[stepI] at hs
       have hw1:wantedF fr1 (S.its i).guard=wantedF fr2 (S.its i).guard:=wanted_agree huse
       rw[hw1] at hs
       cases hw:wantedF fr2 (S.its i).guard with
       | none=>rw[hw] at hs;cases hs
       | some b=>
         cases b with
         | false=>exact viaQuiet (.inr hw)
         | true=>
           rw[hw] at hs
           simp only at hs
           have hopk:=hok.op
           cases hop:(S.its i).op with
           | a x=>
             rw[hop] at hs hopk
             simp only[rop] at hs
             cases hp:aop (evF fr1) x with
             | none=>rw[hp] at hs;cases hs
             | some u=>
               obtain⟨cs,e,k,mk⟩:=u
               have hux : ∀t∈slotsOf x.opnds,t∈(S.its i).uses:=fun t ht=>by simp only[Item.uses,hop,List.mem_append];exact .inl ht
               have hp2:aop (evF fr2) x=some (cs,e,k,mk):=by
                rw[←hp];exact aop_congr (evF_agree fun t ht=>(huse t (hux t ht)).symm)
               have hag:=patch_agree (S:=S) (lag:=lag2) (fr:=fr2) hfeed2
               have hp3:aop (evF (patch S lag2 fr2)) x=some (cs,e,k,mk):=by
                rw[←hp2];exact aop_congr (evF_agree fun t ht=>(hag t (hux t ht)).symm)
               have hFR:=C2.patched
               have hwr:=wanted_rel hok hFR (b:=true) (by rw[←wanted_agree hag];exact hw)
               cases hopk with
               | a hsound=>
                 obtain⟨hk,sz,hsz,hrun2⟩:=hsound β2 (evF (patch S lag2 fr2)) a.eval o cs e k mk rfl (fun y hy=>evF_rel hFR (hok.opnds y hy)) hp3
                 obtain⟨cs',frz,w',v',h1,h2,h3,h4,h5,h6,h7,h8,h9,h10⟩:=hrun2 w
                 refine wpOpIn_some ho (fun _=>trivial) (fun _=> ?_) (fun g=>by rw[hwr] at g;cases g)
                 refine⟨fun f _=>trivial,?_⟩
                 rw[show(Fn ro).round=ro from rfl,Oper.semAt_eq ro _ _ hok.nodefer,h1]
                 show K (a.put o.dst v') w'
                 have hb:w'.heap[w.heap.size]? = some (.cells cs' e frz):=by rw[h2];simp
                 refine close (C2.nextLag hik hiR2 hil2 hA hanc2 hfeed2 h2 h3 h4 h5 hlt ⟨⟨x,cs,e,k,mk,cs',frz,sz,v',hop,hw,hp2,hk,hsz,hb,h6,h7,h8,h9,h10,fun t ht=> ?_⟩,C2.sim.base,C2.evo.size,fun z hz=> ?_⟩) fun j=> ?_
                 ·rw[ht]
                  have:t<a.tmps.size:=Nat.lt_of_lt_of_le (hlt t ht) C2.size
                  simp[Act.put,this]
                 ·have:=(owns_ge C2.sim hz).2;omega
                 ·unfold Ex
                  constructor
                  ·rintro(g | ⟨q,q1,q2⟩)
                   ·exact .inr ((hE2 j).1 (.inl g))
                   ·rcases List.mem_cons.1 q1 with rfl | q1
                    ·exact .inl q2.symm
                    ·exact .inr ((hE2 j).1 (.inr ⟨q,q1,q2⟩))
                  ·rintro(e | g)
                   ·exact .inr ⟨_,List.mem_cons_self ..,e.symm⟩
                   ·rcases(hE2 j).2 g with g | ⟨q,q1,q2⟩
                    ·exact .inl g
                    ·exact .inr ⟨q,List.mem_cons_of_mem _ q1,q2⟩
           | _=>rw[hop] at hA;cases hA
theorem Core.all : ∀(R:List Nat) {β:Nat→Ent} {fr:Fr} {H:CH} {lag:List (Nat×Nat)} {l:List CH} {m:Nat} {a:Act} {w:World} (C:Core S B h β0 w0 fr' H' β fr H R lag l m a w),(∀x∈R,∃q∈lag,q.1=x)→
 ∃β2,Sim P B β2 H' w∧Evo β0 w0 β2 w∧FR β2 N fr' a
 | [],β,fr,H,lag,l,m,a,w,C,_=>by
   have hrun:=C.run
   simp only[List.map_nil,runD,Option.some.injEq,Prod.mk.injEq] at hrun
   obtain⟨rfl,rfl,_⟩:=hrun
   refine⟨β,C.sim,C.evo,C.size,fun t=> ?_⟩
   rcases C.fr t with ⟨p,hp,_⟩ | g
   ·have:=(C.lagR p hp).1;cases this
   ·exact g
 | x::R,β,fr,H,lag,l,m,a,w,C,hx=>by
   obtain⟨⟨x',b⟩,hq,rfl⟩:=hx x (List.mem_cons_self ..)
   have C':Core S B h β0 w0 fr' H' β fr H ([]++x'::R) lag l m a w:=C
   obtain⟨β2,fr2,H2,lag2,C2,hm,_⟩:=C'.catch hq (fun z hz=>by cases hz)
   have hnm:=C'.notmem
   exact Core.all R C2 fun z hz=>by
    obtain⟨q,q1,q2⟩:=hx z (List.mem_cons_of_mem _ hz)
    exact⟨q,(hm q).2 ⟨q1,fun e=>hnm (by rw[←e,q2];simpa using hz)⟩,q2⟩
def cnt (k:Nat)(listed:Array Bool):Nat:=((List.range k).filter fun j=> !listed.getD j false).length
theorem cnt_set{listed:Array Bool}{i:Nat}(hi:i<ops.size)(hs:listed.size=ops.size)(hu:listed.getD i false=false):cnt ops.size (listed.setIfInBounds i true)<cnt ops.size listed:=by
 unfold cnt
 have:(List.range ops.size).filter (fun j=> !(listed.setIfInBounds i true).getD j false)=((List.range ops.size).filter fun j=> !listed.getD j false).filter (fun j=>decide (j≠i)):=by
  rw[List.filter_filter]
  apply List.filter_congr
  intro j hj
  by_cases e:j=i
  ·subst e
   have:(listed.setIfInBounds j true).getD j false=true:=getD_set.2 (.inl ⟨rfl,by omega⟩)
   simp[this]
  ·have:(listed.setIfInBounds i true).getD j false=listed.getD j false:=by
    cases hb:listed.getD j false with
    | true=>exact getD_set.2 (.inr hb)
    | false=>
      cases hc:(listed.setIfInBounds i true).getD j false with
      | false=>rfl
      | true=>
        rcases getD_set.1 hc with ⟨g,_⟩ | g
        ·exact absurd g e
        ·rw[hb] at g;cases g
   simp[this,e]
 rw[this]
 exact List.length_filter_lt_length_iff_exists.2 ⟨i,by simp[hi];exact by simpa using hu,by simp⟩
theorem Inv.sound(hh:HS P B h){ro:Option Nat}{df:List Deferred}{Q:Exit→Act→World→Prop}(hQ : ∀β' w' a',Sim P B β' H' w'→Evo β0 w0 β' w'→FR β' N fr' a'→a'.defers=df→Q .normal a' w') : ∀(fuel:Nat) (listed:Array Bool) (a:Act) (w:World),
 cnt ops.size listed≤fuel→Inv S B h β0 w0 fr' H' df listed a w→wpAnyIn (Fn ro) 0 P .any ops Q fuel listed a w:=by
 have hdone : ∀(listed:Array Bool) (a:Act) (w:World),Inv S B h β0 w0 fr' H' df listed a w→(∀j,j<ops.size→listed.getD j false=true)→Q .normal a w:=by
  intro listed a w I hall
  obtain⟨β,fr,H,R,lag,l,m,C,hex⟩:=I.core
  obtain⟨β2,h1,h2,h3⟩:=Core.all R C fun x hx=>by
   rcases(hex x (C.lt x hx)).1 (hall x (C.lt x hx)) with g | g
   ·exact absurd hx g
   ·exact g
  exact hQ β2 w a h1 h2 h3 I.defers
 have hready : ∀(listed:Array Bool),listed.size=ops.size→Region.ready .any ops listed= []→∀j,j<ops.size→listed.getD j false=true:=by
  intro listed hs hr j hj
  apply Classical.byContradiction
  intro hn
  have : ∃p,∃j,j<ops.size∧¬listed.getD j false=true∧S.pos j=p:=⟨_,j,hj,hn,rfl⟩
  obtain⟨p,⟨x,x1,x2,x3⟩,hmin⟩:=least_ex this
  have hx:x∈Region.ready .any ops listed:=by
   unfold Region.ready
   refine List.mem_filter.2 ⟨List.mem_range.2 x1,?_⟩
   have hxs:x<listed.size:=by omega
   have hf:listed.getD x true=false:=by
    simp only[Array.getD_eq_getD_getElem?,Array.getElem?_eq_getElem hxs,Option.getD_some] at x2⊢
    simpa using x2
   rw[hf]
   simp only[Bool.not_false,Bool.true_and]
   rw[Array.getElem?_eq_getElem x1]
   simp only[Option.map_some,Option.getD_some]
   rw[Array.all_eq_true_iff_forall_mem]
   intro e he
   cases hb:Region.binds .any e with
   | false=>rfl
   | true=>
     simp only[Bool.not_true,Bool.false_or]
     obtain⟨q1,q2⟩:=S.ancp x e.on x1 (.edge (Array.getElem?_eq_getElem x1) (by simpa using he) hb)
     apply Classical.byContradiction
     intro g
     have:=hmin _ ⟨e.on,q1,g,rfl⟩
     omega
  rw[hr] at hx
  cases hx
 intro fuel
 induction fuel with
 | zero=>
   intro listed a w hc I
   have hz:cnt ops.size listed=0:=by omega
   have hall : ∀j,j<ops.size→listed.getD j false=true:=fun j hj=>by
    unfold cnt at hz
    have:=List.length_eq_zero_iff.1 hz
    rw[List.filter_eq_nil_iff] at this
    simpa using this j (List.mem_range.2 hj)
   refine⟨?_,hdone listed a w I hall⟩
   apply List.eq_nil_iff_forall_not_mem.2
   intro x hx
   obtain⟨h1,h2,_⟩:=ready_spec hx
   have:=hall x h1
   have hxs:x<listed.size:=by rw[I.size];exact h1
   simp only[Array.getD_eq_getD_getElem?,Array.getElem?_eq_getElem hxs,Option.getD_some] at h2 this
   rw[this] at h2;cases h2
 | succ fuel ih=>
   intro listed a w hc I
   refine⟨fun hr=>hdone listed a w I (hready listed I.size hr),fun i hi=>I.step hh hi fun a' w' I'=>ih _ a' w' ?_ I'⟩
   obtain⟨h1,h2,_⟩:=ready_spec hi
   have hxs:i<listed.size:=by rw[I.size];exact h1
   have:listed.getD i false=false:=by
    simp only[Array.getD_eq_getD_getElem?,Array.getElem?_eq_getElem hxs,Option.getD_some] at h2⊢
    exact h2
   have:=cnt_set h1 I.size this
   omega
end
theorem runI_split{h:Hd} : ∀ {R S:List Item} {fr fr2:Fr} {H H2:CH},runI h (R++S) fr H=some (fr2,H2)→∃fr1 H1,runI h R fr H=some (fr1,H1)∧runI h S fr1 H1=some (fr2,H2)
 | [],S,fr,fr2,H,H2,hr=>⟨fr,H,rfl,hr⟩
 | x::R,S,fr,fr2,H,H2,hr=>by
   simp only[List.cons_append,runI] at hr
   cases hs:stepI h x fr H with
   | none=>rw[hs] at hr;cases hr
   | some q=>
     rw[hs] at hr
     obtain⟨fr1,H1,h1,h2⟩:=runI_split hr
     exact⟨fr1,H1,by simp only[runI,hs];exact h1,h2⟩
theorem runI_glue{h:Hd} : ∀ {R S:List Item} {fr fr1 fr2:Fr} {H H1 H2:CH},runI h R fr H=some (fr1,H1)→runI h S fr1 H1=some (fr2,H2)→runI h (R++S) fr H=some (fr2,H2)
 | [],S,fr,fr1,fr2,H,H1,H2,h1,h2=>by simp only[runI,Option.some.injEq,Prod.mk.injEq] at h1;obtain⟨rfl,rfl⟩:=h1;exact h2
 | x::R,S,fr,fr1,fr2,H,H1,H2,h1,h2=>by
   simp only[List.cons_append,runI] at h1⊢
   cases hs:stepI h x fr H with
   | none=>rw[hs] at h1;cases h1
   | some q=>rw[hs] at h1;exact runI_glue h1 h2
theorem runI_stay{h:Hd}{t:Nat} : ∀ {R:List Item} {fr fr1:Fr} {H H1:CH},(∀x∈R,x.dst≠some t)→runI h R fr H=some (fr1,H1)→fr1 t=fr t
 | [],fr,fr1,H,H1,_,hr=>by simp only[runI,Option.some.injEq,Prod.mk.injEq] at hr;obtain⟨rfl,rfl⟩:=hr;rfl
 | x::R,fr,fr1,H,H1,hx,hr=>by
   simp only[runI] at hr
   cases hs:stepI h x fr H with
   | none=>rw[hs] at hr;cases hr
   | some q=>
     obtain⟨f,K⟩:=q
     rw[hs] at hr
     obtain⟨u,rfl,_⟩:=stepI_agree (fr2:=fr) (fun t _=>rfl) hs
     rw[runI_stay (fun y hy=>hx y (List.mem_cons_of_mem _ hy)) hr,putF_other (hx x (List.mem_cons_self ..))]
theorem hush_dst{it:Item}:(hush it).dst=it.dst:=by unfold hush;split<;>rfl
theorem hush_guard{it:Item}:(hush it).guard=it.guard:=by unfold hush;split<;>rfl
theorem hush_uses{it:Item}{t:Nat}(h:t∈(hush it).uses):t∈it.uses:=by
 unfold hush at h
 split at h
 ·simp only[Item.uses,List.mem_append] at h⊢
  rcases h with h | h
  ·simp[ROp.opnds,POp.opnds,slotsOf] at h
  ·exact .inr h
 ·exact h
theorem hush_q{it:Item}(h:isQ it.op=true):hush it=it:=by
 unfold hush
 split
 ·rename_i e;rw[e] at h;cases h
 ·rfl
theorem item_hush{N:Nat}{ops:Array Oper}{ro:Option Nat}{o:Oper}{it:Item}(hok:ItemOk P N ops o it){β:Nat→Ent}{fr:Fr}{H:CH}{a:Act}{w:World}(hS:Sim P B β H w)(hf:FR β N fr a){e:TypeId}{z:List Value}(hop:it.op= .a (.new e z)){K:Act→World→Prop}{Q:Exit→Act→World→Prop}
 (hK : ∀w' v',Sim P B β H w'→Evo β w β w'→FR β N (putF fr it.dst undef) (a.put o.dst v')→K (a.put o.dst v') w'):o.wpIn (Fn ro) 0 P a w K Q:=by
 refine⟨fun f _=>trivial,?_⟩
 rw[show(Fn ro).round=ro from rfl,Oper.semAt_eq ro _ _ hok.nodefer]
 have hv : ∀x∈o.op.operands,VR β (evF fr x) (a.eval x):=fun x hx=>evF_rel hf (hok.opnds x hx)
 have hd : ∀x,it.dst=some x→x<N:=fun x hx=>hok.lt x (by rw[←hok.dst];exact hx)
 have h:=hok.op
 rw[hop] at h
 cases h with
 | a ha=>
   obtain⟨hk,sz,hsz,hrun⟩:=ha β _ _ o z e .ex .ptr rfl hv rfl
   obtain⟨cs',frz,w',v',h1,h2,h3,h4,h5,_⟩:=hrun w
   have hS':=hS.push h2
   have hE':Evo β w β w':=⟨h3,h4,h5,by rw[h2];simp,fun b hb ho=>⟨by rw[h2,Array.getElem?_push,if_neg (by omega)],ho⟩,EntExt.refl β⟩
   rw[h1]
   exact hK w' v' hS' hE' (by rw[←hok.dst];exact hf.put hd (.undef _))
theorem stepI_quiet{h:Hd}{x:Item}(hq:isQ x.op=true){fr fr1:Fr}{H H1:CH}(hs:stepI h x fr H=some (fr1,H1)):H1=H:=by
 simp only[stepI] at hs
 split at hs
 ·cases hop:x.op with
  | p y=>rw[hop] at hs;simp only[rop] at hs;cases hp:pop (evF fr) y<;>rw[hp] at hs<;>simp at hs;exact hs.2.symm
  | l y=>rw[hop] at hs;simp only[rop] at hs;cases hp:lop H (evF fr) y<;>rw[hp] at hs<;>simp at hs;exact hs.2.symm
  | _=>rw[hop] at hq;cases hq
 ·cases hs;rfl
 ·cases hs
theorem runI_calm{h:Hd} : ∀ {R:List Item} {fr fr1:Fr} {H H1:CH},(∀x∈R,isQ x.op=true)→runI h R fr H=some (fr1,H1)→H1=H
 | [],fr,fr1,H,H1,_,hr=>by simp only[runI,Option.some.injEq,Prod.mk.injEq] at hr;exact hr.2.symm
 | x::R,fr,fr1,H,H1,hx,hr=>by
   simp only[runI] at hr
   cases hs:stepI h x fr H with
   | none=>rw[hs] at hr;cases hr
   | some q=>
     obtain⟨f,K⟩:=q
     rw[hs] at hr
     rw[runI_calm (fun y hy=>hx y (List.mem_cons_of_mem _ hy)) hr,stepI_quiet (hx x (List.mem_cons_self ..)) hs]
section
variable {N:Nat} {ops:Array Oper} {d:DReg} {S:DS P N ops d} {h:Hd} {β0:Nat→Ent} {w0:World} {H:CH} {TA:List Nat}
open Classical in
noncomputable def frL(S:DS P N ops d)(TA:List Nat)(listed:Array Bool)(fr f1:Fr):Fr:=fun t=>if ∃j∈TA,listed.getD j false=true∧(S.its j).dst=some t then f1 t else fr t
structure PInv(S:DS P N ops d)(B:Nat)(β0:Nat→Ent)(w0:World)(H:CH)(TA:List Nat)(fr f1:Fr)(df:List Deferred)(listed:Array Bool)(a:Act)(w:World):Prop where
 core : ∃β,Sim P B β H w∧Evo β0 w0 β w∧FR β N (frL S TA listed fr f1) a
 dc:DC ops listed
 size:listed.size=ops.size
 defers:a.defers=df
theorem ready_all(listed:Array Bool)(hs:listed.size=ops.size)(S:DS P N ops d)(hr:Region.ready .any ops listed= []) : ∀j,j<ops.size→listed.getD j false=true:=by
 intro j hj
 apply Classical.byContradiction
 intro hn
 have : ∃p,∃j,j<ops.size∧¬listed.getD j false=true∧S.pos j=p:=⟨_,j,hj,hn,rfl⟩
 obtain⟨p,⟨x,x1,x2,x3⟩,hmin⟩:=least_ex this
 have hx:x∈Region.ready .any ops listed:=by
  unfold Region.ready
  refine List.mem_filter.2 ⟨List.mem_range.2 x1,?_⟩
  have hxs:x<listed.size:=by omega
  have hf:listed.getD x true=false:=by
   simp only[Array.getD_eq_getD_getElem?,Array.getElem?_eq_getElem hxs,Option.getD_some] at x2⊢
   simpa using x2
  rw[hf]
  simp only[Bool.not_false,Bool.true_and]
  rw[Array.getElem?_eq_getElem x1]
  simp only[Option.map_some,Option.getD_some]
  rw[Array.all_eq_true_iff_forall_mem]
  intro e he
  cases hb:Region.binds .any e with
  | false=>rfl
  | true=>
    simp only[Bool.not_true,Bool.false_or]
    obtain⟨q1,q2⟩:=S.ancp x e.on x1 (.edge (Array.getElem?_eq_getElem x1) (by simpa using he) hb)
    apply Classical.byContradiction
    intro g
    have:=hmin _ ⟨e.on,q1,g,rfl⟩
    omega
 rw[hr] at hx
 cases hx
theorem PInv.sound(hh:HS P B h){ro:Option Nat}{df:List Deferred}{Q:Exit→Act→World→Prop}{fr f1:Fr}{k:Nat}{f:FuncId}{args:List Operand}{v:Value}{H':CH}(hks:k<ops.size)(hTA : ∀j∈TA,j<ops.size)(hsrt:TA.Pairwise (fun a b=>S.pos a<S.pos b))(hA : ∀x∈TA,isQ (hush (S.its x)).op=true)(hk:(S.its k).op= .call f args)(hall : ∀b,b<ops.size→b∈TA∨b=k∨Anc ops b k)
 (hfeed : ∀j∈TA,∀t,(S.its j).dst=some t→t∈(S.its k).uses→Anc ops k j) (hrun:runI h (TA.map fun i=>hush (S.its i)) fr H=some (f1,H)) (hw:wantedF f1 (S.its k).guard=some true) (hp:PanC P B f (args.map (evF f1)) H v H')
 (hQ : ∀β' w' a' v',Sim P B β' H' w'→Evo β0 w0 β' w'→VR β' v v'→a'.defers=df→(∀t,(∀j∈TA,(S.its j).dst≠some t)→VR β' (fr t) (a'.tmps.getD t undef))→Q (.panic [{ v:=v',recovered:=false }]) a' w') : ∀(fuel:Nat) (listed:Array Bool) (a:Act) (w:World),
 cnt ops.size listed≤fuel→listed.getD k false=false→PInv S B β0 w0 H TA fr f1 df listed a w→wpAnyIn (Fn ro) 0 P .any ops Q fuel listed a w:=by
 have hkW:isW (S.its k).op=true:=by rw[hk];rfl
 have hfull : ∀listed:Array Bool,listed.size=ops.size→listed.getD k false=false→Region.ready .any ops listed= []→False:=fun listed hs hl hr=>by
  have:=ready_all listed hs S hr k hks
  rw[hl] at this;cases this
 intro fuel
 induction fuel with
 | zero=>
   intro listed a w hc hl I
   have hz:cnt ops.size listed=0:=by omega
   unfold cnt at hz
   have:=List.length_eq_zero_iff.1 hz
   rw[List.filter_eq_nil_iff] at this
   have:=this k (List.mem_range.2 hks)
   rw[hl] at this
   exact absurd rfl this
 | succ fuel ih=>
   intro listed a w hc hl I
   refine⟨fun hr=>(hfull listed I.size hl hr).elim,fun i hi=> ?_⟩
   obtain⟨hik,hun,hedge⟩:=ready_spec hi
   obtain⟨β,hS,hE,hf⟩:=I.core
   have hxs:i<listed.size:=by rw[I.size];exact hik
   have hif:listed.getD i false=false:=by
    simp only[Array.getD_eq_getD_getElem?,Array.getElem?_eq_getElem hxs,Option.getD_some] at hun⊢
    exact hun
   have hancl : ∀j,Anc ops i j→listed.getD j false=true:=fun j hj=>anc_ready I.dc hj hedge
   obtain⟨o,ho⟩ : ∃o,ops[i]? = some o:=⟨ops[i],by simp[hik]⟩
   have hok:=S.ok i o ho
   have hcnt:=cnt_set hik I.size hif
   rcases hall i hik with him | him | him
   ·
    obtain⟨A1,A2,hA12⟩:=List.append_of_mem him
    have hne:i≠k:=fun e=>by have:=hA i him;rw[e] at this;unfold hush at this;rw[hk] at this;simp only[hk] at this;cases this
    have hrun':=hrun
    rw[hA12,List.map_append,List.map_cons] at hrun'
    obtain⟨g,Hg,r1,r2⟩:=runI_split hrun'
    have hsub1 : ∀x∈A1,x∈TA:=fun x hx=>by rw[hA12];simp[hx]
    have hsub2 : ∀x∈A2,x∈TA:=fun x hx=>by rw[hA12];simp[hx]
    have hHg:Hg=H:=runI_calm (fun x hx=>by obtain⟨z,hz,rfl⟩:=List.mem_map.1 hx;exact hA z (hsub1 z hz)) r1
    subst hHg
    have hsA:=hsrt
    rw[hA12] at hsA
    obtain⟨u1,u2,u3⟩:=pw_mem hsA
    simp only[runI] at r2
    cases hs:stepI h (hush (S.its i)) g Hg with
    | none=>rw[hs] at r2;cases r2
    | some q=>
      obtain⟨gf,K⟩:=q
      rw[hs] at r2
      simp only at r2
      have hK:=stepI_quiet (hA i him) hs
      subst hK
      obtain⟨u,rfl,_⟩:=stepI_agree (fr2:=g) (fun t _=>rfl) hs
      have hag : ∀t∈(hush (S.its i)).uses,g t=frL S TA listed fr f1 t:=fun t htu=>by
       have htu:=hush_uses htu
       unfold frL
       split
       ·rename_i hex
        obtain⟨j,j1,j2,j3⟩:=hex
        have hji:j≠i:=fun e=>by rw[e,hif] at j2;cases j2
        have hjl:=hTA j j1
        rcases S.d2 j i t hjl hik hji j3 htu with q | ⟨q,_⟩
        ·have hpos:=(S.ancp _ _ hik q).2
         have e1:f1 t=putF g (hush (S.its i)).dst u t:=runI_stay (fun y hy e=>by
          obtain⟨z,hz,rfl⟩:=List.mem_map.1 hy
          rw[hush_dst] at e
          have hzl:=hTA z (hsub2 z hz)
          have:=S.dd j z t hjl hzl j3 e
          subst this
          have:=u2 j hz;omega) r2
         rw[e1,hush_dst,putF_other fun e=>hji (S.dd j i t hjl hik j3 e)]
        ·have:=I.dc j i j2 q
         rw[hif] at this;cases this
       ·rename_i hn
        refine runI_stay (fun y hy e=> ?_) r1
        obtain⟨z,hz,rfl⟩:=List.mem_map.1 hy
        rw[hush_dst] at e
        have hzl:=hTA z (hsub1 z hz)
        have hzi:z≠i:=fun e'=>by have:=u1 z hz;rw[e'] at this;omega
        rcases S.d2 z i t hzl hik hzi e htu with q | ⟨q,_⟩
        ·exact hn ⟨z,hsub1 z hz,hancl z q,e⟩
        ·have:=(S.ancp _ _ hzl q).2
         have:=u1 z hz;omega
      obtain⟨v1,e1,hst⟩:=stepI_agree (fr2:=frL S TA listed fr f1) hag hs
      have hf1 : ∀t,(S.its i).dst=some t→f1 t=v1:=fun t hd=>by
       rw[runI_stay (t:=t) (fun y hy e=>by
        obtain⟨z,hz,rfl⟩:=List.mem_map.1 hy
        rw[hush_dst] at e
        have:=S.dd i z t hik (hTA z (hsub2 z hz)) hd e
        subst this
        have:=u2 i hz;omega) r2,e1,hush_dst,hd]
       simp[putF]
      have hnew:frL S TA (listed.setIfInBounds i true) fr f1=putF (frL S TA listed fr f1) (S.its i).dst v1:=by
       funext t
       by_cases hd:(S.its i).dst=some t
       ·rw[hd]
        simp only[putF,if_true]
        unfold frL
        rw[if_pos ⟨i,him,getD_set.2 (.inl ⟨rfl,hxs⟩),hd⟩]
        exact hf1 t hd
       ·rw[putF_other hd]
        unfold frL
        have:(∃j∈TA,(listed.setIfInBounds i true).getD j false=true∧(S.its j).dst=some t)↔∃j∈TA,listed.getD j false=true∧(S.its j).dst=some t:=by
         constructor
         ·rintro⟨j,j1,j2,j3⟩
          rcases getD_set.1 j2 with ⟨e,_⟩ | e
          ·subst e;exact absurd j3 hd
          ·exact⟨j,j1,e,j3⟩
         ·rintro⟨j,j1,j2,j3⟩
          exact⟨j,j1,getD_set.2 (.inr j2),j3⟩
        simp only[this]
      have hlk:(listed.setIfInBounds i true).getD k false=false:=by
       cases hb:(listed.setIfInBounds i true).getD k false with
       | false=>rfl
       | true=>
         rcases getD_set.1 hb with ⟨e,_⟩ | e
         ·exact absurd e.symm hne
         ·rw[hl] at e;cases e
      have hdef : ∀v',(a.put o.dst v').defers=df:=fun v'=>by rw[←I.defers];cases o.dst<;>rfl
      have next : ∀β' w' v',Sim P B β' K w'→Evo β w β' w'→FR β' N (putF (frL S TA listed fr f1) (S.its i).dst v1) (a.put o.dst v')→wpAnyIn (Fn ro) 0 P .any ops Q fuel (listed.setIfInBounds i true) (a.put o.dst v') w':=fun β' w' v' q1 q2 q3=>
       ih _ _ _ (by omega) hlk ⟨⟨β',q1,hE.trans q2,by rw[hnew];exact q3⟩,dc_set I.dc hi,by simp[I.size],hdef v'⟩
      have hst':=hst
      simp only[stepI] at hst'
      rw[hush_guard] at hst'
      cases hwf:wantedF (frL S TA listed fr f1) (S.its i).guard with
      | none=>rw[hwf] at hst';cases hst'
      | some b=>
        have hwr:=wanted_rel hok hf hwf
        rw[hwf] at hst'
        cases b with
        | true=>
          refine wpOpIn_some ho (fun _=>trivial) (fun _=> ?_) (fun g=>by rw[hwr] at g;cases g)
          cases hq:isQ (S.its i).op with
          | true=>
            rw[hush_q hq] at hst'
            exact item_sound hh hok hS hf hwf hst' fun β' w' v' q1 q2 q3=>next β' w' v' q1 q2 q3
          | false=>
            obtain⟨e,z,hop⟩ : ∃e z,(S.its i).op= .a (.new e z):=by
             have h2:=hA i him
             unfold hush at h2
             split at h2
             ·rename_i e z h3;exact⟨e,z,h3⟩
             ·rw[hq] at h2;cases h2
            have hh1:(hush (S.its i)).op= .p (.mov (.const undef)):=by unfold hush;rw[hop]
            have heq:putF (frL S TA listed fr f1) (S.its i).dst undef=putF (frL S TA listed fr f1) (S.its i).dst v1:=by
             rw[hh1,hush_dst] at hst'
             simp only[rop,pop,Option.map_some,Option.some.injEq,Prod.mk.injEq] at hst'
             exact hst'.1
            rw[←heq] at next
            exact item_hush hok hS hf hop fun w' v' q1 q2 q3=>next β w' v' q1 q2 q3
        | false=>
          refine wpOpIn_some ho (fun _=>trivial) (fun g=>by rw[hwr] at g;cases g) (fun _=> ?_)
          simp only[Option.some.injEq,Prod.mk.injEq] at hst'
          refine next β w undef hS (Evo.refl β w) ?_
          rw[hush_dst] at hst'
          rw[←hst'.1,←hok.dst]
          exact hf.put (fun x hx=>hok.lt x (by rw[←hok.dst];exact hx)) .skip
   ·
    subst him
    have hfe : ∀t∈(S.its i).uses,f1 t=frL S TA listed fr f1 t:=fun t htu=>by
     unfold frL
     split
     ·rfl
     ·rename_i hn
      refine runI_stay (fun y hy e=> ?_) hrun
      obtain⟨z,hz,rfl⟩:=List.mem_map.1 hy
      rw[hush_dst] at e
      exact hn ⟨z,hz,hancl z (hfeed z hz t e htu),e⟩
    rw[wanted_agree hfe] at hw
    have hp2:args.map (evF f1)=args.map (evF (frL S TA listed fr f1)):=List.map_congr_left fun x hx=>evF_agree (l:=args) (fun t ht=>hfe t (by simp only[Item.uses,hk,ROp.opnds,List.mem_append];exact .inl ht)) x hx
    rw[hp2] at hp
    have hst : ∀t,(∀j∈TA,(S.its j).dst≠some t)→frL S TA listed fr f1 t=fr t:=fun t ht=>by
     unfold frL
     rw[if_neg]
     rintro⟨j,j1,_,j3⟩
     exact ht j j1 j3
    generalize frL S TA listed fr f1=f1' at hf hw hp hst
    refine wpOpIn_some ho (fun _=>trivial) (fun _=> ?_) (fun g=>by rw[wanted_rel hok hf hw] at g;cases g)
    refine⟨fun f _=>trivial,?_⟩
    rw[show(Fn ro).round=ro from rfl,Oper.semAt_eq ro _ _ hok.nodefer]
    have hop:=hok.op
    rw[hk] at hop
    generalize hio:o.op=io at hop
    cases hop with
    | @call f args ts he=>
      rw[he] at hio
      have hv : ∀x∈o.op.operands,VR β (evF f1' x) (a.eval x):=fun x hx=>evF_rel hf (hok.opnds x hx)
      have hargs:VRs β (args.toList.map (evF f1')) (args.toList.map a.eval):=by
       refine⟨by simp,fun j u hu=> ?_⟩
       rw[List.getElem?_map] at hu⊢
       cases hx:args.toList[j]? with
       | none=>rw[hx] at hu;cases hu
       | some x=>
         rw[hx] at hu;cases hu
         exact⟨_,rfl,hv x (by rw[hio];simp[Op.operands,Call.operands];exact .inr (by have:=List.mem_of_getElem? hx;simpa using this))⟩
      have hrun2:(execOp a.eval o).run P w= .ok (.enter f (args.map a.eval)) w:=by
       simp only[execOp,hio,resolve,Act.eval,Deferred.ofValue,Sem.run_bind,Sem.run_pure,Result.andThen_ok,invoke]
       rw[run_callFunc hp.1]
       simp
      rw[hrun2]
      refine⟨fun h=>absurd h (by simp[Fn,Fence.wide]),callsIn_Fn ?_⟩
      have:=hp.2 β w _ hS hargs
      have e1:(args.toList.map a.eval).toArray=args.map a.eval:=by apply Array.ext';simp
      rw[e1] at this
      refine this.mono ?_
      rintro e w' ⟨v',β',rfl,g1,g2,g3⟩
      exact hQ β' w' _ v' g2 (hE.trans g3) g1 I.defers fun t ht=>by
       rw[←hst t ht]
       exact(hf.2 t).mono g3.ext
   ·have:=hancl k him
    rw[hl] at this;cases this
end
theorem dok_of0{N:Nat}{ops:Array Oper}{d:DReg}(S:DS P N ops d)(hm:P.follows .mixedOrders=true):DOk P N ops d:=by
 intro B h ro β fr fr' H H' a w id Q hh hS hf hr hQ
 refine wpIn_region_any hm ?_
 unfold evD at hr
 cases hrun:runD h d.its fr H with
 | none=>rw[hrun] at hr;cases hr
 | some q=>
   obtain⟨f,K,l⟩:=q
   rw[hrun] at hr
   simp only at hr
   split at hr
   rotate_left
   ·cases hr
   rename_i hchk
   simp only[Option.some.injEq,Prod.mk.injEq] at hr
   obtain⟨rfl,rfl⟩:=hr
   obtain⟨hS',hE'⟩:=hS.drew
   refine Inv.sound (S:=S) (β0:=β) (w0:=w) (fr':=f) (H':=K) hh (df:=a.defers) hQ ops.size _ a _ ?_ ⟨⟨β,fr,H,S.tau,[],l,0,?_,fun j hj=> ?_⟩,fun i j hij _=> ?_,by simp,rfl⟩
   ·unfold cnt
    exact Nat.le_trans (List.length_filter_le _ _) (by simp)
   ·refine⟨fun i hi=>(S.mem i).1 hi,S.srt,fun p hp=>(by cases hp),fun p hp=>(by cases hp),List.Pairwise.nil,fun p hp=>(by cases hp),fun p hp=>(by cases hp),by rw[←S.hits];exact hrun,hS',hE',hf.1,fun t=> .inr (hf.2 t),fun x hx hxW=> ?_,fun q hq=>absurd hq (Nat.not_lt_zero _),fun y hy hyW hyR=>absurd ((S.mem y).2 hy) hyR,fun r hr s hs _ _ _=> ?_⟩
    ·exact⟨fun g=>absurd ((S.mem x).2 hx) g,fun g=>absurd g (Nat.not_lt_zero _)⟩
    ·obtain⟨G,g1,g2⟩:=hchk _ hs
     exact⟨G,by simpa using g1,g2⟩
   ·unfold Ex
    have:(Array.replicate ops.size false).getD j false=false:=by simp[Array.getD_eq_getD_getElem?,hj]
    rw[this]
    constructor
    ·intro g;cases g
    ·rintro(g | ⟨q,hq,_⟩)
     ·exact absurd ((S.mem j).2 hj) g
     ·cases hq
   ·rename_i hi'
    by_cases hi:i<ops.size
    ·simp[Array.getD_eq_getD_getElem?,hi] at hij
    ·simp[Array.getD_eq_getD_getElem?,hi] at hij
theorem pdok_of{N:Nat}{ops:Array Oper}{d:DReg}(S:DS P N ops d)(hm:P.follows .mixedOrders=true)(hpan:S.Pan):PDOk P N ops d:=by
 intro Zl hd B h ro β fr fr1 H H1 H' v A k R f args a w id Q hh hS hf hits hA hk hrun ⟨⟨fr2,H2⟩,hz⟩ hw hp hQ
 have hH1:=runI_calm hA hrun
 subst hH1
 rw[S.hits] at hits
 obtain⟨TA,T2,ht,hTA,h2⟩:=List.map_eq_append_iff.1 hits
 obtain⟨k',TR,hk2,hk',_⟩:=List.map_eq_cons_iff.1 h2
 subst hk2 hk' hTA
 have hAq : ∀x∈TA,isQ (S.its x).op=true:=fun x hx=>hA _ (List.mem_map.2 ⟨x,hx,rfl⟩)
 obtain⟨TZ,rfl,hsub,hzq,hzall⟩:=hpan Zl hd TA k' TR ht hAq (by rw[hk];rfl)
 have hH2:=runI_calm (fun x hx=>by obtain⟨z,hz,rfl⟩:=List.mem_map.1 hx;exact(hzq z hz).1) hz
 subst hH2
 have hks:k'<ops.size:=(S.mem k').1 (by rw[ht];simp)
 have hsrt:=S.srt
 rw[ht] at hsrt
 obtain⟨p1,p2,p3⟩:=pw_mem hsrt
 have hkz : ∀t∈(S.its k').uses,fr1 t=fr2 t:=fun t htu=>(runI_stay (fun y hy e=>by
  obtain⟨z,hz,rfl⟩:=List.mem_map.1 hy
  rw[hush_dst] at e
  exact(hzq z hz).2 t e htu) hz).symm
 have hp2:args.map (evF fr1)=args.map (evF fr2):=List.map_congr_left fun x hx=>evF_agree (l:=args) (fun t ht=>hkz t (by simp only[Item.uses,hk,ROp.opnds,List.mem_append];exact .inl ht)) x hx
 rw[hp2] at hp
 rw[wanted_agree hkz] at hw
 have hlt : ∀j∈TA++TZ,j<ops.size:=fun j hj=>(S.mem j).1 (by
  rw[ht]
  rcases List.mem_append.1 hj with hj | hj
  ·simp[hj]
  ·simp[hsub.subset hj])
 refine wpIn_region_any hm ?_
 obtain⟨hS',hE'⟩:=hS.drew
 refine PInv.sound (S:=S) (β0:=β) (w0:=w) (TA:=TA++TZ) (fr:=fr) (f1:=fr2) hh (df:=a.defers) hks hlt ?_ (fun x hx=> ?_) hk (fun b hb=> ?_) (fun j hj t h1 h2=> ?_) ?_ hw hp (fun β' w' a' v' q1 q2 q3 q4 q5=>hQ β' w' a' v' q1 q2 q3 q4 fun t ht=>q5 t fun j hj=>ht _ (by rw[S.hits];exact List.mem_map.2 ⟨j,(S.mem j).2 (hlt j hj),rfl⟩)) ops.size _ a _ ?_ ?_ ⟨⟨β,hS',hE',?_⟩,fun i j hij _=> ?_,by simp,rfl⟩
 ·rw[List.pairwise_append] at p3⊢
  exact⟨p3.1,p3.2.1.sublist hsub,fun x hx y hy=>p3.2.2 x hx y (hsub.subset hy)⟩
 ·rcases List.mem_append.1 hx with hx | hx
  ·rw[hush_q (hAq x hx)];exact hAq x hx
  ·exact(hzq x hx).1
 ·have:=(S.mem b).2 hb
  rw[ht] at this
  rcases List.mem_append.1 this with g | g
  ·exact .inl (List.mem_append_left _ g)
  ·rcases List.mem_cons.1 g with g | g
   ·exact .inr (.inl g)
   ·rcases hzall b g with g | g
    ·exact .inl (List.mem_append_right _ g)
    ·exact .inr (.inr g)
 ·rcases List.mem_append.1 hj with hj | hj
  ·exact S.d4 j k' (hlt j (List.mem_append_left _ hj)) hks (by rw[hk];rfl) (p1 j hj)
  ·exact absurd h2 ((hzq j hj).2 t h1)
 ·rw[List.map_append]
  refine runI_glue (R:=TA.map fun i=>hush (S.its i)) ?_ hz
  rw[List.map_congr_left (g:=S.its) fun x hx=>hush_q (hAq x hx)]
  exact hrun
 ·unfold cnt
  exact Nat.le_trans (List.length_filter_le _ _) (by simp)
 ·simp[Array.getD_eq_getD_getElem?,hks]
 ·have:frL S (TA++TZ) (Array.replicate ops.size false) fr fr2=fr:=by
   funext t
   unfold frL
   rw[if_neg]
   rintro⟨j,j1,j2,j3⟩
   have hj:=hlt j j1
   simp[Array.getD_eq_getD_getElem?,hj] at j2
  rw[this];exact hf
 ·by_cases hi:i<ops.size
  ·simp[Array.getD_eq_getD_getElem?,hi] at hij
  ·simp[Array.getD_eq_getD_getElem?,hi] at hij
theorem dok_of{N:Nat}{ops:Array Oper}{d:DReg}(S:DS P N ops d)(hm:P.follows .mixedOrders=true)(hpan:S.Pan):DOk P N ops d∧PDOk P N ops d:=⟨dok_of0 S hm,pdok_of S hm hpan⟩
end Can
end Go.Proofs.YticlaccbodpkeaaGreatDoor
namespace Go.Proofs.YticlaccbodpkeaaGreatDoor
namespace Can
open Go Go.RowKit
set_option linter.unusedSimpArgs false
set_option linter.unusedVariables false
variable {P:Program}
def maskOf(acc:List Nat)(o:Oper):Nat:=o.after.toList.foldl (fun s e=>if Region.binds .any e then s ||| (2 ^ e.on ||| acc.getD e.on 0) else s) 0
def masks:List Oper→List Nat→List Nat
 | [],acc=>acc
 | o::r,acc=>masks r (acc++ [maskOf acc o])
theorem mask_fold{ops:Array Oper}{acc:List Nat}{i:Nat}{o:Oper}(ho:ops[i]? = some o)(hacc : ∀a j,(acc.getD a 0).testBit j=true→Anc ops a j) : ∀(es:List Edge) (s:Nat),(∀e∈es,e∈o.after.toList)→(∀j,s.testBit j=true→Anc ops i j)→
 ∀j,(es.foldl (fun s e=>if Region.binds .any e then s ||| (2 ^ e.on ||| acc.getD e.on 0) else s) s).testBit j=true→Anc ops i j
 | [],s,_,hs=>hs
 | e::es,s,he,hs=>by
   simp only[List.foldl_cons]
   refine mask_fold ho hacc es _ (fun x hx=>he x (List.mem_cons_of_mem _ hx)) fun j hj=> ?_
   split at hj
   ·rename_i hb
    rw[Nat.testBit_or,Nat.testBit_or] at hj
    simp only[Bool.or_eq_true] at hj
    have hedge:Anc ops i e.on:= .edge ho (he e (List.mem_cons_self ..)) hb
    rcases hj with g | g | g
    ·exact hs j g
    ·rw[Nat.testBit_two_pow] at g
     have:e.on=j:=by simpa using g
     rw[←this];exact hedge
    ·exact .trans hedge (hacc _ _ g)
   ·exact hs j hj
theorem masks_spec{ops:Array Oper} : ∀(l:List Oper) (acc:List Nat),(∀k (h:k<l.length),ops[acc.length+k]? = some l[k])→(∀a j,(acc.getD a 0).testBit j=true→Anc ops a j)→∀a j,((masks l acc).getD a 0).testBit j=true→Anc ops a j
 | [],acc,_,hacc=>hacc
 | o::l,acc,hl,hacc=>by
   have h0:=hl 0 (by simp)
   simp only[Nat.add_zero,List.getElem_cons_zero] at h0
   refine masks_spec l _ (fun k hk=> ?_) fun a j hj=> ?_
   ·have:=hl (k+1) (by simpa using hk)
    simp only[List.length_append,List.length_singleton,List.getElem_cons_succ] at this⊢
    rw[show acc.length+1+k=acc.length+(k+1) by omega];exact this
   ·rw[List.getD_eq_getElem?_getD] at hj
    by_cases e:a<acc.length
    ·rw[List.getElem?_append_left e,←List.getD_eq_getElem?_getD] at hj
     exact hacc a j hj
    ·rw[List.getElem?_append_right (by omega)] at hj
     by_cases e2:a=acc.length
     ·subst e2
      simp only[Nat.sub_self,List.getElem?_cons_zero,Option.getD_some] at hj
      exact mask_fold h0 hacc _ 0 (fun _ h=>h) (fun j h=>by simp at h) j hj
     ·obtain⟨q,hq⟩ : ∃q,a-acc.length=q+1:=⟨a-acc.length-1,by omega⟩
      rw[hq] at hj
      simp at hj
def dItem:Item:=⟨none, .p (.mov (.const undef)),none⟩
def orderOf(k:Nat)(its:Nat→Item)(ms:List Nat):List Nat:=
 let ws:=(List.range k).filter fun i=>isW (its i).op
 let l:=ws.foldl (fun acc w=>acc++((List.range k).filter fun i=>(ms.getD w 0).testBit i && !acc.contains i)++(if acc.contains w then [] else [w])) []
 l++(List.range k).filter fun i=> !l.contains i
structure DD where
 k:Nat
 its:Nat→Item
 ms:List Nat
 tau:List Nat
 pos:Nat→Nat
 rk:Nat→Nat
 lo:Nat→Nat
def DD.anc(D:DD)(i j:Nat):Bool:=(D.ms.getD i 0).testBit j
def DD.w (D:DD)(i:Nat):Bool:=isW (D.its i).op
def DD.a (D:DD)(i:Nat):Bool:=isA (D.its i).op
def allN (k:Nat)(p:Nat→Bool):Bool:=(List.range k).all p
theorem allN_spec{k:Nat}{p:Nat→Bool}(h:allN k p=true) : ∀i,i<k→p i=true:=fun i hi=>List.all_eq_true.1 h i (List.mem_range.2 hi)
def anyN (k:Nat)(p:Nat→Bool):Bool:=(List.range k).any p
theorem anyN_spec{k:Nat}{p:Nat→Bool}(h:anyN k p=true) : ∃i,i<k∧p i=true:=by
 obtain⟨i,h1,h2⟩:=List.any_eq_true.1 h
 exact⟨i,List.mem_range.1 h1,h2⟩
def impB (a b:Bool):Bool:= !a||b
theorem impB_spec{a b:Bool}(h:impB a b=true)(ha:a=true):b=true:=by subst ha;simpa[impB] using h
def feeds(x y:Item):Bool:=match x.dst with
 | some t=>y.uses.contains t
 | none=>false
theorem feeds_of{x y:Item}{t:Nat}(h:x.dst=some t)(hu:t∈y.uses):feeds x y=true:=by simp[feeds,h,hu]
def sameDst(x y:Item):Bool:=match x.dst,y.dst with
 | some s,some t=>s==t
 | _,_=>false
def guardBy(x y:Item):Bool:=match x.dst,y.guard with
 | some t,some (s,_)=>s==t
 | _,_=>false
def isL:ROp→Bool
 | .l _=>true
 | _=>false
def DD.free(D:DD)(r:Nat):Bool:=allN D.k fun x=>impB (decide (D.pos x<D.pos r)) (impB (D.w x) (D.anc r x)&&impB (D.a x) (anyN D.k (fun y=>D.w y&&decide (D.pos x<D.pos y)&&D.anc r y)||feeds (D.its x) (D.its r)))
def DD.hi(D:DD)(r:Nat):Nat:=((List.range D.k).filter fun x=>D.w x&&decide (D.pos x≤D.pos r)).length
def DD.chk(D:DD):List (Item×Nat):=(List.range D.k).flatMap fun r=>if isL (D.its r).op && !D.free r then ((List.range (D.hi r+1)).filter fun s=>decide (D.lo r≤s)).map fun s=>(D.its r,s) else []
def DD.ok(D:DD)(ops:Array Oper):Bool:=
 decide (D.tau.Pairwise fun a b=>D.pos a<D.pos b)&&allN D.k (fun i=>D.tau.contains i)&&D.tau.all (fun i=>decide (i<D.k)) &&
 allN D.k (fun i=>match ops[i]? with
  | some o=>o.after.toList.all fun e=>impB (Region.binds .any e) (decide (e.on<D.k)&&decide (D.pos e.on<D.pos i))
  | none=>true) &&
 allN D.k (fun i=>allN D.k fun j=>
  impB (sameDst (D.its i) (D.its j)) (decide (i=j)) &&
  impB (!decide (i=j)&&feeds (D.its i) (D.its j)) (D.anc j i||(D.anc i j && !D.a j)) &&
  impB (D.a i) (!guardBy (D.its i) (D.its j)) &&
  impB (D.w j&&decide (D.pos i<D.pos j)) (D.anc j i) &&
  impB (!D.w i&&D.a j&&feeds (D.its j) (D.its i)) (allN D.k fun x=>impB (decide (D.pos x<D.pos j)) (impB (D.w x) (D.anc i x)&&impB (D.a x) ((anyN D.k fun y=>D.w y&&decide (D.pos x<D.pos y)&&decide (D.pos y<D.pos j))||D.anc i x))) &&
  impB (D.w i&&D.w j) (impB (decide (D.rk i<D.rk j)) (decide (D.pos i<D.pos j))&&impB (decide (D.rk i=D.rk j)) (decide (i=j))) &&
  impB (D.w j) (decide (D.rk j<D.hi i)||decide (D.pos i<D.pos j))) &&
 allN D.k (fun j=>impB (D.a j) (!feeds (D.its j) (D.its j)) &&
  impB (D.w j) (allN (D.rk j) fun q=>anyN D.k fun y=>D.w y&&decide (D.rk y=q)) &&
  allN (D.lo j) (fun q=>anyN D.k fun x=>D.w x&&decide (D.rk x=q)&&D.anc j x) &&
  impB (isL (D.its j).op) (D.free j||allN D.k fun i=>impB (feeds (D.its i) (D.its j)) (D.anc j i)))
def ddOf (ops:Array Oper)(l:List Item):DD:=
 let k:=ops.size
 let its:=fun i=>l.getD i dItem
 let ms:=masks ops.toList []
 let tau:=orderOf k its ms
 let pos:=fun i=>tau.idxOf i
 let rk:=fun i=>((List.range k).filter fun x=>isW (its x).op&&decide (pos x<pos i)).length
 { k,its,ms,tau,pos,rk,lo:=fun r=>((List.range k).filter fun x=>isW (its x).op&&(ms.getD r 0).testBit x).length }
def DD.pan(D:DD):Option (List Item):=match D.tau.dropWhile fun i=>isQ (D.its i).op with
 | []=>none
 | k::R=>if (R.filter fun b=> !D.anc b k).all (fun z=>isQ (hush (D.its z)).op && !feeds (D.its z) (D.its k))=true then some ((R.filter fun b=> !D.anc b k).map fun z=>hush (D.its z)) else none
theorem dropWhile_app{p:Nat→Bool} : ∀ {A:List Nat} {k:Nat} {R:List Nat},(∀x∈A,p x=true)→p k=false→(A++k::R).dropWhile p=k::R
 | [],k,R,_,hk=>by simp[List.dropWhile,hk]
 | x::A,k,R,hA,hk=>by
   rw[List.cons_append,List.dropWhile_cons_of_pos (hA x (by simp))]
   exact dropWhile_app (fun y hy=>hA y (by simp[hy])) hk
def resD (P:Program)(N:Nat)(ops:Array Oper):Option DReg:=
 match resItems P N ops ops.toList with
 | some l=>if P.follows .mixedOrders&&(ddOf ops l).ok ops then some ⟨(ddOf ops l).tau.map (ddOf ops l).its,(ddOf ops l).chk,(ddOf ops l).pan⟩ else none
 | none=>none
theorem resD_ok{N:Nat}{ops:Array Oper}{d:DReg}(h:resD P N ops=some d):DOk P N ops d∧PDOk P N ops d:=by
 unfold resD at h
 split at h
 rotate_left
 ·cases h
 rename_i l hl
 split at h
 rotate_left
 ·cases h
 rename_i hg
 simp only[Bool.and_eq_true] at hg
 obtain⟨hm,hok⟩:=hg
 simp only[Option.some.injEq] at h
 obtain⟨hlen,hits⟩:=resItems_ok hl
 have hanc : ∀i j,(ddOf ops l).anc i j=true→Anc ops i j:=fun i j hij=>
  masks_spec ops.toList [] (fun k hk=>by simp only[List.length_nil,Nat.zero_add];have hk':k<ops.size:=by simpa using hk
                                         simp[hk']) (fun a j hj=>by simp at hj) i j hij
 have hitem : ∀i o,ops[i]? = some o→ItemOk P N ops o ((ddOf ops l).its i):=fun i o ho=>by
  obtain⟨hi,rfl⟩:=Array.getElem?_eq_some_iff.1 ho
  have hil:i<l.length:=by rw[hlen];simpa using hi
  have:=hits i hil (by simpa using hi)
  rw[Array.getElem_toList] at this
  show ItemOk P N ops ops[i] (l.getD i dItem)
  rw[List.getD_eq_getElem?_getD,List.getElem?_eq_getElem hil]
  exact this
 generalize hD:ddOf ops l=D at *
 have hk:D.k=ops.size:=by rw[←hD];rfl
 unfold DD.ok at hok
 simp only[Bool.and_eq_true] at hok
 obtain⟨⟨⟨⟨⟨o1,o2⟩,o3⟩,o4⟩,o5⟩,o6⟩:=hok
 have c5:=fun i j (hi:i<ops.size) (hj:j<ops.size)=>allN_spec (allN_spec o5 i (by omega)) j (by omega)
 simp only[Bool.and_eq_true] at c5
 have c6:=fun j (hj:j<ops.size)=>allN_spec o6 j (by omega)
 simp only[Bool.and_eq_true] at c6
 have hancp : ∀i j,Anc ops i j→i<ops.size→j<ops.size∧D.pos j<D.pos i:=by
  intro i j ha
  induction ha with
  | @edge i o e ho he hb=>
    intro hi
    have:=allN_spec o4 i (by omega)
    rw[ho] at this
    have:=impB_spec (List.all_eq_true.1 this e he) hb
    simp only[Bool.and_eq_true,decide_eq_true_eq] at this
    exact⟨by omega,this.2⟩
  | @trans i j m h k ih1 ih2=>
    intro hi
    obtain⟨a1,a2⟩:=ih1 hi
    obtain⟨b1,b2⟩:=ih2 a1
    exact⟨b1,by omega⟩
 refine dok_of (S:=⟨D.its,hitem,D.tau,by rw[←h],fun i=> ?_,D.pos,of_decide_eq_true o1,fun i j hi ha=>hancp i j ha hi,fun i j t hi hj h1 h2=> ?_,fun i j t hi hj hne h1 h2=> ?_,fun j t hj h1 h2 hu=> ?_,fun i j t b hi hj h1 h2 h3=> ?_,fun i j hi hj h1 h2=> ?_,
  fun dd i t hd hi h1 h2 h3 h4 x hx hp=> ?_,D.rk,fun x y hx hy h1 h2 h3=> ?_,fun x q hx h1 h2=> ?_,fun x y hx hy h1 h2 h3=> ?_,D.lo,D.hi,fun r q hr hq=> ?_,fun r x hr hx h1=> ?_,fun r x hr h1=> ?_⟩) hm ?pan
 case pan=>
  intro Zl hp A k R ht hA hk
  rw[←h] at hp
  have hp:D.pan=some Zl:=hp
  have ht:D.tau=A++k::R:=ht
  unfold DD.pan at hp
  rw[ht,dropWhile_app (p:=fun i=>isQ (D.its i).op) hA hk] at hp
  simp only at hp
  split at hp
  ·rename_i hall
   cases hp
   refine⟨_,rfl,List.filter_sublist,fun z hz=> ?_,fun b hb=> ?_⟩
   ·have:=List.all_eq_true.1 hall z hz
    simp only[Bool.and_eq_true,Bool.not_eq_true'] at this
    refine⟨this.1,fun t h1 h2=> ?_⟩
    rw[feeds_of h1 h2] at this;cases this.2
   ·cases hab:D.anc b k with
    | true=>exact .inr (hanc _ _ hab)
    | false=>exact .inl (List.mem_filter.2 ⟨hb,by rw[hab];rfl⟩)
  ·cases hp
 ·constructor
  ·intro hi;have:=List.all_eq_true.1 o3 i hi;have:=of_decide_eq_true this;omega
  ·intro hi;have:=allN_spec o2 i (by omega);simpa using this
 ·have:=impB_spec (c5 i j hi hj).1.1.1.1.1.1 (by simp[sameDst,h1,h2])
  exact of_decide_eq_true this
 ·have:=impB_spec (c5 i j hi hj).1.1.1.1.1.2 (by simp[hne,feeds_of h1 h2])
  simp only[Bool.or_eq_true,Bool.and_eq_true,Bool.not_eq_true'] at this
  rcases this with g | ⟨g,g'⟩
  ·exact .inl (hanc _ _ g)
  ·exact .inr ⟨hanc _ _ g,g'⟩
 ·have:=impB_spec (c6 j hj).1.1.1 h1
  rw[feeds_of h2 hu] at this;cases this
 ·have:=impB_spec (c5 i j hi hj).1.1.1.1.2 h1
  simp[guardBy,h2,h3] at this
 ·exact hanc _ _ (impB_spec (c5 i j hi hj).1.1.1.2 (by simp only[Bool.and_eq_true,decide_eq_true_eq];exact⟨h1,h2⟩))
 ·have:=impB_spec (c5 dd i hd hi).1.1.2 (by simp only[Bool.and_eq_true,Bool.not_eq_true'];exact⟨⟨h1,h2⟩,feeds_of h3 h4⟩)
  have:=impB_spec (allN_spec this x (by omega)) (by simpa using hp)
  simp only[Bool.and_eq_true] at this
  refine⟨fun g=>hanc _ _ (impB_spec this.1 g),fun g=> ?_⟩
  have g2:=impB_spec this.2 g
  rw[Bool.or_eq_true] at g2
  rcases g2 with g2 | g2
  ·obtain⟨y,y1,y2⟩:=anyN_spec g2
   simp only[Bool.and_eq_true,decide_eq_true_eq] at y2
   exact .inl ⟨y,by omega,y2.1.1,y2.1.2,y2.2⟩
  ·exact .inr (hanc _ _ g2)
 ·have:=impB_spec (c5 x y hx hy).1.2 (by simp only[Bool.and_eq_true];exact⟨h1,h2⟩)
  simp only[Bool.and_eq_true] at this
  exact of_decide_eq_true (impB_spec this.1 (by simpa using h3))
 ·obtain⟨y,y1,y2⟩:=anyN_spec (allN_spec (impB_spec (c6 x hx).1.1.2 h1) q h2)
  simp only[Bool.and_eq_true,decide_eq_true_eq] at y2
  exact⟨y,by omega,y2.1,y2.2⟩
 ·have:=impB_spec (c5 x y hx hy).1.2 (by simp only[Bool.and_eq_true];exact⟨h1,h2⟩)
  simp only[Bool.and_eq_true] at this
  exact of_decide_eq_true (impB_spec this.2 (by simpa using h3))
 ·obtain⟨y,y1,y2⟩:=anyN_spec (allN_spec (c6 r hr).1.2 q hq)
  simp only[Bool.and_eq_true,decide_eq_true_eq] at y2
  exact⟨y,by omega,y2.1.1,y2.1.2,hanc _ _ y2.2⟩
 ·have:=impB_spec (c5 r x hr hx).2 h1
  simpa using this
 ·have hL:isL (D.its r).op=true:=by rw[h1];rfl
  have:=impB_spec (c6 r hr).2 hL
  rw[Bool.or_eq_true] at this
  cases hf:D.free r with
  | true=>
    left
    intro x hx hp
    have:=impB_spec (allN_spec hf x (by omega)) (by simpa using hp)
    simp only[Bool.and_eq_true] at this
    refine⟨fun g=>hanc _ _ (impB_spec this.1 g),fun g=> ?_⟩
    have:=impB_spec this.2 g
    rw[Bool.or_eq_true] at this
    rcases this with g | g
    ·obtain⟨y,y1,y2⟩:=anyN_spec g
     simp only[Bool.and_eq_true,decide_eq_true_eq] at y2
     exact .inl ⟨y,by omega,y2.1.1,y2.1.2,hanc _ _ y2.2⟩
    ·right
     unfold feeds at g
     cases hd:(D.its x).dst with
     | none=>rw[hd] at g;cases g
     | some t=>rw[hd] at g;exact⟨t,rfl,by simpa using g⟩
  | false=>
    right
    rw[hf] at this
    simp only[Bool.false_eq_true,false_or] at this
    refine⟨fun t j ht hj hd=>hanc _ _ (impB_spec (allN_spec this j (by omega)) (feeds_of hd ht)),fun s s1 s2=> ?_⟩
    rw[←h]
    show(D.its r,s)∈D.chk
    unfold DD.chk
    refine List.mem_flatMap.2 ⟨r,List.mem_range.2 (by omega),?_⟩
    rw[hL,hf]
    simp only[Bool.not_false,Bool.and_self,if_true]
    exact List.mem_map.2 ⟨s,List.mem_filter.2 ⟨List.mem_range.2 (by omega),by simpa using s1⟩,rfl⟩
end Can
end Go.Proofs.YticlaccbodpkeaaGreatDoor
namespace Go.Proofs.YticlaccbodpkeaaGreatDoor
namespace Can
open Go Go.RowKit
set_option linter.unusedSimpArgs false
set_option linter.unusedVariables false
variable {T:Tbl}
def SeqK (T:Tbl)(b:RCode)(Q:CExit→Fr→CH→Prop):CExit→Fr→CH→Prop:=fun x fr H=>match x with
 | .normal=>WpR T b fr H Q
 | x=>Q x fr H
def BlockK(id:Nat)(Q:CExit→Fr→CH→Prop):CExit→Fr→CH→Prop:=fun x fr H=>match x with
 | .exit i=>if i=id then Q .normal fr H else Q (.exit i) fr H
 | x=>Q x fr H
def ItemK(T:Tbl)(r:List Item)(fr:Fr)(d:Option Nat)(K:Fr→CH→Prop):Value→CH→Prop:=fun v H=>WpI T r (putF fr d v) H K
def optV (o:Option Value)(K:Value→CH→Prop)(H:CH):Prop:=match o with
 | some v=>K v H
 | none=>False
def optW (o:Option (Value×CH))(K:Value→CH→Prop):Prop:=match o with
 | some q=>K q.1 q.2
 | none=>False
def optA (o:Option (List Value×TypeId×Kd×AK))(K:Value→CH→Prop)(H:CH):Prop:=match o with
 | some q=>K (akV q.2.2.2 H.nx) (H.new (.cells q.1 q.2.1 q.2.2.1))
 | none=>False
def finK (o:Option (List Value))(Q:Value→CH→Prop)(H:CH):Prop:=match o with
 | some vs=>Q (tupleV vs) H
 | none=>False
theorem optV_some{v:Value}{K:Value→CH→Prop}{H:CH}:optV (some v) K H↔K v H:=Iff.rfl
theorem optW_some{v:Value}{K:Value→CH→Prop}{H:CH}:optW (some (v,H)) K↔K v H:=Iff.rfl
theorem optA_some{cs:List Value}{e:TypeId}{k:Kd}{mk:AK}{K:Value→CH→Prop}{H:CH}:optA (some (cs,e,k,mk)) K H↔K (akV mk H.nx) (H.new (.cells cs e k)):=Iff.rfl
theorem finK_some{vs:List Value}{Q:Value→CH→Prop}{H:CH}:finK (some vs) Q H↔Q (tupleV vs) H:=Iff.rfl
def FunK (res:List RRes)(Q:Value→CH→Prop):CExit→Fr→CH→Prop:=fun x fr H=>match x with
 | .exit _=>False
 | _=>finK (resL fr H res) Q H
theorem r_seq{a b:RCode}{fr:Fr}{H:CH}{Q:CExit→Fr→CH→Prop}:WpR T (.seq a b) fr H Q↔WpR T a fr H (SeqK T b Q):=wpR_seq
theorem r_block{id:Nat}{c:RCode}{fr:Fr}{H:CH}{Q:CExit→Fr→CH→Prop}:WpR T (.block id c) fr H Q↔WpR T c fr H (BlockK id Q):=wpR_block
theorem seqK_n{b:RCode}{Q:CExit→Fr→CH→Prop}{fr:Fr}{H:CH}:SeqK T b Q .normal fr H↔WpR T b fr H Q:=Iff.rfl
theorem seqK_r{b:RCode}{Q:CExit→Fr→CH→Prop}{fr:Fr}{H:CH}:SeqK T b Q .ret fr H↔Q .ret fr H:=Iff.rfl
theorem seqK_e{b:RCode}{Q:CExit→Fr→CH→Prop}{i:Nat}{fr:Fr}{H:CH}:SeqK T b Q (.exit i) fr H↔Q (.exit i) fr H:=Iff.rfl
theorem blockK_n{id:Nat}{Q:CExit→Fr→CH→Prop}{fr:Fr}{H:CH}:BlockK id Q .normal fr H↔Q .normal fr H:=Iff.rfl
theorem blockK_r{id:Nat}{Q:CExit→Fr→CH→Prop}{fr:Fr}{H:CH}:BlockK id Q .ret fr H↔Q .ret fr H:=Iff.rfl
theorem blockK_e{id i:Nat}{Q:CExit→Fr→CH→Prop}{fr:Fr}{H:CH}:BlockK id Q (.exit i) fr H↔if i=id then Q .normal fr H else Q (.exit i) fr H:=Iff.rfl
theorem funK_n{res:List RRes}{Q:Value→CH→Prop}{fr:Fr}{H:CH}:FunK res Q .normal fr H↔finK (resL fr H res) Q H:=Iff.rfl
theorem funK_r{res:List RRes}{Q:Value→CH→Prop}{fr:Fr}{H:CH}:FunK res Q .ret fr H↔finK (resL fr H res) Q H:=Iff.rfl
theorem r_reg{its:List Item}{fr:Fr}{H:CH}{Q:CExit→Fr→CH→Prop}:WpR T (.reg its) fr H Q↔WpI T its fr H (Q .normal):=wpR_reg
theorem r_drw{its:List Item}{pn:Option (List Item)}{fr:Fr}{H:CH}{Q:CExit→Fr→CH→Prop}:WpR T (.drw ⟨its,[],pn⟩) fr H Q↔WpI T its fr H (Q .normal):=by
 rw[wpR_drw]
 constructor
 ·rintro⟨n,fr',H',l,h1,h2,h3⟩
  refine⟨n,fr',H',?_,h3⟩
  clear h2 h3
  induction its generalizing fr H l with
  | nil=>simp only[runD,Option.some.injEq,Prod.mk.injEq] at h1;obtain⟨rfl,rfl,rfl⟩:=h1;rfl
  | cons it its ih=>
    simp only[runD,runI] at h1⊢
    cases hs:stepI (evH T n) it fr H with
    | none=>rw[hs] at h1;cases h1
    | some q=>
      rw[hs] at h1
      simp only at h1⊢
      cases hd:runD (evH T n) its q.1 q.2 with
      | none=>rw[hd] at h1;cases h1
      | some z=>obtain⟨a,b,c⟩:=z;rw[hd] at h1;simp only[Option.map_some,Option.some.injEq,Prod.mk.injEq] at h1;obtain⟨rfl,rfl,_⟩:=h1;exact ih _ hd
 ·rintro⟨n,fr',H',h1,h3⟩
  have : ∃l,runD (evH T n) its fr H=some (fr',H',l):=by
   clear h3
   induction its generalizing fr H with
   | nil=>simp only[runI,Option.some.injEq,Prod.mk.injEq] at h1;obtain⟨rfl,rfl⟩:=h1;exact⟨[],rfl⟩
   | cons it its ih=>
     simp only[runD,runI] at h1⊢
     cases hs:stepI (evH T n) it fr H with
     | none=>rw[hs] at h1;cases h1
     | some q=>
       rw[hs] at h1
       obtain⟨l,hl⟩:=ih h1
       simp only[hl]
       exact⟨_,rfl⟩
  obtain⟨l,hl⟩:=this
  exact⟨n,fr',H',l,hl,fun p hp=>by simp at hp,h3⟩
def CondK(T:Tbl)(v:Value)(a b:RCode)(fr:Fr)(H:CH)(Q:CExit→Fr→CH→Prop):Prop:=match v with
 | .bool t=>if t=true then WpR T a fr H Q else WpR T b fr H Q
 | _=>False
theorem r_cond{c:Operand}{a b:RCode}{fr:Fr}{H:CH}{Q:CExit→Fr→CH→Prop}:WpR T (.cond c a b) fr H Q↔CondK T (evF fr c) a b fr H Q:=wpR_cond
theorem condK_t{a b:RCode}{fr:Fr}{H:CH}{Q:CExit→Fr→CH→Prop}:CondK T (.bool true) a b fr H Q↔WpR T a fr H Q:=by simp[CondK]
theorem condK_f{a b:RCode}{fr:Fr}{H:CH}{Q:CExit→Fr→CH→Prop}:CondK T (.bool false) a b fr H Q↔WpR T b fr H Q:=by simp[CondK]
theorem condK_split{t:Bool}{a b:RCode}{fr:Fr}{H:CH}{Q:CExit→Fr→CH→Prop}(h1:t=true→WpR T a fr H Q)(h2:t=false→WpR T b fr H Q):CondK T (.bool t) a b fr H Q:=by
 cases t
 ·exact condK_f.2 (h2 rfl)
 ·exact condK_t.2 (h1 rfl)
def GrdK (T:Tbl)(v:Value)(b:Bool)(d:Option Nat)(op:ROp)(r:List Item)(fr:Fr)(H:CH)(K:Fr→CH→Prop):Prop:=match v with
 | .bool c=>if c=b then WpO T fr H op (ItemK T r fr d K) else WpI T r (putF fr d skipV) H K
 | .chan none=>WpI T r (putF fr d skipV) H K
 | _=>False
theorem i_grd{d:Option Nat}{op:ROp}{s:Nat}{b:Bool}{r:List Item}{fr:Fr}{H:CH}{K:Fr→CH→Prop}:WpI T (⟨d,op,some (s,b)⟩::r) fr H K↔GrdK T (fr s) b d op r fr H K:=by
 rw[wpI_cons]
 simp only[wantedF]
 generalize fr s=v
 unfold GrdK
 cases v with
 | bool c=>
   simp only
   by_cases e:c=b
   ·subst e;simp only[beq_self_eq_true,if_true];exact Iff.rfl
   ·have:(c==b)=false:=by simpa using e
    simp only[this,if_neg e]
 | chan r=>cases r<;>exact Iff.rfl
 | _=>exact Iff.rfl
variable {d:Option Nat} {op:ROp} {r:List Item} {fr:Fr} {H:CH} {K:Fr→CH→Prop}
theorem grd_tt:GrdK T (.bool true) true d op r fr H K↔WpO T fr H op (ItemK T r fr d K):=by simp[GrdK]
theorem grd_ff:GrdK T (.bool false) false d op r fr H K↔WpO T fr H op (ItemK T r fr d K):=by simp[GrdK]
theorem grd_tf:GrdK T (.bool true) false d op r fr H K↔WpI T r (putF fr d skipV) H K:=by simp[GrdK]
theorem grd_ft:GrdK T (.bool false) true d op r fr H K↔WpI T r (putF fr d skipV) H K:=by simp[GrdK]
theorem grd_s{b:Bool}:GrdK T skipV b d op r fr H K↔WpI T r (putF fr d skipV) H K:=by simp[GrdK,skipV]
theorem grd_split{t b:Bool}(h1:t=true→GrdK T (.bool true) b d op r fr H K)(h2:t=false→GrdK T (.bool false) b d op r fr H K):GrdK T (.bool t) b d op r fr H K:=by
 cases t
 ·exact h2 rfl
 ·exact h1 rfl
theorem i_cons{d:Option Nat}{op:ROp}{r:List Item}{fr:Fr}{H:CH}{K:Fr→CH→Prop}:WpI T (⟨d,op,none⟩::r) fr H K↔WpO T fr H op (ItemK T r fr d K):=wpI_cons
theorem itemK{r:List Item}{fr:Fr}{d:Option Nat}{K:Fr→CH→Prop}{v:Value}{H:CH}:ItemK T r fr d K v H↔WpI T r (putF fr d v) H K:=Iff.rfl
theorem o_p{fr:Fr}{H:CH}{x:POp}{K:Value→CH→Prop}:WpO T fr H (.p x) K↔optV (pop (evF fr) x) K H:=by
 rw[wpO_p];cases pop (evF fr) x<;>simp[optV]
theorem o_l{fr:Fr}{H:CH}{x:LOp}{K:Value→CH→Prop}:WpO T fr H (.l x) K↔optV (lop H (evF fr) x) K H:=by
 rw[wpO_l];cases lop H (evF fr) x<;>simp[optV]
theorem o_a{fr:Fr}{H:CH}{x:AOp}{K:Value→CH→Prop}:WpO T fr H (.a x) K↔optA (aop (evF fr) x) K H:=by
 rw[wpO_a]
 cases aop (evF fr) x with
 | none=>simp[optA]
 | some q=>
   obtain⟨cs,e,k,mk⟩:=q
   constructor
   ·rintro⟨cs',e',k',mk',h,hk⟩;cases h;exact hk
   ·intro h;exact⟨cs,e,k,mk,rfl,h⟩
theorem o_w{fr:Fr}{H:CH}{x:WOp}{K:Value→CH→Prop}:WpO T fr H (.w x) K↔optW (wop H (evF fr) x) K:=by
 rw[wpO_w]
 cases wop H (evF fr) x with
 | none=>simp[optW]
 | some q=>
   constructor
   ·rintro⟨v,H',h,hk⟩;cases h;exact hk
   ·intro h;exact⟨q.1,q.2,rfl,h⟩
def CallvK(T:Tbl)(v:Value)(args:List Value)(H:CH)(K:Value→CH→Prop):Prop:=match v with
 | .func (.func f) _ caps=>WpF T f (args++caps.toList) H K
 | .func (.yield l) _ _=>WpY T l args H K
 | _=>False
theorem o_callv{fr:Fr}{H:CH}{g:Operand}{args:List Operand}{K:Value→CH→Prop}:WpO T fr H (.callv g args) K↔CallvK T (evF fr g) (args.map (evF fr)) H K:=wpO_callv
theorem callvK_f{f:FuncId}{a caps:Array Value}{args:List Value}{H:CH}{K:Value→CH→Prop}:CallvK T (.func (.func f) a caps) args H K↔WpF T f (args++caps.toList) H K:=Iff.rfl
theorem callvK_y{l:Nat}{a caps:Array Value}{args:List Value}{H:CH}{K:Value→CH→Prop}:CallvK T (.func (.yield l) a caps) args H K↔WpY T l args H K:=Iff.rfl
def RangeV(T:Tbl)(v:Value)(key:Nat×Nat)(fr:Fr)(H:CH)(Q:CExit→Fr→CH→Prop):Prop:=match v with
 | .func (.func f) _ caps=>WpF T f (.func (.yield H.nx) #[] #[]::caps.toList) (H.new (.loop .ready none fr key)) (RangeK H.nx fr Q)
 | _=>False
theorem r_range{g:Operand}{key:Nat×Nat}{fr:Fr}{H:CH}{Q:CExit→Fr→CH→Prop}:WpR T (.rangeF g key) fr H Q↔RangeV T (evF fr g) key fr H Q:=by
 constructor
 ·rintro⟨n,x,fr',H',h1,h2⟩
  simp only[evR] at h1
  unfold RangeV
  split at h1
  ·rename_i f fst caps hg
   rw[hg]
   cases hc:(evH T n).call f (Value.func (.yield H.nx) #[] #[]::caps.toList) (H.new (.loop .ready none fr key)) with
   | none=>rw[hc] at h1;cases h1
   | some q=>
     rw[hc] at h1
     refine⟨n,q.1,q.2,hc,?_⟩
     simp only at h1
     split at h1
     ·rename_i st pend fr1 key1 ho
      split at h1
      ·cases h1
      ·rename_i hb
       simp only[Option.some.injEq,Prod.mk.injEq] at h1
       obtain⟨rfl,rfl,rfl⟩:=h1
       exact⟨_,_,_,_,ho,hb,h2⟩
     ·cases h1
  ·cases h1
 ·intro h
  unfold RangeV at h
  split at h
  ·rename_i f fst caps hg
   exact wpR_rangeF hg h
  ·exact h.elim
theorem rangeV_f{f:FuncId}{a caps:Array Value}{key:Nat×Nat}{fr:Fr}{H:CH}{Q:CExit→Fr→CH→Prop}:RangeV T (.func (.func f) a caps) key fr H Q↔WpF T f (.func (.yield H.nx) #[] #[]::caps.toList) (H.new (.loop .ready none fr key)) (RangeK H.nx fr Q):=Iff.rfl
theorem o_call{fr:Fr}{H:CH}{f:FuncId}{args:List Operand}{K:Value→CH→Prop}:WpO T fr H (.call f args) K↔WpF T f (args.map (evF fr)) H K:=Iff.rfl
theorem putF_get{fr:Fr}{d t:Nat}{v:Value}:putF fr (some d) v t=if t=d then v else fr t:=rfl
theorem putF_none{fr:Fr}{v:Value}:putF fr none v=fr:=rfl
theorem evF_t{fr:Fr}{t:Nat}:evF fr (.tmp t)=fr t:=rfl
theorem evF_c{fr:Fr}{v:Value}:evF fr (.const v)=v:=rfl
theorem evF_f{fr:Fr}{f:FuncId}:evF fr (.func f)= .func (.func f) #[] #[]:=rfl
theorem new_nx{H:CH}{o:CObj}:(H.new o).nx=H.nx+1:=rfl
theorem set_nx{H:CH}{l:Nat}{o:CObj}:(H.set l o).nx=H.nx:=rfl
theorem new_ob{H:CH}{o:CObj}{k:Nat}(h:k=H.nx):(H.new o).ob k=o:=by simp[CH.new,h]
theorem new_ne{H:CH}{o:CObj}{k:Nat}(h:k≠H.nx):(H.new o).ob k=H.ob k:=by simp[CH.new,h]
theorem set_ob{H:CH}{o:CObj}{l:Nat}:(H.set l o).ob l=o:=by simp[CH.set]
theorem set_ne{H:CH}{o:CObj}{l k:Nat}(h:k≠l):(H.set l o).ob k=H.ob k:=by simp[CH.set,h]
theorem wpF_in{f:FuncId}{rf:RFunc}(he:T.ext f=false)(hf:T.fn f=some rf){args:List Value}{H:CH}{Q:Value→CH→Prop}(h:WpR T rf.body (fun t=>args.getD t undef) H (FunK rf.res Q)):WpF T f args H Q:=by
 refine(wpF_fn he hf).2 (h.mono fun x fr' H' hx=> ?_)
 unfold FunK at hx
 cases x with
 | exit i=>exact hx
 | normal=>simp only at hx⊢;cases hr:resL fr' H' rf.res with
   | none=>rw[hr] at hx;exact hx.elim
   | some vs=>rw[hr] at hx;exact⟨vs,rfl,hx⟩
 | ret=>simp only at hx⊢;cases hr:resL fr' H' rf.res with
   | none=>rw[hr] at hx;exact hx.elim
   | some vs=>rw[hr] at hx;exact⟨vs,rfl,hx⟩
theorem getD_zero{v:Value}{r:List Value}:(v::r).getD 0 undef=v:=rfl
theorem getD_succ{v:Value}{r:List Value}{n:Nat}:(v::r).getD (n+1) undef=r.getD n undef:=rfl
def LoopI(I:Nat→Fr→CH→Prop)(n:Nat)(Q:CExit→Fr→CH→Prop):CExit→Fr→CH→Prop:=fun x fr H=>match x with
 | .normal=>∃m,m<n∧I m fr H
 | x=>Q x fr H
theorem loopI_n{I:Nat→Fr→CH→Prop}{n:Nat}{Q:CExit→Fr→CH→Prop}{fr:Fr}{H:CH}:LoopI I n Q .normal fr H↔∃m,m<n∧I m fr H:=Iff.rfl
theorem loopI_r{I:Nat→Fr→CH→Prop}{n:Nat}{Q:CExit→Fr→CH→Prop}{fr:Fr}{H:CH}:LoopI I n Q .ret fr H↔Q .ret fr H:=Iff.rfl
theorem loopI_e{I:Nat→Fr→CH→Prop}{n i:Nat}{Q:CExit→Fr→CH→Prop}{fr:Fr}{H:CH}:LoopI I n Q (.exit i) fr H↔Q (.exit i) fr H:=Iff.rfl
theorem loop_inv{c:RCode}{Q:CExit→Fr→CH→Prop}(I:Nat→Fr→CH→Prop)(step : ∀n fr H,I n fr H→WpR T c fr H (LoopI I n Q)) : ∀ {n:Nat} {fr:Fr} {H:CH},I n fr H→WpR T (.loop c) fr H Q:=by
 intro n
 induction n using Nat.strongRecOn with
 | _ n ih=>
   intro fr H h
   refine wpR_loop.2 ((step n fr H h).mono fun x fr' H' hx=> ?_)
   cases x with
   | normal=>obtain⟨m,hm,hi⟩:=hx;exact ih m hm hi
   | exit i=>exact hx
   | ret=>exact hx
section ints
variable {k:IntKind} {a b:Int}
theorem b_add:svOf (binOp .add 0 (.int k a) (.int k b))=some (.int k (k.wrap (a+b))):=by simp[binOp,Op.intArith,svOf,Pure.pure]
theorem b_sub:svOf (binOp .sub 0 (.int k a) (.int k b))=some (.int k (k.wrap (a-b))):=by simp[binOp,Op.intArith,svOf,Pure.pure]
theorem b_mul:svOf (binOp .mul 0 (.int k a) (.int k b))=some (.int k (k.wrap (a*b))):=by simp[binOp,Op.intArith,svOf,Pure.pure]
theorem b_quo(h:b≠0):svOf (binOp .quo 0 (.int k a) (.int k b))=some (.int k (k.wrap (a.tdiv b))):=by simp[binOp,Op.intDiv,svOf,Pure.pure,h]
theorem b_rem(h:b≠0):svOf (binOp .rem 0 (.int k a) (.int k b))=some (.int k (a.tmod b)):=by simp[binOp,Op.intDiv,svOf,Pure.pure,h]
theorem b_eql:svOf (binOp .eql 0 (.int k a) (.int k b))=some (.bool (decide (a=b))):=by simp[binOp,Op.intCmp,svOf,Pure.pure];by_cases h:a=b<;>simp[h]
theorem b_neq:svOf (binOp .neq 0 (.int k a) (.int k b))=some (.bool (decide (a≠b))):=by simp[binOp,Op.intCmp,svOf,Pure.pure];by_cases h:a=b<;>simp[h]
theorem b_lss:svOf (binOp .lss 0 (.int k a) (.int k b))=some (.bool (decide (a<b))):=by simp[binOp,Op.intCmp,svOf,Pure.pure]
theorem b_leq:svOf (binOp .leq 0 (.int k a) (.int k b))=some (.bool (decide (a≤b))):=by simp[binOp,Op.intCmp,svOf,Pure.pure]
theorem b_gtr:svOf (binOp .gtr 0 (.int k a) (.int k b))=some (.bool (decide (b<a))):=by simp[binOp,Op.intCmp,svOf,Pure.pure]
theorem b_geq:svOf (binOp .geq 0 (.int k a) (.int k b))=some (.bool (decide (b≤a))):=by simp[binOp,Op.intCmp,svOf,Pure.pure]
theorem b_and:svOf (binOp .and 0 (.int k a) (.int k b))=some (.int k (k.wrap (BitVec.ofInt k.bits a &&& BitVec.ofInt k.bits b).toNat)):=by simp[binOp,Op.intBits,svOf,Pure.pure]
theorem b_or:svOf (binOp .or 0 (.int k a) (.int k b))=some (.int k (k.wrap (BitVec.ofInt k.bits a ||| BitVec.ofInt k.bits b).toNat)):=by simp[binOp,Op.intBits,svOf,Pure.pure]
theorem b_shl{k':IntKind}(h:0≤b):svOf (binOp .shl 0 (.int k a) (.int k' b))=some (.int k (k.wrap (a*2 ^ min b.toNat k.bits))):=by
 have : ¬b<0:=by omega
 simp[binOp,Op.shift,svOf,Pure.pure,this]
theorem b_shr{k':IntKind}(h:0≤b):svOf (binOp .shr 0 (.int k a) (.int k' b))=some (.int k (a.fdiv (2 ^ min b.toNat k.bits))):=by
 have : ¬b<0:=by omega
 simp[binOp,Op.shift,svOf,Pure.pure,this]
theorem u_not{t:Bool}:svOf (Op.unary .not (.bool t))=some (.bool (!t)):=rfl
theorem w_i64(h1 : -9223372036854775808≤a)(h2:a≤9223372036854775807):IntKind.i64.wrap a=a:=by rw[IntKind.wrap_i64];omega
theorem w_u64(h1:0≤a)(h2:a<18446744073709551616):IntKind.u64.wrap a=a:=by rw[IntKind.wrap_u64];omega
theorem w_u8(h1:0≤a)(h2:a<256):IntKind.u8.wrap a=a:=by rw[IntKind.wrap_u8];omega
theorem t_div(h:0≤a):a.tdiv b=a / b:=by rw[Int.tdiv_eq_ediv_of_nonneg h]
theorem t_mod(h:0≤a):a.tmod b=a % b:=by rw[Int.tmod_eq_emod_of_nonneg h]
end ints
end Can
end Go.Proofs.YticlaccbodpkeaaGreatDoor
end
section
namespace Go.Proofs.YticlaccbodpkeaaGreatDoor
open Go.ChangeShapes Go.WideShapes Go.ChangeAt Go.RowKit
set_option linter.unusedSimpArgs false
set_option linter.unusedVariables false
set_option linter.unusedSectionVars false
section
variable {P:Program} {T E sz:Nat} (hT:P.underlying T=some (.slice E)) (hE:(P.info? E).map (·.size)=some sz)
include hT hE
end
end Go.Proofs.YticlaccbodpkeaaGreatDoor
namespace Go.Proofs.YticlaccbodpkeaaGreatDoor
open Go.ChangeShapes Go.WideShapes Go.ChangeAt Go.RowKit Go.Deep
set_option linter.unusedSimpArgs false
set_option linter.unusedVariables false
theorem list_of{α:Type}{n:Nat}{p:Nat→α→Prop}(each : ∀i,i<n→∃y,p i y) : ∃ys:List α,ys.length=n∧∀i (h:i<ys.length),p i ys[i]:=by
 induction n with
 | zero=>exact⟨[],rfl,fun i h=>absurd h (Nat.not_lt_zero _)⟩
 | succ n ih=>
   obtain⟨ys,hy1,hy2⟩:=ih (fun i hi=>each i (by omega))
   obtain⟨y,h1⟩:=each n (by omega)
   refine⟨ys++ [y],by simp[hy1],fun i hi=> ?_⟩
   by_cases hin:i<ys.length
   ·rw[List.getElem_append_left hin];exact hy2 i hin
   ·have e:i=n:=by simp at hi;omega
    subst e
    rw[List.getElem_append_right (by omega)]
    simpa[hy1] using h1
section
variable {H:Type} {enc:TypeId×Value→H} {P:Program} {w:World} {base:Nat} {spare:Nat→Bool} {held:Bool}
end
end Go.Proofs.YticlaccbodpkeaaGreatDoor
end
