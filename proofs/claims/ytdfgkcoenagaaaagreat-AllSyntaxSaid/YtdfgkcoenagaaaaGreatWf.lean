/- Runs over trees: calls. Over any program. Runs over trees: code and functions. Over any program. Runs over trees: a function. Over any program. Runs over trees: loops by what they carry. Over any program. Parse: the grammar as a function of tokens; with so many steps. No program in sight. (Printed by tools/genps.py.). Parse: the grammar answers, whatever the tokens; where it ends, how many nodes. No program in sight. Parse: with more steps the same answer. No program in sight. Parse, the program: the reader in memory; its looks at a token. Parse, the program: what is known of its reader's looks, for runs over trees. Parse, the program: a token that can't stand there: fail panics. Parse, the program: the closure that Parse defers. Parse, the program: its small steps, as runs over trees. Parse, the program: steps along the grammar. -/
import Derived.Test.YtdfgkcoenagaaaaGreatWa
import Derived.Test.YtdfgkcoenagaaaaGreatWe
import Derived.Test.YtdfgkcoenagaaaaGreatWd
import Derived.WalkKit
open Array renaming getD_eq_getD_getElem? → mV, getElem?_setIfInBounds → NU
open Bool renaming and_eq_true → eZ
open Go renaming FuncId → bk, Oper → cu, Operand → au, TypeId → aH, Value → ae, World → ar
open Go.Fence renaming wide → gZ
open Go.Value renaming cells → iI
open Iff renaming rfl → fJ
open List renaming filter_cons_of_pos → ac3, flatMap_cons → zr, getElem?_eq_getElem → dx, getElem?_eq_none → qZ, getElem?_map → kF, getElem?_set_ne → FL, getElem?_set_self → Jl, getElem?_take_of_lt → AT, length_append → bW, length_cons → ay, length_map → kZ, length_nil → aF, length_set → JB, length_take → nU, map_cons → dq, mem_append_left → vY, mem_append_right → AW
open Nat renaming beq → q9, eq_of_beq_eq_true → xx, le_of_ble_eq_true → ja, le_refl → ag, le_succ → nz, le_trans → cM, lt_of_lt_of_le → ek, lt_or_ge → pE, ne_of_beq_eq_false → ac2
open Option renaming map_some → fo
open True renaming intro → CY
open UInt8 renaming ofNat → al
set_option maxRecDepth 4000
set_option maxHeartbeats 4000000
set_option linter.unusedSimpArgs false
set_option linter.unusedVariables false
namespace Go.Proofs.YtdfgkcoenagaaaaGreat
namespace Can
section
open Go Go.RowKit
variable {T:cF} {X:ce} {Z:TP} {K0 K K' BU:CH} {sp:Option Nat} {W0:Nat->Prop} {st aT sQ aQ:TS} {fr aj:aR} {aP:Fr} {E E' sR:TE}
def E0 (sp:Option Nat)(hid:Nat->Prop):TE:=⟨λ_=>none,λo=>if o=0 then sp else none,hid⟩
abbrev Self:=Option (aH×List SV)
def wR(K:CH)(E:TE)(sp:Option Nat):Self->Prop
 | none=>sp=none
 | some (e,a)=>∃p os,sp=some p/\p<K.nx/\K.ob p= .cells os e .ex/\R2 (fM K (dw K E)) a os
def AV.clean:AV->Prop
 | .ptr _ _=>False
 | .fj _ _ _=>False
 | _=>True
def SJ (Z:TP)(K:CH)(sp:Option Nat)(W:Nat->Prop):Self->Prop
 | none=>∀b,¬W b
 | some (e,a)=>JR Z [(0,e,a.map .s)] K sp W
def PX (K0:CH)(sp:Option Nat)(W0:Nat->Prop)(R:ae->Prop)(v:ae)(K':CH):Prop:=K0.nx<=K'.nx/\(∀b,b<K0.nx->sp≠some b->¬W0 b->K'.ob b=K0.ob b)/\R v
structure HW(K K':CH)(sp:Option Nat)(hid W li W':Nat->Prop):Prop where
 up : ∀b,hid b->li b
 dn : ∀b,li b->b<K'.nx
 w : ∀b,W' b->li b/\(W b\/K.nx<=b)
def TC (Z:TP)(T:cF)(X:ce)(f:bk)(args:List AV)(self:Self)(Q:AV->List SV->Prop)(R:ae->Prop):Prop:=
 ∀(K:CH) (sp:Option Nat) (hid W:Nat->Prop) (vs:List ae),(∀b,hid b->b<K.nx/\sp≠some b)->(∀b,W b->hid b)->(∀b,Z.N b->b<K.nx/\sp≠some b/\¬W b/\K.ob b=Z.M b)->R2 (bX K (E0 sp hid)) args vs->wR K (E0 sp hid) sp self->SJ Z K sp W self->
  BO T X f vs K (λv K'=>K.nx<=K'.nx/\(∀b,b<K.nx->sp≠some b->¬W b->K'.ob b=K.ob b)/\∃li W' a c,HW K K' sp hid W li W'/\bX K' (E0 sp li) a v/\a.clean/\wR K' (E0 sp li) sp (self.map λp=>(p.1,c))/\SJ Z K' sp W' (self.map λp=>(p.1,c))/\Q a c) (PX K sp W R)
theorem TC.mono{f:bk}{args:List AV}{self:Self}{Q d:AV->List SV->Prop}{R e:ae->Prop}(h:TC Z T X f args self Q R)(g : ∀a s,Q a s->d a s)(j : ∀v,R v->e v):TC Z T X f args self d e:=λK sp hid W vs h1 h2 h3 h4 h5 k=>(h K sp hid W vs h1 h2 h3 h4 h5 k).mono (λv K' ⟨k1,b,li,W',a,l,c,m,n,o,p,q⟩=>⟨k1,b,li,W',a,l,c,m,n,o,p,g _ _ q⟩) λv K' ⟨k1,b,c⟩=>⟨k1,b,j v c⟩
theorem PX.up(h:TR Z K0 sp W0 K st fr aP E){sp':Option Nat}{W:Nat->Prop}{R:ae->Prop}{v:ae}(c : ∀b,sp'=some b->∃o,E.ρ o=some b)(hw : ∀b,W b->W0 b\/K0.nx<=b)(hp:PX K sp' W R v K'):PX K0 sp W0 R v K':=by
 obtain⟨h1,h2,h3⟩:=hp;refine⟨cM h.nx h1,λb hb hs a=> ?_,h3⟩;rw[h2 b (ek hb h.nx) (λq=> ?_) λq=> ?_];·exact h.cY b hb hs a
 ·obtain⟨o,ho⟩:=c b q;rcases(h.ee o b ho).2.1 with g | g
  ·omega
  exact hs g
 rcases hw b q with g | g
 ·exact a g
 omega
theorem eO.yP{x:CV}{v:ae}(h:eO K E x v)(a : ∀t,E.σ t=none)(hA : ∀b,dw K E b->dw K' E' b/\K'.ob b=K.ob b):eO K' E' x v:=by
 cases h with
 | s h=>exact .s (h.mv hA)
 | sO=>exact .sO
 | own av hb ho hk hg hs=>rw[a] at hb;cases hb
 | bad h=>exact .bad h
theorem ou.yP{x:RV}{v:ae}(h:ou K E x v)(a : ∀t,E.σ t=none)(hA : ∀b,dw K E b->dw K' E' b/\K'.ob b=K.ob b):ou K' E' x v:=by
 cases h with
 | c h=>exact .c (h.yP a hA)
 | agg h=>exact .agg (h.mono λ_ _ q=>q.yP a hA)
theorem bX.yP{x:AV}{v:ae}(h:bX K E x v)(hc:x.clean)(a : ∀t,E.σ t=none)(hA : ∀b,dw K E b->dw K' E' b/\K'.ob b=K.ob b):bX K' E' x v:=by
 cases h with
 | r h=>exact .r (h.yP a hA)
 | ptr=>exact hc.elim
 | fj=>exact hc.elim
 | eF h=>exact .eF (h.mono λ_ _ q=>q.yP a hA)
 | skip=>exact .skip
 | bad=>exact .bad
def RV.eP:RV->List Nat
 | .c x=>x.eP
 | .agg cs=>cs.flatMap CV.eP
def AV.eP:AV->List Nat
 | .r x=>x.eP
 | _=> []
def RV.fz:RV->Option RV
 | .c x=>x.fz.map λy=> .c (.s y)
 | .agg cs=>(sP cs).map λl=> .agg (l.map .s)
def HX:List AV->Option Nat
 | []=>none
 | .ptr o 0::_=>some o
 | _::r=>HX r
def Zp(so:Option Nat):AV->Option AV
 | .ptr o 0=>if so=some o then some (.ptr 0 0) else none
 | .r x=>x.fz.map .r
 | _=>none
def HY(so:Option Nat):List AV->Option (List AV)
 | []=>some []
 | a::r=>match Zp so a,HY so r with
   | some x,some xs=>some (x::xs)
   | _,_=>none
theorem Zq{x:RV}{v:ae}(h:ou K E x v){y:RV}(hy:x.fz=some y)(h1 : ∀b,dw K E b->dw K' E' b/\K'.ob b=K.ob b)(h2 : ∀t b,t∈x.eP->E.σ t=some b->dw K' E' b/\K'.ob b=K.ob b):ou K' E' y v:=by
 cases h with
 | @c x v h=>
   simp only[RV.fz] at hy;cases hx:x.fz with
   | none=>rw[hx] at hy;cases hy
   | some z=>rw[hx] at hy;cases hy;exact .c (.s (Zi h hx h1 h2))
 | @agg cs vs h=>
   simp only[RV.fz] at hy;cases hx:sP cs with
   | none=>rw[hx] at hy;cases hy
   | some z=>rw[hx] at hy;cases hy;exact .agg ((HV h1 h hx h2).map λ_ _ q=> .s q)
def LJ (E:TE)(l:List Nat)(so:Option Nat)(b:Nat):Prop:=E.hid b\/(∃t,t∉l/\E.σ t=some b)\/∃o,so≠some o/\E.ρ o=some b
theorem Zr(h:TR Z K0 sp W0 K st fr aP E){l:List Nat}{so:Option Nat}{sp':Option Nat}(a : ∀b,sp'=some b->∃o,so=some o/\E.ρ o=some b):(∀b,dw K E b->dw K (E0 sp' (LJ E l so)) b/\K.ob b=K.ob b)/\(∀t b,t∈l->E.σ t=some b->dw K (E0 sp' (LJ E l so)) b/\K.ob b=K.ob b):=by
 constructor
 ·intro b hb;refine⟨⟨hb.1,λhh=> ?_,(λ_ q=>(by cases q)),λo q=> ?_⟩,rfl⟩
  ·rcases hh with hh | ⟨t,_,ht⟩ | ⟨o,_,ho⟩
   ·exact hb.2.1 hh
   ·exact hb.2.2.1 t ht
   exact hb.2.2.2 o ho
  have q:(if o=0 then sp' else none)=some b:=q;split at q;·obtain⟨o',_,k⟩:=a b q;exact hb.2.2.2 o' k
  cases q
 intro t b hl hb;obtain⟨k1,c,f⟩:=h.sig t b hb;refine⟨⟨c,λhh=> ?_,(λ_ q=>(by cases q)),λo q=> ?_⟩,rfl⟩
 ·rcases hh with hh | ⟨t',d,e⟩ | ⟨o,_,ho⟩
  ·exact(h.hid b hh).2.1 t hb
  ·exact d (h.inj t t' b hb e▸hl)
  exact h.sr t o b hb ho
 have q:(if o=0 then sp' else none)=some b:=q;split at q;·obtain⟨o',_,k⟩:=a b q;exact h.sr t o' b hb k
 cases q
theorem QM{sp':Option Nat}{li:Nat->Prop}{l:List Nat}{so:Option Nat}(g : ∀o b,so=some o->E.ρ o=some b->sp'=some b)(h1 : ∀b,dw K E b->dw K (E0 sp' li) b/\K.ob b=K.ob b)(h2 : ∀t b,t∈l->E.σ t=some b->dw K (E0 sp' li) b/\K.ob b=K.ob b) : ∀ {d e:List AV} {vs:List ae},R2 (bX K E) d vs->HY so d=some e->(∀t∈d.flatMap AV.eP,t∈l)->R2 (bX K (E0 sp' li)) e vs
 | _,e,_, .nil,h,_=>by cases h;exact .nil
 | a::d,e,v::vs, .cons ha ht,h,hl=>by
   simp only[HY] at h;split at h
   ·rename_i x xs c j;cases h;refine .cons ?_ (QM g h1 h2 ht j λt q=>hl t (by rw[zr];exact AW _ q));have k : ∀t∈a.eP,t∈l:=λt q=>hl t (by rw[zr];exact vY _ q);unfold Zp at c;split at c
    ·rename_i o;split at c;·rename_i m;cases c;obtain⟨b,n,rfl⟩:=ha.tN;exact .ptr (o:=0) (by show(if 0=0 then sp' else none)=some b;rw[iP rfl];exact g o b m n)
     cases c
    ·rename_i y;cases f:y.fz with
     | none=>rw[f] at c;cases c
     | some z=>
       rw[f] at c;cases c;cases ha with
       | r ha=>exact .r (Zq ha f h1 λt b q=>h2 t b (k t q))
    cases c
   cases h
theorem TR.grow(h:TR Z K0 sp W0 K st fr aP E)(a:K.nx<=K'.nx)(hk : ∀b,b<K.nx->K'.ob b=K.ob b):TR Z K0 sp W0 K' st fr aP E/\Mv K E (λ_=> .cY) K' E:=by
 have m:Mv K E (λ_=> .cY) K' E:=⟨λb hb=>⟨⟨ek hb.1 a,hb.2⟩,hk b hb.1⟩,λt b q _=>⟨q,hk b (h.sig t b q).2.1⟩,(λ_ _ _ q=>(by cases q)),λ_ _ q=>q⟩;have:=h.step m (BX:=st.nt) a (λb hb _=>hk b hb) rfl (λt b q=>⟨(h.sig t b q).1,ek (h.sig t b q).2.1 a,(h.sig t b q).2.2,λo=>h.sr t o b q,λhh=>(h.hid b hh).2.1 t q⟩) h.inj rfl;rw[aR.lh,TS.lh] at this;exact⟨this,m⟩
structure TD where
 node:List bk
structure wS(T:cF)(D:TD):Prop where
 node : ∀f,D.node.elem f=true->∀(K:CH) (k l:Int) (a:Option Addr) (n c:Nat),bw T f [.int .i64 k, .int .i64 l, .slice a n c] K λv K'=>v= .agg #[.int .i64 k, .int .i64 l, .string ⟨⟨[]⟩⟩, .int .i64 0, .slice a n c]/\∃o,K'=K.new o
def Zs:CV->Bool
 | .own _ _ _ _=>true
 | .s (.row _ _)=>true
 | .s (.sc (.slice _ _ _))=>true
 | _=>false
def H5(d:List AV)(fr:aR)(st:TS)(k:AV->aR->TS->Prop):Prop:=match d with
 | [.r (.c (.s (.sc (.int .i64 a)))), .r (.c (.s (.sc (.int .i64 b)))), .r (.c x)]=>match Zs x with
   | true=>k (.r (.agg [cS (.int .i64 a),cS (.int .i64 b),cS (.string ⟨⟨[]⟩⟩),cS (.int .i64 0),x])) fr st
   | false=>False
 | _=>False
def QN (o:Nat)(cs:List CV):Bool:=match o with
 | 0=>true
 | _=>(eG cs).isEmpty
def H6(Z:TP)(T:cF)(X:ce)(f:bk)(b:List AV)(fr:aR)(st:TS)(k:AV->aR->TS->Prop)(R:ae->Prop):Prop:=
 match HY (HX b) b with
 | none=>False
 | some c=>match HX b with
   | none=>TC Z T X f c none (λa _=>k a (EB (b.flatMap AV.eP) fr) ⟨st.nt,(wO (b.flatMap AV.eP) st).aw⟩) R
   | some o=>match st.aw[o]? with
     | some (v,e,cs)=>match sP cs,QN o cs with
       | some d,true=>TC Z T X f c (some (e,d)) (λa g=>k a (EB (b.flatMap AV.eP++cs.flatMap CV.eP) fr) ⟨st.nt,(wO (b.flatMap AV.eP++cs.flatMap CV.eP) st).aw.set o (v+1,e,g.map .s)⟩) R
       | _,_=>False
     | none=>False
def EG:List Nat->(List Nat->Prop)->Prop
 | [],k=>k []
 | n::l,k=>match n with
   | 0=>EG l λl=>k (0::l)
   | n+1=>EG l λl=>k ((n+1)::l)
theorem QO : ∀ {l:List Nat} {k:List Nat->Prop},EG l k=k l
 | [],_=>rfl
 | 0::l,k=>by simp only[EG,QO]
 | (n+1)::l,k=>by simp only[EG,QO]
def H7 (l:List Nat)(fr:aR)(st:TS)(k:aR->TS->Prop):Prop:=EG l λl=>match l with
 | []=>k fr st
 | a::l=>k (fr.act (mO (a::l))) (st.act (mO (a::l)))
theorem LK{l:List Nat}{fr:aR}{st:TS}{k:aR->TS->Prop}:H7 l fr st k=k (EB l fr) (wO l st):=by
 unfold H7;rw[QO];cases l<;>rfl
def LL(Z:TP)(T:cF)(X:ce)(f:bk)(b:List AV)(fr:aR)(st:TS)(k:AV->aR->TS->Prop)(R:ae->Prop):Prop:=
 match HY (HX b) b with
 | none=>False
 | some c=>match HX b with
   | none=>TC Z T X f c none (λa _=>H7 (b.flatMap AV.eP) fr st λfr s=>k a fr ⟨st.nt,s.aw⟩) R
   | some o=>match st.aw[o]? with
     | some (v,e,cs)=>match sP cs,QN o cs with
       | some d,true=>TC Z T X f c (some (e,d)) (λa g=>H7 (b.flatMap AV.eP++cs.flatMap CV.eP) fr st λfr s=>k a fr ⟨st.nt,s.aw.set o (v+1,e,g.map .s)⟩) R
       | _,_=>False
     | none=>False
theorem QP{Z:TP}{T:cF}{X:ce}{f:bk}{a:List AV}{fr:aR}{st:TS}{k:AV->aR->TS->Prop}{R:ae->Prop}:LL Z T X f a fr st k R=H6 Z T X f a fr st k R:=by
 unfold LL H6;simp only[LK]
theorem QQ{fr:aR}(a : ∀t,bX K E (fr t) (aP t)) : ∀(l:List au),R2 (bX K E) (l.map (dV fr)) (l.map (aO aP))
 | []=> .nil
 | x::l=> .cons (iQ a x) (QQ a l)
theorem ahs{D:TD}(w:wS T D)(h:TR Z K0 sp W0 K st fr aP E){f:bk}(y:D.node.elem f=true){args:List au}{k:AV->aR->TS->Prop}(hk:H5 (args.map (dV fr)) fr st k):bw T f (args.map (aO aP)) K λv g=>∃a aj aQ j,TR Z K0 sp W0 g aQ aj aP j/\bX g j a v/\gg K st E g aQ j/\k a aj aQ:=by
 have d:=QQ h.fH args;obtain⟨l,ha⟩ : ∃l,args.map (dV fr)=l:=⟨_,rfl⟩;obtain⟨vs,hv⟩ : ∃vs,args.map (aO aP)=vs:=⟨_,rfl⟩;rw[ha] at hk d;rw[hv] at d⊢;unfold H5 at hk;split at hk
 ·rename_i a b x;cases hx:Zs x with
  | false=>rw[hx] at hk;exact hk.elim
  | true=>
  rw[hx] at hk;cases d with
  | cons h1 d=>cases d with
    | cons h2 d=>cases d with
      | cons h3 d=>
        cases d;obtain rfl:=ox h1 (u:= .int .i64 a) rfl;obtain rfl:=ox h2 (u:= .int .i64 b) rfl;rename_i t;cases h3 with
        | r h3=>cases h3 with
          | c h3=>
            have : ∃q n c,t=Value.slice q n c:=by
             cases h3 with
             | s h3=>
               cases h3 with
               | sc h3=>
                 cases t with
                 | slice q n c=>exact⟨q,n,c,rfl⟩
                 | _=>cases hx
               | ot=>exact⟨_,_,_,rfl⟩
               | row=>exact⟨_,_,_,rfl⟩
               | lk=>cases hx
               | wL=>cases hx
               | sub=>cases hx
             | sO=>exact⟨_,_,_,rfl⟩
             | own=>exact⟨_,_,_,rfl⟩
             | bad=>cases hx
            obtain⟨q,n,c,rfl⟩:=this;refine(w.node f y K a b q n c).mono λv g ⟨z,o,A⟩=> ?_;subst z A;obtain⟨t1,m⟩:=h.grow (K':=K.new o) (nz _) λb hb=>kN Om;have h3:=h3.mv m;rw[CV.lh] at h3;exact⟨_,_,_,E,t1, .r (.agg (vs:= [_,_,_,_,_]) (.cons (.s (.sc rfl)) (.cons (.s (.sc rfl)) (.cons (.s (.sc rfl)) (.cons (.s (.sc rfl)) (.cons h3 .nil)))))),⟨λ_ h=>h,λ_ _ h=>h,λo v e cs h'=>⟨v,cs,h',ag _,λ_ b hb=>kN (by have:=(h.ee o b hb).1;omega)⟩⟩,hk⟩
 exact hk.elim
theorem QR : ∀ {cs:List CV} {a:List SV},sP cs=some a->a.length=cs.length
 | [],a,h=>by cases h;rfl
 | x::cs,a,h=>by
   simp only[sP] at h;split at h;·rename_i y ys c b;cases h;simp[QR b]
   cases h
theorem QS : ∀ {cs:List CV} {a:List SV},sP cs=some a->eG (a.map .s)=eG cs/\∀vs,jP (a.map .s) vs=jP cs vs
 | [],a,h=>by cases h;exact⟨rfl,λ_=>rfl⟩
 | x::cs,a,h=>by
   simp only[sP] at h;split at h
   ·rename_i y ys b d;cases h;obtain⟨i1,i2⟩:=QS d;rw[dq];cases x with
    | s z=>
      cases b;refine⟨by rw[BW,i1,<-BW],λvs=> ?_⟩;cases vs with
      | nil=>cases y<;>rfl
      | cons v vs=>rw[yO,i2,<-yO]
    | own t e sz gs=>
      cases b;refine⟨i1,λvs=> ?_⟩;cases vs with
      | nil=>rfl
      | cons v vs=>exact i2 vs
    | bad=>cases b
   cases h
theorem JR.hd{v v':Nat}{e:aH}{cs:List CV}{r r':List (Nat×aH×List CV)}{W:Nat->Prop}(h:JR Z ((v,e,cs)::r) K sp W):JR Z ((v',e,cs)::r') K sp W:=h
theorem TR.call(h:TR Z K0 sp W0 K st fr aP E){W W':Nat->Prop}{o p v:Nat}{e:aH}{cs us:List CV}{os':List ae}(f:E.ρ o=some p)(ho:st.aw[o]? = some (v,e,cs))(j:K.nx<=K'.nx)(hk : ∀b,b<K.nx->b≠p->¬W b->K'.ob b=K.ob b)(hp:K'.ob p= .cells os' e .ex)(hw : ∀b,W b->E.hid b/\(W0 b\/K0.nx<=b))(r : ∀b,W' b->E.hid b\/(K.nx<=b/\b<K'.nx))(I : ∀b,W' b->W0 b\/K0.nx<=b)(hs:R2 (eO K' ⟨E.σ,E.ρ,λb=>E.hid b\/W' b⟩) us os')(z : ∃s:Nat->Prop,(∀b,s b->(E.hid b\/W' b)/\(W0 b\/K0.nx<=b))/\JR Z (st.aw.set o (v+1,e,us)) K' (E.ρ 0) s) :
 TR Z K0 sp W0 K' ⟨st.nt,st.aw.set o (v+1,e,us)⟩ fr aP ⟨E.σ,E.ρ,λb=>E.hid b\/W' b⟩/\gg K st E K' ⟨st.nt,st.aw.set o (v+1,e,us)⟩ ⟨E.σ,E.ρ,λb=>E.hid b\/W' b⟩:=by
 obtain⟨J,r2,u⟩:=h.ee o p f;have k : ∀b,b<K.nx->¬E.hid b->b≠p->K'.ob b=K.ob b:=λb hb hh hp=>hk b hb hp λq=>hh (hw b q).1;have m:Mv K E (λ_=> .cY) K' ⟨E.σ,E.ρ,λb=>E.hid b\/W' b⟩:=by
  refine⟨λb hb=>⟨⟨ek hb.1 j,λq=> ?_,hb.2.2⟩,k b hb.1 hb.2.1 λe=>hb.2.2.2 o (e▸f)⟩,λt b q _=>⟨q,k b (h.sig t b q).2.1 (λhh=>(h.hid b hh).2.1 t q) λe=>h.sr t o b q (e▸f)⟩,(λ_ _ _ q=>(by cases q)),λ_ _ q=>q⟩;rcases q with q | q
  ·exact hb.2.1 q
  rcases r b q with g | g
  ·exact hb.2.1 g
  have:=hb.1;omega
 have A : ∀ {x v},bX K E x v->bX K' ⟨E.σ,E.ρ,λb=>E.hid b\/W' b⟩ x v:=λq=>by
  have:=q.mv m;rwa [AV.lh] at this
 have B : ∀x v,eO K E x v->eO K' ⟨E.σ,E.ρ,λb=>E.hid b\/W' b⟩ x v:=λx v q=>by
  have:=q.mv m;rwa [CV.lh] at this
 have w : ∀b,b<K0.nx->¬W0 b->¬W b:=λb hb n q=>by
  rcases(hw b q).2 with g | g
  ·exact n g
  omega
 refine⟨⟨cM h.nx j,λb hb y n=> ?_,λb hb=> ?_,λb hb=> ?_,z,λt b q=> ?_,h.inj,h.sr,λo' b q=> ?_,h.pY,λo' v' e' cs' q=> ?_,λt=>A (h.fH t)⟩,⟨λ_ q=> .inl q,λ_ _ q=>q,λo' v' e' cs' q=> ?_⟩⟩
 ·refine(hk b (ek hb h.nx) (λe=> ?_) (w b hb n)).trans (h.cY b hb y n);subst e;rcases r2 with r2 | r2
  ·omega
  exact y r2
 ·obtain⟨k1,a,c,C⟩:=h.rO b hb;refine⟨k1,a,c,(hk b (ek k1 h.nx) (λe=> ?_) (w b k1 c)).trans C⟩;subst e;rcases r2 with r2 | r2
  ·omega
  exact a r2
 ·have F:E.hid b\/(K.nx<=b/\b<K'.nx):=hb.elim .inl (r b);rcases F with hb | ⟨hb,G⟩
  ·obtain⟨k1,a,c⟩:=h.hid b hb;exact⟨ek k1 j,a,c⟩
  exact⟨G,λt q=>by have:=(h.sig t b q).2.1;omega,λo q=>by have:=(h.ee o b q).1;omega⟩
 ·obtain⟨k1,a,c⟩:=h.sig t b q;exact⟨k1,ek a j,c⟩
 ·obtain⟨k1,a,c⟩:=h.ee o' b q;exact⟨ek k1 j,a,by show o'<(st.aw.set o _).length;rw[JB];exact c⟩
 ·have q:(st.aw.set o (v+1,e,us))[o']? = some (v',e',cs'):=q;by_cases d:o=o'
  ·subst d;rw[Jl u] at q;cases q;exact⟨p,os',f,hp,hs⟩
  rw[FL d] at q;obtain⟨l,H,k1,a,c⟩:=h.aw o' v' e' cs' q;exact⟨l,H,k1,(k l (h.ee o' l k1).1 (λhh=>(h.hid l hh).2.2 o' k1) λe=>d (h.pY o o' p f (e▸k1))).trans a,c.mono B⟩
 by_cases d:o=o'
 ·subst d;rw[ho] at q;cases q;exact⟨v+1,us,Jl u,nz _,λe=>by omega⟩
 refine⟨v',cs',(FL d).trans q,ag _,λ_ l hl=>k l (h.ee o' l hl).1 (λhh=>(h.hid l hh).2.2 o' hl) λe=>d (h.pY o o' p f (e▸hl))⟩
theorem aht{o:Nat}{cs:List CV}(h:QN o cs=true):o=0\/eG cs= []:=by
 cases o with
 | zero=>exact .inl rfl
 | succ o=>exact .inr (List.isEmpty_iff.1 h)
theorem ahu(h:TR Z K0 sp W0 K st fr aP E){f:bk}{args:List au}{k:AV->aR->TS->Prop}{R:ae->Prop}(hk:LL Z T X f (args.map (dV fr)) fr st k R):BO T X f (args.map (aO aP)) K (λv n=>∃a aj aQ C,TR Z K0 sp W0 n aQ aj aP C/\bX n C a v/\gg K st E n aQ C/\k a aj aQ) (PX K0 sp W0 R):=by
 have J:=QQ h.fH args;obtain⟨c,ha⟩ : ∃c,args.map (dV fr)=c:=⟨_,rfl⟩;obtain⟨vs,hv⟩ : ∃vs,args.map (aO aP)=vs:=⟨_,rfl⟩;rw[ha] at hk J;rw[hv] at J⊢;rw[QP] at hk;unfold H6 at hk;split at hk;·exact hk.elim
 rename_i az L;split at hk
 ·rename_i S;rw[S] at L;obtain⟨f1,f2⟩:=Zr h (l:=c.flatMap AV.eP) (so:=none) (sp':=none) (λ_ q=>(by cases q));have hz:=QM (li:=LJ E (c.flatMap AV.eP) none) (λo b q=>(by cases q)) f1 f2 J L λt q=>q;refine(hk K none _ (λ_=>False) vs (λb hb=>⟨?_,(λq=>(by cases q))⟩) (λ_ h=>h.elim) (λb hb=>⟨ek (h.rO b hb).1 h.nx,(λq=>(by cases q)),id,(h.rO b hb).2.2.2⟩) hz rfl λ_ h=>h).mono (λv n ⟨k1,M,li,W',a,V,y,Y,k4,k5,k6,F⟩=> ?_) λv n hp=>hp.up h (λb q=>(by cases q)) λb q=>q.elim
  ·rcases hb with hb | ⟨t,_,ht⟩ | ⟨o,_,ho⟩
   ·exact(h.hid b hb).1
   ·exact(h.sig t b ht).2.1
   exact(h.ee o b ho).1
  obtain⟨C,t1,m,t2,rfl⟩:=h.fz (c.flatMap AV.eP);obtain⟨u1,m1⟩:=t1.grow k1 λb hb=>M b hb (λq=>(by cases q)) id;rw[LH,LI] at F;refine⟨a,_,_,_,u1,Y.yP k4 (λ_=>rfl) λb hb=>⟨⟨hb.1,λhh=>hb.2.1 (y.up b (.inl hh)),λt q=> ?_,λo q=>hb.2.1 (y.up b (.inr (.inr ⟨o,(λq=>(by cases q)),q⟩)))⟩,rfl⟩,⟨λ_ q=>q,λo b q=>q,λo v e cs q=> ?_⟩,F⟩
  ·have q:(if t∈c.flatMap AV.eP then none else E.σ t)=some b:=q;split at q;·cases q
   rename_i hn;exact hb.2.1 (y.up b (.inr (.inl ⟨t,hn,q⟩)))
  obtain⟨v',cs',d,j,z⟩:=t2.mj o v e cs q;exact⟨v',cs',d,j,λe b hb=>(M b (h.ee o b hb).1 (λq=>(by cases q)) id).trans (z e b hb)⟩
 rename_i o S;split at hk
 ·rename_i v e cs G;split at hk
  ·rename_i ss QU kK;rw[S] at L;obtain⟨p,os,o1,o2,o3⟩:=h.aw o v e cs G;obtain⟨f1,f2⟩:=Zr h (l:=c.flatMap AV.eP++cs.flatMap CV.eP) (so:=some o) (sp':=some p) (λb q=>⟨o,rfl,q▸o1⟩);have hz:=QM (li:=LJ E (c.flatMap AV.eP++cs.flatMap CV.eP) (some o)) (λo' b u q2=>by cases u;rw[<-o1,q2]) f1 f2 J L λt q=>vY _ q;have QV:=HV f1 o3 QU λt b u q2=>f2 t b (AW _ u) q2;have LN:p<K.nx:=(h.ee o p o1).1;obtain⟨BZ,QW⟩:=QS QU;obtain⟨Wc,w1,w2⟩:=h.wr;obtain⟨W,hw,hSJ,hor⟩ : ∃W:Nat->Prop,(∀b,W b->E.hid b/\(W0 b\/K0.nx<=b))/\SJ Z K (some p) W (some (e,ss))/\(o=0\/∀b,¬W b):=by
    by_cases hl:eG cs= []
    ·exact⟨λ_=>False,λ_ h=>h.elim, .inl ⟨BZ.trans hl,λ_ h=>h⟩, .inr λ_ h=>h⟩
    have B:=(aht kK).resolve_right hl;subst B;refine⟨Wc,w1,?_, .inl rfl⟩;match cx:st.aw,w2,G with
    | (v',e',cs')::r,w2,G=>
      cases G;rcases w2 with ⟨g,_⟩ | ⟨_,p',Aa,d,j,z,A⟩
      ·exact absurd g hl
      rw[o1] at d;cases d;exact .inr ⟨by rw[BZ];exact hl,p,Aa,rfl,j,by rw[z,<-QR QU,kZ],by rw[BZ,QW];exact A⟩
   refine(hk K (some p) _ W vs (λb hb=>⟨?_,λq=> ?_⟩) (λb hb=> .inl (hw b hb).1) (λb hb=>⟨ek (h.rO b hb).1 h.nx,λq=> ?_,λq=> ?_,(h.rO b hb).2.2.2⟩) hz ⟨p,os,rfl,LN,o2,QV⟩ hSJ).mono (λv1 n ⟨k1,M,li,W',a,V,y,Y,k4,k5,k6,F⟩=> ?_) λv n hp=>hp.up h (λb q=>⟨o,by cases q;exact o1⟩) λb q=>(hw b q).2
   ·rcases hb with hb | ⟨t,_,ht⟩ | ⟨o,_,ho⟩
    ·exact(h.hid b hb).1
    ·exact(h.sig t b ht).2.1
    exact(h.ee o b ho).1
   ·cases q;rcases hb with hb | ⟨t,_,ht⟩ | ⟨o',u,ho⟩
    ·exact(h.hid p hb).2.2 o o1
    ·exact h.sr t o p ht o1
    exact u (by rw[h.pY o o' p o1 ho])
   ·cases q;obtain⟨d,j,_⟩:=h.rO p hb;rcases(h.ee o p o1).2.1 with g | g
    ·omega
    exact j g
   ·obtain⟨d,_,z,_⟩:=h.rO b hb;rcases(hw b q).2 with g | g
    ·exact z g
    omega
   obtain⟨p',H,s1,s2,s3,s4⟩:=k5;cases s1;obtain⟨C,t1,m,t2,rfl⟩:=h.fz (c.flatMap AV.eP++cs.flatMap CV.eP);have pG : ∀b,dw n (E0 (some p) li) b->b≠p/\¬(E.hid b\/W' b)/\(∀t,(if t∈c.flatMap AV.eP++cs.flatMap CV.eP then none else E.σ t)≠some b)/\(∀o,E.ρ o≠some b)/\b<n.nx:=λb hb=>by
    have N:b≠p:=λe=>hb.2.2.2 0 (by show(if 0=0 then some p else none)=some b;rw[iP rfl,e]);refine⟨N,λhh=>hb.2.1 ?_,λt q=> ?_,λo' q=> ?_,hb.1⟩
    ·rcases hh with hh | hh
     ·exact y.up b (.inl hh)
     exact(y.w b hh).1
    ·split at q;·cases q
     rename_i hn;exact hb.2.1 (y.up b (.inr (.inl ⟨t,hn,q⟩)))
    by_cases ho:o'=o
    ·subst ho;rw[o1] at q;cases q;exact N rfl
    exact hb.2.1 (y.up b (.inr (.inr ⟨o',λq=>ho (by cases q;rfl),q⟩)))
   have hN : ∀b,W' b->E.hid b\/(K.nx<=b/\b<n.nx):=λb q=>by
    obtain⟨u,q2⟩:=y.w b q;rcases q2 with q2 | q2
    ·exact .inl (hw b q2).1
    exact .inr ⟨q2,y.dn b u⟩
   have QT : ∀b,W' b->W0 b\/K0.nx<=b:=λb q=>by
    rcases(y.w b q).2 with q2 | q2
    ·exact(hw b q2).2
    exact .inr (cM h.nx q2)
   have gz:(⟨st.nt,(st.act (mO (c.flatMap AV.eP++cs.flatMap CV.eP))).aw⟩:TS).aw[o]? = some (v,e,cs.map (CV.act (mO (c.flatMap AV.eP++cs.flatMap CV.eP)))):=by
    show(st.aw.map _)[o]? = _;rw[kF,G];rfl
   have J5:o<(st.act (mO (c.flatMap AV.eP++cs.flatMap CV.eP))).aw.length:=(List.getElem?_eq_some_iff.1 gz).1;have qA : ∀b,b<K.nx->b≠p->¬W b->n.ob b=K.ob b:=λb hb N EF=>M b hb (λq=>N (by cases q;rfl)) EF;obtain⟨u1,u2⟩:=t1.call (W:=W) (W':=W') (us:=V.map .s) (os':=H) (p:=p) o1 gz k1 qA s3 hw hN QT (s4.map λx v q=> .s (q.mv λb hb=>by
    obtain⟨d,j,z,A,I⟩:=pG b hb;exact⟨⟨I,j,z,A⟩,rfl⟩)) (by
    by_cases B:o=0
    ·subst B;refine⟨W',λb q=>⟨.inr q,QT b q⟩,?_⟩;show JR Z ((st.act (mO (c.flatMap AV.eP++cs.flatMap CV.eP))).aw.set 0 (v+1,e,V.map .s)) n (E.ρ 0) W';rw[o1];match cx:(st.act (mO (c.flatMap AV.eP++cs.flatMap CV.eP))).aw,J5 with
     | _::r,_=>exact JR.hd (v:=0) (r:= []) k6
    have Zu:=hor.resolve_left B;obtain⟨W2,d,j⟩:=t1.wr;refine⟨W2,λb q=>⟨.inl (d b q).1,(d b q).2⟩,JR.mv j (by rw[JB]) (λv' e' cs' q=> ?_) (λb q=> ?_) k1⟩;·refine⟨v',cs',(FL B).trans q,rfl,rfl,λ_ O uZ u q2=>⟨uZ,?_,rfl,rfl⟩⟩;have u:E.ρ 0=some O:=u;exact(qA O (h.ee 0 O u).1 (λe=>B (h.pY o 0 p o1 (e▸u))) (Zu O)).trans q2
    have hh:=h.hid b (d b q).1;exact qA b hh.1 (λe=>hh.2.2 o (e▸o1)) (Zu b))
   rw[LH,LI] at F;refine⟨a,_,_,_,u1,Y.yP k4 (λ_=>rfl) λb hb=> ?_,⟨λb q=> .inl q,λo b q=>q,λo' v' e' cs' q=> ?_⟩,F⟩;·obtain⟨d,j,z,A,I⟩:=pG b hb;exact⟨⟨I,j,z,A⟩,rfl⟩
   obtain⟨v2,Ac,d,j,z⟩:=t2.mj o' v' e' cs' q;obtain⟨v3,cs3,A,I,g6⟩:=u2.mj o' v2 e' Ac d;exact⟨v3,cs3,A,cM j I,λe b hb=>g6 Om b hb⟩
  exact hk.elim
 exact hk.elim
end
section
open Go Go.RowKit
def po (fr:aR):Option Nat->AV->aR
 | none,_=>fr
 | some d,a=>λt=>match q9 t d with
   | true=>a
   | false=>fr t
theorem H8{fr:aR}{d t:Nat}{a:AV}:po fr (some d) a t=if t=d then a else fr t:=by
 show(match q9 t d with | true=>a | false=>fr t)=_;split;·rename_i h;rw[iP (xx h)]
 rename_i h;rw[iN (ac2 h)]
def yQ (b:Bool)(a no:Prop):Prop:=match b with
 | true=>a
 | false=>no
def rP (o:Option AV)(k:AV->Prop):Prop:=match o with
 | some a=>k a
 | none=>False
def Ad (o:Option (AV×aR×TS))(k:AV->aR->TS->Prop):Prop:=match o with
 | some (a,fr,st)=>k a fr st
 | none=>False
def wT(fr:aR)(k:AV->Prop):dN->Prop
 | .idx x i sz=>match (dV fr x).Lz,(dV fr i).raw with
   | some (t,z,gs),some (.int _ j)=>EA sz z/\∃(n:Nat) (g:List SV),j=(n:Int)/\gs[n]? = some g/\k (.fj t g 0)
   | _,_=>False
 | .len x=>match dV fr x with
   | .r (.c (.s (.row _ gs)))=>gs.length<=maxLen->k (iS gs.length)
   | .r (.c (.own _ _ _ gs))=>gs.length<=maxLen->k (iS gs.length)
   | .r (.c (.s (.sub _ gs)))=>gs.length<=maxLen->k (iS gs.length)
   | a=>rP ((lenOf a).map λn=>iS n) k
 | x=>rP (pm fr x) k
def yR(fr:aR)(st:TS)(k:AV->aR->TS->Prop):oX->Prop
 | .xW e sz n z ps=>match Nat.ble 1 n&&(Nat.ble (n*sz) 16777216&&(Nat.ble n 16777216&&HM e sz)),EC sz (ps.map λp=>(dV fr p.2).tM) with
   | true,some gs=>match HQ gs with
     | some hs=>ps.map (·.1)=List.range n/\H7 (gs.flatten.flatMap CV.eP) fr st λfr s=>k (.r (.c (.own st.nt e sz hs))) fr ⟨st.nt+1,s.aw⟩
     | none=>False
   | _,_=>False
 | x=>Ad (uX fr st x) k
theorem ahv{fr:aR}{st:TS}{k:AV->aR->TS->Prop}{x:oX}(h:yR fr st k x) : ∃a aj aQ,uX fr st x=some (a,aj,aQ)/\k a aj aQ:=by
 unfold yR at h;split at h
 ·rename_i e sz n z ps;split at h
  ·rename_i gs h1 h2;split at h;·rename_i hs h3;obtain⟨h4,h5⟩:=h;simp only[eZ] at h1;rw[LK] at h5;refine⟨_,_,_,?_,h5⟩;simp only[uX,h2,h3];rw[iP ⟨h4,ja h1.1,ja h1.2.1,ja h1.2.2.1,h1.2.2.2⟩]
   exact h.elim
  exact h.elim
 unfold Ad at h;split at h;·rename_i a aj aQ e;exact⟨a,aj,aQ,e,h⟩
 exact h.elim
def Zv (o:Option (Nat×aH×Nat))(fr:aR)(st:TS)(k:aR->TS->Prop):Prop:=match o with
 | none=>k fr st
 | some (t,_)=>k (fr.act (lg (some t))) (st.act (lg (some t)))
theorem QX{o:Option (Nat×aH×Nat)}{fr:aR}{st:TS}{k:aR->TS->Prop}:Zv o fr st k=k (LD o fr) (BT o st):=by
 cases o<;>rfl
def Zw (n bytes:Nat):Prop:=n*bytes<=140737488355328/\n<=maxLen
def QY(e sz:Nat):Option (Nat×aH×Nat)->Bool
 | none=>true
 | some (_,e',m5)=>q9 e' e&&q9 m5 sz
def Zx (sz:Nat):Option Nat->Bool
 | none=>true
 | some m5=>q9 m5 sz
theorem ahw{e sz:Nat}{o:Option (Nat×aH×Nat)}(h:QY e sz o=true):QJ e sz o:=by
 cases o with
 | none=>trivial
 | some p=>
   obtain⟨t,e',m5⟩:=p;simp only[QY,eZ] at h;exact⟨xx h.1,xx h.2⟩
theorem ahx{sz:Nat}{o:Option Nat}(h:Zx sz o=true):EA sz o:=by
 cases o with
 | none=>trivial
 | some p=>exact xx h
def yS(fr:aR)(st:TS)(k:AV->aR->TS->Prop):hO->Prop
 | .app e sz bytes s x=>match (dV fr s).QI,(dV fr x).rowOf with
   | some (o,gs),some (_,z,hs)=>match QY e sz o&&HM e sz,Zx sz z with
     | true,true=>Zw (gs.length+hs.length) bytes/\Zv o fr st λfr s=>k (.r (.c (.own st.nt e sz (gs++hs)))) fr ⟨st.nt+1,s.aw⟩
     | _,_=>False
   | _,_=>False
 | x=>Ad (wQ fr st x) k
def LO(Z:TP)(T:cF)(X:ce)(D:TD)(f:bk)(a:List AV)(fr:aR)(st:TS)(k:AV->aR->TS->Prop)(R:ae->Prop):Prop:=match D.node.elem f with
 | true=>H5 a fr st k
 | false=>LL Z T X f a fr st k R
def Ae (Z:TP)(T:cF)(X:ce)(D:TD)(op:fG)(fr:aR)(st:TS)(k:AV->aR->TS->Prop)(R:ae->Prop):Prop:=match op with
 | .p x=>wT fr (λa=>k a fr st) x
 | .l x=>rP (wM fr st x) λa=>k a fr st
 | .a x=>yR fr st k x
 | .w x=>yS fr st k x
 | .call f args=>LO Z T X D f (args.map (dV fr)) fr st k R
 | .nG _ _=>False
structure Rec where
 d:Nat
 o:Nat
 off:Nat
 mj:Nat
def wU (n:Nat)(k:Nat->Prop):Prop:=match n with
 | 0=>k 0
 | n+1=>k (n+1)
def Zy (v:ae)(k:ae->Prop):Prop:=match v with
 | .int kd n=>k (.int kd n)
 | .bool b=>yQ b (k (.bool true)) (k (.bool false))
 | .string s=>k (.string s)
 | .slice a n c=>k (.slice a n c)
 | v=>k v
def QZ (x:SV)(k:SV->Prop):Prop:=match x with
 | .sc v=>Zy v λv=>k (.sc v)
 | .row sz gs=>k (.row sz gs)
 | .lk x=>k (.lk x)
 | .sub sz gs=>k (.sub sz gs)
def H9 (x:CV)(k:CV->Prop):Prop:=match x with
 | .s x=>QZ x λx=>k (.s x)
 | .own t e sz gs=>wU t λt=>k (.own t e sz gs)
 | .bad=>k .bad
def LP:List CV->(List CV->Prop)->Prop
 | [],k=>k []
 | x::l,k=>H9 x λx=>LP l λl=>k (x::l)
def Ia (x:RV)(k:RV->Prop):Prop:=match x with
 | .c x=>H9 x λx=>k (.c x)
 | .agg cs=>LP cs λcs=>k (.agg cs)
def LQ:List RV->(List RV->Prop)->Prop
 | [],k=>k []
 | x::l,k=>Ia x λx=>LQ l λl=>k (x::l)
def Ib (a:AV)(k:AV->Prop):Prop:=match a with
 | .r x=>Ia x λx=>k (.r x)
 | .ptr o off=>wU o λo=>wU off λoff=>k (.ptr o off)
 | .fj t g off=>k (.fj t g off)
 | .eF l=>LQ l λl=>k (.eF l)
 | .skip=>k .skip
 | .bad=>k .bad
def Zz (v:ae)(k:ae->Prop):Prop:=match v with
 | .int kd n=>k (.int kd n)
 | .bool b=>k (.bool b)
 | .string s=>k (.string s)
 | .slice a n c=>k (.slice a n c)
 | v=>k v
def Q0 (x:SV)(k:SV->Prop):Prop:=match x with
 | .sc v=>Zz v λv=>k (.sc v)
 | .row sz gs=>k (.row sz gs)
 | .lk x=>k (.lk x)
 | .sub sz gs=>k (.sub sz gs)
def LR (x:CV)(k:CV->Prop):Prop:=match x with
 | .s x=>Q0 x λx=>k (.s x)
 | .own t e sz gs=>wU t λt=>k (.own t e sz gs)
 | .bad=>k .bad
def LU:List CV->(List CV->Prop)->Prop
 | [],k=>k []
 | x::l,k=>LR x λx=>LU l λl=>k (x::l)
def LV:List (Nat×aH×List CV)->(List (Nat×aH×List CV)->Prop)->Prop
 | [],k=>k []
 | (v,e,cs)::l,k=>wU v λv=>LU cs λcs=>LV l λl=>k ((v,e,cs)::l)
def Q1 (st:TS)(k:TS->Prop):Prop:=match st with
 | ⟨n,l⟩=>wU n λn=>LV l λl=>k ⟨n,l⟩
theorem EI{n:Nat}{k:Nat->Prop}:wU n k=k n:=by cases n<;>rfl
theorem ahy{v:ae}{k:ae->Prop}:Zy v k=k v:=by
 cases v with
 | bool b=>cases b<;>rfl
 | _=>rfl
theorem ahz{x:SV}{k:SV->Prop}:QZ x k=k x:=by
 cases x with
 | sc v=>simp only[QZ,ahy]
 | row=>rfl
 | lk=>rfl
 | sub=>rfl
theorem ZA{x:CV}{k:CV->Prop}:H9 x k=k x:=by
 cases x with
 | s x=>simp only[H9,ahz]
 | own=>simp only[H9,EI]
 | bad=>rfl
theorem ZB : ∀ {l:List CV} {k:List CV->Prop},LP l k=k l
 | [],_=>rfl
 | x::l,k=>by simp only[LP,ZA,ZB]
theorem ZC{x:RV}{k:RV->Prop}:Ia x k=k x:=by
 cases x with
 | c x=>simp only[Ia,ZA]
 | agg cs=>simp only[Ia,ZB]
theorem ZD : ∀ {l:List RV} {k:List RV->Prop},LQ l k=k l
 | [],_=>rfl
 | x::l,k=>by simp only[LQ,ZC,ZD]
theorem ahA{a:AV}{k:AV->Prop}:Ib a k=k a:=by
 cases a with
 | r x=>simp only[Ib,ZC]
 | ptr o off=>simp only[Ib,EI]
 | eF l=>simp only[Ib,ZD]
 | _=>rfl
theorem ahB{v:ae}{k:ae->Prop}:Zz v k=k v:=by cases v<;>rfl
theorem ahC{x:SV}{k:SV->Prop}:Q0 x k=k x:=by
 cases x with
 | sc v=>simp only[Q0,ahB]
 | row=>rfl
 | lk=>rfl
 | sub=>rfl
theorem ahD{x:CV}{k:CV->Prop}:LR x k=k x:=by
 cases x with
 | s x=>simp only[LR,ahC]
 | own=>simp only[LR,EI]
 | bad=>rfl
theorem ZE : ∀ {l:List CV} {k:List CV->Prop},LU l k=k l
 | [],_=>rfl
 | x::l,k=>by simp only[LU,ahD,ZE]
theorem ZF : ∀ {l:List (Nat×aH×List CV)} {k:List (Nat×aH×List CV)->Prop},LV l k=k l
 | [],_=>rfl
 | (v,e,cs)::l,k=>by simp only[LV,EI,ZE,ZF]
theorem ahE{st:TS}{k:TS->Prop}:Q1 st k=k st:=by
 obtain⟨n,l⟩:=st;simp only[Q1,EI,ZF]
def yT (Z:TP)(T:cF)(X:ce)(D:TD)(op:fG)(fr:aR)(st:TS)(k:AV->aR->TS->Prop)(R:ae->Prop):Prop:=Ae Z T X D op fr st (λa f s=>Ib a λa=>Q1 s λs=>k a f s) R
theorem Q2{Z:TP}{T:cF}{X:ce}{D:TD}{op:fG}{fr:aR}{st:TS}{k:AV->aR->TS->Prop}{R:ae->Prop}:yT Z T X D op fr st k R=Ae Z T X D op fr st k R:=by
 unfold yT;congr 1
 funext a f s
 rw[ahA,ahE]
def LW:List Rec->(List Rec->Prop)->Prop
 | [],k=>k []
 | ⟨d,o,off,v⟩::l,k=>wU o λo=>wU off λoff=>wU v λv=>LW l λl=>k (⟨d,o,off,v⟩::l)
theorem LY : ∀ {l:List Rec} {k:List Rec->Prop},LW l k=k l
 | [],_=>rfl
 | ⟨d,o,off,v⟩::l,k=>by simp only[LW,EI,LY]
def Q4 (c b:Bool):Bool:=match b with
 | true=>c
 | false=> !c
def yU (fr:aR)(g:Option (Nat×Bool))(a no:Prop):Prop:=match g with
 | none=>a
 | some (s,b)=>match fr s with
   | .r (.c (.s (.sc (.bool c))))=>yQ (Q4 c b) a no
   | .skip=>no
   | _=>False
def Af (Z:TP)(T:cF)(X:ce)(D:TD)(R:ae->Prop):List Item->aR->TS->(aR->TS->Prop)->Prop
 | [],fr,st,k=>k fr st
 | it::r,fr,st,k=>yU fr it.guard (yT Z T X D it.op fr st (λa aj aQ=>Af Z T X D R r (po aj it.dst a) aQ k) R) (Af Z T X D R r (po fr it.dst .skip) st k)
def LZ (fr:aR)(st:TS)(d:Nat)(x:au):List Rec:=match dV fr x with
 | .ptr o off=>match st.aw[o]? with
   | some (v,_,_)=> [⟨d,o,off,v⟩]
   | none=> []
 | _=> []
def Q5(fr:aR)(st:TS)(it:Item):List Rec:=match it.op,it.dst with
 | .l (.ld x),some d=>LZ fr st d x
 | .l (.j9 _ x),some d=>LZ fr st d x
 | _,_=> []
def Ic:List Item->aR->TS->Prop
 | [],_,_=>True
 | it::r,fr,st=>yU fr it.guard (match it.op with
   | .p x=>wT fr (λa=>Ic r (po fr it.dst a) st) x
   | .l x=>rP (wM fr st x) λa=>Ic r (po fr it.dst a) st
   | _=>False) (Ic r (po fr it.dst .skip) st)
def ahF (q:Option (List Item))(fr:aR)(st:TS)(R:ae->Prop):ae->Prop:=match q with
 | some Zl=>λv=>Ic Zl fr st/\R v
 | none=>λ_=>False
def L0 (q:Option (List Item))(op:fG):Option (List Item):=match o9 op with
 | true=>q
 | false=>none
def L1 (b:Bool)(s:TS)(l:List TS):List TS:=match b with
 | true=>s::l
 | false=>l
def Ag (Z:TP)(T:cF)(X:ce)(D:TD)(R:ae->Prop):Option (List Item)->List Item->aR->TS->(aR->TS->List TS->List Rec->Prop)->Prop
 | _,[],fr,st,k=>k fr st [] []
 | q,it::r,fr,st,k=>yU fr it.guard (yT Z T X D it.op fr st (λa aj aQ=>LW (Q5 fr st it) λrc=>Ag Z T X D R (L0 q it.op) r (po aj it.dst a) aQ λf s l c=>k f s (L1 (ck it.op) aQ l) (rc++c)) (ahF q fr st R))
    (Ag Z T X D R (L0 q it.op) r (po fr it.dst .skip) st λf s l c=>k f s (L1 (ck it.op) st l) c)
def EJ:fG->Option au
 | .l (.ld x)=>some x
 | .l (.j9 _ x)=>some x
 | _=>none
def Ie(d:Nat):List Rec->Option Rec
 | []=>none
 | r::c=>match q9 r.d d with
   | true=>some r
   | false=>Ie d c
theorem ZG{d:Nat}{rc:Rec} : ∀ {c:List Rec},Ie d c=some rc->rc∈c/\rc.d=d
 | [],h=>by cases h
 | r::c,h=>by
   simp only[Ie] at h;split at h;·rename_i hb;cases h;exact⟨s0,xx hb⟩
   obtain⟨h1,h2⟩:=ZG h;exact⟨by simp[h1],h2⟩
def ZH (s:TS)(o v:Nat):Bool:=match s.aw[o]? with
 | some (v',_,_)=>q9 v' v
 | none=>false
def Q6 (a:AV)(r:Option Rec)(s:TS):Bool:=match a,r with
 | .ptr o off,some r=>q9 r.o o&&(q9 r.off off&&ZH s o r.mj)
 | _,_=>false
def Q7 (d:Nat):List Item->Nat
 | []=>0
 | it::r=>match it.dst with
   | some e=>match q9 e d with
     | true=>Q7 d r+1
     | false=>Q7 d r
   | none=>Q7 d r
def EK (fr:aR)(S:List TS)(c:List Rec)(af:List Item)(p:Item×Nat)(k:Prop):Prop:=match S[p.2]? with
 | none=>False
 | some s=>yU fr p.1.guard
   (match EJ p.1.op,p.1.dst with
     | some x,some d=>af.filter (λi=>decide (i.dst=some d))= [p.1]/\match Q6 (dV fr x) (Ie d c) s with
       | true=>k
       | false=>False
     | _,_=>False) k
def Ah (fr:aR)(S:List TS)(c:List Rec)(af:List Item)(k:Prop):List (Item×Nat)->Prop
 | []=>k
 | p::r=>EK fr S c af p (Ah fr S c af k r)
variable {T:cF} {X:ce} {Z:TP} {D:TD} {K0 K K' BU:CH} {sp:Option Nat} {W0:Nat->Prop} {st aT sQ aQ:TS} {fr aj:aR} {aP:Fr} {E E' sR:TE}
theorem L2(h:TR Z K0 sp W0 K st fr aP E){g:Option (Nat×Bool)}{a no:Prop}(hg:yU fr g a no):(ec aP g=some true/\a)\/(ec aP g=some false/\no):=by
 unfold yU at hg;split at hg;·exact .inl ⟨rfl,hg⟩
 rename_i s b;have d:=h.fH s;split at hg
 ·rename_i c e;have:=ox d (by rw[e];rfl);unfold yQ at hg;split at hg
  ·rename_i hc;refine .inl ⟨?_,hg⟩;cases b<;>cases c<;>first | (simp only[ec,this];rfl) | (simp[Q4] at hc)
  rename_i hc;refine .inr ⟨?_,hg⟩;cases b<;>cases c<;>first | (simp only[ec,this];rfl) | (simp[Q4] at hc)
 ·rename_i e;rw[e] at d;cases hv:aP s with
  | _=>rw[hv] at d;cases d;try exact .inr ⟨by simp only[ec,hv],hg⟩
 exact hg.elim
theorem TR.put(h:TR Z K0 sp W0 K st fr aP E){d:Option Nat}{a:AV}{v:ae}(ha:bX K E a v):TR Z K0 sp W0 K st (po fr d a) (bE aP d v) E:=⟨h.nx,h.cY,h.rO,h.hid,h.wr,h.sig,h.inj,h.sr,h.ee,h.pY,h.aw,λt=>by
 cases d with
 | none=>exact h.fH t
 | some d=>
   rw[H8];show bX K E (if t=d then a else fr t) (if t=d then v else aP t);split;·exact ha
   exact h.fH t⟩
theorem ZI{a:AV}{v:ae}(h:bX K E a v){t z:Option Nat}{gs:List (List SV)}(b:a.rowOf=some (t,z,gs)):gs.length<=maxLen:=by
 rcases BS h b with ⟨rfl,_⟩ | ⟨h1,_⟩
 ·exact Nat.zero_le _
 exact h1.2
theorem ZK(b : ∀t,bX K E (fr t) (aP t)){k:AV->Prop}{x:dN}(h:wT fr k x) : ∃a,pm fr x=some a/\k a:=by
 unfold wT at h;split at h
 ·rename_i x i sz;split at h;·rename_i t z gs kk j d f;obtain⟨h1,n,g,rfl,h2,h3⟩:=h;refine⟨_,?_,h3⟩;simp only[pm,d,f];rw[iP ⟨h1,Om⟩,Int.toNat_natCast,h2];rfl
  exact h.elim
 ·rename_i x;have hx:=iQ b x;split at h;·rename_i sz gs e;rw[e] at hx;exact⟨iS gs.length,by simp only[pm,e];rfl,h (ZI (t:=none) (z:=some sz) hx rfl)⟩
  ·rename_i t e' sz gs e;rw[e] at hx;exact⟨iS gs.length,by simp only[pm,e];rfl,h (ZI (t:=some t) (z:=some sz) hx rfl)⟩
  ·rename_i sz gs e;rw[e] at hx;refine⟨iS gs.length,by simp only[pm,e];rfl,h ?_⟩;generalize aO aP x=w at hx;cases hx with | r hx=>cases hx with | c hx=>cases hx with | s hx=>
   cases hx with
   | wL=>exact Nat.zero_le _
   | sub av=>exact av.2
  unfold rP at h;split at h;·rename_i a e;exact⟨a,by simp only[pm];exact e,h⟩
  exact h.elim
 unfold rP at h;split at h;·rename_i a e;exact⟨a,e,h⟩
 exact h.elim
theorem ahG{k:AV->aR->TS->Prop}{x:hO}(h:yS fr st k x) : ∃a aj aQ,wQ fr st x=some (a,aj,aQ)/\k a aj aQ:=by
 unfold yS at h;split at h
 ·rename_i e sz bytes s x;split at h
  ·rename_i o gs t z hs d f;split at h;·rename_i b g;obtain⟨⟨h1,h2⟩,h3⟩:=h;rw[QX] at h3;refine⟨_,_,_,?_,h3⟩;simp only[wQ,d,f];simp only[eZ] at b;rw[iP ⟨ahw b.1,ahx g,h1,h2,b.2⟩]
   exact h.elim
  exact h.elim
 unfold Ad at h;split at h;·rename_i a aj aQ e;exact⟨a,aj,aQ,e,h⟩
 exact h.elim
theorem ZL(o:wS T D)(h:TR Z K0 sp W0 K st fr aP E){op:fG}{k:AV->aR->TS->Prop}{R:ae->Prop}(hk:yT Z T X D op fr st k R):YV T X aP K op (λv j=>∃a aj aQ b,TR Z K0 sp W0 j aQ aj aP b/\bX j b a v/\gg K st E j aQ b/\k a aj aQ) (PX K0 sp W0 R):=by
 rw[Q2] at hk;cases op with
 | p x=>
   left;rw[Vu];obtain⟨a,e,hk⟩:=ZK h.fH (k:=λa=>k a fr st) hk;obtain⟨v,c,d⟩:=Y7 h.fH e;exact⟨v,c,a,fr,st,E,h,d,gg.refl,hk⟩
 | l x=>
   left;rw[OU];simp only[Ae,rP] at hk;split at hk;·rename_i a e;obtain⟨v,c,d⟩:=LF h e;exact⟨v,c,a,fr,st,E,h,d,gg.refl,hk⟩
   exact hk.elim
 | a x=>
   left;rw[Vv];obtain⟨a,aj,aQ,e,hk⟩:=ahv hk;obtain⟨cs,e,kd,mk,b,c,d,m,n⟩:=ahq h e;exact⟨cs,e,kd,mk,c,a,aj,aQ,b,d,m,n,hk⟩
 | w x=>
   left;rw[Vw];obtain⟨a,aj,aQ,e,hk⟩:=ahG hk;obtain⟨v,j,b,c,d,m,n⟩:=ahr h e;exact⟨v,j,c,a,aj,aQ,b,d,m,n,hk⟩
 | call f args=>
   simp only[Ae,LO] at hk;split at hk;·rename_i q;left;rw[Vx];exact ahs o h q hk
   rcases ahu h hk with g | g
   ·left;rw[Vx];exact g
   exact .inr ⟨f,args,rfl,g⟩
 | nG g args=>exact hk.elim
theorem yL.mono{af:List Item}{fr:Fr}{H:CH}{K K':Fr->CH->Prop}{R:ae->CH->Prop}(h:yL T X af fr H K R)(hk : ∀f H,K f H->K' f H):yL T X af fr H K' R:=by
 rcases h with ⟨n,f,H',h1,h2⟩ | h
 ·exact .inl ⟨n,f,H',h1,hk _ _ h2⟩
 exact .inr h
theorem Q8(b:wS T D){R:ae->Prop} : ∀ {af:List Item} {K:CH} {st:TS} {fr:aR} {aP:Fr} {E:TE} {k:aR->TS->Prop},TR Z K0 sp W0 K st fr aP E->Af Z T X D R af fr st k->yL T X af aP K (λoy K'=>∃fr' aT E',TR Z K0 sp W0 K' aT fr' oy E'/\gg K st E K' aT E'/\k fr' aT) (PX K0 sp W0 R)
 | [],K,st,fr,aP,E,k,h,hk=> .inl (DY.2 ⟨fr,st,E,h,gg.refl,hk⟩)
 | it::r,K,st,fr,aP,E,k,h,hk=>by
   obtain⟨d,op,g⟩:=it;rcases L2 h hk with ⟨q,hk⟩ | ⟨q,hk⟩
   ·refine ag1 q ?_;rcases ZL b h hk with ⟨n,v,j,l,a,aj,aQ,o,t1,t2,t3,t4⟩ | hp
    ·left;refine⟨n,v,j,l,?_⟩;exact(Q8 b (af:=r) (t1.put (d:=d) t2) t4).mono λm K' ⟨fr',aT,E',c,e,f⟩=>⟨fr',aT,E',c,t3.trans e,f⟩
    exact .inr hp
   refine ag2 q ?_;exact(Q8 b (af:=r) (h.put (d:=d) (a:= .skip) (v:=jK) .skip) hk).mono λm K' ⟨fr',aT,E',c,e,f⟩=>⟨fr',aT,E',c,e,f⟩
def EM (op:fG)(ob:dr)(off:Nat):Option ae:=match op,ob with
 | .l (.ld _), .cells cs _ _=>cs[off]?
 | .l (.j9 n _), .cells cs _ _=>if off+n<=cs.length then some (.agg ((cs.drop off).take n).toArray) else none
 | _,_=>none
theorem ZM{op:fG}{x:au}(hx:EJ op=some x){ev:au->ae}{b off:Nat}(hv:ev x= .pointer (some ⟨b,off,none⟩)){G:CH} : ∃y,op= .l y/\bg G ev y=EM op (G.ob b) off:=by
 unfold EJ at hx;split at hx
 ·cases hx;refine⟨_,rfl,?_⟩;simp only[bg,hv,EM];cases G.ob b<;>rfl
 ·cases hx;refine⟨_,rfl,?_⟩;simp only[bg,hv,EM];cases G.ob b<;>rfl
 cases hx
structure ZN(st:TS)(E':TE)(af:List Item)(oy:Fr)(L:List (CH×TS))(r:Rec):Prop where
 h : ∃b x it ob,it∈af/\it.dst=some r.d/\EJ it.op=some x/\E'.ρ r.o=some b/\(∀v e cs,st.aw[r.o]? = some (v,e,cs)->v<=r.mj)/\(∀EN,af.filter (λi=>decide (i.dst=some r.d))= [EN]->EM it.op ob r.off=some (oy r.d))/\∀p∈L,∀e cs,p.2.aw[r.o]? = some (r.mj,e,cs)->p.1.ob b=ob
theorem L3 : ∀ {af:List Item} {fr:aR} {aP:Fr},TR Z K0 sp W0 K st fr aP E->Ic af fr st->∃n r,c9 (dg T n) af aP K=some r
 | [],fr,aP,h,hk=>⟨0,_,rfl⟩
 | it::r,fr,aP,h,hk=>by
   obtain⟨d,op,g⟩:=it;rcases L2 h hk with ⟨q,hk⟩ | ⟨q,hk⟩
   ·simp only at hk;cases op with
    | p x=>
      obtain⟨a,e,hk⟩:=ZK h.fH hk;obtain⟨v,f,j⟩:=Y7 h.fH e;obtain⟨n,b,c⟩:=L3 (af:=r) (h.put (d:=d) j) hk;exact⟨n,b,by simp only[c9,cA,q,eb,f,fo];exact c⟩
    | l x=>
      simp only[rP] at hk;split at hk;·rename_i a e;obtain⟨v,f,j⟩:=LF h e;obtain⟨n,b,c⟩:=L3 (af:=r) (h.put (d:=d) j) hk;exact⟨n,b,by simp only[c9,cA,q,eb,f,fo];exact c⟩
      exact hk.elim
    | _=>exact hk.elim
   obtain⟨n,b,c⟩:=L3 (af:=r) (h.put (d:=d) (a:= .skip) (v:=jK) .skip) hk;exact⟨n,b,by simp only[c9,cA,q];exact c⟩
theorem Q9(hD:wS T D){R:ae->Prop} : ∀ {pq:Option (List Item)} {af:List Item} {K:CH} {st:TS} {fr:aR} {aP:Fr} {E:TE} {k:aR->TS->List TS->List Rec->Prop},TR Z K0 sp W0 K st fr aP E->Ag Z T X D R pq af fr st k->(∃n v H',pq.isSome=true/\HK T X n pq af aP K v H'/\PX K0 sp W0 R v H')\/zL T af aP K λoy K' L=>∃fr' aT E' P C,TR Z K0 sp W0 K' aT fr' oy E'/\gg K st E K' aT E'/\k fr' aT (P.map Prod.snd) C/\L=P.map Prod.fst/\(∀p∈P,∃H,gg K st E p.1 p.2 H)/\(∀r∈C,ZN st E' af oy ((K,st)::P) r)/\∀t,(∀i∈af,i.dst≠some t)->oy t=aP t
 | pq,[],K,st,fr,aP,E,k,h,hk=> .inr <| VA.2 ⟨fr,st,E,[],[],h,gg.refl,hk,rfl,(λ_ q=>(by cases q)),(λ_ q=>(by cases q)),λ_ _=>rfl⟩
 | pq,it::r,K,st,fr,aP,E,k,h,hk=>by
   obtain⟨d,op,g⟩:=it;have tO : ∀ {oy:Fr} {v:ae},(∀t,(∀i∈r,i.dst≠some t)->oy t=bE aP d v t)->∀t,(∀i∈(⟨d,op,g⟩:Item)::r,i.dst≠some t)->oy t=aP t:=λ{oy v} hq t ht=>by
    rw[hq t λi hi=>ht i (by simp[hi])];have:=ht ⟨d,op,g⟩ s0;cases d with
    | none=>rfl
    | some d=>exact iN λe=>this (by rw[e])
   rcases L2 h hk with ⟨q,hk⟩ | ⟨q,hk⟩
   ·rcases ZL hD h hk with ⟨n,v,I,w1,a,aj,aQ,E1,t1,t2,t3,t4⟩ | ⟨f,args,A,n,v,H',c,j⟩
    rotate_left
    ·cases pq with
     | some Zl=>exact .inl ⟨n,v,H',rfl,YW q A (λZl' e=>by cases e;exact L3 h j.2.2.1) c,j.1,j.2.1,j.2.2.2⟩
     | none=>exact j.2.2.elim
    rw[LY] at t4;rcases Q9 hD (af:=r) (t1.put (d:=d) t2) t4 with ⟨m,u,H',B,c,j⟩ | hr
    ·unfold L0 at B c;split at B;·rename_i O;rw[O] at c;exact .inl ⟨m,u,H',B,Lx (m:=n) (by simp only[cA,q,w1];rfl) (λ_ _=>O) c,j⟩
     cases B
    right;rw[Ke];simp only[q];refine⟨n,v,I,w1,?_⟩;obtain⟨n',J,K',L,z1,fr',aT,E',P,C,z2,S,z4,U,z6,z7,z8⟩:=hr;have hP : ∃s:List (CH×TS),L1 (ck op) aQ (P.map Prod.snd)=s.map Prod.snd/\(if ck op=true then I::L else L)=s.map Prod.fst/\∀p∈s,p=(I,aQ)\/p∈P:=by
     by_cases hw:ck op=true
     ·exact⟨(I,aQ)::P,by rw[hw];rfl,by rw[iP hw,U];rfl,λp hp=>by simpa using hp⟩
     exact⟨P,by rw[Bool.not_eq_true] at hw;rw[hw];rfl,by rw[iN hw,U],λp hp=> .inr hp⟩
    obtain⟨s,c,j,V⟩:=hP;have ZO : ∀p∈s,∃H,gg K st E p.1 p.2 H:=λp hp=>by
     rcases V p hp with rfl | hp
     ·exact⟨E1,t3⟩
     obtain⟨H,k1⟩:=z6 p hp;exact⟨H,t3.trans k1⟩
    refine⟨n',J,K',L,z1,fr',aT,E',s,Q5 fr st ⟨d,op,g⟩++C,z2,t3.trans S,by rw[<-c];exact z4,j,ZO,λrc sT=> ?_,tO z8⟩;rcases List.mem_append.1 sT with sT | sT
    ·
     have key : ∀x w,EJ op=some x->d=some w->rc∈LZ fr st w x->ZN st E' (⟨d,op,g⟩::r) J ((K,st)::s) rc:=λx w hx hd M=>by
      subst hd;unfold LZ at M;split at M
      ·rename_i o off he;split at M
       ·rename_i mj ty cs ho;obtain rfl:=List.mem_singleton.1 M;have hr:=iQ h.fH x;rw[he] at hr;obtain⟨b,hb,hv⟩:=hr.tN;refine⟨b,x,⟨some w,op,g⟩,K.ob b,s0,rfl,hx,S.ee o b (t3.ee o b hb),λv' e' cs' q=>by rw[ho] at q;cases q;exact ag _,λEN z=> ?_,λp hp e' cs' q=> ?_⟩
        ·have Y:r.filter (λi=>decide (i.dst=some w))= []:=by
          rw[ac3 s0] at z;exact(List.cons.inj z).2
         have hcf:J w=v:=by
          rw[z8 w λi hi e=>by
           have:i∈r.filter (λi=>decide (i.dst=some w)):=List.mem_filter.2 ⟨hi,by simpa using e⟩;rw[Y] at this;cases this]
          exact iP rfl
         show EM op (K.ob b) off=some (J w);rw[hcf];obtain⟨y,rfl,hy⟩:=ZM hx hv (G:=K);obtain⟨_,w2⟩:=(OU (K:=λv' K'=>v'=v)).1 ⟨n,v,I,w1,rfl⟩;rw[<-hy];rw[w2.2] at w2;exact w2.1
        rcases List.mem_cons.1 hp with rfl | hp
        ·rfl
        obtain⟨H,k1⟩:=ZO p hp;obtain⟨v2,Ac,N,g2,g3⟩:=k1.mj o _ _ _ ho;rw[N] at q;cases q;exact g3 rfl b hb
       cases M
      cases M
     unfold Q5 at sT;split at sT;·rename_i x w A e2;have A:op= .l (.ld x):=A;exact key x w (by rw[A];rfl) e2 sT
     ·rename_i m x w A e2;have A:op= .l (.j9 m x):=A;exact key x w (by rw[A];rfl) e2 sT
     cases sT
    
    obtain⟨b,x,it,ob,r1,r2,r3,r4,r5,r6,F⟩:=(z7 rc sT).h;have hle : ∀v e cs,st.aw[rc.o]? = some (v,e,cs)->v<=rc.mj:=λv e cs q=>by
     obtain⟨v2,Ac,N,g2,g3⟩:=t3.mj _ _ _ _ q;exact cM g2 (r5 _ _ _ N)
    refine⟨b,x,it,ob,by simp[r1],r2,r3,r4,hle,λEN z=> ?_,λp hp e' cs' q=> ?_⟩
    ·by_cases hd:d=some rc.d
     ·rw[ac3 (by simpa using hd)] at z;have Y:=(List.cons.inj z).2;have:it∈r.filter (λi=>decide (i.dst=some rc.d)):=List.mem_filter.2 ⟨r1,by simpa using r2⟩;rw[Y] at this;cases this
     rw[List.filter_cons_of_neg (by simpa using hd)] at z;exact r6 EN z
    rcases List.mem_cons.1 hp with rfl | hp
    ·obtain⟨v2,Ac,N,g2,g3⟩:=t3.mj _ _ _ _ q;have:=r5 _ _ _ N;have hv2:v2=rc.mj:=by omega
     subst hv2;have k1:=F (I,aQ) s0 _ _ N;obtain⟨bb,os,h1,h2,h3⟩:=h.aw _ _ _ _ q;have:bb=b:=by
      have:=S.ee _ _ (t3.ee _ _ h1);rw[r4] at this;cases this;rfl
     subst this;exact(g3 rfl bb h1).symm.trans k1
    rcases V p hp with rfl | hp
    ·exact F _ s0 e' cs' q
    exact F p (by simp[hp]) e' cs' q
   ·rcases Q9 hD (af:=r) (h.put (d:=d) (a:= .skip) (v:=jK) .skip) hk with ⟨m,u,H',B,c,j⟩ | hr
    ·unfold L0 at B c;split at B;·rename_i O;rw[O] at c;exact .inl ⟨m,u,H',B,Lx (m:=0) (by simp only[cA,q]) (λ_ _=>O) c,j⟩
     cases B
    right;rw[Ke];simp only[q];obtain⟨n',J,K',L,z1,fr',aT,E',P,C,z2,S,z4,U,z6,z7,z8⟩:=hr;have hP : ∃s:List (CH×TS),L1 (ck op) st (P.map Prod.snd)=s.map Prod.snd/\(if ck op=true then K::L else L)=s.map Prod.fst/\∀p∈s,p=(K,st)\/p∈P:=by
     by_cases hw:ck op=true
     ·exact⟨(K,st)::P,by rw[hw];rfl,by rw[iP hw,U];rfl,λp hp=>by simpa using hp⟩
     exact⟨P,by rw[Bool.not_eq_true] at hw;rw[hw];rfl,by rw[iN hw,U],λp hp=> .inr hp⟩
    obtain⟨s,c,j,V⟩:=hP;refine⟨n',J,K',L,z1,fr',aT,E',s,C,z2,S,by rw[<-c];exact z4,j,λp hp=> ?_,λrc sT=> ?_,tO z8⟩
    ·rcases V p hp with rfl | hp
     ·exact⟨E,gg.refl⟩
     exact z6 p hp
    obtain⟨b,x,it,ob,r1,r2,r3,r4,r5,r6,F⟩:=(z7 rc sT).h;refine⟨b,x,it,ob,by simp[r1],r2,r3,r4,r5,λEN z=> ?_,λp hp e' cs' q=> ?_⟩
    ·by_cases hd:d=some rc.d
     ·rw[ac3 (by simpa using hd)] at z;have Y:=(List.cons.inj z).2;have:it∈r.filter (λi=>decide (i.dst=some rc.d)):=List.mem_filter.2 ⟨r1,by simpa using r2⟩;rw[Y] at this;cases this
     rw[List.filter_cons_of_neg (by simpa using hd)] at z;exact r6 EN z
    rcases List.mem_cons.1 hp with rfl | hp
    ·exact F _ s0 e' cs' q
    rcases V p hp with rfl | hp
    ·exact F _ s0 e' cs' q
    exact F p (by simp[hp]) e' cs' q
structure pZ(st:TS)(E:TE)(aT:TS)(E':TE):Prop where
 hid : ∀b,E.hid b->E'.hid b
 ee : ∀o b,E.ρ o=some b->E'.ρ o=some b
 L4 : ∀(o v:Nat) (e:aH) (cs:List CV),st.aw[o]? = some (v,e,cs)->∃v' cs',aT.aw[o]? = some (v',e,cs')
theorem pZ.refl:pZ st E st E:=⟨λ_ h=>h,λ_ _ h=>h,λo v e cs h=>⟨v,cs,h⟩⟩
theorem pZ.trans(h:pZ st E aT E')(g:pZ aT E' sQ sR):pZ st E sQ sR:=⟨λb q=>g.hid b (h.hid b q),λo b q=>g.ee o b (h.ee o b q),λo v e cs q=>by
 obtain⟨a,c,k1⟩:=h.L4 o v e cs q;exact g.L4 o a e c k1⟩
theorem gg.w(h:gg K st E K' aT E'):pZ st E aT E':=⟨h.hid,h.ee,λo v e cs q=>by
 obtain⟨a,b,k1,_⟩:=h.mj o v e cs q;exact⟨a,b,k1⟩⟩
def nj:List Nat->Nat->Option Nat
 | [],_=>none
 | a::l,t=>match q9 a t with
   | true=>some 0
   | false=>match nj l t with
     | some j=>some (j+1)
     | none=>none
theorem Rc : ∀ {l:List Nat} {t j:Nat},nj l t=some j->l[j]? = some t
 | [],t,j,h=>by cases h
 | a::l,t,j,h=>by
   simp only[nj] at h;split at h;·rename_i hb;cases h;rw[xx hb];rfl
   split at h;·rename_i b h';cases h;simpa using Rc h'
   cases h
def CV.cut(l:List Nat):CV->CV
 | .own t e sz gs=>match nj l t with
   | some j=> .own j e sz gs
   | none=> .s (pW sz gs)
 | x=>x
def RV.cut(l:List Nat):RV->RV
 | .c x=> .c (x.cut l)
 | .agg cs=> .agg (cs.map (CV.cut l))
def If (o k:Nat)(a b:AV):AV:=match Nat.ble k o with
 | true=>b
 | false=>a
def AV.cut(k:Nat)(l:List Nat):AV->AV
 | .r x=> .r (x.cut l)
 | .ptr o off=>If o k (.ptr o off) .bad
 | .fj (some t) g off=>match nj l t with
   | some j=> .fj (some j) g off
   | none=> .fj none g off
 | .fj none g off=> .fj none g off
 | .eF xs=> .eF (xs.map (RV.cut l))
 | .skip=> .skip
 | .bad=> .bad
def aR.cut(k:Nat)(l:List Nat)(fr:aR):aR:=λt=>(fr t).cut k l
def TS.cut(k:Nat)(l:List Nat)(st:TS):TS:=⟨l.length,(st.aw.take k).map λ(_,e,cs)=>(0,e,cs.map (CV.cut l))⟩
def TE.cut(k:Nat)(l:List Nat)(E:TE):TE:=⟨λj=>(l[j]?).bind E.σ,λo=>if o<k then E.ρ o else none,E.hid⟩
theorem TE.B0{k:Nat}{l:List Nat}{j b:Nat}(h:(E.cut k l).σ j=some b) : ∃t,l[j]? = some t/\E.σ t=some b:=by
 have h:(l[j]?).bind E.σ=some b:=h;cases a:l[j]? with
 | none=>rw[a] at h;cases h
 | some t=>rw[a] at h;exact⟨t,rfl,h⟩
theorem TE.B3{k:Nat}{l:List Nat}{o b:Nat}(h:(E.cut k l).ρ o=some b):o<k/\E.ρ o=some b:=by
 have h:(if o<k then E.ρ o else none)=some b:=h;split at h;·rename_i hk;exact⟨hk,h⟩
 cases h
theorem B4{k:Nat}{l:List Nat}{b:Nat}(h:dw K E b):dw K (E.cut k l) b:=⟨h.1,h.2.1,λj q=>by
 obtain⟨t,_,a⟩:=TE.B0 q;exact h.2.2.1 t a,λo q=>h.2.2.2 o (TE.B3 q).2⟩
structure Ig(K:CH)(E:TE):Prop where
 hid : ∀t b,E.σ t=some b->b<K.nx/\¬E.hid b
 inj : ∀t t' b,E.σ t=some b->E.σ t'=some b->t=t'
 sr : ∀t o b,E.σ t=some b->E.ρ o≠some b
theorem ZP : ∀ {l:List Nat} {t j:Nat},nj l t=none->l[j]? ≠some t
 | [],t,j,h,g=>by simp at g
 | a::l,t,j,h,g=>by
   simp only[nj] at h;split at h;·cases h
   rename_i hb;split at h;·cases h
   rename_i hp;cases j with
   | zero=>
     simp at g;subst g;have:=Nat.beq_refl a;rw[hb] at this;cases this
   | succ j=>exact ZP (j:=j) hp (by simpa using g)
theorem ZQ{k:Nat}{l:List Nat}{t b:Nat}(h:Ig K E)(hb:E.σ t=some b)(hp:nj l t=none):dw K (E.cut k l) b:=⟨(h.hid t b hb).1,(h.hid t b hb).2,λj q=>by
 obtain⟨t',a,c⟩:=TE.B0 q;have:=h.inj t t' b hb c;subst this;exact ZP hp a,λo q=>h.sr t o b hb (TE.B3 q).2⟩
theorem eO.cut(hs:Ig K E){k:Nat}{l:List Nat}{x:CV}{v:ae}(h:eO K E x v):eO K (E.cut k l) (x.cut l) v:=by
 cases h with
 | s h=>exact .s (h.mv λb hb=>⟨B4 hb,rfl⟩)
 | @sO t sz e=>
   show eO K _ (match nj l t with | some j=> .own j e sz [] | none=> .s (pW sz [])) _;split;·exact .sO
   exact .s .ot
 | @own t b sz os e kd gs av hb ho hk hg hv ht=>
   show eO K _ (match nj l t with | some j=> .own j e sz gs | none=> .s (pW sz gs)) _;split;·rename_i j a;refine .own av ?_ ho hk hg (hv.mv λb hb=>⟨B4 hb,rfl⟩) ht;show(l[j]?).bind E.σ=some b;rw[Rc a];exact hb
   rename_i hp;exact .s (.row av (ZQ hs hb hp) ho hk hg (hv.mv λb hb=>⟨B4 hb,rfl⟩) ht)
 | bad h=>exact .bad h
theorem ou.cut(hs:Ig K E){k:Nat}{l:List Nat}{x:RV}{v:ae}(h:ou K E x v):ou K (E.cut k l) (x.cut l) v:=by
 cases h with
 | c h=>exact .c (h.cut hs)
 | agg h=>exact .agg (h.map λ_ _ q=>q.cut hs)
theorem bX.cut(hg:Ig K E){k:Nat}{l:List Nat}{x:AV}{v:ae}(h:bX K E x v):bX K (E.cut k l) (x.cut k l) v:=by
 cases h with
 | r h=>exact .r (h.cut hg)
 | @ptr o off b h=>
   show bX K _ (If o k (.ptr o off) .bad) _;unfold If;split;·exact .bad
   rename_i hk;refine .ptr ?_;show(if o<k then E.ρ o else none)=some b;rw[iP (by
    rcases pE o k with g | g
    ·exact g
    rw[Nat.ble_eq_true_of_le g] at hk;cases hk)]
   exact h
 | @fj t g off b base os e kd hb ho hl hs=>
   cases t with
   | none=>exact .fj (t:=none) (B4 hb) ho hl (hs.mono λ_ _ q=>q.mv λb hb=>⟨B4 hb,rfl⟩)
   | some t=>
     show bX K _ (match nj l t with | some j=> .fj (some j) g off | none=> .fj none g off) _;split;·rename_i j a;refine .fj (t:=some j) ?_ ho hl (hs.mono λ_ _ q=>q.mv λb hb=>⟨B4 hb,rfl⟩);show(l[j]?).bind E.σ=some b;rw[Rc a];exact hb
     rename_i hp;exact .fj (t:=none) (ZQ hg hb hp) ho hl (hs.mono λ_ _ q=>q.mv λb hb=>⟨B4 hb,rfl⟩)
 | eF h=>exact .eF (h.map λ_ _ q=>q.cut hg)
 | skip=>exact .skip
 | bad=>exact .bad
def u7:List Nat->Bool
 | []=>true
 | a::l=>match nj l a with
   | some _=>false
   | none=>u7 l
theorem Re : ∀ {l:List Nat} {t j:Nat},l[j]? = some t->∃i,nj l t=some i
 | [],t,j,h=>by simp at h
 | a::l,t,j,h=>by
   simp only[nj];cases hb:q9 a t with
   | true=>exact⟨0,rfl⟩
   | false=>
     cases j with
     | zero=>
       simp at h;subst h;have:=Nat.beq_refl a;rw[hb] at this;cases this
     | succ j=>
       obtain⟨i,hi⟩:=Re (l:=l) (t:=t) (j:=j) (by simpa using h);exact⟨i+1,by simp only[hi]⟩
theorem ZR : ∀ {l:List Nat},u7 l=true->∀ {i j t:Nat},l[i]? = some t->l[j]? = some t->i=j
 | [],_,i,j,t,h,_=>by simp at h
 | a::l,hn,i,j,t,h,g=>by
   simp only[u7] at hn;split at hn;·cases hn
   rename_i hp;cases i with
   | zero=>
     cases j with
     | zero=>rfl
     | succ j=>
       simp at h g;subst h;obtain⟨i,hi⟩:=Re g;rw[hp] at hi;cases hi
   | succ i=>
     cases j with
     | zero=>
       simp at h g;subst g;obtain⟨i,hi⟩:=Re h;rw[hp] at hi;cases hi
     | succ j=>exact congrArg (· + 1) (ZR hn (i:=i) (j:=j) (t:=t) (by simpa using h) (by simpa using g))
theorem L5{l:List Nat} : ∀ {cs:List CV},eG (cs.map (CV.cut l))=eG cs
 | []=>rfl
 | x::cs=>by
   rw[dq,BW,BW (x:=x),L5];congr 1
   cases x with
   | s y=>rfl
   | bad=>rfl
   | own t e sz gs=>
     show eG [match nj l t with | some j=>CV.own j e sz gs | none=> .s (pW sz gs)]= [];cases nj l t<;>rfl
theorem ZS{l:List Nat} : ∀ {cs:List CV} {vs:List ae},jP (cs.map (CV.cut l)) vs=jP cs vs
 | [],vs=>rfl
 | x::cs,[]=>by
   cases x with
   | s y=>cases y<;>rfl
   | bad=>rfl
   | own t e sz gs=>
     rw[dq];show jP ((match nj l t with | some j=>CV.own j e sz gs | none=> .s (pW sz gs))::_) []= [];cases nj l t<;>rfl
 | x::cs,v::vs=>by
   rw[dq,yO,yO (x:=x),ZS];congr 1
   cases x with
   | s y=>rfl
   | bad=>rfl
   | own t e sz gs=>
     show jP [match nj l t with | some j=>CV.own j e sz gs | none=> .s (pW sz gs)] [v]= [];cases nj l t<;>rfl
theorem TR.cut{k:Nat}{l:List Nat}(h:TR Z K0 sp W0 K st fr aP E)(hl:u7 l=true):TR Z K0 sp W0 K (st.cut k l) (fr.cut k l) aP (E.cut k l):=by
 have hg:Ig K E:=⟨λt b q=>⟨(h.sig t b q).2.1,λhh=>(h.hid b hh).2.1 t q⟩,h.inj,h.sr⟩;refine⟨h.nx,h.cY,h.rO,λb hb=> ?_,?_,λj b q=> ?_,λj C b q d=> ?_,λj o b q d=> ?_,λo b q=> ?_,λo o' b q d=> ?_,λo v e cs q=> ?_,λt=>(h.fH t).cut hg⟩
 ·obtain⟨k1,c,s⟩:=h.hid b hb;exact⟨k1,λt q=>by
   obtain⟨t',_,a⟩:=TE.B0 q;exact c t' a,λo q=>s o (TE.B3 q).2⟩
 ·obtain⟨W,w,f⟩:=h.wr;cases k with
  | zero=>exact⟨λ_=>False,λ_ h=>h.elim,λ_ h=>h⟩
  | succ k=>
    refine⟨W,w,?_⟩;show JR Z ((st.aw.take (k+1)).map λ(_,e,cs)=>((0:Nat),e,cs.map (CV.cut l))) K (E.ρ 0) W;match st.aw,f with
    | [],f=>exact f
    | (v,e,cs)::r,f=>
      rcases f with ⟨g,u⟩ | ⟨g,p,os,x,u,z,A⟩
      ·exact .inl ⟨L5.trans g,u⟩
      exact .inr ⟨by rw[L5];exact g,p,os,x,u,by rw[kZ];exact z,by rw[L5,ZS];exact A⟩
 ·obtain⟨t,m,a⟩:=TE.B0 q;obtain⟨k1,c,_⟩:=h.sig t b a;exact⟨k1,c,(List.getElem?_eq_some_iff.1 m).1⟩
 ·obtain⟨t,m,a⟩:=TE.B0 q;obtain⟨t',B,r2⟩:=TE.B0 d;have:=h.inj t t' b a r2;subst this;exact ZR hl m B
 ·obtain⟨t,m,a⟩:=TE.B0 q;exact h.sr t o b a (TE.B3 d).2
 ·obtain⟨m,a⟩:=TE.B3 q;obtain⟨k1,c,s⟩:=h.ee o b a;refine⟨k1,c,?_⟩;show o<((st.aw.take k).map _).length;rw[kZ,nU];omega
 ·exact h.pY o o' b (TE.B3 q).2 (TE.B3 d).2
 have q:((st.aw.take k).map λ(_,e,cs)=>((0:Nat),e,cs.map (CV.cut l)))[o]? = some (v,e,cs):=q;rw[kF] at q;cases n:(st.aw.take k)[o]? with
 | none=>rw[n] at q;cases q
 | some y=>
   rw[n] at q;obtain⟨F,G,H⟩:=y;cases q;have hk:o<k:=by
    have:=(List.getElem?_eq_some_iff.1 n).1;rw[nU] at this;omega
   rw[AT hk] at n;obtain⟨b,os,k1,c,s⟩:=h.aw o _ _ _ n;exact⟨b,os,by show(if o<k then E.ρ o else none)=some b;rw[iP hk];exact k1,c,s.map λ_ _ q=>q.cut hg⟩
theorem pZ.cut{l:List Nat}{E0:TE}{cZ:TS}(h:pZ cZ E0 st E)(a : ∀o b,E0.ρ o=some b->o<cZ.aw.length):pZ cZ E0 (st.cut cZ.aw.length l) (E.cut cZ.aw.length l):=⟨h.hid,λo b q=>by
 show(if o<cZ.aw.length then E.ρ o else none)=some b;rw[iP (a o b q)];exact h.ee o b q,λo v e cs q=>by
 have ho:=(List.getElem?_eq_some_iff.1 q).1;obtain⟨v',cs',k1⟩:=h.L4 o v e cs q;refine⟨0,cs'.map (CV.cut l),?_⟩;show((st.aw.take cZ.aw.length).map λ(_,e,cs)=>((0:Nat),e,cs.map (CV.cut l)))[o]? = _;rw[kF,AT ho,k1];rfl⟩
def EP(a:AV)(b no:Prop):Prop:=match a with
 | .r (.c (.s (.sc (.bool t))))=>yQ t b no
 | _=>False
def ahH (k:aR->TS->Prop)(Q:bP->aR->TS->Prop):bP->aR->TS->Prop:=λx fr st=>match x with
 | .normal=>k fr st
 | x=>Q x fr st
def EQ(i id:Nat)(a b:Prop):Prop:=match q9 i id with
 | true=>a
 | false=>b
def ahI(id:Nat)(Q:bP->aR->TS->Prop):bP->aR->TS->Prop:=λx fr st=>match x with
 | .exit i=>EQ i id (Q .normal fr st) (Q (.exit i) fr st)
 | x=>Q x fr st
def Ai(k:Nat)(I:Nat->aR->TS->Prop)(n:Nat)(Q:bP->aR->TS->Prop):bP->aR->TS->Prop:=λx fr st=>match x with
 | .normal=>∃m l,m<n/\u7 l=true/\I m (fr.cut k l) (st.cut k l)
 | x=>Q x fr st
def kQ (Z:TP)(T:cF)(X:ce)(D:TD)(R:ae->Prop):bU->aR->TS->(bP->aR->TS->Prop)->Prop
 | .skip,fr,st,Q=>Q .normal fr st
 | .gI af,fr,st,Q=>Af Z T X D R af fr st (Q .normal)
 | .lL d,fr,st,Q=>Ag Z T X D R d.wm d.af fr st λf s l c=>Ah f (st::l) c d.af (Q .normal f s) d.nb
 | .seq a b,fr,st,Q=>kQ Z T X D R a fr st (ahH (λf s=>kQ Z T X D R b f s Q) Q)
 | .cond c a b,fr,st,Q=>EP (dV fr c) (kQ Z T X D R a fr st Q) (kQ Z T X D R b fr st Q)
 | .block id c,fr,st,Q=>kQ Z T X D R c fr st (ahI id Q)
 | .loop c,fr,st,Q=>∃(I:Nat->aR->TS->Prop) (n:Nat) (l:List Nat),u7 l=true/\I n (fr.cut st.aw.length l) (st.cut st.aw.length l)/\∀n f s,I n f s->kQ Z T X D R c f s (Ai st.aw.length I n Q)
 | .exit id,fr,st,Q=>Q (.exit id) fr st
 | .ret,fr,st,Q=>Q .ret fr st
 | _,_,_,_=>False
theorem ahJ{α β:Type}{P:List (α×β)}{i:Nat}{s:β}(h:(P.map Prod.snd)[i]? = some s) : ∃G,P[i]? = some (G,s)/\(P.map Prod.fst)[i]? = some G:=by
 rw[kF] at h;cases hp:P[i]? with
 | none=>rw[hp] at h;cases h
 | some q=>
   rw[hp] at h;obtain⟨a,b⟩:=q;cases h;exact⟨a,rfl,by rw[kF,hp];rfl⟩
theorem Rf(h:TR Z K0 sp W0 K st fr aP E){S:List TS}{c:List Rec}{af:List Item}{k:Prop} : ∀ {L:List (Item×Nat)},Ah fr S c af k L->k/\∀p∈L,∃s,S[p.2]? = some s/\(ec aP p.1.guard=some false\/∃x d,EJ p.1.op=some x/\p.1.dst=some d/\af.filter (λi=>decide (i.dst=some d))= [p.1]/\Q6 (dV fr x) (Ie d c) s=true)
 | [],hk=>⟨hk,λ_ q=>(by cases q)⟩
 | p::L,hk=>by
   have hk:EK fr S c af p (Ah fr S c af k L):=hk;unfold EK at hk;split at hk;·exact hk.elim
   rename_i s hs;rcases L2 h hk with ⟨_,hk⟩ | ⟨q,hk⟩
   ·split at hk
    ·rename_i x d f g;obtain⟨h1,h2⟩:=hk;split at h2
     ·rename_i hb;obtain⟨a,b⟩:=Rf h h2;refine⟨a,λe hp=> ?_⟩;rcases List.mem_cons.1 hp with rfl | hp
      ·exact⟨s,hs, .inr ⟨x,d,f,g,h1,hb⟩⟩
      exact b e hp
     exact h2.elim
    exact hk.elim
   obtain⟨a,b⟩:=Rf h hk;refine⟨a,λe hp=> ?_⟩;rcases List.mem_cons.1 hp with rfl | hp
   ·exact⟨s,hs, .inl q⟩
   exact b e hp
theorem Rg(hD:wS T D){R:ae->Prop} : ∀ {c:bU} {K:CH} {st:TS} {fr:aR} {aP:Fr} {E:TE} {Q:bP->aR->TS->Prop},TR Z K0 sp W0 K st fr aP E->kQ Z T X D R c fr st Q->mi T X c aP K (λx oy K'=>∃fr' aT E',TR Z K0 sp W0 K' aT fr' oy E'/\pZ st E aT E'/\Q x fr' aT) (PX K0 sp W0 R):=by
 intro c;induction c with
 | skip=>intro K st fr aP E Q h hk;exact .inl ⟨0,_,_,_,rfl,fr,st,E,h,pZ.refl,hk⟩
 | gI af=>
   intro K st fr aP E Q h hk;exact ag3 ((Q8 hD h hk).mono λf H ⟨fr',aT,E',t1,t2,t3⟩=>⟨fr',aT,E',t1,t2.w,t3⟩)
 | lL d=>
   intro K st fr aP E Q h hk;rcases Q9 hD h hk with ⟨n,v,H',hd,⟨A,k,Rr,f,args,aj,H1,e,h2,h3,h4,h5,h6⟩,p2⟩ | hr
   ·obtain⟨Zl,hd⟩:=Option.isSome_iff_exists.1 hd;exact .inr ⟨n,v,H', .lL e hd (h2 Zl hd).1 h3 (h2 Zl hd).2 h4 h5 h6,p2⟩
   left;rw[OX];obtain⟨n',f',K',L,z1,fr',aT,E',P,C,F,z3,J,z5,z6,z7,z8⟩:=hr;obtain⟨M,J⟩:=Rf F J;refine⟨n',f',K',L,z1,λp hp=> ?_,fr',aT,E',F,z3.w,M⟩;obtain⟨s,e3,hc⟩:=J p hp;rcases hc with q | ⟨x,d',e1,e2,c1,j⟩
   rotate_left
   ·obtain⟨G,g1,g2⟩:=ahJ (P:=(K,st)::P) (i:=p.2) (s:=s) e3;refine⟨G,by rw[z5];exact g2, .inr ?_⟩;unfold Q6 at j;split at j
    ·rename_i o off rc e4 e5;simp only[eZ] at j;have h1:=xx j.1;have h2:=xx j.2.1;have h3:=j.2.2;obtain⟨sT,N⟩:=ZG e5;obtain⟨b,x',it,ob,r1,r2,r3,r4,r5,r6,r7⟩:=(z7 rc sT).h;have gj:it=p.1:=by
      have:it∈d.af.filter (λi=>decide (i.dst=some d')):=List.mem_filter.2 ⟨r1,by rw[<-N];simpa using r2⟩;rw[c1] at this;exact List.mem_singleton.1 this
     subst gj;rw[r3] at e1;cases e1;have hr:=iQ F.fH x;rw[e4] at hr;obtain⟨b',O,hv⟩:=hr.tN;have:b'=b:=by rw[<-h1] at O;rw[r4] at O;cases O;rfl
     subst this;obtain⟨y,uH,yC⟩:=ZM r3 hv (G:=G);refine⟨y,d',uH,e2,?_⟩;have S : ∃e cs,s.aw[rc.o]? = some (rc.mj,e,cs):=by
      unfold ZH at h3;rw[h1];split at h3;·rename_i v e cs hs;exact⟨e,cs,by rw[hs,xx h3]⟩
      cases h3
     obtain⟨e,cs,S⟩:=S;have:=r7 (G,s) (List.mem_of_getElem? g1) e cs S;rw[yC];show EM p.1.op (G.ob b') off=_;rw[show G.ob b'=ob from this,<-h2,<-N];exact r6 p.1 (by rw[N];exact c1)
    cases j
   have hl:p.2<(K::L).length:=by
    rw[z5];have:=(List.getElem?_eq_some_iff.1 e3).1;simpa using this
   exact⟨_,dx hl, .inl q⟩
 | seq a b U V=>
   intro K st fr aP E Q h hk;refine QE ((U h hk).mono (λx f K' ⟨fr',aT,E',t1,t2,t3⟩=> ?_) λ_ _ h=>h);cases x with
   | normal=>
     refine(V t1 t3).mono (λx f K' ⟨B,sQ,sR,r,s2,z⟩=>⟨B,sQ,sR,r,t2.trans s2,z⟩) λ_ _ h=>h
   | exit i=>exact⟨fr',aT,E',t1,t2,t3⟩
   | ret=>exact⟨fr',aT,E',t1,t2,t3⟩
 | cond c a b U V=>
   intro K st fr aP E Q h hk;have hk:EP (dV fr c) (kQ Z T X D R a fr st Q) (kQ Z T X D R b fr st Q):=hk;unfold EP at hk;split at hk
   ·rename_i t e;have hc:=ox (iQ h.fH c) (u:= .bool t) (by rw[e];rfl);unfold yQ at hk;split at hk;·exact ag4 hc (U h hk)
    exact ag5 hc (V h hk)
   exact hk.elim
 | block id c Y=>
   intro K st fr aP E Q h hk;refine ag6 ((Y h hk).mono (λx f K' ⟨fr',aT,E',t1,t2,t3⟩=> ?_) λ_ _ h=>h);cases x with
   | normal=>exact⟨fr',aT,E',t1,t2,t3⟩
   | ret=>exact⟨fr',aT,E',t1,t2,t3⟩
   | exit i=>
     show if i=id then _ else _
     have t3:EQ i id (Q .normal fr' aT) (Q (.exit i) fr' aT):=t3;unfold EQ at t3;split at t3;·rename_i hi;rw[iP (xx hi)];exact⟨fr',aT,E',t1,t2,t3⟩
     rename_i hi;rw[iN (ac2 hi)];exact⟨fr',aT,E',t1,t2,t3⟩
 | loop c Y=>
   intro K st fr aP E Q h hk;obtain⟨I,n,l0,J3,h0,hs⟩:=hk;have hr : ∀o b,E.ρ o=some b->o<st.aw.length:=λo b q=>(h.ee o b q).2.2;refine ag8 (λn oy K'=>∃fr' aT E',TR Z K0 sp W0 K' aT fr' oy E'/\pZ st E aT E'/\I n fr' aT) (λm oy K' ⟨fr',aT,E',t1,t2,t3⟩=> ?_) (n:=n) ⟨_,_,_,h.cut J3,pZ.refl.cut hr,h0⟩;refine(Y t1 (hs m fr' aT t3)).mono (λx f BU ⟨B,sQ,sR,r,s2,z⟩=> ?_) λ_ _ h=>h;cases x with
   | normal=>
     obtain⟨m',l,k1,k2,k3⟩:=z;exact⟨m',k1,_,_,_,r.cut k2,(t2.trans s2).cut hr,k3⟩
   | exit i=>exact⟨B,sQ,sR,r,t2.trans s2,z⟩
   | ret=>exact⟨B,sQ,sR,r,t2.trans s2,z⟩
 | exit id=>intro K st fr aP E Q h hk;exact .inl ⟨0,_,_,_,rfl,fr,st,E,h,pZ.refl,hk⟩
 | ret=>intro K st fr aP E Q h hk;exact .inl ⟨0,_,_,_,rfl,fr,st,E,h,pZ.refl,hk⟩
 | rv g key=>intro K st fr aP E Q h hk;exact hk.elim
 | bad=>intro K st fr aP E Q h hk;exact hk.elim
end
section
open Go Go.RowKit
def RV.of:AV->Option RV
 | .r x=>x.fz
 | _=>none
def Ri(fr:aR)(st:TS):nJ->Option RV
 | .tmp t=>RV.of (fr t)
 | .ld t=>(wM fr st (.ld (.tmp t))).bind RV.of
 | .j9 n t=>(wM fr st (.j9 n (.tmp t))).bind RV.of
def Ih(fr:aR)(st:TS):List nJ->Option (List RV)
 | []=>some []
 | r::rs=>match Ri fr st r,Ih fr st rs with
   | some x,some xs=>some (x::xs)
   | _,_=>none
def B5:List RV->AV
 | [x]=> .r x
 | l=> .eF l
def Rj(self:Self)(st:TS):Option (List SV):=match self with
 | none=>some []
 | some _=>match st.aw[0]? with
   | some (_,_,cs)=>sP cs
   | none=>none
def Ii (res:List nJ)(self:Self)(Q:AV->List SV->Prop):bP->aR->TS->Prop:=λx fr st=>match x with
 | .exit _=>False
 | _=>match Ih fr st res,Rj self st with
   | some l,some a=>Q (B5 l) a
   | _,_=>False
def cZ:Self->TS
 | none=>⟨0,[]⟩
 | some (e,a)=>⟨0,[(0,e,a.map .s)]⟩
variable {T:cF} {X:ce} {Z:TP} {D:TD} {K0 K K' BU:CH} {sp:Option Nat} {W0:Nat->Prop} {st aT sQ aQ:TS} {fr aj:aR} {aP:Fr} {E E' sR:TE}
theorem ZT : ∀ {a:List AV} {vs:List ae},R2 (bX K E) a vs->∀t,bX K E (a.getD t .bad) (vs.getD t undef)
 | _,_, .nil,t=> .bad
 | _,_, .cons h _,0=>h
 | _,_, .cons _ h,t+1=>by simpa using ZT h t
theorem TR.start{e:Option Nat}{hid W:Nat->Prop}{self:Self}{args:List AV}{vs:List ae}(h1 : ∀b,hid b->b<K.nx/\sp≠some b)(h : ∀b,W b->hid b)(h2 : ∀b,Z.N b->b<K.nx/\sp≠some b/\¬W b/\K.ob b=Z.M b)(h3:R2 (bX K (E0 sp hid)) args vs)(h4:wR K (E0 sp hid) sp self)(h5:SJ Z K sp W self):TR Z K sp W K (cZ self) (λt=>args.getD t .bad) (λt=>vs.getD t undef) (E0 sp hid):=by
 have c : ∀o b,(if o=0 then sp else none)=some b->o=0/\sp=some b:=λo b q=>by
  split at q;·rename_i e;exact⟨e,q⟩
  cases q
 have j : ∀b,sp=some b->∃e a os,self=some (e,a)/\b<K.nx/\K.ob b= .cells os e .ex/\R2 (fM K (dw K (E0 sp hid))) a os:=λb hb=>by
  match self,h4 with
  | none,h4=>rw[show sp=none from h4] at hb;cases hb
  | some (e,a),⟨p,os,k1,g,d,f⟩=>rw[k1] at hb;cases hb;exact⟨e,a,os,rfl,g,d,f⟩
 refine⟨ag _,λ_ _ _ _=>rfl,h2,λb hb=>⟨(h1 b hb).1,(λ_ q=>(by cases q)),λo q=>(h1 b hb).2 (c o b q).2⟩,⟨W,λb hb=>⟨h b hb, .inl hb⟩,by
  match self,h5 with
  | none,h5=>exact h5
  | some (e,a),h5=>exact h5⟩,(λ_ _ q=>(by cases q)),(λ_ _ _ q=>(by cases q)),(λ_ _ _ q=>(by cases q)),λo b q=> ?_,λo o' b q l=> ?_,λo v e cs q=> ?_,ZT h3⟩
 ·obtain⟨rfl,k⟩:=c o b q;obtain⟨e,a,os,rfl,m,n,r⟩:=j b k;exact⟨m, .inr k,Nat.zero_lt_one⟩
 ·rw[(c o b q).1,(c o' b l).1]
 match self,h4,q with
 | none,_,q=>simp[cZ] at q
 | some (e',a),⟨p,os,k1,g,d,f⟩,q=>
   cases o with
   | zero=>
     cases q;exact⟨p,os,k1,d,f.map λ_ _ q=> .s q⟩
   | succ o=>simp[cZ] at q
theorem Rk{a:AV}{v:ae}(h:bX K E a v){y:RV}(hy:RV.of a=some y)(h1 : ∀b,dw K E b->dw K' E' b/\K'.ob b=K.ob b)(h2 : ∀t b,E.σ t=some b->dw K' E' b/\K'.ob b=K.ob b):ou K' E' y v:=by
 cases h with
 | r h=>exact Zq h hy h1 λt b _ q=>h2 t b q
 | _=>cases hy
theorem ZU(h:TR Z K0 sp W0 K st fr aP E)(h1 : ∀b,dw K E b->dw K E' b/\K.ob b=K.ob b)(h2 : ∀t b,E.σ t=some b->dw K E' b/\K.ob b=K.ob b) : ∀ {res:List nJ} {l:List RV},Ih fr st res=some l->∃vs,ct aP K res=some vs/\R2 (ou K E') l vs
 | [],l,q=>by cases q;exact⟨[],rfl, .nil⟩
 | r::rs,l,q=>by
   simp only[Ih] at q;split at q
   ·rename_i x xs c f;cases q;obtain⟨vs,k1,g⟩:=ZU h h1 h2 f;have : ∃v,ji aP K r=some v/\ou K E' x v:=by
     cases r with
     | tmp t=>exact⟨_,rfl,Rk (h.fH t) c h1 h2⟩
     | ld t=>
       simp only[Ri] at c;cases hl:wM fr st (.ld (.tmp t)) with
       | none=>rw[hl] at c;cases c
       | some a=>
         rw[hl] at c;obtain⟨v,d,e⟩:=LF h hl;exact⟨v,d,Rk e c h1 h2⟩
     | j9 n t=>
       simp only[Ri] at c;cases hl:wM fr st (.j9 n (.tmp t)) with
       | none=>rw[hl] at c;cases c
       | some a=>
         rw[hl] at c;obtain⟨v,d,e⟩:=LF h hl;exact⟨v,d,Rk e c h1 h2⟩
    obtain⟨v,d,e⟩:=this;exact⟨v::vs,by simp only[ct,d,k1], .cons e g⟩
   cases q
theorem ZV(U:wS T D){R:ae->Prop}{f:bk}{rf:wq}(he:T.ext f=false)(V:T.fn f=some rf){args:List AV}{self:Self}{Q:AV->List SV->Prop}(hk:kQ Z T X D R rf.body (λt=>args.getD t .bad) (cZ self) (Ii rf.res self Q)):TC Z T X f args self Q R:=by
 intro K sp hid W vs h1 Y h2 h3 h4 h5;have t0:=TR.start (e:=none) h1 Y h2 h3 h4 h5;refine ag0 he V ((Rg U t0 hk).mono (λx oy K' ⟨fr',aT,E',t1,t2,t3⟩=> ?_) λ_ _ h=>h);have hx : ∃l c,Ih fr' aT rf.res=some l/\Rj self aT=some c/\Q (B5 l) c:=by
  unfold Ii at t3;split at t3;·exact t3.elim
  split at t3;·rename_i l c n d;exact⟨l,c,n,d,t3⟩
  exact t3.elim
 obtain⟨l,c,n,d,B⟩:=hx;have k : ∀b,sp=some b->E'.ρ 0=some b/\b<K.nx:=λb hb=>by
  refine⟨t2.ee 0 b (by show(if 0=0 then sp else none)=some b;rw[iP rfl,hb]),?_⟩;match self,h4 with
  | none,h4=>rw[show sp=none from h4] at hb;cases hb
  | some (e,C),⟨p,os,k1,g,F,k4⟩=>rw[k1] at hb;cases hb;exact g
 have G : ∀o b,(E0 sp hid).ρ o=some b->sp=some b:=λo b q=>by
  have q:(if o=0 then sp else none)=some b:=q;split at q;·exact q
  cases q
 have f1 : ∀b,dw K' E' b->dw K' (E0 sp E'.hid) b/\K'.ob b=K'.ob b:=λb hb=>⟨⟨hb.1,hb.2.1,(λ_ q=>(by cases q)),λo q=>hb.2.2.2 0 (k b (G o b q)).1⟩,rfl⟩;have f2 : ∀t b,E'.σ t=some b->dw K' (E0 sp E'.hid) b/\K'.ob b=K'.ob b:=λt b hb=>by
  obtain⟨k1,g,F⟩:=t1.sig t b hb;exact⟨⟨g,λhh=>(t1.hid b hh).2.1 t hb,(λ_ q=>(by cases q)),λo q=>t1.sr t 0 b hb (k b (G o b q)).1⟩,rfl⟩
 obtain⟨H,g1,g2⟩:=ZU t1 f1 f2 n;have I:Ha (ct oy K' rf.res) (λv K'=>K.nx<=K'.nx/\(∀b,b<K.nx->sp≠some b->¬W b->K'.ob b=K.ob b)/\∃li W' a c,HW K K' sp hid W li W'/\bX K' (E0 sp li) a v/\a.clean/\wR K' (E0 sp li) sp (self.map λp=>(p.1,c))/\SJ Z K' sp W' (self.map λp=>(p.1,c))/\Q a c) K':=by
  rw[g1,Ky];obtain⟨J,w1,m⟩:=t1.wr;have L : ∀b,hid b->E'.hid b:=λb hb=>t2.hid b hb;have M : ∀b,E'.hid b->b<K'.nx:=λb hb=>(t1.hid b hb).1;have N:bX K' (E0 sp E'.hid) (B5 l) (eV H):=by
   match l,H,g2 with
   | [],_, .nil=>exact .eF (vs:= []) .nil
   | [x],_, .cons h .nil=>exact .r h
   | x::y::l,_, .cons h (.cons h' t)=>exact .eF (.cons h (.cons h' t))
  have O:(B5 l).clean:=by
   unfold B5;split<;>exact trivial
  match self,h4,d,t2 with
  | none,h4,_,_=>exact⟨t1.nx,t1.cY,E'.hid,λ_=>False,B5 l,c,⟨L,M,λ_ h=>h.elim⟩,N,O,h4,λ_ h=>h,B⟩
  | some (e,C),⟨p,os,k1,g,F,k4⟩,d,t2=>
    obtain⟨v',cs',j⟩:=t2.L4 0 0 e (C.map .s) rfl;obtain⟨b,u,S,r2,r3⟩:=t1.aw 0 v' e cs' j;rw[(k p k1).1] at S;cases S;simp only[Rj,j] at d;obtain⟨w,QW⟩:=QS d;refine⟨t1.nx,t1.cY,E'.hid,J,B5 l,c,⟨L,M,w1⟩,N,O,⟨p,u,k1,ek g t1.nx,r2,HV f1 r3 d λt b _ q=>f2 t b q⟩,?_,B⟩;show JR Z [(0,e,c.map .s)] K' sp J;rw[(k p k1).1] at m;rw[k1];match cx:aT.aw,m,j with
    | (v2,e2',Ac)::r,m,j=>
      cases j;rcases m with ⟨z,A⟩ | ⟨z,p',Aa,A,a3,a4,a5⟩
      ·exact .inl ⟨w.trans z,A⟩
      exact .inr ⟨by rw[w];exact z,p',Aa,A,a3,by rw[a4,<-QR d,kZ],by rw[w,QW];exact a5⟩
 cases x with
 | normal=>exact I
 | ret=>exact I
 | exit i=>unfold Ii at t3;exact t3.elim
theorem gq{P:Program}{L:List bk}{G:bk->List ae->Option ae}(a:wS (bj P L G) D){R:ae->Prop}{f:Nat}(he:L.elem f=false)(h:(mJ P (λN ops=>jN P N ops) f).isSome=true){args:List AV}{self:Self}{Q:AV->List SV->Prop}(k:kQ Z (bj P L G) X D R (rF P f).body (λt=>args.getD t .bad) (cZ self) (Ii (rF P f).res self Q)):TC Z (bj P L G) X f args self Q R:=by
 refine ZV a he ?_ k;unfold rF;show mJ P (λN ops=>jN P N ops) f=some ((mJ P (λN ops=>jN P N ops) f).getD ⟨0,[], .skip⟩);cases b:mJ P (λN ops=>jN P N ops) f with
 | none=>rw[b] at h;cases h
 | some r=>rfl
def Self.open:Self->Bool
 | none=>true
 | some (_,a)=>(eG (a.map .s)).isEmpty
theorem ZZ{R:ae->Prop}{f:bk}{args:List AV}{self:Self}{Q:AV->List SV->Prop}(hs:self.open=true)(h : ∀(K:CH) (sp:Option Nat) (hid:Nat->Prop) (vs:List ae),(∀b,hid b->b<K.nx/\sp≠some b)->(∀b,Z.N b->b<K.nx/\sp≠some b/\K.ob b=Z.M b)->R2 (bX K (E0 sp hid)) args vs->wR K (E0 sp hid) sp self->
 BO T X f vs K (λv K'=>K.nx<=K'.nx/\(∀b,b<K.nx->sp≠some b->K'.ob b=K.ob b)/\∃a s',bX K' (E0 sp hid) a v/\a.clean/\wR K' (E0 sp hid) sp (self.map λp=>(p.1,s'))/\eG (s'.map .s)= []/\Q a s') λv K'=>K.nx<=K'.nx/\(∀b,b<K.nx->sp≠some b->K'.ob b=K.ob b)/\R v):TC Z T X f args self Q R:=by
 intro K sp hid W vs h1 m h2 h3 h4 h5;refine(h K sp hid vs h1 (λb hb=>⟨(h2 b hb).1,(h2 b hb).2.1,(h2 b hb).2.2.2⟩) h3 h4).mono (λv K' ⟨k1,c,a,s',d,g,j,k,l⟩=>⟨k1,λb hb hp _=>c b hb hp,hid,λ_=>False,a,s',⟨λ_ q=>q,λb q=>ek (h1 b q).1 k1,λ_ q=>q.elim⟩,d,g,j,?_,l⟩) λv K' ⟨k1,c,d⟩=>⟨k1,λb hb hp _=>c b hb hp,d⟩;match self with
 | none=>exactλ_ q=>q
 | some (e,n)=>exact .inl ⟨k,λ_ q=>q⟩
end
section
open Go Go.RowKit
variable {T:cF} {X:ce} {Z:TP} {D:TD} {R:ae->Prop} {st aQ:TS} {fr aj:aR}
def CV.lR:CV->Bool
 | .own _ _ _ _=>false
 | _=>true
def allI:List CV->Bool
 | []=>true
 | x::l=>x.lR&&allI l
def RV.lR:RV->Bool
 | .c x=>x.lR
 | .agg cs=>allI cs
def L7:List RV->Bool
 | []=>true
 | x::l=>x.lR&&L7 l
def AV.lR(k:Nat):AV->Bool
 | .r x=>x.lR
 | .ptr o _=>Nat.blt o k
 | .fj (some _) _ _=>false
 | .eF l=>L7 l
 | _=>true
theorem CV.Ij{x:CV}(h:x.lR=true)(g:Nat->SA):x.act g=x:=by cases x<;>first | rfl | cases h
theorem CV.B6{x:CV}(h:x.lR=true)(l:List Nat):x.cut l=x:=by cases x<;>first | rfl | cases h
theorem Rm{f:CV->CV}(a : ∀x,x.lR=true->f x=x) : ∀ {cs:List CV},allI cs=true->cs.map f=cs
 | [],_=>rfl
 | x::cs,h=>by
   simp only[allI,eZ] at h;rw[dq,a x h.1,Rm a h.2]
theorem RV.L8{x:RV}(h:x.lR=true):(∀g,x.act g=x)/\∀l,x.cut l=x:=by
 cases x with
 | c x=>exact⟨λg=>congrArg RV.c (CV.Ij h g),λl=>congrArg RV.c (CV.B6 h l)⟩
 | agg cs=>exact⟨λg=>congrArg RV.agg (Rm (λx hx=>CV.Ij hx g) h),λl=>congrArg RV.agg (Rm (λx hx=>CV.B6 hx l) h)⟩
theorem Rn{f:RV->RV}(a : ∀x,x.lR=true->f x=x) : ∀ {cs:List RV},L7 cs=true->cs.map f=cs
 | [],_=>rfl
 | x::cs,h=>by
   simp only[L7,eZ] at h;rw[dq,a x h.1,Rn a h.2]
theorem ahK{a b:Nat}(h:Nat.blt a b=true):a<b:=by
 have:=ja h;omega
theorem AV.Ij{k:Nat}{a:AV}(h:a.lR k=true)(g:Nat->SA):a.act g=a:=by
 cases a with
 | r x=>exact congrArg AV.r ((RV.L8 h).1 g)
 | fj t g off=>cases t<;>first | rfl | cases h
 | eF l=>exact congrArg AV.eF (Rn (λx hx=>(RV.L8 hx).1 g) h)
 | _=>rfl
theorem AV.B6{k k':Nat}{a:AV}(h:a.lR k=true)(hk:k<=k')(l:List Nat):a.cut k' l=a:=by
 cases a with
 | r x=>exact congrArg AV.r ((RV.L8 h).2 l)
 | ptr o off=>
   have ho:=ahK h;show If o k' (.ptr o off) .bad=_;unfold If;have:Nat.ble k' o=false:=by
    cases hb:Nat.ble k' o with
    | false=>rfl
    | true=>have:=ja hb;omega
   rw[this]
 | fj t g off=>cases t<;>first | rfl | cases h
 | eF l'=>exact congrArg AV.eF (Rn (λx hx=>(RV.L8 hx).2 l) h)
 | _=>rfl
theorem L9{k t:Nat}{l:List Nat}(h:(fr t).lR k=true):EB l fr t=fr t:=by
 rw[LH];exact AV.Ij h _
theorem Z0{k t:Nat}{o:Option (Nat×aH×Nat)}(h:(fr t).lR k=true):LD o fr t=fr t:=by
 cases o with
 | none=>rfl
 | some p=>obtain⟨a,b⟩:=p;exact AV.Ij h _
theorem L'{l:List Nat}:(wO l st).aw.length=st.aw.length:=by
 rw[LI];show(st.aw.map _).length=_;rw[kZ]
theorem Z3{o:Option (Nat×aH×Nat)}:(BT o st).aw.length=st.aw.length:=by
 cases o with
 | none=>rfl
 | some p=>obtain⟨a,b⟩:=p;show(st.aw.map _).length=_;rw[kZ]
def Kp (k:Nat)(fr:aR)(st:TS)(aj:aR)(aQ:TS):Prop:=(∀t,(fr t).lR k=true->aj t=fr t)/\st.aw.length<=aQ.aw.length
theorem ahL{k:Nat}{x:oX}{a:AV}(h:uX fr st x=some (a,aj,aQ)):Kp k fr st aj aQ:=by
 cases x with
 | new e z=>
   simp only[uX] at h;cases hz:BQ z with
   | none=>rw[hz] at h;cases h
   | some cs=>
     rw[hz] at h;simp only at h;split at h;·cases h;exact⟨λ_ _=>rfl,s0⟩
     cases h
 | box e x=>
   simp only[uX] at h;cases hz:(dV fr x).tM with
   | none=>rw[hz] at h;cases h
   | some cs=>
     rw[hz] at h;simp only at h;split at h;·cases h;exact⟨λ_ _=>rfl,s0⟩
     cases h
 | xW e sz n z ps=>
   simp only[uX] at h;split at h
   ·split at h
    ·split at h;·cases h;exact⟨λ_ h=>L9 h,by show st.aw.length<=(wO _ st).aw.length;rw[L'];exact ag _⟩
     cases h
    cases h
   cases h
 | _=>cases h
theorem ahM{k:Nat}{x:hO}{a:AV}(h:wQ fr st x=some (a,aj,aQ)):Kp k fr st aj aQ:=by
 cases x with
 | st n x v=>
   simp only[wQ] at h;split at h
   ·split at h
    ·split at h;·cases h;exact⟨λ_ _=>rfl,by show st.aw.length<=(st.aw.set _ _).length;rw[JB];exact ag _⟩
     cases h
    cases h
   cases h
 | app e sz bytes s x=>
   simp only[wQ] at h;split at h
   ·split at h;·cases h;exact⟨λ_ h=>Z0 h,by show st.aw.length<=(BT _ st).aw.length;rw[Z3];exact ag _⟩
    cases h
   cases h
 | _=>cases h
theorem Z4{k0:Nat}{op:fG}{k:AV->aR->TS->Prop}(h:yT Z T X D op fr st k R):yT Z T X D op fr st (λa aj aQ=>k a aj aQ/\Kp k0 fr st aj aQ) R:=by
 rw[Q2] at h⊢;have b:Kp k0 fr st fr st:=⟨λ_ _=>rfl,ag _⟩;cases op with
 | p x=>
   have h:wT fr (λa=>k a fr st) x:=h;show wT fr (λa=>k a fr st/\Kp k0 fr st fr st) x;unfold wT at h⊢;split at h
   ·simp only at h⊢;split at h;·rename_i c d;obtain⟨h1,n,g,h2,h3,h4⟩:=h;exact⟨h1,n,g,h2,h3,h4,b⟩
    exact h.elim
   ·simp only at h⊢;split at h;·exactλq=>⟨h q,b⟩
    ·exactλq=>⟨h q,b⟩
    ·exactλq=>⟨h q,b⟩
    unfold rP at h⊢;split at h;·exact⟨h,b⟩
    exact h.elim
   unfold rP at h⊢;split at h;·exact⟨h,b⟩
   exact h.elim
 | l x=>
   simp only[Ae,rP] at h⊢;split at h;·exact⟨h,b⟩
   exact h.elim
 | a x=>
   have h:yR fr st k x:=h;show yR fr st (λa aj aQ=>k a aj aQ/\Kp k0 fr st aj aQ) x;unfold yR at h⊢;split at h
   ·simp only at h⊢;split at h
    ·split at h;·obtain⟨h1,h2⟩:=h;rw[LK] at h2⊢;exact⟨h1,h2,λ_ h=>L9 h,by show st.aw.length<=(wO _ st).aw.length;rw[L'];exact ag _⟩
     exact h.elim
    exact h.elim
   unfold Ad at h⊢;split at h;·rename_i a aj aQ e;exact⟨h,ahL e⟩
   exact h.elim
 | w x=>
   have h:yS fr st k x:=h;show yS fr st (λa aj aQ=>k a aj aQ/\Kp k0 fr st aj aQ) x;unfold yS at h⊢;split at h
   ·simp only at h⊢;split at h
    ·split at h;·obtain⟨h1,h2⟩:=h;rw[QX] at h2⊢;exact⟨h1,h2,λ_ h=>Z0 h,by show st.aw.length<=(BT _ st).aw.length;rw[Z3];exact ag _⟩
     exact h.elim
    exact h.elim
   unfold Ad at h⊢;split at h;·rename_i a aj aQ e;exact⟨h,ahM e⟩
   exact h.elim
 | call f args=>
   simp only[Ae,LO] at h⊢;split at h
   ·rename_i j;unfold H5 at h⊢;split at h
    ·split at h;·exact⟨h,b⟩
     exact h.elim
    exact h.elim
   rw[QP] at h⊢;unfold H6 at h⊢;split at h;·exact h.elim
   split at h;·exact h.mono (λa s q=>⟨q,λ_ h=>L9 h,by show st.aw.length<=(wO _ st).aw.length;rw[L'];exact ag _⟩) λ_ h=>h
   split at h
   ·split at h;·exact h.mono (λa s q=>⟨q,λ_ h=>L9 h,by show st.aw.length<=((wO _ st).aw.set _ _).length;rw[JB,L'];exact ag _⟩) λ_ h=>h
    exact h.elim
   exact h.elim
 | nG g args=>exact h.elim
def dI (af:List Item)(t:Nat):Bool:=match af with
 | []=>true
 | it::r=>match it.dst with
   | some d=> !(q9 d t)&&dI r t
   | none=>dI r t
def pr:bU->Nat->Bool
 | .gI af,t=>dI af t
 | .lL d,t=>dI d.af t
 | .seq a b,t=>pr a t&&pr b t
 | .cond _ a b,t=>pr a t&&pr b t
 | .block _ c,t=>pr c t
 | .loop c,t=>pr c t
 | _,_=>true
theorem Ik{a:AV}{t:Nat}{it:Item}{r:List Item}(hd:dI (it::r) t=true):po fr it.dst a t=fr t/\dI r t=true:=by
 simp only[dI] at hd;split at hd;·rename_i d b;simp only[eZ,Bool.not_eq_true'] at hd;rw[b,H8];exact⟨iN (Ne.symm (ac2 hd.1)),hd.2⟩
 rename_i b;rw[b];exact⟨rfl,hd⟩
theorem Il{g:Option (Nat×Bool)}{y n a n':Prop}(h:yU fr g y n)(hy:y->a)(hn:n->n'):yU fr g a n':=by
 unfold yU at h⊢;split at h;·exact hy h
 split at h
 ·unfold yQ at h⊢;split at h;·exact hy h
  exact hn h
 ·exact hn h
 exact h.elim
def u9 (k:Nat)(W:Nat->Bool)(fr:aR)(st:TS)(aj:aR)(aQ:TS):Prop:=(∀t,W t=true->(fr t).lR k=true->aj t=fr t)/\st.aw.length<=aQ.aw.length
theorem u9.refl{k:Nat}{W:Nat->Bool}:u9 k W fr st fr st:=⟨λ_ _ _=>rfl,ag _⟩
theorem u9.trans{k:Nat}{W W' a:Nat->Bool}{aX:aR}{b:TS}(h:u9 k W fr st aj aQ)(g:u9 k W' aj aQ aX b)(c : ∀t,a t=true->W t=true/\W' t=true):u9 k a fr st aX b:=⟨λt ht hi=>by
 have h1:=h.1 t (c t ht).1 hi;rw[g.1 t (c t ht).2 (by rw[h1];exact hi),h1],cM h.2 g.2⟩
theorem Kp.put{k:Nat}{it:Item}{r:List Item}{a:AV}(h:Kp k fr st aj aQ):u9 k (λt=>dI (it::r) t) fr st (po aj it.dst a) aQ:=⟨λt ht hi=>by
 rw[(Ik (fr:=aj) (a:=a) ht).1];exact h.1 t hi,h.2⟩
theorem Ma{op:fG}{k k':AV->aR->TS->Prop}(h:yT Z T X D op fr st k R)(hk : ∀a f s,k a f s->k' a f s):yT Z T X D op fr st k' R:=by
 rw[Q2] at h⊢
 cases op with
 | p x=>
   have h:wT fr (λa=>k a fr st) x:=h;show wT fr (λa=>k' a fr st) x;unfold wT at h⊢;split at h
   ·simp only at h⊢;split at h;·obtain⟨h1,n,g,h2,h3,h4⟩:=h;exact⟨h1,n,g,h2,h3,hk _ _ _ h4⟩
    exact h.elim
   ·simp only at h⊢;split at h;·exactλq=>hk _ _ _ (h q)
    ·exactλq=>hk _ _ _ (h q)
    ·exactλq=>hk _ _ _ (h q)
    unfold rP at h⊢;split at h;·exact hk _ _ _ h
    exact h.elim
   unfold rP at h⊢;split at h;·exact hk _ _ _ h
   exact h.elim
 | l x=>
   simp only[Ae,rP] at h⊢;split at h;·exact hk _ _ _ h
   exact h.elim
 | a x=>
   have h:yR fr st k x:=h;show yR fr st k' x;unfold yR at h⊢;split at h
   ·split at h
    ·split at h;·obtain⟨h1,h2⟩:=h;rw[LK] at h2⊢;exact⟨h1,hk _ _ _ h2⟩
     exact h.elim
    exact h.elim
   unfold Ad at h⊢;split at h;·exact hk _ _ _ h
   exact h.elim
 | w x=>
   have h:yS fr st k x:=h;show yS fr st k' x;unfold yS at h⊢;split at h
   ·split at h
    ·split at h;·obtain⟨h1,h2⟩:=h;rw[QX] at h2⊢;exact⟨h1,hk _ _ _ h2⟩
     exact h.elim
    exact h.elim
   unfold Ad at h⊢;split at h;·exact hk _ _ _ h
   exact h.elim
 | call f args=>
   simp only[Ae,LO] at h⊢;split at h
   ·unfold H5 at h⊢;split at h
    ·split at h;·exact hk _ _ _ h
     exact h.elim
    exact h.elim
   rw[QP] at h⊢;unfold H6 at h⊢;split at h;·exact h.elim
   split at h;·exact h.mono (λa s q=>hk _ _ _ q) λ_ h=>h
   split at h
   ·split at h;·exact h.mono (λa s q=>hk _ _ _ q) λ_ h=>h
    exact h.elim
   exact h.elim
 | nG g args=>exact h.elim
theorem ER : ∀ {af:List Item} {fr:aR} {st:TS} {k k':aR->TS->Prop},Af Z T X D R af fr st k->(∀f s,k f s->k' f s)->Af Z T X D R af fr st k'
 | [],fr,st,k,k',h,hk=>hk _ _ h
 | it::r,fr,st,k,k',h,hk=>Il h (λh=>Ma h λa f s h=>ER h hk) λh=>ER h hk
theorem Rq{k0:Nat} : ∀ {af:List Item} {fr:aR} {st:TS} {k:aR->TS->Prop},Af Z T X D R af fr st k->Af Z T X D R af fr st λf s=>k f s/\u9 k0 (dI af) fr st f s
 | [],fr,st,k,h=>⟨h,u9.refl⟩
 | it::r,fr,st,k,h=>by
   refine Il h (λh=> ?_) λh=> ?_
   ·refine Ma (Z4 (k0:=k0) h) λa f s ⟨h1,h2⟩=> ?_;refine ER (Rq h1) λd e ⟨b,c⟩=>⟨b,(h2.put (it:=it) (r:=r) (a:=a)).trans c λt ht=>⟨ht,(Ik (fr:=fr) (a:= .bad) ht).2⟩⟩
   refine ER (Rq h) λd e ⟨b,c⟩=>⟨b,(Kp.put (it:=it) (r:=r) (a:= .skip) (k:=k0) (fr:=fr) (st:=st) ⟨λ_ _=>rfl,ag _⟩).trans c λt ht=>⟨ht,(Ik (fr:=fr) (a:= .bad) ht).2⟩⟩
theorem ES : ∀ {af:List Item} {q:Option (List Item)} {fr:aR} {st:TS} {k k':aR->TS->List TS->List Rec->Prop},Ag Z T X D R q af fr st k->(∀f s l c,k f s l c->k' f s l c)->Ag Z T X D R q af fr st k'
 | [],q,fr,st,k,k',h,hk=>hk _ _ _ _ h
 | it::r,q,fr,st,k,k',h,hk=>Il h (λh=>Ma h λa f s h=>by
    rw[LY] at h⊢
    exact ES h λ_ _ _ _ h=>hk _ _ _ _ h) λh=>ES h λ_ _ _ _ h=>hk _ _ _ _ h
theorem Rs{k0:Nat} : ∀ {af:List Item} {q:Option (List Item)} {fr:aR} {st:TS} {k:aR->TS->List TS->List Rec->Prop},Ag Z T X D R q af fr st k->Ag Z T X D R q af fr st λf s l c=>k f s l c/\u9 k0 (dI af) fr st f s
 | [],q,fr,st,k,h=>⟨h,u9.refl⟩
 | it::r,q,fr,st,k,h=>by
   refine Il h (λh=> ?_) λh=> ?_
   ·refine Ma (Z4 (k0:=k0) h) λa f s ⟨h1,h2⟩=> ?_;rw[LY] at h1⊢
    refine ES (Rs h1) λe g l c ⟨b,d⟩=>⟨b,(h2.put (it:=it) (r:=r) (a:=a)).trans d λt ht=>⟨ht,(Ik (fr:=fr) (a:= .bad) ht).2⟩⟩
   refine ES (Rs h) λe g l c ⟨b,d⟩=>⟨b,(Kp.put (it:=it) (r:=r) (a:= .skip) (k:=k0) (fr:=fr) (st:=st) ⟨λ_ _=>rfl,ag _⟩).trans d λt ht=>⟨ht,(Ik (fr:=fr) (a:= .bad) ht).2⟩⟩
theorem Mb{S:List TS}{c:List Rec}{af:List Item}{k k':Prop}(hk:k->k') : ∀ {L:List (Item×Nat)},Ah fr S c af k L->Ah fr S c af k' L
 | [],h=>hk h
 | p::L,h=>by
   have h:EK fr S c af p (Ah fr S c af k L):=h;show EK fr S c af p (Ah fr S c af k' L);unfold EK at h⊢;split at h;·exact h.elim
   refine Il h (λh=> ?_) (Mb hk);split at h
   ·obtain⟨h1,h2⟩:=h;refine⟨h1,?_⟩;split at h2;·exact Mb hk h2
    exact h2.elim
   exact h.elim
theorem Z5{a:AV}{y n b n':Prop}(h:EP a y n)(hy:y->b)(hn:n->n'):EP a b n':=by
 unfold EP at h⊢;split at h
 ·unfold yQ at h⊢;split at h;·exact hy h
  exact hn h
 exact h.elim
theorem ahN{k n:Nat}{I a:Nat->aR->TS->Prop}{Q b:bP->aR->TS->Prop}(d : ∀m f s,I m f s->a m f s)(c : ∀x f s,Q x f s->b x f s){x:bP}(h:Ai k I n Q x fr st):Ai k a n b x fr st:=by
 cases x with
 | normal=>obtain⟨m,l,h1,h2,h3⟩:=h;exact⟨m,l,h1,h2,d _ _ _ h3⟩
 | exit i=>exact c _ _ _ h
 | ret=>exact c _ _ _ h
theorem Z6{i id:Nat}{a b a' b':Prop}(h:EQ i id a b)(ha:a->a')(hb:b->b'):EQ i id a' b':=by
 unfold EQ at h⊢;split at h;·exact ha h
 exact hb h
theorem B7 : ∀ {c:bU} {fr:aR} {st:TS} {Q j:bP->aR->TS->Prop},kQ Z T X D R c fr st Q->(∀x f s,Q x f s->j x f s)->kQ Z T X D R c fr st j:=by
 intro c;induction c with
 | skip=>intro fr st Q j h e;exact e _ _ _ h
 | gI af=>intro fr st Q j h e;exact ER h λf s h=>e _ _ _ h
 | lL d=>intro fr st Q j h e;exact ES h λf s l c h=>Mb (e _ _ _) h
 | seq a b k m=>
   intro fr st Q j h e;refine k h λx f s h=> ?_;cases x with
   | normal=>exact m h e
   | exit i=>exact e _ _ _ h
   | ret=>exact e _ _ _ h
 | cond c a b k m=>intro fr st Q j h e;exact Z5 h (λh=>k h e) λh=>m h e
 | block id c o=>
   intro fr st Q j h e;refine o h λx f s h=> ?_;cases x with
   | normal=>exact e _ _ _ h
   | exit i=>exact Z6 h (e _ _ _) (e _ _ _)
   | ret=>exact e _ _ _ h
 | loop c o=>
   intro fr st Q j h e;obtain⟨I,n,l,hl,p,hs⟩:=h;exact⟨I,n,l,hl,p,λn f s hi=>o (hs n f s hi) λx f s h=>ahN (λ_ _ _ h=>h) e h⟩
 | exit id=>intro fr st Q j h e;exact e _ _ _ h
 | ret=>intro fr st Q j h e;exact e _ _ _ h
 | rv g key=>intro fr st Q j h e;exact h.elim
 | bad=>intro fr st Q j h e;exact h.elim
theorem ahO{k0:Nat} : ∀ {c:bU} {fr:aR} {st:TS} {Q:bP->aR->TS->Prop},k0<=st.aw.length->kQ Z T X D R c fr st Q->kQ Z T X D R c fr st λx f s=>Q x f s/\(∀t,pr c t=true->(fr t).lR k0=true->f t=fr t)/\k0<=s.aw.length:=by
 intro c;induction c with
 | skip=>intro fr st Q hk h;exact⟨h,λ_ _ _=>rfl,hk⟩
 | gI af=>intro fr st Q hk h;exact ER (Rq (k0:=k0) h) λf s ⟨h,h1,h2⟩=>⟨h,h1,cM hk h2⟩
 | lL d=>intro fr st Q hk h;exact ES (Rs (k0:=k0) h) λf s l c ⟨h,h1,h2⟩=>Mb (λh=>⟨h,h1,cM hk h2⟩) h
 | seq a b j k=>
   intro fr st Q hk h;show kQ Z T X D R a fr st _;refine B7 (j hk h) λx f s ⟨h,h1,h2⟩=> ?_;cases x with
   | normal=>
     refine B7 (k h2 h) λx o r ⟨h,u,v⟩=>⟨h,λt ht hi=> ?_,v⟩;simp only[pr,eZ] at ht;have e:=h1 t ht.1 hi;rw[u t ht.2 (by rw[e];exact hi),e]
   | exit i=>exact⟨h,λt ht hi=>h1 t (by simp only[pr,eZ] at ht;exact ht.1) hi,h2⟩
   | ret=>exact⟨h,λt ht hi=>h1 t (by simp only[pr,eZ] at ht;exact ht.1) hi,h2⟩
 | cond c a b j k=>
   intro fr st Q hk h;refine Z5 h (λh=>B7 (j hk h) λx f s ⟨h,h1,h2⟩=>⟨h,λt ht hi=>h1 t ?_ hi,h2⟩) λh=>B7 (k hk h) λx f s ⟨h,h1,h2⟩=>⟨h,λt ht hi=>h1 t ?_ hi,h2⟩;·simp only[pr,eZ] at ht;exact ht.1
   simp only[pr,eZ] at ht;exact ht.2
 | block id c p=>
   intro fr st Q hk h;show kQ Z T X D R c fr st _;refine B7 (p hk h) λx f s ⟨h,h1,h2⟩=> ?_;cases x with
   | normal=>exact⟨h,h1,h2⟩
   | exit i=>exact Z6 h (λh=>⟨h,h1,h2⟩) λh=>⟨h,h1,h2⟩
   | ret=>exact⟨h,h1,h2⟩
 | loop c p=>
   intro fr st Q hk h;obtain⟨I,n,l,hl,w,hs⟩:=h;refine⟨λm f s=>I m f s/\(∀t,pr c t=true->(fr t).lR k0=true->f t=fr t)/\k0<=s.aw.length,n,l,hl,⟨w,λt _ hi=>AV.B6 hi hk l,by show k0<=((st.aw.take _).map _).length;rw[kZ,nU];omega⟩,λm f s ⟨hi,ha,hb⟩=> ?_⟩;refine B7 (p hb (hs m f s hi)) λx o r ⟨h,h1,h2⟩=> ?_;have q : ∀t,pr c t=true->(fr t).lR k0=true->o t=fr t:=λt ht hi=>by
    have e:=ha t ht hi;rw[h1 t ht (by rw[e];exact hi),e]
   cases x with
   | normal=>
     obtain⟨y,l,z,A,B⟩:=h;refine⟨y,l,z,A,B,λt ht hi=> ?_,?_⟩;·show(o t).cut _ l=fr t;rw[q t ht hi];exact AV.B6 hi hk l
     show k0<=((r.aw.take _).map _).length;rw[kZ,nU];omega
   | exit i=>exact⟨h,q,h2⟩
   | ret=>exact⟨h,q,h2⟩
 | exit id=>intro fr st Q hk h;exact⟨h,λ_ _ _=>rfl,hk⟩
 | ret=>intro fr st Q hk h;exact⟨h,λ_ _ _=>rfl,hk⟩
 | rv g key=>intro fr st Q hk h;exact h.elim
 | bad=>intro fr st Q hk h;exact h.elim
def Aj (c:bU)(k:Nat)(a f:aR):aR:=λt=>match pr c t&&(a t).lR k with
 | true=>a t
 | false=>f t
abbrev Mc(Z:TP)(T:cF)(X:ce)(D:TD)(R:ae->Prop)(c:bU)(a:aR)(cZ:TS)(Q:bP->aR->TS->Prop):Prop:=∃(I:Nat->aR->TS->Prop) (n:Nat) (l:List Nat),u7 l=true/\I n (a.cut cZ.aw.length l) (cZ.cut cZ.aw.length l)/\∀n f s,I n f s->kQ Z T X D R c f s (Ai cZ.aw.length I n Q)
theorem Rt{c:bU}{Q:bP->aR->TS->Prop}{a:aR}{cZ:TS}(J:Nat->aR->TS->Prop)(n:Nat)(l:List Nat)(hl:u7 l=true)(d:J n (a.cut cZ.aw.length l) (cZ.cut cZ.aw.length l))(hs : ∀m f s,J m f s->f=Aj c cZ.aw.length a f->kQ Z T X D R c f s (Ai cZ.aw.length J m Q)):Mc Z T X D R c a cZ Q:=by
 refine⟨λm f s=>J m f s/\(∀t,pr c t=true->(a t).lR cZ.aw.length=true->f t=a t)/\cZ.aw.length<=s.aw.length,n,l,hl,⟨d,λt _ hi=>AV.B6 hi (ag _) l,by show cZ.aw.length<=((cZ.aw.take _).map _).length;rw[kZ,nU];omega⟩,λm f s ⟨g,ha,hb⟩=> ?_⟩;have j:f=Aj c cZ.aw.length a f:=funext λt=>by
  unfold Aj;split;·rename_i e;simp only[eZ] at e;exact ha t e.1 e.2
  rfl
 refine B7 (ahO hb (hs m f s g j)) λx b k ⟨h,h1,h2⟩=> ?_;have o : ∀t,pr c t=true->(a t).lR cZ.aw.length=true->b t=a t:=λt ht hi=>by
  have e:=ha t ht hi;rw[h1 t ht (by rw[e];exact hi),e]
 cases x with
 | normal=>
   obtain⟨p,l,q,r,u⟩:=h;refine⟨p,l,q,r,u,λt ht hi=> ?_,?_⟩;·show(b t).cut _ l=a t;rw[o t ht hi];exact AV.B6 hi (ag _) l
   show cZ.aw.length<=((k.aw.take _).map _).length;rw[kZ,nU];omega
 | exit i=>exact h
 | ret=>exact h
theorem qG{c:bU}{Q:bP->aR->TS->Prop}{a:aR}{cZ:TS}(J:Nat->TS->Prop)(n:Nat)(l:List Nat)(hl:u7 l=true)(b:J n (cZ.cut cZ.aw.length l))(hs : ∀m f s,J m s->kQ Z T X D R c (Aj c cZ.aw.length a f) s (Ai cZ.aw.length (λm _ s=>J m s) m Q)):Mc Z T X D R c a cZ Q:=
 Rt (λm _ s=>J m s) n l hl b λm f s d e=>by rw[e];exact hs m f s d
theorem qH{c:bU}{Q:bP->aR->TS->Prop}{b:aR}{cZ:TS}(d:Nat)(J:Nat->AV->TS->Prop)(n:Nat)(l:List Nat)(hl:u7 l=true)(g:J n ((b d).cut cZ.aw.length l) (cZ.cut cZ.aw.length l))(hs : ∀m a f s,J m a s->kQ Z T X D R c (po (Aj c cZ.aw.length b f) (some d) a) s (Ai cZ.aw.length (λm f s=>J m (f d) s) m Q)):Mc Z T X D R c b cZ Q:=
 Rt (λm f s=>J m (f d) s) n l hl g λm f s h j=>by
  have e:f=po (Aj c cZ.aw.length b f) (some d) (f d):=funext λt=>by
   rw[H8];split;·rename_i e;rw[e]
   rw[<-j]
  rw[e];exact hs m (f d) f s h
theorem Z7{c:bU}{Q:bP->aR->TS->Prop}{g:aR}{cZ:TS}(d d2:Nat)(J:Nat->AV->AV->TS->Prop)(n:Nat)(l:List Nat)(hl:u7 l=true)(h:J n ((g d).cut cZ.aw.length l) ((g d2).cut cZ.aw.length l) (cZ.cut cZ.aw.length l))(hs : ∀m a b f s,J m a b s->kQ Z T X D R c (po (po (Aj c cZ.aw.length g f) (some d2) b) (some d) a) s (Ai cZ.aw.length (λm f s=>J m (f d) (f d2) s) m Q)):Mc Z T X D R c g cZ Q:=
 Rt (λm f s=>J m (f d) (f d2) s) n l hl h λm f s j k=>by
  have e:f=po (po (Aj c cZ.aw.length g f) (some d2) (f d2)) (some d) (f d):=funext λt=>by
   rw[H8,H8];split;·rename_i e;rw[e]
   split;·rename_i e;rw[e]
   rw[<-k]
  rw[e];exact hs m (f d) (f d2) f s j
theorem b9{b:Bool}{a no:Prop}(h1:b=true->a)(h2:b=false->no):yQ b a no:=by
 cases b;·exact h2 rfl
 exact h1 rfl
end
section
structure PT where
 kind:Int
 line:Int
 text:List UInt8
inductive Nd where
 | mk (kind:Nat) (line:Int) (text:List UInt8) (op:Nat) (kids:List Nd)
def Nd.kind:Nd->Nat
 | .mk k _ _ _ _=>k
def Nd.line:Nd->Int
 | .mk _ l _ _ _=>l
def Nd.text:Nd->List UInt8
 | .mk _ _ x _ _=>x
def Nd.op:Nd->Nat
 | .mk _ _ _ o _=>o
def Nd.kids:Nd->List Nd
 | .mk _ _ _ _ ks=>ks
abbrev nd(k:Nat)(l:Int)(kids:List Nd):Nd:= .mk k l [] 0 kids
def ah (ts:List PT)(i:Nat):PT:=match ts[i]? with
 | some t=>t
 | none=>match ts.getLast? with
   | some t=>⟨0,t.line,[]⟩
   | none=>⟨0,0,[]⟩
def rQ:List UInt8->Bool
 | c::_=>decide ((65<=c.toNat/\c.toNat<=90)\/(97<=c.toNat/\c.toNat<=122))
 | []=>false
def ai (ts:List PT)(i:Nat)(s:List UInt8):Bool:=decide (((ah ts i).kind=8\/(ah ts i).kind=9)/\(ah ts i).text=s/\rQ s=decide ((ah ts i).kind=8))
abbrev qI:List UInt8:= [al 108,al 97,al 109,al 98,al 100,al 97]
abbrev gh:List UInt8:= [al 58]
abbrev lj:List UInt8:= [al 105,al 102]
abbrev wV:List UInt8:= [al 101,al 108,al 115,al 101]
abbrev qJ:List UInt8:= [al 111,al 114]
abbrev qK:List UInt8:= [al 97,al 110,al 100]
abbrev lS:List UInt8:= [al 110,al 111,al 116]
abbrev Im:List UInt8:= [al 61,al 61]
abbrev Io:List UInt8:= [al 33,al 61]
abbrev Ip:List UInt8:= [al 60]
abbrev Iq:List UInt8:= [al 60,al 61]
abbrev Ir:List UInt8:= [al 62]
abbrev Is:List UInt8:= [al 62,al 61]
abbrev tP:List UInt8:= [al 105,al 110]
abbrev It:List UInt8:= [al 105,al 115]
abbrev nk:List UInt8:= [al 43]
abbrev oz:List UInt8:= [al 45]
abbrev Ak:List UInt8:= [al 42]
abbrev B8:List UInt8:= [al 47]
abbrev ET:List UInt8:= [al 47,al 47]
abbrev Iu:List UInt8:= [al 37]
abbrev Iv:List UInt8:= [al 42,al 42]
abbrev B9:List UInt8:= [al 46]
abbrev lq:List UInt8:= [al 40]
abbrev oA:List UInt8:= [al 41]
abbrev p7:List UInt8:= [al 91]
abbrev oB:List UInt8:= [al 93]
abbrev wW:List UInt8:= [al 123]
abbrev rR:List UInt8:= [al 125]
abbrev eW:List UInt8:= [al 44]
abbrev qL:List UInt8:= [al 78,al 111,al 110,al 101]
abbrev qM:List UInt8:= [al 84,al 114,al 117,al 101]
abbrev qN:List UInt8:= [al 70,al 97,al 108,al 115,al 101]
abbrev jQ:List UInt8:= [al 102,al 111,al 114]
abbrev va:List UInt8:= [al 61]
abbrev Md:List UInt8:= [al 43,al 61]
abbrev Me:List UInt8:= [al 45,al 61]
abbrev Mf:List UInt8:= [al 42,al 61]
abbrev Mg:List UInt8:= [al 47,al 61]
abbrev Mh:List UInt8:= [al 47,al 47,al 61]
abbrev Mi:List UInt8:= [al 37,al 61]
abbrev Mj:List UInt8:= [al 42,al 42,al 61]
abbrev p8:List UInt8:= [al 112,al 97,al 115,al 115]
abbrev qO:List UInt8:= [al 98,al 114,al 101,al 97,al 107]
abbrev rT:List UInt8:= [al 99,al 111,al 110,al 116,al 105,al 110,al 117,al 101]
abbrev oC:List UInt8:= [al 114,al 101,al 116,al 117,al 114,al 110]
abbrev p9:List UInt8:= [al 114,al 97,al 105,al 115,al 101]
abbrev yV:List UInt8:= [al 103,al 108,al 111,al 98,al 97,al 108]
abbrev Al:List UInt8:= [al 110,al 111,al 110,al 108,al 111,al 99,al 97,al 108]
abbrev Am:List UInt8:= [al 97,al 115,al 115,al 101,al 114,al 116]
abbrev nP:List UInt8:= [al 121,al 105,al 101,al 108,al 100]
abbrev Ml:List UInt8:= [al 100,al 101,al 108]
abbrev sU:List UInt8:= [al 101,al 108,al 105,al 102]
abbrev rU:List UInt8:= [al 101,al 120,al 99,al 101,al 112,al 116]
abbrev B':List UInt8:= [al 97,al 115]
abbrev Ca:List UInt8:= [al 102,al 105,al 110,al 97,al 108,al 108,al 121]
abbrev tQ:List UInt8:= [al 119,al 104,al 105,al 108,al 101]
abbrev wX:List UInt8:= [al 100,al 101,al 102]
abbrev wY:List UInt8:= [al 99,al 108,al 97,al 115,al 115]
abbrev Cb:List UInt8:= [al 116,al 114,al 121]
abbrev Cc:List UInt8:= [al 119,al 105,al 116,al 104]
def iR (ts:List PT)(i:Nat):Bool:=decide (4<=(ah ts i).kind/\(ah ts i).kind<=7)||ai ts i qI||ai ts i lS||ai ts i qL||ai ts i qM||ai ts i qN||ai ts i nk||ai ts i oz||ai ts i lq||ai ts i p7||ai ts i wW
abbrev PR:=Option (Except Nat (List Nd×Nat))
def pb (r:PR)(k:List Nd->Nat->PR):PR:=match r with
 | none=>none
 | some (.error e)=>some (.error e)
 | some (.ok (l,i))=>k l i
def bI (n:Nd)(i:Nat):PR:=some (.ok ([n],i))
def bu (r:PR)(k:Nd->Nat->PR):PR:=pb r λl i=>match l with
 | [n]=>k n i
 | _=>none
def eX(ts:List PT)(s:List UInt8)(i:Nat)(k:Nat->PR):PR:=if ai ts i s=true then k (i+1) else some (.error i)
def jo(ts:List PT)(kd:Int)(i:Nat)(k:List UInt8->Nat->PR):PR:=if (ah ts i).kind=kd then k (ah ts i).text (i+1) else some (.error i)
def nQ(n:Nd):Bool:=decide (n.kind=36\/n.kind=45\/n.kind=46)
mutual
def fw:Nd->Bool
 | .mk k _ _ _ ks=>if k=52\/k=51 then iU ks && !ks.isEmpty else decide (k=36\/k=45\/k=46)
def iU:List Nd->Bool
 | []=>true
 | n::ks=>fw n&&iU ks
end
def eB (ts:List PT)(i:Nat):Except Nat (Nat×Nat):=
 if ai ts i Im=true then .ok (1,i+1) else if ai ts i Io=true then .ok (2,i+1) else if ai ts i Ip=true then .ok (3,i+1) else if ai ts i Iq=true then .ok (4,i+1)
 else if ai ts i Ir=true then .ok (5,i+1) else if ai ts i Is=true then .ok (6,i+1) else if ai ts i tP=true then .ok (7,i+1)
 else if ai ts i lS=true then (if ai ts (i+1) tP=true then .ok (8,i+2) else .error (i+1))
 else if ai ts i It=true then (if ai ts (i+1) lS=true then .ok (10,i+2) else .ok (9,i+1)) else .ok (0,i)
def fm (ts:List PT)(i:Nat):Nat:=if ai ts i Md=true then 1 else if ai ts i Me=true then 2 else if ai ts i Mf=true then 3 else if ai ts i Mg=true then 4 else if ai ts i Mh=true then 5 else if ai ts i Mi=true then 6 else if ai ts i Mj=true then 7 else 0
def yW(k:Int):Nat:=if k=5 then 30 else if k=6 then 31 else if k=7 then 32 else 36
def An(l:Int):List Nd->Int
 | n::_=>n.line
 | []=>l
inductive NT where
 | expr | or | and | not | compare | arith | term | oD | primary | atom | exprs | one | sV | simple | plain | value | block | stmt
 | params (close:List UInt8) (line:Int) (acc:List Nd)
 | row (close:List UInt8) (acc:List Nd)
 | qc (line:Int) (acc:List Nd)
 | tR (n:Nd) | tS (n:Nd) | jR (n:Nd) (acc:List Nd) | sW (n:Nd) | qP (n:Nd) | rV (n:Nd) | index (n:Nd)
 | clauses (acc:List Nd)
 | list (line:Int) | qQ (line:Int) | rW (line:Int) (acc:List Nd)
 | placesL (line:Int) (acc:List Nd)
 | names (kind:Nat) (line:Int) (acc:List Nd)
 | maybe (kind:Nat) (line:Int) (all:Bool)
 | jp (line:Int) (acc:List Nd)
 | a9 (acc:List Nd)
 | ifs (line:Int) | tries (line:Int) | lT (acc:List Nd) | nR (line:Int) (acc:List Nd)
 | top (acc:List Nd)
def gr (ts:List PT):Nat->NT->Nat->PR
 | 0,_,_=>none
 | f+1, .expr,i=>if ai ts i qI=true then
     bu (gr ts f (.params gh (ah ts i).line []) (i+1)) λp i1=>eX ts gh i1 λi2=>bu (gr ts f .expr i2) λe i3=>bI (nd 50 (ah ts i).line [p,e]) i3
    else bu (gr ts f .or i) λa i1=>if ai ts i1 lj=true then
     bu (gr ts f .or (i1+1)) λc i2=>eX ts wV i2 λi3=>bu (gr ts f .expr i3) λe i4=>bI (nd 49 a.line [c,a,e]) i4
    else bI a i1
 | f+1, .or,i=>bu (gr ts f .and i) λn i1=>gr ts f (.tR n) i1
 | f+1, .tR n,i=>if ai ts i qJ=true then bu (gr ts f .and (i+1)) λm i1=>gr ts f (.tR (nd 40 n.line [n,m])) i1 else bI n i
 | f+1, .and,i=>bu (gr ts f .not i) λn i1=>gr ts f (.tS n) i1
 | f+1, .tS n,i=>if ai ts i qK=true then bu (gr ts f .not (i+1)) λm i1=>gr ts f (.tS (nd 39 n.line [n,m])) i1 else bI n i
 | f+1, .not,i=>if ai ts i lS=true then bu (gr ts f .not (i+1)) λn i1=>bI (nd 41 (ah ts i).line [n]) i1 else gr ts f .compare i
 | f+1, .compare,i=>bu (gr ts f .arith i) λn i1=>gr ts f (.jR n []) i1
 | f+1, .jR n acc,i=>match eB ts i with
   | .error e=>some (.error e)
   | .ok (0,_)=>bI (if acc.isEmpty then n else nd 42 n.line (n::acc)) i
   | .ok (op+1,i1)=>bu (gr ts f .arith i1) λm i2=>gr ts f (.jR n (acc++ [.mk 43 (ah ts i).line [] (op+1) [m]])) i2
 | f+1, .arith,i=>bu (gr ts f .term i) λn i1=>gr ts f (.sW n) i1
 | f+1, .sW n,i=>if ai ts i nk=true then bu (gr ts f .term (i+1)) λm i1=>gr ts f (.sW (.mk 37 n.line [] 1 [n,m])) i1
    else if ai ts i oz=true then bu (gr ts f .term (i+1)) λm i1=>gr ts f (.sW (.mk 37 n.line [] 2 [n,m])) i1 else bI n i
 | f+1, .term,i=>bu (gr ts f .oD i) λn i1=>gr ts f (.qP n) i1
 | f+1, .qP n,i=>if ai ts i Ak=true then bu (gr ts f .oD (i+1)) λm i1=>gr ts f (.qP (.mk 37 n.line [] 3 [n,m])) i1
    else if ai ts i B8=true then bu (gr ts f .oD (i+1)) λm i1=>gr ts f (.qP (.mk 37 n.line [] 4 [n,m])) i1
    else if ai ts i ET=true then bu (gr ts f .oD (i+1)) λm i1=>gr ts f (.qP (.mk 37 n.line [] 5 [n,m])) i1
    else if ai ts i Iu=true then bu (gr ts f .oD (i+1)) λm i1=>gr ts f (.qP (.mk 37 n.line [] 6 [n,m])) i1 else bI n i
 | f+1, .oD,i=>if ai ts i nk=true then bu (gr ts f .oD (i+1)) λn i1=>bI (.mk 38 (ah ts i).line [] 2 [n]) i1
    else if ai ts i oz=true then bu (gr ts f .oD (i+1)) λn i1=>bI (.mk 38 (ah ts i).line [] 1 [n]) i1
    else bu (gr ts f .primary i) λn i1=>if ai ts i1 Iv=true then bu (gr ts f .oD (i1+1)) λm i2=>bI (.mk 37 n.line [] 7 [n,m]) i2 else bI n i1
 | f+1, .primary,i=>bu (gr ts f .atom i) λn i1=>gr ts f (.rV n) i1
 | f+1, .rV n,i=>if ai ts i B9=true then jo ts 4 (i+1) λs i1=>gr ts f (.rV (.mk 45 n.line s 0 [n])) i1
    else if ai ts i lq=true then pb (gr ts f (.row oA []) (i+1)) λl i1=>eX ts oA i1 λi2=>gr ts f (.rV (nd 44 n.line (n::l))) i2
    else if ai ts i p7=true then bu (gr ts f (.index n) (i+1)) λm i1=>eX ts oB i1 λi2=>gr ts f (.rV m) i2 else bI n i
 | f+1, .index n,i=>if ai ts i gh=true then eX ts gh i λi2=>if ai ts i2 oB=true then bI (nd 47 n.line [n,nd 48 n.line [],nd 48 n.line []]) i2
      else bu (gr ts f .expr i2) λhi i3=>bI (nd 47 n.line [n,nd 48 n.line [],hi]) i3
    else bu (gr ts f .expr i) λlo i1=>if ai ts i1 eW=true then bu (gr ts f (.qc lo.line [lo]) i1) λm i2=>bI (nd 46 n.line [n,m]) i2
     else if ai ts i1 gh=true then (if ai ts (i1+1) oB=true then bI (nd 47 n.line [n,lo,nd 48 n.line []]) (i1+1)
      else bu (gr ts f .expr (i1+1)) λhi i3=>bI (nd 47 n.line [n,lo,hi]) i3) else bI (nd 46 n.line [n,lo]) i1
 | f+1, .atom,i=>if 4<=(ah ts i).kind/\(ah ts i).kind<=7 then bI (.mk (yW (ah ts i).kind) (ah ts i).line (ah ts i).text 0 []) (i+1)
    else if ai ts i qL=true then bI (nd 33 (ah ts i).line []) (i+1) else if ai ts i qM=true then bI (nd 34 (ah ts i).line []) (i+1)
    else if ai ts i qN=true then bI (nd 35 (ah ts i).line []) (i+1)
    else if ai ts i lq=true then (if ai ts (i+1) oA=true then bI (nd 52 (ah ts i).line []) (i+2) else bu (gr ts f .exprs (i+1)) λn i1=>eX ts oA i1 λi2=>bI n i2)
    else if ai ts i p7=true then bu (gr ts f (.list (ah ts i).line) (i+1)) λn i1=>eX ts oB i1 λi2=>bI n i2
    else if ai ts i wW=true then bu (gr ts f (.qQ (ah ts i).line) (i+1)) λn i1=>eX ts rR i1 λi2=>bI n i2
    else some (.error i)
 | f+1, .exprs,i=>bu (gr ts f .expr i) λn i1=>if ai ts i1 eW=true then gr ts f (.qc n.line [n]) i1 else bI n i1
 | f+1, .qc l acc,i=>if ai ts i eW=true then (if iR ts (i+1)=true then bu (gr ts f .expr (i+1)) λe i1=>gr ts f (.qc l (acc++ [e])) i1 else bI (nd 52 l acc) (i+1)) else bI (nd 52 l acc) i
 | f+1, .row cl acc,i=>if ai ts i cl=true then some (.ok (acc,i)) else bu (gr ts f .expr i) λe i1=>if ai ts i1 eW=true then gr ts f (.row cl (acc++ [e])) (i1+1) else some (.ok (acc++ [e],i1))
 | f+1, .params cl l acc,i=>if ai ts i cl=true then bI (nd 23 l acc) i else jo ts 4 i λs i1=>if ai ts i1 eW=true then gr ts f (.params cl l (acc++ [.mk 36 (ah ts i).line s 0 []])) (i1+1) else bI (nd 23 l (acc++ [.mk 36 (ah ts i).line s 0 []])) i1
 | f+1, .clauses acc,i=>if ai ts i jQ=true then bu (gr ts f .sV (i+1)) λp i1=>eX ts tP i1 λi2=>bu (gr ts f .or i2) λe i3=>gr ts f (.clauses (acc++ [nd 58 (ah ts i).line [p,e]])) i3
    else if ai ts i lj=true then bu (gr ts f .or (i+1)) λe i1=>gr ts f (.clauses (acc++ [nd 59 (ah ts i).line [e]])) i1 else some (.ok (acc,i))
 | f+1, .list l,i=>if ai ts i oB=true then bI (nd 51 l []) i else bu (gr ts f .expr i) λe i1=>if ai ts i1 jQ=true then pb (gr ts f (.clauses []) i1) λcs i2=>bI (nd 55 l (e::cs)) i2
    else if ai ts i1 eW=true then pb (gr ts f (.row oB []) (i1+1)) λr i2=>bI (nd 51 l (e::r)) i2 else bI (nd 51 l [e]) i1
 | f+1, .qQ l,i=>if ai ts i rR=true then bI (nd 54 l []) i else bu (gr ts f .expr i) λe i1=>if ai ts i1 gh=true then
     bu (gr ts f .expr (i1+1)) λv i2=>if ai ts i2 jQ=true then pb (gr ts f (.clauses []) i2) λcs i3=>bI (nd 57 l (e::v::cs)) i3 else gr ts f (.rW l [e,v]) i2
    else if ai ts i1 jQ=true then pb (gr ts f (.clauses []) i1) λcs i2=>bI (nd 56 l (e::cs)) i2
    else if ai ts i1 eW=true then pb (gr ts f (.row rR []) (i1+1)) λr i2=>bI (nd 53 l (e::r)) i2 else bI (nd 53 l [e]) i1
 | f+1, .rW l acc,i=>if ai ts i eW=true then (if ai ts (i+1) rR=true then bI (nd 54 l acc) (i+1) else bu (gr ts f .expr (i+1)) λk i1=>eX ts gh i1 λi2=>bu (gr ts f .expr i2) λv i3=>gr ts f (.rW l (acc++ [k,v])) i3) else bI (nd 54 l acc) i
 | f+1, .one,i=>bu (gr ts f .primary i) λn i1=>if fw n=true then bI n i1 else some (.error i1)
 | f+1, .sV,i=>bu (gr ts f .one i) λn i1=>if ai ts i1 eW=true then gr ts f (.placesL n.line [n]) i1 else bI n i1
 | f+1, .placesL l acc,i=>if ai ts i eW=true then (if iR ts (i+1)=true/\ai ts (i+1) nk=false/\ai ts (i+1) oz=false/\ai ts (i+1) lS=false/\ai ts (i+1) qI=false then bu (gr ts f .one (i+1)) λe i1=>gr ts f (.placesL l (acc++ [e])) i1 else bI (nd 52 l acc) (i+1)) else bI (nd 52 l acc) i
 | f+1, .names k l acc,i=>jo ts 4 i λs i1=>if ai ts i1 eW=true then gr ts f (.names k l (acc++ [.mk 36 (ah ts i).line s 0 []])) (i1+1) else bI (nd k l (acc++ [.mk 36 (ah ts i).line s 0 []])) i1
 | f+1, .maybe k l all,i=>if iR ts i=true then bu (gr ts f (if all=true then .exprs else .expr) i) λe i1=>bI (nd k l [e]) i1 else bI (nd k l []) i
 | f+1, .value,i=>if ai ts i nP=true then gr ts f (.maybe 60 (ah ts i).line true) (i+1) else gr ts f .exprs i
 | f+1, .plain,i=>bu (gr ts f .exprs i) λn i1=>if ai ts i1 va=true then gr ts f (.jp n.line [n]) i1
    else if fm ts i1=0 then bI (nd 2 n.line [n]) i1 else if nQ n=true then bu (gr ts f .exprs (i1+1)) λm i2=>bI (.mk 4 n.line [] (fm ts i1) [n,m]) i2 else some (.error i1)
 | f+1, .jp l acc,i=>if ai ts i va=true then (match acc.getLast? with
     | some n=>if fw n=true then bu (gr ts f .value (i+1)) λv i1=>gr ts f (.jp l (acc++ [v])) i1 else some (.error i)
     | none=>none) else bI (nd 3 l acc) i
 | f+1, .simple,i=>if ai ts i p8=true then bI (nd 11 (ah ts i).line []) (i+1) else if ai ts i qO=true then bI (nd 12 (ah ts i).line []) (i+1)
    else if ai ts i rT=true then bI (nd 13 (ah ts i).line []) (i+1) else if ai ts i oC=true then gr ts f (.maybe 10 (ah ts i).line true) (i+1)
    else if ai ts i p9=true then gr ts f (.maybe 14 (ah ts i).line false) (i+1) else if ai ts i yV=true then gr ts f (.names 17 (ah ts i).line []) (i+1)
    else if ai ts i Al=true then gr ts f (.names 18 (ah ts i).line []) (i+1) else if ai ts i Am=true then bu (gr ts f .expr (i+1)) λe i1=>bI (nd 20 (ah ts i).line [e]) i1
    else if ai ts i nP=true then bu (gr ts f (.maybe 60 (ah ts i).line true) (i+1)) λe i1=>bI (nd 2 (ah ts i).line [e]) i1
    else if ai ts i Ml=true then bu (gr ts f .primary (i+1)) λn i1=>if nQ n=true then bI (nd 19 (ah ts i).line [n]) i1 else some (.error i1)
    else gr ts f .plain i
 | f+1, .block,i=>if (ah ts i).kind=1 then jo ts 2 (i+1) λ_ i1=>gr ts f (.a9 []) i1 else bu (gr ts f .simple i) λn i1=>jo ts 1 i1 λ_ i2=>bI (nd 1 n.line [n]) i2
 | f+1, .a9 acc,i=>bu (gr ts f .stmt i) λs i1=>if (ah ts i1).kind=3 then bI (nd 1 (An 0 (acc++ [s])) (acc++ [s])) (i1+1) else gr ts f (.a9 (acc++ [s])) i1
 | f+1, .ifs l,i=>bu (gr ts f .expr i) λc i1=>eX ts gh i1 λi2=>bu (gr ts f .block i2) λb i3=>if ai ts i3 sU=true then
     bu (gr ts f (.ifs (ah ts i3).line) (i3+1)) λx i4=>bI (nd 5 l [c,b,nd 1 (ah ts i3).line [x]]) i4
    else if ai ts i3 wV=true then eX ts gh (i3+1) λi4=>bu (gr ts f .block i4) λe i5=>bI (nd 5 l [c,b,e]) i5 else bI (nd 5 l [c,b]) i3
 | f+1, .tries l,i=>eX ts gh i λi1=>bu (gr ts f .block i1) λb i2=>pb (gr ts f (.lT [b]) i2) λacc i3=>gr ts f (.nR l acc) i3
 | f+1, .lT acc,i=>if ai ts i rU=true then (if ai ts (i+1) gh=true then bu (gr ts f .block (i+2)) λb i1=>some (.ok (acc++ [nd 21 (ah ts i).line [b]],i1))
     else bu (gr ts f .expr (i+1)) λe i1=>if ai ts i1 B'=true then jo ts 4 (i1+1) λs i2=>eX ts gh i2 λi3=>bu (gr ts f .block i3) λb i4=>gr ts f (.lT (acc++ [.mk 21 (ah ts i).line s 0 [e,b]])) i4
      else eX ts gh i1 λi3=>bu (gr ts f .block i3) λb i4=>gr ts f (.lT (acc++ [nd 21 (ah ts i).line [e,b]])) i4) else some (.ok (acc,i))
 | f+1, .nR l acc,i=>if ai ts i Ca=true then eX ts gh (i+1) λi1=>bu (gr ts f .block i1) λb i2=>bI (nd 15 l (acc++ [nd 22 (ah ts i).line [b]])) i2
    else if acc.length=1 then some (.error i) else bI (nd 15 l acc) i
 | f+1, .stmt,i=>if ai ts i lj=true then gr ts f (.ifs (ah ts i).line) (i+1)
    else if ai ts i tQ=true then bu (gr ts f .expr (i+1)) λc i1=>eX ts gh i1 λi2=>bu (gr ts f .block i2) λb i3=>bI (nd 6 (ah ts i).line [c,b]) i3
    else if ai ts i jQ=true then bu (gr ts f .sV (i+1)) λp i1=>eX ts tP i1 λi2=>bu (gr ts f .exprs i2) λe i3=>eX ts gh i3 λi4=>bu (gr ts f .block i4) λb i5=>bI (nd 7 (ah ts i).line [p,e,b]) i5
    else if ai ts i wX=true then jo ts 4 (i+1) λs i1=>eX ts lq i1 λi2=>bu (gr ts f (.params oA (ah ts i).line []) i2) λp i3=>eX ts oA i3 λi4=>eX ts gh i4 λi5=>bu (gr ts f .block i5) λb i6=>bI (.mk 8 (ah ts i).line s 0 [p,b]) i6
    else if ai ts i wY=true then jo ts 4 (i+1) λs i1=>if ai ts i1 lq=true then pb (gr ts f (.row oA []) (i1+1)) λbs i2=>eX ts oA i2 λi3=>eX ts gh i3 λi4=>bu (gr ts f .block i4) λb i5=>bI (.mk 9 (ah ts i).line s 0 [nd 24 (ah ts i).line bs,b]) i5
     else eX ts gh i1 λi4=>bu (gr ts f .block i4) λb i5=>bI (.mk 9 (ah ts i).line s 0 [nd 24 (ah ts i).line [],b]) i5
    else if ai ts i Cb=true then gr ts f (.tries (ah ts i).line) (i+1)
    else if ai ts i Cc=true then bu (gr ts f .expr (i+1)) λe i1=>if ai ts i1 B'=true then jo ts 4 (i1+1) λs i2=>eX ts gh i2 λi3=>bu (gr ts f .block i3) λb i4=>bI (.mk 16 (ah ts i).line s 0 [e,b]) i4
     else eX ts gh i1 λi3=>bu (gr ts f .block i3) λb i4=>bI (nd 16 (ah ts i).line [e,b]) i4
    else bu (gr ts f .simple i) λn i1=>jo ts 1 i1 λ_ i2=>bI n i2
 | f+1, .top acc,i=>if (ah ts i).kind=0 then some (.ok (acc,i)) else bu (gr ts f .stmt i) λs i1=>gr ts f (.top (acc++ [s])) i1
def Gd (E:Nat->Prop)(P:List Nd->Nat->Prop):PR->Prop
 | none=>False
 | some (.error e)=>E e
 | some (.ok (l,j))=>P l j
theorem Gd.mono{E E':Nat->Prop}{P a:List Nd->Nat->Prop}{r:PR}(h:Gd E P r)(b : ∀e,E e->E' e)(c : ∀l j,P l j->a l j):Gd E' a r:=by
 match r,h with
 | some (.error e),h=>exact b e h
 | some (.ok (l,j)),h=>exact c l j h
theorem Mm{E:Nat->Prop}{P:List Nd->Nat->Prop}{r:PR}{k:List Nd->Nat->PR}:Gd E P (pb r k)↔Gd E (λl j=>Gd E P (k l j)) r:=by
 match r with
 | none=>exact fJ
 | some (.error e)=>exact fJ
 | some (.ok (l,j))=>exact fJ
theorem Iw{E:Nat->Prop}{P:List Nd->Nat->Prop}{r:PR}{k:Nd->Nat->PR}:Gd E P (bu r k)↔Gd E (λl j=>∃t,l= [t]/\Gd E P (k t j)) r:=by
 match r with
 | none=>exact fJ
 | some (.error e)=>exact fJ
 | some (.ok ([],j))=>simp[bu,pb,Gd]
 | some (.ok ([t],j))=>simp[bu,pb,Gd]
 | some (.ok (t::u::l,j))=>simp[bu,pb,Gd]
theorem Cd{ts:List PT}{i:Nat}{s:List UInt8}(h:ai ts i s=true):i<ts.length:=by
 unfold ai at h;rcases pE i ts.length with g | g
 ·exact g
 have hk:(ah ts i).kind=0:=by
  unfold ah;rw[qZ g];cases ts.getLast?<;>rfl
 rw[hk] at h;simp at h
theorem yX{ts:List PT}{i:Nat}(h:(ah ts i).kind≠0):i<ts.length:=by
 rcases pE i ts.length with g | g
 ·exact g
 exfalso;apply h;unfold ah;rw[qZ g];cases ts.getLast?<;>rfl
theorem Ao{ts:List PT}{i:Nat}{s:List UInt8}(h:(ah ts i).kind≠if rQ s=true then 8 else 9):ai ts i s=false:=by
 unfold ai;apply decide_eq_false;rintro⟨h1,_,h3⟩;apply h;cases hw:rQ s with
 | true=>
   rw[hw] at h3;rw[iP rfl];exact of_decide_eq_true h3.symm
 | false=>
   rw[hw] at h3;rw[iN de];rcases h1 with h1 | h1
   ·exact absurd h1 (of_decide_eq_false h3.symm)
   exact h1
theorem ahP{ts:List PT}{i:Nat}(h:4<=(ah ts i).kind/\(ah ts i).kind<=7):iR ts i=true:=by
 unfold iR;rw[decide_eq_true h];simp only[Bool.true_or]
theorem Z8{ts:List PT}{i:Nat}(h : ¬(4<=(ah ts i).kind/\(ah ts i).kind<=7))(a:(ah ts i).kind≠8)(b:(ah ts i).kind≠9):iR ts i=false:=by
 unfold iR;rw[decide_eq_false h]
 repeat rw[Ao (by split<;>assumption)]
 rfl
theorem ahQ{ts:List PT}{i:Nat}(h:(ah ts i).kind=8):iR ts i=(ai ts i qI||ai ts i lS||ai ts i qL||ai ts i qM||ai ts i qN):=by
 have hn : ∀s,rQ s=false->ai ts i s=false:=λs hs=>Ao (by rw[h,hs];decide);unfold iR;rw[decide_eq_false (by rw[h];decide),hn nk rfl,hn oz rfl,hn lq rfl,hn p7 rfl,hn wW rfl];simp only[Bool.false_or,Bool.or_false]
theorem ahR{ts:List PT}{i:Nat}(h:(ah ts i).kind=9):iR ts i=(ai ts i nk||ai ts i oz||ai ts i lq||ai ts i p7||ai ts i wW):=by
 have hn : ∀s,rQ s=true->ai ts i s=false:=λs hs=>Ao (by rw[h,hs];decide);unfold iR;rw[decide_eq_false (by rw[h];decide),hn qI rfl,hn lS rfl,hn qL rfl,hn qM rfl,hn qN rfl];simp only[Bool.false_or]
theorem Z9{ts:List PT}{s:List UInt8}{i:Nat}{k:Nat->PR}{E:Nat->Prop}{P:List Nd->Nat->Prop}(h1:E i)(h2:i<ts.length->Gd E P (k (i+1))):Gd E P (eX ts s i k):=by
 unfold eX;split;·rename_i h;exact h2 (Cd h)
 exact h1
theorem Z'{ts:List PT}{kd:Int}(a:kd≠0){i:Nat}{k:List UInt8->Nat->PR}{E:Nat->Prop}{P:List Nd->Nat->Prop}(h1:E i)(h2:i<ts.length->Gd E P (k (ah ts i).text (i+1))):Gd E P (jo ts kd i k):=by
 unfold jo;split;·rename_i h;exact h2 (yX (by rw[h];exact a))
 exact h1
theorem aaa{ts:List PT}{s:List UInt8}{i:Nat}{a b:PR}{E:Nat->Prop}{P:List Nd->Nat->Prop}(h1:i<ts.length->Gd E P a)(h2:Gd E P b):Gd E P (if ai ts i s=true then a else b):=by
 split;·rename_i h;exact h1 (Cd h)
 exact h2
theorem aab{c:Prop}[Decidable c]{a b:PR}{E:Nat->Prop}{P:List Nd->Nat->Prop}(h1:c->Gd E P a)(h2 : ¬c->Gd E P b):Gd E P (if c then a else b):=by
 split;·rename_i h;exact h1 h
 rename_i h;exact h2 h
theorem ahS{l:List Nd}{j:Nat}{E:Nat->Prop}{P:List Nd->Nat->Prop}(h:P l j):Gd E P (some (.ok (l,j))):=h
theorem ahT{e:Nat}{E:Nat->Prop}{P:List Nd->Nat->Prop}(h:E e):Gd E P (some (.error e)):=h
theorem ahU{t:Nd}{j:Nat}{E:Nat->Prop}{P:List Nd->Nat->Prop}(h:P [t] j):Gd E P (bI t j):=h
def NT.kM:NT->Nat
 | .atom=>1
 | .primary=>2
 | .oD=>3
 | .term=>4
 | .arith=>5
 | .compare=>6
 | .not=>7
 | .and=>8
 | .or=>9
 | .expr=>10
 | .exprs=>11
 | .one=>3
 | .sV=>4
 | .value=>13
 | .plain=>14
 | .simple=>15
 | .block=>16
 | .stmt=>17
 | .maybe _ _ _=>12
 | .row _ _=>11
 | .index _=>11
 | .list _=>11
 | .qQ _=>11
 | .a9 _=>18
 | .ifs _=>11
 | .top _=>18
 | .nR _ _=>0
 | _=>11
def NT.min:NT->Nat
 | .params _ _ _ | .row _ _ | .qc _ _ | .tR _ | .tS _ | .jR _ _ | .sW _ | .qP _ | .rV _ | .clauses _ | .list _ | .qQ _ | .rW _ _ | .placesL _ _ | .maybe _ _ _ | .jp _ _ | .lT _ | .nR _ _ | .top _=>0
 | .stmt=>2
 | _=>1
def NT.hY:NT->Prop
 | .jp _ acc=>acc≠ []
 | _=>True
def NT.acc:NT->Option Nat
 | .row _ acc=>some acc.length
 | .clauses acc=>some acc.length
 | .lT acc=>some acc.length
 | .top acc=>some acc.length
 | _=>none
def NT.post(a:NT)(i n:Nat)(l:List Nd)(j:Nat):Prop:=i+a.min<=j/\j<=n/\match a.acc with
 | some m=>2*l.length+i<=2*m+j+1/\m<=l.length
 | none=>l.length=1
theorem Ru{l:List Nd}(h:l.length=1) : ∃t,l= [t]:=by
 match l,h with
 | [t],_=>exact⟨t,rfl⟩
theorem Rv{acc:List Nd}(h:acc≠ []) : ∃t,acc.getLast? = some t:=by
 cases a:acc.getLast? with
 | none=>exact absurd (List.getLast?_eq_none_iff.1 a) h
 | some t=>exact⟨t,rfl⟩
def yY (ts:List PT)(f:Nat):Prop:=∀(a:NT) (i:Nat),a.hY->i<=ts.length->ts.length*64+a.kM<f+i*64->Gd (λe=>i<=e/\e<=ts.length) (a.post i ts.length) (gr ts f a i)
theorem yY.one{ts:List PT}{f:Nat}(h:yY ts f){a:NT}{i:Nat}(hg:a.hY)(hi:i<=ts.length)(b:ts.length*64+a.kM<f+i*64){E:Nat->Prop}{P:List Nd->Nat->Prop}(c : ∀e,i<=e->e<=ts.length->E e){k:Nd->Nat->PR}(ha:a.acc=none)(d : ∀t j,i+a.min<=j->j<=ts.length->Gd E P (k t j)):Gd E P (bu (gr ts f a i) k):=by
 rw[Iw];refine(h a i hg hi b).mono (λe h=>c e h.1 h.2) λl j h=> ?_;unfold NT.post at h;rw[ha] at h;obtain⟨h1,h2,h3⟩:=h;obtain⟨t,rfl⟩:=Ru h3;exact⟨t,rfl,d t j h1 h2⟩
theorem yY.vc{ts:List PT}{f:Nat}(h:yY ts f){a:NT}{i:Nat}(hg:a.hY)(hi:i<=ts.length)(b:ts.length*64+a.kM<f+i*64){E:Nat->Prop}{P:List Nd->Nat->Prop}(c : ∀e,i<=e->e<=ts.length->E e){k:List Nd->Nat->PR}(ha:a.acc=some (a.acc.getD 0))(d : ∀l j,i<=j->j<=ts.length->2*l.length+i<=2*a.acc.getD 0+j+1->a.acc.getD 0<=l.length->Gd E P (k l j)):Gd E P (pb (gr ts f a i) k):=by
 rw[Mm];refine(h a i hg hi b).mono (λe h=>c e h.1 h.2) λl j h=> ?_;unfold NT.post at h;rw[ha] at h;obtain⟨h1,h2,h3,h4⟩:=h;exact d l j Om h2 h3 h4
theorem yY.cU{ts:List PT}{f:Nat}(h:yY ts f){a:NT}{i:Nat}(hg:a.hY)(hi:i<=ts.length)(b:ts.length*64+a.kM<f+i*64){E:Nat->Prop}{P:List Nd->Nat->Prop}(c : ∀e,i<=e->e<=ts.length->E e)(d : ∀l j,i+a.min<=j->j<=ts.length->(match a.acc with | some m=>2*l.length+i<=2*m+j+1/\m<=l.length | none=>l.length=1)->P l j):Gd E P (gr ts f a i):=by
 refine(h a i hg hi b).mono (λe h=>c e h.1 h.2) λl j h=> ?_;obtain⟨h1,h2,h3⟩:=h;exact d l j h1 h2 h3
def Ce (ts:List PT)(i:Nat)(r:Except Nat (Nat×Nat)):Prop:=match r with
 | .error e=>i<=e/\e<=ts.length
 | .ok (op,j)=>(op=0/\j=i)\/(op≠0/\i<j/\j<=ts.length)
theorem ahV{ts:List PT}{i k:Nat}{s:List UInt8}{a b:Except Nat (Nat×Nat)}(h1:k<ts.length->Ce ts i a)(h2:Ce ts i b):Ce ts i (if ai ts k s=true then a else b):=by
 split;·rename_i h;exact h1 (Cd h)
 exact h2
theorem ahW{ts:List PT}{i op j:Nat}(a:op≠0)(h1:i<j)(h2:j<=ts.length):Ce ts i (.ok (op,j)):=Or.inr ⟨a,h1,h2⟩
theorem ahX{ts:List PT}{i:Nat}:Ce ts i (.ok (0,i)):=Or.inl ⟨rfl,rfl⟩
theorem ahY{ts:List PT}{i e:Nat}(h1:i<=e)(h2:e<=ts.length):Ce ts i (.error e):=⟨h1,h2⟩
theorem Rw{ts:List PT}{i:Nat}(hi:i<=ts.length):Ce ts i (eB ts i):=by
 unfold eB;repeat' first | exact ahX | exact ahW de Om Om | exact ahY Om Om | refine ahV (λh=> ?_) ?_
theorem aac{ts:List PT}{i:Nat}(h : ¬fm ts i=0):i<ts.length:=by
 unfold fm at h;rcases pE i ts.length with g | g
 ·exact g
 exfalso;have hn : ∀s,ai ts i s=false:=λs=>by
  cases hs:ai ts i s with
  | true=>have:=Cd hs;omega
  | false=>rfl
 simp[hn] at h
theorem ahZ{ts:List PT}{i:Nat}(hi:i<=ts.length){E:Nat->Prop}{P:List Nd->Nat->Prop}(a : ∀e,i<=e->e<=ts.length->E e){A:PR}{B:Nat->Nat->PR}(hA:Gd E P A)(b : ∀op j,i<j->j<=ts.length->Gd E P (B op j)):Gd E P (match eB ts i with | .error e=>some (.error e) | .ok (0,_)=>A | .ok (op+1,j)=>B op j):=by
 have ho:=Rw hi;match eB ts i,ho with
 | .error e,ho=>exact a e ho.1 ho.2
 | .ok (0,_),_=>exact hA
 | .ok (op+1,j),ho=>
   rcases ho with ⟨h,_⟩ | ⟨_,h1,h2⟩
   ·cases h
   exact b op j h1 h2
theorem ah0{ts:List PT}{f:Nat}(g:yY ts f):yY ts (f+1):=by
 intro a i hg hi m;cases a;case' maybe k l c=>cases c
 case' jp l acc=>obtain⟨t,ht⟩:=Rv hg
 all_goals first | simp only[gr,ht] | simp only[gr,Bool.false_eq_true,iF,iT]
 case' jR n acc=>refine ahZ hi (λe h1 h2=>⟨h1,h2⟩) ?_ λop j h1 h2=> ?_
 all_goals (repeat' first | (have r:=yX (by rw[h];decide);clear h) | (have r:=yX (i:=i) (ts:=ts) Om;clear h) | (have r:=aac h;clear h) | (with_reducible refine aaa (λh=> ?_) ?_) | ((with_reducible refine Z9 ?_ ?_);exact⟨Om,Om⟩;intro h) | ((with_reducible refine Z' ?_ ?_ ?_);decide;exact⟨Om,Om⟩;intro h) | ((with_reducible refine ahT ?_);exact⟨Om,Om⟩) | ((with_reducible refine ahU ?_);refine⟨?_,Om,?_⟩<;>(simp only[NT.min,NT.acc,aF,ay,bW]<;>omega)) | ((with_reducible refine ahS ?_);refine⟨?_,Om,?_⟩<;>(simp only[NT.min,NT.acc,aF,ay,bW]<;>omega)) | ((with_reducible refine g.one ?_ ?_ ?_ ?_ ?_ ?_);(first | exact CY | simp[NT.hY]);omega;simp only[NT.kM] at m⊢;omega;intro e s b;exact⟨Om,b⟩;rfl;intro t j d o;simp only[NT.min] at d) | ((with_reducible refine g.vc ?_ ?_ ?_ ?_ ?_ ?_);(first | exact CY | simp[NT.hY]);omega;simp only[NT.kM] at m⊢;omega;intro e s b;exact⟨Om,b⟩;rfl;intro l j d u o q;simp only[NT.acc,Option.getD_some,aF,ay,bW] at o q) | ((with_reducible refine g.cU ?_ ?_ ?_ ?_ ?_);(first | exact CY | simp[NT.hY]);omega;simp only[NT.kM] at m⊢;omega;intro e s b;exact⟨Om,b⟩;intro l j d o q;simp only[NT.acc,aF,ay,bW] at q;simp only[NT.min] at d;refine⟨?_,Om,?_⟩<;>(simp only[NT.min,NT.acc,aF,ay,bW]<;>omega)) | (with_reducible refine aab (λh=> ?_) (λh=> ?_)))
theorem wZ{ts:List PT} : ∀f,yY ts f
 | 0=>λa i _ hi h=>by omega
 | f+1=>ah0 (wZ f)
def kr (a b:PR):Prop:=∀r,a=some r->b=some r
theorem kr.refl{a:PR}:kr a a:=λ_ h=>h
theorem Mn{r r':PR}{k k':List Nd->Nat->PR}(h:kr r r')(hk : ∀l j,kr (k l j) (k' l j)):kr (pb r k) (pb r' k'):=λx hx=>by
 match r,h,hx with
 | none,_,hx=>cases hx
 | some (.error e),h,hx=>rw[h _ rfl];exact hx
 | some (.ok (l,j)),h,hx=>rw[h _ rfl];exact hk l j x hx
theorem Rx{r r':PR}{k k':Nd->Nat->PR}(h:kr r r')(hk : ∀t j,kr (k t j) (k' t j)):kr (bu r k) (bu r' k'):=Mn h λl j=>by
 match l with
 | []=>exact kr.refl
 | [t]=>exact hk t j
 | _::_::_=>exact kr.refl
theorem Ry{ts:List PT}{s:List UInt8}{i:Nat}{k k':Nat->PR}(hk : ∀j,kr (k j) (k' j)):kr (eX ts s i k) (eX ts s i k'):=by
 unfold eX;split;·exact hk _
 exact kr.refl
theorem RA{ts:List PT}{kd:Int}{i:Nat}{k k':List UInt8->Nat->PR}(hk : ∀s j,kr (k s j) (k' s j)):kr (jo ts kd i k) (jo ts kd i k'):=by
 unfold jo;split;·exact hk _ _
 exact kr.refl
theorem Mo{c:Prop}[Decidable c]{a b a' b':PR}(h1:kr a a')(h2:kr b b'):kr (if c then a else b) (if c then a' else b'):=by
 split;·exact h1
 exact h2
def RB (ts:List PT)(f g:Nat):Prop:=∀a i,kr (gr ts f a i) (gr ts g a i)
theorem ah1{ts:List PT}{f g:Nat}(c:RB ts f g):RB ts (f+1) (g+1):=by
 have c : ∀a i,kr (gr ts f a i) (gr ts g a i):=c;intro a i;cases a;case jR n b=>
  simp only[gr];split;all_goals repeat' first | (with_reducible exact kr.refl) | (with_reducible exact c _ _) | (with_reducible refine Mo ?_ ?_) | (with_reducible refine Ry λ_=> ?_) | (with_reducible refine RA λ_ _=> ?_) | (with_reducible refine Rx (c _ _) λ_ _=> ?_) | (with_reducible refine Mn (c _ _) λ_ _=> ?_)
 case jp a b=>
  simp only[gr];cases b.getLast? with
  | none=>exact Mo kr.refl kr.refl
  | some t=>repeat' first | (with_reducible exact kr.refl) | (with_reducible exact c _ _) | (with_reducible refine Mo ?_ ?_) | (with_reducible refine Ry λ_=> ?_) | (with_reducible refine RA λ_ _=> ?_) | (with_reducible refine Rx (c _ _) λ_ _=> ?_) | (with_reducible refine Mn (c _ _) λ_ _=> ?_)
 all_goals simp only[gr]
 all_goals (repeat' first | (with_reducible exact kr.refl) | (with_reducible exact c _ _) | (with_reducible refine Mo ?_ ?_) | (with_reducible refine Ry λ_=> ?_) | (with_reducible refine RA λ_ _=> ?_) | (with_reducible refine Rx (c _ _) λ_ _=> ?_) | (with_reducible refine Mn (c _ _) λ_ _=> ?_))
theorem aad{ts:List PT} : ∀f,RB ts f (f+1)
 | 0=>λa i r h=>by cases h
 | f+1=>ah1 (aad f)
theorem aae{ts:List PT}{f g:Nat}(h:f<=g){a:NT}{i:Nat}{r:Except Nat (List Nd×Nat)}(b:gr ts f a i=some r):gr ts g a i=some r:=by
 induction h with
 | refl=>exact b
 | step _ c=>exact aad _ a i r c
end
section
open Go Go.RowKit
def iV (t:PT):List ae:= [.int .i64 t.kind, .int .i64 t.line, .string ⟨⟨t.text⟩⟩]
def qd:sw PT:=λ_ cs t=>cs=iV t
def yZ (t:PT):dr:= .cells (iV t) 65 .ex
structure Sl where
 q:Option Addr
 n:Nat
 c:Nat
theorem Mp{K:CH}{q:Option Addr}{c:Nat}{ts:List PT}(h:fU 3 qd K q c ts){i:Nat}(hi:i<ts.length) : ∃l o os e kd,q=some ⟨l,o,none⟩/\K.ob l= .cells os e kd/\l<K.nx/\o+i*3+3<=os.length/\(os.drop (o+i*3)).take 3=iV ts[i]/\os[o+i*3+1]? = some (.int .i64 ts[i].line):=by
 rcases h with ⟨rfl,_⟩ | ⟨l,o,os,e,kd,rfl,h1,h2,h3,h4,h5,a⟩
 ·cases hi
 have g:_=_:=a i hi;refine⟨l,o,os,e,kd,rfl,h4,h1,Om,g,?_⟩;have:os[o+i*3+1]? = (iV ts[i])[1]? :=by rw[<-g,AT de,List.getElem?_drop]
 rw[this];rfl
theorem vd{K:CH}{o o':dr}:(K.new o).set K.nx o'=K.new o':=by
 unfold CH.set CH.new;congr 1
 funext k
 by_cases h:k=K.nx
 ·simp[h]
 simp[h]
abbrev pS(l:List UInt8):ByteArray:=⟨⟨l⟩⟩
theorem Ix{l:List UInt8}{i:Nat}:(pS l)[i]? = l[i]? :=by
 show(if h:i<(pS l).size then some ((pS l)[i]'h) else none)=_;by_cases h:i<l.length
 ·have h':i<(pS l).size:=h;rw[dif_pos h',dx h];rfl
 have h' : ¬i<(pS l).size:=h;rw[dif_neg h',qZ Om]
theorem EU{a b:List UInt8}:cr (binOp .eql 0 (.string (pS a)) (.string (pS b)))=some (.bool (decide (a=b))):=by
 have h:((pS a).toList==(pS b).toList)=decide (a=b):=by
  have h : ∀l:List UInt8,(pS l).toList=l:=λl=>by simp[ByteArray.toList_eq]
  rw[h,h];by_cases e:a=b
  ·simp[e]
  rw[decide_eq_false e];simpa using e
 simp only[binOp,Op.stringOp,cr,Pure.pure,h]
def y0 (sl:Sl)(i:Nat):dr:= .cells [.slice sl.q sl.n sl.c, .int .i64 (i:Nat)] 59 .ex
structure y5(K:CH)(p:Nat)(sl:Sl)(ts:List PT)(i:Nat):Prop where
 ob:K.ob p=y0 sl i
 pl:p<K.nx
 il:i<=ts.length
 n:sl.n=ts.length
 tk:fU 3 qd K sl.q sl.c ts
theorem y5.len{K:CH}{p:Nat}{sl:Sl}{ts:List PT}{i:Nat}(h:y5 K p sl ts i):ts.length<=9223372036854775807:=by
 rcases h.tk with ⟨rfl,_⟩ | ⟨l,o,os,e,kd,_,_,h2,h3,_⟩
 ·simp
 rw[nM] at h3;omega
theorem aaf{K:CH}{p:Nat}{sl:Sl}{ts:List PT}{i:Nat}(h:y5 K p sl ts i):bw (bj Tryz.prog LG GG) 22 [.pointer (some ⟨p,0,none⟩)] K λv K'=>v= .agg (iV (ah ts i)).toArray/\K'=K.new (yZ (ah ts i)):=by
 have a:=h.ob;have u:=h.pl;have w:=h.len;have x:=h.il;unfold y0 at a;rw[h.n] at a;refine ij Rl Kr (bq ?_);by_cases hi:i<ts.length
 ·obtain⟨l,o,os,e,kd,b,c,m,d,g,j⟩:=Mp h.tk hi;have hn:ah ts i=ts[i]:=by unfold ah;rw[dx hi]
  rw[hn];rw[b] at a;unfold iV at g⊢;refine rn (jI @a @c @d @g) ?_;all_goals exact vd
 by_cases r:0<ts.length
 ·obtain⟨l,o,os,e,kd,b,c,m,d,g,j⟩:=Mp h.tk (i:=ts.length-1) Om;have hn:ah ts i=⟨0,ts[ts.length-1].line,[]⟩:=by
   unfold ah;rw[qZ Om,List.getLast?_eq_getElem?,dx Om]
  rw[hn];rw[b] at a;have s:((ts.length:Nat):Int)-1=((ts.length-1:Nat):Int):=by omega
  unfold iV;refine rn (zu @a @c @d @j @s) ?_;all_goals exact vd
 have t:ts= []:=List.length_eq_zero_iff.1 Om;have hn:ah ts i=⟨0,0,[]⟩:=by subst t;rfl
 rw[hn];unfold iV;refine rn (an @a @r) ?_;all_goals exact vd
theorem RC{K:CH}{p:Nat}{sl:Sl}{ts:List PT}{i:Nat}(h:y5 K p sl ts i){Q:ae->CH->Prop}:bw (bj Tryz.prog LG GG) 22 [.pointer (some ⟨p,0,none⟩)] K Q↔Q (.agg (iV (ah ts i)).toArray) (K.new (yZ (ah ts i))):=uI (aaf h)
theorem ah2(K:CH){c:UInt8}{s:List UInt8}:bw (bj Tryz.prog LG GG) 80 [.string ⟨⟨c::s⟩⟩] K λv K'=>v= .bool (rQ (c::s))/\K'=K:=by
 have hg:((c::s)[0]?).map (λb=>Value.int .u8 (b.toNat:Int))=some (.int .u8 (c.toNat:Int)):=rfl;have hc:=c.toNat_lt;have e:rQ (c::s)=decide ((65<=c.toNat/\c.toNat<=90)\/(97<=c.toNat/\c.toNat<=122)):=rfl;rw[e];obtain⟨n,hn⟩ : ∃n,c.toNat=n:=⟨_,rfl⟩;rw[hn] at hg hc⊢;refine ij Rl Kr (bq ?_);by_cases h1:65<=n
 ·by_cases h2:n<=90
  ·rw[decide_eq_true Om];exact rz (jI @Ix @hg @h1 @h2)
  by_cases h3:97<=n
  ·by_cases h4:n<=122
   ·rw[decide_eq_true Om];exact rz (FT @Ix @hg @h1 @h2 @h3 @h4)
   rw[decide_eq_false Om];exact rz (FT @Ix @hg @h1 @h2 @h3 @h4)
  rw[decide_eq_false Om];exact rz (zu @Ix @hg @h1 @h2 @h3)
 rw[decide_eq_false Om];have h3 : ¬ 97<=n:=by omega
 exact rz (jI @Ix @hg @h1 @h3)
theorem aag{K:CH}{c:UInt8}{s:List UInt8}{Q:ae->CH->Prop}:bw (bj Tryz.prog LG GG) 80 [.string ⟨⟨c::s⟩⟩] K Q↔Q (.bool (rQ (c::s))) K:=uI (ah2 K)
theorem ah3{K:CH}{p:Nat}{sl:Sl}{ts:List PT}{i:Nat}(h:y5 K p sl ts i){b:UInt8}{s:List UInt8}:bw (bj Tryz.prog LG GG) 61 [.pointer (some ⟨p,0,none⟩), .string ⟨⟨b::s⟩⟩] K λv K'=>v= .bool (ai ts i (b::s))/\K'=(K.new (yZ (ah ts i))).new (yZ (ah ts i)):=by
 have j:=h.ob;have m:=h.pl;have a:=λQ=> @RC K p sl ts i h Q;obtain⟨t,ht⟩ : ∃t,ah ts i=t:=⟨_,rfl⟩;unfold y0 at j;rw[ht] at a;unfold ai;rw[ht];obtain⟨kd,ln,tx⟩:=t;obtain⟨G,l⟩ : ∃G,K.new (yZ ⟨kd,ln,tx⟩)=G:=⟨_,rfl⟩;rw[l] at a⊢;unfold iV at a;have fin:G.new (.cells [.int .i64 kd, .int .i64 ln, .string ⟨⟨tx⟩⟩] 65 .ex)=G.new (yZ ⟨kd,ln,tx⟩):=rfl;refine ij Rl Kr (bq ?_);by_cases d:kd=8
 ·subst d;by_cases e:tx=b::s
  ·have hd:=decide_eq_true e;have hw:=λK Q=> @aag K b s Q;cases c:rQ (b::s) with
   | true=>
     rw[c] at hw;rw[decide_eq_true ⟨.inl rfl,e,rfl⟩];repeat' (first | (simp (disch:=first | omega | (decide +kernel)) only[↓RD,RU,uK,uM,ck,↓cm,↓kj,↓cV,↓du,fZ,dk,rI,pop,bg,fV,cy,ct,ji,eV,kH,isVal,ci,iI,ρ0,ρ1,ρ3,↓reduceIte,Nat.reduceEqDiff,Nat.reduceAdd,Int.reduceOfNat,reduceCtorEq,ρ5,ρ6,ρ7,ρ8,ρ17,ρ20,ρ21,ρ22,ρ23,Kd.eM,ρ25,ρ26,ρ28,a,vd,EU,hw]) | ((with_reducible first|apply bL|apply bM|apply bN)<;>intro _))
     all_goals exact fin
   | false=>
     rw[c] at hw;rw[decide_eq_false s0];repeat' (first | (simp (disch:=first | omega | (decide +kernel)) only[↓RD,RU,uK,uM,ck,↓cm,↓kj,↓cV,↓du,fZ,dk,rI,pop,bg,fV,cy,ct,ji,eV,kH,isVal,ci,iI,ρ0,ρ1,↓reduceIte,Nat.reduceEqDiff,Nat.reduceAdd,Int.reduceOfNat,reduceCtorEq,ρ5,ρ6,ρ7,ρ8,ρ17,ρ20,ρ21,ρ22,ρ23,Kd.eM,ρ25,ρ26,ρ28,a,vd,EU,hw]) | ((with_reducible first|apply bL|apply bM|apply bN)<;>intro _))
     all_goals exact fin
  have hd:=decide_eq_false e;rw[decide_eq_false (λg=>e g.2.1)];repeat' (first | (simp (disch:=first | omega | (decide +kernel)) only[↓RD,RU,uK,uM,ck,↓cm,↓kj,↓cV,↓du,fZ,dk,rI,pop,bg,fV,cy,ct,ji,eV,kH,isVal,ci,iI,ρ0,ρ1,↓reduceIte,Nat.reduceEqDiff,Nat.reduceAdd,Int.reduceOfNat,reduceCtorEq,ρ5,ρ6,ρ7,ρ8,ρ17,ρ20,ρ21,ρ22,ρ23,Kd.eM,ρ25,ρ26,ρ28,a,vd,EU]) | ((with_reducible first|apply bL|apply bM|apply bN)<;>intro _))
  all_goals exact fin
 by_cases k9:kd=9
 ·subst k9;by_cases e:tx=b::s
  ·have hd:=decide_eq_true e;have hw:=λK Q=> @aag K b s Q;cases c:rQ (b::s) with
   | true=>
     rw[c] at hw;rw[decide_eq_false s0];repeat' (first | (simp (disch:=first | omega | (decide +kernel)) only[↓RD,RU,uK,uM,ck,↓cm,↓kj,↓cV,↓du,fZ,dk,rI,pop,bg,fV,cy,ct,ji,eV,kH,isVal,ci,iI,ρ0,ρ1,ρ2,↓reduceIte,Nat.reduceEqDiff,Nat.reduceAdd,Int.reduceOfNat,reduceCtorEq,ρ5,ρ6,ρ7,ρ8,ρ17,ρ20,ρ21,ρ22,ρ23,Kd.eM,ρ25,ρ26,ρ28,a,vd,EU,hw]) | ((with_reducible first|apply bL|apply bM|apply bN)<;>intro _))
     all_goals exact fin
   | false=>
     rw[c] at hw;rw[decide_eq_true ⟨.inr rfl,e,s0⟩];repeat' (first | (simp (disch:=first | omega | (decide +kernel)) only[↓RD,RU,uK,uM,ck,↓cm,↓kj,↓cV,↓du,fZ,dk,rI,pop,bg,fV,cy,ct,ji,eV,kH,isVal,ci,iI,ρ0,ρ1,ρ3,↓reduceIte,Nat.reduceEqDiff,Nat.reduceAdd,Int.reduceOfNat,reduceCtorEq,ρ5,ρ6,ρ7,ρ8,ρ17,ρ20,ρ21,ρ22,ρ23,Kd.eM,ρ25,ρ26,ρ28,a,vd,EU,hw]) | ((with_reducible first|apply bL|apply bM|apply bN)<;>intro _))
     all_goals exact fin
  have hd:=decide_eq_false e;rw[decide_eq_false (λg=>e g.2.1)];repeat' (first | (simp (disch:=first | omega | (decide +kernel)) only[↓RD,RU,uK,uM,ck,↓cm,↓kj,↓cV,↓du,fZ,dk,rI,pop,bg,fV,cy,ct,ji,eV,kH,isVal,ci,iI,ρ0,ρ1,↓reduceIte,Nat.reduceEqDiff,Nat.reduceAdd,Int.reduceOfNat,reduceCtorEq,ρ5,ρ6,ρ7,ρ8,ρ17,ρ20,ρ21,ρ22,ρ23,Kd.eM,ρ25,ρ26,ρ28,a,vd,EU]) | ((with_reducible first|apply bL|apply bM|apply bN)<;>intro _))
  all_goals exact fin
 rw[decide_eq_false (λg=>g.1.elim d k9)];refine rn (jI @a @vd @d @k9) ?_;all_goals exact fin
theorem ah4{K:CH}{p:Nat}{sl:Sl}{ts:List PT}{i:Nat}(h:y5 K p sl ts i){k:Int}:bw (bj Tryz.prog LG GG) 64 [.pointer (some ⟨p,0,none⟩), .int .i64 k] K λv K'=>v= .bool (decide ((ah ts i).kind=k))/\K'=K.new (yZ (ah ts i)):=by
 have b:=h.ob;have c:=h.pl;have a:=λQ=> @RC K p sl ts i h Q;obtain⟨t,ht⟩ : ∃t,ah ts i=t:=⟨_,rfl⟩;unfold y0 at b;rw[ht] at a⊢;obtain⟨kd,ln,tx⟩:=t;unfold iV at a;refine ij Rl Kr (bq ?_);by_cases hk:kd=k
 ·rw[decide_eq_true hk];subst hk;exact rz (an @b @a);all_goals rfl
 rw[decide_eq_false hk];exact rz (mY @b @a @hk);all_goals rfl
theorem ah5{K:CH}{k l:Int}{a:Option Addr}{n c:Nat}:bw (bj Tryz.prog LG GG) 21 [.int .i64 k, .int .i64 l, .slice a n c] K λv K'=>v= .agg #[.int .i64 k, .int .i64 l, .string ⟨⟨[]⟩⟩, .int .i64 0, .slice a n c]/\∃o,K'=K.new o:=by
 refine ij Rl Kr (bq ?_);refine rn @vd ?_;all_goals exact⟨_,rfl⟩
mutual
def lr:Nd->List SV
 | .mk k l x o ks=> [.sc (.int .i64 (k:Nat)), .sc (.int .i64 l), .sc (.string ⟨⟨x⟩⟩), .sc (.int .i64 (o:Nat)), .row 5 (c7 ks)]
def c7:List Nd->List (List SV)
 | []=> []
 | n::ks=>lr n::c7 ks
end
theorem Mq : ∀ {a b:List Nd},c7 (a++b)=c7 a++c7 b
 | [],b=>rfl
 | n::a,b=>by simp only[List.cons_append,c7,Mq]
theorem c8 : ∀ {a:List Nd},(c7 a).length=a.length
 | []=>rfl
 | n::a=>by simp only[c7,ay,c8]
theorem aah{t:Nd}:(lr t).length=5:=by cases t;rfl
theorem jr : ∀ {a:List Nd} {i:Nat} {t:Nd},a[i]? = some t->(c7 a)[i]? = some (lr t)
 | [],i,t,h=>by simp at h
 | n::a,0,t,h=>by simp at h;subst h;rfl
 | n::a,i+1,t,h=>by simpa[c7] using jr (a:=a) (i:=i) (by simpa using h)
def eC (t:Nd):AV:= .r (.agg ((lr t).map .s))
def aai (t:PT):AV:= .r (.agg [cS (.int .i64 t.kind),cS (.int .i64 t.line),cS (.string ⟨⟨t.text⟩⟩)])
structure Mr(Z:TP)(sl:Sl)(ts:List PT):Prop where
 n:sl.n=ts.length
 q : ∀l o,sl.q=some ⟨l,o,none⟩->Z.N l
 tk : ∀K:CH,(∀b,Z.N b->b<K.nx/\K.ob b=Z.M b)->fU 3 qd K sl.q sl.c ts
theorem ah6{K:CH}{E:TE}{t:PT}:bX K E (aai t) (.agg (iV t).toArray):= .r (.agg (vs:=iV t) (.cons (.s (.sc rfl)) (.cons (.s (.sc rfl)) (.cons (.s (.sc rfl)) .nil))))
theorem Cf{K:CH}{E:TE}{v:ae}(h:ci v=true):bX K E (rS v) v:= .r (.c (.s (.sc h)))
theorem aaj{K:CH}{E:TE} : ∀ {L:List ae} {vs:List ae},R2 (bX K E) (L.map rS) vs->vs=L
 | [],_, .nil=>rfl
 | v::L,_, .cons h t=>by rw[aaj t,ox h rfl]
theorem ah7{Z:TP}{T:cF}{X:ce}{f:bk}{args:List AV}{e:aH}{s s':List SV}{Q:AV->List SV->Prop}{R:ae->Prop}(h:s=s')(g:TC Z T X f args (some (e,s')) Q R):TC Z T X f args (some (e,s)) Q R:=by rw[h];exact g
theorem aak{i n:Nat}(h:i<n)(hn:n<=4398046510976):(IntKind.wrap .i64 ((i:Int)+1))=((i+1:Nat):Int):=by
 rw[nh Om Om];omega
def gi (sl:Sl)(i:Nat):List SV:= [.sc (.slice sl.q sl.n sl.c), .sc (.int .i64 (i:Nat))]
abbrev ir(sl:Sl)(i:Nat):Self:=some (59,gi sl i)
theorem aal{K:CH}{E:TE}{sp:Option Nat}{sl:Sl}{i:Nat}(h:wR K E sp (ir sl i)) : ∃p,sp=some p/\p<K.nx/\K.ob p=y0 sl i:=by
 obtain⟨p,os,h1,h2,h3,h4⟩:=h;refine⟨p,h1,h2,?_⟩;rw[h3];cases h4 with
 | cons a h4=>cases h4 with
   | cons b h4=>cases h4;cases a;cases b;rfl
theorem aam{K:CH}{E:TE}{p:Nat}{sl:Sl}{i:Nat}(h:p<K.nx)(ho:K.ob p=y0 sl i):wR K E (some p) (ir sl i):=⟨p,_,rfl,h,ho, .cons (.sc rfl) (.cons (.sc rfl) .nil)⟩
theorem RE{Z:TP}{X:ce}{sl:Sl}{ts:List PT}(d:Mr Z sl ts){f:bk}{L:List ae}{i j:Nat}{a:AV}{V:ae}{Q:AV->List SV->Prop}{R:ae->Prop}(hi:i<=ts.length)(k : ∀K E,bX K E a V)(hc:a.clean)
 (h : ∀K p,y5 K p sl ts i->bw (bj Tryz.prog LG GG) f (.pointer (some ⟨p,0,none⟩)::L) K λv K'=>v=V/\K.nx<=K'.nx/\(∀b,b<K.nx->b≠p->K'.ob b=K.ob b)/\K'.ob p=y0 sl j) (m:Q a (gi sl j)):TC Z (bj Tryz.prog LG GG) X f (.ptr 0 0::L.map rS) (ir sl i) Q R:=by
 refine ZZ rfl λK sp hid vs h1 h2 h3 h4=> ?_;obtain⟨p,rfl,hp,ho⟩:=aal h4;have o:vs= .pointer (some ⟨p,0,none⟩)::L:=by
  cases h3 with
  | cons q r=>
    obtain⟨l,c,s⟩:=q.tN;have c:some p=some l:=c;cases c;rw[s,aaj r]
 subst o;left;refine(h K p ⟨ho,hp,hi,d.n,d.tk K λb hb=>⟨(h2 b hb).1,(h2 b hb).2.2⟩⟩).mono λv K' ⟨t,g,u,w⟩=> ?_;subst t;exact⟨g,λb hb hs=>u b hb λe=>hs (by rw[e]),a,gi sl j,k _ _,hc,aam (ek hp g) w,rfl,m⟩
structure dH(Z:TP)(X:ce)(W:Int->ae)(ts:List PT)(sl:Sl):Prop where
 RF:Mr Z sl ts
 fail : ∀(i:Nat) (Q:AV->List SV->Prop) (R:ae->Prop),i<=ts.length->R (W (ah ts i).line)->TC Z (bj Tryz.prog LG GG) X 63 [.ptr 0 0] (ir sl i) Q R
 len:ts.length<=4398046510976
def DT:TD:=⟨[21]⟩
theorem fP:wS (bj Tryz.prog LG GG) DT:=⟨λf b K k l a n c=>by
 have:f=21:=by
  simp only[DT,List.elem_cons,List.elem_nil] at b;split at b;·rename_i h;exact eq_of_beq h
  cases b
 subst this;exact ah5⟩
section
variable {Z:TP} {X:ce} {W:Int->ae} {ts:List PT} {sl:Sl} {R:ae->Prop} {Q:AV->List SV->Prop} {E:Nat->Prop} {P:List Nd->Nat->Prop} {i:Nat}
theorem EW(C:dH Z X W ts sl)(hi:i<=ts.length)(a:Q (aai (ah ts i)) (gi sl i)):TC Z (bj Tryz.prog LG GG) X 22 [.ptr 0 0] (ir sl i) Q R:=
 RE C.RF (L:= []) hi (λ_ _=>ah6) trivial (λK p h=>(aaf h).mono λv K' ⟨c,d⟩=>by
  subst d;exact⟨c,nz _,λb hb _=>kN Om,(kN (by have:=h.pl;omega)).trans h.ob⟩) a
theorem aan(C:dH Z X W ts sl){s:List UInt8}(hs:s≠ [])(hi:i<=ts.length)(c:Q (rS (.bool (ai ts i s))) (gi sl i)):TC Z (bj Tryz.prog LG GG) X 61 [.ptr 0 0,rS (.string ⟨⟨s⟩⟩)] (ir sl i) Q R:=by
 obtain⟨a,s,rfl⟩ : ∃a d,s=a::d:=by cases s;exact absurd rfl hs;exact⟨_,_,rfl⟩
 exact RE C.RF (L:= [.string ⟨⟨a::s⟩⟩]) hi (λ_ _=>Cf rfl) trivial (λK p h=>(ah3 h).mono λv K' ⟨e,f⟩=>by
  subst f;have:=h.pl;refine⟨e,by simp only[gN];omega,λb hb _=> ?_,?_⟩;·rw[kN (by simp only[gN];omega),kN Om]
  rw[kN (by simp only[gN];omega),kN Om];exact h.ob) c
theorem ah8(C:dH Z X W ts sl){k:Int}(hi:i<=ts.length)(a:Q (rS (.bool (decide ((ah ts i).kind=k)))) (gi sl i)):TC Z (bj Tryz.prog LG GG) X 64 [.ptr 0 0,rS (.int .i64 k)] (ir sl i) Q R:=
 RE C.RF (L:= [.int .i64 k]) hi (λ_ _=>Cf rfl) trivial (λK p h=>(ah4 h).mono λv K' ⟨c,d⟩=>by
  subst d;exact⟨c,nz _,λb hb _=>kN Om,(kN (by have:=h.pl;omega)).trans h.ob⟩) a
end
def mP (l:Int):ae:= .iface 61 (.agg #[.int .i64 l])
noncomputable def RG:Option Code->Array cu
 | some (.region _ ops _)=>ops
 | _=> #[]
noncomputable def mn:Array cu:=RG (Tryz.f63).body
def pX:ce:=λf args H v H'=>f=63/\∃p sl ts i,args= [.pointer (some ⟨p,0,none⟩)]/\y5 H p sl ts i/\v=mP (ah ts i).line/\H'=H.new (yZ (ah ts i))
noncomputable def Iy:List Item:=(qz Tryz.prog 7 mn (mn.toList.take 4)).getD []
theorem ah9:qz Tryz.prog 7 mn (mn.toList.take 4)=some Iy:=by
 unfold Iy;have h:(qz Tryz.prog 7 mn (mn.toList.take 4)).isSome=true:=by kernel_rfl
 cases a:qz Tryz.prog 7 mn (mn.toList.take 4) with
 | none=>rw[a] at h;cases h
 | some l=>rfl
theorem ah'{H:CH}{p:Nat}{sl:Sl}{ts:List PT}{i:Nat}(h:y5 H p sl ts i):nK (bj Tryz.prog LG GG) Iy (λt=> [Value.pointer (some ⟨p,0,none⟩)].getD t undef) H λaj H1=>aj 5= .agg #[.int .i64 (ah ts i).line]/\H1=H.new (yZ (ah ts i)):=by
 have a:=λQ=> @RC H p sl ts i h Q;unfold iV at a;conv in Iy=>reduce
 exact rz @a;all_goals exact⟨rfl,rfl⟩
theorem aia{B:Nat}{f:bk}{args:List ae}{H:CH}{v:ae}{H':CH}(h:pX f args H v H'):zI Tryz.prog B f args H v H':=by
 obtain⟨rfl,p,sl,ts,i,rfl,o,rfl,rfl⟩:=h;refine⟨Kr,fun β w G q hv=> ?_⟩;obtain⟨n,aj,H1,r,h5,rfl⟩:=ah' o;obtain⟨hl,rC⟩:=GJ ah9;have s:(Tryz.f63).body=some (.region 0 mn false):=by rfl
 refine callsIn_of_wp_marks Tryz.func63 s trivial ?_ rfl;have t:(Tryz.f63).ntmps=7:=by rfl
 have u:=QD (N:=7) hv;rw[t];refine wpIn_region ?_;show wpOpsIn (Fn none) 0 Tryz.prog mn _ ([0,1,2,3]++ [4,5]) _ w;refine HL [4,5] [0,1,2,3] _ w ?_;refine GA (sG Hm n) [0,1,2,3] Iy β _ aj H _ _ w (by rw[hl];rfl) (λk h1 h2=> ?_) q u r fun β' w' a x y e z=> ?_
 ·have hk:k<(mn.toList.take 4).length:=by rw[<-hl];exact h1
  refine⟨(mn.toList.take 4)[k],?_,rC k h1 hk⟩;have I:k<4:=by simpa using h2
  obtain rfl | rfl | rfl | rfl:k=0\/k=1\/k=2\/k=3:=by omega
  all_goals rfl
 have b:a.tmps.getD 5 undef= .agg #[.int .i64 (ah ts i).line]:=by
  have:=e.2 5;rw[h5] at this;exact Ov rfl this
 have g:=e.1;show wpOpsIn (Fn none) 0 Tryz.prog mn _ [4,5] a w';have A:mn[4]? = some (mn[4]' de):=rfl;have c:mn[5]? = some (mn[5]' de):=rfl;simp only[wpOpsIn,A,c];rw[iP Rl];refine⟨λf _=>trivial,?_⟩;have C:((mn[4]' de).semAt (Fn none).round a.eval).run Tryz.prog w'= .ok (.value (mP (ah ts i).line)) w':=by
  rw[show(Fn none).round=none from rfl,Oper.semAt_none];simp[execOp,mn,RG,Tryz.f63,Instr.makeInterface,Act.eval,b];rfl
 rw[C,Oper.uponIn_value];have d:(mn[4]' de).dst=some 6:=rfl;rw[d];have j:(a.put (some 6) (mP (ah ts i).line)).tmps.getD 6 undef=mP (ah ts i).line:=by
  show(a.tmps.setIfInBounds 6 _).getD 6 undef=_;rw[mV,Array.getElem?_setIfInBounds_self_of_lt Om];rfl
 have l:(a.put (some 6) (mP (ah ts i).line)).defers= []:=z;generalize a.put (some 6) (mP (ah ts i).line)=m at j l⊢;rw[iP Rl];refine⟨λf _=>trivial,?_⟩;have F:((mn[5]' de).semAt (Fn none).round m.eval).run Tryz.prog w'= .halt (.panic (mP (ah ts i).line)) w':=by
  rw[show(Fn none).round=none from rfl,Oper.semAt_none];simp[execOp,mn,RG,Tryz.f63,Instr.panic,Act.eval,j,mP]
 rw[F,Oper.uponIn_panic];show LeavesInM _ _ _ _ _ _ m.defers _ w';rw[l];exact⟨_,β',rfl, .iface _ (.agg rfl λi h1 h2=>by
  have:i=0:=by simpa using h1
  subst this;exact .int _ _),x,y⟩
theorem aib{Z:TP}{sl:Sl}{ts:List PT}(a:Mr Z sl ts)(hl:ts.length<=4398046510976):dH Z pX mP ts sl:=⟨a,λi Q R hi d=>ZZ rfl λK sp hid vs h1 h2 h3 h4=>by
 obtain⟨p,rfl,hp,ho⟩:=aal h4;have e:vs= [.pointer (some ⟨p,0,none⟩)]:=by
  cases h3 with
  | cons f g=>
    cases g;obtain⟨l,c,j⟩:=f.tN;have c:some p=some l:=c;cases c;rw[j]
 subst e;exact .inr ⟨0,_,_,⟨rfl,p,sl,ts,i,rfl,⟨ho,hp,hi,a.n,a.tk K λb hb=>⟨(h2 b hb).1,(h2 b hb).2.2⟩⟩,rfl,rfl⟩,nz _,λb hb _=>kN Om,d⟩,hl⟩
theorem aic:YX Tryz.prog 20 3:=by
 intro args w ha;match args,ha with
 | [c,d,e],_=>
   refine callsDIn_of_wpSIn Tryz.func20 rfl trivial λa cs hu=> ?_;have b:(Tryz.f20).ntmps=20:=by rfl
   rw[b];apply wpSIn_seq;apply wpSIn_region;simp[wpOpsSIn,go_sem,recoverD,hu,Exit.thenS];refine wpSIn_of_wpIn rfl (wpIn_seq (wpIn_region ?_));simp[wpOpsIn,go_sem];refine wpIn_cond_false (by simp[Act.eval]) (wpIn_skip ?_);simp[bodyPostS,results,Tryz.f20];cases a;simp_all
def RI:Code->Array cu
 | .seq _ b=>RI b
 | .cond _ a _=>RI a
 | .region _ ops _=>ops
 | _=> #[]
noncomputable def EX:Array cu:=RI ((Tryz.f20).body.getD .skip)
noncomputable def Cg:jf:=(jN Tryz.prog 20 EX).getD ⟨[],[],none⟩
theorem aid:zH Tryz.prog 20 EX Cg/\zJ Tryz.prog 20 EX Cg:=by
 refine Kt ?_;unfold Cg;have h:(jN Tryz.prog 20 EX).isSome=true:=by kernel_rfl
 cases a:jN Tryz.prog 20 EX with
 | none=>rw[a] at h;cases h
 | some l=>rfl
def Ap (H:CH)(l:Int):CH:=(H.new (.cells [.int .i64 0] 61 .ex)).set H.nx (.cells [.int .i64 l] 61 .ex)
def Iz (args:List ae)(v:ae)(H H':CH):Prop:=args.length=3/\∃l,v=mP l/\dB (bj Tryz.prog LG GG) (.lL Cg) (λt=>if t=4 then .pointer (some ⟨H.nx,0,none⟩) else args.getD t undef) (Ap H l) λx _ K=>x= .normal/\K=H'
noncomputable def IA:Code:=match (Tryz.f20).body with
 | some (.seq _ (.seq _ (.cond _ x _)))=>x
 | _=> .skip
noncomputable def gd0:Array cu:=match (Tryz.f20).body with
 | some (.seq (.region _ ops _) _)=>ops
 | _=> #[]
noncomputable def gd1:Array cu:=match (Tryz.f20).body with
 | some (.seq _ (.seq (.region _ ops _) _))=>ops
 | _=> #[]
noncomputable def rX:Array cu:=match IA with
 | .seq (.region _ ops _) _=>ops
 | _=> #[]
noncomputable def gd3:Array cu:=match IA with
 | .seq _ (.seq (.seq (.region _ ops _) _) _)=>ops
 | _=> #[]
noncomputable def gd4:Code:=match IA with
 | .seq _ (.seq (.seq _ (.cond _ x _)) _)=>x
 | _=> .skip
theorem aie{k:Act->ar->Prop}{n:Exit->Act->ar->Prop}{a:Act}{w:ar}{l:Int}(h3:a.tmps.getD 3 undef=mP l)(hs:20<=a.tmps.size)
 (m : ∀a',a'.defers=a.defers->20<=a'.tmps.size->(∀t,t<3->a'.tmps.getD t undef=a.tmps.getD t undef)->a'.tmps.getD 12 undef= .agg #[.int .i64 l]->a'.tmps.getD 13 undef= .bool true->k a' w):wpOpsIn gZ 0 Tryz.prog rX (Ly k n) [0,1,2,3,4] a w:=by
 have o : ∀(xt:aH) (v:ae) (w:ar),(Instr.typeAssert (.iface 61 v) xt 61 true).run Tryz.prog w= .ok (.tuple #[v, .bool true]) w:=λxt v w=>by kernel_rfl
 have p:9<a.tmps.size:=by omega
 have d:10<a.tmps.size:=by omega
 have f:11<a.tmps.size:=by omega
 have b:12<a.tmps.size:=by omega
 have c:13<a.tmps.size:=by omega
 unfold mP at h3;simp only[mV] at h3 m;have e:rX=_:=rfl;conv at e=>rhs;whnf
 rw[e];simp[wpOpsIn,go_sem,Ly,o,h3,p,d,f,b,c];refine m _ rfl (by simpa using hs) (λt ht=> ?_) ?_ ?_
 ·have q:9≠t:=by omega
  have r:10≠t:=by omega
  have g:11≠t:=by omega
  have h:12≠t:=by omega
  have j:13≠t:=by omega
  simp[NU,q,r,g,h,j]
 ·simp[NU,b]
 simp[NU,c]
noncomputable def IB:List Item:=(qz Tryz.prog 20 rX (rX.toList.drop 5)).getD []
theorem aif:qz Tryz.prog 20 rX (rX.toList.drop 5)=some IB:=by
 unfold IB;have h:(qz Tryz.prog 20 rX (rX.toList.drop 5)).isSome=true:=by kernel_rfl
 cases a:qz Tryz.prog 20 rX (rX.toList.drop 5) with
 | none=>rw[a] at h;cases h
 | some l=>rfl
theorem aig{H:CH}{l:Int}{fr:Fr}(a:fr 12= .agg #[.int .i64 l])(b:fr 13= .bool true):nK (bj Tryz.prog LG GG) IB fr H λaj H1=>aj 0=fr 0/\aj 1=fr 1/\aj 2=fr 2/\aj 4= .pointer (some ⟨H.nx,0,none⟩)/\aj 5= .bool true/\H1=Ap H l:=by
 unfold Ap;conv in IB=>reduce
 exact rz (an @a @b)
theorem aih{B:Nat}{β:Nat->aC}{w:ar}{b c d p r s:ae}{l:Int}{H H':CH}{a:Act}{Q:Exit->Act->ar->Prop}(M:aN Tryz.prog B β H w)(N:aW β [b,c,d] [p,r,s])(O:Iz [b,c,d] (mP l) H H')(h3:a.tmps.getD 3 undef=mP l)(hs:20<=a.tmps.size)
 (ha : ∀i,i<3->a.tmps.getD i undef= [p,r,s].getD i undef)
 (S : ∀β' w' a',aN Tryz.prog B β' H' w'->bD β w β' w'->a'.defers=a.defers->Q .normal a' w'):IA.wpIn gZ 0 Tryz.prog Q a w:=by
 obtain⟨_,l',hl,n,x,F,K',f,rfl,rfl⟩:=O;have hl:l'=l:=by
  unfold mP at hl;injection hl with _ hl
  injection hl with hl
  simpa using hl.symm
 subst hl;show(Code.seq (.region 2 rX false) (.seq (.seq (.region 3 gd3 false) (.cond (.tmp 15) gd4 .skip)) (.region 5 EX true))).wpIn gZ 0 Tryz.prog Q a w;refine wpIn_seq_k λK U=>wpIn_region ?_;show wpOpsIn gZ 0 Tryz.prog rX _ ([0,1,2,3,4]++ [5,6,7]) a w;refine HL [5,6,7] [0,1,2,3,4] a w (aie h3 hs λG V Y u wy RJ=> ?_);have nI:FR β 20 (λt=>if t<3 then [b,c,d].getD t undef else if t=12 then .agg #[.int .i64 l'] else if t=13 then .bool true else undef) G:=by
  refine⟨Y,λt=> ?_⟩;show VR β (if t<3 then [b,c,d].getD t undef else if t=12 then .agg #[.int .i64 l'] else if t=13 then .bool true else undef) _;split
  ·rename_i ht;rw[u t ht,ha t ht];obtain⟨z,z1,z2⟩:=N.2 t ([b,c,d].getD t undef) (by
    obtain rfl | rfl | rfl:t=0\/t=1\/t=2:=by omega
    all_goals rfl)
   have e : [p,r,s].getD t undef=z:=by rw[List.getD_eq_getElem?_getD,z1];rfl
   rw[e];exact z2
  split;·rename_i e;subst e;rw[wy];exact Gt rfl β
  split;·rename_i e;subst e;rw[RJ];exact .bool _
  exact .undef _
 obtain⟨m,aj,H1,aY,g0,g1,g2,g4,g5,rfl⟩:=aig (H:=H) (l:=l') (fr:=λt=>if t<3 then [b,c,d].getD t undef else if t=12 then .agg #[.int .i64 l'] else if t=13 then .bool true else undef) rfl rfl;obtain⟨hl,rC⟩:=GJ aif;refine GA (ro:=none) (sG Hm m) [5,6,7] IB β _ aj H _ G w (by rw[hl];rfl) (λk h1 h2=> ?_) M nI aY fun β2 w2 h q1 q2 g q4=> ?_
 ·have hk:k<(rX.toList.drop 5).length:=by rw[<-hl];exact h1
  refine⟨(rX.toList.drop 5)[k],?_,rC k h1 hk⟩;have Yg:k<3:=by simpa using h2
  obtain rfl | rfl | rfl:k=0\/k=1\/k=2:=by omega
  all_goals rfl
 refine U _ _ ?_;have h5:h.tmps.getD 5 undef= .bool true:=by
  have:=g.2 5;rw[g5] at this;exact this.xQ
 have wz:=g.1;refine wpIn_seq (wpIn_seq (wpIn_region ?_));have I:gd3=_:=rfl;conv at I=>rhs;whnf
 rw[I];have v:14<h.tmps.size:=by omega
 have j:15<h.tmps.size:=by omega
 simp only[mV] at h5;simp[wpOpsIn,go_sem,h5,v,j];refine wpIn_cond_false (by simp[Act.eval,NU,j]) (wpIn_skip ?_);have zz:sE (dg (bj Tryz.prog LG GG) n) Cg (λt=>if t=4 then .pointer (some ⟨H.nx,0,none⟩) else [b,c,d].getD t undef) (Ap H l')=some (F,K'):=by
  simp only[bG] at f;cases J:sE (dg (bj Tryz.prog LG GG) n) Cg (λt=>if t=4 then .pointer (some ⟨H.nx,0,none⟩) else [b,c,d].getD t undef) (Ap H l') with
  | none=>rw[J] at f;simp at f
  | some q=>rw[J] at f;simp at f;rw[<-f.1,<-f.2]
 refine aid.1 B _ none β2 _ F _ K' _ w2 5 Q (sG Hm n) q1 ?_ zz fun β3 w3 a3 p1 p2 p3 p4=>S β3 w3 a3 p1 (q2.trans p2) (p4.trans (q4.trans V));refine⟨by simpa using wz,λt=> ?_⟩;by_cases L:t=15
 ·subst L;exact .undef _
 by_cases o:t=14
 ·subst o;exact .undef _
 have e : ∀z y:ae,((h.tmps.setIfInBounds 14 z).setIfInBounds 15 y).getD t undef=h.tmps.getD t undef:=λz y=>by
  have A:14≠t:=λe=>o e.symm;have C:15≠t:=λe=>L e.symm;simp[mV,NU,A,C]
 show VR β2 (if t=4 then .pointer (some ⟨H.nx,0,none⟩) else [b,c,d].getD t undef) (Array.getD _ t undef);rw[e];split;·rename_i h4;subst h4;rw[<-g4];exact g.2 4
 match t with
 | 0=>have:=g.2 0;rw[g0] at this;exact this
 | 1=>have:=g.2 1;rw[g1] at this;exact this
 | 2=>have:=g.2 2;rw[g2] at this;exact this
 | n+3=>exact .undef _
theorem aii{B:Nat}:YY Tryz.prog B 20 Iz:=by
 intro β w args g v v' H H' j b hv d;obtain⟨a,l,k,_⟩:=id d;subst k;have m:v'=mP l:=by
  unfold mP at hv⊢
  cases hv with
  | iface t hx=>rw[Ov rfl hx]
 subst m;match args,a,g,b with
 | [s,u,x],_,[y,z,A],b=>
   refine callsDIn_of_wpSIn (c:= .seq (.region 0 gd0 false) (.seq (.region 1 gd1 false) (.cond (.tmp 8) IA .skip))) Tryz.func20 rfl trivial λC cs hu=> ?_;have n:(Tryz.f20).ntmps=20:=by rfl
   rw[n];have e:gd0=_:=rfl;conv at e=>rhs;whnf
   have f:gd1=_:=rfl;conv at f=>rhs;whnf
   rw[e,f];apply wpSIn_seq;apply wpSIn_region;simp[wpOpsSIn,go_sem,recoverD,hu,Exit.thenS];refine wpSIn_of_wpIn rfl (wpIn_seq (wpIn_region ?_));simp[wpOpsIn,go_sem,mP];refine wpIn_cond_true (by simp[Act.eval]) (aih (l:=l) j b d (by simp[mP]) s0 (λi hi=> ?_) fun β' w' F o q r=> ?_)
   ·obtain rfl | rfl | rfl:i=0\/i=1\/i=2:=by omega
    all_goals simp
   simp[bodyPostS,results,Tryz.f20];exact⟨r,β',o,q⟩
end
section
open Go Go.RowKit
attribute [local irreducible] TC ai ah iR
section
variable {Z:TP} {X:ce} {W:Int->ae} {ts:List PT} {sl:Sl} {R:ae->Prop} {Q:AV->List SV->Prop} {E:Nat->Prop} {P:List Nd->Nat->Prop} {i:Nat}
theorem aao(C:dH Z X W ts sl)(h:i<ts.length){a:AV}(b:Q a (gi sl (i+1))):Q a [SV.sc (.slice sl.q sl.n sl.c),SV.sc (.int .i64 (IntKind.wrap .i64 ((i:Int)+1)))]:=by
 rw[aak h C.len];exact b
theorem tT(C:dH Z X W ts sl){s:List UInt8}(hs:s≠ [])(hi:i<=ts.length)(h1:ai ts i s=true->Q (rS (.bool true)) (gi sl i))(h2:ai ts i s=false->Q (rS (.bool false)) (gi sl i)):TC Z (bj Tryz.prog LG GG) X 61 [.ptr 0 0,rS (.string ⟨⟨s⟩⟩)] (ir sl i) Q R:=by
 refine aan C hs hi ?_;cases hb:ai ts i s with
 | true=>exact h1 hb
 | false=>exact h2 hb
theorem nS(C:dH Z X W ts sl){s:List UInt8}(hs:s≠ [])(hi:i<=ts.length)(h1:ai ts i s=true->i<ts.length->Q (rS (.bool true)) (gi sl (i+1)))(h2:ai ts i s=false->Q (rS (.bool false)) (gi sl i)):TC Z (bj Tryz.prog LG GG) X 33 [.ptr 0 0,rS (.string ⟨⟨s⟩⟩)] (ir sl i) Q R:=by
 refine gq fP Rl Kr (bq ?_)
 conv=>whnf
 refine aan C hs hi ?_;cases hb:ai ts i s with
 | false=>
   conv=>whnf
   exact h2 hb
 | true=>
   conv=>whnf
   exact aao C (Cd hb) (h1 hb (Cd hb))
theorem RK(C:dH Z X W ts sl){s:List UInt8}(hs:s≠ [])(hi:i<=ts.length)(h1:ai ts i s=true->i<ts.length->Q (.eF []) (gi sl (i+1)))(h2:ai ts i s=false->R (W (ah ts i).line)):TC Z (bj Tryz.prog LG GG) X 36 [.ptr 0 0,rS (.string ⟨⟨s⟩⟩)] (ir sl i) Q R:=by
 refine gq fP Rl Kr (bq ?_)
 conv=>whnf
 refine nS C hs hi (λhb hl=> ?_) (λhb=> ?_)
 ·conv=>whnf
  exact h1 hb hl
 conv=>whnf
 exact C.fail i _ _ hi (h2 hb)
theorem aij(C:dH Z X W ts sl){k:Int}(a:k≠0)(hi:i<=ts.length)(h1:(ah ts i).kind=k->i<ts.length->Q (rS (.string ⟨⟨(ah ts i).text⟩⟩)) (gi sl (i+1)))(h2:(ah ts i).kind≠k->R (W (ah ts i).line)):TC Z (bj Tryz.prog LG GG) X 40 [.ptr 0 0,rS (.int .i64 k)] (ir sl i) Q R:=by
 refine gq fP Rl Kr (bq ?_)
 conv=>whnf
 refine EW C hi ?_;conv=>whnf
 refine b9 (λhb=> ?_) (λhb=> ?_)
 ·conv=>whnf
  refine C.fail i _ _ hi (h2 ?_);simpa using hb
 have hk:(ah ts i).kind=k:=by simpa using hb
 have hl:i<ts.length:=yX (by rw[hk];exact a);conv=>whnf
 exact aao C hl (h1 hk hl)
theorem aik(C:dH Z X W ts sl)(hi:i<=ts.length)(a:Q (rS (.bool (iR ts i))) (gi sl i)):TC Z (bj Tryz.prog LG GG) X 66 [.ptr 0 0] (ir sl i) Q R:=by
 refine gq fP Rl Kr (bq ?_)
 conv=>whnf
 refine EW C hi ?_;obtain⟨t,ht⟩ : ∃t,ah ts i=t:=⟨_,rfl⟩;have hw:= @ahQ ts i;have hs:= @ahR ts i;have hk:= @ahP ts i;have hn:= @Z8 ts i;rw[ht] at hw hs hk hn⊢;obtain⟨kd,ln,tx⟩:=t;by_cases l:kd=4
 ·subst l;rw[hk (show(4:Int)<=4/\(4:Int)<=7 by decide)] at a;conv=>whnf
  exact a
 by_cases m:kd=5
 ·subst m;rw[hk (show(4:Int)<=5/\(5:Int)<=7 by decide)] at a;conv=>whnf
  exact a
 by_cases n:kd=6
 ·subst n;rw[hk (show(4:Int)<=6/\(6:Int)<=7 by decide)] at a;conv=>whnf
  exact a
 by_cases o:kd=7
 ·subst o;rw[hk (show(4:Int)<=7/\(7:Int)<=7 by decide)] at a;conv=>whnf
  exact a
 by_cases j:kd=8
 ·subst j;conv=>whnf
  refine tT C de hi (λ(b:ai ts i qI=true)=> ?_) λ(b:ai ts i qI=false)=> ?_
  ·conv=>whnf
   rw[hw rfl,b] at a;exact a
  conv=>whnf
  refine tT C de hi (λ(c:ai ts i lS=true)=> ?_) λ(c:ai ts i lS=false)=> ?_
  ·conv=>whnf
   rw[hw rfl,b,c] at a;exact a
  conv=>whnf
  refine tT C de hi (λ(d:ai ts i qL=true)=> ?_) λ(d:ai ts i qL=false)=> ?_
  ·conv=>whnf
   rw[hw rfl,b,c,d] at a;exact a
  conv=>whnf
  refine tT C de hi (λ(f:ai ts i qM=true)=> ?_) λ(f:ai ts i qM=false)=> ?_
  ·conv=>whnf
   rw[hw rfl,b,c,d,f] at a;exact a
  conv=>whnf
  refine tT C de hi (λ(g:ai ts i qN=true)=> ?_) λ(g:ai ts i qN=false)=> ?_
  ·conv=>whnf
   rw[hw rfl,b,c,d,f,g] at a;exact a
  conv=>whnf
  rw[hw rfl,b,c,d,f,g] at a;exact a
 by_cases k9:kd=9
 ·subst k9;conv=>whnf
  refine tT C de hi (λ(b:ai ts i nk=true)=> ?_) λ(b:ai ts i nk=false)=> ?_
  ·conv=>whnf
   rw[hs rfl,b] at a;exact a
  conv=>whnf
  refine tT C de hi (λ(c:ai ts i oz=true)=> ?_) λ(c:ai ts i oz=false)=> ?_
  ·conv=>whnf
   rw[hs rfl,b,c] at a;exact a
  conv=>whnf
  refine tT C de hi (λ(d:ai ts i lq=true)=> ?_) λ(d:ai ts i lq=false)=> ?_
  ·conv=>whnf
   rw[hs rfl,b,c,d] at a;exact a
  conv=>whnf
  refine tT C de hi (λ(f:ai ts i p7=true)=> ?_) λ(f:ai ts i p7=false)=> ?_
  ·conv=>whnf
   rw[hs rfl,b,c,d,f] at a;exact a
  conv=>whnf
  refine tT C de hi (λ(g:ai ts i wW=true)=> ?_) λ(g:ai ts i wW=false)=> ?_
  ·conv=>whnf
   rw[hs rfl,b,c,d,f,g] at a;exact a
  conv=>whnf
  rw[hs rfl,b,c,d,f,g] at a;exact a
 rw[hn (by simp only;omega) j k9] at a;conv=>whnf
 refine b9 (λh=>absurd (by simpa using h) l) λ_=> ?_;conv=>whnf
 refine b9 (λh=>absurd (by simpa using h) m) λ_=> ?_;conv=>whnf
 refine b9 (λh=>absurd (by simpa using h) n) λ_=> ?_;conv=>whnf
 refine b9 (λh=>absurd (by simpa using h) o) λ_=> ?_;conv=>whnf
 refine b9 (λh=>absurd (by simpa using h) j) λ_=> ?_;conv=>whnf
 refine b9 (λh=>absurd (by simpa using h) k9) λ_=> ?_;conv=>whnf
 exact a
theorem ail(C:dH Z X W ts sl)(hi:i<=ts.length)(h1:fm ts i≠0->i<ts.length->Q (rS (.int .i64 (fm ts i:Nat))) (gi sl (i+1)))(h2:fm ts i=0->Q (rS (.int .i64 0)) (gi sl i)):TC Z (bj Tryz.prog LG GG) X 86 [.ptr 0 0] (ir sl i) Q R:=by
 refine gq fP Rl Kr (bq ?_)
 conv=>whnf
 refine nS C de hi (λ(a:ai ts i Md=true) hl=> ?_) (λ(a:ai ts i Md=false)=> ?_)
 ·conv=>whnf
  have e:fm ts i=1:=by simp[fm,a]
  have h1:=h1 (by rw[e];decide) hl;rw[e] at h1;exact h1
 conv=>whnf
 refine nS C de hi (λ(b:ai ts i Me=true) hl=> ?_) (λ(b:ai ts i Me=false)=> ?_)
 ·conv=>whnf
  have e:fm ts i=2:=by simp[fm,a,b]
  have h1:=h1 (by rw[e];decide) hl;rw[e] at h1;exact h1
 conv=>whnf
 refine nS C de hi (λ(c:ai ts i Mf=true) hl=> ?_) (λ(c:ai ts i Mf=false)=> ?_)
 ·conv=>whnf
  have e:fm ts i=3:=by simp[fm,a,b,c]
  have h1:=h1 (by rw[e];decide) hl;rw[e] at h1;exact h1
 conv=>whnf
 refine nS C de hi (λ(d:ai ts i Mg=true) hl=> ?_) (λ(d:ai ts i Mg=false)=> ?_)
 ·conv=>whnf
  have e:fm ts i=4:=by simp[fm,a,b,c,d]
  have h1:=h1 (by rw[e];decide) hl;rw[e] at h1;exact h1
 conv=>whnf
 refine nS C de hi (λ(f:ai ts i Mh=true) hl=> ?_) (λ(f:ai ts i Mh=false)=> ?_)
 ·conv=>whnf
  have e:fm ts i=5:=by simp[fm,a,b,c,d,f]
  have h1:=h1 (by rw[e];decide) hl;rw[e] at h1;exact h1
 conv=>whnf
 refine nS C de hi (λ(g:ai ts i Mi=true) hl=> ?_) (λ(g:ai ts i Mi=false)=> ?_)
 ·conv=>whnf
  have e:fm ts i=6:=by simp[fm,a,b,c,d,f,g]
  have h1:=h1 (by rw[e];decide) hl;rw[e] at h1;exact h1
 conv=>whnf
 refine nS C de hi (λ(j:ai ts i Mj=true) hl=> ?_) (λ(j:ai ts i Mj=false)=> ?_)
 ·conv=>whnf
  have e:fm ts i=7:=by simp[fm,a,b,c,d,f,g,j]
  have h1:=h1 (by rw[e];decide) hl;rw[e] at h1;exact h1
 conv=>whnf
 exact h2 (by simp[fm,a,b,c,d,f,g,j])
theorem aim(C:dH Z X W ts sl)(hi:i<=ts.length)(s : ∀e,eB ts i= .error e->R (W (ah ts e).line))(c : ∀op j,eB ts i= .ok (op,j)->j<=ts.length->Q (rS (.int .i64 (op:Nat))) (gi sl j)):TC Z (bj Tryz.prog LG GG) X 111 [.ptr 0 0] (ir sl i) Q R:=by
 refine gq fP Rl Kr (bq ?_)
 conv=>whnf
 refine nS C de hi (λ(a:ai ts i Im=true) hl=> ?_) (λ(a:ai ts i Im=false)=> ?_)
 ·conv=>whnf
  exact c 1 (i+1) (by simp[eB,a]) hl
 conv=>whnf
 refine nS C de hi (λ(b:ai ts i Io=true) hl=> ?_) (λ(b:ai ts i Io=false)=> ?_)
 ·conv=>whnf
  exact c 2 (i+1) (by simp[eB,a,b]) hl
 conv=>whnf
 refine nS C de hi (λ(d:ai ts i Ip=true) hl=> ?_) (λ(d:ai ts i Ip=false)=> ?_)
 ·conv=>whnf
  exact c 3 (i+1) (by simp[eB,a,b,d]) hl
 conv=>whnf
 refine nS C de hi (λ(f:ai ts i Iq=true) hl=> ?_) (λ(f:ai ts i Iq=false)=> ?_)
 ·conv=>whnf
  exact c 4 (i+1) (by simp[eB,a,b,d,f]) hl
 conv=>whnf
 refine nS C de hi (λ(g:ai ts i Ir=true) hl=> ?_) (λ(g:ai ts i Ir=false)=> ?_)
 ·conv=>whnf
  exact c 5 (i+1) (by simp[eB,a,b,d,f,g]) hl
 conv=>whnf
 refine nS C de hi (λ(l:ai ts i Is=true) hl=> ?_) (λ(l:ai ts i Is=false)=> ?_)
 ·conv=>whnf
  exact c 6 (i+1) (by simp[eB,a,b,d,f,g,l]) hl
 conv=>whnf
 refine nS C de hi (λ(m:ai ts i tP=true) hl=> ?_) (λ(m:ai ts i tP=false)=> ?_)
 ·conv=>whnf
  exact c 7 (i+1) (by simp[eB,a,b,d,f,g,l,m]) hl
 conv=>whnf
 refine nS C de hi (λ(o:ai ts i lS=true) hl=> ?_) (λ(o:ai ts i lS=false)=> ?_)
 ·conv=>whnf
  refine RK C de hl (λ(n:ai ts (i+1) tP=true) hl=> ?_) (λ(n:ai ts (i+1) tP=false)=> ?_)
  ·conv=>whnf
   exact c 8 (i+2) (by simp[eB,a,b,d,f,g,l,m,o,n]) hl
  exact s (i+1) (by simp[eB,a,b,d,f,g,l,m,o,n])
 conv=>whnf
 refine nS C de hi (λ(r:ai ts i It=true) hl=> ?_) (λ(r:ai ts i It=false)=> ?_)
 ·conv=>whnf
  refine nS C de hl (λ(n:ai ts (i+1) lS=true) hl=> ?_) (λ(n:ai ts (i+1) lS=false)=> ?_)
  ·conv=>whnf
   exact c 10 (i+2) (by simp[eB,a,b,d,f,g,l,m,o,r,n]) hl
  conv=>whnf
  exact c 9 (i+1) (by simp[eB,a,b,d,f,g,l,m,o,r,n]) hl
 conv=>whnf
 exact c 0 i (by simp[eB,a,b,d,f,g,l,m,o,r]) hi
end
end
section
open Go Go.RowKit
attribute [local irreducible] TC ai ah iR
theorem RL{ts:List PT}{f:Nat}{a:NT}{i:Nat}(hg:a.hY)(hi:i<=ts.length){E:Nat->Prop}{P:List Nd->Nat->Prop}(h:Gd E P (gr ts f a i)):Gd (λe=>E e/\e<=ts.length) (λl j=>P l j/\a.post i ts.length l j) (gr ts f a i):=by
 cases b:gr ts f a i with
 | none=>rw[b] at h;exact h
 | some r=>
   have h1:=wZ (ts:=ts) (max f (ts.length*64+a.kM+1)) a i hg hi Om;rw[aae (Nat.le_max_left ..) b] at h1;rw[b] at h;match r,h,h1 with
   | .error e,h,h1=>exact⟨h,h1.2⟩
   | .ok (l,j),h,h1=>exact⟨h,h1⟩
def dQ:List Nd->AV
 | [t]=>eC t
 | _=> .bad
def EY (l:List Nd):AV:= .r (.c (.s (.row 5 (c7 l))))
def Ch (acc:List Nd)(c:CV):Prop:=(acc= []/\c= .s (.row 5 []))\/(acc≠ []/\c= .own 0 26 5 (c7 acc))
theorem IC{acc:List Nd}{t:Nd}{g:List (List SV)}(h:g=c7 acc++ [lr t]):Ch (acc++ [t]) (.own 0 26 5 g):= .inr ⟨s0,by rw[h,Mq];rfl⟩
theorem Aq{acc:List Nd}{t:Nd}:c7 (acc++ [t])=c7 acc++ [lr t]:=by rw[Mq];rfl
theorem ain{a b c d:CV}{acc:List Nd}{t:Nd}{g:List (List SV)}(h:g=c7 acc++ [lr t]):AV.r (.agg [a,b,c,d,CV.s (.row 5 g)])=AV.r (.agg [a,b,c,d,CV.s (.row 5 (c7 (acc++ [t])))]):=by rw[h,Aq]
theorem aio{acc:List Nd}{t:Nd}{g:List (List SV)}(h:g=c7 acc++ [lr t]):AV.r (.c (CV.s (.row 5 g)))=AV.r (.c (CV.s (.row 5 (c7 (acc++ [t]))))):=by rw[h,Aq]
theorem aip{acc:List Nd}(av:acc≠ [])(a:(c7 acc).length<=maxLen):IntKind.wrap .i64 (((c7 acc).length:Int)-1)=((acc.length-1:Nat):Int):=by
 rw[c8] at a⊢;rw[nM] at a;have:acc.length≠0:=λe=>av (List.length_eq_zero_iff.1 e);rw[nh Om Om];omega
theorem aiq{acc:List Nd}{t:Nd}(h:acc.getLast? = some t):acc[acc.length-1]? = some t:=by rw[<-h,List.getLast?_eq_getElem?]
theorem air{E:Nat->Prop}{P:List Nd->Nat->Prop}{t:Nd}{j:Nat}{k:Nd->Nat->PR}(h:Gd E (λl j=>∃t,l= [t]/\Gd E P (k t j)) (bI t j)):Gd E P (k t j):=by
 obtain⟨t',e,h⟩:=h;cases e;exact h
theorem bdA{m:Nat}(h:m<=2199023255552):Zw m 64:=⟨Om,by rw[nM];omega⟩
theorem Mx{Q:AV->List SV->Prop}{a a':AV}{s s':List SV}(ha:a=a')(hs:s=s')(h:Q a' s'):Q a s:=by rw[ha,hs];exact h
theorem ais{E:Nat->Prop}{P:List Nd->Nat->Prop}{acc:List Nd}{A B:PR}{b:Bool}{a no:Prop}(c:Gd E P (if acc.length=1 then A else B))(hb:b=true↔acc.length=1)(h1:Gd E P A->a)(h2:Gd E P B->no):yQ b a no:=by
 refine b9 (λh=> ?_) λh=> ?_;·rw[iP (hb.1 h)] at c;exact h1 c
 rw[iN (λg=>by rw[hb.2 g] at h;cases h)] at c;exact h2 c
theorem ait{p q:Prop}[Decidable p][Decidable q]{a b:PR}:(if p/\q then a else b)=if p then (if q then a else b) else b:=by
 by_cases hp:p<;>by_cases c:q<;>simp[hp,c]
abbrev oN(cs:List CV):Nat×aH×List CV:=(0,26,cs)
abbrev qR:List CV:= [cS (.int .i64 0),cS (.int .i64 0),cS (.string ⟨⟨[]⟩⟩),cS (.int .i64 0), .s (.row 5 [])]
abbrev nC(k:Nat)(l:Int)(x:List UInt8)(o:Nat)(c:CV):List CV:= [cS (.int .i64 (k:Nat)),cS (.int .i64 l),cS (.string ⟨⟨x⟩⟩),cS (.int .i64 (o:Nat)),c]
abbrev nA(k:Nat)(l:Int)(x:List UInt8)(o:Nat)(ks:List Nd):List CV:=nC k l x o (.s (.row 5 (c7 ks)))
abbrev oR(sl:Sl)(j:Nat):Nat×aH×List CV:=(0,59,[cS (.slice sl.q sl.n sl.c),cS (.int .i64 (j:Nat))])
def PC (Z:TP)(X:ce)(W:Int->ae)(ts:List PT)(sl:Sl)(f:Nat)(a:NT)(F:bk)(args:List AV)(b:List Nd->AV):Prop:=
 ∀(i:Nat) (Q:AV->List SV->Prop) (R:ae->Prop) (E:Nat->Prop) (P:List Nd->Nat->Prop),i<=ts.length->Gd E P (gr ts f a i)->(∀e,E e->R (W (ah ts e).line))->(∀l j,P l j->j<=ts.length->Q (b l) (gi sl j))->TC Z (bj Tryz.prog LG GG) X F args (ir sl i) Q R
section
variable {Z:TP} {X:ce} {W:Int->ae} {ts:List PT} {sl:Sl} {R:ae->Prop} {Q:AV->List SV->Prop} {E:Nat->Prop} {P:List Nd->Nat->Prop} {i:Nat}
theorem aiu(C:dH Z X W ts sl){s:List UInt8}{A B:PR}(a:Gd E P (if ai ts i s=true then A else B))(hs:s≠ [])(hi:i<=ts.length)(h1:i<ts.length->Gd E P A->Q (rS (.bool true)) (gi sl (i+1)))(h2:Gd E P B->Q (rS (.bool false)) (gi sl i)):TC Z (bj Tryz.prog LG GG) X 33 [.ptr 0 0,rS (.string ⟨⟨s⟩⟩)] (ir sl i) Q R:=by
 refine nS C hs hi (λh hl=> ?_) (λh=> ?_);·rw[iP h] at a;exact h1 hl a
 rw[iN (by rw[h];decide)] at a;exact h2 a
theorem aiv(C:dH Z X W ts sl){s:List UInt8}{A B:PR}(a:Gd E P (if ai ts i s=true then A else B))(hs:s≠ [])(hi:i<=ts.length)(h1:ai ts i s=true->i<ts.length->Gd E P A->Q (rS (.bool true)) (gi sl i))(h2:ai ts i s=false->Gd E P B->Q (rS (.bool false)) (gi sl i)):TC Z (bj Tryz.prog LG GG) X 61 [.ptr 0 0,rS (.string ⟨⟨s⟩⟩)] (ir sl i) Q R:=by
 refine tT C hs hi (λh=> ?_) (λh=> ?_);·rw[iP h] at a;exact h1 h (Cd h) a
 rw[iN (by rw[h];decide)] at a;exact h2 h a
theorem aiw(C:dH Z X W ts sl){s:List UInt8}{A B:PR}(a:Gd E P (if ai ts i s=false then A else B))(hs:s≠ [])(hi:i<=ts.length)(h1:Gd E P B->Q (rS (.bool true)) (gi sl i))(h2:Gd E P A->Q (rS (.bool false)) (gi sl i)):TC Z (bj Tryz.prog LG GG) X 61 [.ptr 0 0,rS (.string ⟨⟨s⟩⟩)] (ir sl i) Q R:=by
 refine tT C hs hi (λh=> ?_) (λh=> ?_);·rw[iN (by rw[h];decide)] at a;exact h1 a
 rw[iP h] at a;exact h2 a
theorem aix(C:dH Z X W ts sl){s:List UInt8}(hs:s≠ [])(hi:i<=ts.length)(hb:ai ts i s=true)(h1:i<ts.length->Q (.eF []) (gi sl (i+1))):TC Z (bj Tryz.prog LG GG) X 36 [.ptr 0 0,rS (.string ⟨⟨s⟩⟩)] (ir sl i) Q R:=
 RK C hs hi (λ_ hl=>h1 hl) λh=>by rw[hb] at h;cases h
theorem RM(C:dH Z X W ts sl)(h:i<ts.length) : [SV.sc (.slice sl.q sl.n sl.c),SV.sc (.int .i64 (IntKind.wrap .i64 ((i:Int)+1)))]=gi sl (i+1):=by
 rw[aak h C.len];rfl
theorem aiy(C:dH Z X W ts sl){A B:PR}(a:Gd E P (if iR ts i=true then A else B))(hi:i<=ts.length)(h1:Gd E P A->Q (rS (.bool true)) (gi sl i))(h2:Gd E P B->Q (rS (.bool false)) (gi sl i)):TC Z (bj Tryz.prog LG GG) X 66 [.ptr 0 0] (ir sl i) Q R:=by
 refine aik C hi ?_;cases h:iR ts i with
 | true=>rw[iP h] at a;exact h1 a
 | false=>rw[iN (by rw[h];decide)] at a;exact h2 a
theorem aiz(C:dH Z X W ts sl){k:Int}{A B:PR}(a:Gd E P (if (ah ts i).kind=k then A else B))(b:k≠0)(hi:i<=ts.length)(h1:i<ts.length->Gd E P A->Q (rS (.bool true)) (gi sl i))(h2:Gd E P B->Q (rS (.bool false)) (gi sl i)):TC Z (bj Tryz.prog LG GG) X 64 [.ptr 0 0,rS (.int .i64 k)] (ir sl i) Q R:=by
 refine ah8 C hi ?_;by_cases h:(ah ts i).kind=k
 ·rw[iP h] at a;rw[decide_eq_true h];exact h1 (yX (by rw[h];exact b)) a
 rw[iN h] at a;rw[decide_eq_false h];exact h2 a
theorem aiA(C:dH Z X W ts sl){s:List UInt8}{k:Nat->PR}(a:Gd E P (eX ts s i k))(hs:s≠ [])(hi:i<=ts.length)(b : ∀e,E e->R (W (ah ts e).line))(h1:i<ts.length->Gd E P (k (i+1))->Q (.eF []) (gi sl (i+1))):TC Z (bj Tryz.prog LG GG) X 36 [.ptr 0 0,rS (.string ⟨⟨s⟩⟩)] (ir sl i) Q R:=by
 unfold eX at a;refine RK C hs hi (λh hl=> ?_) (λh=> ?_);·rw[iP h] at a;exact h1 hl a
 rw[iN (by rw[h];decide)] at a;exact b _ a
theorem aiB(C:dH Z X W ts sl){kd:Int}{k:List UInt8->Nat->PR}(a:Gd E P (jo ts kd i k))(b:kd≠0)(hi:i<=ts.length)(c : ∀e,E e->R (W (ah ts e).line))(h1:i<ts.length->Gd E P (k (ah ts i).text (i+1))->Q (rS (.string ⟨⟨(ah ts i).text⟩⟩)) (gi sl (i+1))):TC Z (bj Tryz.prog LG GG) X 40 [.ptr 0 0,rS (.int .i64 kd)] (ir sl i) Q R:=by
 unfold jo at a;refine aij C b hi (λh hl=> ?_) (λh=> ?_);·rw[iP h] at a;exact h1 hl a
 rw[iN h] at a;exact c _ a
theorem aiC(C:dH Z X W ts sl)(hi:i<=ts.length)(a:Gd E P (some (.error i)))(b : ∀e,E e->R (W (ah ts e).line)):TC Z (bj Tryz.prog LG GG) X 63 [.ptr 0 0] (ir sl i) Q R:=C.fail i Q R hi (b i a)
theorem aiD(C:dH Z X W ts sl){A:PR}{B:Nat->Nat->PR}(a:Gd E P (match eB ts i with | .error e=>some (.error e) | .ok (0,_)=>A | .ok (op+1,j)=>B op j))(hi:i<=ts.length)(b : ∀e,E e->R (W (ah ts e).line))(c:Gd E P A->Q (rS (.int .i64 0)) (gi sl i))(h1 : ∀op j,i<j->j<=ts.length->Gd E P (B op j)->Q (rS (.int .i64 ((op+1:Nat):Int))) (gi sl j)):TC Z (bj Tryz.prog LG GG) X 111 [.ptr 0 0] (ir sl i) Q R:=by
 have ho:=Rw hi;refine aim C hi (λe h=> ?_) (λop j h d=> ?_);·rw[h] at a;exact b e a
 rw[h] at a ho;cases op with
 | zero=>
   rcases ho with ⟨_,e⟩ | ⟨h,_⟩
   ·subst e;exact c a
   exact absurd rfl h
 | succ op=>
   rcases ho with ⟨h,_⟩ | ⟨_,h2,_⟩
   ·cases h
   exact h1 op j h2 d a
theorem aiE(C:dH Z X W ts sl){A B:PR}(a:Gd E P (if fm ts i=0 then A else B))(hi:i<=ts.length)(h1:fm ts i≠0->i<ts.length->Gd E P B->Q (rS (.int .i64 (fm ts i:Nat))) (gi sl (i+1)))(h2:Gd E P A->Q (rS (.int .i64 0)) (gi sl i)):TC Z (bj Tryz.prog LG GG) X 86 [.ptr 0 0] (ir sl i) Q R:=by
 refine ail C hi (λh hl=> ?_) (λh=> ?_);·rw[iN h] at a;exact h1 h hl a
 rw[iP h] at a;exact h2 a
theorem jD{f:Nat}{a:NT}{F:bk}{args:List AV}(h:PC Z X W ts sl f a F args dQ){k:Nd->Nat->PR}(b:Gd E P (bu (gr ts f a i) k))(hg:a.hY)(ha:a.acc=none)(c : ∀e,E e->R (W (ah ts e).line))(hi:i<=ts.length)(h1 : ∀n l x o ks j,i+a.min<=j->j<=ts.length->Gd E P (k (.mk n l x o ks) j)->Q (eC (.mk n l x o ks)) (gi sl j)):TC Z (bj Tryz.prog LG GG) X F args (ir sl i) Q R:=by
 rw[Iw] at b;refine h i Q R _ _ hi (RL hg hi b) (λe he=>c e he.1) λl j ⟨⟨t,e,d⟩,hp⟩ g=> ?_;subst e;obtain⟨n,l,x,o,ks⟩:=t;exact h1 n l x o ks j hp.1 hp.2.1 d
theorem aap{f:Nat}{a:NT}{F:bk}{args:List AV}(h:PC Z X W ts sl f a F args EY){k:List Nd->Nat->PR}(b:Gd E P (pb (gr ts f a i) k))(hg:a.hY)(ha:a.acc=some (a.acc.getD 0))(d : ∀e,E e->R (W (ah ts e).line))(hi:i<=ts.length)(h1 : ∀l j,i<=j->j<=ts.length->2*l.length+i<=2*a.acc.getD 0+j+1->Gd E P (k l j)->Q (EY l) (gi sl j)):TC Z (bj Tryz.prog LG GG) X F args (ir sl i) Q R:=by
 rw[Mm] at b;refine h i Q R _ _ hi (RL hg hi b) (λe he=>d e he.1) λl j ⟨g,hp⟩ n=> ?_;obtain⟨o,m,c⟩:=hp;rw[ha] at c;exact h1 l j Om m c.1 g
theorem ku{f:Nat}{a:NT}{F:bk}{args:List AV}(h:PC Z X W ts sl f a F args dQ)(b:Gd E P (gr ts f a i))(hg:a.hY)(ha:a.acc=none)(c : ∀e,E e->R (W (ah ts e).line))(hi:i<=ts.length)(h1 : ∀n l x o ks j,i+a.min<=j->j<=ts.length->P [.mk n l x o ks] j->Q (eC (.mk n l x o ks)) (gi sl j)):TC Z (bj Tryz.prog LG GG) X F args (ir sl i) Q R:=by
 refine h i Q R _ _ hi (RL hg hi b) (λe he=>c e he.1) λl j ⟨d,hp⟩ g=> ?_;have h3:=hp.2.2;rw[ha] at h3;obtain⟨t,rfl⟩:=Ru h3;obtain⟨n,l,x,o,ks⟩:=t;exact h1 n l x o ks j hp.1 hp.2.1 d
end
end
end Can
end Go.Proofs.YtdfgkcoenagaaaaGreat
