/- Runs over trees: calls. Over any program. Runs over trees: code and functions. Over any program. Runs over trees: a function. Over any program. Runs over trees: loops by what they carry. Over any program. Parse: the grammar as a function of tokens; with so many steps. No program in sight. (Printed by tools/genps.py.). Parse: the grammar answers, whatever the tokens; where it ends, how many nodes. No program in sight. Parse: with more steps the same answer. No program in sight. Parse, the program: the reader in memory; its looks at a token. Parse, the program: what is known of its reader's looks, for runs over trees. Parse, the program: a token that can't stand there: fail panics. Parse, the program: the closure that Parse defers. Parse, the program: its small steps, as runs over trees. Parse, the program: steps along the grammar. Parse: how high the trees are. No program in sight. (Printed by tools/genpsh.py.). Parse, the program: leaf, single, place. Parse, the program: its rules, as runs over trees, along the grammar. (Printed by tools/genpw3.py.). Parse, the program: all its rules, along the grammar. (Printed by tools/genpw3.py.). Parse, the program: parse.Parse, ahead of its deferred call. Parse, the program: parse.Parse answers parseT. Lex, the document: words, symbols, names. Lex, the document: digits, blanks, base, stands. Lex, the document: number. -/
import Derived.Test.YticlaccbodpkeaaGreatDoorUa
import Derived.Test.YticlaccbodpkeaaGreatDoorUd
import Derived.WalkKit
open Bool renaming and_eq_true → fV, false_eq_true → je
open Go renaming FuncId → aS, Operand → av, TypeId → aI, Value → ae
open Go.Value renaming cells → ci, int → o7
open Iff renaming rfl → eM
open List renaming cons_append → gZ, drop_drop → j9, drop_eq_getElem_cons → mz, drop_eq_nil_of_le → Cc, drop_zero → gI, filter_cons_of_pos → af5, flatMap_cons → tw, getElem?_drop → pI, getElem?_eq_getElem → cj, getElem?_eq_none → uA, getElem?_map → ka, getElem?_set_ne → Jf, getElem?_set_self → NV, getElem?_take_of_lt → sA, length_append → cG, length_cons → bN, length_drop → lB, length_map → eR, length_nil → bZ, length_set → Gs, length_take → kW, map_cons → c8, mem_append_left → N4, mem_append_right → SB, mem_cons → mD, nil_append → ju
open Nat renaming add_assoc → oa, beq → tA, eq_of_beq_eq_true → Aa, le_max_left → yr, le_of_ble_eq_true → DW, le_refl → ai, le_trans → cy, lt_of_lt_of_le → cQ, lt_or_ge → B9, ne_of_beq_eq_false → af4, zero_le → bR
open Option renaming map_some → dC
open True renaming intro → DQ
open UInt8 renaming ofNat → ar
set_option maxRecDepth 4000
set_option maxHeartbeats 4000000
set_option linter.unusedSimpArgs false
set_option linter.unusedVariables false
namespace Go.Proofs.YticlaccbodpkeaaGreatDoor
namespace Can
section
open Go Go.RowKit
variable {T:cw} {X:dz} {Z:TP} {K0 K K' rO:CH} {sp:Option Nat} {W0:Nat->Prop} {st bB vd bM:TS} {fr am:aO} {aN:Fr} {E E' ve:TE}
def E0 (sp:Option Nat)(hid:Nat->Prop):TE:=⟨λ_=>none,λo=>if o=0 then sp else none,hid⟩
abbrev Self:=Option (aI×List SV)
def CS(K:CH)(E:TE)(sp:Option Nat):Self->Prop
 | none=>sp=none
 | some (e,a)=>∃p os,sp=some p/\p<K.nx/\K.ob p= .cells os e .ex/\R2 (fk K (ei K E)) a os
def AV.clean:AV->Prop
 | .ptr _ _=>False
 | .fS _ _ _=>False
 | _=>True
def SJ (Z:TP)(K:CH)(sp:Option Nat)(W:Nat->Prop):Self->Prop
 | none=>∀b,¬W b
 | some (e,a)=>JR Z [(0,e,a.map .s)] K sp W
def PX (K0:CH)(sp:Option Nat)(W0:Nat->Prop)(R:ae->Prop)(v:ae)(K':CH):Prop:=K0.nx<=K'.nx/\(∀b,b<K0.nx->sp≠some b->¬W0 b->K'.ob b=K0.ob b)/\R v
structure HW(K K':CH)(sp:Option Nat)(hid W lI W':Nat->Prop):Prop where
 up : ∀b,hid b->lI b
 dn : ∀b,lI b->b<K'.nx
 w : ∀b,W' b->lI b/\(W b\/K.nx<=b)
def TC (Z:TP)(T:cw)(X:dz)(f:aS)(args:List AV)(self:Self)(Q:AV->List SV->Prop)(R:ae->Prop):Prop:=
 ∀(K:CH) (sp:Option Nat) (hid W:Nat->Prop) (vs:List ae),(∀b,hid b->b<K.nx/\sp≠some b)->(∀b,W b->hid b)->(∀b,Z.N b->b<K.nx/\sp≠some b/\¬W b/\K.ob b=Z.M b)->R2 (cp K (E0 sp hid)) args vs->CS K (E0 sp hid) sp self->SJ Z K sp W self->
  EQ T X f vs K (λv K'=>K.nx<=K'.nx/\(∀b,b<K.nx->sp≠some b->¬W b->K'.ob b=K.ob b)/\∃lI W' a c,HW K K' sp hid W lI W'/\cp K' (E0 sp lI) a v/\a.clean/\CS K' (E0 sp lI) sp (self.map λp=>(p.1,c))/\SJ Z K' sp W' (self.map λp=>(p.1,c))/\Q a c) (PX K sp W R)
theorem TC.mono{f:aS}{args:List AV}{self:Self}{Q Q':AV->List SV->Prop}{R e:ae->Prop}(h:TC Z T X f args self Q R)(g : ∀a s,Q a s->Q' a s)(j : ∀v,R v->e v):TC Z T X f args self Q' e:=λK sp hid W vs h1 h2 h3 h4 h5 k=>(h K sp hid W vs h1 h2 h3 h4 h5 k).mono (λv K' ⟨b,c,lI,W',a,l,d,m,n,o,p,q⟩=>⟨b,c,lI,W',a,l,d,m,n,o,p,g _ _ q⟩) λv K' ⟨b,c,d⟩=>⟨b,c,j v d⟩
theorem PX.up(h:TR Z K0 sp W0 K st fr aN E){sp':Option Nat}{W:Nat->Prop}{R:ae->Prop}{v:ae}(c : ∀b,sp'=some b->∃o,E.ρ o=some b)(hw : ∀b,W b->W0 b\/K0.nx<=b)(hp:PX K sp' W R v K'):PX K0 sp W0 R v K':=by
 obtain⟨h1,h2,h3⟩:=hp;refine⟨cy h.nx h1,λb hb hs a=> ?_,h3⟩;rw[h2 b (cQ hb h.nx) (λq=> ?_) λq=> ?_];·exact h.dk b hb hs a
 ·obtain⟨o,ho⟩:=c b q;rcases(h.eW o b ho).2.1 with g | g
  ·omega
  exact hs g
 rcases hw b q with g | g
 ·exact a g
 omega
theorem fT.A5{x:CV}{v:ae}(h:fT K E x v)(a : ∀t,E.σ t=none)(hA : ∀b,ei K E b->ei K' E' b/\K'.ob b=K.ob b):fT K' E' x v:=by
 cases h with
 | s h=>exact .s (h.mv hA)
 | wF=>exact .wF
 | own aB hb ho hk hg hs=>rw[a] at hb;cases hb
 | bad h=>exact .bad h
theorem pz.A5{x:RV}{v:ae}(h:pz K E x v)(a : ∀t,E.σ t=none)(hA : ∀b,ei K E b->ei K' E' b/\K'.ob b=K.ob b):pz K' E' x v:=by
 cases h with
 | c h=>exact .c (h.A5 a hA)
 | agg h=>exact .agg (h.mono λ_ _ q=>q.A5 a hA)
theorem cp.A5{x:AV}{v:ae}(h:cp K E x v)(hc:x.clean)(a : ∀t,E.σ t=none)(hA : ∀b,ei K E b->ei K' E' b/\K'.ob b=K.ob b):cp K' E' x v:=by
 cases h with
 | r h=>exact .r (h.A5 a hA)
 | ptr=>exact hc.elim
 | fS=>exact hc.elim
 | iC h=>exact .iC (h.mono λ_ _ q=>q.A5 a hA)
 | skip=>exact .skip
 | bad=>exact .bad
def RV.fA:RV->List Nat
 | .c x=>x.fA
 | .agg cs=>cs.flatMap CV.fA
def AV.fA:AV->List Nat
 | .r x=>x.fA
 | _=> []
def RV.fz:RV->Option RV
 | .c x=>x.fz.map λy=> .c (.s y)
 | .agg cs=>(u9 cs).map λl=> .agg (l.map .s)
def Lr:List AV->Option Nat
 | []=>none
 | .ptr o 0::_=>some o
 | _::r=>Lr r
def acu(so:Option Nat):AV->Option AV
 | .ptr o 0=>if so=some o then some (.ptr 0 0) else none
 | .r x=>x.fz.map .r
 | _=>none
def Ls(so:Option Nat):List AV->Option (List AV)
 | []=>some []
 | a::r=>match acu so a,Ls so r with
   | some x,some xs=>some (x::xs)
   | _,_=>none
theorem acv{x:RV}{v:ae}(h:pz K E x v){y:RV}(a:x.fz=some y)(h1 : ∀b,ei K E b->ei K' E' b/\K'.ob b=K.ob b)(h2 : ∀t b,t∈x.fA->E.σ t=some b->ei K' E' b/\K'.ob b=K.ob b):pz K' E' y v:=by
 cases h with
 | @c x v h=>
   simp only[RV.fz] at a;cases hx:x.fz with
   | none=>rw[hx] at a;cases a
   | some z=>rw[hx] at a;cases a;exact .c (.s (acq h hx h1 h2))
 | @agg cs vs h=>
   simp only[RV.fz] at a;cases hx:u9 cs with
   | none=>rw[hx] at a;cases a
   | some z=>rw[hx] at a;cases a;exact .agg ((Lq h1 h hx h2).map λ_ _ q=> .s q)
def PL (E:TE)(l:List Nat)(so:Option Nat)(b:Nat):Prop:=E.hid b\/(∃t,t∉l/\E.σ t=some b)\/∃o,so≠some o/\E.ρ o=some b
theorem acw(h:TR Z K0 sp W0 K st fr aN E){l:List Nat}{so:Option Nat}{sp':Option Nat}(a : ∀b,sp'=some b->∃o,so=some o/\E.ρ o=some b):(∀b,ei K E b->ei K (E0 sp' (PL E l so)) b/\K.ob b=K.ob b)/\(∀t b,t∈l->E.σ t=some b->ei K (E0 sp' (PL E l so)) b/\K.ob b=K.ob b):=by
 constructor
 ·intro b hb;refine⟨⟨hb.1,λhh=> ?_,(λ_ q=>(by cases q)),λo q=> ?_⟩,rfl⟩
  ·rcases hh with hh | ⟨t,_,ht⟩ | ⟨o,_,ho⟩
   ·exact hb.2.1 hh
   ·exact hb.2.2.1 t ht
   exact hb.2.2.2 o ho
  have q:(if o=0 then sp' else none)=some b:=q;split at q;·obtain⟨o',_,k⟩:=a b q;exact hb.2.2.2 o' k
  cases q
 intro t b hl hb;obtain⟨g,c,j⟩:=h.sig t b hb;refine⟨⟨c,λhh=> ?_,(λ_ q=>(by cases q)),λo q=> ?_⟩,rfl⟩
 ·rcases hh with hh | ⟨t',d,e⟩ | ⟨o,_,ho⟩
  ·exact(h.hid b hh).2.1 t hb
  ·exact d (h.inj t t' b hb e▸hl)
  exact h.sr t o b hb ho
 have q:(if o=0 then sp' else none)=some b:=q;split at q;·obtain⟨o',_,k⟩:=a b q;exact h.sr t o' b hb k
 cases q
theorem UV{sp':Option Nat}{lI:Nat->Prop}{l:List Nat}{so:Option Nat}(j : ∀o b,so=some o->E.ρ o=some b->sp'=some b)(h1 : ∀b,ei K E b->ei K (E0 sp' lI) b/\K.ob b=K.ob b)(h2 : ∀t b,t∈l->E.σ t=some b->ei K (E0 sp' lI) b/\K.ob b=K.ob b) : ∀ {d e:List AV} {vs:List ae},R2 (cp K E) d vs->Ls so d=some e->(∀t∈d.flatMap AV.fA,t∈l)->R2 (cp K (E0 sp' lI)) e vs
 | _,e,_, .nil,h,_=>by cases h;exact .nil
 | a::d,e,v::vs, .cons ha ht,h,hl=>by
   simp only[Ls] at h;split at h
   ·rename_i x xs c k;cases h;refine .cons ?_ (UV j h1 h2 ht k λt q=>hl t (by rw[tw];exact SB _ q));have m : ∀t∈a.fA,t∈l:=λt q=>hl t (by rw[tw];exact N4 _ q);unfold acu at c;split at c
    ·rename_i o;split at c;·rename_i n;cases c;obtain⟨b,p,rfl⟩:=ha.A0;exact .ptr (o:=0) (by show(if 0=0 then sp' else none)=some b;rw[iP rfl];exact j o b n p)
     cases c
    ·rename_i y;cases g:y.fz with
     | none=>rw[g] at c;cases c
     | some z=>
       rw[g] at c;cases c;cases ha with
       | r ha=>exact .r (acv ha g h1 λt b q=>h2 t b (m t q))
    cases c
   cases h
theorem TR.grow(h:TR Z K0 sp W0 K st fr aN E)(a:K.nx<=K'.nx)(hk : ∀b,b<K.nx->K'.ob b=K.ob b):TR Z K0 sp W0 K' st fr aN E/\Mv K E (λ_=> .dk) K' E:=by
 have m:Mv K E (λ_=> .dk) K' E:=⟨λb hb=>⟨⟨cQ hb.1 a,hb.2⟩,hk b hb.1⟩,λt b q _=>⟨q,hk b (h.sig t b q).2.1⟩,(λ_ _ _ q=>(by cases q)),λ_ _ q=>q⟩;have:=h.step m (EW:=st.nt) a (λb hb _=>hk b hb) rfl (λt b q=>⟨(h.sig t b q).1,cQ (h.sig t b q).2.1 a,(h.sig t b q).2.2,λo=>h.sr t o b q,λhh=>(h.hid b hh).2.1 t q⟩) h.inj rfl;rw[aO.lH,TS.lH] at this;exact⟨this,m⟩
structure TD where
 node:List aS
structure y0(T:cw)(D:TD):Prop where
 node : ∀f,D.node.elem f=true->∀(K:CH) (k l:Int) (a:Option Addr) (n c:Nat),aQ T f [.int .i64 k, .int .i64 l, .slice a n c] K λv K'=>v= .agg #[.int .i64 k, .int .i64 l, .string ⟨⟨[]⟩⟩, .int .i64 0, .slice a n c]/\∃o,K'=K.new o
def slV:CV->Bool
 | .own _ _ _ _=>true
 | .s (.row _ _)=>true
 | .s (.sc (.slice _ _ _))=>true
 | _=>false
def Lu(d:List AV)(fr:aO)(st:TS)(k:AV->aO->TS->Prop):Prop:=match d with
 | [.r (.c (.s (.sc (.int .i64 a)))), .r (.c (.s (.sc (.int .i64 b)))), .r (.c x)]=>match slV x with
   | true=>k (.r (.agg [cS (.int .i64 a),cS (.int .i64 b),cS (.string ⟨⟨[]⟩⟩),cS (.int .i64 0),x])) fr st
   | false=>False
 | _=>False
def UW (o:Nat)(cs:List CV):Bool:=match o with
 | 0=>true
 | _=>(fy cs).isEmpty
def Lv(Z:TP)(T:cw)(X:dz)(f:aS)(b:List AV)(fr:aO)(st:TS)(k:AV->aO->TS->Prop)(R:ae->Prop):Prop:=
 match Ls (Lr b) b with
 | none=>False
 | some c=>match Lr b with
   | none=>TC Z T X f c none (λa _=>k a (HE (b.flatMap AV.fA) fr) ⟨st.nt,(yV (b.flatMap AV.fA) st).ax⟩) R
   | some o=>match st.ax[o]? with
     | some (v,e,cs)=>match u9 cs,UW o cs with
       | some d,true=>TC Z T X f c (some (e,d)) (λa g=>k a (HE (b.flatMap AV.fA++cs.flatMap CV.fA) fr) ⟨st.nt,(yV (b.flatMap AV.fA++cs.flatMap CV.fA) st).ax.set o (v+1,e,g.map .s)⟩) R
       | _,_=>False
     | none=>False
def HH:List Nat->(List Nat->Prop)->Prop
 | [],k=>k []
 | n::l,k=>match n with
   | 0=>HH l λl=>k (0::l)
   | n+1=>HH l λl=>k ((n+1)::l)
theorem UX : ∀ {l:List Nat} {k:List Nat->Prop},HH l k=k l
 | [],_=>rfl
 | 0::l,k=>by simp only[HH,UX]
 | (n+1)::l,k=>by simp only[HH,UX]
def Lw (l:List Nat)(fr:aO)(st:TS)(k:aO->TS->Prop):Prop:=HH l λl=>match l with
 | []=>k fr st
 | a::l=>k (fr.act (nM (a::l))) (st.act (nM (a::l)))
theorem PM{l:List Nat}{fr:aO}{st:TS}{k:aO->TS->Prop}:Lw l fr st k=k (HE l fr) (yV l st):=by
 unfold Lw;rw[UX];cases l<;>rfl
def PN(Z:TP)(T:cw)(X:dz)(f:aS)(b:List AV)(fr:aO)(st:TS)(k:AV->aO->TS->Prop)(R:ae->Prop):Prop:=
 match Ls (Lr b) b with
 | none=>False
 | some c=>match Lr b with
   | none=>TC Z T X f c none (λa _=>Lw (b.flatMap AV.fA) fr st λfr s=>k a fr ⟨st.nt,s.ax⟩) R
   | some o=>match st.ax[o]? with
     | some (v,e,cs)=>match u9 cs,UW o cs with
       | some d,true=>TC Z T X f c (some (e,d)) (λa g=>Lw (b.flatMap AV.fA++cs.flatMap CV.fA) fr st λfr s=>k a fr ⟨st.nt,s.ax.set o (v+1,e,g.map .s)⟩) R
       | _,_=>False
     | none=>False
theorem UY{Z:TP}{T:cw}{X:dz}{f:aS}{a:List AV}{fr:aO}{st:TS}{k:AV->aO->TS->Prop}{R:ae->Prop}:PN Z T X f a fr st k R=Lv Z T X f a fr st k R:=by
 unfold PN Lv;simp only[PM]
theorem UZ{fr:aO}(a : ∀t,cp K E (fr t) (aN t)) : ∀(l:List av),R2 (cp K E) (l.map (eJ fr)) (l.map (aJ aN))
 | []=> .nil
 | x::l=> .cons (jE a x) (UZ a l)
theorem ajV{D:TD}(t:y0 T D)(h:TR Z K0 sp W0 K st fr aN E){f:aS}(w:D.node.elem f=true){args:List av}{k:AV->aO->TS->Prop}(hk:Lu (args.map (eJ fr)) fr st k):aQ T f (args.map (aJ aN)) K λv g=>∃a am bM j,TR Z K0 sp W0 g bM am aN j/\cp g j a v/\gQ K st E g bM j/\k a am bM:=by
 have d:=UZ h.jh args;obtain⟨l,ha⟩ : ∃l,args.map (eJ fr)=l:=⟨_,rfl⟩;obtain⟨vs,hv⟩ : ∃vs,args.map (aJ aN)=vs:=⟨_,rfl⟩;rw[ha] at hk d;rw[hv] at d⊢;unfold Lu at hk;split at hk
 ·rename_i a b x;cases hx:slV x with
  | false=>rw[hx] at hk;exact hk.elim
  | true=>
  rw[hx] at hk;cases d with
  | cons h1 d=>cases d with
    | cons h2 d=>cases d with
      | cons h3 d=>
        cases d;obtain rfl:=uZ h1 (u:= .int .i64 a) rfl;obtain rfl:=uZ h2 (u:= .int .i64 b) rfl;rename_i w3;cases h3 with
        | r h3=>cases h3 with
          | c h3=>
            have : ∃q n c,w3=Value.slice q n c:=by
             cases h3 with
             | s h3=>
               cases h3 with
               | sc h3=>
                 cases w3 with
                 | slice q n c=>exact⟨q,n,c,rfl⟩
                 | _=>cases hx
               | qI=>exact⟨_,_,_,rfl⟩
               | row=>exact⟨_,_,_,rfl⟩
               | lk=>cases hx
               | yT=>cases hx
               | sub=>cases hx
             | wF=>exact⟨_,_,_,rfl⟩
             | own=>exact⟨_,_,_,rfl⟩
             | bad=>cases hx
            obtain⟨q,n,c,rfl⟩:=this;refine(t.node f w K a b q n c).mono λv g ⟨y,o,z⟩=> ?_;subst y z;obtain⟨t1,m⟩:=h.grow (K':=K.new o) (Nat.le_succ _) λb hb=>bL Om;have h3:=h3.mv m;rw[CV.lH] at h3;exact⟨_,_,_,E,t1, .r (.agg (vs:= [_,_,_,_,_]) (.cons (.s (.sc rfl)) (.cons (.s (.sc rfl)) (.cons (.s (.sc rfl)) (.cons (.s (.sc rfl)) (.cons h3 .nil)))))),⟨λ_ h=>h,λ_ _ h=>h,λo v e cs h'=>⟨v,cs,h',ai _,λ_ b hb=>bL (by have:=(h.eW o b hb).1;omega)⟩⟩,hk⟩
 exact hk.elim
theorem U0 : ∀ {cs:List CV} {a:List SV},u9 cs=some a->a.length=cs.length
 | [],a,h=>by cases h;rfl
 | x::cs,a,h=>by
   simp only[u9] at h;split at h;·rename_i y ys c b;cases h;simp[U0 b]
   cases h
theorem U1 : ∀ {cs:List CV} {a:List SV},u9 cs=some a->fy (a.map .s)=fy cs/\∀vs,ko (a.map .s) vs=ko cs vs
 | [],a,h=>by cases h;exact⟨rfl,λ_=>rfl⟩
 | x::cs,a,h=>by
   simp only[u9] at h;split at h
   ·rename_i y ys b c;cases h;obtain⟨i1,i2⟩:=U1 c;rw[c8];cases x with
    | s z=>
      cases b;refine⟨by rw[EV,i1,<-EV],λvs=> ?_⟩;cases vs with
      | nil=>cases y<;>rfl
      | cons v vs=>rw[A4,i2,<-A4]
    | own t e sz gs=>
      cases b;refine⟨i1,λvs=> ?_⟩;cases vs with
      | nil=>rfl
      | cons v vs=>exact i2 vs
    | bad=>cases b
   cases h
theorem JR.hd{v v':Nat}{e:aI}{cs:List CV}{r a:List (Nat×aI×List CV)}{W:Nat->Prop}(h:JR Z ((v,e,cs)::r) K sp W):JR Z ((v',e,cs)::a) K sp W:=h
theorem TR.call(h:TR Z K0 sp W0 K st fr aN E){W W':Nat->Prop}{o p v:Nat}{e:aI}{cs us:List CV}{os':List ae}(k:E.ρ o=some p)(ho:st.ax[o]? = some (v,e,cs))(n:K.nx<=K'.nx)(hk : ∀b,b<K.nx->b≠p->¬W b->K'.ob b=K.ob b)(hp:K'.ob p= .cells os' e .ex)(hw : ∀b,W b->E.hid b/\(W0 b\/K0.nx<=b))(u : ∀b,W' b->E.hid b\/(K.nx<=b/\b<K'.nx))(L : ∀b,W' b->W0 b\/K0.nx<=b)(hs:R2 (fT K' ⟨E.σ,E.ρ,λb=>E.hid b\/W' b⟩) us os')(B : ∃w:Nat->Prop,(∀b,w b->(E.hid b\/W' b)/\(W0 b\/K0.nx<=b))/\JR Z (st.ax.set o (v+1,e,us)) K' (E.ρ 0) w) :
 TR Z K0 sp W0 K' ⟨st.nt,st.ax.set o (v+1,e,us)⟩ fr aN ⟨E.σ,E.ρ,λb=>E.hid b\/W' b⟩/\gQ K st E K' ⟨st.nt,st.ax.set o (v+1,e,us)⟩ ⟨E.σ,E.ρ,λb=>E.hid b\/W' b⟩:=by
 obtain⟨M,r2,y⟩:=h.eW o p k;have r : ∀b,b<K.nx->¬E.hid b->b≠p->K'.ob b=K.ob b:=λb hb hh hp=>hk b hb hp λq=>hh (hw b q).1;have m:Mv K E (λ_=> .dk) K' ⟨E.σ,E.ρ,λb=>E.hid b\/W' b⟩:=by
  refine⟨λb hb=>⟨⟨cQ hb.1 n,λq=> ?_,hb.2.2⟩,r b hb.1 hb.2.1 λe=>hb.2.2.2 o (e▸k)⟩,λt b q _=>⟨q,r b (h.sig t b q).2.1 (λhh=>(h.hid b hh).2.1 t q) λe=>h.sr t o b q (e▸k)⟩,(λ_ _ _ q=>(by cases q)),λ_ _ q=>q⟩;rcases q with q | q
  ·exact hb.2.1 q
  rcases u b q with g | g
  ·exact hb.2.1 g
  have:=hb.1;omega
 have C : ∀ {x v},cp K E x v->cp K' ⟨E.σ,E.ρ,λb=>E.hid b\/W' b⟩ x v:=λq=>by
  have:=q.mv m;rwa [AV.lH] at this
 have F : ∀x v,fT K E x v->fT K' ⟨E.σ,E.ρ,λb=>E.hid b\/W' b⟩ x v:=λx v q=>by
  have:=q.mv m;rwa [CV.lH] at this
 have z : ∀b,b<K0.nx->¬W0 b->¬W b:=λb hb s q=>by
  rcases(hw b q).2 with g | g
  ·exact s g
  omega
 refine⟨⟨cy h.nx n,λb hb A s=> ?_,λb hb=> ?_,λb hb=> ?_,B,λt b q=> ?_,h.inj,h.sr,λo' b q=> ?_,h.sS,λo' v' e' cs' q=> ?_,λt=>C (h.jh t)⟩,⟨λ_ q=> .inl q,λ_ _ q=>q,λo' v' e' cs' q=> ?_⟩⟩
 ·refine(hk b (cQ hb h.nx) (λe=> ?_) (z b hb s)).trans (h.dk b hb A s);subst e;rcases r2 with r2 | r2
  ·omega
  exact A r2
 ·obtain⟨a,c,d,G⟩:=h.tS b hb;refine⟨a,c,d,(hk b (cQ a h.nx) (λe=> ?_) (z b a d)).trans G⟩;subst e;rcases r2 with r2 | r2
  ·omega
  exact c r2
 ·have H:E.hid b\/(K.nx<=b/\b<K'.nx):=hb.elim .inl (u b);rcases H with hb | ⟨hb,I⟩
  ·obtain⟨a,c,d⟩:=h.hid b hb;exact⟨cQ a n,c,d⟩
  exact⟨I,λt q=>by have:=(h.sig t b q).2.1;omega,λo q=>by have:=(h.eW o b q).1;omega⟩
 ·obtain⟨a,c,d⟩:=h.sig t b q;exact⟨a,cQ c n,d⟩
 ·obtain⟨a,c,d⟩:=h.eW o' b q;exact⟨cQ a n,c,by show o'<(st.ax.set o _).length;rw[Gs];exact d⟩
 ·have q:(st.ax.set o (v+1,e,us))[o']? = some (v',e',cs'):=q;by_cases j:o=o'
  ·subst j;rw[NV y] at q;cases q;exact⟨p,os',k,hp,hs⟩
  rw[Jf j] at q;obtain⟨l,J,a,c,d⟩:=h.ax o' v' e' cs' q;exact⟨l,J,a,(r l (h.eW o' l a).1 (λhh=>(h.hid l hh).2.2 o' a) λe=>j (h.sS o o' p k (e▸a))).trans c,d.mono F⟩
 by_cases j:o=o'
 ·subst j;rw[ho] at q;cases q;exact⟨v+1,us,NV y,Nat.le_succ _,λe=>by omega⟩
 refine⟨v',cs',(Jf j).trans q,ai _,λ_ l hl=>r l (h.eW o' l hl).1 (λhh=>(h.hid l hh).2.2 o' hl) λe=>j (h.sS o o' p k (e▸hl))⟩
theorem ajW{o:Nat}{cs:List CV}(h:UW o cs=true):o=0\/fy cs= []:=by
 cases o with
 | zero=>exact .inl rfl
 | succ o=>exact .inr (List.isEmpty_iff.1 h)
theorem ajX(h:TR Z K0 sp W0 K st fr aN E){f:aS}{args:List av}{k:AV->aO->TS->Prop}{R:ae->Prop}(hk:PN Z T X f (args.map (eJ fr)) fr st k R):EQ T X f (args.map (aJ aN)) K (λv j=>∃a am bM z,TR Z K0 sp W0 j bM am aN z/\cp j z a v/\gQ K st E j bM z/\k a am bM) (PX K0 sp W0 R):=by
 have G:=UZ h.jh args;obtain⟨c,ha⟩ : ∃c,args.map (eJ fr)=c:=⟨_,rfl⟩;obtain⟨vs,hv⟩ : ∃vs,args.map (aJ aN)=vs:=⟨_,rfl⟩;rw[ha] at hk G;rw[hv] at G⊢;rw[UY] at hk;unfold Lv at hk;split at hk;·exact hk.elim
 rename_i az H;split at hk
 ·rename_i N;rw[N] at H;obtain⟨f1,f2⟩:=acw h (l:=c.flatMap AV.fA) (so:=none) (sp':=none) (λ_ q=>(by cases q));have hz:=UV (lI:=PL E (c.flatMap AV.fA) none) (λo b q=>(by cases q)) f1 f2 G H λt q=>q;refine(hk K none _ (λ_=>False) vs (λb hb=>⟨?_,(λq=>(by cases q))⟩) (λ_ h=>h.elim) (λb hb=>⟨cQ (h.tS b hb).1 h.nx,(λq=>(by cases q)),id,(h.tS b hb).2.2.2⟩) hz rfl λ_ h=>h).mono (λv j ⟨I,J,lI,W',a,S,u,U,V,k5,k6,A⟩=> ?_) λv j hp=>hp.up h (λb q=>(by cases q)) λb q=>q.elim
  ·rcases hb with hb | ⟨t,_,ht⟩ | ⟨o,_,ho⟩
   ·exact(h.hid b hb).1
   ·exact(h.sig t b ht).2.1
   exact(h.eW o b ho).1
  obtain⟨z,t1,m,t2,rfl⟩:=h.fz (c.flatMap AV.fA);obtain⟨Y,m1⟩:=t1.grow I λb hb=>J b hb (λq=>(by cases q)) id;rw[PH,PI] at A;refine⟨a,_,_,_,Y,U.A5 V (λ_=>rfl) λb hb=>⟨⟨hb.1,λhh=>hb.2.1 (u.up b (.inl hh)),λt q=> ?_,λo q=>hb.2.1 (u.up b (.inr (.inr ⟨o,(λq=>(by cases q)),q⟩)))⟩,rfl⟩,⟨λ_ q=>q,λo b q=>q,λo v e cs q=> ?_⟩,A⟩
  ·have q:(if t∈c.flatMap AV.fA then none else E.σ t)=some b:=q;split at q;·cases q
   rename_i hn;exact hb.2.1 (u.up b (.inr (.inl ⟨t,hn,q⟩)))
  obtain⟨v',cs',g1,g2,g3⟩:=t2.mR o v e cs q;exact⟨v',cs',g1,g2,λe b hb=>(J b (h.eW o b hb).1 (λq=>(by cases q)) id).trans (g3 e b hb)⟩
 rename_i o N;split at hk
 ·rename_i v e cs B;split at hk
  ·rename_i ss U2 rJ;rw[N] at H;obtain⟨p,os,d,o2,o3⟩:=h.ax o v e cs B;obtain⟨f1,f2⟩:=acw h (l:=c.flatMap AV.fA++cs.flatMap CV.fA) (so:=some o) (sp':=some p) (λb q=>⟨o,rfl,q▸d⟩);have hz:=UV (lI:=PL E (c.flatMap AV.fA++cs.flatMap CV.fA) (some o)) (λo' b n q2=>by cases n;rw[<-d,q2]) f1 f2 G H λt q=>N4 _ q;have U3:=Lq f1 o3 U2 λt b n q2=>f2 t b (SB _ n) q2;have y5:p<K.nx:=(h.eW o p d).1;obtain⟨EY,U4⟩:=U1 U2;obtain⟨Wc,w1,w2⟩:=h.wr;obtain⟨W,hw,hSJ,CT⟩ : ∃W:Nat->Prop,(∀b,W b->E.hid b/\(W0 b\/K0.nx<=b))/\SJ Z K (some p) W (some (e,ss))/\(o=0\/∀b,¬W b):=by
    by_cases hl:fy cs= []
    ·exact⟨λ_=>False,λ_ h=>h.elim, .inl ⟨EY.trans hl,λ_ h=>h⟩, .inr λ_ h=>h⟩
    have y:=(ajW rJ).resolve_right hl;subst y;refine⟨Wc,w1,?_, .inl rfl⟩;match aW:st.ax,w2,B with
    | (v',e',cs')::r,w2,B=>
      cases B;rcases w2 with ⟨g,_⟩ | ⟨_,p',l9,g1,g2,g3,g4⟩
      ·exact absurd g hl
      rw[d] at g1;cases g1;exact .inr ⟨by rw[EY];exact hl,p,l9,rfl,g2,by rw[g3,<-U0 U2,eR],by rw[EY,U4];exact g4⟩
   refine(hk K (some p) _ W vs (λb hb=>⟨?_,λq=> ?_⟩) (λb hb=> .inl (hw b hb).1) (λb hb=>⟨cQ (h.tS b hb).1 h.nx,λq=> ?_,λq=> ?_,(h.tS b hb).2.2.2⟩) hz ⟨p,os,rfl,y5,o2,U3⟩ hSJ).mono (λv1 j ⟨I,J,lI,W',a,S,u,U,V,k5,k6,A⟩=> ?_) λv j hp=>hp.up h (λb q=>⟨o,by cases q;exact d⟩) λb q=>(hw b q).2
   ·rcases hb with hb | ⟨t,_,ht⟩ | ⟨o,_,ho⟩
    ·exact(h.hid b hb).1
    ·exact(h.sig t b ht).2.1
    exact(h.eW o b ho).1
   ·cases q;rcases hb with hb | ⟨t,_,ht⟩ | ⟨o',n,ho⟩
    ·exact(h.hid p hb).2.2 o d
    ·exact h.sr t o p ht d
    exact n (by rw[h.sS o o' p d ho])
   ·cases q;obtain⟨g1,g2,_⟩:=h.tS p hb;rcases(h.eW o p d).2.1 with g | g
    ·omega
    exact g2 g
   ·obtain⟨g1,_,g3,_⟩:=h.tS b hb;rcases(hw b q).2 with g | g
    ·exact g3 g
    omega
   obtain⟨p',C,s1,s2,s3,s4⟩:=k5;cases s1;obtain⟨z,t1,m,t2,rfl⟩:=h.fz (c.flatMap AV.fA++cs.flatMap CV.fA);have Gu : ∀b,ei j (E0 (some p) lI) b->b≠p/\¬(E.hid b\/W' b)/\(∀t,(if t∈c.flatMap AV.fA++cs.flatMap CV.fA then none else E.σ t)≠some b)/\(∀o,E.ρ o≠some b)/\b<j.nx:=λb hb=>by
    have L:b≠p:=λe=>hb.2.2.2 0 (by show(if 0=0 then some p else none)=some b;rw[iP rfl,e]);refine⟨L,λhh=>hb.2.1 ?_,λt q=> ?_,λo' q=> ?_,hb.1⟩
    ·rcases hh with hh | hh
     ·exact u.up b (.inl hh)
     exact(u.w b hh).1
    ·split at q;·cases q
     rename_i hn;exact hb.2.1 (u.up b (.inr (.inl ⟨t,hn,q⟩)))
    by_cases ho:o'=o
    ·subst ho;rw[d] at q;cases q;exact L rfl
    exact hb.2.1 (u.up b (.inr (.inr ⟨o',λq=>ho (by cases q;rfl),q⟩)))
   have hN : ∀b,W' b->E.hid b\/(K.nx<=b/\b<j.nx):=λb q=>by
    obtain⟨n,q2⟩:=u.w b q;rcases q2 with q2 | q2
    ·exact .inl (hw b q2).1
    exact .inr ⟨q2,u.dn b n⟩
   have Lx : ∀b,W' b->W0 b\/K0.nx<=b:=λb q=>by
    rcases(u.w b q).2 with q2 | q2
    ·exact(hw b q2).2
    exact .inr (cy h.nx q2)
   have G9:(⟨st.nt,(st.act (nM (c.flatMap AV.fA++cs.flatMap CV.fA))).ax⟩:TS).ax[o]? = some (v,e,cs.map (CV.act (nM (c.flatMap AV.fA++cs.flatMap CV.fA)))):=by
    show(st.ax.map _)[o]? = _;rw[ka,B];rfl
   have rG:o<(st.act (nM (c.flatMap AV.fA++cs.flatMap CV.fA))).ax.length:=(List.getElem?_eq_some_iff.1 G9).1;have iA : ∀b,b<K.nx->b≠p->¬W b->j.ob b=K.ob b:=λb hb L PK=>J b hb (λq=>L (by cases q;rfl)) PK;obtain⟨Y,u2⟩:=t1.call (W:=W) (W':=W') (us:=S.map .s) (os':=C) (p:=p) d G9 I iA s3 hw hN Lx (s4.map λx v q=> .s (q.mv λb hb=>by
    obtain⟨g1,g2,g3,g4,g5⟩:=Gu b hb;exact⟨⟨g5,g2,g3,g4⟩,rfl⟩)) (by
    by_cases y:o=0
    ·subst y;refine⟨W',λb q=>⟨.inr q,Lx b q⟩,?_⟩;show JR Z ((st.act (nM (c.flatMap AV.fA++cs.flatMap CV.fA))).ax.set 0 (v+1,e,S.map .s)) j (E.ρ 0) W';rw[d];match aW:(st.act (nM (c.flatMap AV.fA++cs.flatMap CV.fA))).ax,rG with
     | _::r,_=>exact JR.hd (v:=0) (r:= []) k6
    have F:=CT.resolve_left y;obtain⟨W2,g1,g2⟩:=t1.wr;refine⟨W2,λb q=>⟨.inl (g1 b q).1,(g1 b q).2⟩,JR.mv g2 (by rw[Gs]) (λv' e' cs' q=> ?_) (λb q=> ?_) I⟩;·refine⟨v',cs',(Jf y).trans q,rfl,rfl,λ_ M yY n q2=>⟨yY,?_,rfl,rfl⟩⟩;have n:E.ρ 0=some M:=n;exact(iA M (h.eW 0 M n).1 (λe=>y (h.sS o 0 p d (e▸n))) (F M)).trans q2
    have hh:=h.hid b (g1 b q).1;exact iA b hh.1 (λe=>hh.2.2 o (e▸d)) (F b))
   rw[PH,PI] at A;refine⟨a,_,_,_,Y,U.A5 V (λ_=>rfl) λb hb=> ?_,⟨λb q=> .inl q,λo b q=>q,λo' v' e' cs' q=> ?_⟩,A⟩;·obtain⟨g1,g2,g3,g4,g5⟩:=Gu b hb;exact⟨⟨g5,g2,g3,g4⟩,rfl⟩
   obtain⟨v2,sT,g1,g2,g3⟩:=t2.mR o' v' e' cs' q;obtain⟨v3,cs3,g4,g5,g6⟩:=u2.mR o' v2 e' sT g1;exact⟨v3,cs3,g4,cy g2 g5,λe b hb=>g6 Om b hb⟩
  exact hk.elim
 exact hk.elim
end
section
open Go Go.RowKit
def qJ (fr:aO):Option Nat->AV->aO
 | none,_=>fr
 | some d,a=>λt=>match tA t d with
   | true=>a
   | false=>fr t
theorem Ly{fr:aO}{d t:Nat}{a:AV}:qJ fr (some d) a t=if t=d then a else fr t:=by
 show(match tA t d with | true=>a | false=>fr t)=_;split;·rename_i h;rw[iP (Aa h)]
 rename_i h;rw[iN (af4 h)]
def A6 (b:Bool)(a no:Prop):Prop:=match b with
 | true=>a
 | false=>no
def tW (o:Option AV)(k:AV->Prop):Prop:=match o with
 | some a=>k a
 | none=>False
def CU (o:Option (AV×aO×TS))(k:AV->aO->TS->Prop):Prop:=match o with
 | some (a,fr,st)=>k a fr st
 | none=>False
def y8(fr:aO)(k:AV->Prop):dY->Prop
 | .idx x i sz=>match (eJ fr x).Py,(eJ fr i).raw with
   | some (t,z,gs),some (.int _ j)=>HD sz z/\∃(n:Nat) (g:List SV),j=(n:Int)/\gs[n]? = some g/\k (.fS t g 0)
   | _,_=>False
 | .len x=>match eJ fr x with
   | .r (.c (.s (.row _ gs)))=>gs.length<=maxLen->k (iS gs.length)
   | .r (.c (.own _ _ _ gs))=>gs.length<=maxLen->k (iS gs.length)
   | .r (.c (.s (.sub _ gs)))=>gs.length<=maxLen->k (iS gs.length)
   | a=>tW ((lenOf a).map λn=>iS n) k
 | x=>tW (rN fr x) k
def A7(fr:aO)(st:TS)(k:AV->aO->TS->Prop):qC->Prop
 | .Ao e sz n z ps=>match Nat.ble 1 n&&(Nat.ble (n*sz) 16777216&&(Nat.ble n 16777216&&Lf e sz)),HF sz (ps.map λp=>(eJ fr p.2).wG) with
   | true,some gs=>match Lk gs with
     | some hs=>ps.map (·.1)=List.range n/\Lw (gs.flatten.flatMap CV.fA) fr st λfr s=>k (.r (.c (.own st.nt e sz hs))) fr ⟨st.nt+1,s.ax⟩
     | none=>False
   | _,_=>False
 | x=>CU (xH fr st x) k
theorem ajY{fr:aO}{st:TS}{k:AV->aO->TS->Prop}{x:qC}(h:A7 fr st k x) : ∃a am bM,xH fr st x=some (a,am,bM)/\k a am bM:=by
 unfold A7 at h;split at h
 ·rename_i e sz n z ps;split at h
  ·rename_i gs h1 h2;split at h;·rename_i hs h3;obtain⟨h4,h5⟩:=h;simp only[fV] at h1;rw[PM] at h5;refine⟨_,_,_,?_,h5⟩;simp only[xH,h2,h3];rw[iP ⟨h4,DW h1.1,DW h1.2.1,DW h1.2.2.1,h1.2.2.2⟩]
   exact h.elim
  exact h.elim
 unfold CU at h;split at h;·rename_i a am bM e;exact⟨a,am,bM,e,h⟩
 exact h.elim
def acx (o:Option (Nat×aI×Nat))(fr:aO)(st:TS)(k:aO->TS->Prop):Prop:=match o with
 | none=>k fr st
 | some (t,_)=>k (fr.act (lG (some t))) (st.act (lG (some t)))
theorem U5{o:Option (Nat×aI×Nat)}{fr:aO}{st:TS}{k:aO->TS->Prop}:acx o fr st k=k (PF o fr) (EU o st):=by
 cases o<;>rfl
def BdA (n bytes:Nat):Prop:=n*bytes<=140737488355328/\n<=maxLen
def U6(e sz:Nat):Option (Nat×aI×Nat)->Bool
 | none=>true
 | some (_,e',og)=>tA e' e&&tA og sz
def acy (sz:Nat):Option Nat->Bool
 | none=>true
 | some og=>tA og sz
theorem ajZ{e sz:Nat}{o:Option (Nat×aI×Nat)}(h:U6 e sz o=true):US e sz o:=by
 cases o with
 | none=>trivial
 | some p=>
   obtain⟨t,e',og⟩:=p;simp only[U6,fV] at h;exact⟨Aa h.1,Aa h.2⟩
theorem aj0{sz:Nat}{o:Option Nat}(h:acy sz o=true):HD sz o:=by
 cases o with
 | none=>trivial
 | some p=>exact Aa h
def A8(fr:aO)(st:TS)(k:AV->aO->TS->Prop):iW->Prop
 | .app e sz bytes s x=>match (eJ fr s).UR,(eJ fr x).rowOf with
   | some (o,gs),some (_,z,hs)=>match U6 e sz o&&Lf e sz,acy sz z with
     | true,true=>BdA (gs.length+hs.length) bytes/\acx o fr st λfr s=>k (.r (.c (.own st.nt e sz (gs++hs)))) fr ⟨st.nt+1,s.ax⟩
     | _,_=>False
   | _,_=>False
 | x=>CU (yW fr st x) k
def PP(Z:TP)(T:cw)(X:dz)(D:TD)(f:aS)(a:List AV)(fr:aO)(st:TS)(k:AV->aO->TS->Prop)(R:ae->Prop):Prop:=match D.node.elem f with
 | true=>Lu a fr st k
 | false=>PN Z T X f a fr st k R
def CW (Z:TP)(T:cw)(X:dz)(D:TD)(op:gB)(fr:aO)(st:TS)(k:AV->aO->TS->Prop)(R:ae->Prop):Prop:=match op with
 | .p x=>y8 fr (λa=>k a fr st) x
 | .l x=>tW (yU fr st x) λa=>k a fr st
 | .a x=>A7 fr st k x
 | .w x=>A8 fr st k x
 | .call f args=>PP Z T X D f (args.map (eJ fr)) fr st k R
 | .pg _ _=>False
structure Rec where
 d:Nat
 o:Nat
 off:Nat
 mR:Nat
def y9 (n:Nat)(k:Nat->Prop):Prop:=match n with
 | 0=>k 0
 | n+1=>k (n+1)
def fcV (v:ae)(k:ae->Prop):Prop:=match v with
 | .int kd n=>k (.int kd n)
 | .bool b=>A6 b (k (.bool true)) (k (.bool false))
 | .string s=>k (.string s)
 | .slice a n c=>k (.slice a n c)
 | v=>k v
def U7 (x:SV)(k:SV->Prop):Prop:=match x with
 | .sc v=>fcV v λv=>k (.sc v)
 | .row sz gs=>k (.row sz gs)
 | .lk x=>k (.lk x)
 | .sub sz gs=>k (.sub sz gs)
def Lz (x:CV)(k:CV->Prop):Prop:=match x with
 | .s x=>U7 x λx=>k (.s x)
 | .own t e sz gs=>y9 t λt=>k (.own t e sz gs)
 | .bad=>k .bad
def PQ:List CV->(List CV->Prop)->Prop
 | [],k=>k []
 | x::l,k=>Lz x λx=>PQ l λl=>k (x::l)
def LA (x:RV)(k:RV->Prop):Prop:=match x with
 | .c x=>Lz x λx=>k (.c x)
 | .agg cs=>PQ cs λcs=>k (.agg cs)
def PS:List RV->(List RV->Prop)->Prop
 | [],k=>k []
 | x::l,k=>LA x λx=>PS l λl=>k (x::l)
def LB (a:AV)(k:AV->Prop):Prop:=match a with
 | .r x=>LA x λx=>k (.r x)
 | .ptr o off=>y9 o λo=>y9 off λoff=>k (.ptr o off)
 | .fS t g off=>k (.fS t g off)
 | .iC l=>PS l λl=>k (.iC l)
 | .skip=>k .skip
 | .bad=>k .bad
def acz (v:ae)(k:ae->Prop):Prop:=match v with
 | .int kd n=>k (.int kd n)
 | .bool b=>k (.bool b)
 | .string s=>k (.string s)
 | .slice a n c=>k (.slice a n c)
 | v=>k v
def U8 (x:SV)(k:SV->Prop):Prop:=match x with
 | .sc v=>acz v λv=>k (.sc v)
 | .row sz gs=>k (.row sz gs)
 | .lk x=>k (.lk x)
 | .sub sz gs=>k (.sub sz gs)
def PU (x:CV)(k:CV->Prop):Prop:=match x with
 | .s x=>U8 x λx=>k (.s x)
 | .own t e sz gs=>y9 t λt=>k (.own t e sz gs)
 | .bad=>k .bad
def PV:List CV->(List CV->Prop)->Prop
 | [],k=>k []
 | x::l,k=>PU x λx=>PV l λl=>k (x::l)
def PW:List (Nat×aI×List CV)->(List (Nat×aI×List CV)->Prop)->Prop
 | [],k=>k []
 | (v,e,cs)::l,k=>y9 v λv=>PV cs λcs=>PW l λl=>k ((v,e,cs)::l)
def U9 (st:TS)(k:TS->Prop):Prop:=match st with
 | ⟨n,l⟩=>y9 n λn=>PW l λl=>k ⟨n,l⟩
theorem HJ{n:Nat}{k:Nat->Prop}:y9 n k=k n:=by cases n<;>rfl
theorem aj1{v:ae}{k:ae->Prop}:fcV v k=k v:=by
 cases v with
 | bool b=>cases b<;>rfl
 | _=>rfl
theorem aj2{x:SV}{k:SV->Prop}:U7 x k=k x:=by
 cases x with
 | sc v=>simp only[U7,aj1]
 | row=>rfl
 | lk=>rfl
 | sub=>rfl
theorem acA{x:CV}{k:CV->Prop}:Lz x k=k x:=by
 cases x with
 | s x=>simp only[Lz,aj2]
 | own=>simp only[Lz,HJ]
 | bad=>rfl
theorem acB : ∀ {l:List CV} {k:List CV->Prop},PQ l k=k l
 | [],_=>rfl
 | x::l,k=>by simp only[PQ,acA,acB]
theorem acC{x:RV}{k:RV->Prop}:LA x k=k x:=by
 cases x with
 | c x=>simp only[LA,acA]
 | agg cs=>simp only[LA,acB]
theorem acD : ∀ {l:List RV} {k:List RV->Prop},PS l k=k l
 | [],_=>rfl
 | x::l,k=>by simp only[PS,acC,acD]
theorem aj3{a:AV}{k:AV->Prop}:LB a k=k a:=by
 cases a with
 | r x=>simp only[LB,acC]
 | ptr o off=>simp only[LB,HJ]
 | iC l=>simp only[LB,acD]
 | _=>rfl
theorem aj4{v:ae}{k:ae->Prop}:acz v k=k v:=by cases v<;>rfl
theorem aj5{x:SV}{k:SV->Prop}:U8 x k=k x:=by
 cases x with
 | sc v=>simp only[U8,aj4]
 | row=>rfl
 | lk=>rfl
 | sub=>rfl
theorem aj6{x:CV}{k:CV->Prop}:PU x k=k x:=by
 cases x with
 | s x=>simp only[PU,aj5]
 | own=>simp only[PU,HJ]
 | bad=>rfl
theorem acE : ∀ {l:List CV} {k:List CV->Prop},PV l k=k l
 | [],_=>rfl
 | x::l,k=>by simp only[PV,aj6,acE]
theorem acF : ∀ {l:List (Nat×aI×List CV)} {k:List (Nat×aI×List CV)->Prop},PW l k=k l
 | [],_=>rfl
 | (v,e,cs)::l,k=>by simp only[PW,HJ,acE,acF]
theorem aj7{st:TS}{k:TS->Prop}:U9 st k=k st:=by
 obtain⟨n,l⟩:=st;simp only[U9,HJ,acF]
def A9 (Z:TP)(T:cw)(X:dz)(D:TD)(op:gB)(fr:aO)(st:TS)(k:AV->aO->TS->Prop)(R:ae->Prop):Prop:=CW Z T X D op fr st (λa f s=>LB a λa=>U9 s λs=>k a f s) R
theorem U'{Z:TP}{T:cw}{X:dz}{D:TD}{op:gB}{fr:aO}{st:TS}{k:AV->aO->TS->Prop}{R:ae->Prop}:A9 Z T X D op fr st k R=CW Z T X D op fr st k R:=by
 unfold A9;congr 1
 funext a f s
 rw[aj3,aj7]
def PY:List Rec->(List Rec->Prop)->Prop
 | [],k=>k []
 | ⟨d,o,off,v⟩::l,k=>y9 o λo=>y9 off λoff=>y9 v λv=>PY l λl=>k (⟨d,o,off,v⟩::l)
theorem PZ : ∀ {l:List Rec} {k:List Rec->Prop},PY l k=k l
 | [],_=>rfl
 | ⟨d,o,off,v⟩::l,k=>by simp only[PY,HJ,PZ]
def Va (c b:Bool):Bool:=match b with
 | true=>c
 | false=> !c
def Ba (fr:aO)(g:Option (Nat×Bool))(a no:Prop):Prop:=match g with
 | none=>a
 | some (s,b)=>match fr s with
   | .r (.c (.s (.sc (.bool c))))=>A6 (Va c b) a no
   | .skip=>no
   | _=>False
def CX (Z:TP)(T:cw)(X:dz)(D:TD)(R:ae->Prop):List Item->aO->TS->(aO->TS->Prop)->Prop
 | [],fr,st,k=>k fr st
 | it::r,fr,st,k=>Ba fr it.guard (A9 Z T X D it.op fr st (λa am bM=>CX Z T X D R r (qJ am it.dst a) bM k) R) (CX Z T X D R r (qJ fr it.dst .skip) st k)
def P0 (fr:aO)(st:TS)(d:Nat)(x:av):List Rec:=match eJ fr x with
 | .ptr o off=>match st.ax[o]? with
   | some (v,_,_)=> [⟨d,o,off,v⟩]
   | none=> []
 | _=> []
def Vb(fr:aO)(st:TS)(it:Item):List Rec:=match it.op,it.dst with
 | .l (.ld x),some d=>P0 fr st d x
 | .l (.kZ _ x),some d=>P0 fr st d x
 | _,_=> []
def LC:List Item->aO->TS->Prop
 | [],_,_=>True
 | it::r,fr,st=>Ba fr it.guard (match it.op with
   | .p x=>y8 fr (λa=>LC r (qJ fr it.dst a) st) x
   | .l x=>tW (yU fr st x) λa=>LC r (qJ fr it.dst a) st
   | _=>False) (LC r (qJ fr it.dst .skip) st)
def aj8 (q:Option (List Item))(fr:aO)(st:TS)(R:ae->Prop):ae->Prop:=match q with
 | some Zl=>λv=>LC Zl fr st/\R v
 | none=>λ_=>False
def P3 (q:Option (List Item))(op:gB):Option (List Item):=match qD op with
 | true=>q
 | false=>none
def P4 (b:Bool)(s:TS)(l:List TS):List TS:=match b with
 | true=>s::l
 | false=>l
def CY (Z:TP)(T:cw)(X:dz)(D:TD)(R:ae->Prop):Option (List Item)->List Item->aO->TS->(aO->TS->List TS->List Rec->Prop)->Prop
 | _,[],fr,st,k=>k fr st [] []
 | q,it::r,fr,st,k=>Ba fr it.guard (A9 Z T X D it.op fr st (λa am bM=>PY (Vb fr st it) λrc=>CY Z T X D R (P3 q it.op) r (qJ am it.dst a) bM λf s l c=>k f s (P4 (bT it.op) bM l) (rc++c)) (aj8 q fr st R))
    (CY Z T X D R (P3 q it.op) r (qJ fr it.dst .skip) st λf s l c=>k f s (P4 (bT it.op) st l) c)
def HK:gB->Option av
 | .l (.ld x)=>some x
 | .l (.kZ _ x)=>some x
 | _=>none
def LD(d:Nat):List Rec->Option Rec
 | []=>none
 | r::c=>match tA r.d d with
   | true=>some r
   | false=>LD d c
theorem acG{d:Nat}{rc:Rec} : ∀ {c:List Rec},LD d c=some rc->rc∈c/\rc.d=d
 | [],h=>by cases h
 | r::c,h=>by
   simp only[LD] at h;split at h;·rename_i hb;cases h;exact⟨Sm,Aa hb⟩
   obtain⟨h1,h2⟩:=acG h;exact⟨by simp[h1],h2⟩
def acH (s:TS)(o v:Nat):Bool:=match s.ax[o]? with
 | some (v',_,_)=>tA v' v
 | none=>false
def Vc (a:AV)(r:Option Rec)(s:TS):Bool:=match a,r with
 | .ptr o off,some r=>tA r.o o&&(tA r.off off&&acH s o r.mR)
 | _,_=>false
def Vd (d:Nat):List Item->Nat
 | []=>0
 | it::r=>match it.dst with
   | some e=>match tA e d with
     | true=>Vd d r+1
     | false=>Vd d r
   | none=>Vd d r
def HL (fr:aO)(S:List TS)(c:List Rec)(af:List Item)(p:Item×Nat)(k:Prop):Prop:=match S[p.2]? with
 | none=>False
 | some s=>Ba fr p.1.guard
   (match HK p.1.op,p.1.dst with
     | some x,some d=>af.filter (λi=>decide (i.dst=some d))= [p.1]/\match Vc (eJ fr x) (LD d c) s with
       | true=>k
       | false=>False
     | _,_=>False) k
def CZ (fr:aO)(S:List TS)(c:List Rec)(af:List Item)(k:Prop):List (Item×Nat)->Prop
 | []=>k
 | p::r=>HL fr S c af p (CZ fr S c af k r)
variable {T:cw} {X:dz} {Z:TP} {D:TD} {K0 K K' rO:CH} {sp:Option Nat} {W0:Nat->Prop} {st bB vd bM:TS} {fr am:aO} {aN:Fr} {E E' ve:TE}
theorem P5(h:TR Z K0 sp W0 K st fr aN E){g:Option (Nat×Bool)}{a no:Prop}(hg:Ba fr g a no):(eG aN g=some true/\a)\/(eG aN g=some false/\no):=by
 unfold Ba at hg;split at hg;·exact .inl ⟨rfl,hg⟩
 rename_i s b;have d:=h.jh s;split at hg
 ·rename_i c e;have:=uZ d (by rw[e];rfl);unfold A6 at hg;split at hg
  ·rename_i hc;refine .inl ⟨?_,hg⟩;cases b<;>cases c<;>first | (simp only[eG,this];rfl) | (simp[Va] at hc)
  rename_i hc;refine .inr ⟨?_,hg⟩;cases b<;>cases c<;>first | (simp only[eG,this];rfl) | (simp[Va] at hc)
 ·rename_i e;rw[e] at d;cases hv:aN s with
  | _=>rw[hv] at d;cases d;try exact .inr ⟨by simp only[eG,hv],hg⟩
 exact hg.elim
theorem TR.put(h:TR Z K0 sp W0 K st fr aN E){d:Option Nat}{a:AV}{v:ae}(ha:cp K E a v):TR Z K0 sp W0 K st (qJ fr d a) (bO aN d v) E:=⟨h.nx,h.dk,h.tS,h.hid,h.wr,h.sig,h.inj,h.sr,h.eW,h.sS,h.ax,λt=>by
 cases d with
 | none=>exact h.jh t
 | some d=>
   rw[Ly];show cp K E (if t=d then a else fr t) (if t=d then v else aN t);split;·exact ha
   exact h.jh t⟩
theorem acI{a:AV}{v:ae}(h:cp K E a v){t z:Option Nat}{gs:List (List SV)}(b:a.rowOf=some (t,z,gs)):gs.length<=maxLen:=by
 rcases ET h b with ⟨rfl,_⟩ | ⟨h1,_⟩
 ·exact bR _
 exact h1.2
theorem acJ(b : ∀t,cp K E (fr t) (aN t)){k:AV->Prop}{x:dY}(h:y8 fr k x) : ∃a,rN fr x=some a/\k a:=by
 unfold y8 at h;split at h
 ·rename_i x i sz;split at h;·rename_i t z gs kk j d l;obtain⟨h1,n,g,rfl,h2,h3⟩:=h;refine⟨_,?_,h3⟩;simp only[rN,d,l];rw[iP ⟨h1,Om⟩,Int.toNat_natCast,h2];rfl
  exact h.elim
 ·rename_i x;have hx:=jE b x;split at h;·rename_i sz gs e;rw[e] at hx;exact⟨iS gs.length,by simp only[rN,e];rfl,h (acI (t:=none) (z:=some sz) hx rfl)⟩
  ·rename_i t e' sz gs e;rw[e] at hx;exact⟨iS gs.length,by simp only[rN,e];rfl,h (acI (t:=some t) (z:=some sz) hx rfl)⟩
  ·rename_i sz gs e;rw[e] at hx;refine⟨iS gs.length,by simp only[rN,e];rfl,h ?_⟩;generalize aJ aN x=w at hx;cases hx with | r hx=>cases hx with | c hx=>cases hx with | s hx=>
   cases hx with
   | yT=>exact bR _
   | sub aB=>exact aB.2
  unfold tW at h;split at h;·rename_i a e;exact⟨a,by simp only[rN];exact e,h⟩
  exact h.elim
 unfold tW at h;split at h;·rename_i a e;exact⟨a,e,h⟩
 exact h.elim
theorem aj9{k:AV->aO->TS->Prop}{x:iW}(h:A8 fr st k x) : ∃a am bM,yW fr st x=some (a,am,bM)/\k a am bM:=by
 unfold A8 at h;split at h
 ·rename_i e sz bytes s x;split at h
  ·rename_i o gs t z hs c d;split at h;·rename_i b g;obtain⟨⟨h1,h2⟩,h3⟩:=h;rw[U5] at h3;refine⟨_,_,_,?_,h3⟩;simp only[yW,c,d];simp only[fV] at b;rw[iP ⟨ajZ b.1,aj0 g,h1,h2,b.2⟩]
   exact h.elim
  exact h.elim
 unfold CU at h;split at h;·rename_i a am bM e;exact⟨a,am,bM,e,h⟩
 exact h.elim
theorem acK(o:y0 T D)(h:TR Z K0 sp W0 K st fr aN E){op:gB}{k:AV->aO->TS->Prop}{R:ae->Prop}(hk:A9 Z T X D op fr st k R):WxO T X aN K op (λv j=>∃a am bM b,TR Z K0 sp W0 j bM am aN b/\cp j b a v/\gQ K st E j bM b/\k a am bM) (PX K0 sp W0 R):=by
 rw[U'] at hk;cases op with
 | p x=>
   left;rw[aao];obtain⟨a,e,hk⟩:=acJ h.jh (k:=λa=>k a fr st) hk;obtain⟨v,c,d⟩:=acg h.jh e;exact⟨v,c,a,fr,st,E,h,d,gQ.refl,hk⟩
 | l x=>
   left;rw[TM];simp only[CW,tW] at hk;split at hk;·rename_i a e;obtain⟨v,c,d⟩:=PG h e;exact⟨v,c,a,fr,st,E,h,d,gQ.refl,hk⟩
   exact hk.elim
 | a x=>
   left;rw[aap];obtain⟨a,am,bM,e,hk⟩:=ajY hk;obtain⟨cs,e,kd,mk,b,c,d,m,n⟩:=ajS h e;exact⟨cs,e,kd,mk,c,a,am,bM,b,d,m,n,hk⟩
 | w x=>
   left;rw[aaq];obtain⟨a,am,bM,e,hk⟩:=aj9 hk;obtain⟨v,j,b,c,d,m,n⟩:=ajT h e;exact⟨v,j,c,a,am,bM,b,d,m,n,hk⟩
 | call f args=>
   simp only[CW,PP] at hk;split at hk;·rename_i q;left;rw[aar];exact ajV o h q hk
   rcases ajX h hk with g | g
   ·left;rw[aar];exact g
   exact .inr ⟨f,args,rfl,g⟩
 | pg g args=>exact hk.elim
theorem AY.mono{af:List Item}{fr:Fr}{H:CH}{K K':Fr->CH->Prop}{R:ae->CH->Prop}(h:AY T X af fr H K R)(hk : ∀f H,K f H->K' f H):AY T X af fr H K' R:=by
 rcases h with ⟨n,f,H',h1,h2⟩ | h
 ·exact .inl ⟨n,f,H',h1,hk _ _ h2⟩
 exact .inr h
theorem Ve(b:y0 T D){R:ae->Prop} : ∀ {af:List Item} {K:CH} {st:TS} {fr:aO} {aN:Fr} {E:TE} {k:aO->TS->Prop},TR Z K0 sp W0 K st fr aN E->CX Z T X D R af fr st k->AY T X af aN K (λp7 K'=>∃fr' bB E',TR Z K0 sp W0 K' bB fr' p7 E'/\gQ K st E K' bB E'/\k fr' bB) (PX K0 sp W0 R)
 | [],K,st,fr,aN,E,k,h,hk=> .inl (di.2 ⟨fr,st,E,h,gQ.refl,hk⟩)
 | it::r,K,st,fr,aN,E,k,h,hk=>by
   obtain⟨d,op,g⟩:=it;rcases P5 h hk with ⟨q,hk⟩ | ⟨q,hk⟩
   ·refine ajv q ?_;rcases acK b h hk with ⟨n,v,c,e,a,am,bM,l,t1,t2,t3,t4⟩ | hp
    ·left;refine⟨n,v,c,e,?_⟩;exact(Ve b (af:=r) (t1.put (d:=d) t2) t4).mono λj K' ⟨fr',bB,E',z2,z3,z4⟩=>⟨fr',bB,E',z2,t3.trans z3,z4⟩
    exact .inr hp
   refine ajw q ?_;exact(Ve b (af:=r) (h.put (d:=d) (a:= .skip) (v:=kg) .skip) hk).mono λj K' ⟨fr',bB,E',z2,z3,z4⟩=>⟨fr',bB,E',z2,z3,z4⟩
def HM (op:gB)(ob:dD)(off:Nat):Option ae:=match op,ob with
 | .l (.ld _), .cells cs _ _=>cs[off]?
 | .l (.kZ n _), .cells cs _ _=>if off+n<=cs.length then some (.agg ((cs.drop off).take n).toArray) else none
 | _,_=>none
theorem acL{op:gB}{x:av}(hx:HK op=some x){ev:av->ae}{b off:Nat}(hv:ev x= .pointer (some ⟨b,off,none⟩)){G:CH} : ∃y,op= .l y/\aD G ev y=HM op (G.ob b) off:=by
 unfold HK at hx;split at hx
 ·cases hx;refine⟨_,rfl,?_⟩;simp only[aD,hv,HM];cases G.ob b<;>rfl
 ·cases hx;refine⟨_,rfl,?_⟩;simp only[aD,hv,HM];cases G.ob b<;>rfl
 cases hx
structure acM(st:TS)(E':TE)(af:List Item)(p7:Fr)(L:List (CH×TS))(r:Rec):Prop where
 h : ∃b x it ob,it∈af/\it.dst=some r.d/\HK it.op=some x/\E'.ρ r.o=some b/\(∀v e cs,st.ax[r.o]? = some (v,e,cs)->v<=r.mR)/\(∀HN,af.filter (λi=>decide (i.dst=some r.d))= [HN]->HM it.op ob r.off=some (p7 r.d))/\∀p∈L,∀e cs,p.2.ax[r.o]? = some (r.mR,e,cs)->p.1.ob b=ob
theorem P6 : ∀ {af:List Item} {fr:aO} {aN:Fr},TR Z K0 sp W0 K st fr aN E->LC af fr st->∃n r,dP (dH T n) af aN K=some r
 | [],fr,aN,h,hk=>⟨0,_,rfl⟩
 | it::r,fr,aN,h,hk=>by
   obtain⟨d,op,g⟩:=it;rcases P5 h hk with ⟨q,hk⟩ | ⟨q,hk⟩
   ·simp only at hk;cases op with
    | p x=>
      obtain⟨a,e,hk⟩:=acJ h.jh hk;obtain⟨v,j,k⟩:=acg h.jh e;obtain⟨n,b,c⟩:=P6 (af:=r) (h.put (d:=d) k) hk;exact⟨n,b,by simp only[dP,cX,q,eA,j,dC];exact c⟩
    | l x=>
      simp only[tW] at hk;split at hk;·rename_i a e;obtain⟨v,j,k⟩:=PG h e;obtain⟨n,b,c⟩:=P6 (af:=r) (h.put (d:=d) k) hk;exact⟨n,b,by simp only[dP,cX,q,eA,j,dC];exact c⟩
      exact hk.elim
    | _=>exact hk.elim
   obtain⟨n,b,c⟩:=P6 (af:=r) (h.put (d:=d) (a:= .skip) (v:=kg) .skip) hk;exact⟨n,b,by simp only[dP,cX,q];exact c⟩
theorem Vf(hD:y0 T D){R:ae->Prop} : ∀ {pq:Option (List Item)} {af:List Item} {K:CH} {st:TS} {fr:aO} {aN:Fr} {E:TE} {k:aO->TS->List TS->List Rec->Prop},TR Z K0 sp W0 K st fr aN E->CY Z T X D R pq af fr st k->(∃n v H',pq.isSome=true/\Le T X n pq af aN K v H'/\PX K0 sp W0 R v H')\/Cv T af aN K λp7 K' L=>∃fr' bB E' P C,TR Z K0 sp W0 K' bB fr' p7 E'/\gQ K st E K' bB E'/\k fr' bB (P.map Prod.snd) C/\L=P.map Prod.fst/\(∀p∈P,∃H,gQ K st E p.1 p.2 H)/\(∀r∈C,acM st E' af p7 ((K,st)::P) r)/\∀t,(∀i∈af,i.dst≠some t)->p7 t=aN t
 | pq,[],K,st,fr,aN,E,k,h,hk=> .inr <| aat.2 ⟨fr,st,E,[],[],h,gQ.refl,hk,rfl,(λ_ q=>(by cases q)),(λ_ q=>(by cases q)),λ_ _=>rfl⟩
 | pq,it::r,K,st,fr,aN,E,k,h,hk=>by
   obtain⟨d,op,g⟩:=it;have N : ∀ {p7:Fr} {v:ae},(∀t,(∀i∈r,i.dst≠some t)->p7 t=bO aN d v t)->∀t,(∀i∈(⟨d,op,g⟩:Item)::r,i.dst≠some t)->p7 t=aN t:=λ{p7 v} hq t ht=>by
    rw[hq t λi hi=>ht i (by simp[hi])];have:=ht ⟨d,op,g⟩ Sm;cases d with
    | none=>rfl
    | some d=>exact iN λe=>this (by rw[e])
   rcases P5 h hk with ⟨q,hk⟩ | ⟨q,hk⟩
   ·rcases acK hD h hk with ⟨n,v,I,w1,a,am,bM,E1,t1,t2,t3,t4⟩ | ⟨f,args,A,n,v,H',c,j⟩
    rotate_left
    ·cases pq with
     | some Zl=>exact .inl ⟨n,v,H',rfl,aca q A (λZl' e=>by cases e;exact P6 h j.2.2.1) c,j.1,j.2.1,j.2.2.2⟩
     | none=>exact j.2.2.elim
    rw[PZ] at t4;rcases Vf hD (af:=r) (t1.put (d:=d) t2) t4 with ⟨m,u,H',B,c,j⟩ | hr
    ·unfold P3 at B c;split at B;·rename_i O;rw[O] at c;exact .inl ⟨m,u,H',B,Px (m:=n) (by simp only[cX,q,w1];rfl) (λ_ _=>O) c,j⟩
     cases B
    right;rw[OQ];simp only[q];refine⟨n,v,I,w1,?_⟩;obtain⟨n',J,K',L,z1,fr',bB,E',P,C,z2,z3,z4,z5,z6,z7,z8⟩:=hr;have hP : ∃s:List (CH×TS),P4 (bT op) bM (P.map Prod.snd)=s.map Prod.snd/\(if bT op=true then I::L else L)=s.map Prod.fst/\∀p∈s,p=(I,bM)\/p∈P:=by
     by_cases hw:bT op=true
     ·exact⟨(I,bM)::P,by rw[hw];rfl,by rw[iP hw,z5];rfl,λp hp=>by simpa using hp⟩
     exact⟨P,by rw[Bool.not_eq_true] at hw;rw[hw];rfl,by rw[iN hw,z5],λp hp=> .inr hp⟩
    obtain⟨s,c,j,S⟩:=hP;have U : ∀p∈s,∃H,gQ K st E p.1 p.2 H:=λp hp=>by
     rcases S p hp with rfl | hp
     ·exact⟨E1,t3⟩
     obtain⟨H,V⟩:=z6 p hp;exact⟨H,t3.trans V⟩
    refine⟨n',J,K',L,z1,fr',bB,E',s,Vb fr st ⟨d,op,g⟩++C,z2,t3.trans z3,by rw[<-c];exact z4,j,U,λrc p8=> ?_,N z8⟩;rcases List.mem_append.1 p8 with p8 | p8
    ·
     have key : ∀x w,HK op=some x->d=some w->rc∈P0 fr st w x->acM st E' (⟨d,op,g⟩::r) J ((K,st)::s) rc:=λx w hx hd M=>by
      subst hd;unfold P0 at M;split at M
      ·rename_i o off he;split at M
       ·rename_i mR ty cs ho;obtain rfl:=List.mem_singleton.1 M;have hr:=jE h.jh x;rw[he] at hr;obtain⟨b,hb,hv⟩:=hr.A0;refine⟨b,x,⟨some w,op,g⟩,K.ob b,Sm,rfl,hx,z3.eW o b (t3.eW o b hb),λv' e' cs' q=>by rw[ho] at q;cases q;exact ai _,λHN z=> ?_,λp hp e' cs' q=> ?_⟩
        ·have Y:r.filter (λi=>decide (i.dst=some w))= []:=by
          rw[af5 Sm] at z;exact(List.cons.inj z).2
         have hcf:J w=v:=by
          rw[z8 w λi hi e=>by
           have:i∈r.filter (λi=>decide (i.dst=some w)):=List.mem_filter.2 ⟨hi,by simpa using e⟩;rw[Y] at this;cases this]
          exact iP rfl
         show HM op (K.ob b) off=some (J w);rw[hcf];obtain⟨y,rfl,hy⟩:=acL hx hv (G:=K);obtain⟨_,w2⟩:=(TM (K:=λv' K'=>v'=v)).1 ⟨n,v,I,w1,rfl⟩;rw[<-hy];rw[w2.2] at w2;exact w2.1
        rcases List.mem_cons.1 hp with rfl | hp
        ·rfl
        obtain⟨H,V⟩:=U p hp;obtain⟨v2,sT,g1,g2,g3⟩:=V.mR o _ _ _ ho;rw[g1] at q;cases q;exact g3 rfl b hb
       cases M
      cases M
     unfold Vb at p8;split at p8;·rename_i x w A e2;have A:op= .l (.ld x):=A;exact key x w (by rw[A];rfl) e2 p8
     ·rename_i m x w A e2;have A:op= .l (.kZ m x):=A;exact key x w (by rw[A];rfl) e2 p8
     cases p8
    
    obtain⟨b,x,it,ob,r1,r2,r3,r4,r5,r6,F⟩:=(z7 rc p8).h;have hle : ∀v e cs,st.ax[rc.o]? = some (v,e,cs)->v<=rc.mR:=λv e cs q=>by
     obtain⟨v2,sT,g1,g2,g3⟩:=t3.mR _ _ _ _ q;exact cy g2 (r5 _ _ _ g1)
    refine⟨b,x,it,ob,by simp[r1],r2,r3,r4,hle,λHN z=> ?_,λp hp e' cs' q=> ?_⟩
    ·by_cases hd:d=some rc.d
     ·rw[af5 (by simpa using hd)] at z;have Y:=(List.cons.inj z).2;have:it∈r.filter (λi=>decide (i.dst=some rc.d)):=List.mem_filter.2 ⟨r1,by simpa using r2⟩;rw[Y] at this;cases this
     rw[List.filter_cons_of_neg (by simpa using hd)] at z;exact r6 HN z
    rcases List.mem_cons.1 hp with rfl | hp
    ·obtain⟨v2,sT,g1,g2,g3⟩:=t3.mR _ _ _ _ q;have:=r5 _ _ _ g1;have P7:v2=rc.mR:=by omega
     subst P7;have V:=F (I,bM) Sm _ _ g1;obtain⟨bb,os,h1,h2,h3⟩:=h.ax _ _ _ _ q;have:bb=b:=by
      have:=z3.eW _ _ (t3.eW _ _ h1);rw[r4] at this;cases this;rfl
     subst this;exact(g3 rfl bb h1).symm.trans V
    rcases S p hp with rfl | hp
    ·exact F _ Sm e' cs' q
    exact F p (by simp[hp]) e' cs' q
   ·rcases Vf hD (af:=r) (h.put (d:=d) (a:= .skip) (v:=kg) .skip) hk with ⟨m,u,H',B,c,j⟩ | hr
    ·unfold P3 at B c;split at B;·rename_i O;rw[O] at c;exact .inl ⟨m,u,H',B,Px (m:=0) (by simp only[cX,q]) (λ_ _=>O) c,j⟩
     cases B
    right;rw[OQ];simp only[q];obtain⟨n',J,K',L,z1,fr',bB,E',P,C,z2,z3,z4,z5,z6,z7,z8⟩:=hr;have hP : ∃s:List (CH×TS),P4 (bT op) st (P.map Prod.snd)=s.map Prod.snd/\(if bT op=true then K::L else L)=s.map Prod.fst/\∀p∈s,p=(K,st)\/p∈P:=by
     by_cases hw:bT op=true
     ·exact⟨(K,st)::P,by rw[hw];rfl,by rw[iP hw,z5];rfl,λp hp=>by simpa using hp⟩
     exact⟨P,by rw[Bool.not_eq_true] at hw;rw[hw];rfl,by rw[iN hw,z5],λp hp=> .inr hp⟩
    obtain⟨s,c,j,S⟩:=hP;refine⟨n',J,K',L,z1,fr',bB,E',s,C,z2,z3,by rw[<-c];exact z4,j,λp hp=> ?_,λrc p8=> ?_,N z8⟩
    ·rcases S p hp with rfl | hp
     ·exact⟨E,gQ.refl⟩
     exact z6 p hp
    obtain⟨b,x,it,ob,r1,r2,r3,r4,r5,r6,F⟩:=(z7 rc p8).h;refine⟨b,x,it,ob,by simp[r1],r2,r3,r4,r5,λHN z=> ?_,λp hp e' cs' q=> ?_⟩
    ·by_cases hd:d=some rc.d
     ·rw[af5 (by simpa using hd)] at z;have Y:=(List.cons.inj z).2;have:it∈r.filter (λi=>decide (i.dst=some rc.d)):=List.mem_filter.2 ⟨r1,by simpa using r2⟩;rw[Y] at this;cases this
     rw[List.filter_cons_of_neg (by simpa using hd)] at z;exact r6 HN z
    rcases List.mem_cons.1 hp with rfl | hp
    ·exact F _ Sm e' cs' q
    rcases S p hp with rfl | hp
    ·exact F _ Sm e' cs' q
    exact F p (by simp[hp]) e' cs' q
structure rP(st:TS)(E:TE)(bB:TS)(E':TE):Prop where
 hid : ∀b,E.hid b->E'.hid b
 eW : ∀o b,E.ρ o=some b->E'.ρ o=some b
 P8 : ∀(o v:Nat) (e:aI) (cs:List CV),st.ax[o]? = some (v,e,cs)->∃v' cs',bB.ax[o]? = some (v',e,cs')
theorem rP.refl:rP st E st E:=⟨λ_ h=>h,λ_ _ h=>h,λo v e cs h=>⟨v,cs,h⟩⟩
theorem rP.trans(h:rP st E bB E')(g:rP bB E' vd ve):rP st E vd ve:=⟨λb q=>g.hid b (h.hid b q),λo b q=>g.eW o b (h.eW o b q),λo v e cs q=>by
 obtain⟨a,c,d⟩:=h.P8 o v e cs q;exact g.P8 o a e c d⟩
theorem gQ.w(h:gQ K st E K' bB E'):rP st E bB E':=⟨h.hid,h.eW,λo v e cs q=>by
 obtain⟨a,b,c,_⟩:=h.mR o v e cs q;exact⟨a,b,c⟩⟩
def oO:List Nat->Nat->Option Nat
 | [],_=>none
 | a::l,t=>match tA a t with
   | true=>some 0
   | false=>match oO l t with
     | some j=>some (j+1)
     | none=>none
theorem Vg : ∀ {l:List Nat} {t j:Nat},oO l t=some j->l[j]? = some t
 | [],t,j,h=>by cases h
 | a::l,t,j,h=>by
   simp only[oO] at h;split at h;·rename_i hb;cases h;rw[Aa hb];rfl
   split at h;·rename_i b h';cases h;simpa using Vg h'
   cases h
def CV.cut(l:List Nat):CV->CV
 | .own t e sz gs=>match oO l t with
   | some j=> .own j e sz gs
   | none=> .s (uY sz gs)
 | x=>x
def RV.cut(l:List Nat):RV->RV
 | .c x=> .c (x.cut l)
 | .agg cs=> .agg (cs.map (CV.cut l))
def LF (o k:Nat)(a b:AV):AV:=match Nat.ble k o with
 | true=>b
 | false=>a
def AV.cut(k:Nat)(l:List Nat):AV->AV
 | .r x=> .r (x.cut l)
 | .ptr o off=>LF o k (.ptr o off) .bad
 | .fS (some t) g off=>match oO l t with
   | some j=> .fS (some j) g off
   | none=> .fS none g off
 | .fS none g off=> .fS none g off
 | .iC xs=> .iC (xs.map (RV.cut l))
 | .skip=> .skip
 | .bad=> .bad
def aO.cut(k:Nat)(l:List Nat)(fr:aO):aO:=λt=>(fr t).cut k l
def TS.cut(k:Nat)(l:List Nat)(st:TS):TS:=⟨l.length,(st.ax.take k).map λ(_,e,cs)=>(0,e,cs.map (CV.cut l))⟩
def TE.cut(k:Nat)(l:List Nat)(E:TE):TE:=⟨λj=>(l[j]?).bind E.σ,λo=>if o<k then E.ρ o else none,E.hid⟩
theorem TE.EZ{k:Nat}{l:List Nat}{j b:Nat}(h:(E.cut k l).σ j=some b) : ∃t,l[j]? = some t/\E.σ t=some b:=by
 have h:(l[j]?).bind E.σ=some b:=h;cases a:l[j]? with
 | none=>rw[a] at h;cases h
 | some t=>rw[a] at h;exact⟨t,rfl,h⟩
theorem TE.E3{k:Nat}{l:List Nat}{o b:Nat}(h:(E.cut k l).ρ o=some b):o<k/\E.ρ o=some b:=by
 have h:(if o<k then E.ρ o else none)=some b:=h;split at h;·rename_i hk;exact⟨hk,h⟩
 cases h
theorem E4{k:Nat}{l:List Nat}{b:Nat}(h:ei K E b):ei K (E.cut k l) b:=⟨h.1,h.2.1,λj q=>by
 obtain⟨t,_,a⟩:=TE.EZ q;exact h.2.2.1 t a,λo q=>h.2.2.2 o (TE.E3 q).2⟩
structure LH(K:CH)(E:TE):Prop where
 hid : ∀t b,E.σ t=some b->b<K.nx/\¬E.hid b
 inj : ∀t t' b,E.σ t=some b->E.σ t'=some b->t=t'
 sr : ∀t o b,E.σ t=some b->E.ρ o≠some b
theorem acP : ∀ {l:List Nat} {t j:Nat},oO l t=none->l[j]? ≠some t
 | [],t,j,h,g=>by simp at g
 | a::l,t,j,h,g=>by
   simp only[oO] at h;split at h;·cases h
   rename_i hb;split at h;·cases h
   rename_i hp;cases j with
   | zero=>
     simp at g;subst g;have:=Nat.beq_refl a;rw[hb] at this;cases this
   | succ j=>exact acP (j:=j) hp (by simpa using g)
theorem acQ{k:Nat}{l:List Nat}{t b:Nat}(h:LH K E)(hb:E.σ t=some b)(hp:oO l t=none):ei K (E.cut k l) b:=⟨(h.hid t b hb).1,(h.hid t b hb).2,λj q=>by
 obtain⟨t',a,c⟩:=TE.EZ q;have:=h.inj t t' b hb c;subst this;exact acP hp a,λo q=>h.sr t o b hb (TE.E3 q).2⟩
theorem fT.cut(hs:LH K E){k:Nat}{l:List Nat}{x:CV}{v:ae}(h:fT K E x v):fT K (E.cut k l) (x.cut l) v:=by
 cases h with
 | s h=>exact .s (h.mv λb hb=>⟨E4 hb,rfl⟩)
 | @wF t sz e=>
   show fT K _ (match oO l t with | some j=> .own j e sz [] | none=> .s (uY sz [])) _;split;·exact .wF
   exact .s .qI
 | @own t b sz os e kd gs aB hb ho hk hg hv ht=>
   show fT K _ (match oO l t with | some j=> .own j e sz gs | none=> .s (uY sz gs)) _;split;·rename_i j a;refine .own aB ?_ ho hk hg (hv.mv λb hb=>⟨E4 hb,rfl⟩) ht;show(l[j]?).bind E.σ=some b;rw[Vg a];exact hb
   rename_i hp;exact .s (.row aB (acQ hs hb hp) ho hk hg (hv.mv λb hb=>⟨E4 hb,rfl⟩) ht)
 | bad h=>exact .bad h
theorem pz.cut(hs:LH K E){k:Nat}{l:List Nat}{x:RV}{v:ae}(h:pz K E x v):pz K (E.cut k l) (x.cut l) v:=by
 cases h with
 | c h=>exact .c (h.cut hs)
 | agg h=>exact .agg (h.map λ_ _ q=>q.cut hs)
theorem cp.cut(hg:LH K E){k:Nat}{l:List Nat}{x:AV}{v:ae}(h:cp K E x v):cp K (E.cut k l) (x.cut k l) v:=by
 cases h with
 | r h=>exact .r (h.cut hg)
 | @ptr o off b h=>
   show cp K _ (LF o k (.ptr o off) .bad) _;unfold LF;split;·exact .bad
   rename_i hk;refine .ptr ?_;show(if o<k then E.ρ o else none)=some b;rw[iP (by
    rcases B9 o k with g | g
    ·exact g
    rw[Nat.ble_eq_true_of_le g] at hk;cases hk)]
   exact h
 | @fS t g off b base os e kd hb ho hl hs=>
   cases t with
   | none=>exact .fS (t:=none) (E4 hb) ho hl (hs.mono λ_ _ q=>q.mv λb hb=>⟨E4 hb,rfl⟩)
   | some t=>
     show cp K _ (match oO l t with | some j=> .fS (some j) g off | none=> .fS none g off) _;split;·rename_i j a;refine .fS (t:=some j) ?_ ho hl (hs.mono λ_ _ q=>q.mv λb hb=>⟨E4 hb,rfl⟩);show(l[j]?).bind E.σ=some b;rw[Vg a];exact hb
     rename_i hp;exact .fS (t:=none) (acQ hg hb hp) ho hl (hs.mono λ_ _ q=>q.mv λb hb=>⟨E4 hb,rfl⟩)
 | iC h=>exact .iC (h.map λ_ _ q=>q.cut hg)
 | skip=>exact .skip
 | bad=>exact .bad
def wI:List Nat->Bool
 | []=>true
 | a::l=>match oO l a with
   | some _=>false
   | none=>wI l
theorem Vh : ∀ {l:List Nat} {t j:Nat},l[j]? = some t->∃i,oO l t=some i
 | [],t,j,h=>by simp at h
 | a::l,t,j,h=>by
   simp only[oO];cases hb:tA a t with
   | true=>exact⟨0,rfl⟩
   | false=>
     cases j with
     | zero=>
       simp at h;subst h;have:=Nat.beq_refl a;rw[hb] at this;cases this
     | succ j=>
       obtain⟨i,hi⟩:=Vh (l:=l) (t:=t) (j:=j) (by simpa using h);exact⟨i+1,by simp only[hi]⟩
theorem acR : ∀ {l:List Nat},wI l=true->∀ {i j t:Nat},l[i]? = some t->l[j]? = some t->i=j
 | [],_,i,j,t,h,_=>by simp at h
 | a::l,hn,i,j,t,h,g=>by
   simp only[wI] at hn;split at hn;·cases hn
   rename_i hp;cases i with
   | zero=>
     cases j with
     | zero=>rfl
     | succ j=>
       simp at h g;subst h;obtain⟨i,hi⟩:=Vh g;rw[hp] at hi;cases hi
   | succ i=>
     cases j with
     | zero=>
       simp at h g;subst g;obtain⟨i,hi⟩:=Vh h;rw[hp] at hi;cases hi
     | succ j=>exact congrArg (· + 1) (acR hn (i:=i) (j:=j) (t:=t) (by simpa using h) (by simpa using g))
theorem P9{l:List Nat} : ∀ {cs:List CV},fy (cs.map (CV.cut l))=fy cs
 | []=>rfl
 | x::cs=>by
   rw[c8,EV,EV (x:=x),P9];congr 1
   cases x with
   | s y=>rfl
   | bad=>rfl
   | own t e sz gs=>
     show fy [match oO l t with | some j=>CV.own j e sz gs | none=> .s (uY sz gs)]= [];cases oO l t<;>rfl
theorem acS{l:List Nat} : ∀ {cs:List CV} {vs:List ae},ko (cs.map (CV.cut l)) vs=ko cs vs
 | [],vs=>rfl
 | x::cs,[]=>by
   cases x with
   | s y=>cases y<;>rfl
   | bad=>rfl
   | own t e sz gs=>
     rw[c8];show ko ((match oO l t with | some j=>CV.own j e sz gs | none=> .s (uY sz gs))::_) []= [];cases oO l t<;>rfl
 | x::cs,v::vs=>by
   rw[c8,A4,A4 (x:=x),acS];congr 1
   cases x with
   | s y=>rfl
   | bad=>rfl
   | own t e sz gs=>
     show ko [match oO l t with | some j=>CV.own j e sz gs | none=> .s (uY sz gs)] [v]= [];cases oO l t<;>rfl
theorem TR.cut{k:Nat}{l:List Nat}(h:TR Z K0 sp W0 K st fr aN E)(hl:wI l=true):TR Z K0 sp W0 K (st.cut k l) (fr.cut k l) aN (E.cut k l):=by
 have hg:LH K E:=⟨λt b q=>⟨(h.sig t b q).2.1,λhh=>(h.hid b hh).2.1 t q⟩,h.inj,h.sr⟩;refine⟨h.nx,h.dk,h.tS,λb hb=> ?_,?_,λj b q=> ?_,λj A b q m=> ?_,λj o b q m=> ?_,λo b q=> ?_,λo o' b q m=> ?_,λo v e cs q=> ?_,λt=>(h.jh t).cut hg⟩
 ·obtain⟨c,d,w⟩:=h.hid b hb;exact⟨c,λt q=>by
   obtain⟨t',_,a⟩:=TE.EZ q;exact d t' a,λo q=>w o (TE.E3 q).2⟩
 ·obtain⟨W,x,n⟩:=h.wr;cases k with
  | zero=>exact⟨λ_=>False,λ_ h=>h.elim,λ_ h=>h⟩
  | succ k=>
    refine⟨W,x,?_⟩;show JR Z ((st.ax.take (k+1)).map λ(_,e,cs)=>((0:Nat),e,cs.map (CV.cut l))) K (E.ρ 0) W;match st.ax,n with
    | [],n=>exact n
    | (v,e,cs)::r,n=>
      rcases n with ⟨g,g2⟩ | ⟨g,p,os,g1,g2,g3,g4⟩
      ·exact .inl ⟨P9.trans g,g2⟩
      exact .inr ⟨by rw[P9];exact g,p,os,g1,g2,by rw[eR];exact g3,by rw[P9,acS];exact g4⟩
 ·obtain⟨t,s,a⟩:=TE.EZ q;obtain⟨c,d,_⟩:=h.sig t b a;exact⟨c,d,(List.getElem?_eq_some_iff.1 s).1⟩
 ·obtain⟨t,s,a⟩:=TE.EZ q;obtain⟨t',z,r2⟩:=TE.EZ m;have:=h.inj t t' b a r2;subst this;exact acR hl s z
 ·obtain⟨t,s,a⟩:=TE.EZ q;exact h.sr t o b a (TE.E3 m).2
 ·obtain⟨s,a⟩:=TE.E3 q;obtain⟨c,d,w⟩:=h.eW o b a;refine⟨c,d,?_⟩;show o<((st.ax.take k).map _).length;rw[eR,kW];omega
 ·exact h.sS o o' b (TE.E3 q).2 (TE.E3 m).2
 have q:((st.ax.take k).map λ(_,e,cs)=>((0:Nat),e,cs.map (CV.cut l)))[o]? = some (v,e,cs):=q;rw[ka] at q;cases u:(st.ax.take k)[o]? with
 | none=>rw[u] at q;cases q
 | some y=>
   rw[u] at q;obtain⟨B,C,F⟩:=y;cases q;have hk:o<k:=by
    have:=(List.getElem?_eq_some_iff.1 u).1;rw[kW] at this;omega
   rw[sA hk] at u;obtain⟨b,os,c,d,w⟩:=h.ax o _ _ _ u;exact⟨b,os,by show(if o<k then E.ρ o else none)=some b;rw[iP hk];exact c,d,w.map λ_ _ q=>q.cut hg⟩
theorem rP.cut{l:List Nat}{E0:TE}{bU:TS}(h:rP bU E0 st E)(a : ∀o b,E0.ρ o=some b->o<bU.ax.length):rP bU E0 (st.cut bU.ax.length l) (E.cut bU.ax.length l):=⟨h.hid,λo b q=>by
 show(if o<bU.ax.length then E.ρ o else none)=some b;rw[iP (a o b q)];exact h.eW o b q,λo v e cs q=>by
 have ho:=(List.getElem?_eq_some_iff.1 q).1;obtain⟨v',cs',c⟩:=h.P8 o v e cs q;refine⟨0,cs'.map (CV.cut l),?_⟩;show((st.ax.take bU.ax.length).map λ(_,e,cs)=>((0:Nat),e,cs.map (CV.cut l)))[o]? = _;rw[ka,sA ho,c];rfl⟩
def HP(a:AV)(b no:Prop):Prop:=match a with
 | .r (.c (.s (.sc (.bool t))))=>A6 t b no
 | _=>False
def aj' (k:aO->TS->Prop)(Q:bp->aO->TS->Prop):bp->aO->TS->Prop:=λx fr st=>match x with
 | .normal=>k fr st
 | x=>Q x fr st
def HQ(i id:Nat)(a b:Prop):Prop:=match tA i id with
 | true=>a
 | false=>b
def aka(id:Nat)(Q:bp->aO->TS->Prop):bp->aO->TS->Prop:=λx fr st=>match x with
 | .exit i=>HQ i id (Q .normal fr st) (Q (.exit i) fr st)
 | x=>Q x fr st
def Bb(k:Nat)(I:Nat->aO->TS->Prop)(n:Nat)(Q:bp->aO->TS->Prop):bp->aO->TS->Prop:=λx fr st=>match x with
 | .normal=>∃m l,m<n/\wI l=true/\I m (fr.cut k l) (st.cut k l)
 | x=>Q x fr st
def lJ (Z:TP)(T:cw)(X:dz)(D:TD)(R:ae->Prop):bQ->aO->TS->(bp->aO->TS->Prop)->Prop
 | .skip,fr,st,Q=>Q .normal fr st
 | .mI af,fr,st,Q=>CX Z T X D R af fr st (Q .normal)
 | .mJ d,fr,st,Q=>CY Z T X D R d.yG d.af fr st λf s l c=>CZ f (st::l) c d.af (Q .normal f s) d.nB
 | .seq a b,fr,st,Q=>lJ Z T X D R a fr st (aj' (λf s=>lJ Z T X D R b f s Q) Q)
 | .cond c a b,fr,st,Q=>HP (eJ fr c) (lJ Z T X D R a fr st Q) (lJ Z T X D R b fr st Q)
 | .block id c,fr,st,Q=>lJ Z T X D R c fr st (aka id Q)
 | .loop c,fr,st,Q=>∃(I:Nat->aO->TS->Prop) (n:Nat) (l:List Nat),wI l=true/\I n (fr.cut st.ax.length l) (st.cut st.ax.length l)/\∀n f s,I n f s->lJ Z T X D R c f s (Bb st.ax.length I n Q)
 | .exit id,fr,st,Q=>Q (.exit id) fr st
 | .ret,fr,st,Q=>Q .ret fr st
 | _,_,_,_=>False
theorem akb{α β:Type}{P:List (α×β)}{i:Nat}{s:β}(h:(P.map Prod.snd)[i]? = some s) : ∃G,P[i]? = some (G,s)/\(P.map Prod.fst)[i]? = some G:=by
 rw[ka] at h;cases hp:P[i]? with
 | none=>rw[hp] at h;cases h
 | some q=>
   rw[hp] at h;obtain⟨a,b⟩:=q;cases h;exact⟨a,rfl,by rw[ka,hp];rfl⟩
theorem Vi(h:TR Z K0 sp W0 K st fr aN E){S:List TS}{c:List Rec}{af:List Item}{k:Prop} : ∀ {L:List (Item×Nat)},CZ fr S c af k L->k/\∀p∈L,∃s,S[p.2]? = some s/\(eG aN p.1.guard=some false\/∃x d,HK p.1.op=some x/\p.1.dst=some d/\af.filter (λi=>decide (i.dst=some d))= [p.1]/\Vc (eJ fr x) (LD d c) s=true)
 | [],hk=>⟨hk,λ_ q=>(by cases q)⟩
 | p::L,hk=>by
   have hk:HL fr S c af p (CZ fr S c af k L):=hk;unfold HL at hk;split at hk;·exact hk.elim
   rename_i s hs;rcases P5 h hk with ⟨_,hk⟩ | ⟨q,hk⟩
   ·split at hk
    ·rename_i x d b e;obtain⟨h1,h2⟩:=hk;split at h2
     ·rename_i hb;obtain⟨g1,g2⟩:=Vi h h2;refine⟨g1,λa hp=> ?_⟩;rcases List.mem_cons.1 hp with rfl | hp
      ·exact⟨s,hs, .inr ⟨x,d,b,e,h1,hb⟩⟩
      exact g2 a hp
     exact h2.elim
    exact hk.elim
   obtain⟨g1,g2⟩:=Vi h hk;refine⟨g1,λa hp=> ?_⟩;rcases List.mem_cons.1 hp with rfl | hp
   ·exact⟨s,hs, .inl q⟩
   exact g2 a hp
theorem akc(Y:y0 T D){R:ae->Prop} : ∀ {c:bQ} {K:CH} {st:TS} {fr:aO} {aN:Fr} {E:TE} {Q:bp->aO->TS->Prop},TR Z K0 sp W0 K st fr aN E->lJ Z T X D R c fr st Q->oM T X c aN K (λx p7 K'=>∃fr' bB E',TR Z K0 sp W0 K' bB fr' p7 E'/\rP st E bB E'/\Q x fr' bB) (PX K0 sp W0 R):=by
 intro c;induction c with
 | skip=>intro K st fr aN E Q h hk;exact .inl ⟨0,_,_,_,rfl,fr,st,E,h,rP.refl,hk⟩
 | mI af=>
   intro K st fr aN E Q h hk;exact ajx ((Ve Y h hk).mono λf H ⟨fr',bB,E',t1,t2,t3⟩=>⟨fr',bB,E',t1,t2.w,t3⟩)
 | mJ d=>
   intro K st fr aN E Q h hk;rcases Vf Y h hk with ⟨n,v,H',hd,⟨A,k,Rr,f,args,am,H1,e,h2,h3,h4,h5,h6⟩,p2⟩ | hr
   ·obtain⟨Zl,hd⟩:=Option.isSome_iff_exists.1 hd;exact .inr ⟨n,v,H', .mJ e hd (h2 Zl hd).1 h3 (h2 Zl hd).2 h4 h5 h6,p2⟩
   left;rw[TN];obtain⟨n',f',K',L,z1,fr',bB,E',P,C,z2,z3,z4,z5,z6,z7,z8⟩:=hr;obtain⟨F,z4⟩:=Vi z2 z4;refine⟨n',f',K',L,z1,λp hp=> ?_,fr',bB,E',z2,z3.w,F⟩;obtain⟨s,e3,hc⟩:=z4 p hp;rcases hc with q | ⟨x,d',e1,e2,c1,j⟩
   rotate_left
   ·obtain⟨G,g1,g2⟩:=akb (P:=(K,st)::P) (i:=p.2) (s:=s) e3;refine⟨G,by rw[z5];exact g2, .inr ?_⟩;unfold Vc at j;split at j
    ·rename_i o off rc e4 e5;simp only[fV] at j;have h1:=Aa j.1;have h2:=Aa j.2.1;have h3:=j.2.2;obtain⟨p8,J⟩:=acG e5;obtain⟨b,x',it,ob,r1,r2,r3,r4,r5,r6,r7⟩:=(z7 rc p8).h;have hit:it=p.1:=by
      have:it∈d.af.filter (λi=>decide (i.dst=some d')):=List.mem_filter.2 ⟨r1,by rw[<-J];simpa using r2⟩;rw[c1] at this;exact List.mem_singleton.1 this
     subst hit;rw[r3] at e1;cases e1;have hr:=jE z2.jh x;rw[e4] at hr;obtain⟨M,N,hv⟩:=hr.A0;have:M=b:=by rw[<-h1] at N;rw[r4] at N;cases N;rfl
     subst this;obtain⟨y,xB,AU⟩:=acL r3 hv (G:=G);refine⟨y,d',xB,e2,?_⟩;have O : ∃e cs,s.ax[rc.o]? = some (rc.mR,e,cs):=by
      unfold acH at h3;rw[h1];split at h3;·rename_i v e cs hs;exact⟨e,cs,by rw[hs,Aa h3]⟩
      cases h3
     obtain⟨e,cs,O⟩:=O;have:=r7 (G,s) (List.mem_of_getElem? g1) e cs O;rw[AU];show HM p.1.op (G.ob M) off=_;rw[show G.ob M=ob from this,<-h2,<-J];exact r6 p.1 (by rw[J];exact c1)
    cases j
   have hl:p.2<(K::L).length:=by
    rw[z5];have:=(List.getElem?_eq_some_iff.1 e3).1;simpa using this
   exact⟨_,cj hl, .inl q⟩
 | seq a b S U=>
   intro K st fr aN E Q h hk;refine ajy ((S h hk).mono (λx f K' ⟨fr',bB,E',t1,t2,t3⟩=> ?_) λ_ _ h=>h);cases x with
   | normal=>
     refine(U t1 t3).mono (λx f K' ⟨B,vd,ve,r,s2,z⟩=>⟨B,vd,ve,r,t2.trans s2,z⟩) λ_ _ h=>h
   | exit i=>exact⟨fr',bB,E',t1,t2,t3⟩
   | ret=>exact⟨fr',bB,E',t1,t2,t3⟩
 | cond c a b S U=>
   intro K st fr aN E Q h hk;have hk:HP (eJ fr c) (lJ Z T X D R a fr st Q) (lJ Z T X D R b fr st Q):=hk;unfold HP at hk;split at hk
   ·rename_i t e;have hc:=uZ (jE h.jh c) (u:= .bool t) (by rw[e];rfl);unfold A6 at hk;split at hk;·exact ajz hc (S h hk)
    exact ajA hc (U h hk)
   exact hk.elim
 | block id c V=>
   intro K st fr aN E Q h hk;refine ajB ((V h hk).mono (λx f K' ⟨fr',bB,E',t1,t2,t3⟩=> ?_) λ_ _ h=>h);cases x with
   | normal=>exact⟨fr',bB,E',t1,t2,t3⟩
   | ret=>exact⟨fr',bB,E',t1,t2,t3⟩
   | exit i=>
     show if i=id then _ else _
     have t3:HQ i id (Q .normal fr' bB) (Q (.exit i) fr' bB):=t3;unfold HQ at t3;split at t3;·rename_i hi;rw[iP (Aa hi)];exact⟨fr',bB,E',t1,t2,t3⟩
     rename_i hi;rw[iN (af4 hi)];exact⟨fr',bB,E',t1,t2,t3⟩
 | loop c V=>
   intro K st fr aN E Q h hk;obtain⟨I,n,l0,wv,h0,hs⟩:=hk;have hr : ∀o b,E.ρ o=some b->o<st.ax.length:=λo b q=>(h.eW o b q).2.2;refine ajD (λn p7 K'=>∃fr' bB E',TR Z K0 sp W0 K' bB fr' p7 E'/\rP st E bB E'/\I n fr' bB) (λm p7 K' ⟨fr',bB,E',t1,t2,t3⟩=> ?_) (n:=n) ⟨_,_,_,h.cut wv,rP.refl.cut hr,h0⟩;refine(V t1 (hs m fr' bB t3)).mono (λx f rO ⟨B,vd,ve,r,s2,z⟩=> ?_) λ_ _ h=>h;cases x with
   | normal=>
     obtain⟨m',l,k1,k2,k3⟩:=z;exact⟨m',k1,_,_,_,r.cut k2,(t2.trans s2).cut hr,k3⟩
   | exit i=>exact⟨B,vd,ve,r,t2.trans s2,z⟩
   | ret=>exact⟨B,vd,ve,r,t2.trans s2,z⟩
 | exit id=>intro K st fr aN E Q h hk;exact .inl ⟨0,_,_,_,rfl,fr,st,E,h,rP.refl,hk⟩
 | ret=>intro K st fr aN E Q h hk;exact .inl ⟨0,_,_,_,rfl,fr,st,E,h,rP.refl,hk⟩
 | sN g key=>intro K st fr aN E Q h hk;exact hk.elim
 | bad=>intro K st fr aN E Q h hk;exact hk.elim
end
section
open Go Go.RowKit
def RV.of:AV->Option RV
 | .r x=>x.fz
 | _=>none
def Vk(fr:aO)(st:TS):pm->Option RV
 | .tmp t=>RV.of (fr t)
 | .ld t=>(yU fr st (.ld (.tmp t))).bind RV.of
 | .kZ n t=>(yU fr st (.kZ n (.tmp t))).bind RV.of
def LI(fr:aO)(st:TS):List pm->Option (List RV)
 | []=>some []
 | r::rs=>match Vk fr st r,LI fr st rs with
   | some x,some xs=>some (x::xs)
   | _,_=>none
def E5:List RV->AV
 | [x]=> .r x
 | l=> .iC l
def Vl(self:Self)(st:TS):Option (List SV):=match self with
 | none=>some []
 | some _=>match st.ax[0]? with
   | some (_,_,cs)=>u9 cs
   | none=>none
def LJ (res:List pm)(self:Self)(Q:AV->List SV->Prop):bp->aO->TS->Prop:=λx fr st=>match x with
 | .exit _=>False
 | _=>match LI fr st res,Vl self st with
   | some l,some a=>Q (E5 l) a
   | _,_=>False
def bU:Self->TS
 | none=>⟨0,[]⟩
 | some (e,a)=>⟨0,[(0,e,a.map .s)]⟩
variable {T:cw} {X:dz} {Z:TP} {D:TD} {K0 K K' rO:CH} {sp:Option Nat} {W0:Nat->Prop} {st bB vd bM:TS} {fr am:aO} {aN:Fr} {E E' ve:TE}
theorem acT : ∀ {a:List AV} {vs:List ae},R2 (cp K E) a vs->∀t,cp K E (a.getD t .bad) (vs.getD t undef)
 | _,_, .nil,t=> .bad
 | _,_, .cons h _,0=>h
 | _,_, .cons _ h,t+1=>by simpa using acT h t
theorem TR.start{e:Option Nat}{hid W:Nat->Prop}{self:Self}{args:List AV}{vs:List ae}(h1 : ∀b,hid b->b<K.nx/\sp≠some b)(l : ∀b,W b->hid b)(h2 : ∀b,Z.N b->b<K.nx/\sp≠some b/\¬W b/\K.ob b=Z.M b)(h3:R2 (cp K (E0 sp hid)) args vs)(h4:CS K (E0 sp hid) sp self)(h5:SJ Z K sp W self):TR Z K sp W K (bU self) (λt=>args.getD t .bad) (λt=>vs.getD t undef) (E0 sp hid):=by
 have c : ∀o b,(if o=0 then sp else none)=some b->o=0/\sp=some b:=λo b q=>by
  split at q;·rename_i e;exact⟨e,q⟩
  cases q
 have m : ∀b,sp=some b->∃e a os,self=some (e,a)/\b<K.nx/\K.ob b= .cells os e .ex/\R2 (fk K (ei K (E0 sp hid))) a os:=λb hb=>by
  match self,h4 with
  | none,h4=>rw[show sp=none from h4] at hb;cases hb
  | some (e,a),⟨p,os,d,j,g,h⟩=>rw[d] at hb;cases hb;exact⟨e,a,os,rfl,j,g,h⟩
 refine⟨ai _,λ_ _ _ _=>rfl,h2,λb hb=>⟨(h1 b hb).1,(λ_ q=>(by cases q)),λo q=>(h1 b hb).2 (c o b q).2⟩,⟨W,λb hb=>⟨l b hb, .inl hb⟩,by
  match self,h5 with
  | none,h5=>exact h5
  | some (e,a),h5=>exact h5⟩,(λ_ _ q=>(by cases q)),(λ_ _ _ q=>(by cases q)),(λ_ _ _ q=>(by cases q)),λo b q=> ?_,λo o' b q n=> ?_,λo v e cs q=> ?_,acT h3⟩
 ·obtain⟨rfl,k⟩:=c o b q;obtain⟨e,a,os,rfl,g1,g2,g3⟩:=m b k;exact⟨g1, .inr k,Nat.zero_lt_one⟩
 ·rw[(c o b q).1,(c o' b n).1]
 match self,h4,q with
 | none,_,q=>simp[bU] at q
 | some (e',a),⟨p,os,d,j,g,h⟩,q=>
   cases o with
   | zero=>
     cases q;exact⟨p,os,d,g,h.map λ_ _ q=> .s q⟩
   | succ o=>simp[bU] at q
theorem Vm{a:AV}{v:ae}(h:cp K E a v){y:RV}(c:RV.of a=some y)(h1 : ∀b,ei K E b->ei K' E' b/\K'.ob b=K.ob b)(h2 : ∀t b,E.σ t=some b->ei K' E' b/\K'.ob b=K.ob b):pz K' E' y v:=by
 cases h with
 | r h=>exact acv h c h1 λt b _ q=>h2 t b q
 | _=>cases c
theorem acU(h:TR Z K0 sp W0 K st fr aN E)(h1 : ∀b,ei K E b->ei K E' b/\K.ob b=K.ob b)(h2 : ∀t b,E.σ t=some b->ei K E' b/\K.ob b=K.ob b) : ∀ {res:List pm} {l:List RV},LI fr st res=some l->∃vs,cY aN K res=some vs/\R2 (pz K E') l vs
 | [],l,q=>by cases q;exact⟨[],rfl, .nil⟩
 | r::rs,l,q=>by
   simp only[LI] at q;split at q
   ·rename_i x xs c d;cases q;obtain⟨vs,e,g⟩:=acU h h1 h2 d;have : ∃v,fQ aN K r=some v/\pz K E' x v:=by
     cases r with
     | tmp t=>exact⟨_,rfl,Vm (h.jh t) c h1 h2⟩
     | ld t=>
       simp only[Vk] at c;cases hl:yU fr st (.ld (.tmp t)) with
       | none=>rw[hl] at c;cases c
       | some a=>
         rw[hl] at c;obtain⟨v,g1,g2⟩:=PG h hl;exact⟨v,g1,Vm g2 c h1 h2⟩
     | kZ n t=>
       simp only[Vk] at c;cases hl:yU fr st (.kZ n (.tmp t)) with
       | none=>rw[hl] at c;cases c
       | some a=>
         rw[hl] at c;obtain⟨v,g1,g2⟩:=PG h hl;exact⟨v,g1,Vm g2 c h1 h2⟩
    obtain⟨v,g1,g2⟩:=this;exact⟨v::vs,by simp only[cY,g1,e], .cons g2 g⟩
   cases q
theorem acV(U:y0 T D){R:ae->Prop}{f:aS}{rf:yI}(he:T.ext f=false)(V:T.fn f=some rf){args:List AV}{self:Self}{Q:AV->List SV->Prop}(hk:lJ Z T X D R rf.body (λt=>args.getD t .bad) (bU self) (LJ rf.res self Q)):TC Z T X f args self Q R:=by
 intro K sp hid W vs h1 Y h2 h3 h4 h5;have t0:=TR.start (e:=none) h1 Y h2 h3 h4 h5;refine aju he V ((akc U t0 hk).mono (λx p7 K' ⟨fr',bB,E',t1,t2,t3⟩=> ?_) λ_ _ h=>h);have hx : ∃l c,LI fr' bB rf.res=some l/\Vl self bB=some c/\Q (E5 l) c:=by
  unfold LJ at t3;split at t3;·exact t3.elim
  split at t3;·rename_i l c z d;exact⟨l,c,z,d,t3⟩
  exact t3.elim
 obtain⟨l,c,z,d,F⟩:=hx;have u : ∀b,sp=some b->E'.ρ 0=some b/\b<K.nx:=λb hb=>by
  refine⟨t2.eW 0 b (by show(if 0=0 then sp else none)=some b;rw[iP rfl,hb]),?_⟩;match self,h4 with
  | none,h4=>rw[show sp=none from h4] at hb;cases hb
  | some (e,G),⟨p,os,g,j,H,k4⟩=>rw[g] at hb;cases hb;exact j
 have I : ∀o b,(E0 sp hid).ρ o=some b->sp=some b:=λo b q=>by
  have q:(if o=0 then sp else none)=some b:=q;split at q;·exact q
  cases q
 have f1 : ∀b,ei K' E' b->ei K' (E0 sp E'.hid) b/\K'.ob b=K'.ob b:=λb hb=>⟨⟨hb.1,hb.2.1,(λ_ q=>(by cases q)),λo q=>hb.2.2.2 0 (u b (I o b q)).1⟩,rfl⟩;have f2 : ∀t b,E'.σ t=some b->ei K' (E0 sp E'.hid) b/\K'.ob b=K'.ob b:=λt b hb=>by
  obtain⟨g,j,H⟩:=t1.sig t b hb;exact⟨⟨j,λhh=>(t1.hid b hh).2.1 t hb,(λ_ q=>(by cases q)),λo q=>t1.sr t 0 b hb (u b (I o b q)).1⟩,rfl⟩
 obtain⟨J,g1,g2⟩:=acU t1 f1 f2 z;have L:KL (cY p7 K' rf.res) (λv K'=>K.nx<=K'.nx/\(∀b,b<K.nx->sp≠some b->¬W b->K'.ob b=K.ob b)/\∃lI W' a c,HW K K' sp hid W lI W'/\cp K' (E0 sp lI) a v/\a.clean/\CS K' (E0 sp lI) sp (self.map λp=>(p.1,c))/\SJ Z K' sp W' (self.map λp=>(p.1,c))/\Q a c) K':=by
  rw[g1,EJ];obtain⟨M,w1,w⟩:=t1.wr;have k : ∀b,hid b->E'.hid b:=λb hb=>t2.hid b hb;have m : ∀b,E'.hid b->b<K'.nx:=λb hb=>(t1.hid b hb).1;have N:cp K' (E0 sp E'.hid) (E5 l) (dU J):=by
   match l,J,g2 with
   | [],_, .nil=>exact .iC (vs:= []) .nil
   | [x],_, .cons h .nil=>exact .r h
   | x::y::l,_, .cons h (.cons h' t)=>exact .iC (.cons h (.cons h' t))
  have O:(E5 l).clean:=by
   unfold E5;split<;>exact trivial
  match self,h4,d,t2 with
  | none,h4,_,_=>exact⟨t1.nx,t1.dk,E'.hid,λ_=>False,E5 l,c,⟨k,m,λ_ h=>h.elim⟩,N,O,h4,λ_ h=>h,F⟩
  | some (e,G),⟨p,os,g,j,H,k4⟩,d,t2=>
    obtain⟨v',cs',n⟩:=t2.P8 0 0 e (G.map .s) rfl;obtain⟨b,A,S,r2,r3⟩:=t1.ax 0 v' e cs' n;rw[(u p g).1] at S;cases S;simp only[Vl,n] at d;obtain⟨B,U4⟩:=U1 d;refine⟨t1.nx,t1.dk,E'.hid,M,E5 l,c,⟨k,m,w1⟩,N,O,⟨p,A,g,cQ j t1.nx,r2,Lq f1 r3 d λt b _ q=>f2 t b q⟩,?_,F⟩;show JR Z [(0,e,c.map .s)] K' sp M;rw[(u p g).1] at w;rw[g];match aW:bB.ax,w,n with
    | (v2,e2',sT)::r,w,n=>
      cases n;rcases w with ⟨C,a2⟩ | ⟨C,p',l9,a2,a3,a4,a5⟩
      ·exact .inl ⟨B.trans C,a2⟩
      exact .inr ⟨by rw[B];exact C,p',l9,a2,a3,by rw[a4,<-U0 d,eR],by rw[B,U4];exact a5⟩
 cases x with
 | normal=>exact L
 | ret=>exact L
 | exit i=>unfold LJ at t3;exact t3.elim
theorem dm{P:Program}{L:List aS}{G:aS->List ae->Option ae}(a:y0 (bF P L G) D){R:ae->Prop}{f:Nat}(he:L.elem f=false)(h:(oA P (λN ops=>lX P N ops) f).isSome=true){args:List AV}{self:Self}{Q:AV->List SV->Prop}(k:lJ Z (bF P L G) X D R (rF P f).body (λt=>args.getD t .bad) (bU self) (LJ (rF P f).res self Q)):TC Z (bF P L G) X f args self Q R:=by
 refine acV a he ?_ k;unfold rF;show oA P (λN ops=>lX P N ops) f=some ((oA P (λN ops=>lX P N ops) f).getD ⟨0,[], .skip⟩);cases b:oA P (λN ops=>lX P N ops) f with
 | none=>rw[b] at h;cases h
 | some r=>rfl
def Self.open:Self->Bool
 | none=>true
 | some (_,a)=>(fy (a.map .s)).isEmpty
theorem akd{R:ae->Prop}{f:aS}{args:List AV}{self:Self}{Q:AV->List SV->Prop}(hs:self.open=true)(h : ∀(K:CH) (sp:Option Nat) (hid:Nat->Prop) (vs:List ae),(∀b,hid b->b<K.nx/\sp≠some b)->(∀b,Z.N b->b<K.nx/\sp≠some b/\K.ob b=Z.M b)->R2 (cp K (E0 sp hid)) args vs->CS K (E0 sp hid) sp self->
 EQ T X f vs K (λv K'=>K.nx<=K'.nx/\(∀b,b<K.nx->sp≠some b->K'.ob b=K.ob b)/\∃a s',cp K' (E0 sp hid) a v/\a.clean/\CS K' (E0 sp hid) sp (self.map λp=>(p.1,s'))/\fy (s'.map .s)= []/\Q a s') λv K'=>K.nx<=K'.nx/\(∀b,b<K.nx->sp≠some b->K'.ob b=K.ob b)/\R v):TC Z T X f args self Q R:=by
 intro K sp hid W vs h1 n h2 h3 h4 h5;refine(h K sp hid vs h1 (λb hb=>⟨(h2 b hb).1,(h2 b hb).2.1,(h2 b hb).2.2.2⟩) h3 h4).mono (λv K' ⟨c,d,a,s',g,j,k,l,m⟩=>⟨c,λb hb hp _=>d b hb hp,hid,λ_=>False,a,s',⟨λ_ q=>q,λb q=>cQ (h1 b q).1 c,λ_ q=>q.elim⟩,g,j,k,?_,m⟩) λv K' ⟨c,d,g⟩=>⟨c,λb hb hp _=>d b hb hp,g⟩;match self with
 | none=>exactλ_ q=>q
 | some (e,o)=>exact .inl ⟨l,λ_ q=>q⟩
end
section
open Go Go.RowKit
variable {T:cw} {X:dz} {Z:TP} {D:TD} {R:ae->Prop} {st bM:TS} {fr am:aO}
def CV.mc:CV->Bool
 | .own _ _ _ _=>false
 | _=>true
def allI:List CV->Bool
 | []=>true
 | x::l=>x.mc&&allI l
def RV.mc:RV->Bool
 | .c x=>x.mc
 | .agg cs=>allI cs
def Qc:List RV->Bool
 | []=>true
 | x::l=>x.mc&&Qc l
def AV.mc(k:Nat):AV->Bool
 | .r x=>x.mc
 | .ptr o _=>Nat.blt o k
 | .fS (some _) _ _=>false
 | .iC l=>Qc l
 | _=>true
theorem CV.LK{x:CV}(h:x.mc=true)(g:Nat->SA):x.act g=x:=by cases x<;>first | rfl | cases h
theorem CV.E6{x:CV}(h:x.mc=true)(l:List Nat):x.cut l=x:=by cases x<;>first | rfl | cases h
theorem Vn{f:CV->CV}(a : ∀x,x.mc=true->f x=x) : ∀ {cs:List CV},allI cs=true->cs.map f=cs
 | [],_=>rfl
 | x::cs,h=>by
   simp only[allI,fV] at h;rw[c8,a x h.1,Vn a h.2]
theorem RV.Qd{x:RV}(h:x.mc=true):(∀g,x.act g=x)/\∀l,x.cut l=x:=by
 cases x with
 | c x=>exact⟨λg=>congrArg RV.c (CV.LK h g),λl=>congrArg RV.c (CV.E6 h l)⟩
 | agg cs=>exact⟨λg=>congrArg RV.agg (Vn (λx hx=>CV.LK hx g) h),λl=>congrArg RV.agg (Vn (λx hx=>CV.E6 hx l) h)⟩
theorem Vo{f:RV->RV}(a : ∀x,x.mc=true->f x=x) : ∀ {cs:List RV},Qc cs=true->cs.map f=cs
 | [],_=>rfl
 | x::cs,h=>by
   simp only[Qc,fV] at h;rw[c8,a x h.1,Vo a h.2]
theorem ake{a b:Nat}(h:Nat.blt a b=true):a<b:=by
 have:=DW h;omega
theorem AV.LK{k:Nat}{a:AV}(h:a.mc k=true)(g:Nat->SA):a.act g=a:=by
 cases a with
 | r x=>exact congrArg AV.r ((RV.Qd h).1 g)
 | fS t g off=>cases t<;>first | rfl | cases h
 | iC l=>exact congrArg AV.iC (Vo (λx hx=>(RV.Qd hx).1 g) h)
 | _=>rfl
theorem AV.E6{k k':Nat}{a:AV}(h:a.mc k=true)(hk:k<=k')(l:List Nat):a.cut k' l=a:=by
 cases a with
 | r x=>exact congrArg AV.r ((RV.Qd h).2 l)
 | ptr o off=>
   have ho:=ake h;show LF o k' (.ptr o off) .bad=_;unfold LF;have:Nat.ble k' o=false:=by
    cases hb:Nat.ble k' o with
    | false=>rfl
    | true=>have:=DW hb;omega
   rw[this]
 | fS t g off=>cases t<;>first | rfl | cases h
 | iC l'=>exact congrArg AV.iC (Vo (λx hx=>(RV.Qd hx).2 l) h)
 | _=>rfl
theorem Qe{k t:Nat}{l:List Nat}(h:(fr t).mc k=true):HE l fr t=fr t:=by
 rw[PH];exact AV.LK h _
theorem acW{k t:Nat}{o:Option (Nat×aI×Nat)}(h:(fr t).mc k=true):PF o fr t=fr t:=by
 cases o with
 | none=>rfl
 | some p=>obtain⟨a,b⟩:=p;exact AV.LK h _
theorem Qf{l:List Nat}:(yV l st).ax.length=st.ax.length:=by
 rw[PI];show(st.ax.map _).length=_;rw[eR]
theorem acX{o:Option (Nat×aI×Nat)}:(EU o st).ax.length=st.ax.length:=by
 cases o with
 | none=>rfl
 | some p=>obtain⟨a,b⟩:=p;show(st.ax.map _).length=_;rw[eR]
def Kp (k:Nat)(fr:aO)(st:TS)(am:aO)(bM:TS):Prop:=(∀t,(fr t).mc k=true->am t=fr t)/\st.ax.length<=bM.ax.length
theorem akf{k:Nat}{x:qC}{a:AV}(h:xH fr st x=some (a,am,bM)):Kp k fr st am bM:=by
 cases x with
 | new e z=>
   simp only[xH] at h;cases hz:ER z with
   | none=>rw[hz] at h;cases h
   | some cs=>
     rw[hz] at h;simp only at h;split at h;·cases h;exact⟨λ_ _=>rfl,Sm⟩
     cases h
 | box e x=>
   simp only[xH] at h;cases hz:(eJ fr x).wG with
   | none=>rw[hz] at h;cases h
   | some cs=>
     rw[hz] at h;simp only at h;split at h;·cases h;exact⟨λ_ _=>rfl,Sm⟩
     cases h
 | Ao e sz n z ps=>
   simp only[xH] at h;split at h
   ·split at h
    ·split at h;·cases h;exact⟨λ_ h=>Qe h,by show st.ax.length<=(yV _ st).ax.length;rw[Qf];exact ai _⟩
     cases h
    cases h
   cases h
 | _=>cases h
theorem akg{k:Nat}{x:iW}{a:AV}(h:yW fr st x=some (a,am,bM)):Kp k fr st am bM:=by
 cases x with
 | st n x v=>
   simp only[yW] at h;split at h
   ·split at h
    ·split at h;·cases h;exact⟨λ_ _=>rfl,by show st.ax.length<=(st.ax.set _ _).length;rw[Gs];exact ai _⟩
     cases h
    cases h
   cases h
 | app e sz bytes s x=>
   simp only[yW] at h;split at h
   ·split at h;·cases h;exact⟨λ_ h=>acW h,by show st.ax.length<=(EU _ st).ax.length;rw[acX];exact ai _⟩
    cases h
   cases h
 | _=>cases h
theorem acY{k0:Nat}{op:gB}{k:AV->aO->TS->Prop}(h:A9 Z T X D op fr st k R):A9 Z T X D op fr st (λa am bM=>k a am bM/\Kp k0 fr st am bM) R:=by
 rw[U'] at h⊢;have b:Kp k0 fr st fr st:=⟨λ_ _=>rfl,ai _⟩;cases op with
 | p x=>
   have h:y8 fr (λa=>k a fr st) x:=h;show y8 fr (λa=>k a fr st/\Kp k0 fr st fr st) x;unfold y8 at h⊢;split at h
   ·simp only at h⊢;split at h;·rename_i c d;obtain⟨h1,n,g,h2,h3,h4⟩:=h;exact⟨h1,n,g,h2,h3,h4,b⟩
    exact h.elim
   ·simp only at h⊢;split at h;·exactλq=>⟨h q,b⟩
    ·exactλq=>⟨h q,b⟩
    ·exactλq=>⟨h q,b⟩
    unfold tW at h⊢;split at h;·exact⟨h,b⟩
    exact h.elim
   unfold tW at h⊢;split at h;·exact⟨h,b⟩
   exact h.elim
 | l x=>
   simp only[CW,tW] at h⊢;split at h;·exact⟨h,b⟩
   exact h.elim
 | a x=>
   have h:A7 fr st k x:=h;show A7 fr st (λa am bM=>k a am bM/\Kp k0 fr st am bM) x;unfold A7 at h⊢;split at h
   ·simp only at h⊢;split at h
    ·split at h;·obtain⟨h1,h2⟩:=h;rw[PM] at h2⊢;exact⟨h1,h2,λ_ h=>Qe h,by show st.ax.length<=(yV _ st).ax.length;rw[Qf];exact ai _⟩
     exact h.elim
    exact h.elim
   unfold CU at h⊢;split at h;·rename_i a am bM e;exact⟨h,akf e⟩
   exact h.elim
 | w x=>
   have h:A8 fr st k x:=h;show A8 fr st (λa am bM=>k a am bM/\Kp k0 fr st am bM) x;unfold A8 at h⊢;split at h
   ·simp only at h⊢;split at h
    ·split at h;·obtain⟨h1,h2⟩:=h;rw[U5] at h2⊢;exact⟨h1,h2,λ_ h=>acW h,by show st.ax.length<=(EU _ st).ax.length;rw[acX];exact ai _⟩
     exact h.elim
    exact h.elim
   unfold CU at h⊢;split at h;·rename_i a am bM e;exact⟨h,akg e⟩
   exact h.elim
 | call f args=>
   simp only[CW,PP] at h⊢;split at h
   ·rename_i j;unfold Lu at h⊢;split at h
    ·split at h;·exact⟨h,b⟩
     exact h.elim
    exact h.elim
   rw[UY] at h⊢;unfold Lv at h⊢;split at h;·exact h.elim
   split at h;·exact h.mono (λa s q=>⟨q,λ_ h=>Qe h,by show st.ax.length<=(yV _ st).ax.length;rw[Qf];exact ai _⟩) λ_ h=>h
   split at h
   ·split at h;·exact h.mono (λa s q=>⟨q,λ_ h=>Qe h,by show st.ax.length<=((yV _ st).ax.set _ _).length;rw[Gs,Qf];exact ai _⟩) λ_ h=>h
    exact h.elim
   exact h.elim
 | pg g args=>exact h.elim
def dI (af:List Item)(t:Nat):Bool:=match af with
 | []=>true
 | it::r=>match it.dst with
   | some d=> !(tA d t)&&dI r t
   | none=>dI r t
def qK:bQ->Nat->Bool
 | .mI af,t=>dI af t
 | .mJ d,t=>dI d.af t
 | .seq a b,t=>qK a t&&qK b t
 | .cond _ a b,t=>qK a t&&qK b t
 | .block _ c,t=>qK c t
 | .loop c,t=>qK c t
 | _,_=>true
theorem LM{a:AV}{t:Nat}{it:Item}{r:List Item}(hd:dI (it::r) t=true):qJ fr it.dst a t=fr t/\dI r t=true:=by
 simp only[dI] at hd;split at hd;·rename_i d b;simp only[fV,Bool.not_eq_true'] at hd;rw[b,Ly];exact⟨iN (Ne.symm (af4 hd.1)),hd.2⟩
 rename_i b;rw[b];exact⟨rfl,hd⟩
theorem LN{g:Option (Nat×Bool)}{y n a n':Prop}(h:Ba fr g y n)(b:y->a)(hn:n->n'):Ba fr g a n':=by
 unfold Ba at h⊢;split at h;·exact b h
 split at h
 ·unfold A6 at h⊢;split at h;·exact b h
  exact hn h
 ·exact hn h
 exact h.elim
def xL (k:Nat)(W:Nat->Bool)(fr:aO)(st:TS)(am:aO)(bM:TS):Prop:=(∀t,W t=true->(fr t).mc k=true->am t=fr t)/\st.ax.length<=bM.ax.length
theorem xL.refl{k:Nat}{W:Nat->Bool}:xL k W fr st fr st:=⟨λ_ _ _=>rfl,ai _⟩
theorem xL.trans{k:Nat}{W W' a:Nat->Bool}{bt:aO}{b:TS}(h:xL k W fr st am bM)(g:xL k W' am bM bt b)(c : ∀t,a t=true->W t=true/\W' t=true):xL k a fr st bt b:=⟨λt ht hi=>by
 have h1:=h.1 t (c t ht).1 hi;rw[g.1 t (c t ht).2 (by rw[h1];exact hi),h1],cy h.2 g.2⟩
theorem Kp.put{k:Nat}{it:Item}{r:List Item}{a:AV}(h:Kp k fr st am bM):xL k (λt=>dI (it::r) t) fr st (qJ am it.dst a) bM:=⟨λt ht hi=>by
 rw[(LM (fr:=am) (a:=a) ht).1];exact h.1 t hi,h.2⟩
theorem Qg{op:gB}{k k':AV->aO->TS->Prop}(h:A9 Z T X D op fr st k R)(hk : ∀a f s,k a f s->k' a f s):A9 Z T X D op fr st k' R:=by
 rw[U'] at h⊢
 cases op with
 | p x=>
   have h:y8 fr (λa=>k a fr st) x:=h;show y8 fr (λa=>k' a fr st) x;unfold y8 at h⊢;split at h
   ·simp only at h⊢;split at h;·obtain⟨h1,n,g,h2,h3,h4⟩:=h;exact⟨h1,n,g,h2,h3,hk _ _ _ h4⟩
    exact h.elim
   ·simp only at h⊢;split at h;·exactλq=>hk _ _ _ (h q)
    ·exactλq=>hk _ _ _ (h q)
    ·exactλq=>hk _ _ _ (h q)
    unfold tW at h⊢;split at h;·exact hk _ _ _ h
    exact h.elim
   unfold tW at h⊢;split at h;·exact hk _ _ _ h
   exact h.elim
 | l x=>
   simp only[CW,tW] at h⊢;split at h;·exact hk _ _ _ h
   exact h.elim
 | a x=>
   have h:A7 fr st k x:=h;show A7 fr st k' x;unfold A7 at h⊢;split at h
   ·split at h
    ·split at h;·obtain⟨h1,h2⟩:=h;rw[PM] at h2⊢;exact⟨h1,hk _ _ _ h2⟩
     exact h.elim
    exact h.elim
   unfold CU at h⊢;split at h;·exact hk _ _ _ h
   exact h.elim
 | w x=>
   have h:A8 fr st k x:=h;show A8 fr st k' x;unfold A8 at h⊢;split at h
   ·split at h
    ·split at h;·obtain⟨h1,h2⟩:=h;rw[U5] at h2⊢;exact⟨h1,hk _ _ _ h2⟩
     exact h.elim
    exact h.elim
   unfold CU at h⊢;split at h;·exact hk _ _ _ h
   exact h.elim
 | call f args=>
   simp only[CW,PP] at h⊢;split at h
   ·unfold Lu at h⊢;split at h
    ·split at h;·exact hk _ _ _ h
     exact h.elim
    exact h.elim
   rw[UY] at h⊢;unfold Lv at h⊢;split at h;·exact h.elim
   split at h;·exact h.mono (λa s q=>hk _ _ _ q) λ_ h=>h
   split at h
   ·split at h;·exact h.mono (λa s q=>hk _ _ _ q) λ_ h=>h
    exact h.elim
   exact h.elim
 | pg g args=>exact h.elim
theorem HR : ∀ {af:List Item} {fr:aO} {st:TS} {k k':aO->TS->Prop},CX Z T X D R af fr st k->(∀f s,k f s->k' f s)->CX Z T X D R af fr st k'
 | [],fr,st,k,k',h,hk=>hk _ _ h
 | it::r,fr,st,k,k',h,hk=>LN h (λh=>Qg h λa f s h=>HR h hk) λh=>HR h hk
theorem Vq{k0:Nat} : ∀ {af:List Item} {fr:aO} {st:TS} {k:aO->TS->Prop},CX Z T X D R af fr st k->CX Z T X D R af fr st λf s=>k f s/\xL k0 (dI af) fr st f s
 | [],fr,st,k,h=>⟨h,xL.refl⟩
 | it::r,fr,st,k,h=>by
   refine LN h (λh=> ?_) λh=> ?_
   ·refine Qg (acY (k0:=k0) h) λa f s ⟨h1,h2⟩=> ?_;refine HR (Vq h1) λb c ⟨g1,g2⟩=>⟨g1,(h2.put (it:=it) (r:=r) (a:=a)).trans g2 λt ht=>⟨ht,(LM (fr:=fr) (a:= .bad) ht).2⟩⟩
   refine HR (Vq h) λb c ⟨g1,g2⟩=>⟨g1,(Kp.put (it:=it) (r:=r) (a:= .skip) (k:=k0) (fr:=fr) (st:=st) ⟨λ_ _=>rfl,ai _⟩).trans g2 λt ht=>⟨ht,(LM (fr:=fr) (a:= .bad) ht).2⟩⟩
theorem HT : ∀ {af:List Item} {q:Option (List Item)} {fr:aO} {st:TS} {k k':aO->TS->List TS->List Rec->Prop},CY Z T X D R q af fr st k->(∀f s l c,k f s l c->k' f s l c)->CY Z T X D R q af fr st k'
 | [],q,fr,st,k,k',h,hk=>hk _ _ _ _ h
 | it::r,q,fr,st,k,k',h,hk=>LN h (λh=>Qg h λa f s h=>by
    rw[PZ] at h⊢
    exact HT h λ_ _ _ _ h=>hk _ _ _ _ h) λh=>HT h λ_ _ _ _ h=>hk _ _ _ _ h
theorem Vr{k0:Nat} : ∀ {af:List Item} {q:Option (List Item)} {fr:aO} {st:TS} {k:aO->TS->List TS->List Rec->Prop},CY Z T X D R q af fr st k->CY Z T X D R q af fr st λf s l c=>k f s l c/\xL k0 (dI af) fr st f s
 | [],q,fr,st,k,h=>⟨h,xL.refl⟩
 | it::r,q,fr,st,k,h=>by
   refine LN h (λh=> ?_) λh=> ?_
   ·refine Qg (acY (k0:=k0) h) λa f s ⟨h1,h2⟩=> ?_;rw[PZ] at h1⊢
    refine HT (Vr h1) λb d l c ⟨g1,g2⟩=>⟨g1,(h2.put (it:=it) (r:=r) (a:=a)).trans g2 λt ht=>⟨ht,(LM (fr:=fr) (a:= .bad) ht).2⟩⟩
   refine HT (Vr h) λb d l c ⟨g1,g2⟩=>⟨g1,(Kp.put (it:=it) (r:=r) (a:= .skip) (k:=k0) (fr:=fr) (st:=st) ⟨λ_ _=>rfl,ai _⟩).trans g2 λt ht=>⟨ht,(LM (fr:=fr) (a:= .bad) ht).2⟩⟩
theorem Qh{S:List TS}{c:List Rec}{af:List Item}{k k':Prop}(hk:k->k') : ∀ {L:List (Item×Nat)},CZ fr S c af k L->CZ fr S c af k' L
 | [],h=>hk h
 | p::L,h=>by
   have h:HL fr S c af p (CZ fr S c af k L):=h;show HL fr S c af p (CZ fr S c af k' L);unfold HL at h⊢;split at h;·exact h.elim
   refine LN h (λh=> ?_) (Qh hk);split at h
   ·obtain⟨h1,h2⟩:=h;refine⟨h1,?_⟩;split at h2;·exact Qh hk h2
    exact h2.elim
   exact h.elim
theorem acZ{a:AV}{y n b n':Prop}(h:HP a y n)(c:y->b)(hn:n->n'):HP a b n':=by
 unfold HP at h⊢;split at h
 ·unfold A6 at h⊢;split at h;·exact c h
  exact hn h
 exact h.elim
theorem ac0{k n:Nat}{I a:Nat->aO->TS->Prop}{Q Q':bp->aO->TS->Prop}(c : ∀m f s,I m f s->a m f s)(b : ∀x f s,Q x f s->Q' x f s){x:bp}(h:Bb k I n Q x fr st):Bb k a n Q' x fr st:=by
 cases x with
 | normal=>obtain⟨m,l,h1,h2,h3⟩:=h;exact⟨m,l,h1,h2,c _ _ _ h3⟩
 | exit i=>exact b _ _ _ h
 | ret=>exact b _ _ _ h
theorem ac1{i id:Nat}{a b a' c:Prop}(h:HQ i id a b)(ha:a->a')(hb:b->c):HQ i id a' c:=by
 unfold HQ at h⊢;split at h;·exact ha h
 exact hb h
theorem C0 : ∀ {c:bQ} {fr:aO} {st:TS} {Q Q':bp->aO->TS->Prop},lJ Z T X D R c fr st Q->(∀x f s,Q x f s->Q' x f s)->lJ Z T X D R c fr st Q':=by
 intro c;induction c with
 | skip=>intro fr st Q Q' h e;exact e _ _ _ h
 | mI af=>intro fr st Q Q' h e;exact HR h λf s h=>e _ _ _ h
 | mJ d=>intro fr st Q Q' h e;exact HT h λf s l c h=>Qh (e _ _ _) h
 | seq a b j k=>
   intro fr st Q Q' h e;refine j h λx f s h=> ?_;cases x with
   | normal=>exact k h e
   | exit i=>exact e _ _ _ h
   | ret=>exact e _ _ _ h
 | cond c a b j k=>intro fr st Q Q' h e;exact acZ h (λh=>j h e) λh=>k h e
 | block id c m=>
   intro fr st Q Q' h e;refine m h λx f s h=> ?_;cases x with
   | normal=>exact e _ _ _ h
   | exit i=>exact ac1 h (e _ _ _) (e _ _ _)
   | ret=>exact e _ _ _ h
 | loop c m=>
   intro fr st Q Q' h e;obtain⟨I,n,l,hl,o,hs⟩:=h;exact⟨I,n,l,hl,o,λn f s hi=>m (hs n f s hi) λx f s h=>ac0 (λ_ _ _ h=>h) e h⟩
 | exit id=>intro fr st Q Q' h e;exact e _ _ _ h
 | ret=>intro fr st Q Q' h e;exact e _ _ _ h
 | sN g key=>intro fr st Q Q' h e;exact h.elim
 | bad=>intro fr st Q Q' h e;exact h.elim
theorem akh{k0:Nat} : ∀ {c:bQ} {fr:aO} {st:TS} {Q:bp->aO->TS->Prop},k0<=st.ax.length->lJ Z T X D R c fr st Q->lJ Z T X D R c fr st λx f s=>Q x f s/\(∀t,qK c t=true->(fr t).mc k0=true->f t=fr t)/\k0<=s.ax.length:=by
 intro c;induction c with
 | skip=>intro fr st Q hk h;exact⟨h,λ_ _ _=>rfl,hk⟩
 | mI af=>intro fr st Q hk h;exact HR (Vq (k0:=k0) h) λf s ⟨h,h1,h2⟩=>⟨h,h1,cy hk h2⟩
 | mJ d=>intro fr st Q hk h;exact HT (Vr (k0:=k0) h) λf s l c ⟨h,h1,h2⟩=>Qh (λh=>⟨h,h1,cy hk h2⟩) h
 | seq a b j k=>
   intro fr st Q hk h;show lJ Z T X D R a fr st _;refine C0 (j hk h) λx f s ⟨h,h1,h2⟩=> ?_;cases x with
   | normal=>
     refine C0 (k h2 h) λx o r ⟨h,g1,g2⟩=>⟨h,λt ht hi=> ?_,g2⟩;simp only[qK,fV] at ht;have e:=h1 t ht.1 hi;rw[g1 t ht.2 (by rw[e];exact hi),e]
   | exit i=>exact⟨h,λt ht hi=>h1 t (by simp only[qK,fV] at ht;exact ht.1) hi,h2⟩
   | ret=>exact⟨h,λt ht hi=>h1 t (by simp only[qK,fV] at ht;exact ht.1) hi,h2⟩
 | cond c a b j k=>
   intro fr st Q hk h;refine acZ h (λh=>C0 (j hk h) λx f s ⟨h,h1,h2⟩=>⟨h,λt ht hi=>h1 t ?_ hi,h2⟩) λh=>C0 (k hk h) λx f s ⟨h,h1,h2⟩=>⟨h,λt ht hi=>h1 t ?_ hi,h2⟩;·simp only[qK,fV] at ht;exact ht.1
   simp only[qK,fV] at ht;exact ht.2
 | block id c p=>
   intro fr st Q hk h;show lJ Z T X D R c fr st _;refine C0 (p hk h) λx f s ⟨h,h1,h2⟩=> ?_;cases x with
   | normal=>exact⟨h,h1,h2⟩
   | exit i=>exact ac1 h (λh=>⟨h,h1,h2⟩) λh=>⟨h,h1,h2⟩
   | ret=>exact⟨h,h1,h2⟩
 | loop c p=>
   intro fr st Q hk h;obtain⟨I,n,l,hl,u,hs⟩:=h;refine⟨λm f s=>I m f s/\(∀t,qK c t=true->(fr t).mc k0=true->f t=fr t)/\k0<=s.ax.length,n,l,hl,⟨u,λt _ hi=>AV.E6 hi hk l,by show k0<=((st.ax.take _).map _).length;rw[eR,kW];omega⟩,λm f s ⟨hi,ha,hb⟩=> ?_⟩;refine C0 (p hb (hs m f s hi)) λx o r ⟨h,h1,h2⟩=> ?_;have q : ∀t,qK c t=true->(fr t).mc k0=true->o t=fr t:=λt ht hi=>by
    have e:=ha t ht hi;rw[h1 t ht (by rw[e];exact hi),e]
   cases x with
   | normal=>
     obtain⟨v,l,w,y,z⟩:=h;refine⟨v,l,w,y,z,λt ht hi=> ?_,?_⟩;·show(o t).cut _ l=fr t;rw[q t ht hi];exact AV.E6 hi hk l
     show k0<=((r.ax.take _).map _).length;rw[eR,kW];omega
   | exit i=>exact⟨h,q,h2⟩
   | ret=>exact⟨h,q,h2⟩
 | exit id=>intro fr st Q hk h;exact⟨h,λ_ _ _=>rfl,hk⟩
 | ret=>intro fr st Q hk h;exact⟨h,λ_ _ _=>rfl,hk⟩
 | sN g key=>intro fr st Q hk h;exact h.elim
 | bad=>intro fr st Q hk h;exact h.elim
def Bc (c:bQ)(k:Nat)(a f:aO):aO:=λt=>match qK c t&&(a t).mc k with
 | true=>a t
 | false=>f t
abbrev LO(Z:TP)(T:cw)(X:dz)(D:TD)(R:ae->Prop)(c:bQ)(a:aO)(bU:TS)(Q:bp->aO->TS->Prop):Prop:=∃(I:Nat->aO->TS->Prop) (n:Nat) (l:List Nat),wI l=true/\I n (a.cut bU.ax.length l) (bU.cut bU.ax.length l)/\∀n f s,I n f s->lJ Z T X D R c f s (Bb bU.ax.length I n Q)
theorem Qi{c:bQ}{Q:bp->aO->TS->Prop}{a:aO}{bU:TS}(J:Nat->aO->TS->Prop)(n:Nat)(l:List Nat)(hl:wI l=true)(d:J n (a.cut bU.ax.length l) (bU.cut bU.ax.length l))(hs : ∀m f s,J m f s->f=Bc c bU.ax.length a f->lJ Z T X D R c f s (Bb bU.ax.length J m Q)):LO Z T X D R c a bU Q:=by
 refine⟨λm f s=>J m f s/\(∀t,qK c t=true->(a t).mc bU.ax.length=true->f t=a t)/\bU.ax.length<=s.ax.length,n,l,hl,⟨d,λt _ hi=>AV.E6 hi (ai _) l,by show bU.ax.length<=((bU.ax.take _).map _).length;rw[eR,kW];omega⟩,λm f s ⟨g,ha,hb⟩=> ?_⟩;have j:f=Bc c bU.ax.length a f:=funext λt=>by
  unfold Bc;split;·rename_i e;simp only[fV] at e;exact ha t e.1 e.2
  rfl
 refine C0 (akh hb (hs m f s g j)) λx b k ⟨h,h1,h2⟩=> ?_;have o : ∀t,qK c t=true->(a t).mc bU.ax.length=true->b t=a t:=λt ht hi=>by
  have e:=ha t ht hi;rw[h1 t ht (by rw[e];exact hi),e]
 cases x with
 | normal=>
   obtain⟨p,l,q,r,u⟩:=h;refine⟨p,l,q,r,u,λt ht hi=> ?_,?_⟩;·show(b t).cut _ l=a t;rw[o t ht hi];exact AV.E6 hi (ai _) l
   show bU.ax.length<=((k.ax.take _).map _).length;rw[eR,kW];omega
 | exit i=>exact h
 | ret=>exact h
theorem sU{c:bQ}{Q:bp->aO->TS->Prop}{a:aO}{bU:TS}(J:Nat->TS->Prop)(n:Nat)(l:List Nat)(hl:wI l=true)(b:J n (bU.cut bU.ax.length l))(hs : ∀m f s,J m s->lJ Z T X D R c (Bc c bU.ax.length a f) s (Bb bU.ax.length (λm _ s=>J m s) m Q)):LO Z T X D R c a bU Q:=
 Qi (λm _ s=>J m s) n l hl b λm f s d e=>by rw[e];exact hs m f s d
theorem HU{c:bQ}{Q:bp->aO->TS->Prop}{b:aO}{bU:TS}(d:Nat)(J:Nat->AV->TS->Prop)(n:Nat)(l:List Nat)(hl:wI l=true)(g:J n ((b d).cut bU.ax.length l) (bU.cut bU.ax.length l))(hs : ∀m a f s,J m a s->lJ Z T X D R c (qJ (Bc c bU.ax.length b f) (some d) a) s (Bb bU.ax.length (λm f s=>J m (f d) s) m Q)):LO Z T X D R c b bU Q:=
 Qi (λm f s=>J m (f d) s) n l hl g λm f s h j=>by
  have e:f=qJ (Bc c bU.ax.length b f) (some d) (f d):=funext λt=>by
   rw[Ly];split;·rename_i e;rw[e]
   rw[<-j]
  rw[e];exact hs m (f d) f s h
theorem aki{c:bQ}{Q:bp->aO->TS->Prop}{g:aO}{bU:TS}(d d2:Nat)(J:Nat->AV->AV->TS->Prop)(n:Nat)(l:List Nat)(hl:wI l=true)(h:J n ((g d).cut bU.ax.length l) ((g d2).cut bU.ax.length l) (bU.cut bU.ax.length l))(hs : ∀m a b f s,J m a b s->lJ Z T X D R c (qJ (qJ (Bc c bU.ax.length g f) (some d2) b) (some d) a) s (Bb bU.ax.length (λm f s=>J m (f d) (f d2) s) m Q)):LO Z T X D R c g bU Q:=
 Qi (λm f s=>J m (f d) (f d2) s) n l hl h λm f s j k=>by
  have e:f=qJ (qJ (Bc c bU.ax.length g f) (some d2) (f d2)) (some d) (f d):=funext λt=>by
   rw[Ly,Ly];split;·rename_i e;rw[e]
   split;·rename_i e;rw[e]
   rw[<-k]
  rw[e];exact hs m (f d) (f d2) f s j
theorem rQ{c:bQ}{Q:bp->aO->TS->Prop}{a:aO}{bU:TS}(l:List Nat)(hl:wI l=true)(h : ∀f,lJ Z T X D R c (Bc c bU.ax.length a f) (bU.cut bU.ax.length l) (Bb bU.ax.length (λ_ _ _=>False) 0 Q)):LO Z T X D R c a bU Q:=
 Qi (λm f s=>m=0/\s=bU.cut bU.ax.length l) 0 l hl ⟨rfl,rfl⟩ λm f s ⟨b,d⟩ e=>by
  subst b d;rw[e];exact C0 (h f) λx g j h=>ac0 (λ_ _ _ h=>h.elim) (λ_ _ _ h=>h) h
theorem eO{b:Bool}{a no:Prop}(h1:b=true->a)(h2:b=false->no):A6 b a no:=by
 cases b;·exact h2 rfl
 exact h1 rfl
end
section
structure PT where
 kind:Int
 line:Int
 text:List UInt8
inductive Nd where
 | mk (kind:Nat) (line:Int) (text:List UInt8) (op:Nat) (kids:List Nd)
def Nd.kind:Nd->Nat
 | .mk k _ _ _ _=>k
def Nd.line:Nd->Int
 | .mk _ l _ _ _=>l
def Nd.text:Nd->List UInt8
 | .mk _ _ x _ _=>x
def Nd.op:Nd->Nat
 | .mk _ _ _ o _=>o
def Nd.kids:Nd->List Nd
 | .mk _ _ _ _ ks=>ks
abbrev nd(k:Nat)(l:Int)(kids:List Nd):Nd:= .mk k l [] 0 kids
def aC (ts:List PT)(i:Nat):PT:=match ts[i]? with
 | some t=>t
 | none=>match ts.getLast? with
   | some t=>⟨0,t.line,[]⟩
   | none=>⟨0,0,[]⟩
def za:List UInt8->Bool
 | c::_=>decide ((65<=c.toNat/\c.toNat<=90)\/(97<=c.toNat/\c.toNat<=122))
 | []=>false
def ap (ts:List PT)(i:Nat)(s:List UInt8):Bool:=decide (((aC ts i).kind=8\/(aC ts i).kind=9)/\(aC ts i).text=s/\za s=decide ((aC ts i).kind=8))
abbrev E7:List UInt8:= [ar 108,ar 97,ar 109,ar 98,ar 100,ar 97]
abbrev nN:List UInt8:= [ar 58]
abbrev Vs:List UInt8:= [ar 105,ar 102]
abbrev ac2:List UInt8:= [ar 101,ar 108,ar 115,ar 101]
abbrev akj:List UInt8:= [ar 111,ar 114]
abbrev akk:List UInt8:= [ar 97,ar 110,ar 100]
abbrev vg:List UInt8:= [ar 110,ar 111,ar 116]
abbrev Vt:List UInt8:= [ar 61,ar 61]
abbrev Vu:List UInt8:= [ar 33,ar 61]
abbrev Vv:List UInt8:= [ar 60]
abbrev Vw:List UInt8:= [ar 60,ar 61]
abbrev Vx:List UInt8:= [ar 62]
abbrev Vy:List UInt8:= [ar 62,ar 61]
abbrev C1:List UInt8:= [ar 105,ar 110]
abbrev Vz:List UInt8:= [ar 105,ar 115]
abbrev C4:List UInt8:= [ar 43]
abbrev C5:List UInt8:= [ar 45]
abbrev akl:List UInt8:= [ar 42]
abbrev akm:List UInt8:= [ar 47]
abbrev akn:List UInt8:= [ar 47,ar 47]
abbrev ako:List UInt8:= [ar 37]
abbrev akp:List UInt8:= [ar 42,ar 42]
abbrev akq:List UInt8:= [ar 46]
abbrev Be:List UInt8:= [ar 40]
abbrev C6:List UInt8:= [ar 41]
abbrev E8:List UInt8:= [ar 91]
abbrev HV:List UInt8:= [ar 93]
abbrev HX:List UInt8:= [ar 123]
abbrev Qj:List UInt8:= [ar 125]
abbrev xM:List UInt8:= [ar 44]
abbrev HY:List UInt8:= [ar 78,ar 111,ar 110,ar 101]
abbrev HZ:List UInt8:= [ar 84,ar 114,ar 117,ar 101]
abbrev H5:List UInt8:= [ar 70,ar 97,ar 108,ar 115,ar 101]
abbrev H6:List UInt8:= [ar 102,ar 111,ar 114]
abbrev VA:List UInt8:= [ar 61]
abbrev VB:List UInt8:= [ar 43,ar 61]
abbrev VC:List UInt8:= [ar 45,ar 61]
abbrev VD:List UInt8:= [ar 42,ar 61]
abbrev VE:List UInt8:= [ar 47,ar 61]
abbrev VF:List UInt8:= [ar 47,ar 47,ar 61]
abbrev VG:List UInt8:= [ar 37,ar 61]
abbrev VH:List UInt8:= [ar 42,ar 42,ar 61]
abbrev akr:List UInt8:= [ar 112,ar 97,ar 115,ar 115]
abbrev aks:List UInt8:= [ar 98,ar 114,ar 101,ar 97,ar 107]
abbrev akt:List UInt8:= [ar 99,ar 111,ar 110,ar 116,ar 105,ar 110,ar 117,ar 101]
abbrev aku:List UInt8:= [ar 114,ar 101,ar 116,ar 117,ar 114,ar 110]
abbrev akv:List UInt8:= [ar 114,ar 97,ar 105,ar 115,ar 101]
abbrev akw:List UInt8:= [ar 103,ar 108,ar 111,ar 98,ar 97,ar 108]
abbrev akx:List UInt8:= [ar 110,ar 111,ar 110,ar 108,ar 111,ar 99,ar 97,ar 108]
abbrev aky:List UInt8:= [ar 97,ar 115,ar 115,ar 101,ar 114,ar 116]
abbrev ac3:List UInt8:= [ar 121,ar 105,ar 101,ar 108,ar 100]
abbrev akz:List UInt8:= [ar 100,ar 101,ar 108]
abbrev akA:List UInt8:= [ar 101,ar 108,ar 105,ar 102]
abbrev akB:List UInt8:= [ar 101,ar 120,ar 99,ar 101,ar 112,ar 116]
abbrev ac4:List UInt8:= [ar 97,ar 115]
abbrev akC:List UInt8:= [ar 102,ar 105,ar 110,ar 97,ar 108,ar 108,ar 121]
abbrev akD:List UInt8:= [ar 119,ar 104,ar 105,ar 108,ar 101]
abbrev akE:List UInt8:= [ar 100,ar 101,ar 102]
abbrev akF:List UInt8:= [ar 99,ar 108,ar 97,ar 115,ar 115]
abbrev akG:List UInt8:= [ar 116,ar 114,ar 121]
abbrev akH:List UInt8:= [ar 119,ar 105,ar 116,ar 104]
def jb (ts:List PT)(i:Nat):Bool:=decide (4<=(aC ts i).kind/\(aC ts i).kind<=7)||ap ts i E7||ap ts i vg||ap ts i HY||ap ts i HZ||ap ts i H5||ap ts i C4||ap ts i C5||ap ts i Be||ap ts i E8||ap ts i HX
abbrev PR:=Option (Except Nat (List Nd×Nat))
def pb (r:PR)(k:List Nd->Nat->PR):PR:=match r with
 | none=>none
 | some (.error e)=>some (.error e)
 | some (.ok (l,i))=>k l i
def bV (n:Nd)(i:Nat):PR:=some (.ok ([n],i))
def bG (r:PR)(k:Nd->Nat->PR):PR:=pb r λl i=>match l with
 | [n]=>k n i
 | _=>none
def gW(ts:List PT)(s:List UInt8)(i:Nat)(k:Nat->PR):PR:=if ap ts i s=true then k (i+1) else some (.error i)
def mS(ts:List PT)(kd:Int)(i:Nat)(k:List UInt8->Nat->PR):PR:=if (aC ts i).kind=kd then k (aC ts i).text (i+1) else some (.error i)
def zb(n:Nd):Bool:=decide (n.kind=36\/n.kind=45\/n.kind=46)
mutual
def gK:Nd->Bool
 | .mk k _ _ _ ks=>if k=52\/k=51 then kq ks && !ks.isEmpty else decide (k=36\/k=45\/k=46)
def kq:List Nd->Bool
 | []=>true
 | n::ks=>gK n&&kq ks
end
def ji (ts:List PT)(i:Nat):Except Nat (Nat×Nat):=
 if ap ts i Vt=true then .ok (1,i+1) else if ap ts i Vu=true then .ok (2,i+1) else if ap ts i Vv=true then .ok (3,i+1) else if ap ts i Vw=true then .ok (4,i+1)
 else if ap ts i Vx=true then .ok (5,i+1) else if ap ts i Vy=true then .ok (6,i+1) else if ap ts i C1=true then .ok (7,i+1)
 else if ap ts i vg=true then (if ap ts (i+1) C1=true then .ok (8,i+2) else .error (i+1))
 else if ap ts i Vz=true then (if ap ts (i+1) vg=true then .ok (10,i+2) else .ok (9,i+1)) else .ok (0,i)
def jZ (ts:List PT)(i:Nat):Nat:=if ap ts i VB=true then 1 else if ap ts i VC=true then 2 else if ap ts i VD=true then 3 else if ap ts i VE=true then 4 else if ap ts i VF=true then 5 else if ap ts i VG=true then 6 else if ap ts i VH=true then 7 else 0
def H7(k:Int):Nat:=if k=5 then 30 else if k=6 then 31 else if k=7 then 32 else 36
def Bf(l:Int):List Nd->Int
 | n::_=>n.line
 | []=>l
inductive NT where
 | expr | or | and | not | compare | arith | term | rR | primary | atom | exprs | one | places | simple | plain | value | block | stmt
 | params (close:List UInt8) (line:Int) (acc:List Nd)
 | row (close:List UInt8) (acc:List Nd)
 | wJ (line:Int) (acc:List Nd)
 | Bg (n:Nd) | Bh (n:Nd) | cmpL (n:Nd) (acc:List Nd) | zd (n:Nd) | wK (n:Nd) | xN (n:Nd) | index (n:Nd)
 | clauses (acc:List Nd)
 | list (line:Int) | ze (line:Int) | zf (line:Int) (acc:List Nd)
 | placesL (line:Int) (acc:List Nd)
 | names (kind:Nat) (line:Int) (acc:List Nd)
 | maybe (kind:Nat) (line:Int) (all:Bool)
 | mg (line:Int) (acc:List Nd)
 | zg (acc:List Nd)
 | ifs (line:Int) | tries (line:Int) | p9 (acc:List Nd) | sV (line:Int) (acc:List Nd)
 | top (acc:List Nd)
def gr (ts:List PT):Nat->NT->Nat->PR
 | 0,_,_=>none
 | f+1, .expr,i=>if ap ts i E7=true then
     bG (gr ts f (.params nN (aC ts i).line []) (i+1)) λp i1=>gW ts nN i1 λi2=>bG (gr ts f .expr i2) λe i3=>bV (nd 50 (aC ts i).line [p,e]) i3
    else bG (gr ts f .or i) λa i1=>if ap ts i1 Vs=true then
     bG (gr ts f .or (i1+1)) λc i2=>gW ts ac2 i2 λi3=>bG (gr ts f .expr i3) λe i4=>bV (nd 49 a.line [c,a,e]) i4
    else bV a i1
 | f+1, .or,i=>bG (gr ts f .and i) λn i1=>gr ts f (.Bg n) i1
 | f+1, .Bg n,i=>if ap ts i akj=true then bG (gr ts f .and (i+1)) λm i1=>gr ts f (.Bg (nd 40 n.line [n,m])) i1 else bV n i
 | f+1, .and,i=>bG (gr ts f .not i) λn i1=>gr ts f (.Bh n) i1
 | f+1, .Bh n,i=>if ap ts i akk=true then bG (gr ts f .not (i+1)) λm i1=>gr ts f (.Bh (nd 39 n.line [n,m])) i1 else bV n i
 | f+1, .not,i=>if ap ts i vg=true then bG (gr ts f .not (i+1)) λn i1=>bV (nd 41 (aC ts i).line [n]) i1 else gr ts f .compare i
 | f+1, .compare,i=>bG (gr ts f .arith i) λn i1=>gr ts f (.cmpL n []) i1
 | f+1, .cmpL n acc,i=>match ji ts i with
   | .error e=>some (.error e)
   | .ok (0,_)=>bV (if acc.isEmpty then n else nd 42 n.line (n::acc)) i
   | .ok (op+1,i1)=>bG (gr ts f .arith i1) λm i2=>gr ts f (.cmpL n (acc++ [.mk 43 (aC ts i).line [] (op+1) [m]])) i2
 | f+1, .arith,i=>bG (gr ts f .term i) λn i1=>gr ts f (.zd n) i1
 | f+1, .zd n,i=>if ap ts i C4=true then bG (gr ts f .term (i+1)) λm i1=>gr ts f (.zd (.mk 37 n.line [] 1 [n,m])) i1
    else if ap ts i C5=true then bG (gr ts f .term (i+1)) λm i1=>gr ts f (.zd (.mk 37 n.line [] 2 [n,m])) i1 else bV n i
 | f+1, .term,i=>bG (gr ts f .rR i) λn i1=>gr ts f (.wK n) i1
 | f+1, .wK n,i=>if ap ts i akl=true then bG (gr ts f .rR (i+1)) λm i1=>gr ts f (.wK (.mk 37 n.line [] 3 [n,m])) i1
    else if ap ts i akm=true then bG (gr ts f .rR (i+1)) λm i1=>gr ts f (.wK (.mk 37 n.line [] 4 [n,m])) i1
    else if ap ts i akn=true then bG (gr ts f .rR (i+1)) λm i1=>gr ts f (.wK (.mk 37 n.line [] 5 [n,m])) i1
    else if ap ts i ako=true then bG (gr ts f .rR (i+1)) λm i1=>gr ts f (.wK (.mk 37 n.line [] 6 [n,m])) i1 else bV n i
 | f+1, .rR,i=>if ap ts i C4=true then bG (gr ts f .rR (i+1)) λn i1=>bV (.mk 38 (aC ts i).line [] 2 [n]) i1
    else if ap ts i C5=true then bG (gr ts f .rR (i+1)) λn i1=>bV (.mk 38 (aC ts i).line [] 1 [n]) i1
    else bG (gr ts f .primary i) λn i1=>if ap ts i1 akp=true then bG (gr ts f .rR (i1+1)) λm i2=>bV (.mk 37 n.line [] 7 [n,m]) i2 else bV n i1
 | f+1, .primary,i=>bG (gr ts f .atom i) λn i1=>gr ts f (.xN n) i1
 | f+1, .xN n,i=>if ap ts i akq=true then mS ts 4 (i+1) λs i1=>gr ts f (.xN (.mk 45 n.line s 0 [n])) i1
    else if ap ts i Be=true then pb (gr ts f (.row C6 []) (i+1)) λl i1=>gW ts C6 i1 λi2=>gr ts f (.xN (nd 44 n.line (n::l))) i2
    else if ap ts i E8=true then bG (gr ts f (.index n) (i+1)) λm i1=>gW ts HV i1 λi2=>gr ts f (.xN m) i2 else bV n i
 | f+1, .index n,i=>if ap ts i nN=true then gW ts nN i λi2=>if ap ts i2 HV=true then bV (nd 47 n.line [n,nd 48 n.line [],nd 48 n.line []]) i2
      else bG (gr ts f .expr i2) λhi i3=>bV (nd 47 n.line [n,nd 48 n.line [],hi]) i3
    else bG (gr ts f .expr i) λlo i1=>if ap ts i1 xM=true then bG (gr ts f (.wJ lo.line [lo]) i1) λm i2=>bV (nd 46 n.line [n,m]) i2
     else if ap ts i1 nN=true then (if ap ts (i1+1) HV=true then bV (nd 47 n.line [n,lo,nd 48 n.line []]) (i1+1)
      else bG (gr ts f .expr (i1+1)) λhi i3=>bV (nd 47 n.line [n,lo,hi]) i3) else bV (nd 46 n.line [n,lo]) i1
 | f+1, .atom,i=>if 4<=(aC ts i).kind/\(aC ts i).kind<=7 then bV (.mk (H7 (aC ts i).kind) (aC ts i).line (aC ts i).text 0 []) (i+1)
    else if ap ts i HY=true then bV (nd 33 (aC ts i).line []) (i+1) else if ap ts i HZ=true then bV (nd 34 (aC ts i).line []) (i+1)
    else if ap ts i H5=true then bV (nd 35 (aC ts i).line []) (i+1)
    else if ap ts i Be=true then (if ap ts (i+1) C6=true then bV (nd 52 (aC ts i).line []) (i+2) else bG (gr ts f .exprs (i+1)) λn i1=>gW ts C6 i1 λi2=>bV n i2)
    else if ap ts i E8=true then bG (gr ts f (.list (aC ts i).line) (i+1)) λn i1=>gW ts HV i1 λi2=>bV n i2
    else if ap ts i HX=true then bG (gr ts f (.ze (aC ts i).line) (i+1)) λn i1=>gW ts Qj i1 λi2=>bV n i2
    else some (.error i)
 | f+1, .exprs,i=>bG (gr ts f .expr i) λn i1=>if ap ts i1 xM=true then gr ts f (.wJ n.line [n]) i1 else bV n i1
 | f+1, .wJ l acc,i=>if ap ts i xM=true then (if jb ts (i+1)=true then bG (gr ts f .expr (i+1)) λe i1=>gr ts f (.wJ l (acc++ [e])) i1 else bV (nd 52 l acc) (i+1)) else bV (nd 52 l acc) i
 | f+1, .row cl acc,i=>if ap ts i cl=true then some (.ok (acc,i)) else bG (gr ts f .expr i) λe i1=>if ap ts i1 xM=true then gr ts f (.row cl (acc++ [e])) (i1+1) else some (.ok (acc++ [e],i1))
 | f+1, .params cl l acc,i=>if ap ts i cl=true then bV (nd 23 l acc) i else mS ts 4 i λs i1=>if ap ts i1 xM=true then gr ts f (.params cl l (acc++ [.mk 36 (aC ts i).line s 0 []])) (i1+1) else bV (nd 23 l (acc++ [.mk 36 (aC ts i).line s 0 []])) i1
 | f+1, .clauses acc,i=>if ap ts i H6=true then bG (gr ts f .places (i+1)) λp i1=>gW ts C1 i1 λi2=>bG (gr ts f .or i2) λe i3=>gr ts f (.clauses (acc++ [nd 58 (aC ts i).line [p,e]])) i3
    else if ap ts i Vs=true then bG (gr ts f .or (i+1)) λe i1=>gr ts f (.clauses (acc++ [nd 59 (aC ts i).line [e]])) i1 else some (.ok (acc,i))
 | f+1, .list l,i=>if ap ts i HV=true then bV (nd 51 l []) i else bG (gr ts f .expr i) λe i1=>if ap ts i1 H6=true then pb (gr ts f (.clauses []) i1) λcs i2=>bV (nd 55 l (e::cs)) i2
    else if ap ts i1 xM=true then pb (gr ts f (.row HV []) (i1+1)) λr i2=>bV (nd 51 l (e::r)) i2 else bV (nd 51 l [e]) i1
 | f+1, .ze l,i=>if ap ts i Qj=true then bV (nd 54 l []) i else bG (gr ts f .expr i) λe i1=>if ap ts i1 nN=true then
     bG (gr ts f .expr (i1+1)) λv i2=>if ap ts i2 H6=true then pb (gr ts f (.clauses []) i2) λcs i3=>bV (nd 57 l (e::v::cs)) i3 else gr ts f (.zf l [e,v]) i2
    else if ap ts i1 H6=true then pb (gr ts f (.clauses []) i1) λcs i2=>bV (nd 56 l (e::cs)) i2
    else if ap ts i1 xM=true then pb (gr ts f (.row Qj []) (i1+1)) λr i2=>bV (nd 53 l (e::r)) i2 else bV (nd 53 l [e]) i1
 | f+1, .zf l acc,i=>if ap ts i xM=true then (if ap ts (i+1) Qj=true then bV (nd 54 l acc) (i+1) else bG (gr ts f .expr (i+1)) λk i1=>gW ts nN i1 λi2=>bG (gr ts f .expr i2) λv i3=>gr ts f (.zf l (acc++ [k,v])) i3) else bV (nd 54 l acc) i
 | f+1, .one,i=>bG (gr ts f .primary i) λn i1=>if gK n=true then bV n i1 else some (.error i1)
 | f+1, .places,i=>bG (gr ts f .one i) λn i1=>if ap ts i1 xM=true then gr ts f (.placesL n.line [n]) i1 else bV n i1
 | f+1, .placesL l acc,i=>if ap ts i xM=true then (if jb ts (i+1)=true/\ap ts (i+1) C4=false/\ap ts (i+1) C5=false/\ap ts (i+1) vg=false/\ap ts (i+1) E7=false then bG (gr ts f .one (i+1)) λe i1=>gr ts f (.placesL l (acc++ [e])) i1 else bV (nd 52 l acc) (i+1)) else bV (nd 52 l acc) i
 | f+1, .names k l acc,i=>mS ts 4 i λs i1=>if ap ts i1 xM=true then gr ts f (.names k l (acc++ [.mk 36 (aC ts i).line s 0 []])) (i1+1) else bV (nd k l (acc++ [.mk 36 (aC ts i).line s 0 []])) i1
 | f+1, .maybe k l all,i=>if jb ts i=true then bG (gr ts f (if all=true then .exprs else .expr) i) λe i1=>bV (nd k l [e]) i1 else bV (nd k l []) i
 | f+1, .value,i=>if ap ts i ac3=true then gr ts f (.maybe 60 (aC ts i).line true) (i+1) else gr ts f .exprs i
 | f+1, .plain,i=>bG (gr ts f .exprs i) λn i1=>if ap ts i1 VA=true then gr ts f (.mg n.line [n]) i1
    else if jZ ts i1=0 then bV (nd 2 n.line [n]) i1 else if zb n=true then bG (gr ts f .exprs (i1+1)) λm i2=>bV (.mk 4 n.line [] (jZ ts i1) [n,m]) i2 else some (.error i1)
 | f+1, .mg l acc,i=>if ap ts i VA=true then (match acc.getLast? with
     | some n=>if gK n=true then bG (gr ts f .value (i+1)) λv i1=>gr ts f (.mg l (acc++ [v])) i1 else some (.error i)
     | none=>none) else bV (nd 3 l acc) i
 | f+1, .simple,i=>if ap ts i akr=true then bV (nd 11 (aC ts i).line []) (i+1) else if ap ts i aks=true then bV (nd 12 (aC ts i).line []) (i+1)
    else if ap ts i akt=true then bV (nd 13 (aC ts i).line []) (i+1) else if ap ts i aku=true then gr ts f (.maybe 10 (aC ts i).line true) (i+1)
    else if ap ts i akv=true then gr ts f (.maybe 14 (aC ts i).line false) (i+1) else if ap ts i akw=true then gr ts f (.names 17 (aC ts i).line []) (i+1)
    else if ap ts i akx=true then gr ts f (.names 18 (aC ts i).line []) (i+1) else if ap ts i aky=true then bG (gr ts f .expr (i+1)) λe i1=>bV (nd 20 (aC ts i).line [e]) i1
    else if ap ts i ac3=true then bG (gr ts f (.maybe 60 (aC ts i).line true) (i+1)) λe i1=>bV (nd 2 (aC ts i).line [e]) i1
    else if ap ts i akz=true then bG (gr ts f .primary (i+1)) λn i1=>if zb n=true then bV (nd 19 (aC ts i).line [n]) i1 else some (.error i1)
    else gr ts f .plain i
 | f+1, .block,i=>if (aC ts i).kind=1 then mS ts 2 (i+1) λ_ i1=>gr ts f (.zg []) i1 else bG (gr ts f .simple i) λn i1=>mS ts 1 i1 λ_ i2=>bV (nd 1 n.line [n]) i2
 | f+1, .zg acc,i=>bG (gr ts f .stmt i) λs i1=>if (aC ts i1).kind=3 then bV (nd 1 (Bf 0 (acc++ [s])) (acc++ [s])) (i1+1) else gr ts f (.zg (acc++ [s])) i1
 | f+1, .ifs l,i=>bG (gr ts f .expr i) λc i1=>gW ts nN i1 λi2=>bG (gr ts f .block i2) λb i3=>if ap ts i3 akA=true then
     bG (gr ts f (.ifs (aC ts i3).line) (i3+1)) λx i4=>bV (nd 5 l [c,b,nd 1 (aC ts i3).line [x]]) i4
    else if ap ts i3 ac2=true then gW ts nN (i3+1) λi4=>bG (gr ts f .block i4) λe i5=>bV (nd 5 l [c,b,e]) i5 else bV (nd 5 l [c,b]) i3
 | f+1, .tries l,i=>gW ts nN i λi1=>bG (gr ts f .block i1) λb i2=>pb (gr ts f (.p9 [b]) i2) λacc i3=>gr ts f (.sV l acc) i3
 | f+1, .p9 acc,i=>if ap ts i akB=true then (if ap ts (i+1) nN=true then bG (gr ts f .block (i+2)) λb i1=>some (.ok (acc++ [nd 21 (aC ts i).line [b]],i1))
     else bG (gr ts f .expr (i+1)) λe i1=>if ap ts i1 ac4=true then mS ts 4 (i1+1) λs i2=>gW ts nN i2 λi3=>bG (gr ts f .block i3) λb i4=>gr ts f (.p9 (acc++ [.mk 21 (aC ts i).line s 0 [e,b]])) i4
      else gW ts nN i1 λi3=>bG (gr ts f .block i3) λb i4=>gr ts f (.p9 (acc++ [nd 21 (aC ts i).line [e,b]])) i4) else some (.ok (acc,i))
 | f+1, .sV l acc,i=>if ap ts i akC=true then gW ts nN (i+1) λi1=>bG (gr ts f .block i1) λb i2=>bV (nd 15 l (acc++ [nd 22 (aC ts i).line [b]])) i2
    else if acc.length=1 then some (.error i) else bV (nd 15 l acc) i
 | f+1, .stmt,i=>if ap ts i Vs=true then gr ts f (.ifs (aC ts i).line) (i+1)
    else if ap ts i akD=true then bG (gr ts f .expr (i+1)) λc i1=>gW ts nN i1 λi2=>bG (gr ts f .block i2) λb i3=>bV (nd 6 (aC ts i).line [c,b]) i3
    else if ap ts i H6=true then bG (gr ts f .places (i+1)) λp i1=>gW ts C1 i1 λi2=>bG (gr ts f .exprs i2) λe i3=>gW ts nN i3 λi4=>bG (gr ts f .block i4) λb i5=>bV (nd 7 (aC ts i).line [p,e,b]) i5
    else if ap ts i akE=true then mS ts 4 (i+1) λs i1=>gW ts Be i1 λi2=>bG (gr ts f (.params C6 (aC ts i).line []) i2) λp i3=>gW ts C6 i3 λi4=>gW ts nN i4 λi5=>bG (gr ts f .block i5) λb i6=>bV (.mk 8 (aC ts i).line s 0 [p,b]) i6
    else if ap ts i akF=true then mS ts 4 (i+1) λs i1=>if ap ts i1 Be=true then pb (gr ts f (.row C6 []) (i1+1)) λbs i2=>gW ts C6 i2 λi3=>gW ts nN i3 λi4=>bG (gr ts f .block i4) λb i5=>bV (.mk 9 (aC ts i).line s 0 [nd 24 (aC ts i).line bs,b]) i5
     else gW ts nN i1 λi4=>bG (gr ts f .block i4) λb i5=>bV (.mk 9 (aC ts i).line s 0 [nd 24 (aC ts i).line [],b]) i5
    else if ap ts i akG=true then gr ts f (.tries (aC ts i).line) (i+1)
    else if ap ts i akH=true then bG (gr ts f .expr (i+1)) λe i1=>if ap ts i1 ac4=true then mS ts 4 (i1+1) λs i2=>gW ts nN i2 λi3=>bG (gr ts f .block i3) λb i4=>bV (.mk 16 (aC ts i).line s 0 [e,b]) i4
     else gW ts nN i1 λi3=>bG (gr ts f .block i3) λb i4=>bV (nd 16 (aC ts i).line [e,b]) i4
    else bG (gr ts f .simple i) λn i1=>mS ts 1 i1 λ_ i2=>bV n i2
 | f+1, .top acc,i=>if (aC ts i).kind=0 then some (.ok (acc,i)) else bG (gr ts f .stmt i) λs i1=>gr ts f (.top (acc++ [s])) i1
def Gd (E:Nat->Prop)(P:List Nd->Nat->Prop):PR->Prop
 | none=>False
 | some (.error e)=>E e
 | some (.ok (l,j))=>P l j
theorem Gd.mono{E E':Nat->Prop}{P a:List Nd->Nat->Prop}{r:PR}(h:Gd E P r)(b : ∀e,E e->E' e)(c : ∀l j,P l j->a l j):Gd E' a r:=by
 match r,h with
 | some (.error e),h=>exact b e h
 | some (.ok (l,j)),h=>exact c l j h
theorem Qk{E:Nat->Prop}{P:List Nd->Nat->Prop}{r:PR}{k:List Nd->Nat->PR}:Gd E P (pb r k)↔Gd E (λl j=>Gd E P (k l j)) r:=by
 match r with
 | none=>exact eM
 | some (.error e)=>exact eM
 | some (.ok (l,j))=>exact eM
theorem LP{E:Nat->Prop}{P:List Nd->Nat->Prop}{r:PR}{k:Nd->Nat->PR}:Gd E P (bG r k)↔Gd E (λl j=>∃t,l= [t]/\Gd E P (k t j)) r:=by
 match r with
 | none=>exact eM
 | some (.error e)=>exact eM
 | some (.ok ([],j))=>simp[bG,pb,Gd]
 | some (.ok ([t],j))=>simp[bG,pb,Gd]
 | some (.ok (t::u::l,j))=>simp[bG,pb,Gd]
theorem E9{ts:List PT}{i:Nat}{s:List UInt8}(h:ap ts i s=true):i<ts.length:=by
 unfold ap at h;rcases B9 i ts.length with g | g
 ·exact g
 have hk:(aC ts i).kind=0:=by
  unfold aC;rw[uA g];cases ts.getLast?<;>rfl
 rw[hk] at h;simp at h
theorem zh{ts:List PT}{i:Nat}(h:(aC ts i).kind≠0):i<ts.length:=by
 rcases B9 i ts.length with g | g
 ·exact g
 exfalso;apply h;unfold aC;rw[uA g];cases ts.getLast?<;>rfl
theorem VI{ts:List PT}{i:Nat}{s:List UInt8}(h:(aC ts i).kind≠if za s=true then 8 else 9):ap ts i s=false:=by
 unfold ap;apply decide_eq_false;rintro⟨h1,_,h3⟩;apply h;cases hw:za s with
 | true=>
   rw[hw] at h3;rw[iP rfl];exact of_decide_eq_true h3.symm
 | false=>
   rw[hw] at h3;rw[iN de];rcases h1 with h1 | h1
   ·exact absurd h1 (of_decide_eq_false h3.symm)
   exact h1
theorem akI{ts:List PT}{i:Nat}(h:4<=(aC ts i).kind/\(aC ts i).kind<=7):jb ts i=true:=by
 unfold jb;rw[decide_eq_true h];simp only[Bool.true_or]
theorem akJ{ts:List PT}{i:Nat}(h : ¬(4<=(aC ts i).kind/\(aC ts i).kind<=7))(a:(aC ts i).kind≠8)(b:(aC ts i).kind≠9):jb ts i=false:=by
 unfold jb;rw[decide_eq_false h]
 repeat rw[VI (by split<;>assumption)]
 rfl
theorem akK{ts:List PT}{i:Nat}(h:(aC ts i).kind=8):jb ts i=(ap ts i E7||ap ts i vg||ap ts i HY||ap ts i HZ||ap ts i H5):=by
 have hn : ∀s,za s=false->ap ts i s=false:=λs hs=>VI (by rw[h,hs];decide);unfold jb;rw[decide_eq_false (by rw[h];decide),hn C4 rfl,hn C5 rfl,hn Be rfl,hn E8 rfl,hn HX rfl];simp only[Bool.false_or,Bool.or_false]
theorem akL{ts:List PT}{i:Nat}(h:(aC ts i).kind=9):jb ts i=(ap ts i C4||ap ts i C5||ap ts i Be||ap ts i E8||ap ts i HX):=by
 have hn : ∀s,za s=true->ap ts i s=false:=λs hs=>VI (by rw[h,hs];decide);unfold jb;rw[decide_eq_false (by rw[h];decide),hn E7 rfl,hn vg rfl,hn HY rfl,hn HZ rfl,hn H5 rfl];simp only[Bool.false_or]
theorem ac5{ts:List PT}{s:List UInt8}{i:Nat}{k:Nat->PR}{E:Nat->Prop}{P:List Nd->Nat->Prop}(h1:E i)(h2:i<ts.length->Gd E P (k (i+1))):Gd E P (gW ts s i k):=by
 unfold gW;split;·rename_i h;exact h2 (E9 h)
 exact h1
theorem ac6{ts:List PT}{kd:Int}(a:kd≠0){i:Nat}{k:List UInt8->Nat->PR}{E:Nat->Prop}{P:List Nd->Nat->Prop}(h1:E i)(h2:i<ts.length->Gd E P (k (aC ts i).text (i+1))):Gd E P (mS ts kd i k):=by
 unfold mS;split;·rename_i h;exact h2 (zh (by rw[h];exact a))
 exact h1
theorem ac7{ts:List PT}{s:List UInt8}{i:Nat}{a b:PR}{E:Nat->Prop}{P:List Nd->Nat->Prop}(h1:i<ts.length->Gd E P a)(h2:Gd E P b):Gd E P (if ap ts i s=true then a else b):=by
 split;·rename_i h;exact h1 (E9 h)
 exact h2
theorem ac8{c:Prop}[Decidable c]{a b:PR}{E:Nat->Prop}{P:List Nd->Nat->Prop}(h1:c->Gd E P a)(h2 : ¬c->Gd E P b):Gd E P (if c then a else b):=by
 split;·rename_i h;exact h1 h
 rename_i h;exact h2 h
theorem akM{l:List Nd}{j:Nat}{E:Nat->Prop}{P:List Nd->Nat->Prop}(h:P l j):Gd E P (some (.ok (l,j))):=h
theorem akN{e:Nat}{E:Nat->Prop}{P:List Nd->Nat->Prop}(h:E e):Gd E P (some (.error e)):=h
theorem akO{t:Nd}{j:Nat}{E:Nat->Prop}{P:List Nd->Nat->Prop}(h:P [t] j):Gd E P (bV t j):=h
def NT.lF:NT->Nat
 | .atom=>1
 | .primary=>2
 | .rR=>3
 | .term=>4
 | .arith=>5
 | .compare=>6
 | .not=>7
 | .and=>8
 | .or=>9
 | .expr=>10
 | .exprs=>11
 | .one=>3
 | .places=>4
 | .value=>13
 | .plain=>14
 | .simple=>15
 | .block=>16
 | .stmt=>17
 | .maybe _ _ _=>12
 | .row _ _=>11
 | .index _=>11
 | .list _=>11
 | .ze _=>11
 | .zg _=>18
 | .ifs _=>11
 | .top _=>18
 | .sV _ _=>0
 | _=>11
def NT.min:NT->Nat
 | .params _ _ _ | .row _ _ | .wJ _ _ | .Bg _ | .Bh _ | .cmpL _ _ | .zd _ | .wK _ | .xN _ | .clauses _ | .list _ | .ze _ | .zf _ _ | .placesL _ _ | .maybe _ _ _ | .mg _ _ | .p9 _ | .sV _ _ | .top _=>0
 | .stmt=>2
 | _=>1
def NT.jX:NT->Prop
 | .mg _ acc=>acc≠ []
 | _=>True
def NT.acc:NT->Option Nat
 | .row _ acc=>some acc.length
 | .clauses acc=>some acc.length
 | .p9 acc=>some acc.length
 | .top acc=>some acc.length
 | _=>none
def NT.post(a:NT)(i n:Nat)(l:List Nd)(j:Nat):Prop:=i+a.min<=j/\j<=n/\match a.acc with
 | some m=>2*l.length+i<=2*m+j+1/\m<=l.length
 | none=>l.length=1
theorem VJ{l:List Nd}(h:l.length=1) : ∃t,l= [t]:=by
 match l,h with
 | [t],_=>exact⟨t,rfl⟩
theorem VL{acc:List Nd}(h:acc≠ []) : ∃t,acc.getLast? = some t:=by
 cases a:acc.getLast? with
 | none=>exact absurd (List.getLast?_eq_none_iff.1 a) h
 | some t=>exact⟨t,rfl⟩
def Bi (ts:List PT)(f:Nat):Prop:=∀(a:NT) (i:Nat),a.jX->i<=ts.length->ts.length*64+a.lF<f+i*64->Gd (λe=>i<=e/\e<=ts.length) (a.post i ts.length) (gr ts f a i)
theorem Bi.one{ts:List PT}{f:Nat}(h:Bi ts f){a:NT}{i:Nat}(hg:a.jX)(hi:i<=ts.length)(b:ts.length*64+a.lF<f+i*64){E:Nat->Prop}{P:List Nd->Nat->Prop}(c : ∀e,i<=e->e<=ts.length->E e){k:Nd->Nat->PR}(ha:a.acc=none)(d : ∀t j,i+a.min<=j->j<=ts.length->Gd E P (k t j)):Gd E P (bG (gr ts f a i) k):=by
 rw[LP];refine(h a i hg hi b).mono (λe h=>c e h.1 h.2) λl j h=> ?_;unfold NT.post at h;rw[ha] at h;obtain⟨h1,h2,h3⟩:=h;obtain⟨t,rfl⟩:=VJ h3;exact⟨t,rfl,d t j h1 h2⟩
theorem Bi.VN{ts:List PT}{f:Nat}(h:Bi ts f){a:NT}{i:Nat}(hg:a.jX)(hi:i<=ts.length)(b:ts.length*64+a.lF<f+i*64){E:Nat->Prop}{P:List Nd->Nat->Prop}(c : ∀e,i<=e->e<=ts.length->E e){k:List Nd->Nat->PR}(ha:a.acc=some (a.acc.getD 0))(d : ∀l j,i<=j->j<=ts.length->2*l.length+i<=2*a.acc.getD 0+j+1->a.acc.getD 0<=l.length->Gd E P (k l j)):Gd E P (pb (gr ts f a i) k):=by
 rw[Qk];refine(h a i hg hi b).mono (λe h=>c e h.1 h.2) λl j h=> ?_;unfold NT.post at h;rw[ha] at h;obtain⟨h1,h2,h3,h4⟩:=h;exact d l j Om h2 h3 h4
theorem Bi.Aq{ts:List PT}{f:Nat}(h:Bi ts f){a:NT}{i:Nat}(hg:a.jX)(hi:i<=ts.length)(b:ts.length*64+a.lF<f+i*64){E:Nat->Prop}{P:List Nd->Nat->Prop}(c : ∀e,i<=e->e<=ts.length->E e)(d : ∀l j,i+a.min<=j->j<=ts.length->(match a.acc with | some m=>2*l.length+i<=2*m+j+1/\m<=l.length | none=>l.length=1)->P l j):Gd E P (gr ts f a i):=by
 refine(h a i hg hi b).mono (λe h=>c e h.1 h.2) λl j h=> ?_;obtain⟨h1,h2,h3⟩:=h;exact d l j h1 h2 h3
def Fa (ts:List PT)(i:Nat)(r:Except Nat (Nat×Nat)):Prop:=match r with
 | .error e=>i<=e/\e<=ts.length
 | .ok (op,j)=>(op=0/\j=i)\/(op≠0/\i<j/\j<=ts.length)
theorem akP{ts:List PT}{i k:Nat}{s:List UInt8}{a b:Except Nat (Nat×Nat)}(h1:k<ts.length->Fa ts i a)(h2:Fa ts i b):Fa ts i (if ap ts k s=true then a else b):=by
 split;·rename_i h;exact h1 (E9 h)
 exact h2
theorem akQ{ts:List PT}{i op j:Nat}(a:op≠0)(h1:i<j)(h2:j<=ts.length):Fa ts i (.ok (op,j)):=Or.inr ⟨a,h1,h2⟩
theorem akR{ts:List PT}{i:Nat}:Fa ts i (.ok (0,i)):=Or.inl ⟨rfl,rfl⟩
theorem akS{ts:List PT}{i e:Nat}(h1:i<=e)(h2:e<=ts.length):Fa ts i (.error e):=⟨h1,h2⟩
theorem VO{ts:List PT}{i:Nat}(hi:i<=ts.length):Fa ts i (ji ts i):=by
 unfold ji;repeat' first | exact akR | exact akQ de Om Om | exact akS Om Om | refine akP (λh=> ?_) ?_
theorem ac9{ts:List PT}{i:Nat}(h : ¬jZ ts i=0):i<ts.length:=by
 unfold jZ at h;rcases B9 i ts.length with g | g
 ·exact g
 exfalso;have hn : ∀s,ap ts i s=false:=λs=>by
  cases hs:ap ts i s with
  | true=>have:=E9 hs;omega
  | false=>rfl
 simp[hn] at h
theorem akT{ts:List PT}{i:Nat}(hi:i<=ts.length){E:Nat->Prop}{P:List Nd->Nat->Prop}(a : ∀e,i<=e->e<=ts.length->E e){A:PR}{B:Nat->Nat->PR}(hA:Gd E P A)(b : ∀op j,i<j->j<=ts.length->Gd E P (B op j)):Gd E P (match ji ts i with | .error e=>some (.error e) | .ok (0,_)=>A | .ok (op+1,j)=>B op j):=by
 have ho:=VO hi;match ji ts i,ho with
 | .error e,ho=>exact a e ho.1 ho.2
 | .ok (0,_),_=>exact hA
 | .ok (op+1,j),ho=>
   rcases ho with ⟨h,_⟩ | ⟨_,h1,h2⟩
   ·cases h
   exact b op j h1 h2
theorem akU{ts:List PT}{f:Nat}(b:Bi ts f):Bi ts (f+1):=by
 intro a i hg hi d;cases a;case' maybe k l c=>cases c
 case' mg l acc=>obtain⟨t,ht⟩:=VL hg
 all_goals first | simp only[gr,ht] | simp only[gr,je,iF,iT]
 case' cmpL n acc=>refine akT hi (λe h1 h2=>⟨h1,h2⟩) ?_ λop j h1 h2=> ?_
 all_goals (repeat' first | (have g:=zh (by rw[h];decide);clear h) | (have g:=zh (i:=i) (ts:=ts) Om;clear h) | (have g:=ac9 h;clear h) | (with_reducible refine ac7 (λh=> ?_) ?_) | ((with_reducible refine ac5 ?_ ?_);exact⟨Om,Om⟩;intro h) | ((with_reducible refine ac6 ?_ ?_ ?_);decide;exact⟨Om,Om⟩;intro h) | ((with_reducible refine akN ?_);exact⟨Om,Om⟩) | ((with_reducible refine akO ?_);refine⟨?_,Om,?_⟩<;>(simp only[NT.min,NT.acc,bZ,bN,cG]<;>omega)) | ((with_reducible refine akM ?_);refine⟨?_,Om,?_⟩<;>(simp only[NT.min,NT.acc,bZ,bN,cG]<;>omega)) | ((with_reducible refine b.one ?_ ?_ ?_ ?_ ?_ ?_);(first | exact DQ | simp[NT.jX]);omega;simp only[NT.lF] at d⊢;omega;intro e g5 g6;exact⟨Om,g6⟩;rfl;intro t j g1 g3;simp only[NT.min] at g1) | ((with_reducible refine b.VN ?_ ?_ ?_ ?_ ?_ ?_);(first | exact DQ | simp[NT.jX]);omega;simp only[NT.lF] at d⊢;omega;intro e g5 g6;exact⟨Om,g6⟩;rfl;intro l j g1 g2 g3 g4;simp only[NT.acc,Option.getD_some,bZ,bN,cG] at g3 g4) | ((with_reducible refine b.Aq ?_ ?_ ?_ ?_ ?_);(first | exact DQ | simp[NT.jX]);omega;simp only[NT.lF] at d⊢;omega;intro e g5 g6;exact⟨Om,g6⟩;intro l j g1 g3 g4;simp only[NT.acc,bZ,bN,cG] at g4;simp only[NT.min] at g1;refine⟨?_,Om,?_⟩<;>(simp only[NT.min,NT.acc,bZ,bN,cG]<;>omega)) | (with_reducible refine ac8 (λh=> ?_) (λh=> ?_)))
theorem Bj{ts:List PT} : ∀f,Bi ts f
 | 0=>λa i _ hi h=>by omega
 | f+1=>akU (Bj f)
def kR (a b:PR):Prop:=∀r,a=some r->b=some r
theorem kR.refl{a:PR}:kR a a:=λ_ h=>h
theorem Ql{r a:PR}{k k':List Nd->Nat->PR}(h:kR r a)(hk : ∀l j,kR (k l j) (k' l j)):kR (pb r k) (pb a k'):=λx hx=>by
 match r,h,hx with
 | none,_,hx=>cases hx
 | some (.error e),h,hx=>rw[h _ rfl];exact hx
 | some (.ok (l,j)),h,hx=>rw[h _ rfl];exact hk l j x hx
theorem VP{r a:PR}{k k':Nd->Nat->PR}(h:kR r a)(hk : ∀t j,kR (k t j) (k' t j)):kR (bG r k) (bG a k'):=Ql h λl j=>by
 match l with
 | []=>exact kR.refl
 | [t]=>exact hk t j
 | _::_::_=>exact kR.refl
theorem VS{ts:List PT}{s:List UInt8}{i:Nat}{k k':Nat->PR}(hk : ∀j,kR (k j) (k' j)):kR (gW ts s i k) (gW ts s i k'):=by
 unfold gW;split;·exact hk _
 exact kR.refl
theorem VT{ts:List PT}{kd:Int}{i:Nat}{k k':List UInt8->Nat->PR}(hk : ∀s j,kR (k s j) (k' s j)):kR (mS ts kd i k) (mS ts kd i k'):=by
 unfold mS;split;·exact hk _ _
 exact kR.refl
theorem Qm{c:Prop}[Decidable c]{a b a' d:PR}(h1:kR a a')(h2:kR b d):kR (if c then a else b) (if c then a' else d):=by
 split;·exact h1
 exact h2
def VU (ts:List PT)(f g:Nat):Prop:=∀a i,kR (gr ts f a i) (gr ts g a i)
theorem akW{ts:List PT}{f g:Nat}(c:VU ts f g):VU ts (f+1) (g+1):=by
 have c : ∀a i,kR (gr ts f a i) (gr ts g a i):=c;intro a i;cases a;case cmpL n b=>
  simp only[gr];split;all_goals repeat' first | (with_reducible exact kR.refl) | (with_reducible exact c _ _) | (with_reducible refine Qm ?_ ?_) | (with_reducible refine VS λ_=> ?_) | (with_reducible refine VT λ_ _=> ?_) | (with_reducible refine VP (c _ _) λ_ _=> ?_) | (with_reducible refine Ql (c _ _) λ_ _=> ?_)
 case mg a b=>
  simp only[gr];cases b.getLast? with
  | none=>exact Qm kR.refl kR.refl
  | some t=>repeat' first | (with_reducible exact kR.refl) | (with_reducible exact c _ _) | (with_reducible refine Qm ?_ ?_) | (with_reducible refine VS λ_=> ?_) | (with_reducible refine VT λ_ _=> ?_) | (with_reducible refine VP (c _ _) λ_ _=> ?_) | (with_reducible refine Ql (c _ _) λ_ _=> ?_)
 all_goals simp only[gr]
 all_goals (repeat' first | (with_reducible exact kR.refl) | (with_reducible exact c _ _) | (with_reducible refine Qm ?_ ?_) | (with_reducible refine VS λ_=> ?_) | (with_reducible refine VT λ_ _=> ?_) | (with_reducible refine VP (c _ _) λ_ _=> ?_) | (with_reducible refine Ql (c _ _) λ_ _=> ?_))
theorem ac'{ts:List PT} : ∀f,VU ts f (f+1)
 | 0=>λa i r h=>by cases h
 | f+1=>akW (ac' f)
theorem akX{ts:List PT}{f g:Nat}(h:f<=g){a:NT}{i:Nat}{r:Except Nat (List Nd×Nat)}(b:gr ts f a i=some r):gr ts g a i=some r:=by
 induction h with
 | refl=>exact b
 | step _ c=>exact ac' _ a i r c
end
section
open Go Go.RowKit
def jF (t:PT):List ae:= [.int .i64 t.kind, .int .i64 t.line, .string ⟨⟨t.text⟩⟩]
def tX:uD PT:=λ_ cs t=>cs=jF t
def xO (t:PT):dD:= .cells (jF t) 85 .ex
structure Sl where
 q:Option Addr
 n:Nat
 c:Nat
theorem Qn{K:CH}{q:Option Addr}{c:Nat}{ts:List PT}(h:ig 3 tX K q c ts){i:Nat}(hi:i<ts.length) : ∃l o os e kd,q=some ⟨l,o,none⟩/\K.ob l= .cells os e kd/\l<K.nx/\o+i*3+3<=os.length/\(os.drop (o+i*3)).take 3=jF ts[i]/\os[o+i*3+1]? = some (.int .i64 ts[i].line):=by
 rcases h with ⟨rfl,_⟩ | ⟨l,o,os,e,kd,rfl,h1,h2,h3,h4,h5,a⟩
 ·cases hi
 have g:_=_:=a i hi;refine⟨l,o,os,e,kd,rfl,h4,h1,Om,g,?_⟩;have:os[o+i*3+1]? = (jF ts[i])[1]? :=by rw[<-g,sA de,pI]
 rw[this];rfl
theorem oQ{K:CH}{o o':dD}:(K.new o).set K.nx o'=K.new o':=by
 unfold CH.set CH.new;congr 1
 funext k
 by_cases h:k=K.nx
 ·simp[h]
 simp[h]
abbrev pS(l:List UInt8):ByteArray:=⟨⟨l⟩⟩
theorem LQ{l:List UInt8}{i:Nat}:(pS l)[i]? = l[i]? :=by
 show(if h:i<(pS l).size then some ((pS l)[i]'h) else none)=_;by_cases h:i<l.length
 ·have h':i<(pS l).size:=h;rw[dif_pos h',cj h];rfl
 have h' : ¬i<(pS l).size:=h;rw[dif_neg h',uA Om]
theorem H8{a b:List UInt8}:bP (binOp .eql 0 (.string (pS a)) (.string (pS b)))=some (.bool (decide (a=b))):=by
 have h:((pS a).toList==(pS b).toList)=decide (a=b):=by
  have h : ∀l:List UInt8,(pS l).toList=l:=λl=>by simp[ByteArray.toList_eq]
  rw[h,h];by_cases e:a=b
  ·simp[e]
  rw[decide_eq_false e];simpa using e
 simp only[binOp,Op.stringOp,bP,Pure.pure,h]
def rpC (sl:Sl)(i:Nat):dD:= .cells [.slice sl.q sl.n sl.c, .int .i64 (i:Nat)] 114 .ex
structure RpP(K:CH)(p:Nat)(sl:Sl)(ts:List PT)(i:Nat):Prop where
 ob:K.ob p=rpC sl i
 pl:p<K.nx
 il:i<=ts.length
 n:sl.n=ts.length
 tk:ig 3 tX K sl.q sl.c ts
mutual
def cF:Nd->List SV
 | .mk k l x o ks=> [.sc (.int .i64 (k:Nat)), .sc (.int .i64 l), .sc (.string ⟨⟨x⟩⟩), .sc (.int .i64 (o:Nat)), .row 5 (cT ks)]
def cT:List Nd->List (List SV)
 | []=> []
 | n::ks=>cF n::cT ks
end
theorem H9 : ∀ {a b:List Nd},cT (a++b)=cT a++cT b
 | [],b=>rfl
 | n::a,b=>by simp only[gZ,cT,H9]
theorem jG : ∀ {a:List Nd},(cT a).length=a.length
 | []=>rfl
 | n::a=>by simp only[cT,bN,jG]
theorem ada{t:Nd}:(cF t).length=5:=by cases t;rfl
theorem Fb : ∀ {a:List Nd} {i:Nat} {t:Nd},a[i]? = some t->(cT a)[i]? = some (cF t)
 | [],i,t,h=>by simp at h
 | n::a,0,t,h=>by simp at h;subst h;rfl
 | n::a,i+1,t,h=>by simpa[cT] using Fb (a:=a) (i:=i) (by simpa using h)
def vi (t:Nd):AV:= .r (.agg ((cF t).map .s))
def adb (t:PT):AV:= .r (.agg [cS (.int .i64 t.kind),cS (.int .i64 t.line),cS (.string ⟨⟨t.text⟩⟩)])
structure VV(Z:TP)(sl:Sl)(ts:List PT):Prop where
 n:sl.n=ts.length
 q : ∀l o,sl.q=some ⟨l,o,none⟩->Z.N l
 tk : ∀K:CH,(∀b,Z.N b->b<K.nx/\K.ob b=Z.M b)->ig 3 tX K sl.q sl.c ts
theorem akY{K:CH}{E:TE}{t:PT}:cp K E (adb t) (.agg (jF t).toArray):= .r (.agg (vs:=jF t) (.cons (.s (.sc rfl)) (.cons (.s (.sc rfl)) (.cons (.s (.sc rfl)) .nil))))
theorem Ia{K:CH}{E:TE}{v:ae}(h:a8 v=true):cp K E (rS v) v:= .r (.c (.s (.sc h)))
theorem adc{K:CH}{E:TE} : ∀ {L:List ae} {vs:List ae},R2 (cp K E) (L.map rS) vs->vs=L
 | [],_, .nil=>rfl
 | v::L,_, .cons h t=>by rw[adc t,uZ h rfl]
theorem akZ{Z:TP}{T:cw}{X:dz}{f:aS}{args:List AV}{e:aI}{s s':List SV}{Q:AV->List SV->Prop}{R:ae->Prop}(h:s=s')(g:TC Z T X f args (some (e,s')) Q R):TC Z T X f args (some (e,s)) Q R:=by rw[h];exact g
theorem ade{i n:Nat}(h:i<n)(hn:n<=4398046510976):(IntKind.wrap .i64 ((i:Int)+1))=((i+1:Nat):Int):=by
 rw[eU Om Om];omega
def rdS (sl:Sl)(i:Nat):List SV:= [.sc (.slice sl.q sl.n sl.c), .sc (.int .i64 (i:Nat))]
abbrev rdR(sl:Sl)(i:Nat):Self:=some (114,rdS sl i)
section
variable {Z:TP} {X:dz} {W:Int->ae} {ts:List PT} {sl:Sl} {R:ae->Prop} {Q:AV->List SV->Prop} {E:Nat->Prop} {P:List Nd->Nat->Prop} {i:Nat}
end
def wrV (l:Int):ae:= .iface 116 (.agg #[.int .i64 l])
def pX:dz:=λf args H v H'=>f=139/\∃p sl ts i,args= [.pointer (some ⟨p,0,none⟩)]/\RpP H p sl ts i/\v=wrV (aC ts i).line/\H'=H.new (xO (aC ts i))
noncomputable def ak0:Code:=match (Tryz.f68).body with
 | some (.seq _ (.seq _ (.cond _ x _)))=>x
 | _=> .skip
noncomputable def gd0:Array Oper:=match (Tryz.f68).body with
 | some (.seq (.region _ ops _) _)=>ops
 | _=> #[]
noncomputable def gd2:Array Oper:=match ak0 with
 | .seq (.region _ ops _) _=>ops
 | _=> #[]
end
section
open Go Go.RowKit
attribute [local irreducible] TC ap aC jb
section
variable {Z:TP} {X:dz} {W:Int->ae} {ts:List PT} {sl:Sl} {R:ae->Prop} {Q:AV->List SV->Prop} {E:Nat->Prop} {P:List Nd->Nat->Prop} {i:Nat}
end
end
section
open Go Go.RowKit
attribute [local irreducible] TC ap aC jb
theorem VW{ts:List PT}{f:Nat}{a:NT}{i:Nat}(hg:a.jX)(hi:i<=ts.length){E:Nat->Prop}{P:List Nd->Nat->Prop}(h:Gd E P (gr ts f a i)):Gd (λe=>E e/\e<=ts.length) (λl j=>P l j/\a.post i ts.length l j) (gr ts f a i):=by
 cases b:gr ts f a i with
 | none=>rw[b] at h;exact h
 | some r=>
   have h1:=Bj (ts:=ts) (max f (ts.length*64+a.lF+1)) a i hg hi Om;rw[akX (yr ..) b] at h1;rw[b] at h;match r,h,h1 with
   | .error e,h,h1=>exact⟨h,h1.2⟩
   | .ok (l,j),h,h1=>exact⟨h,h1⟩
def ak1:List Nd->AV
 | [t]=>vi t
 | _=> .bad
def adf (l:List Nd):AV:= .r (.c (.s (.row 5 (cT l))))
def Fc (acc:List Nd)(c:CV):Prop:=(acc= []/\c= .s (.row 5 []))\/(acc≠ []/\c= .own 0 26 5 (cT acc))
theorem Ib{acc:List Nd}{t:Nd}{g:List (List SV)}(h:g=cT acc++ [cF t]):Fc (acc++ [t]) (.own 0 26 5 g):= .inr ⟨Sm,by rw[h,H9];rfl⟩
theorem C7{acc:List Nd}{t:Nd}:cT (acc++ [t])=cT acc++ [cF t]:=by rw[H9];rfl
theorem ak2{a b c d:CV}{acc:List Nd}{t:Nd}{g:List (List SV)}(h:g=cT acc++ [cF t]):AV.r (.agg [a,b,c,d,CV.s (.row 5 g)])=AV.r (.agg [a,b,c,d,CV.s (.row 5 (cT (acc++ [t])))]):=by rw[h,C7]
theorem ak3{acc:List Nd}{t:Nd}{g:List (List SV)}(h:g=cT acc++ [cF t]):AV.r (.c (CV.s (.row 5 g)))=AV.r (.c (CV.s (.row 5 (cT (acc++ [t]))))):=by rw[h,C7]
theorem ak4{acc:List Nd}(aB:acc≠ [])(a:(cT acc).length<=maxLen):IntKind.wrap .i64 (((cT acc).length:Int)-1)=((acc.length-1:Nat):Int):=by
 rw[jG] at a⊢;rw[gE] at a;have:acc.length≠0:=λe=>aB (List.length_eq_zero_iff.1 e);rw[eU Om Om];omega
theorem ak5{acc:List Nd}{t:Nd}(h:acc.getLast? = some t):acc[acc.length-1]? = some t:=by rw[<-h,List.getLast?_eq_getElem?]
theorem ak6{E:Nat->Prop}{P:List Nd->Nat->Prop}{t:Nd}{j:Nat}{k:Nd->Nat->PR}(h:Gd E (λl j=>∃t,l= [t]/\Gd E P (k t j)) (bV t j)):Gd E P (k t j):=by
 obtain⟨t',e,h⟩:=h;cases e;exact h
theorem VY{m:Nat}(h:m<=2199023255552):BdA m 64:=⟨Om,by rw[gE];omega⟩
theorem VZ{Q:AV->List SV->Prop}{a a':AV}{s s':List SV}(ha:a=a')(hs:s=s')(h:Q a' s'):Q a s:=by rw[ha,hs];exact h
theorem ak7{E:Nat->Prop}{P:List Nd->Nat->Prop}{acc:List Nd}{A B:PR}{b:Bool}{a no:Prop}(c:Gd E P (if acc.length=1 then A else B))(hb:b=true↔acc.length=1)(h1:Gd E P A->a)(h2:Gd E P B->no):A6 b a no:=by
 refine eO (λh=> ?_) λh=> ?_;·rw[iP (hb.1 h)] at c;exact h1 c
 rw[iN (λg=>by rw[hb.2 g] at h;cases h)] at c;exact h2 c
theorem ak8{p q:Prop}[Decidable p][Decidable q]{a b:PR}:(if p/\q then a else b)=if p then (if q then a else b) else b:=by
 by_cases hp:p<;>by_cases c:q<;>simp[hp,c]
abbrev oN(cs:List CV):Nat×aI×List CV:=(0,26,cs)
abbrev jk:List CV:= [cS (.int .i64 0),cS (.int .i64 0),cS (.string ⟨⟨[]⟩⟩),cS (.int .i64 0), .s (.row 5 [])]
abbrev nC(k:Nat)(l:Int)(x:List UInt8)(o:Nat)(c:CV):List CV:= [cS (.int .i64 (k:Nat)),cS (.int .i64 l),cS (.string ⟨⟨x⟩⟩),cS (.int .i64 (o:Nat)),c]
abbrev nA(k:Nat)(l:Int)(x:List UInt8)(o:Nat)(ks:List Nd):List CV:=nC k l x o (.s (.row 5 (cT ks)))
def PC (Z:TP)(X:dz)(W:Int->ae)(ts:List PT)(sl:Sl)(f:Nat)(a:NT)(F:aS)(args:List AV)(b:List Nd->AV):Prop:=
 ∀(i:Nat) (Q:AV->List SV->Prop) (R:ae->Prop) (E:Nat->Prop) (P:List Nd->Nat->Prop),i<=ts.length->Gd E P (gr ts f a i)->(∀e,E e->R (W (aC ts e).line))->(∀l j,P l j->j<=ts.length->Q (b l) (rdS sl j))->TC Z (bF Tryz.prog LG GG) X F args (rdR sl i) Q R
section
variable {Z:TP} {X:dz} {W:Int->ae} {ts:List PT} {sl:Sl} {R:ae->Prop} {Q:AV->List SV->Prop} {E:Nat->Prop} {P:List Nd->Nat->Prop} {i:Nat}
end
end
section
mutual
def eX:Nd->Nat
 | .mk _ _ _ _ ks=>gk ks+1
def gk:List Nd->Nat
 | []=>0
 | n::ks=>max (eX n) (gk ks)
end
theorem ak9{ks:List Nd}{i:Nat}{t:Nd}(h:ks[i]? = some t):gk (ks.drop i)=max (eX t) (gk (ks.drop (i+1))):=by
 obtain⟨hi,rfl⟩:=List.getElem?_eq_some_iff.1 h;rw[mz hi];rfl
theorem adg : ∀ {ks:List Nd} {t:Nd},t∈ks->eX t<=gk ks
 | n::ks,t,h=>by
   rcases List.mem_cons.1 h with rfl | h
   ·exact yr _ _
   exact cy (adg h) (Nat.le_max_right _ _)
mutual
def cu:Nd->Nat
 | .mk _ _ _ _ ks=>aZ ks+1
def aZ:List Nd->Nat
 | []=>0
 | n::ks=>cu n+aZ ks
end
mutual
theorem ak' : ∀n:Nd,eX n<=cu n
 | .mk _ _ _ _ ks=>Nat.succ_le_succ (V0 ks)
theorem V0 : ∀ks:List Nd,gk ks<=aZ ks
 | []=>ai _
 | n::ks=>Nat.max_le.2 ⟨cy (ak' n) (Nat.le_add_right _ _),cy (V0 ks) (Nat.le_add_left _ _)⟩
end
theorem C8 : ∀ {a b:List Nd},aZ (a++b)=aZ a+aZ b
 | [],b=>(Nat.zero_add _).symm
 | n::a,b=>by simp only[gZ,aZ,C8,oa]
def NT.sz:NT->Nat
 | .params _ _ c=>aZ c
 | .row _ b=>aZ b
 | .wJ _ b=>aZ b
 | .Bg a=>cu a
 | .Bh a=>cu a
 | .cmpL a b=>cu a+aZ b
 | .zd a=>cu a
 | .wK a=>cu a
 | .xN a=>cu a
 | .index a=>cu a
 | .clauses a=>aZ a
 | .zf _ b=>aZ b
 | .placesL _ b=>aZ b
 | .names _ _ c=>aZ c
 | .mg _ b=>aZ b
 | .zg a=>aZ a
 | .p9 a=>aZ a
 | .sV _ b=>aZ b
 | .top a=>aZ a
 | _=>0
def NT.lo:NT->Nat
 | .atom=>50
 | .primary=>50
 | .rR=>50
 | .term=>50
 | .arith=>50
 | .compare=>49
 | .expr=>49
 | .exprs=>48
 | .one=>50
 | .places=>49
 | .value=>47
 | .plain=>40
 | .simple=>40
 | .block=>30
 | .stmt=>30
 | .ifs _=>20
 | .not=>49
 | .and=>49
 | .or=>49
 | _=>0
def NT.ad:NT->Nat
 | .wJ _ _=>1
 | .cmpL _ _=>1
 | .zf _ _=>1
 | .placesL _ _=>1
 | .params _ _ _=>1
 | .maybe _ _ _=>1
 | .mg _ _=>1
 | .list _=>1
 | .ze _=>1
 | .sV _ _=>1
 | _=>0
def lK (P:List Nd->Nat->Prop)(r:PR):Prop:=Gd (λ_=>True) P r
theorem V1{E E':Nat->Prop}{P a:List Nd->Nat->Prop}{r:PR}(h:Gd E P r)(h':Gd E' a r):Gd (λe=>E e/\E' e) (λl j=>P l j/\a l j) r:=by
 match r,h,h' with
 | some (.error e),h,h'=>exact⟨h,h'⟩
 | some (.ok (l,j)),h,h'=>exact⟨h,h'⟩
theorem ala{ts:List PT}{s:List UInt8}{i:Nat}{a b:PR}{P:List Nd->Nat->Prop}(h1:i<ts.length->lK P a)(h2:lK P b):lK P (if ap ts i s=true then a else b):=ac7 h1 h2
theorem alb{c:Prop}[Decidable c]{a b:PR}{P:List Nd->Nat->Prop}(h1:c->lK P a)(h2 : ¬c->lK P b):lK P (if c then a else b):=ac8 h1 h2
theorem alc{ts:List PT}{s:List UInt8}{i:Nat}{k:Nat->PR}{P:List Nd->Nat->Prop}(h2:i<ts.length->lK P (k (i+1))):lK P (gW ts s i k):=ac5 trivial h2
theorem ald{ts:List PT}{kd:Int}(a:kd≠0){i:Nat}{k:List UInt8->Nat->PR}{P:List Nd->Nat->Prop}(h2:i<ts.length->lK P (k (aC ts i).text (i+1))):lK P (mS ts kd i k):=ac6 a trivial h2
theorem ale{t:Nd}{j:Nat}{P:List Nd->Nat->Prop}(h:P [t] j):lK P (bV t j):=h
theorem alf{l:List Nd}{j:Nat}{P:List Nd->Nat->Prop}(h:P l j):lK P (some (.ok (l,j))):=h
theorem adh{e:Nat}{P:List Nd->Nat->Prop}:lK P (some (.error e)):=trivial
def Bl (ts:List PT)(f:Nat):Prop:=∀(a:NT) (i:Nat),a.jX->i<=ts.length->ts.length*64+a.lF<f+i*64->lK (λl j=>aZ l+64*i+a.lo<=a.sz+64*j+a.ad) (gr ts f a i)
theorem Bl.one{ts:List PT}{f:Nat}(h:Bl ts f){a:NT}{i:Nat}{P:List Nd->Nat->Prop}{k:Nd->Nat->PR}(hg:a.jX)(hi:i<=ts.length)(b:ts.length*64+a.lF<f+i*64)(ha:a.acc=none)(c : ∀t j,i+a.min<=j->j<=ts.length->cu t+64*i+a.lo<=a.sz+64*j+a.ad->lK P (k t j)):lK P (bG (gr ts f a i) k):=by
 unfold lK;rw[LP];refine(V1 (Bj f a i hg hi b) (h a i hg hi b)).mono (λ_ _=>trivial) λl j h=> ?_;obtain⟨⟨h1,h2,h3⟩,h4⟩:=h;rw[ha] at h3;obtain⟨t,rfl⟩:=VJ h3;exact⟨t,rfl,c t j h1 h2 h4⟩
theorem Bl.VN{ts:List PT}{f:Nat}(h:Bl ts f){a:NT}{i:Nat}{P:List Nd->Nat->Prop}{k:List Nd->Nat->PR}(hg:a.jX)(hi:i<=ts.length)(b:ts.length*64+a.lF<f+i*64)(c : ∀l j,i+a.min<=j->j<=ts.length->aZ l+64*i+a.lo<=a.sz+64*j+a.ad->lK P (k l j)):lK P (pb (gr ts f a i) k):=by
 unfold lK;rw[Qk];refine(V1 (Bj f a i hg hi b) (h a i hg hi b)).mono (λ_ _=>trivial) λl j h=> ?_;obtain⟨⟨h1,h2,h3⟩,h4⟩:=h;exact c l j h1 h2 h4
theorem Bl.Aq{ts:List PT}{f:Nat}(h:Bl ts f){a:NT}{i:Nat}{P:List Nd->Nat->Prop}(hg:a.jX)(hi:i<=ts.length)(b:ts.length*64+a.lF<f+i*64)(c : ∀l j,i+a.min<=j->j<=ts.length->aZ l+64*i+a.lo<=a.sz+64*j+a.ad->P l j):lK P (gr ts f a i):=
 (V1 (Bj f a i hg hi b) (h a i hg hi b)).mono (λ_ _=>trivial) λl j ⟨⟨h1,h2,h3⟩,h4⟩=>c l j h1 h2 h4
theorem adi{ts:List PT}{i:Nat}(hi:i<=ts.length){P:List Nd->Nat->Prop}{A:PR}{B:Nat->Nat->PR}(hA:lK P A)(a : ∀op j,i<j->j<=ts.length->lK P (B op j)):lK P (match ji ts i with | .error e=>some (.error e) | .ok (0,_)=>A | .ok (op+1,j)=>B op j):=by
 have ho:=VO hi;match ji ts i,ho with
 | .error e,ho=>exact adh
 | .ok (0,_),_=>exact hA
 | .ok (op+1,j),ho=>
   rcases ho with ⟨h,_⟩ | ⟨_,h1,h2⟩
   ·cases h
   exact a op j h1 h2
theorem alg{ts:List PT}{f:Nat}(b:Bl ts f):Bl ts (f+1):=by
 intro a i hg hi d;cases a;case' maybe k l c=>cases c
 case' mg l acc=>obtain⟨t,ht⟩:=VL hg
 case' cmpL n acc=>cases hb:acc.isEmpty
 all_goals first | simp only[gr,ht] | simp only[gr,hb,je,iF,iT] | simp only[gr,je,iF,iT]
 case' cmpL.false=>refine adi hi ?_ λop j h1 h2=> ?_
 case' cmpL.true=>refine adi hi ?_ λop j h1 h2=> ?_
 all_goals (repeat' first | (have e:=zh (by rw[h];decide);clear h) | (have e:=zh (i:=i) (ts:=ts) Om;clear h) | (have e:=ac9 h;clear h) | (with_reducible refine ala (λh=> ?_) ?_) | ((with_reducible refine alc ?_);intro h) | ((with_reducible refine ald ?_ ?_);decide;intro h) | (with_reducible exact adh) | ((with_reducible refine ale ?_);simp only[NT.min,NT.sz,NT.lo,NT.ad,cu,aZ,C8];omega) | ((with_reducible refine alf ?_);simp only[NT.min,NT.sz,NT.lo,NT.ad,cu,aZ,C8];omega) | ((with_reducible refine b.one ?_ ?_ ?_ ?_ ?_);(first | exact DQ | simp[NT.jX]);omega;simp only[NT.lF] at d⊢;omega;rfl;intro t j g1 g3 g7;simp only[NT.min,NT.sz,NT.lo,NT.ad,cu,aZ,C8] at g1 g7) | ((with_reducible refine b.VN ?_ ?_ ?_ ?_);(first | exact DQ | simp[NT.jX]);omega;simp only[NT.lF] at d⊢;omega;intro l j g1 g3 g7;simp only[NT.min,NT.sz,NT.lo,NT.ad,cu,aZ,C8] at g1 g7) | ((with_reducible refine b.Aq ?_ ?_ ?_ ?_);(first | exact DQ | simp[NT.jX]);omega;simp only[NT.lF] at d⊢;omega;intro l j g1 g3 g7;simp only[NT.min,NT.sz,NT.lo,NT.ad,cu,aZ,C8] at g1 g7⊢;omega) | (with_reducible refine alb (λh=> ?_) (λh=> ?_)))
theorem Qo{ts:List PT} : ∀f,Bl ts f
 | 0=>λa i _ hi h=>by omega
 | f+1=>alg (Qo f)
end
section
open Go Go.RowKit
attribute [local irreducible] TC ap aC jb
theorem LU{i n:Nat}(h:i<n)(hn:n<=maxLen):(IntKind.wrap .i64 ((i:Int)+1))=((i+1:Nat):Int):=by
 rw[gE] at hn;rw[eU Om Om];omega
section
variable {Z:TP} {X:dz} {R:ae->Prop} {Q:AV->List SV->Prop}
theorem alh{ks:List Nd}{i:Nat}{t:Nd}(h:ks[i]? = some t):kq (ks.drop i)=(gK t&&kq (ks.drop (i+1))):=by
 obtain⟨hi,rfl⟩:=List.getElem?_eq_some_iff.1 h;rw[mz hi];rfl
noncomputable def vj:Nd->Nat:=λt=>SizeOf.sizeOf t
theorem Ic{k:Nat}{l:Int}{x:List UInt8}{o:Nat}{ks:List Nd}{t:Nd}(h:t∈ks):vj t<vj (.mk k l x o ks):=by
 have h1:=List.sizeOf_lt_of_mem h;unfold vj;rw[Nd.mk.sizeOf_spec];omega
theorem ali(a b:Nat):(if true=true then (if ((b:Nat):Int)>(a:Nat) then ((b:Nat):Int) else (a:Nat)) else if ((b:Nat):Int)<(a:Nat) then ((b:Nat):Int) else (a:Nat))=((max a b:Nat):Int):=by
 rw[iP rfl];split<;>omega
end
end
section
open Go Go.RowKit
attribute [local irreducible] TC ap aC jb gK
section
variable {Z:TP} {X:dz} {W:Int->ae} {ts:List PT} {sl:Sl} {f:Nat}
end
end
section
open Go Go.RowKit
attribute [local irreducible] TC ap aC jb gK
section
variable {Z:TP} {X:dz} {W:Int->ae} {ts:List PT} {sl:Sl} {f:Nat}
end
end
section
open Go Go.RowKit
def wL:Nd:= .mk 0 0 [] 0 []
def l8(ts:List PT):Nd×Int×Int:=match gr ts (ts.length*64+100) (.top []) 0 with
 | some (.ok (l,_))=>if 60<gk l+1 then (wL,0,11) else (nd 1 (Bf (aC ts 0).line l) l,0,0)
 | some (.error e)=>(wL,(aC ts e).line,22)
 | none=>(wL,0,0)
def V2 (H:CH)(sl:Sl):TP:= .plain (λb=>∃o,sl.q=some ⟨b,o,none⟩) H.ob
theorem alj{H:CH}{sl:Sl}{ts:List PT}(h:ig 3 tX H sl.q sl.c ts){b:Nat}(hb:(V2 H sl).N b):b<H.nx:=by
 obtain⟨o,ho⟩:=hb;rcases h with ⟨_,_,h | h | h⟩ | ⟨l,o',os,e,k,q,hl,_⟩
 ·rw[h] at ho;cases ho
 ·rw[h] at ho;cases ho
 ·rw[h] at ho;cases ho
 rw[q] at ho;cases ho;exact hl
theorem alk{H:CH}{sl:Sl}{ts:List PT}(h:ig 3 tX H sl.q sl.c ts)(hn:sl.n=ts.length):VV (V2 H sl) sl ts:=by
 refine⟨hn,λl o q=>⟨o,q⟩,λK a=> ?_⟩;rcases h with ⟨h1,h2,h3⟩ | ⟨l,o,os,e,k,q,h1,h2,h3,h4,h5,b⟩
 ·exact .inl ⟨h1,h2,h3⟩
 obtain⟨g1,g2⟩:=a l ⟨o,q⟩;exact .inr ⟨l,o,os,e,k,q,g1,h2,h3,g2.trans h4,h5,b⟩
theorem cO{K:CH}{p b:Nat}{o:dD}(h:b≠p):(K.set p o).ob b=K.ob b:=by
 simp only[CH.set];rw[iN h]
theorem alm{T:cw}{X:dz}{f:aS}{args:List AV}{Q:AV->List SV->Prop}(h:TC (.plain (λ_=>False) λ_=> .dead) T X f args none Q λ_=>False){K:CH}{vs:List ae}(hv:R2 (cp K (E0 none λ_=>False)) args vs):aQ T f vs K λv K'=>ag K K'/\∃a s',cp K' (E0 none λ_=>False) a v/\Q a s':=by
 rcases h K none (λ_=>False) (λ_=>False) vs (λ_ h=>h.elim) (λ_ h=>h) (λ_ h=>h.elim) hv rfl (λ_ h=>h) with h | ⟨n,v,H',_,h⟩
 ·exact h.mono λv K' ⟨h1,h2,lI,W',a,s',_,h3,hc,_,_,h4⟩=>⟨⟨h1,λb hb=>h2 b hb Sm id⟩,a,s',h3.A5 hc (λ_=>rfl) λb hb=>⟨⟨hb.1,id,hb.2.2⟩,rfl⟩,h4⟩
 exact h.2.2.elim
attribute [local irreducible] TC ap aC jb gK
theorem aln{K:CH}{A:Nat->Prop}{sz:Nat}{gs:List (List SV)}{w:ae}(h:fk K A (.row sz gs) w) : ∃a n c,w= .slice a n c:=by
 cases h with
 | qI=>exact⟨_,_,_,rfl⟩
 | row=>exact⟨_,_,_,rfl⟩
theorem adj{K:CH}{A:Nat->Prop}(hA : ∀b,A b->b<K.nx){k:Nat}{l:Int}{x:List UInt8}{o:Nat}{ks:List Nd}{w:ae}(hw:fk K A (.row 5 (cT ks)) w):R2 (cp K (E0 none λ_=>False)) [vi (.mk k l x o ks)] [.agg #[.int .i64 (k:Nat), .int .i64 l, .string ⟨⟨x⟩⟩, .int .i64 (o:Nat),w]]:=by
 refine .cons ?_ .nil;have a:fk K (ei K (E0 none λ_=>False)) (.row 5 (cT ks)) w:=hw.mv λb hb=>⟨⟨hA b hb,λh=>h,(λ_ q=>(by cases q)),λo q=>(by
  have q:(if o=0 then none else none)=some b:=q;split at q<;>cases q)⟩,rfl⟩
 exact .r (.agg (vs:= [.int .i64 (k:Nat), .int .i64 l, .string ⟨⟨x⟩⟩, .int .i64 (o:Nat),w]) (.cons (.s (.sc rfl)) (.cons (.s (.sc rfl)) (.cons (.s (.sc rfl)) (.cons (.s (.sc rfl)) (.cons (.s a) .nil))))))
def PrO (H:CH)(t:Nd)(ln a:Int)(vs:List ae)(K':CH):Prop:=ag H K'/\∃os,vs= [.agg os.toArray, .int .i64 ln, .int .i64 a]/\bK K' (λb=>H.nx<=b/\b<K'.nx) (cF t) os
def TyV (vs:List ae)(K':CH):Prop:=∀a0 a a2 a3 b n c r,vs= .agg #[a0,a,a2,a3, .slice (some ⟨b,0,none⟩) n c]::r->∃cs kd,K'.ob b= .cells cs 26 kd
end
section
open Go Go.RowKit
def alo (H:CH)(ts:List PT)(v:ae)(H':CH):Prop:=∃vs,v=dU vs/\PrO H (l8 ts).1 (l8 ts).2.1 (l8 ts).2.2 vs H'/\TyV vs H'
theorem alp{ts:List PT}:Gd (λe=>gr ts (ts.length*64+100) (.top []) 0=some (.error e)) (λl j=>gr ts (ts.length*64+100) (.top []) 0=some (.ok (l,j))/\gk l+1<=64*ts.length+2) (gr ts (ts.length*64+100) (.top []) 0):=by
 have h1:=Bj (ts:=ts) (ts.length*64+100) (.top []) 0 trivial (bR _) (by simp only[NT.lF];omega);have h2:=Qo (ts:=ts) (ts.length*64+100) (.top []) 0 trivial (bR _) (by simp only[NT.lF];omega);match h:gr ts (ts.length*64+100) (.top []) 0,h1,h2 with
 | some (.error e),_,_=>exact rfl
 | some (.ok (l,j)),h1,h2=>
   refine⟨rfl,?_⟩;have h3:aZ l+64*0+0<=0+64*j+0:=h2;have h4:=h1.2.1;have h5:=V0 l;omega
theorem Ie{K:CH}{E:TE}{v w:ae}(h:fT K E (cS v) w):w=v:=by
 cases h with
 | s h=>cases h;rfl
def xQ:List (List UInt8):=S3++S2++S1.map λc=> [c]
theorem alq(H:CH)(x:List UInt8):aQ (bF Tryz.prog LG GG) 75 [.string (str x)] H λv K=>v= .bool (decide (x∈Cg))/\K=H:=by
 refine l5 Rl Kr (aK ?_);repeat' (first | (simp (disch:=first | omega | (decide +kernel)) only[↓RD,RU,↓aH,↓aL,↓bf,cZ,pop,cY,fQ,dU,↓reduceIte,Nat.reduceEqDiff,reduceCtorEq,EO,Pu]) | ((with_reducible first|apply aE|apply aF|apply aG)<;>intro _))
 all_goals first | (subst_vars;rfl) | (rename_i h1 h2 h3 h4 h5 b c d g j l m n o r s t u w y z A B C F G I J L M a;apply congrArg Value.bool;symm;apply decide_eq_false;intro hx;simp only[Cg,c8,List.map_nil,gZ,ju,mD,List.not_mem_nil,or_false] at hx;exact hx.elim h1 λhx=>hx.elim h2 λhx=>hx.elim h3 λhx=>hx.elim h4 λhx=>hx.elim h5 λhx=>hx.elim b λhx=>hx.elim c λhx=>hx.elim d λhx=>hx.elim g λhx=>hx.elim j λhx=>hx.elim l λhx=>hx.elim m λhx=>hx.elim n λhx=>hx.elim o λhx=>hx.elim r λhx=>hx.elim s λhx=>hx.elim t λhx=>hx.elim u λhx=>hx.elim w λhx=>hx.elim y λhx=>hx.elim z λhx=>hx.elim A λhx=>hx.elim B λhx=>hx.elim C λhx=>hx.elim F λhx=>hx.elim G λhx=>hx.elim I λhx=>hx.elim J λhx=>hx.elim L λhx=>hx.elim M λhx=>a hx)
theorem Qp{H:CH}{x:List UInt8}{Q:ae->CH->Prop}:aQ (bF Tryz.prog LG GG) 75 [.string ⟨⟨x⟩⟩] H Q↔Q (.bool (decide (x∈Cg))) H:=sQ (alq H x)
theorem alr(H:CH)(x:List UInt8):aQ (bF Tryz.prog LG GG) 78 [.string (str x)] H λv K=>v= .bool (decide (x∈xQ))/\K=H:=by
 refine l5 Rl Kr (aK ?_);repeat' (first | (simp (disch:=first | omega | (decide +kernel)) only[↓RD,RU,↓aH,↓aL,↓bf,cZ,pop,cY,fQ,dU,↓reduceIte,Nat.reduceEqDiff,reduceCtorEq,EO,Pu]) | ((with_reducible first|apply aE|apply aF|apply aG)<;>intro _))
 all_goals first | (subst_vars;rfl) | (rename_i h1 h2 h3 h4 h5 a b c d g j l m n o r s t u w y z A B C F G I J L;apply congrArg Value.bool;symm;apply decide_eq_false;intro hx;simp only[xQ,S1,S2,S3,c8,List.map_nil,gZ,ju,mD,List.not_mem_nil,or_false] at hx;rcases hx with hx|hx|hx|hx|hx|hx|hx|hx|hx|hx|hx|hx|hx|hx|hx|hx|hx|hx|hx|hx|hx|hx|hx|hx|hx|hx|hx|hx|hx|hx<;>first | exact h1 hx | exact h2 hx | exact h3 hx | exact h4 hx | exact h5 hx | exact a hx | exact b hx | exact c hx | exact d hx | exact g hx | exact j hx | exact l hx | exact m hx | exact n hx | exact o hx | exact r hx | exact s hx | exact t hx | exact u hx | exact w hx | exact y hx | exact z hx | exact A hx | exact B hx | exact C hx | exact F hx | exact G hx | exact I hx | exact J hx | exact L hx)
theorem Bn{H:CH}{x:List UInt8}{Q:ae->CH->Prop}:aQ (bF Tryz.prog LG GG) 78 [.string ⟨⟨x⟩⟩] H Q↔Q (.bool (decide (x∈xQ))) H:=sQ (alr H x)
def Wd (p:Nat->Bool)(t:List UInt8)(j:Nat)(K:CH)(n:Nat)(v:ae)(a:CH):Prop:=∃i:Nat,n=t.length-i/\j<=i/\i<=t.length/\v= .int .i64 (i:Nat)/\a=K/\i+nW p (t.drop i)=j+nW p (t.drop j)
theorem We{t:List UInt8}{i:Nat}(h:i<t.length):t[i]? = some t[i]/\hd (t.drop i)=t[i].toNat:=⟨cj h,Oc h⟩
theorem als(K:CH){t:List UInt8}{j:Nat}(g:j<=t.length)(hl:t.length<=100000):aQ (bF Tryz.prog LG GG) 111 [.string (str t), .int .i64 (j:Nat)] K λv K'=>v= .int .i64 (j+lQ (t.drop j):Nat)/\K'=K:=by
 refine l5 Rl Kr (aK ?_);refine aM ?_;refine ef (λn fr c=>Wd iU t j K n (fr 1) c) (n:=t.length-j) ⟨j,rfl,ai _,g,by(exact aV;all_goals rfl),rfl,rfl⟩ ?_;rintro n fr c ⟨i,rfl,m,hi,f1,rfl,o⟩ b;by_cases d:i<t.length
 ·obtain⟨g1,g2⟩:=We d;by_cases a:iU t[i].toNat=true
  ·have r:=D2 (p:=iU) d (by rw[g2];exact a);refine rn (uF @b @f1 @cJ @dW @g1 @mQ @a) ?_;all_goals exact⟨t.length-(i+1),Om,i+1,rfl,Om,Om,rfl,rfl,Om⟩
  have hn:=Gz (p:=iU) (l:=t.drop i) (.inr (by rw[g2];simpa using a));have e:j+lQ (t.drop j)=i:=by unfold lQ;omega
  rw[e];exact rz (uF @b @f1 @cJ @dW @g1 @mQ @a)
 have hn:=Gz (p:=iU) (l:=t.drop i) (.inl (Cc Om));have e:j+lQ (t.drop j)=i:=by unfold lQ;omega
 rw[e];exact rz (jz @b @f1 @cJ @dW)
theorem alt{K:CH}{t:List UInt8}{j:Nat}(a:j<=t.length)(hl:t.length<=100000){Q:ae->CH->Prop}:aQ (bF Tryz.prog LG GG) 111 [.string ⟨⟨t⟩⟩, .int .i64 (j:Nat)] K Q↔Q (.int .i64 (j+lQ (t.drop j):Nat)) K:=sQ (als K a hl)
theorem adk{p:Nat->Bool} : ∀ {l:List UInt8},(∀x∈l,p x.toNat=true)->nW p l=l.length
 | [],_=>rfl
 | c::r,h=>by
   simp only[nW];rw[iP (h c Sm),adk (λx hx=>h x (by simp[hx])),bN]
theorem alu(K:CH){t:List UInt8}{j:Nat}(r:j<=t.length)(hl:t.length<=100000)(s : ∀x∈t,x.toNat≠10):aQ (bF Tryz.prog LG GG) 41 [.string (str t), .int .i64 (j:Nat)] K λv K'=>v= .int .i64 (j+du (t.drop j):Nat)/\K'=K:=by
 have u : ∀i,i<=t.length->nW (λn=>decide (n≠10)) (t.drop i)=t.length-i:=λi hi=>by
  rw[adk (λx hx=>decide_eq_true (s x (List.mem_of_mem_drop hx))),lB]
 refine l5 Rl Kr (aK ?_);refine aM ?_;refine ef (λn fr m=>Wd (λn=>decide (n=32)) t j K n (fr 1) m) (n:=t.length-j) ⟨j,rfl,ai _,r,by(exact aV;all_goals rfl),rfl,rfl⟩ ?_;rintro n fr m ⟨i,rfl,w,hi,f1,rfl,y⟩ b;by_cases o:i<t.length
 ·obtain⟨g1,g2⟩:=We o;by_cases a:t[i].toNat=32
  ·have z:=D2 (p:=λn=>decide (n=32)) o (by rw[g2];exact decide_eq_true a);refine rn (o8 @b @f1 @cJ @dW @g1 @a) ?_;all_goals exact⟨t.length-(i+1),Om,i+1,rfl,Om,Om,rfl,rfl,Om⟩
  have hn:=Gz (p:=λn=>decide (n=32)) (l:=t.drop i) (.inr (by rw[g2];exact decide_eq_false a));have c:nW (λn=>decide (n=32)) (t.drop j)=i-j:=by omega
  have d:(t.drop j).drop (i-j)=t.drop i:=by rw[j9];congr 1;omega
  by_cases g:t[i].toNat=35
  ·have e:j+du (t.drop j)=t.length:=by
    unfold du;rw[c,d,g2,iP g,u i Om];omega
   rw[e];exact rz (uF @b @f1 @cJ @dW @g1 @a @g)
  have e:j+du (t.drop j)=i:=by
   unfold du;rw[c,d,g2,iN g];omega
  rw[e];exact rz (uF @b @f1 @cJ @dW @g1 @a @g)
 have hn:=Gz (p:=λn=>decide (n=32)) (l:=t.drop i) (.inl (Cc Om));have c:nW (λn=>decide (n=32)) (t.drop j)=i-j:=by omega
 have d:(t.drop j).drop (i-j)= []:=by rw[j9];exact Cc Om
 have e:j+du (t.drop j)=i:=by
  unfold du;rw[c,d,iN de];omega
 rw[e];exact rz (jz @b @f1 @cJ @dW)
theorem alv{K:CH}{t:List UInt8}{j:Nat}(a:j<=t.length)(hl:t.length<=100000)(b : ∀x∈t,x.toNat≠10){Q:ae->CH->Prop}:aQ (bF Tryz.prog LG GG) 41 [.string ⟨⟨t⟩⟩, .int .i64 (j:Nat)] K Q↔Q (.int .i64 (j+du (t.drop j):Nat)) K:=sQ (alu K a hl b)
def vk (n:Nat):Int:=if rj n=16 then -1 else rj n
theorem alw(K:CH){t:List UInt8}{j:Nat}(hl:t.length<=100000):aQ (bF Tryz.prog LG GG) 112 [.string (str t), .int .i64 (j:Nat)] K λv K'=>v= .int .i64 (vk (hd (t.drop j)))/\K'=K:=by
 refine l5 Rl Kr (aK ?_);by_cases g:j<t.length
 ·obtain⟨g1,g2⟩:=We g;rw[g2];have hb:=t[j].toNat_lt;obtain⟨c,hc⟩ : ∃c,t[j].toNat=c:=⟨_,rfl⟩;rw[hc] at hb⊢
  have a:(t[j]?).map (λb=>o7 .u8 (b.toNat:Int))=some (.int .u8 (c:Nat)):=by rw[g1,<-hc];rfl
  by_cases h1:48<=c/\c<=57
  ·have d:iU c=true:=decide_eq_true h1;have e:vk c=(c:Int)-48:=by unfold vk rj;rw[iP h1,iN Om];omega
   rw[e];repeat' (first | (simp (disch:=first | omega | (decide +kernel)) only[↓RD,RU,↓aH,↓aL,↓bf,cZ,eT,pop,cY,fQ,dU,ρ0,ρ1,↓reduceIte,Nat.reduceEqDiff,Int.reduceOfNat,Int.reduceNegSucc,reduceCtorEq,ρ29,cJ,dW,a,mQ,d]) | ((with_reducible first|apply aE|apply aF|apply aG)<;>intro _))
  have d:iU c=false:=decide_eq_false h1;repeat' (first | (simp (disch:=first | omega | (decide +kernel)) only[↓RD,RU,↓aH,↓aL,↓bf,cZ,eT,pop,cY,fQ,dU,ρ0,ρ1,↓reduceIte,Nat.reduceEqDiff,Int.reduceOfNat,Int.reduceNegSucc,reduceCtorEq,ρ29,cJ,dW,a,mQ,d]) | ((with_reducible first|apply aE|apply aF|apply aG)<;>intro _))
  all_goals
   unfold vk rj;rw[iN h1]
   (repeat' split)<;>first | rfl | (exfalso;omega) | (apply congrArg (o7 .i64);omega)
 rw[Cc Om];repeat' (first | (simp (disch:=first | omega | (decide +kernel)) only[↓RD,RU,↓aH,↓aL,↓bf,cZ,eT,pop,cY,fQ,dU,↓reduceIte,Nat.reduceEqDiff,Int.reduceOfNat,Int.reduceNegSucc,reduceCtorEq,cJ]) | ((with_reducible first|apply aE|apply aF|apply aG)<;>intro _))
 all_goals rfl
theorem alx(K:CH){n:Nat}(hn:n<256):aQ (bF Tryz.prog LG GG) 113 [.int .u8 (n:Nat)] K λv K'=>v= .int .u8 (Ae n:Nat)/\K'=K:=by
 refine l5 Rl Kr (aK ?_);repeat' (first | (simp (disch:=first | omega | (decide +kernel)) only[↓RD,RU,↓aH,↓aL,↓bf,cZ,pop,cY,fQ,dU,↓reduceIte,Nat.reduceEqDiff,Int.reduceOfNat,reduceCtorEq]) | ((with_reducible first|apply aE|apply aF|apply aG)<;>intro _))
 all_goals
  unfold Ae
  (repeat' split)<;>first | rfl | (exfalso;omega) | (apply congrArg (o7 .u8);omega)
theorem pA{T:cw}{a b:bQ}{fr:Fr}{H:CH}{Q:bp->Fr->CH->Prop}(I:Fr->CH->Prop)(h:dh T a fr H λx fr' H'=>x= .normal/\I fr' H')(hb : ∀fr' H',I fr' H'->(∀t,nw a t=true->fr' t=fr t)->dh T b fr' H' Q):dh T (.seq a b) fr H Q:=by
 refine dx.2 ?_;refine(abO h).mono λx fr' H' ⟨⟨hx,hi⟩,hk⟩=> ?_;subst hx;exact hb fr' H' hi hk
def xR (r:Option (Nat×List UInt8×Nat))(j:Nat):List ae:=match r with
 | some (k,x,n)=> [.int .i64 k, .string (str x), .int .i64 (j+n:Nat)]
 | none=> [.int .i64 (-1), .string ⟨⟨[]⟩⟩, .int .i64 0]
theorem get_some{t:List UInt8}{i:Nat}(h:i<t.length):(t[i]?).map (λb=>o7 .u8 (b.toNat:Int))=some (.int .u8 (hd (t.drop i):Nat)):=by
 rw[cj h,Oc h];rfl
theorem aly{t:List UInt8}{i:Nat}(h : ¬i<t.length):hd (t.drop i)=0:=by
 rw[Cc Om];rfl
theorem adl{K:CH}{t:List UInt8}{j:Nat}(hj:j<t.length)(hl:t.length<=20000)(M:iU (hd (t.drop j))=true) :
 aQ (bF Tryz.prog LG GG) 76 [.string (str t), .int .i64 (j:Nat)] K λv K'=>ag K K'/\v= .agg (xR (if GA (t.drop j)=true then none else some (Cf (t.drop j),(t.drop j).take (sE (t.drop j)),sE (t.drop j))) j).toArray:=by
 obtain⟨l,O⟩ : ∃l,t.drop j=l:=⟨_,rfl⟩;have Ti:l.length=t.length-j:=by rw[<-O];simp
 have jH : ∀i,t.drop (j+i)=l.drop i:=λi=>by rw[<-O,j9]
 rw[O] at M⊢;refine l5 Rl Kr (aK ?_);refine pA (λfr n=>fr 4= .pointer (some ⟨K.nx,0,none⟩)/\n=K.new (.cells [.int .i64 0, .string ⟨⟨[]⟩⟩, .int .i64 0] 87 .ex)) (by exact aV) ?_;rintro am n ⟨f4,rfl⟩ m;refine pA (λfr n=>fr 5= .int .i64 5/\n=K.new (.cells [.int .i64 0, .string ⟨⟨[]⟩⟩, .int .i64 0] 87 .ex)) (by exact aV) ?_;rintro bt n ⟨f5,rfl⟩ c;have S:=λ(K:CH) (Q:ae->CH->Prop) (i:Nat) (hi:j+i<=t.length)=> @alt K t (j+i) hi Om Q;simp only[jH] at S;have vq:=λK Q=>S K Q 0 Om;simp only[Nat.add_zero,gI] at vq;obtain⟨a,ha⟩ : ∃a,lQ l=a:=⟨_,rfl⟩;have vr:=ajd (l:=l);rw[ha] at vq vr;refine pA (λfr n=>fr 6= .int .i64 (j+a:Nat)/\n=K.new (.cells [.int .i64 0, .string ⟨⟨[]⟩⟩, .int .i64 0] 87 .ex)) (by exact rz (gS @m @c @vq)) ?_;rintro tK n ⟨f6,rfl⟩ d;obtain⟨A,hA⟩ : ∃A,vW l=A:=⟨_,rfl⟩;have hAl:=abZ (l:=l);rw[hA] at hAl;have r:=λ(i:Nat) (hi:j+i<t.length)=>get_some hi;simp only[jH] at r;refine pA (λfr n=>fr 5= .int .i64 (if uH (l.drop a)=0 then 5 else 6:Nat)/\fr 6= .int .i64 (j+A:Nat)/\n=K.new (.cells [.int .i64 0, .string ⟨⟨[]⟩⟩, .int .i64 0] 87 .ex)) ?_ ?_
 ·by_cases hf:hd (l.drop a)=46/\iU (hd (l.drop (a+1)))=true
  ·obtain⟨z,G⟩:=hf;have kH:a+1<l.length:=by
    have:=UE G;exact this
   have g1:=r a Om;have g2:=r (a+1) Om;rw[z] at g1;have e:A=a+1+lQ (l.drop (a+1)):=by
    rw[<-hA];unfold vW uH;rw[ha,iP ⟨z,by rw[j9];exact G⟩,j9];omega
   have gD:=λK Q=>S K Q (a+1) Om;have e2:uH (l.drop a)≠0:=by
    unfold uH;rw[iP ⟨z,by rw[j9];exact G⟩];omega
   rw[iN e2];simp only[<-oa] at g2 gD;refine rn (Ob @m @c @d @f6 @cJ @dW @g1 @g2 @mQ @G @n1 @gD) ?_;all_goals exact⟨rfl,congrArg (o7 .i64) Om⟩
  have e2:uH (l.drop a)=0:=by
   unfold uH;rw[iN (λg=>hf ⟨g.1,by have:=g.2;rw[j9] at this;exact this⟩)]
  have e:A=a:=by rw[<-hA];unfold vW;rw[ha,e2];rfl
  rw[iP e2,e];by_cases kH:a+1<l.length
  ·have g1:=r a Om;have g2:=r (a+1) Om;simp only[<-oa] at g2;by_cases z:hd (l.drop a)=46
   ·have G:iU (hd (l.drop (a+1)))=false:=by simpa using λg=>hf ⟨z,g⟩
    rw[z] at g1;refine rn (Ob @m @c @d @f5 @f6 @cJ @dW @g1 @g2 @mQ @G @n1) ?_;all_goals rfl
   refine rn (Ob @m @c @d @f5 @f6 @cJ @dW @g1 @g2 @mQ @z @n1) ?_;all_goals rfl
  refine rn (qz @m @c @d @f5 @f6 @cJ @dW @n1) ?_;all_goals rfl
 rintro yL n ⟨u,y,rfl⟩ o;obtain⟨N,U⟩ : ∃N,sE l=N:=⟨_,rfl⟩;obtain⟨kd,eg⟩ : ∃kd,Cf l=kd:=⟨_,rfl⟩;have hNl:=ab0 (l:=l);rw[U] at hNl;have Bo:N=A+yx (l.drop A):=by rw[<-U];unfold sE;rw[hA]
 have V:kd=if uH (l.drop a)=0/\yx (l.drop A)=0 then 5 else 6:=by rw[<-eg];unfold Cf;rw[ha,hA]
 have ia:yx (l.drop A)=0->(if uH (l.drop a)=0 then 5 else 6:Nat)=kd:=λg=>by
  rw[V,g];by_cases B:uH (l.drop a)=0
  ·rw[iP B,iP ⟨B,rfl⟩]
  rw[iN B,iN (λg=>B g.1)]
 have jY:yx (l.drop A)≠0->kd=6:=λg=>by rw[V,iN (λg'=>g g'.2)]
 refine pA (λfr n=>fr 5= .int .i64 (kd:Nat)/\fr 6= .int .i64 (j+N:Nat)/\n=K.new (.cells [.int .i64 0, .string ⟨⟨[]⟩⟩, .int .i64 0] 87 .ex)) ?_ ?_
 ·have kH : ∀i,hd (l.drop i)≠0->i<l.length:=λi h=>by
   have:=uG h;simp only[lB] at this;omega
  have w:yx (l.drop A)=if hd (l.drop A)=101 then (if iU (hd (l.drop (A+1)))=true then 1+lQ (l.drop (A+1)) else if (hd (l.drop (A+1))=43\/hd (l.drop (A+1))=45)/\iU (hd (l.drop (A+2)))=true then 2+lQ (l.drop (A+2)) else 0) else 0:=by
   unfold yx;simp only[j9]
  by_cases hE:hd (l.drop A)=101
  ·have B:=kH A Om;have g0:=r A Om;rw[hE] at g0;rw[iP hE] at w;by_cases hs:hd (l.drop (A+1))=43\/hd (l.drop (A+1))=45
   ·have h1:=kH (A+1) Om;have g1:=r (A+1) Om;have Ab:iU (hd (l.drop (A+1)))=false:=by
     rcases hs with g | g<;>rw[g]<;>decide
    rw[Ab,iN de] at w;simp only[<-oa] at g1;by_cases s:iU (hd (l.drop (A+2)))=true
    ·have h2:A+2<l.length:=UE s;have g2:=r (A+2) Om;rw[iP ⟨hs,s⟩] at w;have x:=jY Om;have Y:=λK Q=>S K Q (A+2) Om;simp only[<-oa] at g2 Y;rcases hs with hs | hs<;>rw[hs] at g1
     all_goals
      refine rn (Gx @m @c @d @o @u @y @cJ @dW @g0 @g1 @g2 @mQ @s @n1 @n2 @Y) ?_;all_goals exact⟨by rw[x];rfl,congrArg (o7 .i64) Om⟩
    rw[iN (λg=>s g.2)] at w;have x:=ia w;rw[x] at u;have LX:N=A:=by omega
    rw[LX];by_cases h2:A+2<l.length
    ·have g2:=r (A+2) Om;simp only[<-oa] at g2;rcases hs with hs | hs<;>rw[hs] at g1
     all_goals
      exact rz (agm @m @c @d @o @u @y @cJ @dW @g0 @g1 @g2 @mQ @s @n1 @n2)
    rcases hs with hs | hs<;>rw[hs] at g1
    all_goals
     exact rz (Y7 @m @c @d @o @u @y @cJ @dW @g0 @g1 @mQ @s @n1 @n2)
   have iz : ¬hd (l.drop (A+1))=43:=λg=>hs (.inl g);have iL : ¬hd (l.drop (A+1))=45:=λg=>hs (.inr g);by_cases s:iU (hd (l.drop (A+1)))=true
   ·have h2:A+1<l.length:=UE s;have g1:=r (A+1) Om;rw[iP s] at w;have x:=jY Om;have Y:=λK Q=>S K Q (A+1) Om;simp only[<-oa] at g1 Y;refine rn (Y8 @m @c @d @o @u @y @cJ @dW @g0 @g1 @mQ @s @iz @iL @n1 @n2 @Y) ?_;all_goals exact⟨by rw[x];rfl,congrArg (o7 .i64) Om⟩
   rw[iN s,iN (λg=>hs g.1)] at w;have x:=ia w;rw[x] at u;have LX:N=A:=by omega
   rw[LX];by_cases h2:A+1<l.length
   ·have g1:=r (A+1) Om;simp only[<-oa] at g1;exact rz (Gx @m @c @d @o @u @y @cJ @dW @g0 @g1 @mQ @s @iz @iL @n1 @n2)
   exact rz (Jr @m @c @d @o @u @y @cJ @dW @g0 @mQ @s @n1 @n2)
  rw[iN hE] at w;have x:=ia w;rw[x] at u;have LX:N=A:=by omega
  rw[LX];by_cases h2:A<l.length
  ·have g0:=r A Om;exact rz (D1 @m @c @d @o @u @y @cJ @dW @g0 @hE @n1)
  repeat' (first | (simp (disch:=first | omega | (decide +kernel)) only[↓RD,RU,↓aH,↓aL,↓bf,cZ,pop,↓reduceIte,Nat.reduceEqDiff,Int.reduceOfNat,reduceCtorEq,m,c,d,o,u,y,cJ]) | ((with_reducible first|apply aE|apply aF|apply aG)<;>intro _))
 rintro rI n ⟨LY,LZ,rfl⟩ C;have hjN:j+N-j=N:=by omega
 refine pA (λfr n=>fr 8= .string (str (l.take N))/\n=K.new (.cells [.int .i64 0, .string ⟨⟨[]⟩⟩, .int .i64 0] 87 .ex)) (by repeat' (first | (simp (disch:=first | omega | (decide +kernel)) only[↓RD,RU,↓aH,↓aL,cZ,eT,pop,↓reduceIte,Nat.reduceEqDiff,gT,ρ29,m,c,d,o,C,LZ,cJ,qH,O,hjN]) | ((with_reducible first|apply aE|apply aF|apply aG)<;>intro _))) ?_;rintro fr6 n ⟨f8,rfl⟩ H;have Lx:0<N:=by
  have:=D2 (p:=iU) (l:=l) (j:=0) Om (by simpa using M);have h1:lQ l<=vW l:=by unfold vW;omega
  have h2:lQ l=nW iU (l.drop 0):=by simp[lQ]
  omega
 have I:(l.take N).length=N:=by simp;omega
 have J:((l.take N)[0]?).map (λb=>o7 .u8 (b.toNat:Int))=some (.int .u8 (hd l:Nat)):=by
  rw[sA Lx];have:=r 0 Om;simp only[Nat.add_zero,gI] at this;rw[<-this,<-O,pI];simp
 have L:GA l=(tD (hd (l.drop N))||decide (hd (l.drop N)=46)||decide (540<N)||(decide (kd=5)&&decide (1<N)&&decide (hd l=48))):=by
  unfold GA;rw[U,eg]
 have hgN:=λ(h:N<l.length)=>r N Om;have hx:=((ag.refl K).new (.cells [.int .i64 0, .string ⟨⟨[]⟩⟩, .int .i64 0] 87 .ex));by_cases c1:540<N
 ·rw[iP (by rw[L];simp[c1])];repeat' (first | (simp (disch:=first | omega | (decide +kernel)) only[↓RD,RU,↓aH,↓dA,↓aL,↓bf,bS,br,pop,aD,bq,cY,fQ,dU,isVal,a8,ci,ρ0,ρ1,ρ4,↓reduceIte,Nat.reduceEqDiff,Nat.reduceAdd,Int.reduceOfNat,Int.reduceNegSucc,ρ7,ρ8,ρ15,ρ17,ρ18,ρ19,ρ20,ρ21,ρ22,ρ23,Kd.bY,ρ25,ρ26,dv,Nat.reduceLeDiff,c,d,o,C,H,f4,f8,I,cJ]) | ((with_reducible first|apply aE|apply aF|apply aG)<;>intro _))
  all_goals exact⟨hx.set (ai _) _,rfl⟩
 by_cases c2:kd=5/\1<N/\hd l=48
 ·obtain⟨c2,c3,c4⟩:=c2;rw[iP (by rw[L];simp[c2,c3,c4])];rw[c4] at J;repeat' (first | (simp (disch:=first | omega | (decide +kernel)) only[↓RD,RU,↓aH,↓dA,↓aL,↓bf,bS,br,pop,aD,bq,cY,fQ,dU,isVal,a8,ci,ρ0,ρ1,ρ4,↓reduceIte,Nat.reduceEqDiff,Nat.reduceAdd,Int.reduceOfNat,Int.reduceNegSucc,reduceCtorEq,ρ7,ρ8,ρ15,ρ17,ρ18,ρ19,ρ20,ρ21,ρ22,ρ23,Kd.bY,ρ25,ρ26,dv,Nat.reduceLeDiff,Int.reduceToNat,c,d,o,C,H,f4,LY,f8,I,cJ,dW,J,c2]) | ((with_reducible first|apply aE|apply aF|apply aG)<;>intro _))
  all_goals exact⟨hx.set (ai _) _,rfl⟩
 by_cases c5:N<l.length
 ·have gN:=hgN c5;by_cases c6:tD (hd (l.drop N))=true
  ·rw[iP (by rw[L];simp[c6])];repeat' (first | (simp (disch:=first | omega | (decide +kernel)) only[↓RD,RU,↓aH,↓dA,↓aL,↓bf,bS,br,cZ,pop,aD,bq,cY,fQ,dU,isVal,a8,ci,ρ0,ρ1,ρ4,↓reduceIte,Nat.reduceEqDiff,Nat.reduceAdd,Int.reduceOfNat,Int.reduceNegSucc,reduceCtorEq,ρ7,ρ8,ρ15,ρ17,ρ18,ρ19,ρ20,ρ21,ρ22,ρ23,Kd.bY,ρ25,ρ26,dv,Nat.reduceLeDiff,Int.reduceToNat,ρ29,m,c,d,o,C,H,f4,LY,LZ,f8,I,cJ,dW,J,gN,uX,c6]) | ((with_reducible first|apply aE|apply aF|apply aG)<;>intro _))
   all_goals first | exact⟨hx.set (ai _) _,rfl⟩ | (exfalso;omega)
  have c6':tD (hd (l.drop N))=false:=by simpa using c6
  by_cases c7:hd (l.drop N)=46
  ·rw[iP (by rw[L];simp[c7])];repeat' (first | (simp (disch:=first | omega | (decide +kernel)) only[↓RD,RU,↓aH,↓dA,↓aL,↓bf,bS,br,cZ,pop,aD,bq,cY,fQ,dU,isVal,a8,ci,ρ0,ρ1,ρ4,↓reduceIte,Nat.reduceEqDiff,Nat.reduceAdd,Int.reduceOfNat,Int.reduceNegSucc,reduceCtorEq,ρ7,ρ8,ρ15,ρ17,ρ18,ρ19,ρ20,ρ21,ρ22,ρ23,Kd.bY,ρ25,ρ26,dv,Nat.reduceLeDiff,Int.reduceToNat,ρ29,m,c,d,o,C,H,f4,LY,LZ,f8,I,cJ,dW,J,gN,uX,ajc,c7]) | ((with_reducible first|apply aE|apply aF|apply aG)<;>intro _))
   all_goals first | exact⟨hx.set (ai _) _,rfl⟩ | (exfalso;omega)
  rw[iN (by rw[L];simp[c1,c6,c7];omega),U,eg];repeat' (first | (simp (disch:=first | omega | (decide +kernel)) only[↓RD,RU,↓aH,↓dA,↓aL,↓bf,bS,br,cZ,pop,aD,bq,cY,fQ,dU,isVal,a8,ci,ρ0,ρ1,ρ4,↓reduceIte,Nat.reduceEqDiff,Nat.reduceAdd,Int.reduceOfNat,Int.reduceNegSucc,reduceCtorEq,ρ7,ρ8,ρ15,ρ17,ρ18,ρ19,ρ20,ρ21,ρ22,ρ23,Kd.bY,ρ25,ρ26,dv,Nat.reduceLeDiff,Int.reduceToNat,ρ29,m,c,d,o,C,H,f4,LY,LZ,f8,I,cJ,dW,J,gN,uX,c6']) | ((with_reducible first|apply aE|apply aF|apply aG)<;>intro _))
  all_goals first | exact⟨hx.set (ai _) _,rfl⟩ | (exfalso;omega)
 have B:hd (l.drop N)=0:=aly c5;rw[iN (by rw[L,B];simp[c1];exact⟨de,Om⟩),U,eg];repeat' (first | (simp (disch:=first | omega | (decide +kernel)) only[↓RD,RU,↓aH,↓dA,↓aL,↓bf,bS,br,cZ,pop,aD,bq,cY,fQ,dU,isVal,a8,ci,ρ0,ρ1,ρ4,↓reduceIte,Nat.reduceEqDiff,Nat.reduceAdd,Int.reduceOfNat,Int.reduceNegSucc,reduceCtorEq,ρ7,ρ8,ρ15,ρ17,ρ18,ρ19,ρ20,ρ21,ρ22,ρ23,Kd.bY,ρ25,ρ26,dv,Nat.reduceLeDiff,Int.reduceToNat,m,c,d,o,C,H,f4,LY,LZ,f8,I,cJ,dW,J]) | ((with_reducible first|apply aE|apply aF|apply aG)<;>intro _))
 all_goals first | exact⟨hx.set (ai _) _,rfl⟩ | (exfalso;omega)
end
end Can
end Go.Proofs.YticlaccbodpkeaaGreatDoor
