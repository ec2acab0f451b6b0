/- Runs over trees: calls. Over any program. Runs over trees: code and functions. Over any program. -/
import Derived.Test.YtdfgkcoenagaaaaGreatZj
section
namespace Go.Proofs.YtdfgkcoenagaaaaGreat
namespace Can
open Go Go.RowKit
set_option linter.unusedSimpArgs false
set_option linter.unusedVariables false
variable {T:Tbl} {X:Pan} {Z:TP} {K0 K K' K'':CH} {sp:Option Nat} {W0:Nat→Prop} {st st' st'' st1:TS} {fr fr1:TFr} {cfr:Fr} {E E' E'':TE}
def E0 (sp:Option Nat)(hid:Nat→Prop):TE:=⟨fun _=>none,fun o=>if o=0 then sp else none,hid⟩
abbrev Self:=Option (TypeId×List SV)
def SelfR(K:CH)(E:TE)(sp:Option Nat):Self→Prop
 | none=>sp=none
 | some (e,ss)=>∃p os,sp=some p∧p<K.nx∧K.ob p= .cells os e .ex∧R2 (SVR K (Frz K E)) ss os
def AV.clean:AV→Prop
 | .ptr _ _=>False
 | .eptr _ _ _=>False
 | _=>True
def SJ (Z:TP)(K:CH)(sp:Option Nat)(W:Nat→Prop):Self→Prop
 | none=>∀b,¬W b
 | some (e,ss)=>JR Z [(0,e,ss.map .s)] K sp W
def PX (K0:CH)(sp:Option Nat)(W0:Nat→Prop)(R:Value→Prop)(v:Value)(K':CH):Prop:=K0.nx≤K'.nx∧(∀b,b<K0.nx→sp≠some b→¬W0 b→K'.ob b=K0.ob b)∧R v
structure HW(K K':CH)(sp:Option Nat)(hid W hid' W':Nat→Prop):Prop where
 up : ∀b,hid b→hid' b
 dn : ∀b,hid' b→b<K'.nx
 w : ∀b,W' b→hid' b∧(W b∨K.nx≤b)
def TC (Z:TP)(T:Tbl)(X:Pan)(f:FuncId)(args:List AV)(self:Self)(Q:AV→List SV→Prop)(R:Value→Prop):Prop:=
 ∀(K:CH) (sp:Option Nat) (hid W:Nat→Prop) (vs:List Value),(∀b,hid b→b<K.nx∧sp≠some b)→(∀b,W b→hid b)→(∀b,Z.N b→b<K.nx∧sp≠some b∧¬W b∧K.ob b=Z.M b)→R2 (AVR K (E0 sp hid)) args vs→SelfR K (E0 sp hid) sp self→SJ Z K sp W self→
  WxF T X f vs K (fun v K'=>K.nx≤K'.nx∧(∀b,b<K.nx→sp≠some b→¬W b→K'.ob b=K.ob b)∧∃hid' W' a s',HW K K' sp hid W hid' W'∧AVR K' (E0 sp hid') a v∧a.clean∧SelfR K' (E0 sp hid') sp (self.map fun p=>(p.1,s'))∧SJ Z K' sp W' (self.map fun p=>(p.1,s'))∧Q a s') (PX K sp W R)
theorem TC.mono{f:FuncId}{args:List AV}{self:Self}{Q Q':AV→List SV→Prop}{R R':Value→Prop}(h:TC Z T X f args self Q R)(hq : ∀a s,Q a s→Q' a s)(hr : ∀v,R v→R' v):TC Z T X f args self Q' R':=fun K sp hid W vs h1 h2 h3 h4 h5 h6=>(h K sp hid W vs h1 h2 h3 h4 h5 h6).mono (fun v K' ⟨k1,k2,hid',W',a,s',k3,k4,k5,k6,k7,k8⟩=>⟨k1,k2,hid',W',a,s',k3,k4,k5,k6,k7,hq _ _ k8⟩) fun v K' ⟨k1,k2,k3⟩=>⟨k1,k2,hr v k3⟩
theorem PX.up(h:TR Z K0 sp W0 K st fr cfr E){sp':Option Nat}{W:Nat→Prop}{R:Value→Prop}{v:Value}(hsp : ∀b,sp'=some b→∃o,E.ρ o=some b)(hw : ∀b,W b→W0 b∨K0.nx≤b)(hp:PX K sp' W R v K'):PX K0 sp W0 R v K':=by
 obtain⟨h1,h2,h3⟩:=hp
 refine⟨Nat.le_trans h.nx h1,fun b hb hs hwb=> ?_,h3⟩
 rw[h2 b (Nat.lt_of_lt_of_le hb h.nx) (fun q=> ?_) fun q=> ?_]
 ·exact h.keep b hb hs hwb
 ·obtain⟨o,ho⟩:=hsp b q
  rcases(h.rho o b ho).2.1 with g | g
  ·omega
  ·exact hs g
 ·rcases hw b q with g | g
  ·exact hwb g
  ·omega
theorem CVR.mv0{x:CV}{v:Value}(h:CVR K E x v)(h0 : ∀t,E.σ t=none)(hA : ∀b,Frz K E b→Frz K' E' b∧K'.ob b=K.ob b):CVR K' E' x v:=by
 cases h with
 | s h=>exact .s (h.mv hA)
 | own0=>exact .own0
 | own hne hb ho hk hg hs=>rw[h0] at hb;cases hb
 | bad h=>exact .bad h
theorem RVR.mv0{x:RV}{v:Value}(h:RVR K E x v)(h0 : ∀t,E.σ t=none)(hA : ∀b,Frz K E b→Frz K' E' b∧K'.ob b=K.ob b):RVR K' E' x v:=by
 cases h with
 | c h=>exact .c (h.mv0 h0 hA)
 | agg h=>exact .agg (h.mono fun _ _ q=>q.mv0 h0 hA)
theorem AVR.mv0{x:AV}{v:Value}(h:AVR K E x v)(hc:x.clean)(h0 : ∀t,E.σ t=none)(hA : ∀b,Frz K E b→Frz K' E' b∧K'.ob b=K.ob b):AVR K' E' x v:=by
 cases h with
 | r h=>exact .r (h.mv0 h0 hA)
 | ptr=>exact hc.elim
 | eptr=>exact hc.elim
 | tup h=>exact .tup (h.mono fun _ _ q=>q.mv0 h0 hA)
 | skip=>exact .skip
 | bad=>exact .bad
def RV.stamp:RV→List Nat
 | .c x=>x.stamp
 | .agg cs=>cs.flatMap CV.stamp
def AV.stamp:AV→List Nat
 | .r x=>x.stamp
 | _=> []
def RV.fz:RV→Option RV
 | .c x=>x.fz.map fun y=> .c (.s y)
 | .agg cs=>(allFz cs).map fun l=> .agg (l.map .s)
def selfOf:List AV→Option Nat
 | []=>none
 | .ptr o 0::_=>some o
 | _::r=>selfOf r
def argOf(so:Option Nat):AV→Option AV
 | .ptr o 0=>if so=some o then some (.ptr 0 0) else none
 | .r x=>x.fz.map .r
 | _=>none
def argsOf(so:Option Nat):List AV→Option (List AV)
 | []=>some []
 | a::r=>match argOf so a,argsOf so r with
   | some x,some xs=>some (x::xs)
   | _,_=>none
theorem rfz_rel{x:RV}{v:Value}(h:RVR K E x v){y:RV}(hy:x.fz=some y)(h1 : ∀b,Frz K E b→Frz K' E' b∧K'.ob b=K.ob b)(h2 : ∀t b,t∈x.stamp→E.σ t=some b→Frz K' E' b∧K'.ob b=K.ob b):RVR K' E' y v:=by
 cases h with
 | @c x v h=>
   simp only[RV.fz] at hy
   cases hx:x.fz with
   | none=>rw[hx] at hy;cases hy
   | some z=>rw[hx] at hy;cases hy;exact .c (.s (fz_rel h hx h1 h2))
 | @agg cs vs h=>
   simp only[RV.fz] at hy
   cases hx:allFz cs with
   | none=>rw[hx] at hy;cases hy
   | some z=>rw[hx] at hy;cases hy;exact .agg ((allFz_rel h1 h hx h2).map fun _ _ q=> .s q)
def hidC (E:TE)(l:List Nat)(so:Option Nat)(b:Nat):Prop:=E.hid b∨(∃t,t∉l∧E.σ t=some b)∨∃o,so≠some o∧E.ρ o=some b
theorem frz_call(h:TR Z K0 sp W0 K st fr cfr E){l:List Nat}{so:Option Nat}{sp':Option Nat}(hsp : ∀b,sp'=some b→∃o,so=some o∧E.ρ o=some b):(∀b,Frz K E b→Frz K (E0 sp' (hidC E l so)) b∧K.ob b=K.ob b)∧(∀t b,t∈l→E.σ t=some b→Frz K (E0 sp' (hidC E l so)) b∧K.ob b=K.ob b):=by
 constructor
 ·intro b hb
  refine⟨⟨hb.1,fun hh=> ?_,(fun _ q=>(by cases q)),fun o q=> ?_⟩,rfl⟩
  ·rcases hh with hh | ⟨t,_,ht⟩ | ⟨o,_,ho⟩
   ·exact hb.2.1 hh
   ·exact hb.2.2.1 t ht
   ·exact hb.2.2.2 o ho
  ·have q:(if o=0 then sp' else none)=some b:=q
   split at q
   ·obtain⟨o',_,k⟩:=hsp b q;exact hb.2.2.2 o' k
   ·cases q
 ·intro t b hl hb
  obtain⟨k1,k2,k3⟩:=h.sig t b hb
  refine⟨⟨k2,fun hh=> ?_,(fun _ q=>(by cases q)),fun o q=> ?_⟩,rfl⟩
  ·rcases hh with hh | ⟨t',q1,q2⟩ | ⟨o,_,ho⟩
   ·exact(h.hid b hh).2.1 t hb
   ·exact q1 (h.inj t t' b hb q2▸hl)
   ·exact h.sr t o b hb ho
  ·have q:(if o=0 then sp' else none)=some b:=q
   split at q
   ·obtain⟨o',_,k⟩:=hsp b q;exact h.sr t o' b hb k
   ·cases q
theorem args_rel{sp':Option Nat}{hid':Nat→Prop}{l:List Nat}{so:Option Nat}(hsp : ∀o b,so=some o→E.ρ o=some b→sp'=some b)(h1 : ∀b,Frz K E b→Frz K (E0 sp' hid') b∧K.ob b=K.ob b)(h2 : ∀t b,t∈l→E.σ t=some b→Frz K (E0 sp' hid') b∧K.ob b=K.ob b) : ∀ {az bz:List AV} {vs:List Value},R2 (AVR K E) az vs→argsOf so az=some bz→(∀t∈az.flatMap AV.stamp,t∈l)→R2 (AVR K (E0 sp' hid')) bz vs
 | _,bz,_, .nil,h,_=>by cases h;exact .nil
 | a::az,bz,v::vs, .cons ha ht,h,hl=>by
   simp only[argsOf] at h
   split at h
   ·rename_i x xs e1 e2
    cases h
    refine .cons ?_ (args_rel hsp h1 h2 ht e2 fun t q=>hl t (by rw[List.flatMap_cons];exact List.mem_append_right _ q))
    have hl2 : ∀t∈a.stamp,t∈l:=fun t q=>hl t (by rw[List.flatMap_cons];exact List.mem_append_left _ q)
    unfold argOf at e1
    split at e1
    ·rename_i o
     split at e1
     ·rename_i hso
      cases e1
      obtain⟨b,q1,rfl⟩:=ha.ptr_inv
      exact .ptr (o:=0) (by show(if 0=0 then sp' else none)=some b;rw[if_pos rfl];exact hsp o b hso q1)
     ·cases e1
    ·rename_i y
     cases hy:y.fz with
     | none=>rw[hy] at e1;cases e1
     | some z=>
       rw[hy] at e1;cases e1
       cases ha with
       | r ha=>exact .r (rfz_rel ha hy h1 fun t b q=>h2 t b (hl2 t q))
    ·cases e1
   ·cases h
theorem TR.grow(h:TR Z K0 sp W0 K st fr cfr E)(hnx:K.nx≤K'.nx)(hk : ∀b,b<K.nx→K'.ob b=K.ob b):TR Z K0 sp W0 K' st fr cfr E∧Mv K E (fun _=> .keep) K' E:=by
 have m:Mv K E (fun _=> .keep) K' E:=⟨fun b hb=>⟨⟨Nat.lt_of_lt_of_le hb.1 hnx,hb.2⟩,hk b hb.1⟩,fun t b q _=>⟨q,hk b (h.sig t b q).2.1⟩,(fun _ _ _ q=>(by cases q)),fun _ _ q=>q⟩
 have:=h.step m (nt':=st.nt) hnx (fun b hb _=>hk b hb) rfl (fun t b q=>⟨(h.sig t b q).1,Nat.lt_of_lt_of_le (h.sig t b q).2.1 hnx,(h.sig t b q).2.2,fun o=>h.sr t o b q,fun hh=>(h.hid b hh).2.1 t q⟩) h.inj rfl
 rw[TFr.act_keep,TS.act_keep] at this
 exact⟨this,m⟩
structure TD where
 node:List FuncId
structure TDOk(T:Tbl)(D:TD):Prop where
 node : ∀f,D.node.elem f=true→∀(K:CH) (k l:Int) (a:Option Addr) (n c:Nat),WpF T f [.int .i64 k, .int .i64 l, .slice a n c] K fun v K'=>v= .agg #[.int .i64 k, .int .i64 l, .string ⟨⟨[]⟩⟩, .int .i64 0, .slice a n c]∧∃o,K'=K.new o
def slV:CV→Bool
 | .own _ _ _ _=>true
 | .s (.row _ _)=>true
 | .s (.sc (.slice _ _ _))=>true
 | _=>false
def nodeC(avs:List AV)(fr:TFr)(st:TS)(k:AV→TFr→TS→Prop):Prop:=match avs with
 | [.r (.c (.s (.sc (.int .i64 a)))), .r (.c (.s (.sc (.int .i64 b)))), .r (.c x)]=>match slV x with
   | true=>k (.r (.agg [cS (.int .i64 a),cS (.int .i64 b),cS (.string ⟨⟨[]⟩⟩),cS (.int .i64 0),x])) fr st
   | false=>False
 | _=>False
def slOk (o:Nat)(cs:List CV):Bool:=match o with
 | 0=>true
 | _=>(lks cs).isEmpty
def callT0(Z:TP)(T:Tbl)(X:Pan)(f:FuncId)(avs:List AV)(fr:TFr)(st:TS)(k:AV→TFr→TS→Prop)(R:Value→Prop):Prop:=
 match argsOf (selfOf avs) avs with
 | none=>False
 | some az=>match selfOf avs with
   | none=>TC Z T X f az none (fun a _=>k a (fzF (avs.flatMap AV.stamp) fr) ⟨st.nt,(fzS (avs.flatMap AV.stamp) st).obs⟩) R
   | some o=>match st.obs[o]? with
     | some (v,e,cs)=>match allFz cs,slOk o cs with
       | some ss,true=>TC Z T X f az (some (e,ss)) (fun a s'=>k a (fzF (avs.flatMap AV.stamp++cs.flatMap CV.stamp) fr) ⟨st.nt,(fzS (avs.flatMap AV.stamp++cs.flatMap CV.stamp) st).obs.set o (v+1,e,s'.map .s)⟩) R
       | _,_=>False
     | none=>False
def fcNs:List Nat→(List Nat→Prop)→Prop
 | [],k=>k []
 | n::l,k=>match n with
   | 0=>fcNs l fun l=>k (0::l)
   | n+1=>fcNs l fun l=>k ((n+1)::l)
theorem fcNs_eq : ∀ {l:List Nat} {k:List Nat→Prop},fcNs l k=k l
 | [],_=>rfl
 | 0::l,k=>by simp only[fcNs,fcNs_eq]
 | (n+1)::l,k=>by simp only[fcNs,fcNs_eq]
def fzK (l:List Nat)(fr:TFr)(st:TS)(k:TFr→TS→Prop):Prop:=fcNs l fun l=>match l with
 | []=>k fr st
 | a::l=>k (fr.act (fzG (a::l))) (st.act (fzG (a::l)))
theorem fzK_eq{l:List Nat}{fr:TFr}{st:TS}{k:TFr→TS→Prop}:fzK l fr st k=k (fzF l fr) (fzS l st):=by
 unfold fzK
 rw[fcNs_eq]
 cases l<;>rfl
def callT(Z:TP)(T:Tbl)(X:Pan)(f:FuncId)(avs:List AV)(fr:TFr)(st:TS)(k:AV→TFr→TS→Prop)(R:Value→Prop):Prop:=
 match argsOf (selfOf avs) avs with
 | none=>False
 | some az=>match selfOf avs with
   | none=>TC Z T X f az none (fun a _=>fzK (avs.flatMap AV.stamp) fr st fun fr s=>k a fr ⟨st.nt,s.obs⟩) R
   | some o=>match st.obs[o]? with
     | some (v,e,cs)=>match allFz cs,slOk o cs with
       | some ss,true=>TC Z T X f az (some (e,ss)) (fun a s'=>fzK (avs.flatMap AV.stamp++cs.flatMap CV.stamp) fr st fun fr s=>k a fr ⟨st.nt,s.obs.set o (v+1,e,s'.map .s)⟩) R
       | _,_=>False
     | none=>False
theorem callT_eq{Z:TP}{T:Tbl}{X:Pan}{f:FuncId}{avs:List AV}{fr:TFr}{st:TS}{k:AV→TFr→TS→Prop}{R:Value→Prop}:callT Z T X f avs fr st k R=callT0 Z T X f avs fr st k R:=by
 unfold callT callT0
 simp only[fzK_eq]
theorem r2_map{fr:TFr}(hf : ∀t,AVR K E (fr t) (cfr t)) : ∀(l:List Operand),R2 (AVR K E) (l.map (tev fr)) (l.map (evF cfr))
 | []=> .nil
 | x::l=> .cons (tev_rel hf x) (r2_map hf l)
theorem nodeC_sound{D:TD}(hD:TDOk T D)(h:TR Z K0 sp W0 K st fr cfr E){f:FuncId}(hf:D.node.elem f=true){args:List Operand}{k:AV→TFr→TS→Prop}(hk:nodeC (args.map (tev fr)) fr st k):WpF T f (args.map (evF cfr)) K fun v K1=>∃a fr1 st1 E1,TR Z K0 sp W0 K1 st1 fr1 cfr E1∧AVR K1 E1 a v∧Stp K st E K1 st1 E1∧k a fr1 st1:=by
 have hr:=r2_map h.frm args
 obtain⟨avs,ha⟩ : ∃avs,args.map (tev fr)=avs:=⟨_,rfl⟩
 obtain⟨vs,hv⟩ : ∃vs,args.map (evF cfr)=vs:=⟨_,rfl⟩
 rw[ha] at hk hr
 rw[hv] at hr⊢
 unfold nodeC at hk
 split at hk
 ·rename_i a b x
  cases hx:slV x with
  | false=>rw[hx] at hk;exact hk.elim
  | true=>
  rw[hx] at hk
  cases hr with
  | cons h1 hr=>cases hr with
    | cons h2 hr=>cases hr with
      | cons h3 hr=>
        cases hr
        obtain rfl:=raw_rel h1 (u:= .int .i64 a) rfl
        obtain rfl:=raw_rel h2 (u:= .int .i64 b) rfl
        rename_i w3
        cases h3 with
        | r h3=>cases h3 with
          | c h3=>
            have : ∃q n c,w3=Value.slice q n c:=by
             cases h3 with
             | s h3=>
               cases h3 with
               | sc h3=>
                 cases w3 with
                 | slice q n c=>exact⟨q,n,c,rfl⟩
                 | _=>cases hx
               | row0=>exact⟨_,_,_,rfl⟩
               | row=>exact⟨_,_,_,rfl⟩
               | lk=>cases hx
               | sub0=>cases hx
               | sub=>cases hx
             | own0=>exact⟨_,_,_,rfl⟩
             | own=>exact⟨_,_,_,rfl⟩
             | bad=>cases hx
            obtain⟨q,n,c,rfl⟩:=this
            refine(hD.node f hf K a b q n c).mono fun v K1 ⟨e1,o,e2⟩=> ?_
            subst e1 e2
            obtain⟨t1,m⟩:=h.grow (K':=K.new o) (Nat.le_succ _) fun b hb=>new_ne (by omega)
            have h3:=h3.mv m
            rw[CV.act_keep] at h3
            exact⟨_,_,_,E,t1, .r (.agg (vs:= [_,_,_,_,_]) (.cons (.s (.sc rfl)) (.cons (.s (.sc rfl)) (.cons (.s (.sc rfl)) (.cons (.s (.sc rfl)) (.cons h3 .nil)))))),⟨fun _ h=>h,fun _ _ h=>h,fun o v e cs h'=>⟨v,cs,h',Nat.le_refl _,fun _ b hb=>new_ne (by have:=(h.rho o b hb).1;omega)⟩⟩,hk⟩
 ·exact hk.elim
theorem allFz_len : ∀ {cs:List CV} {ss:List SV},allFz cs=some ss→ss.length=cs.length
 | [],ss,h=>by cases h;rfl
 | x::cs,ss,h=>by
   simp only[allFz] at h
   split at h
   ·rename_i y ys e1 e2
    cases h
    simp[allFz_len e2]
   ·cases h
theorem lks_fz : ∀ {cs:List CV} {ss:List SV},allFz cs=some ss→lks (ss.map .s)=lks cs∧∀vs,lkW (ss.map .s) vs=lkW cs vs
 | [],ss,h=>by cases h;exact⟨rfl,fun _=>rfl⟩
 | x::cs,ss,h=>by
   simp only[allFz] at h
   split at h
   ·rename_i y ys e1 e2
    cases h
    obtain⟨i1,i2⟩:=lks_fz e2
    rw[List.map_cons]
    cases x with
    | s z=>
      cases e1
      refine⟨by rw[lks_cons,i1,←lks_cons],fun vs=> ?_⟩
      cases vs with
      | nil=>cases y<;>rfl
      | cons v vs=>rw[lkW_cons,i2,←lkW_cons]
    | own t e sz gs=>
      cases e1
      refine⟨i1,fun vs=> ?_⟩
      cases vs with
      | nil=>rfl
      | cons v vs=>exact i2 vs
    | bad=>cases e1
   ·cases h
theorem JR.hd{v v':Nat}{e:TypeId}{cs:List CV}{r r':List (Nat×TypeId×List CV)}{W:Nat→Prop}(h:JR Z ((v,e,cs)::r) K sp W):JR Z ((v',e,cs)::r') K sp W:=h
theorem TR.call(h:TR Z K0 sp W0 K st fr cfr E){W W':Nat→Prop}{o p v:Nat}{e:TypeId}{cs us:List CV}{os':List Value}(hρ:E.ρ o=some p)(ho:st.obs[o]? = some (v,e,cs))(hnx:K.nx≤K'.nx)(hk : ∀b,b<K.nx→b≠p→¬W b→K'.ob b=K.ob b)(hp:K'.ob p= .cells os' e .ex)(hw : ∀b,W b→E.hid b∧(W0 b∨K0.nx≤b))(hN : ∀b,W' b→E.hid b∨(K.nx≤b∧b<K'.nx))(hN0 : ∀b,W' b→W0 b∨K0.nx≤b)(hs:R2 (CVR K' ⟨E.σ,E.ρ,fun b=>E.hid b∨W' b⟩) us os')(hJ : ∃W2:Nat→Prop,(∀b,W2 b→(E.hid b∨W' b)∧(W0 b∨K0.nx≤b))∧JR Z (st.obs.set o (v+1,e,us)) K' (E.ρ 0) W2) :
 TR Z K0 sp W0 K' ⟨st.nt,st.obs.set o (v+1,e,us)⟩ fr cfr ⟨E.σ,E.ρ,fun b=>E.hid b∨W' b⟩∧Stp K st E K' ⟨st.nt,st.obs.set o (v+1,e,us)⟩ ⟨E.σ,E.ρ,fun b=>E.hid b∨W' b⟩:=by
 obtain⟨r1,r2,r3⟩:=h.rho o p hρ
 have hob : ∀b,b<K.nx→¬E.hid b→b≠p→K'.ob b=K.ob b:=fun b hb hh hp=>hk b hb hp fun q=>hh (hw b q).1
 have m:Mv K E (fun _=> .keep) K' ⟨E.σ,E.ρ,fun b=>E.hid b∨W' b⟩:=by
  refine⟨fun b hb=>⟨⟨Nat.lt_of_lt_of_le hb.1 hnx,fun q=> ?_,hb.2.2⟩,hob b hb.1 hb.2.1 fun e=>hb.2.2.2 o (e▸hρ)⟩,fun t b q _=>⟨q,hob b (h.sig t b q).2.1 (fun hh=>(h.hid b hh).2.1 t q) fun e=>h.sr t o b q (e▸hρ)⟩,(fun _ _ _ q=>(by cases q)),fun _ _ q=>q⟩
  rcases q with q | q
  ·exact hb.2.1 q
  ·rcases hN b q with g | g
   ·exact hb.2.1 g
   ·have:=hb.1;omega
 have hmv : ∀ {x v},AVR K E x v→AVR K' ⟨E.σ,E.ρ,fun b=>E.hid b∨W' b⟩ x v:=fun q=>by
  have:=q.mv m;rwa [AV.act_keep] at this
 have hcv : ∀x v,CVR K E x v→CVR K' ⟨E.σ,E.ρ,fun b=>E.hid b∨W' b⟩ x v:=fun x v q=>by
  have:=q.mv m;rwa [CV.act_keep] at this
 have hnw : ∀b,b<K0.nx→¬W0 b→¬W b:=fun b hb hw0 q=>by
  rcases(hw b q).2 with g | g
  ·exact hw0 g
  ·omega
 refine⟨⟨Nat.le_trans h.nx hnx,fun b hb hsp hw0=> ?_,fun b hb=> ?_,fun b hb=> ?_,hJ,fun t b q=> ?_,h.inj,h.sr,fun o' b q=> ?_,h.rinj,fun o' v' e' cs' q=> ?_,fun t=>hmv (h.frm t)⟩,⟨fun _ q=> .inl q,fun _ _ q=>q,fun o' v' e' cs' q=> ?_⟩⟩
 ·refine(hk b (Nat.lt_of_lt_of_le hb h.nx) (fun e=> ?_) (hnw b hb hw0)).trans (h.keep b hb hsp hw0)
  subst e
  rcases r2 with r2 | r2
  ·omega
  ·exact hsp r2
 ·obtain⟨k1,k2,k3,k4⟩:=h.prot b hb
  refine⟨k1,k2,k3,(hk b (Nat.lt_of_lt_of_le k1 h.nx) (fun e=> ?_) (hnw b k1 k3)).trans k4⟩
  subst e
  rcases r2 with r2 | r2
  ·omega
  ·exact k2 r2
 ·have hb':E.hid b∨(K.nx≤b∧b<K'.nx):=hb.elim .inl (hN b)
  rcases hb' with hb | ⟨hb,hb2⟩
  ·obtain⟨k1,k2,k3⟩:=h.hid b hb
   exact⟨Nat.lt_of_lt_of_le k1 hnx,k2,k3⟩
  ·exact⟨hb2,fun t q=>by have:=(h.sig t b q).2.1;omega,fun o q=>by have:=(h.rho o b q).1;omega⟩
 ·obtain⟨k1,k2,k3⟩:=h.sig t b q
  exact⟨k1,Nat.lt_of_lt_of_le k2 hnx,k3⟩
 ·obtain⟨k1,k2,k3⟩:=h.rho o' b q
  exact⟨Nat.lt_of_lt_of_le k1 hnx,k2,by show o'<(st.obs.set o _).length;rw[List.length_set];exact k3⟩
 ·have q:(st.obs.set o (v+1,e,us))[o']? = some (v',e',cs'):=q
  by_cases ho':o=o'
  ·subst ho'
   rw[List.getElem?_set_self r3] at q
   cases q
   exact⟨p,os',hρ,hp,hs⟩
  ·rw[List.getElem?_set_ne ho'] at q
   obtain⟨l,os2,k1,k2,k3⟩:=h.obs o' v' e' cs' q
   exact⟨l,os2,k1,(hob l (h.rho o' l k1).1 (fun hh=>(h.hid l hh).2.2 o' k1) fun e=>ho' (h.rinj o o' p hρ (e▸k1))).trans k2,k3.mono hcv⟩
 ·by_cases ho':o=o'
  ·subst ho'
   rw[ho] at q;cases q
   exact⟨v+1,us,List.getElem?_set_self r3,Nat.le_succ _,fun e=>by omega⟩
  ·refine⟨v',cs',(List.getElem?_set_ne ho').trans q,Nat.le_refl _,fun _ l hl=>hob l (h.rho o' l hl).1 (fun hh=>(h.hid l hh).2.2 o' hl) fun e=>ho' (h.rinj o o' p hρ (e▸hl))⟩
theorem slOk_or{o:Nat}{cs:List CV}(h:slOk o cs=true):o=0∨lks cs= []:=by
 cases o with
 | zero=>exact .inl rfl
 | succ o=>exact .inr (List.isEmpty_iff.1 h)
theorem callT_sound(h:TR Z K0 sp W0 K st fr cfr E){f:FuncId}{args:List Operand}{k:AV→TFr→TS→Prop}{R:Value→Prop}(hk:callT Z T X f (args.map (tev fr)) fr st k R):WxF T X f (args.map (evF cfr)) K (fun v K1=>∃a fr1 st1 E1,TR Z K0 sp W0 K1 st1 fr1 cfr E1∧AVR K1 E1 a v∧Stp K st E K1 st1 E1∧k a fr1 st1) (PX K0 sp W0 R):=by
 have hr:=r2_map h.frm args
 obtain⟨avs,ha⟩ : ∃avs,args.map (tev fr)=avs:=⟨_,rfl⟩
 obtain⟨vs,hv⟩ : ∃vs,args.map (evF cfr)=vs:=⟨_,rfl⟩
 rw[ha] at hk hr
 rw[hv] at hr⊢
 rw[callT_eq] at hk
 unfold callT0 at hk
 split at hk
 ·exact hk.elim
 ·rename_i az haz
  split at hk
  ·rename_i hso
   rw[hso] at haz
   obtain⟨f1,f2⟩:=frz_call h (l:=avs.flatMap AV.stamp) (so:=none) (sp':=none) (fun _ q=>(by cases q))
   have hz:=args_rel (hid':=hidC E (avs.flatMap AV.stamp) none) (fun o b q=>(by cases q)) f1 f2 hr haz fun t q=>q
   refine(hk K none _ (fun _=>False) vs (fun b hb=>⟨?_,(fun q=>(by cases q))⟩) (fun _ h=>h.elim) (fun b hb=>⟨Nat.lt_of_lt_of_le (h.prot b hb).1 h.nx,(fun q=>(by cases q)),id,(h.prot b hb).2.2.2⟩) hz rfl fun _ h=>h).mono (fun v K1 ⟨k1,k2,hid',W',a,s',hW,k3,k4,k5,k6,k7⟩=> ?_) fun v K1 hp=>hp.up h (fun b q=>(by cases q)) fun b q=>q.elim
   ·rcases hb with hb | ⟨t,_,ht⟩ | ⟨o,_,ho⟩
    ·exact(h.hid b hb).1
    ·exact(h.sig t b ht).2.1
    ·exact(h.rho o b ho).1
   ·obtain⟨E1,t1,m,t2,rfl⟩:=h.fz (avs.flatMap AV.stamp)
    obtain⟨u1,m1⟩:=t1.grow k1 fun b hb=>k2 b hb (fun q=>(by cases q)) id
    rw[fzF_eq,fzS_eq] at k7
    refine⟨a,_,_,_,u1,k3.mv0 k4 (fun _=>rfl) fun b hb=>⟨⟨hb.1,fun hh=>hb.2.1 (hW.up b (.inl hh)),fun t q=> ?_,fun o q=>hb.2.1 (hW.up b (.inr (.inr ⟨o,(fun q=>(by cases q)),q⟩)))⟩,rfl⟩,⟨fun _ q=>q,fun o b q=>q,fun o v e cs q=> ?_⟩,k7⟩
    ·have q:(if t∈avs.flatMap AV.stamp then none else E.σ t)=some b:=q
     split at q
     ·cases q
     ·rename_i hn;exact hb.2.1 (hW.up b (.inr (.inl ⟨t,hn,q⟩)))
    ·obtain⟨v',cs',g1,g2,g3⟩:=t2.ver o v e cs q
     exact⟨v',cs',g1,g2,fun e b hb=>(k2 b (h.rho o b hb).1 (fun q=>(by cases q)) id).trans (g3 e b hb)⟩
  ·rename_i o hso
   split at hk
   ·rename_i v e cs hob
    split at hk
    ·rename_i ss hss hsl
     rw[hso] at haz
     obtain⟨p,os,o1,o2,o3⟩:=h.obs o v e cs hob
     obtain⟨f1,f2⟩:=frz_call h (l:=avs.flatMap AV.stamp++cs.flatMap CV.stamp) (so:=some o) (sp':=some p) (fun b q=>⟨o,rfl,q▸o1⟩)
     have hz:=args_rel (hid':=hidC E (avs.flatMap AV.stamp++cs.flatMap CV.stamp) (some o)) (fun o' b q1 q2=>by cases q1;rw[←o1,q2]) f1 f2 hr haz fun t q=>List.mem_append_left _ q
     have hself:=allFz_rel f1 o3 hss fun t b q1 q2=>f2 t b (List.mem_append_right _ q1) q2
     have hpn:p<K.nx:=(h.rho o p o1).1
     obtain⟨lk1,lk2⟩:=lks_fz hss
     obtain⟨Wc,w1,w2⟩:=h.wr
     obtain⟨W,hw,hSJ,hor⟩ : ∃W:Nat→Prop,(∀b,W b→E.hid b∧(W0 b∨K0.nx≤b))∧SJ Z K (some p) W (some (e,ss))∧(o=0∨∀b,¬W b):=by
      by_cases hl:lks cs= []
      ·exact⟨fun _=>False,fun _ h=>h.elim, .inl ⟨lk1.trans hl,fun _ h=>h⟩, .inr fun _ h=>h⟩
      ·have h0:=(slOk_or hsl).resolve_right hl
       subst h0
       refine⟨Wc,w1,?_, .inl rfl⟩
       match hst:st.obs,w2,hob with
       | (v',e',cs')::r,w2,hob=>
         cases hob
         rcases w2 with ⟨g,_⟩ | ⟨_,p',os2,g1,g2,g3,g4⟩
         ·exact absurd g hl
         ·rw[o1] at g1;cases g1
          exact .inr ⟨by rw[lk1];exact hl,p,os2,rfl,g2,by rw[g3,←allFz_len hss,List.length_map],by rw[lk1,lk2];exact g4⟩
     refine(hk K (some p) _ W vs (fun b hb=>⟨?_,fun q=> ?_⟩) (fun b hb=> .inl (hw b hb).1) (fun b hb=>⟨Nat.lt_of_lt_of_le (h.prot b hb).1 h.nx,fun q=> ?_,fun q=> ?_,(h.prot b hb).2.2.2⟩) hz ⟨p,os,rfl,hpn,o2,hself⟩ hSJ).mono (fun v1 K1 ⟨k1,k2,hid',W',a,s',hW,k3,k4,k5,k6,k7⟩=> ?_) fun v K1 hp=>hp.up h (fun b q=>⟨o,by cases q;exact o1⟩) fun b q=>(hw b q).2
     ·rcases hb with hb | ⟨t,_,ht⟩ | ⟨o,_,ho⟩
      ·exact(h.hid b hb).1
      ·exact(h.sig t b ht).2.1
      ·exact(h.rho o b ho).1
     ·cases q
      rcases hb with hb | ⟨t,_,ht⟩ | ⟨o',q1,ho⟩
      ·exact(h.hid p hb).2.2 o o1
      ·exact h.sr t o p ht o1
      ·exact q1 (by rw[h.rinj o o' p o1 ho])
     ·cases q
      obtain⟨g1,g2,_⟩:=h.prot p hb
      rcases(h.rho o p o1).2.1 with g | g
      ·omega
      ·exact g2 g
     ·obtain⟨g1,_,g3,_⟩:=h.prot b hb
      rcases(hw b q).2 with g | g
      ·exact g3 g
      ·omega
     ·obtain⟨p',os',s1,s2,s3,s4⟩:=k5
      cases s1
      obtain⟨E1,t1,m,t2,rfl⟩:=h.fz (avs.flatMap AV.stamp++cs.flatMap CV.stamp)
      have hfz : ∀b,Frz K1 (E0 (some p) hid') b→b≠p∧¬(E.hid b∨W' b)∧(∀t,(if t∈avs.flatMap AV.stamp++cs.flatMap CV.stamp then none else E.σ t)≠some b)∧(∀o,E.ρ o≠some b)∧b<K1.nx:=fun b hb=>by
       have hbp:b≠p:=fun e=>hb.2.2.2 0 (by show(if 0=0 then some p else none)=some b;rw[if_pos rfl,e])
       refine⟨hbp,fun hh=>hb.2.1 ?_,fun t q=> ?_,fun o' q=> ?_,hb.1⟩
       ·rcases hh with hh | hh
        ·exact hW.up b (.inl hh)
        ·exact(hW.w b hh).1
       ·split at q
        ·cases q
        ·rename_i hn;exact hb.2.1 (hW.up b (.inr (.inl ⟨t,hn,q⟩)))
       ·by_cases ho:o'=o
        ·subst ho;rw[o1] at q;cases q;exact hbp rfl
        ·exact hb.2.1 (hW.up b (.inr (.inr ⟨o',fun q=>ho (by cases q;rfl),q⟩)))
      have hN : ∀b,W' b→E.hid b∨(K.nx≤b∧b<K1.nx):=fun b q=>by
       obtain⟨q1,q2⟩:=hW.w b q
       rcases q2 with q2 | q2
       ·exact .inl (hw b q2).1
       ·exact .inr ⟨q2,hW.dn b q1⟩
      have hN0 : ∀b,W' b→W0 b∨K0.nx≤b:=fun b q=>by
       rcases(hW.w b q).2 with q2 | q2
       ·exact(hw b q2).2
       ·exact .inr (Nat.le_trans h.nx q2)
      have hob1:(⟨st.nt,(st.act (fzG (avs.flatMap AV.stamp++cs.flatMap CV.stamp))).obs⟩:TS).obs[o]? = some (v,e,cs.map (CV.act (fzG (avs.flatMap AV.stamp++cs.flatMap CV.stamp)))):=by
       show(st.obs.map _)[o]? = _
       rw[List.getElem?_map,hob];rfl
      have ho3:o<(st.act (fzG (avs.flatMap AV.stamp++cs.flatMap CV.stamp))).obs.length:=(List.getElem?_eq_some_iff.1 hob1).1
      have hk2 : ∀b,b<K.nx→b≠p→¬W b→K1.ob b=K.ob b:=fun b hb hbp hwb=>k2 b hb (fun q=>hbp (by cases q;rfl)) hwb
      obtain⟨u1,u2⟩:=t1.call (W:=W) (W':=W') (us:=s'.map .s) (os':=os') (p:=p) o1 hob1 k1 hk2 s3 hw hN hN0 (s4.map fun x v q=> .s (q.mv fun b hb=>by
       obtain⟨g1,g2,g3,g4,g5⟩:=hfz b hb
       exact⟨⟨g5,g2,g3,g4⟩,rfl⟩)) (by
       by_cases h0:o=0
       ·subst h0
        refine⟨W',fun b q=>⟨.inr q,hN0 b q⟩,?_⟩
        show JR Z ((st.act (fzG (avs.flatMap AV.stamp++cs.flatMap CV.stamp))).obs.set 0 (v+1,e,s'.map .s)) K1 (E.ρ 0) W'
        rw[o1]
        match hst:(st.act (fzG (avs.flatMap AV.stamp++cs.flatMap CV.stamp))).obs,ho3 with
        | _::r,_=>exact JR.hd (v:=0) (r:= []) k6
       ·have hW0:=hor.resolve_left h0
        obtain⟨W2,g1,g2⟩:=t1.wr
        refine⟨W2,fun b q=>⟨.inl (g1 b q).1,(g1 b q).2⟩,JR.mv g2 (by rw[List.length_set]) (fun v' e' cs' q=> ?_) (fun b q=> ?_) k1⟩
        ·refine⟨v',cs',(List.getElem?_set_ne h0).trans q,rfl,rfl,fun _ p0 os0 q1 q2=>⟨os0,?_,rfl,rfl⟩⟩
         have q1:E.ρ 0=some p0:=q1
         exact(hk2 p0 (h.rho 0 p0 q1).1 (fun e=>h0 (h.rinj o 0 p o1 (e▸q1))) (hW0 p0)).trans q2
        ·have hh:=h.hid b (g1 b q).1
         exact hk2 b hh.1 (fun e=>hh.2.2 o (e▸o1)) (hW0 b))
      rw[fzF_eq,fzS_eq] at k7
      refine⟨a,_,_,_,u1,k3.mv0 k4 (fun _=>rfl) fun b hb=> ?_,⟨fun b q=> .inl q,fun o b q=>q,fun o' v' e' cs' q=> ?_⟩,k7⟩
      ·obtain⟨g1,g2,g3,g4,g5⟩:=hfz b hb
       exact⟨⟨g5,g2,g3,g4⟩,rfl⟩
      ·obtain⟨v2,cs2,g1,g2,g3⟩:=t2.ver o' v' e' cs' q
       obtain⟨v3,cs3,g4,g5,g6⟩:=u2.ver o' v2 e' cs2 g1
       exact⟨v3,cs3,g4,Nat.le_trans g2 g5,fun e b hb=>g6 (by omega) b hb⟩
    ·exact hk.elim
   ·exact hk.elim
end Can
end Go.Proofs.YtdfgkcoenagaaaaGreat
end
section
namespace Go.Proofs.YtdfgkcoenagaaaaGreat
namespace Can
open Go Go.RowKit
set_option linter.unusedSimpArgs false
set_option linter.unusedVariables false
def putA (fr:TFr):Option Nat→AV→TFr
 | none,_=>fr
 | some d,a=>fun t=>match Nat.beq t d with
   | true=>a
   | false=>fr t
theorem putA_if{fr:TFr}{d t:Nat}{a:AV}:putA fr (some d) a t=if t=d then a else fr t:=by
 show(match Nat.beq t d with | true=>a | false=>fr t)=_
 split
 ·rename_i h;rw[if_pos (Nat.eq_of_beq_eq_true h)]
 ·rename_i h;rw[if_neg (Nat.ne_of_beq_eq_false h)]
def ifT (b:Bool)(yes no:Prop):Prop:=match b with
 | true=>yes
 | false=>no
def optT (o:Option AV)(k:AV→Prop):Prop:=match o with
 | some a=>k a
 | none=>False
def optS (o:Option (AV×TFr×TS))(k:AV→TFr→TS→Prop):Prop:=match o with
 | some (a,fr,st)=>k a fr st
 | none=>False
def tpopK(fr:TFr)(k:AV→Prop):POp→Prop
 | .idx x i sz=>match (tev fr x).rowIx,(tev fr i).raw with
   | some (t,z,gs),some (.int _ j)=>srcOk sz z∧∃(n:Nat) (g:List SV),j=(n:Int)∧gs[n]? = some g∧k (.eptr t g 0)
   | _,_=>False
 | .len x=>match tev fr x with
   | .r (.c (.s (.row _ gs)))=>gs.length≤maxLen→k (iS gs.length)
   | .r (.c (.own _ _ _ gs))=>gs.length≤maxLen→k (iS gs.length)
   | .r (.c (.s (.sub _ gs)))=>gs.length≤maxLen→k (iS gs.length)
   | a=>optT ((lenOf a).map fun n=>iS n) k
 | x=>optT (tpop fr x) k
def taopK(fr:TFr)(st:TS)(k:AV→TFr→TS→Prop):AOp→Prop
 | .bsl e sz n z ps=>match Nat.ble 1 n&&(Nat.ble (n*sz) 16777216&&(Nat.ble n 16777216&&tyB e sz)),grps sz (ps.map fun p=>(tev fr p.2).cvs) with
   | true,some gs=>match allGz gs with
     | some hs=>ps.map (·.1)=List.range n∧fzK (gs.flatten.flatMap CV.stamp) fr st fun fr s=>k (.r (.c (.own st.nt e sz hs))) fr ⟨st.nt+1,s.obs⟩
     | none=>False
   | _,_=>False
 | x=>optS (taop fr st x) k
theorem taopK_ok{fr:TFr}{st:TS}{k:AV→TFr→TS→Prop}{x:AOp}(h:taopK fr st k x) : ∃a fr1 st1,taop fr st x=some (a,fr1,st1)∧k a fr1 st1:=by
 unfold taopK at h
 split at h
 ·rename_i e sz n z ps
  split at h
  ·rename_i gs h1 h2
   split at h
   ·rename_i hs h3
    obtain⟨h4,h5⟩:=h
    simp only[Bool.and_eq_true] at h1
    rw[fzK_eq] at h5
    refine⟨_,_,_,?_,h5⟩
    simp only[taop,h2,h3]
    rw[if_pos ⟨h4,Nat.le_of_ble_eq_true h1.1,Nat.le_of_ble_eq_true h1.2.1,Nat.le_of_ble_eq_true h1.2.2.1,h1.2.2.2⟩]
   ·exact h.elim
  ·exact h.elim
 ·unfold optS at h
  split at h
  ·rename_i a fr1 st1 e;exact⟨a,fr1,st1,e,h⟩
  ·exact h.elim
def kilK (o:Option (Nat×TypeId×Nat))(fr:TFr)(st:TS)(k:TFr→TS→Prop):Prop:=match o with
 | none=>k fr st
 | some (t,_)=>k (fr.act (killG (some t))) (st.act (killG (some t)))
theorem kilK_eq{o:Option (Nat×TypeId×Nat)}{fr:TFr}{st:TS}{k:TFr→TS→Prop}:kilK o fr st k=k (kilF o fr) (kilS o st):=by
 cases o<;>rfl
def BdA (n bytes:Nat):Prop:=n*bytes≤140737488355328∧n≤maxLen
def growB(e sz:Nat):Option (Nat×TypeId×Nat)→Bool
 | none=>true
 | some (_,e',sz')=>Nat.beq e' e&&Nat.beq sz' sz
def srcB (sz:Nat):Option Nat→Bool
 | none=>true
 | some sz'=>Nat.beq sz' sz
theorem growB_ok{e sz:Nat}{o:Option (Nat×TypeId×Nat)}(h:growB e sz o=true):growOk e sz o:=by
 cases o with
 | none=>trivial
 | some p=>
   obtain⟨t,e',sz'⟩:=p
   simp only[growB,Bool.and_eq_true] at h
   exact⟨Nat.eq_of_beq_eq_true h.1,Nat.eq_of_beq_eq_true h.2⟩
theorem srcB_ok{sz:Nat}{o:Option Nat}(h:srcB sz o=true):srcOk sz o:=by
 cases o with
 | none=>trivial
 | some p=>exact Nat.eq_of_beq_eq_true h
def twopK(fr:TFr)(st:TS)(k:AV→TFr→TS→Prop):WOp→Prop
 | .app e sz bytes s x=>match (tev fr s).growOf,(tev fr x).rowOf with
   | some (o,gs),some (_,z,hs)=>match growB e sz o&&tyB e sz,srcB sz z with
     | true,true=>BdA (gs.length+hs.length) bytes∧kilK o fr st fun fr s=>k (.r (.c (.own st.nt e sz (gs++hs)))) fr ⟨st.nt+1,s.obs⟩
     | _,_=>False
   | _,_=>False
 | x=>optS (twop fr st x) k
def callO(Z:TP)(T:Tbl)(X:Pan)(D:TD)(f:FuncId)(avs:List AV)(fr:TFr)(st:TS)(k:AV→TFr→TS→Prop)(R:Value→Prop):Prop:=match D.node.elem f with
 | true=>nodeC avs fr st k
 | false=>callT Z T X f avs fr st k R
def twO0 (Z:TP)(T:Tbl)(X:Pan)(D:TD)(op:ROp)(fr:TFr)(st:TS)(k:AV→TFr→TS→Prop)(R:Value→Prop):Prop:=match op with
 | .p x=>tpopK fr (fun a=>k a fr st) x
 | .l x=>optT (tlop fr st x) fun a=>k a fr st
 | .a x=>taopK fr st k x
 | .w x=>twopK fr st k x
 | .call f args=>callO Z T X D f (args.map (tev fr)) fr st k R
 | .callv _ _=>False
structure Rec where
 d:Nat
 o:Nat
 off:Nat
 ver:Nat
def fcN (n:Nat)(k:Nat→Prop):Prop:=match n with
 | 0=>k 0
 | n+1=>k (n+1)
def fcV (v:Value)(k:Value→Prop):Prop:=match v with
 | .int kd n=>k (.int kd n)
 | .bool b=>ifT b (k (.bool true)) (k (.bool false))
 | .string s=>k (.string s)
 | .slice a n c=>k (.slice a n c)
 | v=>k v
def fcS (x:SV)(k:SV→Prop):Prop:=match x with
 | .sc v=>fcV v fun v=>k (.sc v)
 | .row sz gs=>k (.row sz gs)
 | .lk x=>k (.lk x)
 | .sub sz gs=>k (.sub sz gs)
def fcC (x:CV)(k:CV→Prop):Prop:=match x with
 | .s x=>fcS x fun x=>k (.s x)
 | .own t e sz gs=>fcN t fun t=>k (.own t e sz gs)
 | .bad=>k .bad
def fcL:List CV→(List CV→Prop)→Prop
 | [],k=>k []
 | x::l,k=>fcC x fun x=>fcL l fun l=>k (x::l)
def fcX (x:RV)(k:RV→Prop):Prop:=match x with
 | .c x=>fcC x fun x=>k (.c x)
 | .agg cs=>fcL cs fun cs=>k (.agg cs)
def fcXs:List RV→(List RV→Prop)→Prop
 | [],k=>k []
 | x::l,k=>fcX x fun x=>fcXs l fun l=>k (x::l)
def fcA (a:AV)(k:AV→Prop):Prop:=match a with
 | .r x=>fcX x fun x=>k (.r x)
 | .ptr o off=>fcN o fun o=>fcN off fun off=>k (.ptr o off)
 | .eptr t g off=>k (.eptr t g off)
 | .tup l=>fcXs l fun l=>k (.tup l)
 | .skip=>k .skip
 | .bad=>k .bad
def fcVo (v:Value)(k:Value→Prop):Prop:=match v with
 | .int kd n=>k (.int kd n)
 | .bool b=>k (.bool b)
 | .string s=>k (.string s)
 | .slice a n c=>k (.slice a n c)
 | v=>k v
def fcSo (x:SV)(k:SV→Prop):Prop:=match x with
 | .sc v=>fcVo v fun v=>k (.sc v)
 | .row sz gs=>k (.row sz gs)
 | .lk x=>k (.lk x)
 | .sub sz gs=>k (.sub sz gs)
def fcCo (x:CV)(k:CV→Prop):Prop:=match x with
 | .s x=>fcSo x fun x=>k (.s x)
 | .own t e sz gs=>fcN t fun t=>k (.own t e sz gs)
 | .bad=>k .bad
def fcLo:List CV→(List CV→Prop)→Prop
 | [],k=>k []
 | x::l,k=>fcCo x fun x=>fcLo l fun l=>k (x::l)
def fcO:List (Nat×TypeId×List CV)→(List (Nat×TypeId×List CV)→Prop)→Prop
 | [],k=>k []
 | (v,e,cs)::l,k=>fcN v fun v=>fcLo cs fun cs=>fcO l fun l=>k ((v,e,cs)::l)
def fcT (st:TS)(k:TS→Prop):Prop:=match st with
 | ⟨n,l⟩=>fcN n fun n=>fcO l fun l=>k ⟨n,l⟩
theorem fcN_eq{n:Nat}{k:Nat→Prop}:fcN n k=k n:=by cases n<;>rfl
theorem fcV_eq{v:Value}{k:Value→Prop}:fcV v k=k v:=by
 cases v with
 | bool b=>cases b<;>rfl
 | _=>rfl
theorem fcS_eq{x:SV}{k:SV→Prop}:fcS x k=k x:=by
 cases x with
 | sc v=>simp only[fcS,fcV_eq]
 | row=>rfl
 | lk=>rfl
 | sub=>rfl
theorem fcC_eq{x:CV}{k:CV→Prop}:fcC x k=k x:=by
 cases x with
 | s x=>simp only[fcC,fcS_eq]
 | own=>simp only[fcC,fcN_eq]
 | bad=>rfl
theorem fcL_eq : ∀ {l:List CV} {k:List CV→Prop},fcL l k=k l
 | [],_=>rfl
 | x::l,k=>by simp only[fcL,fcC_eq,fcL_eq]
theorem fcX_eq{x:RV}{k:RV→Prop}:fcX x k=k x:=by
 cases x with
 | c x=>simp only[fcX,fcC_eq]
 | agg cs=>simp only[fcX,fcL_eq]
theorem fcXs_eq : ∀ {l:List RV} {k:List RV→Prop},fcXs l k=k l
 | [],_=>rfl
 | x::l,k=>by simp only[fcXs,fcX_eq,fcXs_eq]
theorem fcA_eq{a:AV}{k:AV→Prop}:fcA a k=k a:=by
 cases a with
 | r x=>simp only[fcA,fcX_eq]
 | ptr o off=>simp only[fcA,fcN_eq]
 | tup l=>simp only[fcA,fcXs_eq]
 | _=>rfl
theorem fcVo_eq{v:Value}{k:Value→Prop}:fcVo v k=k v:=by cases v<;>rfl
theorem fcSo_eq{x:SV}{k:SV→Prop}:fcSo x k=k x:=by
 cases x with
 | sc v=>simp only[fcSo,fcVo_eq]
 | row=>rfl
 | lk=>rfl
 | sub=>rfl
theorem fcCo_eq{x:CV}{k:CV→Prop}:fcCo x k=k x:=by
 cases x with
 | s x=>simp only[fcCo,fcSo_eq]
 | own=>simp only[fcCo,fcN_eq]
 | bad=>rfl
theorem fcLo_eq : ∀ {l:List CV} {k:List CV→Prop},fcLo l k=k l
 | [],_=>rfl
 | x::l,k=>by simp only[fcLo,fcCo_eq,fcLo_eq]
theorem fcO_eq : ∀ {l:List (Nat×TypeId×List CV)} {k:List (Nat×TypeId×List CV)→Prop},fcO l k=k l
 | [],_=>rfl
 | (v,e,cs)::l,k=>by simp only[fcO,fcN_eq,fcLo_eq,fcO_eq]
theorem fcT_eq{st:TS}{k:TS→Prop}:fcT st k=k st:=by
 obtain⟨n,l⟩:=st
 simp only[fcT,fcN_eq,fcO_eq]
def twO (Z:TP)(T:Tbl)(X:Pan)(D:TD)(op:ROp)(fr:TFr)(st:TS)(k:AV→TFr→TS→Prop)(R:Value→Prop):Prop:=twO0 Z T X D op fr st (fun a f s=>fcA a fun a=>fcT s fun s=>k a f s) R
theorem twO_eq{Z:TP}{T:Tbl}{X:Pan}{D:TD}{op:ROp}{fr:TFr}{st:TS}{k:AV→TFr→TS→Prop}{R:Value→Prop}:twO Z T X D op fr st k R=twO0 Z T X D op fr st k R:=by
 unfold twO
 congr 1
 funext a f s
 rw[fcA_eq,fcT_eq]
def fcRs:List Rec→(List Rec→Prop)→Prop
 | [],k=>k []
 | ⟨d,o,off,v⟩::l,k=>fcN o fun o=>fcN off fun off=>fcN v fun v=>fcRs l fun l=>k (⟨d,o,off,v⟩::l)
theorem fcRs_eq : ∀ {l:List Rec} {k:List Rec→Prop},fcRs l k=k l
 | [],_=>rfl
 | ⟨d,o,off,v⟩::l,k=>by simp only[fcRs,fcN_eq,fcRs_eq]
def eqB (c b:Bool):Bool:=match b with
 | true=>c
 | false=> !c
def grdT (fr:TFr)(g:Option (Nat×Bool))(yes no:Prop):Prop:=match g with
 | none=>yes
 | some (s,b)=>match fr s with
   | .r (.c (.s (.sc (.bool c))))=>ifT (eqB c b) yes no
   | .skip=>no
   | _=>False
def twI (Z:TP)(T:Tbl)(X:Pan)(D:TD)(R:Value→Prop):List Item→TFr→TS→(TFr→TS→Prop)→Prop
 | [],fr,st,k=>k fr st
 | it::r,fr,st,k=>grdT fr it.guard (twO Z T X D it.op fr st (fun a fr1 st1=>twI Z T X D R r (putA fr1 it.dst a) st1 k) R) (twI Z T X D R r (putA fr it.dst .skip) st k)
def recX (fr:TFr)(st:TS)(d:Nat)(x:Operand):List Rec:=match tev fr x with
 | .ptr o off=>match st.obs[o]? with
   | some (v,_,_)=> [⟨d,o,off,v⟩]
   | none=> []
 | _=> []
def recOf(fr:TFr)(st:TS)(it:Item):List Rec:=match it.op,it.dst with
 | .l (.ld x),some d=>recX fr st d x
 | .l (.lda _ x),some d=>recX fr st d x
 | _,_=> []
def twZ:List Item→TFr→TS→Prop
 | [],_,_=>True
 | it::r,fr,st=>grdT fr it.guard (match it.op with
   | .p x=>tpopK fr (fun a=>twZ r (putA fr it.dst a) st) x
   | .l x=>optT (tlop fr st x) fun a=>twZ r (putA fr it.dst a) st
   | _=>False) (twZ r (putA fr it.dst .skip) st)
def panQ (q:Option (List Item))(fr:TFr)(st:TS)(R:Value→Prop):Value→Prop:=match q with
 | some Zl=>fun v=>twZ Zl fr st∧R v
 | none=>fun _=>False
def nxQ (q:Option (List Item))(op:ROp):Option (List Item):=match isQ op with
 | true=>q
 | false=>none
def addB (b:Bool)(s:TS)(l:List TS):List TS:=match b with
 | true=>s::l
 | false=>l
def twD (Z:TP)(T:Tbl)(X:Pan)(D:TD)(R:Value→Prop):Option (List Item)→List Item→TFr→TS→(TFr→TS→List TS→List Rec→Prop)→Prop
 | _,[],fr,st,k=>k fr st [] []
 | q,it::r,fr,st,k=>grdT fr it.guard (twO Z T X D it.op fr st (fun a fr1 st1=>fcRs (recOf fr st it) fun rc=>twD Z T X D R (nxQ q it.op) r (putA fr1 it.dst a) st1 fun f s l c=>k f s (addB (isW it.op) st1 l) (rc++c)) (panQ q fr st R))
    (twD Z T X D R (nxQ q it.op) r (putA fr it.dst .skip) st fun f s l c=>k f s (addB (isW it.op) st l) c)
def rdX:ROp→Option Operand
 | .l (.ld x)=>some x
 | .l (.lda _ x)=>some x
 | _=>none
def findR(d:Nat):List Rec→Option Rec
 | []=>none
 | r::c=>match Nat.beq r.d d with
   | true=>some r
   | false=>findR d c
theorem findR_ok{d:Nat}{rc:Rec} : ∀ {c:List Rec},findR d c=some rc→rc∈c∧rc.d=d
 | [],h=>by cases h
 | r::c,h=>by
   simp only[findR] at h
   split at h
   ·rename_i hb;cases h;exact⟨by simp,Nat.eq_of_beq_eq_true hb⟩
   ·obtain⟨h1,h2⟩:=findR_ok h;exact⟨by simp[h1],h2⟩
def verB (s:TS)(o v:Nat):Bool:=match s.obs[o]? with
 | some (v',_,_)=>Nat.beq v' v
 | none=>false
def recB (a:AV)(r:Option Rec)(s:TS):Bool:=match a,r with
 | .ptr o off,some r=>Nat.beq r.o o&&(Nat.beq r.off off&&verB s o r.ver)
 | _,_=>false
def cntD (d:Nat):List Item→Nat
 | []=>0
 | it::r=>match it.dst with
   | some e=>match Nat.beq e d with
     | true=>cntD d r+1
     | false=>cntD d r
   | none=>cntD d r
def chkT (fr:TFr)(S:List TS)(c:List Rec)(its:List Item)(p:Item×Nat)(k:Prop):Prop:=match S[p.2]? with
 | none=>False
 | some s=>grdT fr p.1.guard
   (match rdX p.1.op,p.1.dst with
     | some x,some d=>its.filter (fun i=>decide (i.dst=some d))= [p.1]∧match recB (tev fr x) (findR d c) s with
       | true=>k
       | false=>False
     | _,_=>False) k
def chkL (fr:TFr)(S:List TS)(c:List Rec)(its:List Item)(k:Prop):List (Item×Nat)→Prop
 | []=>k
 | p::r=>chkT fr S c its p (chkL fr S c its k r)
variable {T:Tbl} {X:Pan} {Z:TP} {D:TD} {K0 K K' K'':CH} {sp:Option Nat} {W0:Nat→Prop} {st st' st'' st1:TS} {fr fr1:TFr} {cfr:Fr} {E E' E'':TE}
theorem grd_rel(h:TR Z K0 sp W0 K st fr cfr E){g:Option (Nat×Bool)}{yes no:Prop}(hg:grdT fr g yes no):(wantedF cfr g=some true∧yes)∨(wantedF cfr g=some false∧no):=by
 unfold grdT at hg
 split at hg
 ·exact .inl ⟨rfl,hg⟩
 ·rename_i s b
  have hr:=h.frm s
  split at hg
  ·rename_i c e
   have:=raw_rel hr (by rw[e];rfl)
   unfold ifT at hg
   split at hg
   ·rename_i hc
    refine .inl ⟨?_,hg⟩
    cases b<;>cases c<;>first | (simp only[wantedF,this];rfl) | (simp[eqB] at hc)
   ·rename_i hc
    refine .inr ⟨?_,hg⟩
    cases b<;>cases c<;>first | (simp only[wantedF,this];rfl) | (simp[eqB] at hc)
  ·rename_i e
   rw[e] at hr
   cases hv:cfr s with
   | _=>rw[hv] at hr;cases hr;try exact .inr ⟨by simp only[wantedF,hv],hg⟩
  ·exact hg.elim
theorem TR.put(h:TR Z K0 sp W0 K st fr cfr E){d:Option Nat}{a:AV}{v:Value}(ha:AVR K E a v):TR Z K0 sp W0 K st (putA fr d a) (putF cfr d v) E:=⟨h.nx,h.keep,h.prot,h.hid,h.wr,h.sig,h.inj,h.sr,h.rho,h.rinj,h.obs,fun t=>by
 cases d with
 | none=>exact h.frm t
 | some d=>
   rw[putA_if]
   show AVR K E (if t=d then a else fr t) (if t=d then v else cfr t)
   split
   ·exact ha
   ·exact h.frm t⟩
theorem row_len{a:AV}{v:Value}(h:AVR K E a v){t z:Option Nat}{gs:List (List SV)}(hr:a.rowOf=some (t,z,gs)):gs.length≤maxLen:=by
 rcases row_rel h hr with ⟨rfl,_⟩ | ⟨h1,_⟩
 ·exact Nat.zero_le _
 ·exact h1.2
theorem tpopK_ok(hf : ∀t,AVR K E (fr t) (cfr t)){k:AV→Prop}{x:POp}(h:tpopK fr k x) : ∃a,tpop fr x=some a∧k a:=by
 unfold tpopK at h
 split at h
 ·rename_i x i sz
  split at h
  ·rename_i t z gs kk j e1 e2
   obtain⟨h1,n,g,rfl,h2,h3⟩:=h
   refine⟨_,?_,h3⟩
   simp only[tpop,e1,e2]
   rw[if_pos ⟨h1,by omega⟩,Int.toNat_natCast,h2];rfl
  ·exact h.elim
 ·rename_i x
  have hx:=tev_rel hf x
  split at h
  ·rename_i sz gs e
   rw[e] at hx
   exact⟨iS gs.length,by simp only[tpop,e];rfl,h (row_len (t:=none) (z:=some sz) hx rfl)⟩
  ·rename_i t e' sz gs e
   rw[e] at hx
   exact⟨iS gs.length,by simp only[tpop,e];rfl,h (row_len (t:=some t) (z:=some sz) hx rfl)⟩
  ·rename_i sz gs e
   rw[e] at hx
   refine⟨iS gs.length,by simp only[tpop,e];rfl,h ?_⟩
   generalize evF cfr x=w at hx
   cases hx with | r hx=>cases hx with | c hx=>cases hx with | s hx=>
   cases hx with
   | sub0=>exact Nat.zero_le _
   | sub hne=>exact hne.2
  ·unfold optT at h
   split at h
   ·rename_i a e;exact⟨a,by simp only[tpop];exact e,h⟩
   ·exact h.elim
 ·unfold optT at h
  split at h
  ·rename_i a e;exact⟨a,e,h⟩
  ·exact h.elim
theorem twopK_ok{k:AV→TFr→TS→Prop}{x:WOp}(h:twopK fr st k x) : ∃a fr1 st1,twop fr st x=some (a,fr1,st1)∧k a fr1 st1:=by
 unfold twopK at h
 split at h
 ·rename_i e sz bytes s x
  split at h
  ·rename_i o gs t z hs e1 e2
   split at h
   ·rename_i b1 b2
    obtain⟨⟨h1,h2⟩,h3⟩:=h
    rw[kilK_eq] at h3
    refine⟨_,_,_,?_,h3⟩
    simp only[twop,e1,e2]
    simp only[Bool.and_eq_true] at b1
    rw[if_pos ⟨growB_ok b1.1,srcB_ok b2,h1,h2,b1.2⟩]
   ·exact h.elim
  ·exact h.elim
 ·unfold optS at h
  split at h
  ·rename_i a fr1 st1 e;exact⟨a,fr1,st1,e,h⟩
  ·exact h.elim
theorem twO_sound(hD:TDOk T D)(h:TR Z K0 sp W0 K st fr cfr E){op:ROp}{k:AV→TFr→TS→Prop}{R:Value→Prop}(hk:twO Z T X D op fr st k R):WxO T X cfr K op (fun v K1=>∃a fr1 st1 E1,TR Z K0 sp W0 K1 st1 fr1 cfr E1∧AVR K1 E1 a v∧Stp K st E K1 st1 E1∧k a fr1 st1) (PX K0 sp W0 R):=by
 rw[twO_eq] at hk
 cases op with
 | p x=>
   left
   rw[wpO_p]
   obtain⟨a,e,hk⟩:=tpopK_ok h.frm (k:=fun a=>k a fr st) hk
   obtain⟨v,q1,q2⟩:=tpop_sound h.frm e
   exact⟨v,q1,a,fr,st,E,h,q2,Stp.refl,hk⟩
 | l x=>
   left
   rw[wpO_l]
   simp only[twO0,optT] at hk
   split at hk
   ·rename_i a e
    obtain⟨v,q1,q2⟩:=tlop_sound h e
    exact⟨v,q1,a,fr,st,E,h,q2,Stp.refl,hk⟩
   ·exact hk.elim
 | a x=>
   left
   rw[wpO_a]
   obtain⟨a,fr1,st1,e,hk⟩:=taopK_ok hk
   obtain⟨cs,e,kd,mk,E1,q1,q2,q3,q4⟩:=taop_sound h e
   exact⟨cs,e,kd,mk,q1,a,fr1,st1,E1,q2,q3,q4,hk⟩
 | w x=>
   left
   rw[wpO_w]
   obtain⟨a,fr1,st1,e,hk⟩:=twopK_ok hk
   obtain⟨v,K1,E1,q1,q2,q3,q4⟩:=twop_sound h e
   exact⟨v,K1,q1,a,fr1,st1,E1,q2,q3,q4,hk⟩
 | call f args=>
   simp only[twO0,callO] at hk
   split at hk
   ·rename_i hf
    left
    rw[wpO_call]
    exact nodeC_sound hD h hf hk
   ·rcases callT_sound h hk with g | g
    ·left;rw[wpO_call];exact g
    ·exact .inr ⟨f,args,rfl,g⟩
 | callv g args=>exact hk.elim
theorem WxI.mono{its:List Item}{fr:Fr}{H:CH}{K K':Fr→CH→Prop}{R:Value→CH→Prop}(h:WxI T X its fr H K R)(hk : ∀f H,K f H→K' f H):WxI T X its fr H K' R:=by
 rcases h with ⟨n,f,H',h1,h2⟩ | h
 ·exact .inl ⟨n,f,H',h1,hk _ _ h2⟩
 ·exact .inr h
theorem twI_sound(hD:TDOk T D){R:Value→Prop} : ∀ {its:List Item} {K:CH} {st:TS} {fr:TFr} {cfr:Fr} {E:TE} {k:TFr→TS→Prop},TR Z K0 sp W0 K st fr cfr E→twI Z T X D R its fr st k→WxI T X its cfr K (fun cfr' K'=>∃fr' st' E',TR Z K0 sp W0 K' st' fr' cfr' E'∧Stp K st E K' st' E'∧k fr' st') (PX K0 sp W0 R)
 | [],K,st,fr,cfr,E,k,h,hk=> .inl (wpI_nil.2 ⟨fr,st,E,h,Stp.refl,hk⟩)
 | it::r,K,st,fr,cfr,E,k,h,hk=>by
   obtain⟨d,op,g⟩:=it
   rcases grd_rel h hk with ⟨q,hk⟩ | ⟨q,hk⟩
   ·refine wxI_cons q ?_
    rcases twO_sound hD h hk with ⟨n,v,K1,w1,a,fr1,st1,E1,t1,t2,t3,t4⟩ | hp
    ·left
     refine⟨n,v,K1,w1,?_⟩
     exact(twI_sound hD (its:=r) (t1.put (d:=d) t2) t4).mono fun f' K' ⟨fr',st',E',z2,z3,z4⟩=>⟨fr',st',E',z2,t3.trans z3,z4⟩
    ·exact .inr hp
   ·refine wxI_skip q ?_
    exact(twI_sound hD (its:=r) (h.put (d:=d) (a:= .skip) (v:=skipV) .skip) hk).mono fun f' K' ⟨fr',st',E',z2,z3,z4⟩=>⟨fr',st',E',z2,z3,z4⟩
def rdV (op:ROp)(ob:CObj)(off:Nat):Option Value:=match op,ob with
 | .l (.ld _), .cells cs _ _=>cs[off]?
 | .l (.lda n _), .cells cs _ _=>if off+n≤cs.length then some (.agg ((cs.drop off).take n).toArray) else none
 | _,_=>none
theorem rdV_lop{op:ROp}{x:Operand}(hx:rdX op=some x){ev:Operand→Value}{b off:Nat}(hv:ev x= .pointer (some ⟨b,off,none⟩)){G:CH} : ∃y,op= .l y∧lop G ev y=rdV op (G.ob b) off:=by
 unfold rdX at hx
 split at hx
 ·cases hx
  refine⟨_,rfl,?_⟩
  simp only[lop,hv,rdV]
  cases G.ob b<;>rfl
 ·cases hx
  refine⟨_,rfl,?_⟩
  simp only[lop,hv,rdV]
  cases G.ob b<;>rfl
 ·cases hx
structure RecR(st:TS)(E':TE)(its:List Item)(cfr':Fr)(L:List (CH×TS))(r:Rec):Prop where
 h : ∃b x it ob,it∈its∧it.dst=some r.d∧rdX it.op=some x∧E'.ρ r.o=some b∧(∀v e cs,st.obs[r.o]? = some (v,e,cs)→v≤r.ver)∧(∀it0,its.filter (fun i=>decide (i.dst=some r.d))= [it0]→rdV it.op ob r.off=some (cfr' r.d))∧∀p∈L,∀e cs,p.2.obs[r.o]? = some (r.ver,e,cs)→p.1.ob b=ob
theorem twZ_sound : ∀ {its:List Item} {fr:TFr} {cfr:Fr},TR Z K0 sp W0 K st fr cfr E→twZ its fr st→∃n r,runI (evH T n) its cfr K=some r
 | [],fr,cfr,h,hk=>⟨0,_,rfl⟩
 | it::r,fr,cfr,h,hk=>by
   obtain⟨d,op,g⟩:=it
   rcases grd_rel h hk with ⟨q,hk⟩ | ⟨q,hk⟩
   ·simp only at hk
    cases op with
    | p x=>
      obtain⟨a,e,hk⟩:=tpopK_ok h.frm hk
      obtain⟨v,q1,q2⟩:=tpop_sound h.frm e
      obtain⟨n,r',hr⟩:=twZ_sound (its:=r) (h.put (d:=d) q2) hk
      exact⟨n,r',by simp only[runI,stepI,q,rop,q1,Option.map_some];exact hr⟩
    | l x=>
      simp only[optT] at hk
      split at hk
      ·rename_i a e
       obtain⟨v,q1,q2⟩:=tlop_sound h e
       obtain⟨n,r',hr⟩:=twZ_sound (its:=r) (h.put (d:=d) q2) hk
       exact⟨n,r',by simp only[runI,stepI,q,rop,q1,Option.map_some];exact hr⟩
      ·exact hk.elim
    | _=>exact hk.elim
   ·obtain⟨n,r',hr⟩:=twZ_sound (its:=r) (h.put (d:=d) (a:= .skip) (v:=skipV) .skip) hk
    exact⟨n,r',by simp only[runI,stepI,q];exact hr⟩
theorem twD_sound(hD:TDOk T D){R:Value→Prop} : ∀ {pq:Option (List Item)} {its:List Item} {K:CH} {st:TS} {fr:TFr} {cfr:Fr} {E:TE} {k:TFr→TS→List TS→List Rec→Prop},TR Z K0 sp W0 K st fr cfr E→twD Z T X D R pq its fr st k→(∃n v H',pq.isSome=true∧PanI T X n pq its cfr K v H'∧PX K0 sp W0 R v H')∨WpD T its cfr K fun cfr' K' L=>∃fr' st' E' P C,TR Z K0 sp W0 K' st' fr' cfr' E'∧Stp K st E K' st' E'∧k fr' st' (P.map Prod.snd) C∧L=P.map Prod.fst∧(∀p∈P,∃Ep,Stp K st E p.1 p.2 Ep)∧(∀r∈C,RecR st E' its cfr' ((K,st)::P) r)∧∀t,(∀i∈its,i.dst≠some t)→cfr' t=cfr t
 | pq,[],K,st,fr,cfr,E,k,h,hk=> .inr <| wpD_nil.2 ⟨fr,st,E,[],[],h,Stp.refl,hk,rfl,(fun _ q=>(by cases q)),(fun _ q=>(by cases q)),fun _ _=>rfl⟩
 | pq,it::r,K,st,fr,cfr,E,k,h,hk=>by
   obtain⟨d,op,g⟩:=it
   have hput : ∀ {cfr':Fr} {v:Value},(∀t,(∀i∈r,i.dst≠some t)→cfr' t=putF cfr d v t)→∀t,(∀i∈(⟨d,op,g⟩:Item)::r,i.dst≠some t)→cfr' t=cfr t:=fun {cfr' v} hq t ht=>by
    rw[hq t fun i hi=>ht i (by simp[hi])]
    have:=ht ⟨d,op,g⟩ (by simp)
    cases d with
    | none=>rfl
    | some d=>exact if_neg fun e=>this (by rw[e])
   rcases grd_rel h hk with ⟨q,hk⟩ | ⟨q,hk⟩
   ·rcases twO_sound hD h hk with ⟨n,v,K1,w1,a,fr1,st1,E1,t1,t2,t3,t4⟩ | ⟨f,args,e1,n,v,H',p1,p2⟩
    rotate_left
    ·cases pq with
     | some Zl=>exact .inl ⟨n,v,H',rfl,panI_here q e1 (fun Zl' e=>by cases e;exact twZ_sound h p2.2.2.1) p1,p2.1,p2.2.1,p2.2.2.2⟩
     | none=>exact p2.2.2.elim
    rw[fcRs_eq] at t4
    rcases twD_sound hD (its:=r) (t1.put (d:=d) t2) t4 with ⟨m,u,H',p0,p1,p2⟩ | hr
    ·unfold nxQ at p0 p1
     split at p0
     ·rename_i hop
      rw[hop] at p1
      exact .inl ⟨m,u,H',p0,panI_cons (m:=n) (by simp only[stepI,q,w1];rfl) (fun _ _=>hop) p1,p2⟩
     ·cases p0
    right
    rw[wpD_cons]
    simp only[q]
    refine⟨n,v,K1,w1,?_⟩
    obtain⟨n',f',K',L,z1,fr',st',E',P,C,z2,z3,z4,z5,z6,z7,z8⟩:=hr
    have hP : ∃P':List (CH×TS),addB (isW op) st1 (P.map Prod.snd)=P'.map Prod.snd∧(if isW op=true then K1::L else L)=P'.map Prod.fst∧∀p∈P',p=(K1,st1)∨p∈P:=by
     by_cases hw:isW op=true
     ·exact⟨(K1,st1)::P,by rw[hw];rfl,by rw[if_pos hw,z5];rfl,fun p hp=>by simpa using hp⟩
     ·exact⟨P,by rw[Bool.not_eq_true] at hw;rw[hw];rfl,by rw[if_neg hw,z5],fun p hp=> .inr hp⟩
    obtain⟨P',p1,p2,p3⟩:=hP
    have hstp : ∀p∈P',∃Ep,Stp K st E p.1 p.2 Ep:=fun p hp=>by
     rcases p3 p hp with rfl | hp
     ·exact⟨E1,t3⟩
     ·obtain⟨Ep,k1⟩:=z6 p hp;exact⟨Ep,t3.trans k1⟩
    refine⟨n',f',K',L,z1,fr',st',E',P',recOf fr st ⟨d,op,g⟩++C,z2,t3.trans z3,by rw[←p1];exact z4,p2,hstp,fun rc hrc=> ?_,hput z8⟩
    rcases List.mem_append.1 hrc with hrc | hrc
    ·
     have key : ∀x d',rdX op=some x→d=some d'→rc∈recX fr st d' x→RecR st E' (⟨d,op,g⟩::r) f' ((K,st)::P') rc:=fun x d' hx hd hrx=>by
      subst hd
      unfold recX at hrx
      split at hrx
      ·rename_i o off he
       split at hrx
       ·rename_i ver ty cs ho
        obtain rfl:=List.mem_singleton.1 hrx
        have hr:=tev_rel h.frm x
        rw[he] at hr
        obtain⟨b,hb,hv⟩:=hr.ptr_inv
        refine⟨b,x,⟨some d',op,g⟩,K.ob b,by simp,rfl,hx,z3.rho o b (t3.rho o b hb),fun v' e' cs' q=>by rw[ho] at q;cases q;exact Nat.le_refl _,fun it0 hf=> ?_,fun p hp e' cs' q=> ?_⟩
        ·have hf2:r.filter (fun i=>decide (i.dst=some d'))= []:=by
          rw[List.filter_cons_of_pos (by simp)] at hf
          exact(List.cons.inj hf).2
         have hcf:f' d'=v:=by
          rw[z8 d' fun i hi e=>by
           have:i∈r.filter (fun i=>decide (i.dst=some d')):=List.mem_filter.2 ⟨hi,by simpa using e⟩
           rw[hf2] at this;cases this]
          exact if_pos rfl
         show rdV op (K.ob b) off=some (f' d')
         rw[hcf]
         obtain⟨y,rfl,hy⟩:=rdV_lop hx hv (G:=K)
         obtain⟨_,w2⟩:=(wpO_l (K:=fun v' K'=>v'=v)).1 ⟨n,v,K1,w1,rfl⟩
         rw[←hy];rw[w2.2] at w2;exact w2.1
        ·rcases List.mem_cons.1 hp with rfl | hp
         ·rfl
         ·obtain⟨Ep,k1⟩:=hstp p hp
          obtain⟨v2,cs2,g1,g2,g3⟩:=k1.ver o _ _ _ ho
          rw[g1] at q;cases q
          exact g3 rfl b hb
       ·cases hrx
      ·cases hrx
     unfold recOf at hrc
     split at hrc
     ·rename_i x d' e1 e2
      have e1:op= .l (.ld x):=e1
      exact key x d' (by rw[e1];rfl) e2 hrc
     ·rename_i m x d' e1 e2
      have e1:op= .l (.lda m x):=e1
      exact key x d' (by rw[e1];rfl) e2 hrc
     ·cases hrc
    ·
     obtain⟨b,x,it,ob,r1,r2,r3,r4,r5,r6,r7⟩:=(z7 rc hrc).h
     have hle : ∀v e cs,st.obs[rc.o]? = some (v,e,cs)→v≤rc.ver:=fun v e cs q=>by
      obtain⟨v2,cs2,g1,g2,g3⟩:=t3.ver _ _ _ _ q
      exact Nat.le_trans g2 (r5 _ _ _ g1)
     refine⟨b,x,it,ob,by simp[r1],r2,r3,r4,hle,fun it0 hf=> ?_,fun p hp e' cs' q=> ?_⟩
     ·by_cases hd:d=some rc.d
      ·rw[List.filter_cons_of_pos (by simpa using hd)] at hf
       have hf2:=(List.cons.inj hf).2
       have:it∈r.filter (fun i=>decide (i.dst=some rc.d)):=List.mem_filter.2 ⟨r1,by simpa using r2⟩
       rw[hf2] at this;cases this
      ·rw[List.filter_cons_of_neg (by simpa using hd)] at hf
       exact r6 it0 hf
     ·rcases List.mem_cons.1 hp with rfl | hp
      ·obtain⟨v2,cs2,g1,g2,g3⟩:=t3.ver _ _ _ _ q
       have:=r5 _ _ _ g1
       have hv2:v2=rc.ver:=by omega
       subst hv2
       have k1:=r7 (K1,st1) (by simp) _ _ g1
       obtain⟨bb,os,h1,h2,h3⟩:=h.obs _ _ _ _ q
       have:bb=b:=by
        have:=z3.rho _ _ (t3.rho _ _ h1)
        rw[r4] at this;cases this;rfl
       subst this
       exact(g3 rfl bb h1).symm.trans k1
      ·rcases p3 p hp with rfl | hp
       ·exact r7 _ (by simp) e' cs' q
       ·exact r7 p (by simp[hp]) e' cs' q
   ·rcases twD_sound hD (its:=r) (h.put (d:=d) (a:= .skip) (v:=skipV) .skip) hk with ⟨m,u,H',p0,p1,p2⟩ | hr
    ·unfold nxQ at p0 p1
     split at p0
     ·rename_i hop
      rw[hop] at p1
      exact .inl ⟨m,u,H',p0,panI_cons (m:=0) (by simp only[stepI,q]) (fun _ _=>hop) p1,p2⟩
     ·cases p0
    right
    rw[wpD_cons]
    simp only[q]
    obtain⟨n',f',K',L,z1,fr',st',E',P,C,z2,z3,z4,z5,z6,z7,z8⟩:=hr
    have hP : ∃P':List (CH×TS),addB (isW op) st (P.map Prod.snd)=P'.map Prod.snd∧(if isW op=true then K::L else L)=P'.map Prod.fst∧∀p∈P',p=(K,st)∨p∈P:=by
     by_cases hw:isW op=true
     ·exact⟨(K,st)::P,by rw[hw];rfl,by rw[if_pos hw,z5];rfl,fun p hp=>by simpa using hp⟩
     ·exact⟨P,by rw[Bool.not_eq_true] at hw;rw[hw];rfl,by rw[if_neg hw,z5],fun p hp=> .inr hp⟩
    obtain⟨P',p1,p2,p3⟩:=hP
    refine⟨n',f',K',L,z1,fr',st',E',P',C,z2,z3,by rw[←p1];exact z4,p2,fun p hp=> ?_,fun rc hrc=> ?_,hput z8⟩
    ·rcases p3 p hp with rfl | hp
     ·exact⟨E,Stp.refl⟩
     ·exact z6 p hp
    ·obtain⟨b,x,it,ob,r1,r2,r3,r4,r5,r6,r7⟩:=(z7 rc hrc).h
     refine⟨b,x,it,ob,by simp[r1],r2,r3,r4,r5,fun it0 hf=> ?_,fun p hp e' cs' q=> ?_⟩
     ·by_cases hd:d=some rc.d
      ·rw[List.filter_cons_of_pos (by simpa using hd)] at hf
       have hf2:=(List.cons.inj hf).2
       have:it∈r.filter (fun i=>decide (i.dst=some rc.d)):=List.mem_filter.2 ⟨r1,by simpa using r2⟩
       rw[hf2] at this;cases this
      ·rw[List.filter_cons_of_neg (by simpa using hd)] at hf
       exact r6 it0 hf
     ·rcases List.mem_cons.1 hp with rfl | hp
      ·exact r7 _ (by simp) e' cs' q
      ·rcases p3 p hp with rfl | hp
       ·exact r7 _ (by simp) e' cs' q
       ·exact r7 p (by simp[hp]) e' cs' q
structure Stw(st:TS)(E:TE)(st':TS)(E':TE):Prop where
 hid : ∀b,E.hid b→E'.hid b
 rho : ∀o b,E.ρ o=some b→E'.ρ o=some b
 typ : ∀(o v:Nat) (e:TypeId) (cs:List CV),st.obs[o]? = some (v,e,cs)→∃v' cs',st'.obs[o]? = some (v',e,cs')
theorem Stw.refl:Stw st E st E:=⟨fun _ h=>h,fun _ _ h=>h,fun o v e cs h=>⟨v,cs,h⟩⟩
theorem Stw.trans(h:Stw st E st' E')(g:Stw st' E' st'' E''):Stw st E st'' E'':=⟨fun b q=>g.hid b (h.hid b q),fun o b q=>g.rho o b (h.rho o b q),fun o v e cs q=>by
 obtain⟨v1,cs1,k1⟩:=h.typ o v e cs q
 exact g.typ o v1 e cs1 k1⟩
theorem Stp.w(h:Stp K st E K' st' E'):Stw st E st' E':=⟨h.hid,h.rho,fun o v e cs q=>by
 obtain⟨v1,cs1,k1,_⟩:=h.ver o v e cs q
 exact⟨v1,cs1,k1⟩⟩
def posN:List Nat→Nat→Option Nat
 | [],_=>none
 | a::l,t=>match Nat.beq a t with
   | true=>some 0
   | false=>match posN l t with
     | some j=>some (j+1)
     | none=>none
theorem posN_ok : ∀ {l:List Nat} {t j:Nat},posN l t=some j→l[j]? = some t
 | [],t,j,h=>by cases h
 | a::l,t,j,h=>by
   simp only[posN] at h
   split at h
   ·rename_i hb;cases h;rw[Nat.eq_of_beq_eq_true hb];rfl
   ·split at h
    ·rename_i j' h';cases h;simpa using posN_ok h'
    ·cases h
def CV.cut(l:List Nat):CV→CV
 | .own t e sz gs=>match posN l t with
   | some j=> .own j e sz gs
   | none=> .s (rowS sz gs)
 | x=>x
def RV.cut(l:List Nat):RV→RV
 | .c x=> .c (x.cut l)
 | .agg cs=> .agg (cs.map (CV.cut l))
def ltB (o k:Nat)(a b:AV):AV:=match Nat.ble k o with
 | true=>b
 | false=>a
def AV.cut(k:Nat)(l:List Nat):AV→AV
 | .r x=> .r (x.cut l)
 | .ptr o off=>ltB o k (.ptr o off) .bad
 | .eptr (some t) g off=>match posN l t with
   | some j=> .eptr (some j) g off
   | none=> .eptr none g off
 | .eptr none g off=> .eptr none g off
 | .tup xs=> .tup (xs.map (RV.cut l))
 | .skip=> .skip
 | .bad=> .bad
def TFr.cut(k:Nat)(l:List Nat)(fr:TFr):TFr:=fun t=>(fr t).cut k l
def TS.cut(k:Nat)(l:List Nat)(st:TS):TS:=⟨l.length,(st.obs.take k).map fun(_,e,cs)=>(0,e,cs.map (CV.cut l))⟩
def TE.cut(k:Nat)(l:List Nat)(E:TE):TE:=⟨fun j=>(l[j]?).bind E.σ,fun o=>if o<k then E.ρ o else none,E.hid⟩
theorem TE.cut_s{k:Nat}{l:List Nat}{j b:Nat}(h:(E.cut k l).σ j=some b) : ∃t,l[j]? = some t∧E.σ t=some b:=by
 have h:(l[j]?).bind E.σ=some b:=h
 cases hj:l[j]? with
 | none=>rw[hj] at h;cases h
 | some t=>rw[hj] at h;exact⟨t,rfl,h⟩
theorem TE.cut_r{k:Nat}{l:List Nat}{o b:Nat}(h:(E.cut k l).ρ o=some b):o<k∧E.ρ o=some b:=by
 have h:(if o<k then E.ρ o else none)=some b:=h
 split at h
 ·rename_i hk;exact⟨hk,h⟩
 ·cases h
theorem frz_cut{k:Nat}{l:List Nat}{b:Nat}(h:Frz K E b):Frz K (E.cut k l) b:=⟨h.1,h.2.1,fun j q=>by
 obtain⟨t,_,q2⟩:=TE.cut_s q
 exact h.2.2.1 t q2,fun o q=>h.2.2.2 o (TE.cut_r q).2⟩
structure SgOk(K:CH)(E:TE):Prop where
 hid : ∀t b,E.σ t=some b→b<K.nx∧¬E.hid b
 inj : ∀t t' b,E.σ t=some b→E.σ t'=some b→t=t'
 sr : ∀t o b,E.σ t=some b→E.ρ o≠some b
theorem posN_none : ∀ {l:List Nat} {t j:Nat},posN l t=none→l[j]? ≠some t
 | [],t,j,h,g=>by simp at g
 | a::l,t,j,h,g=>by
   simp only[posN] at h
   split at h
   ·cases h
   ·rename_i hb
    split at h
    ·cases h
    ·rename_i hp
     cases j with
     | zero=>
       simp at g
       subst g
       have:=Nat.beq_refl a
       rw[hb] at this;cases this
     | succ j=>exact posN_none (j:=j) hp (by simpa using g)
theorem frz_own{k:Nat}{l:List Nat}{t b:Nat}(h:SgOk K E)(hb:E.σ t=some b)(hp:posN l t=none):Frz K (E.cut k l) b:=⟨(h.hid t b hb).1,(h.hid t b hb).2,fun j q=>by
 obtain⟨t',q1,q2⟩:=TE.cut_s q
 have:=h.inj t t' b hb q2
 subst this
 exact posN_none hp q1,fun o q=>h.sr t o b hb (TE.cut_r q).2⟩
theorem CVR.cut(hs:SgOk K E){k:Nat}{l:List Nat}{x:CV}{v:Value}(h:CVR K E x v):CVR K (E.cut k l) (x.cut l) v:=by
 cases h with
 | s h=>exact .s (h.mv fun b hb=>⟨frz_cut hb,rfl⟩)
 | @own0 t sz e=>
   show CVR K _ (match posN l t with | some j=> .own j e sz [] | none=> .s (rowS sz [])) _
   split
   ·exact .own0
   ·exact .s .row0
 | @own t b sz os e kd gs hne hb ho hk hg hv ht=>
   show CVR K _ (match posN l t with | some j=> .own j e sz gs | none=> .s (rowS sz gs)) _
   split
   ·rename_i j hj
    refine .own hne ?_ ho hk hg (hv.mv fun b hb=>⟨frz_cut hb,rfl⟩) ht
    show(l[j]?).bind E.σ=some b
    rw[posN_ok hj];exact hb
   ·rename_i hp
    exact .s (.row hne (frz_own hs hb hp) ho hk hg (hv.mv fun b hb=>⟨frz_cut hb,rfl⟩) ht)
 | bad h=>exact .bad h
theorem RVR.cut(hs:SgOk K E){k:Nat}{l:List Nat}{x:RV}{v:Value}(h:RVR K E x v):RVR K (E.cut k l) (x.cut l) v:=by
 cases h with
 | c h=>exact .c (h.cut hs)
 | agg h=>exact .agg (h.map fun _ _ q=>q.cut hs)
theorem AVR.cut(hg:SgOk K E){k:Nat}{l:List Nat}{x:AV}{v:Value}(h:AVR K E x v):AVR K (E.cut k l) (x.cut k l) v:=by
 cases h with
 | r h=>exact .r (h.cut hg)
 | @ptr o off b h=>
   show AVR K _ (ltB o k (.ptr o off) .bad) _
   unfold ltB
   split
   ·exact .bad
   ·rename_i hk
    refine .ptr ?_
    show(if o<k then E.ρ o else none)=some b
    rw[if_pos (by
     rcases Nat.lt_or_ge o k with g | g
     ·exact g
     ·rw[Nat.ble_eq_true_of_le g] at hk;cases hk)]
    exact h
 | @eptr t g off b base os e kd hb ho hl hs=>
   cases t with
   | none=>exact .eptr (t:=none) (frz_cut hb) ho hl (hs.mono fun _ _ q=>q.mv fun b hb=>⟨frz_cut hb,rfl⟩)
   | some t=>
     show AVR K _ (match posN l t with | some j=> .eptr (some j) g off | none=> .eptr none g off) _
     split
     ·rename_i j hj
      refine .eptr (t:=some j) ?_ ho hl (hs.mono fun _ _ q=>q.mv fun b hb=>⟨frz_cut hb,rfl⟩)
      show(l[j]?).bind E.σ=some b
      rw[posN_ok hj];exact hb
     ·rename_i hp
      exact .eptr (t:=none) (frz_own hg hb hp) ho hl (hs.mono fun _ _ q=>q.mv fun b hb=>⟨frz_cut hb,rfl⟩)
 | tup h=>exact .tup (h.map fun _ _ q=>q.cut hg)
 | skip=>exact .skip
 | bad=>exact .bad
def nodupB:List Nat→Bool
 | []=>true
 | a::l=>match posN l a with
   | some _=>false
   | none=>nodupB l
theorem posN_some : ∀ {l:List Nat} {t j:Nat},l[j]? = some t→∃i,posN l t=some i
 | [],t,j,h=>by simp at h
 | a::l,t,j,h=>by
   simp only[posN]
   cases hb:Nat.beq a t with
   | true=>exact⟨0,rfl⟩
   | false=>
     cases j with
     | zero=>
       simp at h
       subst h
       have:=Nat.beq_refl a
       rw[hb] at this;cases this
     | succ j=>
       obtain⟨i,hi⟩:=posN_some (l:=l) (t:=t) (j:=j) (by simpa using h)
       exact⟨i+1,by simp only[hi]⟩
theorem nodupB_ok : ∀ {l:List Nat},nodupB l=true→∀ {i j t:Nat},l[i]? = some t→l[j]? = some t→i=j
 | [],_,i,j,t,h,_=>by simp at h
 | a::l,hn,i,j,t,h,g=>by
   simp only[nodupB] at hn
   split at hn
   ·cases hn
   ·rename_i hp
    cases i with
    | zero=>
      cases j with
      | zero=>rfl
      | succ j=>
        simp at h g;subst h
        obtain⟨i,hi⟩:=posN_some g
        rw[hp] at hi;cases hi
    | succ i=>
      cases j with
      | zero=>
        simp at h g;subst g
        obtain⟨i,hi⟩:=posN_some h
        rw[hp] at hi;cases hi
      | succ j=>exact congrArg (· + 1) (nodupB_ok hn (i:=i) (j:=j) (t:=t) (by simpa using h) (by simpa using g))
theorem lks_cut{l:List Nat} : ∀ {cs:List CV},lks (cs.map (CV.cut l))=lks cs
 | []=>rfl
 | x::cs=>by
   rw[List.map_cons,lks_cons,lks_cons (x:=x),lks_cut]
   congr 1
   cases x with
   | s y=>rfl
   | bad=>rfl
   | own t e sz gs=>
     show lks [match posN l t with | some j=>CV.own j e sz gs | none=> .s (rowS sz gs)]= []
     cases posN l t<;>rfl
theorem lkW_cut{l:List Nat} : ∀ {cs:List CV} {vs:List Value},lkW (cs.map (CV.cut l)) vs=lkW cs vs
 | [],vs=>rfl
 | x::cs,[]=>by
   cases x with
   | s y=>cases y<;>rfl
   | bad=>rfl
   | own t e sz gs=>
     rw[List.map_cons]
     show lkW ((match posN l t with | some j=>CV.own j e sz gs | none=> .s (rowS sz gs))::_) []= []
     cases posN l t<;>rfl
 | x::cs,v::vs=>by
   rw[List.map_cons,lkW_cons,lkW_cons (x:=x),lkW_cut]
   congr 1
   cases x with
   | s y=>rfl
   | bad=>rfl
   | own t e sz gs=>
     show lkW [match posN l t with | some j=>CV.own j e sz gs | none=> .s (rowS sz gs)] [v]= []
     cases posN l t<;>rfl
theorem TR.cut{k:Nat}{l:List Nat}(h:TR Z K0 sp W0 K st fr cfr E)(hl:nodupB l=true):TR Z K0 sp W0 K (st.cut k l) (fr.cut k l) cfr (E.cut k l):=by
 have hg:SgOk K E:=⟨fun t b q=>⟨(h.sig t b q).2.1,fun hh=>(h.hid b hh).2.1 t q⟩,h.inj,h.sr⟩
 refine⟨h.nx,h.keep,h.prot,fun b hb=> ?_,?_,fun j b q=> ?_,fun j j' b q q'=> ?_,fun j o b q q'=> ?_,fun o b q=> ?_,fun o o' b q q'=> ?_,fun o v e cs q=> ?_,fun t=>(h.frm t).cut hg⟩
 ·obtain⟨k1,k2,k3⟩:=h.hid b hb
  exact⟨k1,fun t q=>by
   obtain⟨t',_,q2⟩:=TE.cut_s q
   exact k2 t' q2,fun o q=>k3 o (TE.cut_r q).2⟩
 ·obtain⟨W,w1,w2⟩:=h.wr
  cases k with
  | zero=>exact⟨fun _=>False,fun _ h=>h.elim,fun _ h=>h⟩
  | succ k=>
    refine⟨W,w1,?_⟩
    show JR Z ((st.obs.take (k+1)).map fun(_,e,cs)=>((0:Nat),e,cs.map (CV.cut l))) K (E.ρ 0) W
    match st.obs,w2 with
    | [],w2=>exact w2
    | (v,e,cs)::r,w2=>
      rcases w2 with ⟨g,g2⟩ | ⟨g,p,os,g1,g2,g3,g4⟩
      ·exact .inl ⟨lks_cut.trans g,g2⟩
      ·exact .inr ⟨by rw[lks_cut];exact g,p,os,g1,g2,by rw[List.length_map];exact g3,by rw[lks_cut,lkW_cut];exact g4⟩
 ·obtain⟨t,q1,q2⟩:=TE.cut_s q
  obtain⟨k1,k2,_⟩:=h.sig t b q2
  exact⟨k1,k2,(List.getElem?_eq_some_iff.1 q1).1⟩
 ·obtain⟨t,q1,q2⟩:=TE.cut_s q
  obtain⟨t',r1,r2⟩:=TE.cut_s q'
  have:=h.inj t t' b q2 r2
  subst this
  exact nodupB_ok hl q1 r1
 ·obtain⟨t,q1,q2⟩:=TE.cut_s q
  exact h.sr t o b q2 (TE.cut_r q').2
 ·obtain⟨q1,q2⟩:=TE.cut_r q
  obtain⟨k1,k2,k3⟩:=h.rho o b q2
  refine⟨k1,k2,?_⟩
  show o<((st.obs.take k).map _).length
  rw[List.length_map,List.length_take];omega
 ·exact h.rinj o o' b (TE.cut_r q).2 (TE.cut_r q').2
 ·have q:((st.obs.take k).map fun(_,e,cs)=>((0:Nat),e,cs.map (CV.cut l)))[o]? = some (v,e,cs):=q
  rw[List.getElem?_map] at q
  cases hq:(st.obs.take k)[o]? with
  | none=>rw[hq] at q;cases q
  | some y=>
    rw[hq] at q
    obtain⟨v1,e1,cs1⟩:=y
    cases q
    have hk:o<k:=by
     have:=(List.getElem?_eq_some_iff.1 hq).1
     rw[List.length_take] at this;omega
    rw[List.getElem?_take_of_lt hk] at hq
    obtain⟨b,os,k1,k2,k3⟩:=h.obs o _ _ _ hq
    exact⟨b,os,by show(if o<k then E.ρ o else none)=some b;rw[if_pos hk];exact k1,k2,k3.map fun _ _ q=>q.cut hg⟩
theorem Stw.cut{l:List Nat}{E0:TE}{st0:TS}(h:Stw st0 E0 st E)(hr : ∀o b,E0.ρ o=some b→o<st0.obs.length):Stw st0 E0 (st.cut st0.obs.length l) (E.cut st0.obs.length l):=⟨h.hid,fun o b q=>by
 show(if o<st0.obs.length then E.ρ o else none)=some b
 rw[if_pos (hr o b q)];exact h.rho o b q,fun o v e cs q=>by
 have ho:=(List.getElem?_eq_some_iff.1 q).1
 obtain⟨v',cs',k1⟩:=h.typ o v e cs q
 refine⟨0,cs'.map (CV.cut l),?_⟩
 show((st.obs.take st0.obs.length).map fun(_,e,cs)=>((0:Nat),e,cs.map (CV.cut l)))[o]? = _
 rw[List.getElem?_map,List.getElem?_take_of_lt ho,k1];rfl⟩
def condT(a:AV)(yes no:Prop):Prop:=match a with
 | .r (.c (.s (.sc (.bool t))))=>ifT t yes no
 | _=>False
def seqT (k:TFr→TS→Prop)(Q:CExit→TFr→TS→Prop):CExit→TFr→TS→Prop:=fun x fr st=>match x with
 | .normal=>k fr st
 | x=>Q x fr st
def sameX(i id:Nat)(a b:Prop):Prop:=match Nat.beq i id with
 | true=>a
 | false=>b
def blockT(id:Nat)(Q:CExit→TFr→TS→Prop):CExit→TFr→TS→Prop:=fun x fr st=>match x with
 | .exit i=>sameX i id (Q .normal fr st) (Q (.exit i) fr st)
 | x=>Q x fr st
def loopT(k:Nat)(I:Nat→TFr→TS→Prop)(n:Nat)(Q:CExit→TFr→TS→Prop):CExit→TFr→TS→Prop:=fun x fr st=>match x with
 | .normal=>∃m l,m<n∧nodupB l=true∧I m (fr.cut k l) (st.cut k l)
 | x=>Q x fr st
def twR (Z:TP)(T:Tbl)(X:Pan)(D:TD)(R:Value→Prop):RCode→TFr→TS→(CExit→TFr→TS→Prop)→Prop
 | .skip,fr,st,Q=>Q .normal fr st
 | .reg its,fr,st,Q=>twI Z T X D R its fr st (Q .normal)
 | .drw d,fr,st,Q=>twD Z T X D R d.pan d.its fr st fun f s l c=>chkL f (st::l) c d.its (Q .normal f s) d.chk
 | .seq a b,fr,st,Q=>twR Z T X D R a fr st (seqT (fun f s=>twR Z T X D R b f s Q) Q)
 | .cond c a b,fr,st,Q=>condT (tev fr c) (twR Z T X D R a fr st Q) (twR Z T X D R b fr st Q)
 | .block id c,fr,st,Q=>twR Z T X D R c fr st (blockT id Q)
 | .loop c,fr,st,Q=>∃(I:Nat→TFr→TS→Prop) (n:Nat) (l:List Nat),nodupB l=true∧I n (fr.cut st.obs.length l) (st.cut st.obs.length l)∧∀n f s,I n f s→twR Z T X D R c f s (loopT st.obs.length I n Q)
 | .exit id,fr,st,Q=>Q (.exit id) fr st
 | .ret,fr,st,Q=>Q .ret fr st
 | _,_,_,_=>False
theorem zip_get{α β:Type}{P:List (α×β)}{i:Nat}{s:β}(h:(P.map Prod.snd)[i]? = some s) : ∃G,P[i]? = some (G,s)∧(P.map Prod.fst)[i]? = some G:=by
 rw[List.getElem?_map] at h
 cases hp:P[i]? with
 | none=>rw[hp] at h;cases h
 | some q=>
   rw[hp] at h
   obtain⟨a,b⟩:=q
   cases h
   exact⟨a,rfl,by rw[List.getElem?_map,hp];rfl⟩
theorem chkL_ok(h:TR Z K0 sp W0 K st fr cfr E){S:List TS}{c:List Rec}{its:List Item}{k:Prop} : ∀ {L:List (Item×Nat)},chkL fr S c its k L→k∧∀p∈L,∃s,S[p.2]? = some s∧(wantedF cfr p.1.guard=some false∨∃x d,rdX p.1.op=some x∧p.1.dst=some d∧its.filter (fun i=>decide (i.dst=some d))= [p.1]∧recB (tev fr x) (findR d c) s=true)
 | [],hk=>⟨hk,fun _ q=>(by cases q)⟩
 | p::L,hk=>by
   have hk:chkT fr S c its p (chkL fr S c its k L):=hk
   unfold chkT at hk
   split at hk
   ·exact hk.elim
   ·rename_i s hs
    rcases grd_rel h hk with ⟨_,hk⟩ | ⟨q,hk⟩
    ·split at hk
     ·rename_i x d e1 e2
      obtain⟨h1,h2⟩:=hk
      split at h2
      ·rename_i hb
       obtain⟨g1,g2⟩:=chkL_ok h h2
       refine⟨g1,fun p' hp=> ?_⟩
       rcases List.mem_cons.1 hp with rfl | hp
       ·exact⟨s,hs, .inr ⟨x,d,e1,e2,h1,hb⟩⟩
       ·exact g2 p' hp
      ·exact h2.elim
     ·exact hk.elim
    ·obtain⟨g1,g2⟩:=chkL_ok h hk
     refine⟨g1,fun p' hp=> ?_⟩
     rcases List.mem_cons.1 hp with rfl | hp
     ·exact⟨s,hs, .inl q⟩
     ·exact g2 p' hp
theorem twR_sound(hD:TDOk T D){R:Value→Prop} : ∀ {c:RCode} {K:CH} {st:TS} {fr:TFr} {cfr:Fr} {E:TE} {Q:CExit→TFr→TS→Prop},TR Z K0 sp W0 K st fr cfr E→twR Z T X D R c fr st Q→WxR T X c cfr K (fun x cfr' K'=>∃fr' st' E',TR Z K0 sp W0 K' st' fr' cfr' E'∧Stw st E st' E'∧Q x fr' st') (PX K0 sp W0 R):=by
 intro c
 induction c with
 | skip=>intro K st fr cfr E Q h hk;exact .inl ⟨0,_,_,_,rfl,fr,st,E,h,Stw.refl,hk⟩
 | reg its=>
   intro K st fr cfr E Q h hk
   exact wxR_reg ((twI_sound hD h hk).mono fun f H ⟨fr',st',E',t1,t2,t3⟩=>⟨fr',st',E',t1,t2.w,t3⟩)
 | drw d=>
   intro K st fr cfr E Q h hk
   rcases twD_sound hD h hk with ⟨n,v,H',hd,⟨A,k,Rr,f,args,fr1,H1,e,h2,h3,h4,h5,h6⟩,p2⟩ | hr
   ·obtain⟨Zl,hd⟩:=Option.isSome_iff_exists.1 hd
    exact .inr ⟨n,v,H', .drw e hd (h2 Zl hd).1 h3 (h2 Zl hd).2 h4 h5 h6,p2⟩
   left
   rw[wpR_drw]
   obtain⟨n',f',K',L,z1,fr',st',E',P,C,z2,z3,z4,z5,z6,z7,z8⟩:=hr
   obtain⟨z4',z4⟩:=chkL_ok z2 z4
   refine⟨n',f',K',L,z1,fun p hp=> ?_,fr',st',E',z2,z3.w,z4'⟩
   obtain⟨s,e3,hc⟩:=z4 p hp
   rcases hc with q | ⟨x,d',e1,e2,c1,c2⟩
   rotate_left
   ·obtain⟨G,g1,g2⟩:=zip_get (P:=(K,st)::P) (i:=p.2) (s:=s) e3
    refine⟨G,by rw[z5];exact g2, .inr ?_⟩
    unfold recB at c2
    split at c2
    ·rename_i o off rc e4 e5
     simp only[Bool.and_eq_true] at c2
     have h1:=Nat.eq_of_beq_eq_true c2.1
     have h2:=Nat.eq_of_beq_eq_true c2.2.1
     have h3:=c2.2.2
     obtain⟨hrc,hrd⟩:=findR_ok e5
     obtain⟨b,x',it,ob,r1,r2,r3,r4,r5,r6,r7⟩:=(z7 rc hrc).h
     have hit:it=p.1:=by
      have:it∈d.its.filter (fun i=>decide (i.dst=some d')):=List.mem_filter.2 ⟨r1,by rw[←hrd];simpa using r2⟩
      rw[c1] at this
      exact List.mem_singleton.1 this
     subst hit
     rw[r3] at e1;cases e1
     have hr:=tev_rel z2.frm x
     rw[e4] at hr
     obtain⟨b',hb',hv⟩:=hr.ptr_inv
     have:b'=b:=by rw[←h1] at hb';rw[r4] at hb';cases hb';rfl
     subst this
     obtain⟨y,hy1,hy2⟩:=rdV_lop r3 hv (G:=G)
     refine⟨y,d',hy1,e2,?_⟩
     have hver : ∃e cs,s.obs[rc.o]? = some (rc.ver,e,cs):=by
      unfold verB at h3
      rw[h1]
      split at h3
      ·rename_i v e cs hs;exact⟨e,cs,by rw[hs,Nat.eq_of_beq_eq_true h3]⟩
      ·cases h3
     obtain⟨e,cs,hver⟩:=hver
     have:=r7 (G,s) (List.mem_of_getElem? g1) e cs hver
     rw[hy2]
     show rdV p.1.op (G.ob b') off=_
     rw[show G.ob b'=ob from this,←h2,←hrd]
     exact r6 p.1 (by rw[hrd];exact c1)
    ·cases c2
   ·have hl:p.2<(K::L).length:=by
     rw[z5]
     have:=(List.getElem?_eq_some_iff.1 e3).1
     simpa using this
    exact⟨_,List.getElem?_eq_getElem hl, .inl q⟩
 | seq a b iha ihb=>
   intro K st fr cfr E Q h hk
   refine wxR_seq ((iha h hk).mono (fun x f K' ⟨fr',st',E',t1,t2,t3⟩=> ?_) fun _ _ h=>h)
   cases x with
   | normal=>
     refine(ihb t1 t3).mono (fun x f K' ⟨fr'',st'',E'',s1,s2,s3⟩=>⟨fr'',st'',E'',s1,t2.trans s2,s3⟩) fun _ _ h=>h
   | exit i=>exact⟨fr',st',E',t1,t2,t3⟩
   | ret=>exact⟨fr',st',E',t1,t2,t3⟩
 | cond c a b iha ihb=>
   intro K st fr cfr E Q h hk
   have hk:condT (tev fr c) (twR Z T X D R a fr st Q) (twR Z T X D R b fr st Q):=hk
   unfold condT at hk
   split at hk
   ·rename_i t e
    have hc:=raw_rel (tev_rel h.frm c) (u:= .bool t) (by rw[e];rfl)
    unfold ifT at hk
    split at hk
    ·exact wxR_cond_t hc (iha h hk)
    ·exact wxR_cond_f hc (ihb h hk)
   ·exact hk.elim
 | block id c ih=>
   intro K st fr cfr E Q h hk
   refine wxR_block ((ih h hk).mono (fun x f K' ⟨fr',st',E',t1,t2,t3⟩=> ?_) fun _ _ h=>h)
   cases x with
   | normal=>exact⟨fr',st',E',t1,t2,t3⟩
   | ret=>exact⟨fr',st',E',t1,t2,t3⟩
   | exit i=>
     show if i=id then _ else _
     have t3:sameX i id (Q .normal fr' st') (Q (.exit i) fr' st'):=t3
     unfold sameX at t3
     split at t3
     ·rename_i hi;rw[if_pos (Nat.eq_of_beq_eq_true hi)];exact⟨fr',st',E',t1,t2,t3⟩
     ·rename_i hi;rw[if_neg (Nat.ne_of_beq_eq_false hi)];exact⟨fr',st',E',t1,t2,t3⟩
 | loop c ih=>
   intro K st fr cfr E Q h hk
   obtain⟨I,n,l0,hl0,h0,hs⟩:=hk
   have hr : ∀o b,E.ρ o=some b→o<st.obs.length:=fun o b q=>(h.rho o b q).2.2
   refine wxloop_inv (fun n cfr' K'=>∃fr' st' E',TR Z K0 sp W0 K' st' fr' cfr' E'∧Stw st E st' E'∧I n fr' st') (fun m cfr' K' ⟨fr',st',E',t1,t2,t3⟩=> ?_) (n:=n) ⟨_,_,_,h.cut hl0,Stw.refl.cut hr,h0⟩
   refine(ih t1 (hs m fr' st' t3)).mono (fun x f K'' ⟨fr'',st'',E'',s1,s2,s3⟩=> ?_) fun _ _ h=>h
   cases x with
   | normal=>
     obtain⟨m',l,k1,k2,k3⟩:=s3
     exact⟨m',k1,_,_,_,s1.cut k2,(t2.trans s2).cut hr,k3⟩
   | exit i=>exact⟨fr'',st'',E'',s1,t2.trans s2,s3⟩
   | ret=>exact⟨fr'',st'',E'',s1,t2.trans s2,s3⟩
 | exit id=>intro K st fr cfr E Q h hk;exact .inl ⟨0,_,_,_,rfl,fr,st,E,h,Stw.refl,hk⟩
 | ret=>intro K st fr cfr E Q h hk;exact .inl ⟨0,_,_,_,rfl,fr,st,E,h,Stw.refl,hk⟩
 | rangeF g key=>intro K st fr cfr E Q h hk;exact hk.elim
 | bad=>intro K st fr cfr E Q h hk;exact hk.elim
end Can
end Go.Proofs.YtdfgkcoenagaaaaGreat
end
