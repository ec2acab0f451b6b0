/- Runs over trees: a function. Over any program. Runs over trees: loops by what they carry. Over any program. Parse: the grammar as a function of tokens; with so many steps. No program in sight. (Printed by tools/genps.py.). Parse: the grammar answers, whatever the tokens; where it ends, how many nodes. No program in sight. Parse: with more steps the same answer. No program in sight. -/
import Derived.Test.YtdfgkcoenagaaaaGreatZk
import Derived.Test.YtdfgkcoenagaaaaGreatZd
import Derived.WalkKit
section
namespace Go.Proofs.YtdfgkcoenagaaaaGreat
namespace Can
open Go Go.RowKit
set_option linter.unusedSimpArgs false
set_option linter.unusedVariables false
def RV.of:AV→Option RV
 | .r x=>x.fz
 | _=>none
def tresV(fr:TFr)(st:TS):RRes→Option RV
 | .tmp t=>RV.of (fr t)
 | .ld t=>(tlop fr st (.ld (.tmp t))).bind RV.of
 | .lda n t=>(tlop fr st (.lda n (.tmp t))).bind RV.of
def tresL(fr:TFr)(st:TS):List RRes→Option (List RV)
 | []=>some []
 | r::rs=>match tresV fr st r,tresL fr st rs with
   | some x,some xs=>some (x::xs)
   | _,_=>none
def tupA:List RV→AV
 | [x]=> .r x
 | l=> .tup l
def selfFin(self:Self)(st:TS):Option (List SV):=match self with
 | none=>some []
 | some _=>match st.obs[0]? with
   | some (_,_,cs)=>allFz cs
   | none=>none
def finT (res:List RRes)(self:Self)(Q:AV→List SV→Prop):CExit→TFr→TS→Prop:=fun x fr st=>match x with
 | .exit _=>False
 | _=>match tresL fr st res,selfFin self st with
   | some l,some s'=>Q (tupA l) s'
   | _,_=>False
def st0:Self→TS
 | none=>⟨0,[]⟩
 | some (e,ss)=>⟨0,[(0,e,ss.map .s)]⟩
variable {T:Tbl} {X:Pan} {Z:TP} {D:TD} {K0 K K' K'':CH} {sp:Option Nat} {W0:Nat→Prop} {st st' st'' st1:TS} {fr fr1:TFr} {cfr:Fr} {E E' E'':TE}
theorem r2_getD : ∀ {az:List AV} {vs:List Value},R2 (AVR K E) az vs→∀t,AVR K E (az.getD t .bad) (vs.getD t undef)
 | _,_, .nil,t=> .bad
 | _,_, .cons h _,0=>h
 | _,_, .cons _ h,t+1=>by simpa using r2_getD h t
theorem TR.start{e:Option Nat}{hid W:Nat→Prop}{self:Self}{args:List AV}{vs:List Value}(h1 : ∀b,hid b→b<K.nx∧sp≠some b)(hW : ∀b,W b→hid b)(h2 : ∀b,Z.N b→b<K.nx∧sp≠some b∧¬W b∧K.ob b=Z.M b)(h3:R2 (AVR K (E0 sp hid)) args vs)(h4:SelfR K (E0 sp hid) sp self)(h5:SJ Z K sp W self):TR Z K sp W K (st0 self) (fun t=>args.getD t .bad) (fun t=>vs.getD t undef) (E0 sp hid):=by
 have hρ : ∀o b,(if o=0 then sp else none)=some b→o=0∧sp=some b:=fun o b q=>by
  split at q
  ·rename_i e;exact⟨e,q⟩
  ·cases q
 have hself : ∀b,sp=some b→∃e ss os,self=some (e,ss)∧b<K.nx∧K.ob b= .cells os e .ex∧R2 (SVR K (Frz K (E0 sp hid))) ss os:=fun b hb=>by
  match self,h4 with
  | none,h4=>rw[show sp=none from h4] at hb;cases hb
  | some (e,ss),⟨p,os,k1,k2,k3,k4⟩=>rw[k1] at hb;cases hb;exact⟨e,ss,os,rfl,k2,k3,k4⟩
 refine⟨Nat.le_refl _,fun _ _ _ _=>rfl,h2,fun b hb=>⟨(h1 b hb).1,(fun _ q=>(by cases q)),fun o q=>(h1 b hb).2 (hρ o b q).2⟩,⟨W,fun b hb=>⟨hW b hb, .inl hb⟩,by
  match self,h5 with
  | none,h5=>exact h5
  | some (e,ss),h5=>exact h5⟩,(fun _ _ q=>(by cases q)),(fun _ _ _ q=>(by cases q)),(fun _ _ _ q=>(by cases q)),fun o b q=> ?_,fun o o' b q q'=> ?_,fun o v e cs q=> ?_,r2_getD h3⟩
 ·obtain⟨rfl,k⟩:=hρ o b q
  obtain⟨e,ss,os,rfl,g1,g2,g3⟩:=hself b k
  exact⟨g1, .inr k,Nat.zero_lt_one⟩
 ·rw[(hρ o b q).1,(hρ o' b q').1]
 ·match self,h4,q with
  | none,_,q=>simp[st0] at q
  | some (e',ss),⟨p,os,k1,k2,k3,k4⟩,q=>
    cases o with
    | zero=>
      cases q
      exact⟨p,os,k1,k3,k4.map fun _ _ q=> .s q⟩
    | succ o=>simp[st0] at q
theorem rof_rel{a:AV}{v:Value}(h:AVR K E a v){y:RV}(hy:RV.of a=some y)(h1 : ∀b,Frz K E b→Frz K' E' b∧K'.ob b=K.ob b)(h2 : ∀t b,E.σ t=some b→Frz K' E' b∧K'.ob b=K.ob b):RVR K' E' y v:=by
 cases h with
 | r h=>exact rfz_rel h hy h1 fun t b _ q=>h2 t b q
 | _=>cases hy
theorem tres_rel(h:TR Z K0 sp W0 K st fr cfr E)(h1 : ∀b,Frz K E b→Frz K E' b∧K.ob b=K.ob b)(h2 : ∀t b,E.σ t=some b→Frz K E' b∧K.ob b=K.ob b) : ∀ {res:List RRes} {l:List RV},tresL fr st res=some l→∃vs,resL cfr K res=some vs∧R2 (RVR K E') l vs
 | [],l,q=>by cases q;exact⟨[],rfl, .nil⟩
 | r::rs,l,q=>by
   simp only[tresL] at q
   split at q
   ·rename_i x xs e1 e2
    cases q
    obtain⟨vs,k1,k2⟩:=tres_rel h h1 h2 e2
    have : ∃v,resV cfr K r=some v∧RVR K E' x v:=by
     cases r with
     | tmp t=>exact⟨_,rfl,rof_rel (h.frm t) e1 h1 h2⟩
     | ld t=>
       simp only[tresV] at e1
       cases hl:tlop fr st (.ld (.tmp t)) with
       | none=>rw[hl] at e1;cases e1
       | some a=>
         rw[hl] at e1
         obtain⟨v,g1,g2⟩:=tlop_sound h hl
         exact⟨v,g1,rof_rel g2 e1 h1 h2⟩
     | lda n t=>
       simp only[tresV] at e1
       cases hl:tlop fr st (.lda n (.tmp t)) with
       | none=>rw[hl] at e1;cases e1
       | some a=>
         rw[hl] at e1
         obtain⟨v,g1,g2⟩:=tlop_sound h hl
         exact⟨v,g1,rof_rel g2 e1 h1 h2⟩
    obtain⟨v,g1,g2⟩:=this
    exact⟨v::vs,by simp only[resL,g1,k1], .cons g2 k2⟩
   ·cases q
theorem tc_in(hD:TDOk T D){R:Value→Prop}{f:FuncId}{rf:RFunc}(he:T.ext f=false)(hf:T.fn f=some rf){args:List AV}{self:Self}{Q:AV→List SV→Prop}(hk:twR Z T X D R rf.body (fun t=>args.getD t .bad) (st0 self) (finT rf.res self Q)):TC Z T X f args self Q R:=by
 intro K sp hid W vs h1 hW h2 h3 h4 h5
 have t0:=TR.start (e:=none) h1 hW h2 h3 h4 h5
 refine wxF_in he hf ((twR_sound hD t0 hk).mono (fun x cfr' K' ⟨fr',st',E',t1,t2,t3⟩=> ?_) fun _ _ h=>h)
 have hx : ∃l s',tresL fr' st' rf.res=some l∧selfFin self st'=some s'∧Q (tupA l) s':=by
  unfold finT at t3
  split at t3
  ·exact t3.elim
  ·split at t3
   ·rename_i l s' e1 e2;exact⟨l,s',e1,e2,t3⟩
   ·exact t3.elim
 obtain⟨l,s',e1,e2,e3⟩:=hx
 have hsp : ∀b,sp=some b→E'.ρ 0=some b∧b<K.nx:=fun b hb=>by
  refine⟨t2.rho 0 b (by show(if 0=0 then sp else none)=some b;rw[if_pos rfl,hb]),?_⟩
  match self,h4 with
  | none,h4=>rw[show sp=none from h4] at hb;cases hb
  | some (e,ss),⟨p,os,k1,k2,k3,k4⟩=>rw[k1] at hb;cases hb;exact k2
 have hρ : ∀o b,(E0 sp hid).ρ o=some b→sp=some b:=fun o b q=>by
  have q:(if o=0 then sp else none)=some b:=q
  split at q
  ·exact q
  ·cases q
 have f1 : ∀b,Frz K' E' b→Frz K' (E0 sp E'.hid) b∧K'.ob b=K'.ob b:=fun b hb=>⟨⟨hb.1,hb.2.1,(fun _ q=>(by cases q)),fun o q=>hb.2.2.2 0 (hsp b (hρ o b q)).1⟩,rfl⟩
 have f2 : ∀t b,E'.σ t=some b→Frz K' (E0 sp E'.hid) b∧K'.ob b=K'.ob b:=fun t b hb=>by
  obtain⟨k1,k2,k3⟩:=t1.sig t b hb
  exact⟨⟨k2,fun hh=>(t1.hid b hh).2.1 t hb,(fun _ q=>(by cases q)),fun o q=>t1.sr t 0 b hb (hsp b (hρ o b q)).1⟩,rfl⟩
 obtain⟨vs',g1,g2⟩:=tres_rel t1 f1 f2 e1
 have hfin:finK (resL cfr' K' rf.res) (fun v K'=>K.nx≤K'.nx∧(∀b,b<K.nx→sp≠some b→¬W b→K'.ob b=K.ob b)∧∃hid' W' a s',HW K K' sp hid W hid' W'∧AVR K' (E0 sp hid') a v∧a.clean∧SelfR K' (E0 sp hid') sp (self.map fun p=>(p.1,s'))∧SJ Z K' sp W' (self.map fun p=>(p.1,s'))∧Q a s') K':=by
  rw[g1,finK_some]
  obtain⟨W1,w1,w2⟩:=t1.wr
  have hup : ∀b,hid b→E'.hid b:=fun b hb=>t2.hid b hb
  have hdn : ∀b,E'.hid b→b<K'.nx:=fun b hb=>(t1.hid b hb).1
  have hav:AVR K' (E0 sp E'.hid) (tupA l) (tupleV vs'):=by
   match l,vs',g2 with
   | [],_, .nil=>exact .tup (vs:= []) .nil
   | [x],_, .cons h .nil=>exact .r h
   | x::y::l,_, .cons h (.cons h' t)=>exact .tup (.cons h (.cons h' t))
  have hcl:(tupA l).clean:=by
   unfold tupA
   split<;>exact trivial
  match self,h4,e2,t2 with
  | none,h4,_,_=>exact⟨t1.nx,t1.keep,E'.hid,fun _=>False,tupA l,s',⟨hup,hdn,fun _ h=>h.elim⟩,hav,hcl,h4,fun _ h=>h,e3⟩
  | some (e,ss),⟨p,os,k1,k2,k3,k4⟩,e2,t2=>
    obtain⟨v',cs',q1⟩:=t2.typ 0 0 e (ss.map .s) rfl
    obtain⟨b,os',r1,r2,r3⟩:=t1.obs 0 v' e cs' q1
    rw[(hsp p k1).1] at r1;cases r1
    simp only[selfFin,q1] at e2
    obtain⟨lk1,lk2⟩:=lks_fz e2
    refine⟨t1.nx,t1.keep,E'.hid,W1,tupA l,s',⟨hup,hdn,w1⟩,hav,hcl,⟨p,os',k1,Nat.lt_of_lt_of_le k2 t1.nx,r2,allFz_rel f1 r3 e2 fun t b _ q=>f2 t b q⟩,?_,e3⟩
    show JR Z [(0,e,s'.map .s)] K' sp W1
    rw[(hsp p k1).1] at w2
    rw[k1]
    match hst:st'.obs,w2,q1 with
    | (v2,e2',cs2)::r,w2,q1=>
      cases q1
      rcases w2 with ⟨a1,a2⟩ | ⟨a1,p',os2,a2,a3,a4,a5⟩
      ·exact .inl ⟨lk1.trans a1,a2⟩
      ·exact .inr ⟨by rw[lk1];exact a1,p',os2,a2,a3,by rw[a4,←allFz_len e2,List.length_map],by rw[lk1,lk2];exact a5⟩
 cases x with
 | normal=>exact hfin
 | ret=>exact hfin
 | exit i=>unfold finT at t3;exact t3.elim
theorem tc_rG{P:Program}{L:List FuncId}{G:FuncId→List Value→Option Value}(hD:TDOk (tblG P L G) D){R:Value→Prop}{f:Nat}(he:L.elem f=false)(h:(resFunc P (fun N ops=>resD P N ops) f).isSome=true){args:List AV}{self:Self}{Q:AV→List SV→Prop}(k:twR Z (tblG P L G) X D R (rF P f).body (fun t=>args.getD t .bad) (st0 self) (finT (rF P f).res self Q)):TC Z (tblG P L G) X f args self Q R:=by
 refine tc_in hD he ?_ k
 unfold rF
 show resFunc P (fun N ops=>resD P N ops) f=some ((resFunc P (fun N ops=>resD P N ops) f).getD ⟨0,[], .skip⟩)
 cases hr:resFunc P (fun N ops=>resD P N ops) f with
 | none=>rw[hr] at h;cases h
 | some r=>rfl
def Self.open:Self→Bool
 | none=>true
 | some (_,ss)=>(lks (ss.map .s)).isEmpty
theorem tc_old{R:Value→Prop}{f:FuncId}{args:List AV}{self:Self}{Q:AV→List SV→Prop}(hs:self.open=true)(h : ∀(K:CH) (sp:Option Nat) (hid:Nat→Prop) (vs:List Value),(∀b,hid b→b<K.nx∧sp≠some b)→(∀b,Z.N b→b<K.nx∧sp≠some b∧K.ob b=Z.M b)→R2 (AVR K (E0 sp hid)) args vs→SelfR K (E0 sp hid) sp self→
 WxF T X f vs K (fun v K'=>K.nx≤K'.nx∧(∀b,b<K.nx→sp≠some b→K'.ob b=K.ob b)∧∃a s',AVR K' (E0 sp hid) a v∧a.clean∧SelfR K' (E0 sp hid) sp (self.map fun p=>(p.1,s'))∧lks (s'.map .s)= []∧Q a s') fun v K'=>K.nx≤K'.nx∧(∀b,b<K.nx→sp≠some b→K'.ob b=K.ob b)∧R v):TC Z T X f args self Q R:=by
 intro K sp hid W vs h1 hW h2 h3 h4 h5
 refine(h K sp hid vs h1 (fun b hb=>⟨(h2 b hb).1,(h2 b hb).2.1,(h2 b hb).2.2.2⟩) h3 h4).mono (fun v K' ⟨k1,k2,a,s',k3,k4,k5,k6,k7⟩=>⟨k1,fun b hb hp _=>k2 b hb hp,hid,fun _=>False,a,s',⟨fun _ q=>q,fun b q=>Nat.lt_of_lt_of_le (h1 b q).1 k1,fun _ q=>q.elim⟩,k3,k4,k5,?_,k7⟩) fun v K' ⟨k1,k2,k3⟩=>⟨k1,fun b hb hp _=>k2 b hb hp,k3⟩
 match self with
 | none=>exact fun _ q=>q
 | some (e,ss)=>exact .inl ⟨k6,fun _ q=>q⟩
end Can
end Go.Proofs.YtdfgkcoenagaaaaGreat
end
section
namespace Go.Proofs.YtdfgkcoenagaaaaGreat
namespace Can
open Go Go.RowKit
set_option linter.unusedSimpArgs false
set_option linter.unusedVariables false
variable {T:Tbl} {X:Pan} {Z:TP} {D:TD} {R:Value→Prop} {st st1:TS} {fr fr1:TFr}
def CV.inert:CV→Bool
 | .own _ _ _ _=>false
 | _=>true
def allI:List CV→Bool
 | []=>true
 | x::l=>x.inert&&allI l
def RV.inert:RV→Bool
 | .c x=>x.inert
 | .agg cs=>allI cs
def allR:List RV→Bool
 | []=>true
 | x::l=>x.inert&&allR l
def AV.inert(k:Nat):AV→Bool
 | .r x=>x.inert
 | .ptr o _=>Nat.blt o k
 | .eptr (some _) _ _=>false
 | .tup l=>allR l
 | _=>true
theorem CV.inert_act{x:CV}(h:x.inert=true)(g:Nat→SA):x.act g=x:=by cases x<;>first | rfl | cases h
theorem CV.inert_cut{x:CV}(h:x.inert=true)(l:List Nat):x.cut l=x:=by cases x<;>first | rfl | cases h
theorem allI_map{f:CV→CV}(hf : ∀x,x.inert=true→f x=x) : ∀ {cs:List CV},allI cs=true→cs.map f=cs
 | [],_=>rfl
 | x::cs,h=>by
   simp only[allI,Bool.and_eq_true] at h
   rw[List.map_cons,hf x h.1,allI_map hf h.2]
theorem RV.inert_map{x:RV}(h:x.inert=true):(∀g,x.act g=x)∧∀l,x.cut l=x:=by
 cases x with
 | c x=>exact⟨fun g=>congrArg RV.c (CV.inert_act h g),fun l=>congrArg RV.c (CV.inert_cut h l)⟩
 | agg cs=>exact⟨fun g=>congrArg RV.agg (allI_map (fun x hx=>CV.inert_act hx g) h),fun l=>congrArg RV.agg (allI_map (fun x hx=>CV.inert_cut hx l) h)⟩
theorem allR_map{f:RV→RV}(hf : ∀x,x.inert=true→f x=x) : ∀ {cs:List RV},allR cs=true→cs.map f=cs
 | [],_=>rfl
 | x::cs,h=>by
   simp only[allR,Bool.and_eq_true] at h
   rw[List.map_cons,hf x h.1,allR_map hf h.2]
theorem blt_lt{a b:Nat}(h:Nat.blt a b=true):a<b:=by
 have:=Nat.le_of_ble_eq_true h
 omega
theorem AV.inert_act{k:Nat}{a:AV}(h:a.inert k=true)(g:Nat→SA):a.act g=a:=by
 cases a with
 | r x=>exact congrArg AV.r ((RV.inert_map h).1 g)
 | eptr t g off=>cases t<;>first | rfl | cases h
 | tup l=>exact congrArg AV.tup (allR_map (fun x hx=>(RV.inert_map hx).1 g) h)
 | _=>rfl
theorem AV.inert_cut{k k':Nat}{a:AV}(h:a.inert k=true)(hk:k≤k')(l:List Nat):a.cut k' l=a:=by
 cases a with
 | r x=>exact congrArg AV.r ((RV.inert_map h).2 l)
 | ptr o off=>
   have ho:=blt_lt h
   show ltB o k' (.ptr o off) .bad=_
   unfold ltB
   have:Nat.ble k' o=false:=by
    cases hb:Nat.ble k' o with
    | false=>rfl
    | true=>have:=Nat.le_of_ble_eq_true hb;omega
   rw[this]
 | eptr t g off=>cases t<;>first | rfl | cases h
 | tup l'=>exact congrArg AV.tup (allR_map (fun x hx=>(RV.inert_map hx).2 l) h)
 | _=>rfl
theorem fzF_in{k t:Nat}{l:List Nat}(h:(fr t).inert k=true):fzF l fr t=fr t:=by
 rw[fzF_eq];exact AV.inert_act h _
theorem kilF_in{k t:Nat}{o:Option (Nat×TypeId×Nat)}(h:(fr t).inert k=true):kilF o fr t=fr t:=by
 cases o with
 | none=>rfl
 | some p=>obtain⟨a,b⟩:=p;exact AV.inert_act h _
theorem fzS_len{l:List Nat}:(fzS l st).obs.length=st.obs.length:=by
 rw[fzS_eq];show(st.obs.map _).length=_;rw[List.length_map]
theorem kilS_len{o:Option (Nat×TypeId×Nat)}:(kilS o st).obs.length=st.obs.length:=by
 cases o with
 | none=>rfl
 | some p=>obtain⟨a,b⟩:=p;show(st.obs.map _).length=_;rw[List.length_map]
def Kp (k:Nat)(fr:TFr)(st:TS)(fr1:TFr)(st1:TS):Prop:=(∀t,(fr t).inert k=true→fr1 t=fr t)∧st.obs.length≤st1.obs.length
theorem taop_kp{k:Nat}{x:AOp}{a:AV}(h:taop fr st x=some (a,fr1,st1)):Kp k fr st fr1 st1:=by
 cases x with
 | new e z=>
   simp only[taop] at h
   cases hz:zCV z with
   | none=>rw[hz] at h;cases h
   | some cs=>
     rw[hz] at h
     simp only at h
     split at h
     ·cases h;exact⟨fun _ _=>rfl,by simp⟩
     ·cases h
 | box e x=>
   simp only[taop] at h
   cases hz:(tev fr x).cvs with
   | none=>rw[hz] at h;cases h
   | some cs=>
     rw[hz] at h
     simp only at h
     split at h
     ·cases h;exact⟨fun _ _=>rfl,by simp⟩
     ·cases h
 | bsl e sz n z ps=>
   simp only[taop] at h
   split at h
   ·split at h
    ·split at h
     ·cases h;exact⟨fun _ h=>fzF_in h,by show st.obs.length≤(fzS _ st).obs.length;rw[fzS_len];exact Nat.le_refl _⟩
     ·cases h
    ·cases h
   ·cases h
 | _=>cases h
theorem twop_kp{k:Nat}{x:WOp}{a:AV}(h:twop fr st x=some (a,fr1,st1)):Kp k fr st fr1 st1:=by
 cases x with
 | st n x v=>
   simp only[twop] at h
   split at h
   ·split at h
    ·split at h
     ·cases h;exact⟨fun _ _=>rfl,by show st.obs.length≤(st.obs.set _ _).length;rw[List.length_set];exact Nat.le_refl _⟩
     ·cases h
    ·cases h
   ·cases h
 | app e sz bytes s x=>
   simp only[twop] at h
   split at h
   ·split at h
    ·cases h;exact⟨fun _ h=>kilF_in h,by show st.obs.length≤(kilS _ st).obs.length;rw[kilS_len];exact Nat.le_refl _⟩
    ·cases h
   ·cases h
 | _=>cases h
theorem twO_kp{k0:Nat}{op:ROp}{k:AV→TFr→TS→Prop}(h:twO Z T X D op fr st k R):twO Z T X D op fr st (fun a fr1 st1=>k a fr1 st1∧Kp k0 fr st fr1 st1) R:=by
 rw[twO_eq] at h⊢
 have hr:Kp k0 fr st fr st:=⟨fun _ _=>rfl,Nat.le_refl _⟩
 cases op with
 | p x=>
   have h:tpopK fr (fun a=>k a fr st) x:=h
   show tpopK fr (fun a=>k a fr st∧Kp k0 fr st fr st) x
   unfold tpopK at h⊢
   split at h
   ·simp only at h⊢
    split at h
    ·rename_i e1 e2
     obtain⟨h1,n,g,h2,h3,h4⟩:=h
     exact⟨h1,n,g,h2,h3,h4,hr⟩
    ·exact h.elim
   ·simp only at h⊢
    split at h
    ·exact fun q=>⟨h q,hr⟩
    ·exact fun q=>⟨h q,hr⟩
    ·exact fun q=>⟨h q,hr⟩
    ·unfold optT at h⊢
     split at h
     ·exact⟨h,hr⟩
     ·exact h.elim
   ·unfold optT at h⊢
    split at h
    ·exact⟨h,hr⟩
    ·exact h.elim
 | l x=>
   simp only[twO0,optT] at h⊢
   split at h
   ·exact⟨h,hr⟩
   ·exact h.elim
 | a x=>
   have h:taopK fr st k x:=h
   show taopK fr st (fun a fr1 st1=>k a fr1 st1∧Kp k0 fr st fr1 st1) x
   unfold taopK at h⊢
   split at h
   ·simp only at h⊢
    split at h
    ·split at h
     ·obtain⟨h1,h2⟩:=h
      rw[fzK_eq] at h2⊢
      exact⟨h1,h2,fun _ h=>fzF_in h,by show st.obs.length≤(fzS _ st).obs.length;rw[fzS_len];exact Nat.le_refl _⟩
     ·exact h.elim
    ·exact h.elim
   ·unfold optS at h⊢
    split at h
    ·rename_i a fr1 st1 e
     exact⟨h,taop_kp e⟩
    ·exact h.elim
 | w x=>
   have h:twopK fr st k x:=h
   show twopK fr st (fun a fr1 st1=>k a fr1 st1∧Kp k0 fr st fr1 st1) x
   unfold twopK at h⊢
   split at h
   ·simp only at h⊢
    split at h
    ·split at h
     ·obtain⟨h1,h2⟩:=h
      rw[kilK_eq] at h2⊢
      exact⟨h1,h2,fun _ h=>kilF_in h,by show st.obs.length≤(kilS _ st).obs.length;rw[kilS_len];exact Nat.le_refl _⟩
     ·exact h.elim
    ·exact h.elim
   ·unfold optS at h⊢
    split at h
    ·rename_i a fr1 st1 e
     exact⟨h,twop_kp e⟩
    ·exact h.elim
 | call f args=>
   simp only[twO0,callO] at h⊢
   split at h
   ·rename_i hf
    unfold nodeC at h⊢
    split at h
    ·split at h
     ·exact⟨h,hr⟩
     ·exact h.elim
    ·exact h.elim
   ·rw[callT_eq] at h⊢
    unfold callT0 at h⊢
    split at h
    ·exact h.elim
    ·split at h
     ·exact h.mono (fun a s q=>⟨q,fun _ h=>fzF_in h,by show st.obs.length≤(fzS _ st).obs.length;rw[fzS_len];exact Nat.le_refl _⟩) fun _ h=>h
     ·split at h
      ·split at h
       ·exact h.mono (fun a s q=>⟨q,fun _ h=>fzF_in h,by show st.obs.length≤((fzS _ st).obs.set _ _).length;rw[List.length_set,fzS_len];exact Nat.le_refl _⟩) fun _ h=>h
       ·exact h.elim
      ·exact h.elim
 | callv g args=>exact h.elim
def dI (its:List Item)(t:Nat):Bool:=match its with
 | []=>true
 | it::r=>match it.dst with
   | some d=> !(Nat.beq d t)&&dI r t
   | none=>dI r t
def nwT:RCode→Nat→Bool
 | .reg its,t=>dI its t
 | .drw d,t=>dI d.its t
 | .seq a b,t=>nwT a t&&nwT b t
 | .cond _ a b,t=>nwT a t&&nwT b t
 | .block _ c,t=>nwT c t
 | .loop c,t=>nwT c t
 | _,_=>true
theorem putA_in{a:AV}{t:Nat}{it:Item}{r:List Item}(hd:dI (it::r) t=true):putA fr it.dst a t=fr t∧dI r t=true:=by
 simp only[dI] at hd
 split at hd
 ·rename_i d hdst
  simp only[Bool.and_eq_true,Bool.not_eq_true'] at hd
  rw[hdst,putA_if]
  exact⟨if_neg (Ne.symm (Nat.ne_of_beq_eq_false hd.1)),hd.2⟩
 ·rename_i hdst;rw[hdst];exact⟨rfl,hd⟩
theorem grdT_mono{g:Option (Nat×Bool)}{y n y' n':Prop}(h:grdT fr g y n)(hy:y→y')(hn:n→n'):grdT fr g y' n':=by
 unfold grdT at h⊢
 split at h
 ·exact hy h
 ·split at h
  ·unfold ifT at h⊢
   split at h
   ·exact hy h
   ·exact hn h
  ·exact hn h
  ·exact h.elim
def KpC (k:Nat)(W:Nat→Bool)(fr:TFr)(st:TS)(fr1:TFr)(st1:TS):Prop:=(∀t,W t=true→(fr t).inert k=true→fr1 t=fr t)∧st.obs.length≤st1.obs.length
theorem KpC.refl{k:Nat}{W:Nat→Bool}:KpC k W fr st fr st:=⟨fun _ _ _=>rfl,Nat.le_refl _⟩
theorem KpC.trans{k:Nat}{W W' W2:Nat→Bool}{fr2:TFr}{st2:TS}(h:KpC k W fr st fr1 st1)(g:KpC k W' fr1 st1 fr2 st2)(hW : ∀t,W2 t=true→W t=true∧W' t=true):KpC k W2 fr st fr2 st2:=⟨fun t ht hi=>by
 have h1:=h.1 t (hW t ht).1 hi
 rw[g.1 t (hW t ht).2 (by rw[h1];exact hi),h1],Nat.le_trans h.2 g.2⟩
theorem Kp.put{k:Nat}{it:Item}{r:List Item}{a:AV}(h:Kp k fr st fr1 st1):KpC k (fun t=>dI (it::r) t) fr st (putA fr1 it.dst a) st1:=⟨fun t ht hi=>by
 rw[(putA_in (fr:=fr1) (a:=a) ht).1];exact h.1 t hi,h.2⟩
theorem twO_mono{op:ROp}{k k':AV→TFr→TS→Prop}(h:twO Z T X D op fr st k R)(hk : ∀a f s,k a f s→k' a f s):twO Z T X D op fr st k' R:=by
 rw[twO_eq] at h⊢
 cases op with
 | p x=>
   have h:tpopK fr (fun a=>k a fr st) x:=h
   show tpopK fr (fun a=>k' a fr st) x
   unfold tpopK at h⊢
   split at h
   ·simp only at h⊢
    split at h
    ·obtain⟨h1,n,g,h2,h3,h4⟩:=h
     exact⟨h1,n,g,h2,h3,hk _ _ _ h4⟩
    ·exact h.elim
   ·simp only at h⊢
    split at h
    ·exact fun q=>hk _ _ _ (h q)
    ·exact fun q=>hk _ _ _ (h q)
    ·exact fun q=>hk _ _ _ (h q)
    ·unfold optT at h⊢
     split at h
     ·exact hk _ _ _ h
     ·exact h.elim
   ·unfold optT at h⊢
    split at h
    ·exact hk _ _ _ h
    ·exact h.elim
 | l x=>
   simp only[twO0,optT] at h⊢
   split at h
   ·exact hk _ _ _ h
   ·exact h.elim
 | a x=>
   have h:taopK fr st k x:=h
   show taopK fr st k' x
   unfold taopK at h⊢
   split at h
   ·split at h
    ·split at h
     ·obtain⟨h1,h2⟩:=h
      rw[fzK_eq] at h2⊢
      exact⟨h1,hk _ _ _ h2⟩
     ·exact h.elim
    ·exact h.elim
   ·unfold optS at h⊢
    split at h
    ·exact hk _ _ _ h
    ·exact h.elim
 | w x=>
   have h:twopK fr st k x:=h
   show twopK fr st k' x
   unfold twopK at h⊢
   split at h
   ·split at h
    ·split at h
     ·obtain⟨h1,h2⟩:=h
      rw[kilK_eq] at h2⊢
      exact⟨h1,hk _ _ _ h2⟩
     ·exact h.elim
    ·exact h.elim
   ·unfold optS at h⊢
    split at h
    ·exact hk _ _ _ h
    ·exact h.elim
 | call f args=>
   simp only[twO0,callO] at h⊢
   split at h
   ·unfold nodeC at h⊢
    split at h
    ·split at h
     ·exact hk _ _ _ h
     ·exact h.elim
    ·exact h.elim
   ·rw[callT_eq] at h⊢
    unfold callT0 at h⊢
    split at h
    ·exact h.elim
    ·split at h
     ·exact h.mono (fun a s q=>hk _ _ _ q) fun _ h=>h
     ·split at h
      ·split at h
       ·exact h.mono (fun a s q=>hk _ _ _ q) fun _ h=>h
       ·exact h.elim
      ·exact h.elim
 | callv g args=>exact h.elim
theorem twI_mono : ∀ {its:List Item} {fr:TFr} {st:TS} {k k':TFr→TS→Prop},twI Z T X D R its fr st k→(∀f s,k f s→k' f s)→twI Z T X D R its fr st k'
 | [],fr,st,k,k',h,hk=>hk _ _ h
 | it::r,fr,st,k,k',h,hk=>grdT_mono h (fun h=>twO_mono h fun a f s h=>twI_mono h hk) fun h=>twI_mono h hk
theorem twI_kp{k0:Nat} : ∀ {its:List Item} {fr:TFr} {st:TS} {k:TFr→TS→Prop},twI Z T X D R its fr st k→twI Z T X D R its fr st fun f s=>k f s∧KpC k0 (dI its) fr st f s
 | [],fr,st,k,h=>⟨h,KpC.refl⟩
 | it::r,fr,st,k,h=>by
   refine grdT_mono h (fun h=> ?_) fun h=> ?_
   ·refine twO_mono (twO_kp (k0:=k0) h) fun a f s ⟨h1,h2⟩=> ?_
    refine twI_mono (twI_kp h1) fun f' s' ⟨g1,g2⟩=>⟨g1,(h2.put (it:=it) (r:=r) (a:=a)).trans g2 fun t ht=>⟨ht,(putA_in (fr:=fr) (a:= .bad) ht).2⟩⟩
   ·refine twI_mono (twI_kp h) fun f' s' ⟨g1,g2⟩=>⟨g1,(Kp.put (it:=it) (r:=r) (a:= .skip) (k:=k0) (fr:=fr) (st:=st) ⟨fun _ _=>rfl,Nat.le_refl _⟩).trans g2 fun t ht=>⟨ht,(putA_in (fr:=fr) (a:= .bad) ht).2⟩⟩
theorem twD_mono : ∀ {its:List Item} {q:Option (List Item)} {fr:TFr} {st:TS} {k k':TFr→TS→List TS→List Rec→Prop},twD Z T X D R q its fr st k→(∀f s l c,k f s l c→k' f s l c)→twD Z T X D R q its fr st k'
 | [],q,fr,st,k,k',h,hk=>hk _ _ _ _ h
 | it::r,q,fr,st,k,k',h,hk=>grdT_mono h (fun h=>twO_mono h fun a f s h=>by
    rw[fcRs_eq] at h⊢
    exact twD_mono h fun _ _ _ _ h=>hk _ _ _ _ h) fun h=>twD_mono h fun _ _ _ _ h=>hk _ _ _ _ h
theorem twD_kp{k0:Nat} : ∀ {its:List Item} {q:Option (List Item)} {fr:TFr} {st:TS} {k:TFr→TS→List TS→List Rec→Prop},twD Z T X D R q its fr st k→twD Z T X D R q its fr st fun f s l c=>k f s l c∧KpC k0 (dI its) fr st f s
 | [],q,fr,st,k,h=>⟨h,KpC.refl⟩
 | it::r,q,fr,st,k,h=>by
   refine grdT_mono h (fun h=> ?_) fun h=> ?_
   ·refine twO_mono (twO_kp (k0:=k0) h) fun a f s ⟨h1,h2⟩=> ?_
    rw[fcRs_eq] at h1⊢
    refine twD_mono (twD_kp h1) fun f' s' l c ⟨g1,g2⟩=>⟨g1,(h2.put (it:=it) (r:=r) (a:=a)).trans g2 fun t ht=>⟨ht,(putA_in (fr:=fr) (a:= .bad) ht).2⟩⟩
   ·refine twD_mono (twD_kp h) fun f' s' l c ⟨g1,g2⟩=>⟨g1,(Kp.put (it:=it) (r:=r) (a:= .skip) (k:=k0) (fr:=fr) (st:=st) ⟨fun _ _=>rfl,Nat.le_refl _⟩).trans g2 fun t ht=>⟨ht,(putA_in (fr:=fr) (a:= .bad) ht).2⟩⟩
theorem chkL_mono{S:List TS}{c:List Rec}{its:List Item}{k k':Prop}(hk:k→k') : ∀ {L:List (Item×Nat)},chkL fr S c its k L→chkL fr S c its k' L
 | [],h=>hk h
 | p::L,h=>by
   have h:chkT fr S c its p (chkL fr S c its k L):=h
   show chkT fr S c its p (chkL fr S c its k' L)
   unfold chkT at h⊢
   split at h
   ·exact h.elim
   ·refine grdT_mono h (fun h=> ?_) (chkL_mono hk)
    split at h
    ·obtain⟨h1,h2⟩:=h
     refine⟨h1,?_⟩
     split at h2
     ·exact chkL_mono hk h2
     ·exact h2.elim
    ·exact h.elim
theorem condT_mono{a:AV}{y n y' n':Prop}(h:condT a y n)(hy:y→y')(hn:n→n'):condT a y' n':=by
 unfold condT at h⊢
 split at h
 ·unfold ifT at h⊢
  split at h
  ·exact hy h
  ·exact hn h
 ·exact h.elim
theorem loopT_mono{k n:Nat}{I I':Nat→TFr→TS→Prop}{Q Q':CExit→TFr→TS→Prop}(hI : ∀m f s,I m f s→I' m f s)(hQ : ∀x f s,Q x f s→Q' x f s){x:CExit}(h:loopT k I n Q x fr st):loopT k I' n Q' x fr st:=by
 cases x with
 | normal=>obtain⟨m,l,h1,h2,h3⟩:=h;exact⟨m,l,h1,h2,hI _ _ _ h3⟩
 | exit i=>exact hQ _ _ _ h
 | ret=>exact hQ _ _ _ h
theorem sameX_mono{i id:Nat}{a b a' b':Prop}(h:sameX i id a b)(ha:a→a')(hb:b→b'):sameX i id a' b':=by
 unfold sameX at h⊢
 split at h
 ·exact ha h
 ·exact hb h
theorem twR_mono : ∀ {c:RCode} {fr:TFr} {st:TS} {Q Q':CExit→TFr→TS→Prop},twR Z T X D R c fr st Q→(∀x f s,Q x f s→Q' x f s)→twR Z T X D R c fr st Q':=by
 intro c
 induction c with
 | skip=>intro fr st Q Q' h hq;exact hq _ _ _ h
 | reg its=>intro fr st Q Q' h hq;exact twI_mono h fun f s h=>hq _ _ _ h
 | drw d=>intro fr st Q Q' h hq;exact twD_mono h fun f s l c h=>chkL_mono (hq _ _ _) h
 | seq a b iha ihb=>
   intro fr st Q Q' h hq
   refine iha h fun x f s h=> ?_
   cases x with
   | normal=>exact ihb h hq
   | exit i=>exact hq _ _ _ h
   | ret=>exact hq _ _ _ h
 | cond c a b iha ihb=>intro fr st Q Q' h hq;exact condT_mono h (fun h=>iha h hq) fun h=>ihb h hq
 | block id c ih=>
   intro fr st Q Q' h hq
   refine ih h fun x f s h=> ?_
   cases x with
   | normal=>exact hq _ _ _ h
   | exit i=>exact sameX_mono h (hq _ _ _) (hq _ _ _)
   | ret=>exact hq _ _ _ h
 | loop c ih=>
   intro fr st Q Q' h hq
   obtain⟨I,n,l,hl,h0,hs⟩:=h
   exact⟨I,n,l,hl,h0,fun n f s hi=>ih (hs n f s hi) fun x f s h=>loopT_mono (fun _ _ _ h=>h) hq h⟩
 | exit id=>intro fr st Q Q' h hq;exact hq _ _ _ h
 | ret=>intro fr st Q Q' h hq;exact hq _ _ _ h
 | rangeF g key=>intro fr st Q Q' h hq;exact h.elim
 | bad=>intro fr st Q Q' h hq;exact h.elim
theorem twR_kp{k0:Nat} : ∀ {c:RCode} {fr:TFr} {st:TS} {Q:CExit→TFr→TS→Prop},k0≤st.obs.length→twR Z T X D R c fr st Q→twR Z T X D R c fr st fun x f s=>Q x f s∧(∀t,nwT c t=true→(fr t).inert k0=true→f t=fr t)∧k0≤s.obs.length:=by
 intro c
 induction c with
 | skip=>intro fr st Q hk h;exact⟨h,fun _ _ _=>rfl,hk⟩
 | reg its=>intro fr st Q hk h;exact twI_mono (twI_kp (k0:=k0) h) fun f s ⟨h,h1,h2⟩=>⟨h,h1,Nat.le_trans hk h2⟩
 | drw d=>intro fr st Q hk h;exact twD_mono (twD_kp (k0:=k0) h) fun f s l c ⟨h,h1,h2⟩=>chkL_mono (fun h=>⟨h,h1,Nat.le_trans hk h2⟩) h
 | seq a b iha ihb=>
   intro fr st Q hk h
   show twR Z T X D R a fr st _
   refine twR_mono (iha hk h) fun x f s ⟨h,h1,h2⟩=> ?_
   cases x with
   | normal=>
     refine twR_mono (ihb h2 h) fun x f' s' ⟨h,g1,g2⟩=>⟨h,fun t ht hi=> ?_,g2⟩
     simp only[nwT,Bool.and_eq_true] at ht
     have e:=h1 t ht.1 hi
     rw[g1 t ht.2 (by rw[e];exact hi),e]
   | exit i=>exact⟨h,fun t ht hi=>h1 t (by simp only[nwT,Bool.and_eq_true] at ht;exact ht.1) hi,h2⟩
   | ret=>exact⟨h,fun t ht hi=>h1 t (by simp only[nwT,Bool.and_eq_true] at ht;exact ht.1) hi,h2⟩
 | cond c a b iha ihb=>
   intro fr st Q hk h
   refine condT_mono h (fun h=>twR_mono (iha hk h) fun x f s ⟨h,h1,h2⟩=>⟨h,fun t ht hi=>h1 t ?_ hi,h2⟩) fun h=>twR_mono (ihb hk h) fun x f s ⟨h,h1,h2⟩=>⟨h,fun t ht hi=>h1 t ?_ hi,h2⟩
   ·simp only[nwT,Bool.and_eq_true] at ht;exact ht.1
   ·simp only[nwT,Bool.and_eq_true] at ht;exact ht.2
 | block id c ih=>
   intro fr st Q hk h
   show twR Z T X D R c fr st _
   refine twR_mono (ih hk h) fun x f s ⟨h,h1,h2⟩=> ?_
   cases x with
   | normal=>exact⟨h,h1,h2⟩
   | exit i=>exact sameX_mono h (fun h=>⟨h,h1,h2⟩) fun h=>⟨h,h1,h2⟩
   | ret=>exact⟨h,h1,h2⟩
 | loop c ih=>
   intro fr st Q hk h
   obtain⟨I,n,l,hl,h0,hs⟩:=h
   refine⟨fun m f s=>I m f s∧(∀t,nwT c t=true→(fr t).inert k0=true→f t=fr t)∧k0≤s.obs.length,n,l,hl,⟨h0,fun t _ hi=>AV.inert_cut hi hk l,by show k0≤((st.obs.take _).map _).length;rw[List.length_map,List.length_take];omega⟩,fun m f s ⟨hi,ha,hb⟩=> ?_⟩
   refine twR_mono (ih hb (hs m f s hi)) fun x f' s' ⟨h,h1,h2⟩=> ?_
   have hag : ∀t,nwT c t=true→(fr t).inert k0=true→f' t=fr t:=fun t ht hi=>by
    have e:=ha t ht hi
    rw[h1 t ht (by rw[e];exact hi),e]
   cases x with
   | normal=>
     obtain⟨m',l,q1,q2,q3⟩:=h
     refine⟨m',l,q1,q2,q3,fun t ht hi=> ?_,?_⟩
     ·show(f' t).cut _ l=fr t
      rw[hag t ht hi];exact AV.inert_cut hi hk l
     ·show k0≤((s'.obs.take _).map _).length
      rw[List.length_map,List.length_take];omega
   | exit i=>exact⟨h,hag,h2⟩
   | ret=>exact⟨h,hag,h2⟩
 | exit id=>intro fr st Q hk h;exact⟨h,fun _ _ _=>rfl,hk⟩
 | ret=>intro fr st Q hk h;exact⟨h,fun _ _ _=>rfl,hk⟩
 | rangeF g key=>intro fr st Q hk h;exact h.elim
 | bad=>intro fr st Q hk h;exact h.elim
def mixF (c:RCode)(k:Nat)(fr0 f:TFr):TFr:=fun t=>match nwT c t&&(fr0 t).inert k with
 | true=>fr0 t
 | false=>f t
abbrev LoopS(Z:TP)(T:Tbl)(X:Pan)(D:TD)(R:Value→Prop)(c:RCode)(fr0:TFr)(st0:TS)(Q:CExit→TFr→TS→Prop):Prop:=∃(I:Nat→TFr→TS→Prop) (n:Nat) (l:List Nat),nodupB l=true∧I n (fr0.cut st0.obs.length l) (st0.cut st0.obs.length l)∧∀n f s,I n f s→twR Z T X D R c f s (loopT st0.obs.length I n Q)
theorem loop_rule{c:RCode}{Q:CExit→TFr→TS→Prop}{fr0:TFr}{st0:TS}(J:Nat→TFr→TS→Prop)(n:Nat)(l:List Nat)(hl:nodupB l=true)(h0:J n (fr0.cut st0.obs.length l) (st0.cut st0.obs.length l))(hs : ∀m f s,J m f s→f=mixF c st0.obs.length fr0 f→twR Z T X D R c f s (loopT st0.obs.length J m Q)):LoopS Z T X D R c fr0 st0 Q:=by
 refine⟨fun m f s=>J m f s∧(∀t,nwT c t=true→(fr0 t).inert st0.obs.length=true→f t=fr0 t)∧st0.obs.length≤s.obs.length,n,l,hl,⟨h0,fun t _ hi=>AV.inert_cut hi (Nat.le_refl _) l,by show st0.obs.length≤((st0.obs.take _).map _).length;rw[List.length_map,List.length_take];omega⟩,fun m f s ⟨hJ,ha,hb⟩=> ?_⟩
 have hf:f=mixF c st0.obs.length fr0 f:=funext fun t=>by
  unfold mixF
  split
  ·rename_i e
   simp only[Bool.and_eq_true] at e
   exact ha t e.1 e.2
  ·rfl
 refine twR_mono (twR_kp hb (hs m f s hJ hf)) fun x f' s' ⟨h,h1,h2⟩=> ?_
 have hag : ∀t,nwT c t=true→(fr0 t).inert st0.obs.length=true→f' t=fr0 t:=fun t ht hi=>by
  have e:=ha t ht hi
  rw[h1 t ht (by rw[e];exact hi),e]
 cases x with
 | normal=>
   obtain⟨m',l,q1,q2,q3⟩:=h
   refine⟨m',l,q1,q2,q3,fun t ht hi=> ?_,?_⟩
   ·show(f' t).cut _ l=fr0 t
    rw[hag t ht hi];exact AV.inert_cut hi (Nat.le_refl _) l
   ·show st0.obs.length≤((s'.obs.take _).map _).length
    rw[List.length_map,List.length_take];omega
 | exit i=>exact h
 | ret=>exact h
theorem loop_0{c:RCode}{Q:CExit→TFr→TS→Prop}{fr0:TFr}{st0:TS}(J:Nat→TS→Prop)(n:Nat)(l:List Nat)(hl:nodupB l=true)(h0:J n (st0.cut st0.obs.length l))(hs : ∀m f s,J m s→twR Z T X D R c (mixF c st0.obs.length fr0 f) s (loopT st0.obs.length (fun m _ s=>J m s) m Q)):LoopS Z T X D R c fr0 st0 Q:=
 loop_rule (fun m _ s=>J m s) n l hl h0 fun m f s hJ hf=>by rw[hf];exact hs m f s hJ
theorem loop_1{c:RCode}{Q:CExit→TFr→TS→Prop}{fr0:TFr}{st0:TS}(d:Nat)(J:Nat→AV→TS→Prop)(n:Nat)(l:List Nat)(hl:nodupB l=true)(h0:J n ((fr0 d).cut st0.obs.length l) (st0.cut st0.obs.length l))(hs : ∀m a f s,J m a s→twR Z T X D R c (putA (mixF c st0.obs.length fr0 f) (some d) a) s (loopT st0.obs.length (fun m f s=>J m (f d) s) m Q)):LoopS Z T X D R c fr0 st0 Q:=
 loop_rule (fun m f s=>J m (f d) s) n l hl h0 fun m f s hJ hf=>by
  have e:f=putA (mixF c st0.obs.length fr0 f) (some d) (f d):=funext fun t=>by
   rw[putA_if]
   split
   ·rename_i e;rw[e]
   ·rw[←hf]
  rw[e]
  exact hs m (f d) f s hJ
theorem loop_2{c:RCode}{Q:CExit→TFr→TS→Prop}{fr0:TFr}{st0:TS}(d d2:Nat)(J:Nat→AV→AV→TS→Prop)(n:Nat)(l:List Nat)(hl:nodupB l=true)(h0:J n ((fr0 d).cut st0.obs.length l) ((fr0 d2).cut st0.obs.length l) (st0.cut st0.obs.length l))(hs : ∀m a b f s,J m a b s→twR Z T X D R c (putA (putA (mixF c st0.obs.length fr0 f) (some d2) b) (some d) a) s (loopT st0.obs.length (fun m f s=>J m (f d) (f d2) s) m Q)):LoopS Z T X D R c fr0 st0 Q:=
 loop_rule (fun m f s=>J m (f d) (f d2) s) n l hl h0 fun m f s hJ hf=>by
  have e:f=putA (putA (mixF c st0.obs.length fr0 f) (some d2) (f d2)) (some d) (f d):=funext fun t=>by
   rw[putA_if,putA_if]
   split
   ·rename_i e;rw[e]
   ·split
    ·rename_i e;rw[e]
    ·rw[←hf]
  rw[e]
  exact hs m (f d) (f d2) f s hJ
theorem ifT_c{b:Bool}{yes no:Prop}(h1:b=true→yes)(h2:b=false→no):ifT b yes no:=by
 cases b
 ·exact h2 rfl
 ·exact h1 rfl
end Can
end Go.Proofs.YtdfgkcoenagaaaaGreat
end
section
namespace Go.Proofs.YtdfgkcoenagaaaaGreat
namespace Can
set_option linter.unusedSimpArgs false
set_option linter.unusedVariables false
structure PT where
 kind:Int
 line:Int
 text:List UInt8
inductive Nd where
 | mk (kind:Nat) (line:Int) (text:List UInt8) (op:Nat) (kids:List Nd)
def Nd.kind:Nd→Nat
 | .mk k _ _ _ _=>k
def Nd.line:Nd→Int
 | .mk _ l _ _ _=>l
def Nd.text:Nd→List UInt8
 | .mk _ _ x _ _=>x
def Nd.op:Nd→Nat
 | .mk _ _ _ o _=>o
def Nd.kids:Nd→List Nd
 | .mk _ _ _ _ ks=>ks
abbrev nd(k:Nat)(l:Int)(kids:List Nd):Nd:= .mk k l [] 0 kids
def nowT (ts:List PT)(i:Nat):PT:=match ts[i]? with
 | some t=>t
 | none=>match ts.getLast? with
   | some t=>⟨0,t.line,[]⟩
   | none=>⟨0,0,[]⟩
def isWd:List UInt8→Bool
 | c::_=>decide ((65≤c.toNat∧c.toNat≤90)∨(97≤c.toNat∧c.toNat≤122))
 | []=>false
def isT (ts:List PT)(i:Nat)(s:List UInt8):Bool:=decide (((nowT ts i).kind=8∨(nowT ts i).kind=9)∧(nowT ts i).text=s∧isWd s=decide ((nowT ts i).kind=8))
abbrev s_lambda:List UInt8:= [UInt8.ofNat 108,UInt8.ofNat 97,UInt8.ofNat 109,UInt8.ofNat 98,UInt8.ofNat 100,UInt8.ofNat 97]
abbrev s_colon:List UInt8:= [UInt8.ofNat 58]
abbrev s_if:List UInt8:= [UInt8.ofNat 105,UInt8.ofNat 102]
abbrev s_else:List UInt8:= [UInt8.ofNat 101,UInt8.ofNat 108,UInt8.ofNat 115,UInt8.ofNat 101]
abbrev s_or:List UInt8:= [UInt8.ofNat 111,UInt8.ofNat 114]
abbrev s_and:List UInt8:= [UInt8.ofNat 97,UInt8.ofNat 110,UInt8.ofNat 100]
abbrev s_not:List UInt8:= [UInt8.ofNat 110,UInt8.ofNat 111,UInt8.ofNat 116]
abbrev s_eqeq:List UInt8:= [UInt8.ofNat 61,UInt8.ofNat 61]
abbrev s_bne:List UInt8:= [UInt8.ofNat 33,UInt8.ofNat 61]
abbrev s_lt:List UInt8:= [UInt8.ofNat 60]
abbrev s_le:List UInt8:= [UInt8.ofNat 60,UInt8.ofNat 61]
abbrev s_gt:List UInt8:= [UInt8.ofNat 62]
abbrev s_ge:List UInt8:= [UInt8.ofNat 62,UInt8.ofNat 61]
abbrev s_in:List UInt8:= [UInt8.ofNat 105,UInt8.ofNat 110]
abbrev s_is:List UInt8:= [UInt8.ofNat 105,UInt8.ofNat 115]
abbrev s_plus:List UInt8:= [UInt8.ofNat 43]
abbrev s_minus:List UInt8:= [UInt8.ofNat 45]
abbrev s_star:List UInt8:= [UInt8.ofNat 42]
abbrev s_slash:List UInt8:= [UInt8.ofNat 47]
abbrev s_dslash:List UInt8:= [UInt8.ofNat 47,UInt8.ofNat 47]
abbrev s_pct:List UInt8:= [UInt8.ofNat 37]
abbrev s_dstar:List UInt8:= [UInt8.ofNat 42,UInt8.ofNat 42]
abbrev s_dot:List UInt8:= [UInt8.ofNat 46]
abbrev s_lpar:List UInt8:= [UInt8.ofNat 40]
abbrev s_rpar:List UInt8:= [UInt8.ofNat 41]
abbrev s_lbrk:List UInt8:= [UInt8.ofNat 91]
abbrev s_rbrk:List UInt8:= [UInt8.ofNat 93]
abbrev s_lbrc:List UInt8:= [UInt8.ofNat 123]
abbrev s_rbrc:List UInt8:= [UInt8.ofNat 125]
abbrev s_comma:List UInt8:= [UInt8.ofNat 44]
abbrev s_None:List UInt8:= [UInt8.ofNat 78,UInt8.ofNat 111,UInt8.ofNat 110,UInt8.ofNat 101]
abbrev s_True:List UInt8:= [UInt8.ofNat 84,UInt8.ofNat 114,UInt8.ofNat 117,UInt8.ofNat 101]
abbrev s_False:List UInt8:= [UInt8.ofNat 70,UInt8.ofNat 97,UInt8.ofNat 108,UInt8.ofNat 115,UInt8.ofNat 101]
abbrev s_for:List UInt8:= [UInt8.ofNat 102,UInt8.ofNat 111,UInt8.ofNat 114]
abbrev s_asg:List UInt8:= [UInt8.ofNat 61]
abbrev s_plusA:List UInt8:= [UInt8.ofNat 43,UInt8.ofNat 61]
abbrev s_minusA:List UInt8:= [UInt8.ofNat 45,UInt8.ofNat 61]
abbrev s_starA:List UInt8:= [UInt8.ofNat 42,UInt8.ofNat 61]
abbrev s_slashA:List UInt8:= [UInt8.ofNat 47,UInt8.ofNat 61]
abbrev s_dslashA:List UInt8:= [UInt8.ofNat 47,UInt8.ofNat 47,UInt8.ofNat 61]
abbrev s_pctA:List UInt8:= [UInt8.ofNat 37,UInt8.ofNat 61]
abbrev s_dstarA:List UInt8:= [UInt8.ofNat 42,UInt8.ofNat 42,UInt8.ofNat 61]
abbrev s_pass:List UInt8:= [UInt8.ofNat 112,UInt8.ofNat 97,UInt8.ofNat 115,UInt8.ofNat 115]
abbrev s_break:List UInt8:= [UInt8.ofNat 98,UInt8.ofNat 114,UInt8.ofNat 101,UInt8.ofNat 97,UInt8.ofNat 107]
abbrev s_continue:List UInt8:= [UInt8.ofNat 99,UInt8.ofNat 111,UInt8.ofNat 110,UInt8.ofNat 116,UInt8.ofNat 105,UInt8.ofNat 110,UInt8.ofNat 117,UInt8.ofNat 101]
abbrev s_return:List UInt8:= [UInt8.ofNat 114,UInt8.ofNat 101,UInt8.ofNat 116,UInt8.ofNat 117,UInt8.ofNat 114,UInt8.ofNat 110]
abbrev s_raise:List UInt8:= [UInt8.ofNat 114,UInt8.ofNat 97,UInt8.ofNat 105,UInt8.ofNat 115,UInt8.ofNat 101]
abbrev s_global:List UInt8:= [UInt8.ofNat 103,UInt8.ofNat 108,UInt8.ofNat 111,UInt8.ofNat 98,UInt8.ofNat 97,UInt8.ofNat 108]
abbrev s_nonlocal:List UInt8:= [UInt8.ofNat 110,UInt8.ofNat 111,UInt8.ofNat 110,UInt8.ofNat 108,UInt8.ofNat 111,UInt8.ofNat 99,UInt8.ofNat 97,UInt8.ofNat 108]
abbrev s_assert:List UInt8:= [UInt8.ofNat 97,UInt8.ofNat 115,UInt8.ofNat 115,UInt8.ofNat 101,UInt8.ofNat 114,UInt8.ofNat 116]
abbrev s_yield:List UInt8:= [UInt8.ofNat 121,UInt8.ofNat 105,UInt8.ofNat 101,UInt8.ofNat 108,UInt8.ofNat 100]
abbrev s_del:List UInt8:= [UInt8.ofNat 100,UInt8.ofNat 101,UInt8.ofNat 108]
abbrev s_elif:List UInt8:= [UInt8.ofNat 101,UInt8.ofNat 108,UInt8.ofNat 105,UInt8.ofNat 102]
abbrev s_except:List UInt8:= [UInt8.ofNat 101,UInt8.ofNat 120,UInt8.ofNat 99,UInt8.ofNat 101,UInt8.ofNat 112,UInt8.ofNat 116]
abbrev s_as:List UInt8:= [UInt8.ofNat 97,UInt8.ofNat 115]
abbrev s_finally:List UInt8:= [UInt8.ofNat 102,UInt8.ofNat 105,UInt8.ofNat 110,UInt8.ofNat 97,UInt8.ofNat 108,UInt8.ofNat 108,UInt8.ofNat 121]
abbrev s_while:List UInt8:= [UInt8.ofNat 119,UInt8.ofNat 104,UInt8.ofNat 105,UInt8.ofNat 108,UInt8.ofNat 101]
abbrev s_def:List UInt8:= [UInt8.ofNat 100,UInt8.ofNat 101,UInt8.ofNat 102]
abbrev s_class:List UInt8:= [UInt8.ofNat 99,UInt8.ofNat 108,UInt8.ofNat 97,UInt8.ofNat 115,UInt8.ofNat 115]
abbrev s_try:List UInt8:= [UInt8.ofNat 116,UInt8.ofNat 114,UInt8.ofNat 121]
abbrev s_with:List UInt8:= [UInt8.ofNat 119,UInt8.ofNat 105,UInt8.ofNat 116,UInt8.ofNat 104]
def begT (ts:List PT)(i:Nat):Bool:=decide (4≤(nowT ts i).kind∧(nowT ts i).kind≤7)||isT ts i s_lambda||isT ts i s_not||isT ts i s_None||isT ts i s_True||isT ts i s_False||isT ts i s_plus||isT ts i s_minus||isT ts i s_lpar||isT ts i s_lbrk||isT ts i s_lbrc
abbrev PR:=Option (Except Nat (List Nd×Nat))
def pb (r:PR)(k:List Nd→Nat→PR):PR:=match r with
 | none=>none
 | some (.error e)=>some (.error e)
 | some (.ok (l,i))=>k l i
def pk1 (n:Nd)(i:Nat):PR:=some (.ok ([n],i))
def pb1 (r:PR)(k:Nd→Nat→PR):PR:=pb r fun l i=>match l with
 | [n]=>k n i
 | _=>none
def wantB(ts:List PT)(s:List UInt8)(i:Nat)(k:Nat→PR):PR:=if isT ts i s=true then k (i+1) else some (.error i)
def wantK(ts:List PT)(kd:Int)(i:Nat)(k:List UInt8→Nat→PR):PR:=if (nowT ts i).kind=kd then k (nowT ts i).text (i+1) else some (.error i)
def singleN(n:Nd):Bool:=decide (n.kind=36∨n.kind=45∨n.kind=46)
mutual
def placeN:Nd→Bool
 | .mk k _ _ _ ks=>if k=52∨k=51 then placesN ks && !ks.isEmpty else decide (k=36∨k=45∨k=46)
def placesN:List Nd→Bool
 | []=>true
 | n::ks=>placeN n&&placesN ks
end
def opT (ts:List PT)(i:Nat):Except Nat (Nat×Nat):=
 if isT ts i s_eqeq=true then .ok (1,i+1) else if isT ts i s_bne=true then .ok (2,i+1) else if isT ts i s_lt=true then .ok (3,i+1) else if isT ts i s_le=true then .ok (4,i+1)
 else if isT ts i s_gt=true then .ok (5,i+1) else if isT ts i s_ge=true then .ok (6,i+1) else if isT ts i s_in=true then .ok (7,i+1)
 else if isT ts i s_not=true then (if isT ts (i+1) s_in=true then .ok (8,i+2) else .error (i+1))
 else if isT ts i s_is=true then (if isT ts (i+1) s_not=true then .ok (10,i+2) else .ok (9,i+1)) else .ok (0,i)
def augT (ts:List PT)(i:Nat):Nat:=if isT ts i s_plusA=true then 1 else if isT ts i s_minusA=true then 2 else if isT ts i s_starA=true then 3 else if isT ts i s_slashA=true then 4 else if isT ts i s_dslashA=true then 5 else if isT ts i s_pctA=true then 6 else if isT ts i s_dstarA=true then 7 else 0
def leafK(k:Int):Nat:=if k=5 then 30 else if k=6 then 31 else if k=7 then 32 else 36
def hdLine(l:Int):List Nd→Int
 | n::_=>n.line
 | []=>l
inductive NT where
 | expr | or | and | not | compare | arith | term | factor | primary | atom | exprs | one | places | simple | plain | value | block | stmt
 | params (close:List UInt8) (line:Int) (acc:List Nd)
 | row (close:List UInt8) (acc:List Nd)
 | exprsL (line:Int) (acc:List Nd)
 | orL (n:Nd) | andL (n:Nd) | cmpL (n:Nd) (acc:List Nd) | arithL (n:Nd) | termL (n:Nd) | primL (n:Nd) | index (n:Nd)
 | clauses (acc:List Nd)
 | list (line:Int) | braces (line:Int) | dictL (line:Int) (acc:List Nd)
 | placesL (line:Int) (acc:List Nd)
 | names (kind:Nat) (line:Int) (acc:List Nd)
 | maybe (kind:Nat) (line:Int) (all:Bool)
 | asgL (line:Int) (acc:List Nd)
 | blockL (acc:List Nd)
 | ifs (line:Int) | tries (line:Int) | triesL (acc:List Nd) | triesF (line:Int) (acc:List Nd)
 | top (acc:List Nd)
def gr (ts:List PT):Nat→NT→Nat→PR
 | 0,_,_=>none
 | f+1, .expr,i=>if isT ts i s_lambda=true then
     pb1 (gr ts f (.params s_colon (nowT ts i).line []) (i+1)) fun p i1=>wantB ts s_colon i1 fun i2=>pb1 (gr ts f .expr i2) fun e i3=>pk1 (nd 50 (nowT ts i).line [p,e]) i3
    else pb1 (gr ts f .or i) fun a i1=>if isT ts i1 s_if=true then
     pb1 (gr ts f .or (i1+1)) fun c i2=>wantB ts s_else i2 fun i3=>pb1 (gr ts f .expr i3) fun e i4=>pk1 (nd 49 a.line [c,a,e]) i4
    else pk1 a i1
 | f+1, .or,i=>pb1 (gr ts f .and i) fun n i1=>gr ts f (.orL n) i1
 | f+1, .orL n,i=>if isT ts i s_or=true then pb1 (gr ts f .and (i+1)) fun m i1=>gr ts f (.orL (nd 40 n.line [n,m])) i1 else pk1 n i
 | f+1, .and,i=>pb1 (gr ts f .not i) fun n i1=>gr ts f (.andL n) i1
 | f+1, .andL n,i=>if isT ts i s_and=true then pb1 (gr ts f .not (i+1)) fun m i1=>gr ts f (.andL (nd 39 n.line [n,m])) i1 else pk1 n i
 | f+1, .not,i=>if isT ts i s_not=true then pb1 (gr ts f .not (i+1)) fun n i1=>pk1 (nd 41 (nowT ts i).line [n]) i1 else gr ts f .compare i
 | f+1, .compare,i=>pb1 (gr ts f .arith i) fun n i1=>gr ts f (.cmpL n []) i1
 | f+1, .cmpL n acc,i=>match opT ts i with
   | .error e=>some (.error e)
   | .ok (0,_)=>pk1 (if acc.isEmpty then n else nd 42 n.line (n::acc)) i
   | .ok (op+1,i1)=>pb1 (gr ts f .arith i1) fun m i2=>gr ts f (.cmpL n (acc++ [.mk 43 (nowT ts i).line [] (op+1) [m]])) i2
 | f+1, .arith,i=>pb1 (gr ts f .term i) fun n i1=>gr ts f (.arithL n) i1
 | f+1, .arithL n,i=>if isT ts i s_plus=true then pb1 (gr ts f .term (i+1)) fun m i1=>gr ts f (.arithL (.mk 37 n.line [] 1 [n,m])) i1
    else if isT ts i s_minus=true then pb1 (gr ts f .term (i+1)) fun m i1=>gr ts f (.arithL (.mk 37 n.line [] 2 [n,m])) i1 else pk1 n i
 | f+1, .term,i=>pb1 (gr ts f .factor i) fun n i1=>gr ts f (.termL n) i1
 | f+1, .termL n,i=>if isT ts i s_star=true then pb1 (gr ts f .factor (i+1)) fun m i1=>gr ts f (.termL (.mk 37 n.line [] 3 [n,m])) i1
    else if isT ts i s_slash=true then pb1 (gr ts f .factor (i+1)) fun m i1=>gr ts f (.termL (.mk 37 n.line [] 4 [n,m])) i1
    else if isT ts i s_dslash=true then pb1 (gr ts f .factor (i+1)) fun m i1=>gr ts f (.termL (.mk 37 n.line [] 5 [n,m])) i1
    else if isT ts i s_pct=true then pb1 (gr ts f .factor (i+1)) fun m i1=>gr ts f (.termL (.mk 37 n.line [] 6 [n,m])) i1 else pk1 n i
 | f+1, .factor,i=>if isT ts i s_plus=true then pb1 (gr ts f .factor (i+1)) fun n i1=>pk1 (.mk 38 (nowT ts i).line [] 2 [n]) i1
    else if isT ts i s_minus=true then pb1 (gr ts f .factor (i+1)) fun n i1=>pk1 (.mk 38 (nowT ts i).line [] 1 [n]) i1
    else pb1 (gr ts f .primary i) fun n i1=>if isT ts i1 s_dstar=true then pb1 (gr ts f .factor (i1+1)) fun m i2=>pk1 (.mk 37 n.line [] 7 [n,m]) i2 else pk1 n i1
 | f+1, .primary,i=>pb1 (gr ts f .atom i) fun n i1=>gr ts f (.primL n) i1
 | f+1, .primL n,i=>if isT ts i s_dot=true then wantK ts 4 (i+1) fun s i1=>gr ts f (.primL (.mk 45 n.line s 0 [n])) i1
    else if isT ts i s_lpar=true then pb (gr ts f (.row s_rpar []) (i+1)) fun l i1=>wantB ts s_rpar i1 fun i2=>gr ts f (.primL (nd 44 n.line (n::l))) i2
    else if isT ts i s_lbrk=true then pb1 (gr ts f (.index n) (i+1)) fun m i1=>wantB ts s_rbrk i1 fun i2=>gr ts f (.primL m) i2 else pk1 n i
 | f+1, .index n,i=>if isT ts i s_colon=true then wantB ts s_colon i fun i2=>if isT ts i2 s_rbrk=true then pk1 (nd 47 n.line [n,nd 48 n.line [],nd 48 n.line []]) i2
      else pb1 (gr ts f .expr i2) fun hi i3=>pk1 (nd 47 n.line [n,nd 48 n.line [],hi]) i3
    else pb1 (gr ts f .expr i) fun lo i1=>if isT ts i1 s_comma=true then pb1 (gr ts f (.exprsL lo.line [lo]) i1) fun m i2=>pk1 (nd 46 n.line [n,m]) i2
     else if isT ts i1 s_colon=true then (if isT ts (i1+1) s_rbrk=true then pk1 (nd 47 n.line [n,lo,nd 48 n.line []]) (i1+1)
      else pb1 (gr ts f .expr (i1+1)) fun hi i3=>pk1 (nd 47 n.line [n,lo,hi]) i3) else pk1 (nd 46 n.line [n,lo]) i1
 | f+1, .atom,i=>if 4≤(nowT ts i).kind∧(nowT ts i).kind≤7 then pk1 (.mk (leafK (nowT ts i).kind) (nowT ts i).line (nowT ts i).text 0 []) (i+1)
    else if isT ts i s_None=true then pk1 (nd 33 (nowT ts i).line []) (i+1) else if isT ts i s_True=true then pk1 (nd 34 (nowT ts i).line []) (i+1)
    else if isT ts i s_False=true then pk1 (nd 35 (nowT ts i).line []) (i+1)
    else if isT ts i s_lpar=true then (if isT ts (i+1) s_rpar=true then pk1 (nd 52 (nowT ts i).line []) (i+2) else pb1 (gr ts f .exprs (i+1)) fun n i1=>wantB ts s_rpar i1 fun i2=>pk1 n i2)
    else if isT ts i s_lbrk=true then pb1 (gr ts f (.list (nowT ts i).line) (i+1)) fun n i1=>wantB ts s_rbrk i1 fun i2=>pk1 n i2
    else if isT ts i s_lbrc=true then pb1 (gr ts f (.braces (nowT ts i).line) (i+1)) fun n i1=>wantB ts s_rbrc i1 fun i2=>pk1 n i2
    else some (.error i)
 | f+1, .exprs,i=>pb1 (gr ts f .expr i) fun n i1=>if isT ts i1 s_comma=true then gr ts f (.exprsL n.line [n]) i1 else pk1 n i1
 | f+1, .exprsL l acc,i=>if isT ts i s_comma=true then (if begT ts (i+1)=true then pb1 (gr ts f .expr (i+1)) fun e i1=>gr ts f (.exprsL l (acc++ [e])) i1 else pk1 (nd 52 l acc) (i+1)) else pk1 (nd 52 l acc) i
 | f+1, .row cl acc,i=>if isT ts i cl=true then some (.ok (acc,i)) else pb1 (gr ts f .expr i) fun e i1=>if isT ts i1 s_comma=true then gr ts f (.row cl (acc++ [e])) (i1+1) else some (.ok (acc++ [e],i1))
 | f+1, .params cl l acc,i=>if isT ts i cl=true then pk1 (nd 23 l acc) i else wantK ts 4 i fun s i1=>if isT ts i1 s_comma=true then gr ts f (.params cl l (acc++ [.mk 36 (nowT ts i).line s 0 []])) (i1+1) else pk1 (nd 23 l (acc++ [.mk 36 (nowT ts i).line s 0 []])) i1
 | f+1, .clauses acc,i=>if isT ts i s_for=true then pb1 (gr ts f .places (i+1)) fun p i1=>wantB ts s_in i1 fun i2=>pb1 (gr ts f .or i2) fun e i3=>gr ts f (.clauses (acc++ [nd 58 (nowT ts i).line [p,e]])) i3
    else if isT ts i s_if=true then pb1 (gr ts f .or (i+1)) fun e i1=>gr ts f (.clauses (acc++ [nd 59 (nowT ts i).line [e]])) i1 else some (.ok (acc,i))
 | f+1, .list l,i=>if isT ts i s_rbrk=true then pk1 (nd 51 l []) i else pb1 (gr ts f .expr i) fun e i1=>if isT ts i1 s_for=true then pb (gr ts f (.clauses []) i1) fun cs i2=>pk1 (nd 55 l (e::cs)) i2
    else if isT ts i1 s_comma=true then pb (gr ts f (.row s_rbrk []) (i1+1)) fun r i2=>pk1 (nd 51 l (e::r)) i2 else pk1 (nd 51 l [e]) i1
 | f+1, .braces l,i=>if isT ts i s_rbrc=true then pk1 (nd 54 l []) i else pb1 (gr ts f .expr i) fun e i1=>if isT ts i1 s_colon=true then
     pb1 (gr ts f .expr (i1+1)) fun v i2=>if isT ts i2 s_for=true then pb (gr ts f (.clauses []) i2) fun cs i3=>pk1 (nd 57 l (e::v::cs)) i3 else gr ts f (.dictL l [e,v]) i2
    else if isT ts i1 s_for=true then pb (gr ts f (.clauses []) i1) fun cs i2=>pk1 (nd 56 l (e::cs)) i2
    else if isT ts i1 s_comma=true then pb (gr ts f (.row s_rbrc []) (i1+1)) fun r i2=>pk1 (nd 53 l (e::r)) i2 else pk1 (nd 53 l [e]) i1
 | f+1, .dictL l acc,i=>if isT ts i s_comma=true then (if isT ts (i+1) s_rbrc=true then pk1 (nd 54 l acc) (i+1) else pb1 (gr ts f .expr (i+1)) fun k i1=>wantB ts s_colon i1 fun i2=>pb1 (gr ts f .expr i2) fun v i3=>gr ts f (.dictL l (acc++ [k,v])) i3) else pk1 (nd 54 l acc) i
 | f+1, .one,i=>pb1 (gr ts f .primary i) fun n i1=>if placeN n=true then pk1 n i1 else some (.error i1)
 | f+1, .places,i=>pb1 (gr ts f .one i) fun n i1=>if isT ts i1 s_comma=true then gr ts f (.placesL n.line [n]) i1 else pk1 n i1
 | f+1, .placesL l acc,i=>if isT ts i s_comma=true then (if begT ts (i+1)=true∧isT ts (i+1) s_plus=false∧isT ts (i+1) s_minus=false∧isT ts (i+1) s_not=false∧isT ts (i+1) s_lambda=false then pb1 (gr ts f .one (i+1)) fun e i1=>gr ts f (.placesL l (acc++ [e])) i1 else pk1 (nd 52 l acc) (i+1)) else pk1 (nd 52 l acc) i
 | f+1, .names k l acc,i=>wantK ts 4 i fun s i1=>if isT ts i1 s_comma=true then gr ts f (.names k l (acc++ [.mk 36 (nowT ts i).line s 0 []])) (i1+1) else pk1 (nd k l (acc++ [.mk 36 (nowT ts i).line s 0 []])) i1
 | f+1, .maybe k l all,i=>if begT ts i=true then pb1 (gr ts f (if all=true then .exprs else .expr) i) fun e i1=>pk1 (nd k l [e]) i1 else pk1 (nd k l []) i
 | f+1, .value,i=>if isT ts i s_yield=true then gr ts f (.maybe 60 (nowT ts i).line true) (i+1) else gr ts f .exprs i
 | f+1, .plain,i=>pb1 (gr ts f .exprs i) fun n i1=>if isT ts i1 s_asg=true then gr ts f (.asgL n.line [n]) i1
    else if augT ts i1=0 then pk1 (nd 2 n.line [n]) i1 else if singleN n=true then pb1 (gr ts f .exprs (i1+1)) fun m i2=>pk1 (.mk 4 n.line [] (augT ts i1) [n,m]) i2 else some (.error i1)
 | f+1, .asgL l acc,i=>if isT ts i s_asg=true then (match acc.getLast? with
     | some n=>if placeN n=true then pb1 (gr ts f .value (i+1)) fun v i1=>gr ts f (.asgL l (acc++ [v])) i1 else some (.error i)
     | none=>none) else pk1 (nd 3 l acc) i
 | f+1, .simple,i=>if isT ts i s_pass=true then pk1 (nd 11 (nowT ts i).line []) (i+1) else if isT ts i s_break=true then pk1 (nd 12 (nowT ts i).line []) (i+1)
    else if isT ts i s_continue=true then pk1 (nd 13 (nowT ts i).line []) (i+1) else if isT ts i s_return=true then gr ts f (.maybe 10 (nowT ts i).line true) (i+1)
    else if isT ts i s_raise=true then gr ts f (.maybe 14 (nowT ts i).line false) (i+1) else if isT ts i s_global=true then gr ts f (.names 17 (nowT ts i).line []) (i+1)
    else if isT ts i s_nonlocal=true then gr ts f (.names 18 (nowT ts i).line []) (i+1) else if isT ts i s_assert=true then pb1 (gr ts f .expr (i+1)) fun e i1=>pk1 (nd 20 (nowT ts i).line [e]) i1
    else if isT ts i s_yield=true then pb1 (gr ts f (.maybe 60 (nowT ts i).line true) (i+1)) fun e i1=>pk1 (nd 2 (nowT ts i).line [e]) i1
    else if isT ts i s_del=true then pb1 (gr ts f .primary (i+1)) fun n i1=>if singleN n=true then pk1 (nd 19 (nowT ts i).line [n]) i1 else some (.error i1)
    else gr ts f .plain i
 | f+1, .block,i=>if (nowT ts i).kind=1 then wantK ts 2 (i+1) fun _ i1=>gr ts f (.blockL []) i1 else pb1 (gr ts f .simple i) fun n i1=>wantK ts 1 i1 fun _ i2=>pk1 (nd 1 n.line [n]) i2
 | f+1, .blockL acc,i=>pb1 (gr ts f .stmt i) fun s i1=>if (nowT ts i1).kind=3 then pk1 (nd 1 (hdLine 0 (acc++ [s])) (acc++ [s])) (i1+1) else gr ts f (.blockL (acc++ [s])) i1
 | f+1, .ifs l,i=>pb1 (gr ts f .expr i) fun c i1=>wantB ts s_colon i1 fun i2=>pb1 (gr ts f .block i2) fun b i3=>if isT ts i3 s_elif=true then
     pb1 (gr ts f (.ifs (nowT ts i3).line) (i3+1)) fun x i4=>pk1 (nd 5 l [c,b,nd 1 (nowT ts i3).line [x]]) i4
    else if isT ts i3 s_else=true then wantB ts s_colon (i3+1) fun i4=>pb1 (gr ts f .block i4) fun e i5=>pk1 (nd 5 l [c,b,e]) i5 else pk1 (nd 5 l [c,b]) i3
 | f+1, .tries l,i=>wantB ts s_colon i fun i1=>pb1 (gr ts f .block i1) fun b i2=>pb (gr ts f (.triesL [b]) i2) fun acc i3=>gr ts f (.triesF l acc) i3
 | f+1, .triesL acc,i=>if isT ts i s_except=true then (if isT ts (i+1) s_colon=true then pb1 (gr ts f .block (i+2)) fun b i1=>some (.ok (acc++ [nd 21 (nowT ts i).line [b]],i1))
     else pb1 (gr ts f .expr (i+1)) fun e i1=>if isT ts i1 s_as=true then wantK ts 4 (i1+1) fun s i2=>wantB ts s_colon i2 fun i3=>pb1 (gr ts f .block i3) fun b i4=>gr ts f (.triesL (acc++ [.mk 21 (nowT ts i).line s 0 [e,b]])) i4
      else wantB ts s_colon i1 fun i3=>pb1 (gr ts f .block i3) fun b i4=>gr ts f (.triesL (acc++ [nd 21 (nowT ts i).line [e,b]])) i4) else some (.ok (acc,i))
 | f+1, .triesF l acc,i=>if isT ts i s_finally=true then wantB ts s_colon (i+1) fun i1=>pb1 (gr ts f .block i1) fun b i2=>pk1 (nd 15 l (acc++ [nd 22 (nowT ts i).line [b]])) i2
    else if acc.length=1 then some (.error i) else pk1 (nd 15 l acc) i
 | f+1, .stmt,i=>if isT ts i s_if=true then gr ts f (.ifs (nowT ts i).line) (i+1)
    else if isT ts i s_while=true then pb1 (gr ts f .expr (i+1)) fun c i1=>wantB ts s_colon i1 fun i2=>pb1 (gr ts f .block i2) fun b i3=>pk1 (nd 6 (nowT ts i).line [c,b]) i3
    else if isT ts i s_for=true then pb1 (gr ts f .places (i+1)) fun p i1=>wantB ts s_in i1 fun i2=>pb1 (gr ts f .exprs i2) fun e i3=>wantB ts s_colon i3 fun i4=>pb1 (gr ts f .block i4) fun b i5=>pk1 (nd 7 (nowT ts i).line [p,e,b]) i5
    else if isT ts i s_def=true then wantK ts 4 (i+1) fun s i1=>wantB ts s_lpar i1 fun i2=>pb1 (gr ts f (.params s_rpar (nowT ts i).line []) i2) fun p i3=>wantB ts s_rpar i3 fun i4=>wantB ts s_colon i4 fun i5=>pb1 (gr ts f .block i5) fun b i6=>pk1 (.mk 8 (nowT ts i).line s 0 [p,b]) i6
    else if isT ts i s_class=true then wantK ts 4 (i+1) fun s i1=>if isT ts i1 s_lpar=true then pb (gr ts f (.row s_rpar []) (i1+1)) fun bs i2=>wantB ts s_rpar i2 fun i3=>wantB ts s_colon i3 fun i4=>pb1 (gr ts f .block i4) fun b i5=>pk1 (.mk 9 (nowT ts i).line s 0 [nd 24 (nowT ts i).line bs,b]) i5
     else wantB ts s_colon i1 fun i4=>pb1 (gr ts f .block i4) fun b i5=>pk1 (.mk 9 (nowT ts i).line s 0 [nd 24 (nowT ts i).line [],b]) i5
    else if isT ts i s_try=true then gr ts f (.tries (nowT ts i).line) (i+1)
    else if isT ts i s_with=true then pb1 (gr ts f .expr (i+1)) fun e i1=>if isT ts i1 s_as=true then wantK ts 4 (i1+1) fun s i2=>wantB ts s_colon i2 fun i3=>pb1 (gr ts f .block i3) fun b i4=>pk1 (.mk 16 (nowT ts i).line s 0 [e,b]) i4
     else wantB ts s_colon i1 fun i3=>pb1 (gr ts f .block i3) fun b i4=>pk1 (nd 16 (nowT ts i).line [e,b]) i4
    else pb1 (gr ts f .simple i) fun n i1=>wantK ts 1 i1 fun _ i2=>pk1 n i2
 | f+1, .top acc,i=>if (nowT ts i).kind=0 then some (.ok (acc,i)) else pb1 (gr ts f .stmt i) fun s i1=>gr ts f (.top (acc++ [s])) i1
end Can
end Go.Proofs.YtdfgkcoenagaaaaGreat
end
section
namespace Go.Proofs.YtdfgkcoenagaaaaGreat
namespace Can
set_option linter.unusedSimpArgs false
set_option linter.unusedVariables false
def Gd (E:Nat→Prop)(P:List Nd→Nat→Prop):PR→Prop
 | none=>False
 | some (.error e)=>E e
 | some (.ok (l,j))=>P l j
theorem Gd.mono{E E':Nat→Prop}{P P':List Nd→Nat→Prop}{r:PR}(h:Gd E P r)(hE : ∀e,E e→E' e)(hP : ∀l j,P l j→P' l j):Gd E' P' r:=by
 match r,h with
 | some (.error e),h=>exact hE e h
 | some (.ok (l,j)),h=>exact hP l j h
theorem gd_pb{E:Nat→Prop}{P:List Nd→Nat→Prop}{r:PR}{k:List Nd→Nat→PR}:Gd E P (pb r k)↔Gd E (fun l j=>Gd E P (k l j)) r:=by
 match r with
 | none=>exact Iff.rfl
 | some (.error e)=>exact Iff.rfl
 | some (.ok (l,j))=>exact Iff.rfl
theorem gd_pb1{E:Nat→Prop}{P:List Nd→Nat→Prop}{r:PR}{k:Nd→Nat→PR}:Gd E P (pb1 r k)↔Gd E (fun l j=>∃t,l= [t]∧Gd E P (k t j)) r:=by
 match r with
 | none=>exact Iff.rfl
 | some (.error e)=>exact Iff.rfl
 | some (.ok ([],j))=>simp[pb1,pb,Gd]
 | some (.ok ([t],j))=>simp[pb1,pb,Gd]
 | some (.ok (t::u::l,j))=>simp[pb1,pb,Gd]
theorem isT_lt'{ts:List PT}{i:Nat}{s:List UInt8}(h:isT ts i s=true):i<ts.length:=by
 unfold isT at h
 rcases Nat.lt_or_ge i ts.length with g | g
 ·exact g
 ·have hk:(nowT ts i).kind=0:=by
   unfold nowT
   rw[List.getElem?_eq_none g]
   cases ts.getLast?<;>rfl
  rw[hk] at h
  simp at h
theorem kd_lt{ts:List PT}{i:Nat}(h:(nowT ts i).kind≠0):i<ts.length:=by
 rcases Nat.lt_or_ge i ts.length with g | g
 ·exact g
 ·exfalso
  apply h
  unfold nowT
  rw[List.getElem?_eq_none g]
  cases ts.getLast?<;>rfl
theorem isT_no{ts:List PT}{i:Nat}{s:List UInt8}(h:(nowT ts i).kind≠if isWd s=true then 8 else 9):isT ts i s=false:=by
 unfold isT
 apply decide_eq_false
 rintro⟨h1,_,h3⟩
 apply h
 cases hw:isWd s with
 | true=>
   rw[hw] at h3
   rw[if_pos rfl]
   exact of_decide_eq_true h3.symm
 | false=>
   rw[hw] at h3
   rw[if_neg (by decide)]
   rcases h1 with h1 | h1
   ·exact absurd h1 (of_decide_eq_false h3.symm)
   ·exact h1
theorem beg_k{ts:List PT}{i:Nat}(h:4≤(nowT ts i).kind∧(nowT ts i).kind≤7):begT ts i=true:=by
 unfold begT
 rw[decide_eq_true h]
 simp only[Bool.true_or]
theorem beg_n{ts:List PT}{i:Nat}(h : ¬(4≤(nowT ts i).kind∧(nowT ts i).kind≤7))(h8:(nowT ts i).kind≠8)(h9:(nowT ts i).kind≠9):begT ts i=false:=by
 unfold begT
 rw[decide_eq_false h]
 repeat rw[isT_no (by split<;>assumption)]
 rfl
theorem beg_w{ts:List PT}{i:Nat}(h:(nowT ts i).kind=8):begT ts i=(isT ts i s_lambda||isT ts i s_not||isT ts i s_None||isT ts i s_True||isT ts i s_False):=by
 have hn : ∀s,isWd s=false→isT ts i s=false:=fun s hs=>isT_no (by rw[h,hs];decide)
 unfold begT
 rw[decide_eq_false (by rw[h];decide),hn s_plus rfl,hn s_minus rfl,hn s_lpar rfl,hn s_lbrk rfl,hn s_lbrc rfl]
 simp only[Bool.false_or,Bool.or_false]
theorem beg_s{ts:List PT}{i:Nat}(h:(nowT ts i).kind=9):begT ts i=(isT ts i s_plus||isT ts i s_minus||isT ts i s_lpar||isT ts i s_lbrk||isT ts i s_lbrc):=by
 have hn : ∀s,isWd s=true→isT ts i s=false:=fun s hs=>isT_no (by rw[h,hs];decide)
 unfold begT
 rw[decide_eq_false (by rw[h];decide),hn s_lambda rfl,hn s_not rfl,hn s_None rfl,hn s_True rfl,hn s_False rfl]
 simp only[Bool.false_or]
theorem gd_wantB{ts:List PT}{s:List UInt8}{i:Nat}{k:Nat→PR}{E:Nat→Prop}{P:List Nd→Nat→Prop}(h1:E i)(h2:i<ts.length→Gd E P (k (i+1))):Gd E P (wantB ts s i k):=by
 unfold wantB
 split
 ·rename_i h;exact h2 (isT_lt' h)
 ·exact h1
theorem gd_wantK{ts:List PT}{kd:Int}(h0:kd≠0){i:Nat}{k:List UInt8→Nat→PR}{E:Nat→Prop}{P:List Nd→Nat→Prop}(h1:E i)(h2:i<ts.length→Gd E P (k (nowT ts i).text (i+1))):Gd E P (wantK ts kd i k):=by
 unfold wantK
 split
 ·rename_i h;exact h2 (kd_lt (by rw[h];exact h0))
 ·exact h1
theorem gd_if{ts:List PT}{s:List UInt8}{i:Nat}{a b:PR}{E:Nat→Prop}{P:List Nd→Nat→Prop}(h1:i<ts.length→Gd E P a)(h2:Gd E P b):Gd E P (if isT ts i s=true then a else b):=by
 split
 ·rename_i h;exact h1 (isT_lt' h)
 ·exact h2
theorem gd_ite{c:Prop}[Decidable c]{a b:PR}{E:Nat→Prop}{P:List Nd→Nat→Prop}(h1:c→Gd E P a)(h2 : ¬c→Gd E P b):Gd E P (if c then a else b):=by
 split
 ·rename_i h;exact h1 h
 ·rename_i h;exact h2 h
theorem gd_ok{l:List Nd}{j:Nat}{E:Nat→Prop}{P:List Nd→Nat→Prop}(h:P l j):Gd E P (some (.ok (l,j))):=h
theorem gd_er{e:Nat}{E:Nat→Prop}{P:List Nd→Nat→Prop}(h:E e):Gd E P (some (.error e)):=h
theorem gd_pk{t:Nd}{j:Nat}{E:Nat→Prop}{P:List Nd→Nat→Prop}(h:P [t] j):Gd E P (pk1 t j):=h
def NT.rank:NT→Nat
 | .atom=>1
 | .primary=>2
 | .factor=>3
 | .term=>4
 | .arith=>5
 | .compare=>6
 | .not=>7
 | .and=>8
 | .or=>9
 | .expr=>10
 | .exprs=>11
 | .one=>3
 | .places=>4
 | .value=>13
 | .plain=>14
 | .simple=>15
 | .block=>16
 | .stmt=>17
 | .maybe _ _ _=>12
 | .row _ _=>11
 | .index _=>11
 | .list _=>11
 | .braces _=>11
 | .blockL _=>18
 | .ifs _=>11
 | .top _=>18
 | .triesF _ _=>0
 | _=>11
def NT.min:NT→Nat
 | .params _ _ _ | .row _ _ | .exprsL _ _ | .orL _ | .andL _ | .cmpL _ _ | .arithL _ | .termL _ | .primL _ | .clauses _ | .list _ | .braces _ | .dictL _ _ | .placesL _ _ | .maybe _ _ _ | .asgL _ _ | .triesL _ | .triesF _ _ | .top _=>0
 | .stmt=>2
 | _=>1
def NT.good:NT→Prop
 | .asgL _ acc=>acc≠ []
 | _=>True
def NT.acc:NT→Option Nat
 | .row _ acc=>some acc.length
 | .clauses acc=>some acc.length
 | .triesL acc=>some acc.length
 | .top acc=>some acc.length
 | _=>none
def NT.post(a:NT)(i n:Nat)(l:List Nd)(j:Nat):Prop:=i+a.min≤j∧j≤n∧match a.acc with
 | some m=>2*l.length+i≤2*m+j+1∧m≤l.length
 | none=>l.length=1
theorem nd_one_of{l:List Nd}(h:l.length=1) : ∃t,l= [t]:=by
 match l,h with
 | [t],_=>exact⟨t,rfl⟩
theorem last_ne{acc:List Nd}(h:acc≠ []) : ∃t,acc.getLast? = some t:=by
 cases hq:acc.getLast? with
 | none=>exact absurd (List.getLast?_eq_none_iff.1 hq) h
 | some t=>exact⟨t,rfl⟩
def GrOk (ts:List PT)(f:Nat):Prop:=∀(a:NT) (i:Nat),a.good→i≤ts.length→ts.length*64+a.rank<f+i*64→Gd (fun e=>i≤e∧e≤ts.length) (a.post i ts.length) (gr ts f a i)
theorem GrOk.one{ts:List PT}{f:Nat}(h:GrOk ts f){a:NT}{i:Nat}(hg:a.good)(hi:i≤ts.length)(hf:ts.length*64+a.rank<f+i*64){E:Nat→Prop}{P:List Nd→Nat→Prop}(hE : ∀e,i≤e→e≤ts.length→E e){k:Nd→Nat→PR}(ha:a.acc=none)(hP : ∀t j,i+a.min≤j→j≤ts.length→Gd E P (k t j)):Gd E P (pb1 (gr ts f a i) k):=by
 rw[gd_pb1]
 refine(h a i hg hi hf).mono (fun e h=>hE e h.1 h.2) fun l j h=> ?_
 unfold NT.post at h
 rw[ha] at h
 obtain⟨h1,h2,h3⟩:=h
 obtain⟨t,rfl⟩:=nd_one_of h3
 exact⟨t,rfl,hP t j h1 h2⟩
theorem GrOk.lst{ts:List PT}{f:Nat}(h:GrOk ts f){a:NT}{i:Nat}(hg:a.good)(hi:i≤ts.length)(hf:ts.length*64+a.rank<f+i*64){E:Nat→Prop}{P:List Nd→Nat→Prop}(hE : ∀e,i≤e→e≤ts.length→E e){k:List Nd→Nat→PR}(ha:a.acc=some (a.acc.getD 0))(hP : ∀l j,i≤j→j≤ts.length→2*l.length+i≤2*a.acc.getD 0+j+1→a.acc.getD 0≤l.length→Gd E P (k l j)):Gd E P (pb (gr ts f a i) k):=by
 rw[gd_pb]
 refine(h a i hg hi hf).mono (fun e h=>hE e h.1 h.2) fun l j h=> ?_
 unfold NT.post at h
 rw[ha] at h
 obtain⟨h1,h2,h3,h4⟩:=h
 exact hP l j (by omega) h2 h3 h4
theorem GrOk.nxt{ts:List PT}{f:Nat}(h:GrOk ts f){a:NT}{i:Nat}(hg:a.good)(hi:i≤ts.length)(hf:ts.length*64+a.rank<f+i*64){E:Nat→Prop}{P:List Nd→Nat→Prop}(hE : ∀e,i≤e→e≤ts.length→E e)(hP : ∀l j,i+a.min≤j→j≤ts.length→(match a.acc with | some m=>2*l.length+i≤2*m+j+1∧m≤l.length | none=>l.length=1)→P l j):Gd E P (gr ts f a i):=by
 refine(h a i hg hi hf).mono (fun e h=>hE e h.1 h.2) fun l j h=> ?_
 obtain⟨h1,h2,h3⟩:=h
 exact hP l j h1 h2 h3
def OpG (ts:List PT)(i:Nat)(r:Except Nat (Nat×Nat)):Prop:=match r with
 | .error e=>i≤e∧e≤ts.length
 | .ok (op,j)=>(op=0∧j=i)∨(op≠0∧i<j∧j≤ts.length)
theorem opG_if{ts:List PT}{i k:Nat}{s:List UInt8}{a b:Except Nat (Nat×Nat)}(h1:k<ts.length→OpG ts i a)(h2:OpG ts i b):OpG ts i (if isT ts k s=true then a else b):=by
 split
 ·rename_i h;exact h1 (isT_lt' h)
 ·exact h2
theorem opG_ok{ts:List PT}{i op j:Nat}(h0:op≠0)(h1:i<j)(h2:j≤ts.length):OpG ts i (.ok (op,j)):=Or.inr ⟨h0,h1,h2⟩
theorem opG_0{ts:List PT}{i:Nat}:OpG ts i (.ok (0,i)):=Or.inl ⟨rfl,rfl⟩
theorem opG_er{ts:List PT}{i e:Nat}(h1:i≤e)(h2:e≤ts.length):OpG ts i (.error e):=⟨h1,h2⟩
theorem opT_gd{ts:List PT}{i:Nat}(hi:i≤ts.length):OpG ts i (opT ts i):=by
 unfold opT
 repeat' first | exact opG_0 | exact opG_ok (by decide) (by omega) (by omega) | exact opG_er (by omega) (by omega) | refine opG_if (fun h=> ?_) ?_
theorem augT_lt{ts:List PT}{i:Nat}(h : ¬augT ts i=0):i<ts.length:=by
 unfold augT at h
 rcases Nat.lt_or_ge i ts.length with g | g
 ·exact g
 ·exfalso
  have hn : ∀s,isT ts i s=false:=fun s=>by
   cases hs:isT ts i s with
   | true=>have:=isT_lt' hs;omega
   | false=>rfl
  simp[hn] at h
theorem gd_op{ts:List PT}{i:Nat}(hi:i≤ts.length){E:Nat→Prop}{P:List Nd→Nat→Prop}(hE : ∀e,i≤e→e≤ts.length→E e){A:PR}{B:Nat→Nat→PR}(hA:Gd E P A)(hB : ∀op j,i<j→j≤ts.length→Gd E P (B op j)):Gd E P (match opT ts i with | .error e=>some (.error e) | .ok (0,_)=>A | .ok (op+1,j)=>B op j):=by
 have ho:=opT_gd hi
 match opT ts i,ho with
 | .error e,ho=>exact hE e ho.1 ho.2
 | .ok (0,_),_=>exact hA
 | .ok (op+1,j),ho=>
   rcases ho with ⟨h,_⟩ | ⟨_,h1,h2⟩
   ·cases h
   ·exact hB op j h1 h2
set_option maxHeartbeats 4000000 in
theorem grOk_succ{ts:List PT}{f:Nat}(ih:GrOk ts f):GrOk ts (f+1):=by
 intro a i hg hi hf
 cases a
 case' maybe k l c=>cases c
 case' asgL l acc=>obtain⟨t,ht⟩:=last_ne hg
 all_goals first | simp only[gr,ht] | simp only[gr,Bool.false_eq_true,if_false,if_true]
 case' cmpL n acc=>refine gd_op hi (fun e h1 h2=>⟨h1,h2⟩) ?_ fun op j h1 h2=> ?_
 all_goals (repeat' first | (have h0:=kd_lt (by rw[h];decide);clear h) | (have h0:=kd_lt (i:=i) (ts:=ts) (by omega);clear h) | (have h0:=augT_lt h;clear h) | (with_reducible refine gd_if (fun h=> ?_) ?_) | ((with_reducible refine gd_wantB ?_ ?_);exact⟨by omega,by omega⟩;intro h) | ((with_reducible refine gd_wantK ?_ ?_ ?_);decide;exact⟨by omega,by omega⟩;intro h) | ((with_reducible refine gd_er ?_);exact⟨by omega,by omega⟩) | ((with_reducible refine gd_pk ?_);(refine⟨?_,by omega,?_⟩<;>(simp only[NT.min,NT.acc,List.length_nil,List.length_cons,List.length_append]<;>omega))) | ((with_reducible refine gd_ok ?_);(refine⟨?_,by omega,?_⟩<;>(simp only[NT.min,NT.acc,List.length_nil,List.length_cons,List.length_append]<;>omega))) | ((with_reducible refine ih.one ?_ ?_ ?_ ?_ ?_ ?_);(first | exact True.intro | simp[NT.good]);omega;(simp only[NT.rank] at hf⊢;omega);(intro e g5 g6;exact⟨by omega,g6⟩);rfl;intro t j g1 g3;simp only[NT.min] at g1) | ((with_reducible refine ih.lst ?_ ?_ ?_ ?_ ?_ ?_);(first | exact True.intro | simp[NT.good]);omega;(simp only[NT.rank] at hf⊢;omega);(intro e g5 g6;exact⟨by omega,g6⟩);rfl;intro l j g1 g2 g3 g4;(simp only[NT.acc,Option.getD_some,List.length_nil,List.length_cons,List.length_append] at g3 g4)) | ((with_reducible refine ih.nxt ?_ ?_ ?_ ?_ ?_);(first | exact True.intro | simp[NT.good]);omega;(simp only[NT.rank] at hf⊢;omega);(intro e g5 g6;exact⟨by omega,g6⟩);intro l j g1 g3 g4;simp only[NT.acc,List.length_nil,List.length_cons,List.length_append] at g4;simp only[NT.min] at g1;(refine⟨?_,by omega,?_⟩<;>(simp only[NT.min,NT.acc,List.length_nil,List.length_cons,List.length_append]<;>omega))) | (with_reducible refine gd_ite (fun h=> ?_) (fun h=> ?_)))
theorem gr_gd{ts:List PT} : ∀f,GrOk ts f
 | 0=>fun a i _ hi h=>by omega
 | f+1=>grOk_succ (gr_gd f)
end Can
end Go.Proofs.YtdfgkcoenagaaaaGreat
end
section
namespace Go.Proofs.YtdfgkcoenagaaaaGreat
namespace Can
set_option linter.unusedSimpArgs false
set_option linter.unusedVariables false
def LeP (a b:PR):Prop:=∀r,a=some r→b=some r
theorem LeP.refl{a:PR}:LeP a a:=fun _ h=>h
theorem le_pb{r r':PR}{k k':List Nd→Nat→PR}(h:LeP r r')(hk : ∀l j,LeP (k l j) (k' l j)):LeP (pb r k) (pb r' k'):=fun x hx=>by
 match r,h,hx with
 | none,_,hx=>cases hx
 | some (.error e),h,hx=>rw[h _ rfl];exact hx
 | some (.ok (l,j)),h,hx=>rw[h _ rfl];exact hk l j x hx
theorem le_pb1{r r':PR}{k k':Nd→Nat→PR}(h:LeP r r')(hk : ∀t j,LeP (k t j) (k' t j)):LeP (pb1 r k) (pb1 r' k'):=le_pb h fun l j=>by
 match l with
 | []=>exact LeP.refl
 | [t]=>exact hk t j
 | _::_::_=>exact LeP.refl
theorem le_wantB{ts:List PT}{s:List UInt8}{i:Nat}{k k':Nat→PR}(hk : ∀j,LeP (k j) (k' j)):LeP (wantB ts s i k) (wantB ts s i k'):=by
 unfold wantB
 split
 ·exact hk _
 ·exact LeP.refl
theorem le_wantK{ts:List PT}{kd:Int}{i:Nat}{k k':List UInt8→Nat→PR}(hk : ∀s j,LeP (k s j) (k' s j)):LeP (wantK ts kd i k) (wantK ts kd i k'):=by
 unfold wantK
 split
 ·exact hk _ _
 ·exact LeP.refl
theorem le_ite{c:Prop}[Decidable c]{a b a' b':PR}(h1:LeP a a')(h2:LeP b b'):LeP (if c then a else b) (if c then a' else b'):=by
 split
 ·exact h1
 ·exact h2
def MnOk (ts:List PT)(f g:Nat):Prop:=∀a i,LeP (gr ts f a i) (gr ts g a i)
theorem mnOk_succ{ts:List PT}{f g:Nat}(ih:MnOk ts f g):MnOk ts (f+1) (g+1):=by
 have ih : ∀a i,LeP (gr ts f a i) (gr ts g a i):=ih
 intro a i
 cases a
 case cmpL n b=>
  simp only[gr]
  split
  all_goals repeat' first | (with_reducible exact LeP.refl) | (with_reducible exact ih _ _) | (with_reducible refine le_ite ?_ ?_) | (with_reducible refine le_wantB fun _=> ?_) | (with_reducible refine le_wantK fun _ _=> ?_) | (with_reducible refine le_pb1 (ih _ _) fun _ _=> ?_) | (with_reducible refine le_pb (ih _ _) fun _ _=> ?_)
 case asgL a b=>
  simp only[gr]
  cases b.getLast? with
  | none=>exact le_ite LeP.refl LeP.refl
  | some t=>repeat' first | (with_reducible exact LeP.refl) | (with_reducible exact ih _ _) | (with_reducible refine le_ite ?_ ?_) | (with_reducible refine le_wantB fun _=> ?_) | (with_reducible refine le_wantK fun _ _=> ?_) | (with_reducible refine le_pb1 (ih _ _) fun _ _=> ?_) | (with_reducible refine le_pb (ih _ _) fun _ _=> ?_)
 all_goals simp only[gr]
 all_goals (repeat' first | (with_reducible exact LeP.refl) | (with_reducible exact ih _ _) | (with_reducible refine le_ite ?_ ?_) | (with_reducible refine le_wantB fun _=> ?_) | (with_reducible refine le_wantK fun _ _=> ?_) | (with_reducible refine le_pb1 (ih _ _) fun _ _=> ?_) | (with_reducible refine le_pb (ih _ _) fun _ _=> ?_))
theorem gr_mn{ts:List PT} : ∀f,MnOk ts f (f+1)
 | 0=>fun a i r h=>by cases h
 | f+1=>mnOk_succ (gr_mn f)
theorem gr_mono{ts:List PT}{f g:Nat}(h:f≤g){a:NT}{i:Nat}{r:Except Nat (List Nd×Nat)}(hr:gr ts f a i=some r):gr ts g a i=some r:=by
 induction h with
 | refl=>exact hr
 | step _ ih=>exact gr_mn _ a i r ih
end Can
end Go.Proofs.YtdfgkcoenagaaaaGreat
end
