/- Runs over trees: code and functions. Over any program. Runs over trees: a function. Over any program. Runs over trees: loops by what they carry. Over any program. -/
import Derived.Test.YtnankhlanilbbaaGreatZj
import Derived.Test.YtnankhlanilbbaaGreatZd
section
namespace Go.Proofs.YtnankhlanilbbaaGreat
namespace Can
open Go Go.RowKit
set_option linter.unusedSimpArgs false
set_option linter.unusedVariables false
def putA (fr:TFr):Option Nat→AV→TFr
 | none,_=>fr
 | some d,a=>fun t=>match Nat.beq t d with
   | true=>a
   | false=>fr t
theorem putA_if{fr:TFr}{d t:Nat}{a:AV}:putA fr (some d) a t=if t=d then a else fr t:=by
 show(match Nat.beq t d with | true=>a | false=>fr t)=_
 split
 ·rename_i h;rw[if_pos (Nat.eq_of_beq_eq_true h)]
 ·rename_i h;rw[if_neg (Nat.ne_of_beq_eq_false h)]
def ifT (b:Bool)(yes no:Prop):Prop:=match b with
 | true=>yes
 | false=>no
def optT (o:Option AV)(k:AV→Prop):Prop:=match o with
 | some a=>k a
 | none=>False
def optS (o:Option (AV×TFr×TS))(k:AV→TFr→TS→Prop):Prop:=match o with
 | some (a,fr,st)=>k a fr st
 | none=>False
def tpopK(fr:TFr)(k:AV→Prop):POp→Prop
 | .idx x i sz=>match (tev fr x).rowOf,(tev fr i).raw with
   | some (t,z,gs),some (.int _ j)=>srcOk sz z∧∃(n:Nat) (g:List SV),j=(n:Int)∧gs[n]? = some g∧k (.eptr t g 0)
   | _,_=>False
 | .len x=>match tev fr x with
   | .r (.c (.s (.row _ gs)))=>gs.length≤maxLen→k (iS gs.length)
   | .r (.c (.own _ _ _ gs))=>gs.length≤maxLen→k (iS gs.length)
   | a=>optT ((lenOf a).map fun n=>iS n) k
 | x=>optT (tpop fr x) k
def taopK(fr:TFr)(st:TS)(k:AV→TFr→TS→Prop):AOp→Prop
 | .bsl e sz n z ps=>match Nat.ble 1 n&&(Nat.ble (n*sz) 16777216&&Nat.ble n 16777216),grps sz (ps.map fun p=>(tev fr p.2).cvs) with
   | true,some gs=>match allGz gs with
     | some hs=>ps.map (·.1)=List.range n∧fzK (gs.flatten.flatMap CV.stamp) fr st fun fr s=>k (.r (.c (.own st.nt e sz hs))) fr ⟨st.nt+1,s.obs⟩
     | none=>False
   | _,_=>False
 | x=>optS (taop fr st x) k
theorem taopK_ok{fr:TFr}{st:TS}{k:AV→TFr→TS→Prop}{x:AOp}(h:taopK fr st k x) : ∃a fr1 st1,taop fr st x=some (a,fr1,st1)∧k a fr1 st1:=by
 unfold taopK at h
 split at h
 ·rename_i e sz n z ps
  split at h
  ·rename_i gs h1 h2
   split at h
   ·rename_i hs h3
    obtain⟨h4,h5⟩:=h
    simp only[Bool.and_eq_true] at h1
    rw[fzK_eq] at h5
    refine⟨_,_,_,?_,h5⟩
    simp only[taop,h2,h3]
    rw[if_pos ⟨h4,Nat.le_of_ble_eq_true h1.1,Nat.le_of_ble_eq_true h1.2.1,Nat.le_of_ble_eq_true h1.2.2⟩]
   ·exact h.elim
  ·exact h.elim
 ·unfold optS at h
  split at h
  ·rename_i a fr1 st1 e;exact⟨a,fr1,st1,e,h⟩
  ·exact h.elim
def kilK (o:Option (Nat×TypeId×Nat))(fr:TFr)(st:TS)(k:TFr→TS→Prop):Prop:=match o with
 | none=>k fr st
 | some (t,_)=>k (fr.act (killG (some t))) (st.act (killG (some t)))
theorem kilK_eq{o:Option (Nat×TypeId×Nat)}{fr:TFr}{st:TS}{k:TFr→TS→Prop}:kilK o fr st k=k (kilF o fr) (kilS o st):=by
 cases o<;>rfl
def BdA (n bytes:Nat):Prop:=n*bytes≤140737488355328∧n≤maxLen
def growB(e sz:Nat):Option (Nat×TypeId×Nat)→Bool
 | none=>true
 | some (_,e',sz')=>Nat.beq e' e&&Nat.beq sz' sz
def srcB (sz:Nat):Option Nat→Bool
 | none=>true
 | some sz'=>Nat.beq sz' sz
theorem growB_ok{e sz:Nat}{o:Option (Nat×TypeId×Nat)}(h:growB e sz o=true):growOk e sz o:=by
 cases o with
 | none=>trivial
 | some p=>
   obtain⟨t,e',sz'⟩:=p
   simp only[growB,Bool.and_eq_true] at h
   exact⟨Nat.eq_of_beq_eq_true h.1,Nat.eq_of_beq_eq_true h.2⟩
theorem srcB_ok{sz:Nat}{o:Option Nat}(h:srcB sz o=true):srcOk sz o:=by
 cases o with
 | none=>trivial
 | some p=>exact Nat.eq_of_beq_eq_true h
def twopK(fr:TFr)(st:TS)(k:AV→TFr→TS→Prop):WOp→Prop
 | .app e sz bytes s x=>match (tev fr s).growOf,(tev fr x).rowOf with
   | some (o,gs),some (_,z,hs)=>match growB e sz o,srcB sz z with
     | true,true=>BdA (gs.length+hs.length) bytes∧kilK o fr st fun fr s=>k (.r (.c (.own st.nt e sz (gs++hs)))) fr ⟨st.nt+1,s.obs⟩
     | _,_=>False
   | _,_=>False
 | x=>optS (twop fr st x) k
def callO(Z:TP)(T:Tbl)(X:Pan)(D:TD)(f:FuncId)(avs:List AV)(fr:TFr)(st:TS)(k:AV→TFr→TS→Prop)(R:Value→Prop):Prop:=match D.node.elem f with
 | true=>nodeC avs fr st k
 | false=>callT Z T X f avs fr st k R
def twO0 (Z:TP)(T:Tbl)(X:Pan)(D:TD)(op:ROp)(fr:TFr)(st:TS)(k:AV→TFr→TS→Prop)(R:Value→Prop):Prop:=match op with
 | .p x=>tpopK fr (fun a=>k a fr st) x
 | .l x=>optT (tlop fr st x) fun a=>k a fr st
 | .a x=>taopK fr st k x
 | .w x=>twopK fr st k x
 | .call f args=>callO Z T X D f (args.map (tev fr)) fr st k R
 | .callv _ _=>False
structure Rec where
 d:Nat
 o:Nat
 off:Nat
 ver:Nat
def fcN (n:Nat)(k:Nat→Prop):Prop:=match n with
 | 0=>k 0
 | n+1=>k (n+1)
def fcV (v:Value)(k:Value→Prop):Prop:=match v with
 | .int kd n=>k (.int kd n)
 | .bool b=>ifT b (k (.bool true)) (k (.bool false))
 | .string s=>k (.string s)
 | .slice a n c=>k (.slice a n c)
 | v=>k v
def fcS (x:SV)(k:SV→Prop):Prop:=match x with
 | .sc v=>fcV v fun v=>k (.sc v)
 | .row sz gs=>k (.row sz gs)
def fcC (x:CV)(k:CV→Prop):Prop:=match x with
 | .s x=>fcS x fun x=>k (.s x)
 | .own t e sz gs=>fcN t fun t=>k (.own t e sz gs)
 | .bad=>k .bad
def fcL:List CV→(List CV→Prop)→Prop
 | [],k=>k []
 | x::l,k=>fcC x fun x=>fcL l fun l=>k (x::l)
def fcX (x:RV)(k:RV→Prop):Prop:=match x with
 | .c x=>fcC x fun x=>k (.c x)
 | .agg cs=>fcL cs fun cs=>k (.agg cs)
def fcXs:List RV→(List RV→Prop)→Prop
 | [],k=>k []
 | x::l,k=>fcX x fun x=>fcXs l fun l=>k (x::l)
def fcA (a:AV)(k:AV→Prop):Prop:=match a with
 | .r x=>fcX x fun x=>k (.r x)
 | .ptr o off=>fcN o fun o=>fcN off fun off=>k (.ptr o off)
 | .eptr t g off=>k (.eptr t g off)
 | .tup l=>fcXs l fun l=>k (.tup l)
 | .skip=>k .skip
 | .bad=>k .bad
def fcO:List (Nat×TypeId×List CV)→(List (Nat×TypeId×List CV)→Prop)→Prop
 | [],k=>k []
 | (v,e,cs)::l,k=>fcN v fun v=>fcL cs fun cs=>fcO l fun l=>k ((v,e,cs)::l)
def fcT (st:TS)(k:TS→Prop):Prop:=match st with
 | ⟨n,l⟩=>fcN n fun n=>fcO l fun l=>k ⟨n,l⟩
theorem fcN_eq{n:Nat}{k:Nat→Prop}:fcN n k=k n:=by cases n<;>rfl
theorem fcV_eq{v:Value}{k:Value→Prop}:fcV v k=k v:=by
 cases v with
 | bool b=>cases b<;>rfl
 | _=>rfl
theorem fcS_eq{x:SV}{k:SV→Prop}:fcS x k=k x:=by
 cases x with
 | sc v=>simp only[fcS,fcV_eq]
 | row=>rfl
theorem fcC_eq{x:CV}{k:CV→Prop}:fcC x k=k x:=by
 cases x with
 | s x=>simp only[fcC,fcS_eq]
 | own=>simp only[fcC,fcN_eq]
 | bad=>rfl
theorem fcL_eq : ∀ {l:List CV} {k:List CV→Prop},fcL l k=k l
 | [],_=>rfl
 | x::l,k=>by simp only[fcL,fcC_eq,fcL_eq]
theorem fcX_eq{x:RV}{k:RV→Prop}:fcX x k=k x:=by
 cases x with
 | c x=>simp only[fcX,fcC_eq]
 | agg cs=>simp only[fcX,fcL_eq]
theorem fcXs_eq : ∀ {l:List RV} {k:List RV→Prop},fcXs l k=k l
 | [],_=>rfl
 | x::l,k=>by simp only[fcXs,fcX_eq,fcXs_eq]
theorem fcA_eq{a:AV}{k:AV→Prop}:fcA a k=k a:=by
 cases a with
 | r x=>simp only[fcA,fcX_eq]
 | ptr o off=>simp only[fcA,fcN_eq]
 | tup l=>simp only[fcA,fcXs_eq]
 | _=>rfl
theorem fcO_eq : ∀ {l:List (Nat×TypeId×List CV)} {k:List (Nat×TypeId×List CV)→Prop},fcO l k=k l
 | [],_=>rfl
 | (v,e,cs)::l,k=>by simp only[fcO,fcN_eq,fcL_eq,fcO_eq]
theorem fcT_eq{st:TS}{k:TS→Prop}:fcT st k=k st:=by
 obtain⟨n,l⟩:=st
 simp only[fcT,fcN_eq,fcO_eq]
def twO (Z:TP)(T:Tbl)(X:Pan)(D:TD)(op:ROp)(fr:TFr)(st:TS)(k:AV→TFr→TS→Prop)(R:Value→Prop):Prop:=twO0 Z T X D op fr st (fun a f s=>fcA a fun a=>fcT s fun s=>k a f s) R
theorem twO_eq{Z:TP}{T:Tbl}{X:Pan}{D:TD}{op:ROp}{fr:TFr}{st:TS}{k:AV→TFr→TS→Prop}{R:Value→Prop}:twO Z T X D op fr st k R=twO0 Z T X D op fr st k R:=by
 unfold twO
 congr 1
 funext a f s
 rw[fcA_eq,fcT_eq]
def fcRs:List Rec→(List Rec→Prop)→Prop
 | [],k=>k []
 | ⟨d,o,off,v⟩::l,k=>fcN o fun o=>fcN off fun off=>fcN v fun v=>fcRs l fun l=>k (⟨d,o,off,v⟩::l)
theorem fcRs_eq : ∀ {l:List Rec} {k:List Rec→Prop},fcRs l k=k l
 | [],_=>rfl
 | ⟨d,o,off,v⟩::l,k=>by simp only[fcRs,fcN_eq,fcRs_eq]
def eqB (c b:Bool):Bool:=match b with
 | true=>c
 | false=> !c
def grdT (fr:TFr)(g:Option (Nat×Bool))(yes no:Prop):Prop:=match g with
 | none=>yes
 | some (s,b)=>match fr s with
   | .r (.c (.s (.sc (.bool c))))=>ifT (eqB c b) yes no
   | .skip=>no
   | _=>False
def twI (Z:TP)(T:Tbl)(X:Pan)(D:TD)(R:Value→Prop):List Item→TFr→TS→(TFr→TS→Prop)→Prop
 | [],fr,st,k=>k fr st
 | it::r,fr,st,k=>grdT fr it.guard (twO Z T X D it.op fr st (fun a fr1 st1=>twI Z T X D R r (putA fr1 it.dst a) st1 k) R) (twI Z T X D R r (putA fr it.dst .skip) st k)
def recX (fr:TFr)(st:TS)(d:Nat)(x:Operand):List Rec:=match tev fr x with
 | .ptr o off=>match st.obs[o]? with
   | some (v,_,_)=> [⟨d,o,off,v⟩]
   | none=> []
 | _=> []
def recOf(fr:TFr)(st:TS)(it:Item):List Rec:=match it.op,it.dst with
 | .l (.ld x),some d=>recX fr st d x
 | .l (.lda _ x),some d=>recX fr st d x
 | _,_=> []
def twZ:List Item→TFr→TS→Prop
 | [],_,_=>True
 | it::r,fr,st=>grdT fr it.guard (match it.op with
   | .p x=>tpopK fr (fun a=>twZ r (putA fr it.dst a) st) x
   | .l x=>optT (tlop fr st x) fun a=>twZ r (putA fr it.dst a) st
   | _=>False) (twZ r (putA fr it.dst .skip) st)
def panQ (q:Option (List Item))(fr:TFr)(st:TS)(R:Value→Prop):Value→Prop:=match q with
 | some Zl=>fun v=>twZ Zl fr st∧R v
 | none=>fun _=>False
def nxQ (q:Option (List Item))(op:ROp):Option (List Item):=match isQ op with
 | true=>q
 | false=>none
def addB (b:Bool)(s:TS)(l:List TS):List TS:=match b with
 | true=>s::l
 | false=>l
def twD (Z:TP)(T:Tbl)(X:Pan)(D:TD)(R:Value→Prop):Option (List Item)→List Item→TFr→TS→(TFr→TS→List TS→List Rec→Prop)→Prop
 | _,[],fr,st,k=>k fr st [] []
 | q,it::r,fr,st,k=>grdT fr it.guard (twO Z T X D it.op fr st (fun a fr1 st1=>fcRs (recOf fr st it) fun rc=>twD Z T X D R (nxQ q it.op) r (putA fr1 it.dst a) st1 fun f s l c=>k f s (addB (isW it.op) st1 l) (rc++c)) (panQ q fr st R))
    (twD Z T X D R (nxQ q it.op) r (putA fr it.dst .skip) st fun f s l c=>k f s (addB (isW it.op) st l) c)
def rdX:ROp→Option Operand
 | .l (.ld x)=>some x
 | .l (.lda _ x)=>some x
 | _=>none
def findR(d:Nat):List Rec→Option Rec
 | []=>none
 | r::c=>match Nat.beq r.d d with
   | true=>some r
   | false=>findR d c
theorem findR_ok{d:Nat}{rc:Rec} : ∀ {c:List Rec},findR d c=some rc→rc∈c∧rc.d=d
 | [],h=>by cases h
 | r::c,h=>by
   simp only[findR] at h
   split at h
   ·rename_i hb;cases h;exact⟨by simp,Nat.eq_of_beq_eq_true hb⟩
   ·obtain⟨h1,h2⟩:=findR_ok h;exact⟨by simp[h1],h2⟩
def verB (s:TS)(o v:Nat):Bool:=match s.obs[o]? with
 | some (v',_,_)=>Nat.beq v' v
 | none=>false
def recB (a:AV)(r:Option Rec)(s:TS):Bool:=match a,r with
 | .ptr o off,some r=>Nat.beq r.o o&&(Nat.beq r.off off&&verB s o r.ver)
 | _,_=>false
def cntD (d:Nat):List Item→Nat
 | []=>0
 | it::r=>match it.dst with
   | some e=>match Nat.beq e d with
     | true=>cntD d r+1
     | false=>cntD d r
   | none=>cntD d r
def chkT (fr:TFr)(S:List TS)(c:List Rec)(its:List Item)(p:Item×Nat)(k:Prop):Prop:=match S[p.2]? with
 | none=>False
 | some s=>grdT fr p.1.guard
   (match rdX p.1.op,p.1.dst with
     | some x,some d=>its.filter (fun i=>decide (i.dst=some d))= [p.1]∧match recB (tev fr x) (findR d c) s with
       | true=>k
       | false=>False
     | _,_=>False) k
def chkL (fr:TFr)(S:List TS)(c:List Rec)(its:List Item)(k:Prop):List (Item×Nat)→Prop
 | []=>k
 | p::r=>chkT fr S c its p (chkL fr S c its k r)
variable {T:Tbl} {X:Pan} {Z:TP} {D:TD} {K0 K K' K'':CH} {sp:Option Nat} {st st' st'' st1:TS} {fr fr1:TFr} {cfr:Fr} {E E' E'':TE}
theorem grd_rel(h:TR Z K0 sp K st fr cfr E){g:Option (Nat×Bool)}{yes no:Prop}(hg:grdT fr g yes no):(wantedF cfr g=some true∧yes)∨(wantedF cfr g=some false∧no):=by
 unfold grdT at hg
 split at hg
 ·exact .inl ⟨rfl,hg⟩
 ·rename_i s b
  have hr:=h.frm s
  split at hg
  ·rename_i c e
   have:=raw_rel hr (by rw[e];rfl)
   unfold ifT at hg
   split at hg
   ·rename_i hc
    refine .inl ⟨?_,hg⟩
    cases b<;>cases c<;>first | (simp only[wantedF,this];rfl) | (simp[eqB] at hc)
   ·rename_i hc
    refine .inr ⟨?_,hg⟩
    cases b<;>cases c<;>first | (simp only[wantedF,this];rfl) | (simp[eqB] at hc)
  ·rename_i e
   rw[e] at hr
   cases hv:cfr s with
   | _=>rw[hv] at hr;cases hr;try exact .inr ⟨by simp only[wantedF,hv],hg⟩
  ·exact hg.elim
theorem TR.put(h:TR Z K0 sp K st fr cfr E){d:Option Nat}{a:AV}{v:Value}(ha:AVR K E a v):TR Z K0 sp K st (putA fr d a) (putF cfr d v) E:=⟨h.nx,h.keep,h.prot,h.hid,h.sig,h.inj,h.sr,h.rho,h.rinj,h.obs,fun t=>by
 cases d with
 | none=>exact h.frm t
 | some d=>
   rw[putA_if]
   show AVR K E (if t=d then a else fr t) (if t=d then v else cfr t)
   split
   ·exact ha
   ·exact h.frm t⟩
theorem row_len{a:AV}{v:Value}(h:AVR K E a v){t z:Option Nat}{gs:List (List SV)}(hr:a.rowOf=some (t,z,gs)):gs.length≤maxLen:=by
 rcases row_rel h hr with ⟨rfl,_⟩ | ⟨h1,_⟩
 ·exact Nat.zero_le _
 ·exact h1.2
theorem tpopK_ok(hf : ∀t,AVR K E (fr t) (cfr t)){k:AV→Prop}{x:POp}(h:tpopK fr k x) : ∃a,tpop fr x=some a∧k a:=by
 unfold tpopK at h
 split at h
 ·rename_i x i sz
  split at h
  ·rename_i t z gs kk j e1 e2
   obtain⟨h1,n,g,rfl,h2,h3⟩:=h
   refine⟨_,?_,h3⟩
   simp only[tpop,e1,e2]
   rw[if_pos ⟨h1,by omega⟩,Int.toNat_natCast,h2];rfl
  ·exact h.elim
 ·rename_i x
  have hx:=tev_rel hf x
  split at h
  ·rename_i sz gs e
   rw[e] at hx
   exact⟨iS gs.length,by simp only[tpop,e];rfl,h (row_len (t:=none) (z:=some sz) hx rfl)⟩
  ·rename_i t e' sz gs e
   rw[e] at hx
   exact⟨iS gs.length,by simp only[tpop,e];rfl,h (row_len (t:=some t) (z:=some sz) hx rfl)⟩
  ·unfold optT at h
   split at h
   ·rename_i a e;exact⟨a,by simp only[tpop];exact e,h⟩
   ·exact h.elim
 ·unfold optT at h
  split at h
  ·rename_i a e;exact⟨a,e,h⟩
  ·exact h.elim
theorem twopK_ok{k:AV→TFr→TS→Prop}{x:WOp}(h:twopK fr st k x) : ∃a fr1 st1,twop fr st x=some (a,fr1,st1)∧k a fr1 st1:=by
 unfold twopK at h
 split at h
 ·rename_i e sz bytes s x
  split at h
  ·rename_i o gs t z hs e1 e2
   split at h
   ·rename_i b1 b2
    obtain⟨⟨h1,h2⟩,h3⟩:=h
    rw[kilK_eq] at h3
    refine⟨_,_,_,?_,h3⟩
    simp only[twop,e1,e2]
    rw[if_pos ⟨growB_ok b1,srcB_ok b2,h1,h2⟩]
   ·exact h.elim
  ·exact h.elim
 ·unfold optS at h
  split at h
  ·rename_i a fr1 st1 e;exact⟨a,fr1,st1,e,h⟩
  ·exact h.elim
theorem twO_sound(hD:TDOk T D)(h:TR Z K0 sp K st fr cfr E){op:ROp}{k:AV→TFr→TS→Prop}{R:Value→Prop}(hk:twO Z T X D op fr st k R):WxO T X cfr K op (fun v K1=>∃a fr1 st1 E1,TR Z K0 sp K1 st1 fr1 cfr E1∧AVR K1 E1 a v∧Stp K st E K1 st1 E1∧k a fr1 st1) (PX K0 sp R):=by
 rw[twO_eq] at hk
 cases op with
 | p x=>
   left
   rw[wpO_p]
   obtain⟨a,e,hk⟩:=tpopK_ok h.frm (k:=fun a=>k a fr st) hk
   obtain⟨v,q1,q2⟩:=tpop_sound h.frm e
   exact⟨v,q1,a,fr,st,E,h,q2,Stp.refl,hk⟩
 | l x=>
   left
   rw[wpO_l]
   simp only[twO0,optT] at hk
   split at hk
   ·rename_i a e
    obtain⟨v,q1,q2⟩:=tlop_sound h e
    exact⟨v,q1,a,fr,st,E,h,q2,Stp.refl,hk⟩
   ·exact hk.elim
 | a x=>
   left
   rw[wpO_a]
   obtain⟨a,fr1,st1,e,hk⟩:=taopK_ok hk
   obtain⟨cs,e,kd,mk,E1,q1,q2,q3,q4⟩:=taop_sound h e
   exact⟨cs,e,kd,mk,q1,a,fr1,st1,E1,q2,q3,q4,hk⟩
 | w x=>
   left
   rw[wpO_w]
   obtain⟨a,fr1,st1,e,hk⟩:=twopK_ok hk
   obtain⟨v,K1,E1,q1,q2,q3,q4⟩:=twop_sound h e
   exact⟨v,K1,q1,a,fr1,st1,E1,q2,q3,q4,hk⟩
 | call f args=>
   simp only[twO0,callO] at hk
   split at hk
   ·rename_i hf
    left
    rw[wpO_call]
    exact nodeC_sound hD h hf hk
   ·rcases callT_sound h hk with g | g
    ·left;rw[wpO_call];exact g
    ·exact .inr ⟨f,args,rfl,g⟩
 | callv g args=>exact hk.elim
theorem WxI.mono{its:List Item}{fr:Fr}{H:CH}{K K':Fr→CH→Prop}{R:Value→CH→Prop}(h:WxI T X its fr H K R)(hk : ∀f H,K f H→K' f H):WxI T X its fr H K' R:=by
 rcases h with ⟨n,f,H',h1,h2⟩ | h
 ·exact .inl ⟨n,f,H',h1,hk _ _ h2⟩
 ·exact .inr h
theorem twI_sound(hD:TDOk T D){R:Value→Prop} : ∀ {its:List Item} {K:CH} {st:TS} {fr:TFr} {cfr:Fr} {E:TE} {k:TFr→TS→Prop},TR Z K0 sp K st fr cfr E→twI Z T X D R its fr st k→WxI T X its cfr K (fun cfr' K'=>∃fr' st' E',TR Z K0 sp K' st' fr' cfr' E'∧Stp K st E K' st' E'∧k fr' st') (PX K0 sp R)
 | [],K,st,fr,cfr,E,k,h,hk=> .inl (wpI_nil.2 ⟨fr,st,E,h,Stp.refl,hk⟩)
 | it::r,K,st,fr,cfr,E,k,h,hk=>by
   obtain⟨d,op,g⟩:=it
   rcases grd_rel h hk with ⟨q,hk⟩ | ⟨q,hk⟩
   ·refine wxI_cons q ?_
    rcases twO_sound hD h hk with ⟨n,v,K1,w1,a,fr1,st1,E1,t1,t2,t3,t4⟩ | hp
    ·left
     refine⟨n,v,K1,w1,?_⟩
     exact(twI_sound hD (its:=r) (t1.put (d:=d) t2) t4).mono fun f' K' ⟨fr',st',E',z2,z3,z4⟩=>⟨fr',st',E',z2,t3.trans z3,z4⟩
    ·exact .inr hp
   ·refine wxI_skip q ?_
    exact(twI_sound hD (its:=r) (h.put (d:=d) (a:= .skip) (v:=skipV) .skip) hk).mono fun f' K' ⟨fr',st',E',z2,z3,z4⟩=>⟨fr',st',E',z2,z3,z4⟩
def rdV (op:ROp)(ob:CObj)(off:Nat):Option Value:=match op,ob with
 | .l (.ld _), .cells cs _ _=>cs[off]?
 | .l (.lda n _), .cells cs _ _=>if off+n≤cs.length then some (.agg ((cs.drop off).take n).toArray) else none
 | _,_=>none
theorem rdV_lop{op:ROp}{x:Operand}(hx:rdX op=some x){ev:Operand→Value}{b off:Nat}(hv:ev x= .pointer (some ⟨b,off,none⟩)){G:CH} : ∃y,op= .l y∧lop G ev y=rdV op (G.ob b) off:=by
 unfold rdX at hx
 split at hx
 ·cases hx
  refine⟨_,rfl,?_⟩
  simp only[lop,hv,rdV]
  cases G.ob b<;>rfl
 ·cases hx
  refine⟨_,rfl,?_⟩
  simp only[lop,hv,rdV]
  cases G.ob b<;>rfl
 ·cases hx
structure RecR(st:TS)(E':TE)(its:List Item)(cfr':Fr)(L:List (CH×TS))(r:Rec):Prop where
 h : ∃b x it ob,it∈its∧it.dst=some r.d∧rdX it.op=some x∧E'.ρ r.o=some b∧(∀v e cs,st.obs[r.o]? = some (v,e,cs)→v≤r.ver)∧(∀it0,its.filter (fun i=>decide (i.dst=some r.d))= [it0]→rdV it.op ob r.off=some (cfr' r.d))∧∀p∈L,∀e cs,p.2.obs[r.o]? = some (r.ver,e,cs)→p.1.ob b=ob
theorem twZ_sound : ∀ {its:List Item} {fr:TFr} {cfr:Fr},TR Z K0 sp K st fr cfr E→twZ its fr st→∃n r,runI (evH T n) its cfr K=some r
 | [],fr,cfr,h,hk=>⟨0,_,rfl⟩
 | it::r,fr,cfr,h,hk=>by
   obtain⟨d,op,g⟩:=it
   rcases grd_rel h hk with ⟨q,hk⟩ | ⟨q,hk⟩
   ·simp only at hk
    cases op with
    | p x=>
      obtain⟨a,e,hk⟩:=tpopK_ok h.frm hk
      obtain⟨v,q1,q2⟩:=tpop_sound h.frm e
      obtain⟨n,r',hr⟩:=twZ_sound (its:=r) (h.put (d:=d) q2) hk
      exact⟨n,r',by simp only[runI,stepI,q,rop,q1,Option.map_some];exact hr⟩
    | l x=>
      simp only[optT] at hk
      split at hk
      ·rename_i a e
       obtain⟨v,q1,q2⟩:=tlop_sound h e
       obtain⟨n,r',hr⟩:=twZ_sound (its:=r) (h.put (d:=d) q2) hk
       exact⟨n,r',by simp only[runI,stepI,q,rop,q1,Option.map_some];exact hr⟩
      ·exact hk.elim
    | _=>exact hk.elim
   ·obtain⟨n,r',hr⟩:=twZ_sound (its:=r) (h.put (d:=d) (a:= .skip) (v:=skipV) .skip) hk
    exact⟨n,r',by simp only[runI,stepI,q];exact hr⟩
theorem twD_sound(hD:TDOk T D){R:Value→Prop} : ∀ {pq:Option (List Item)} {its:List Item} {K:CH} {st:TS} {fr:TFr} {cfr:Fr} {E:TE} {k:TFr→TS→List TS→List Rec→Prop},TR Z K0 sp K st fr cfr E→twD Z T X D R pq its fr st k→(∃n v H',pq.isSome=true∧PanI T X n pq its cfr K v H'∧PX K0 sp R v H')∨WpD T its cfr K fun cfr' K' L=>∃fr' st' E' P C,TR Z K0 sp K' st' fr' cfr' E'∧Stp K st E K' st' E'∧k fr' st' (P.map Prod.snd) C∧L=P.map Prod.fst∧(∀p∈P,∃Ep,Stp K st E p.1 p.2 Ep)∧(∀r∈C,RecR st E' its cfr' ((K,st)::P) r)∧∀t,(∀i∈its,i.dst≠some t)→cfr' t=cfr t
 | pq,[],K,st,fr,cfr,E,k,h,hk=> .inr <| wpD_nil.2 ⟨fr,st,E,[],[],h,Stp.refl,hk,rfl,(fun _ q=>(by cases q)),(fun _ q=>(by cases q)),fun _ _=>rfl⟩
 | pq,it::r,K,st,fr,cfr,E,k,h,hk=>by
   obtain⟨d,op,g⟩:=it
   have hput : ∀ {cfr':Fr} {v:Value},(∀t,(∀i∈r,i.dst≠some t)→cfr' t=putF cfr d v t)→∀t,(∀i∈(⟨d,op,g⟩:Item)::r,i.dst≠some t)→cfr' t=cfr t:=fun {cfr' v} hq t ht=>by
    rw[hq t fun i hi=>ht i (by simp[hi])]
    have:=ht ⟨d,op,g⟩ (by simp)
    cases d with
    | none=>rfl
    | some d=>exact if_neg fun e=>this (by rw[e])
   rcases grd_rel h hk with ⟨q,hk⟩ | ⟨q,hk⟩
   ·rcases twO_sound hD h hk with ⟨n,v,K1,w1,a,fr1,st1,E1,t1,t2,t3,t4⟩ | ⟨f,args,e1,n,v,H',p1,p2⟩
    rotate_left
    ·cases pq with
     | some Zl=>exact .inl ⟨n,v,H',rfl,panI_here q e1 (fun Zl' e=>by cases e;exact twZ_sound h p2.2.2.1) p1,p2.1,p2.2.1,p2.2.2.2⟩
     | none=>exact p2.2.2.elim
    rw[fcRs_eq] at t4
    rcases twD_sound hD (its:=r) (t1.put (d:=d) t2) t4 with ⟨m,u,H',p0,p1,p2⟩ | hr
    ·unfold nxQ at p0 p1
     split at p0
     ·rename_i hop
      rw[hop] at p1
      exact .inl ⟨m,u,H',p0,panI_cons (m:=n) (by simp only[stepI,q,w1];rfl) (fun _ _=>hop) p1,p2⟩
     ·cases p0
    right
    rw[wpD_cons]
    simp only[q]
    refine⟨n,v,K1,w1,?_⟩
    obtain⟨n',f',K',L,z1,fr',st',E',P,C,z2,z3,z4,z5,z6,z7,z8⟩:=hr
    have hP : ∃P':List (CH×TS),addB (isW op) st1 (P.map Prod.snd)=P'.map Prod.snd∧(if isW op=true then K1::L else L)=P'.map Prod.fst∧∀p∈P',p=(K1,st1)∨p∈P:=by
     by_cases hw:isW op=true
     ·exact⟨(K1,st1)::P,by rw[hw];rfl,by rw[if_pos hw,z5];rfl,fun p hp=>by simpa using hp⟩
     ·exact⟨P,by rw[Bool.not_eq_true] at hw;rw[hw];rfl,by rw[if_neg hw,z5],fun p hp=> .inr hp⟩
    obtain⟨P',p1,p2,p3⟩:=hP
    have hstp : ∀p∈P',∃Ep,Stp K st E p.1 p.2 Ep:=fun p hp=>by
     rcases p3 p hp with rfl | hp
     ·exact⟨E1,t3⟩
     ·obtain⟨Ep,k1⟩:=z6 p hp;exact⟨Ep,t3.trans k1⟩
    refine⟨n',f',K',L,z1,fr',st',E',P',recOf fr st ⟨d,op,g⟩++C,z2,t3.trans z3,by rw[←p1];exact z4,p2,hstp,fun rc hrc=> ?_,hput z8⟩
    rcases List.mem_append.1 hrc with hrc | hrc
    ·
     have key : ∀x d',rdX op=some x→d=some d'→rc∈recX fr st d' x→RecR st E' (⟨d,op,g⟩::r) f' ((K,st)::P') rc:=fun x d' hx hd hrx=>by
      subst hd
      unfold recX at hrx
      split at hrx
      ·rename_i o off he
       split at hrx
       ·rename_i ver ty cs ho
        obtain rfl:=List.mem_singleton.1 hrx
        have hr:=tev_rel h.frm x
        rw[he] at hr
        obtain⟨b,hb,hv⟩:=hr.ptr_inv
        refine⟨b,x,⟨some d',op,g⟩,K.ob b,by simp,rfl,hx,z3.rho o b (t3.rho o b hb),fun v' e' cs' q=>by rw[ho] at q;cases q;exact Nat.le_refl _,fun it0 hf=> ?_,fun p hp e' cs' q=> ?_⟩
        ·have hf2:r.filter (fun i=>decide (i.dst=some d'))= []:=by
          rw[List.filter_cons_of_pos (by simp)] at hf
          exact(List.cons.inj hf).2
         have hcf:f' d'=v:=by
          rw[z8 d' fun i hi e=>by
           have:i∈r.filter (fun i=>decide (i.dst=some d')):=List.mem_filter.2 ⟨hi,by simpa using e⟩
           rw[hf2] at this;cases this]
          exact if_pos rfl
         show rdV op (K.ob b) off=some (f' d')
         rw[hcf]
         obtain⟨y,rfl,hy⟩:=rdV_lop hx hv (G:=K)
         obtain⟨_,w2⟩:=(wpO_l (K:=fun v' K'=>v'=v)).1 ⟨n,v,K1,w1,rfl⟩
         rw[←hy];rw[w2.2] at w2;exact w2.1
        ·rcases List.mem_cons.1 hp with rfl | hp
         ·rfl
         ·obtain⟨Ep,k1⟩:=hstp p hp
          obtain⟨v2,cs2,g1,g2,g3⟩:=k1.ver o _ _ _ ho
          rw[g1] at q;cases q
          exact g3 rfl b hb
       ·cases hrx
      ·cases hrx
     unfold recOf at hrc
     split at hrc
     ·rename_i x d' e1 e2
      have e1:op= .l (.ld x):=e1
      exact key x d' (by rw[e1];rfl) e2 hrc
     ·rename_i m x d' e1 e2
      have e1:op= .l (.lda m x):=e1
      exact key x d' (by rw[e1];rfl) e2 hrc
     ·cases hrc
    ·
     obtain⟨b,x,it,ob,r1,r2,r3,r4,r5,r6,r7⟩:=(z7 rc hrc).h
     have hle : ∀v e cs,st.obs[rc.o]? = some (v,e,cs)→v≤rc.ver:=fun v e cs q=>by
      obtain⟨v2,cs2,g1,g2,g3⟩:=t3.ver _ _ _ _ q
      exact Nat.le_trans g2 (r5 _ _ _ g1)
     refine⟨b,x,it,ob,by simp[r1],r2,r3,r4,hle,fun it0 hf=> ?_,fun p hp e' cs' q=> ?_⟩
     ·by_cases hd:d=some rc.d
      ·rw[List.filter_cons_of_pos (by simpa using hd)] at hf
       have hf2:=(List.cons.inj hf).2
       have:it∈r.filter (fun i=>decide (i.dst=some rc.d)):=List.mem_filter.2 ⟨r1,by simpa using r2⟩
       rw[hf2] at this;cases this
      ·rw[List.filter_cons_of_neg (by simpa using hd)] at hf
       exact r6 it0 hf
     ·rcases List.mem_cons.1 hp with rfl | hp
      ·obtain⟨v2,cs2,g1,g2,g3⟩:=t3.ver _ _ _ _ q
       have:=r5 _ _ _ g1
       have hv2:v2=rc.ver:=by omega
       subst hv2
       have k1:=r7 (K1,st1) (by simp) _ _ g1
       obtain⟨bb,os,h1,h2,h3⟩:=h.obs _ _ _ _ q
       have:bb=b:=by
        have:=z3.rho _ _ (t3.rho _ _ h1)
        rw[r4] at this;cases this;rfl
       subst this
       exact(g3 rfl bb h1).symm.trans k1
      ·rcases p3 p hp with rfl | hp
       ·exact r7 _ (by simp) e' cs' q
       ·exact r7 p (by simp[hp]) e' cs' q
   ·rcases twD_sound hD (its:=r) (h.put (d:=d) (a:= .skip) (v:=skipV) .skip) hk with ⟨m,u,H',p0,p1,p2⟩ | hr
    ·unfold nxQ at p0 p1
     split at p0
     ·rename_i hop
      rw[hop] at p1
      exact .inl ⟨m,u,H',p0,panI_cons (m:=0) (by simp only[stepI,q]) (fun _ _=>hop) p1,p2⟩
     ·cases p0
    right
    rw[wpD_cons]
    simp only[q]
    obtain⟨n',f',K',L,z1,fr',st',E',P,C,z2,z3,z4,z5,z6,z7,z8⟩:=hr
    have hP : ∃P':List (CH×TS),addB (isW op) st (P.map Prod.snd)=P'.map Prod.snd∧(if isW op=true then K::L else L)=P'.map Prod.fst∧∀p∈P',p=(K,st)∨p∈P:=by
     by_cases hw:isW op=true
     ·exact⟨(K,st)::P,by rw[hw];rfl,by rw[if_pos hw,z5];rfl,fun p hp=>by simpa using hp⟩
     ·exact⟨P,by rw[Bool.not_eq_true] at hw;rw[hw];rfl,by rw[if_neg hw,z5],fun p hp=> .inr hp⟩
    obtain⟨P',p1,p2,p3⟩:=hP
    refine⟨n',f',K',L,z1,fr',st',E',P',C,z2,z3,by rw[←p1];exact z4,p2,fun p hp=> ?_,fun rc hrc=> ?_,hput z8⟩
    ·rcases p3 p hp with rfl | hp
     ·exact⟨E,Stp.refl⟩
     ·exact z6 p hp
    ·obtain⟨b,x,it,ob,r1,r2,r3,r4,r5,r6,r7⟩:=(z7 rc hrc).h
     refine⟨b,x,it,ob,by simp[r1],r2,r3,r4,r5,fun it0 hf=> ?_,fun p hp e' cs' q=> ?_⟩
     ·by_cases hd:d=some rc.d
      ·rw[List.filter_cons_of_pos (by simpa using hd)] at hf
       have hf2:=(List.cons.inj hf).2
       have:it∈r.filter (fun i=>decide (i.dst=some rc.d)):=List.mem_filter.2 ⟨r1,by simpa using r2⟩
       rw[hf2] at this;cases this
      ·rw[List.filter_cons_of_neg (by simpa using hd)] at hf
       exact r6 it0 hf
     ·rcases List.mem_cons.1 hp with rfl | hp
      ·exact r7 _ (by simp) e' cs' q
      ·rcases p3 p hp with rfl | hp
       ·exact r7 _ (by simp) e' cs' q
       ·exact r7 p (by simp[hp]) e' cs' q
structure Stw(st:TS)(E:TE)(st':TS)(E':TE):Prop where
 hid:E'.hid=E.hid
 rho : ∀o b,E.ρ o=some b→E'.ρ o=some b
 typ : ∀(o v:Nat) (e:TypeId) (cs:List CV),st.obs[o]? = some (v,e,cs)→∃v' cs',st'.obs[o]? = some (v',e,cs')
theorem Stw.refl:Stw st E st E:=⟨rfl,fun _ _ h=>h,fun o v e cs h=>⟨v,cs,h⟩⟩
theorem Stw.trans(h:Stw st E st' E')(g:Stw st' E' st'' E''):Stw st E st'' E'':=⟨g.hid.trans h.hid,fun o b q=>g.rho o b (h.rho o b q),fun o v e cs q=>by
 obtain⟨v1,cs1,k1⟩:=h.typ o v e cs q
 exact g.typ o v1 e cs1 k1⟩
theorem Stp.w(h:Stp K st E K' st' E'):Stw st E st' E':=⟨h.hid,h.rho,fun o v e cs q=>by
 obtain⟨v1,cs1,k1,_⟩:=h.ver o v e cs q
 exact⟨v1,cs1,k1⟩⟩
def posN:List Nat→Nat→Option Nat
 | [],_=>none
 | a::l,t=>match Nat.beq a t with
   | true=>some 0
   | false=>match posN l t with
     | some j=>some (j+1)
     | none=>none
theorem posN_ok : ∀ {l:List Nat} {t j:Nat},posN l t=some j→l[j]? = some t
 | [],t,j,h=>by cases h
 | a::l,t,j,h=>by
   simp only[posN] at h
   split at h
   ·rename_i hb;cases h;rw[Nat.eq_of_beq_eq_true hb];rfl
   ·split at h
    ·rename_i j' h';cases h;simpa using posN_ok h'
    ·cases h
def CV.cut(l:List Nat):CV→CV
 | .own t e sz gs=>match posN l t with
   | some j=> .own j e sz gs
   | none=> .s (rowS sz gs)
 | x=>x
def RV.cut(l:List Nat):RV→RV
 | .c x=> .c (x.cut l)
 | .agg cs=> .agg (cs.map (CV.cut l))
def ltB (o k:Nat)(a b:AV):AV:=match Nat.ble k o with
 | true=>b
 | false=>a
def AV.cut(k:Nat)(l:List Nat):AV→AV
 | .r x=> .r (x.cut l)
 | .ptr o off=>ltB o k (.ptr o off) .bad
 | .eptr (some t) g off=>match posN l t with
   | some j=> .eptr (some j) g off
   | none=> .eptr none g off
 | .eptr none g off=> .eptr none g off
 | .tup xs=> .tup (xs.map (RV.cut l))
 | .skip=> .skip
 | .bad=> .bad
def TFr.cut(k:Nat)(l:List Nat)(fr:TFr):TFr:=fun t=>(fr t).cut k l
def TS.cut(k:Nat)(l:List Nat)(st:TS):TS:=⟨l.length,(st.obs.take k).map fun(_,e,cs)=>(0,e,cs.map (CV.cut l))⟩
def TE.cut(k:Nat)(l:List Nat)(E:TE):TE:=⟨fun j=>(l[j]?).bind E.σ,fun o=>if o<k then E.ρ o else none,E.hid⟩
theorem TE.cut_s{k:Nat}{l:List Nat}{j b:Nat}(h:(E.cut k l).σ j=some b) : ∃t,l[j]? = some t∧E.σ t=some b:=by
 have h:(l[j]?).bind E.σ=some b:=h
 cases hj:l[j]? with
 | none=>rw[hj] at h;cases h
 | some t=>rw[hj] at h;exact⟨t,rfl,h⟩
theorem TE.cut_r{k:Nat}{l:List Nat}{o b:Nat}(h:(E.cut k l).ρ o=some b):o<k∧E.ρ o=some b:=by
 have h:(if o<k then E.ρ o else none)=some b:=h
 split at h
 ·rename_i hk;exact⟨hk,h⟩
 ·cases h
theorem frz_cut{k:Nat}{l:List Nat}{b:Nat}(h:Frz K E b):Frz K (E.cut k l) b:=⟨h.1,h.2.1,fun j q=>by
 obtain⟨t,_,q2⟩:=TE.cut_s q
 exact h.2.2.1 t q2,fun o q=>h.2.2.2 o (TE.cut_r q).2⟩
structure SgOk(K:CH)(E:TE):Prop where
 hid : ∀t b,E.σ t=some b→b<K.nx∧¬E.hid b
 inj : ∀t t' b,E.σ t=some b→E.σ t'=some b→t=t'
 sr : ∀t o b,E.σ t=some b→E.ρ o≠some b
theorem posN_none : ∀ {l:List Nat} {t j:Nat},posN l t=none→l[j]? ≠some t
 | [],t,j,h,g=>by simp at g
 | a::l,t,j,h,g=>by
   simp only[posN] at h
   split at h
   ·cases h
   ·rename_i hb
    split at h
    ·cases h
    ·rename_i hp
     cases j with
     | zero=>
       simp at g
       subst g
       have:=Nat.beq_refl a
       rw[hb] at this;cases this
     | succ j=>exact posN_none (j:=j) hp (by simpa using g)
theorem frz_own{k:Nat}{l:List Nat}{t b:Nat}(h:SgOk K E)(hb:E.σ t=some b)(hp:posN l t=none):Frz K (E.cut k l) b:=⟨(h.hid t b hb).1,(h.hid t b hb).2,fun j q=>by
 obtain⟨t',q1,q2⟩:=TE.cut_s q
 have:=h.inj t t' b hb q2
 subst this
 exact posN_none hp q1,fun o q=>h.sr t o b hb (TE.cut_r q).2⟩
theorem CVR.cut(hs:SgOk K E){k:Nat}{l:List Nat}{x:CV}{v:Value}(h:CVR K E x v):CVR K (E.cut k l) (x.cut l) v:=by
 cases h with
 | s h=>exact .s (h.mv fun b hb=>⟨frz_cut hb,rfl⟩)
 | @own0 t sz e=>
   show CVR K _ (match posN l t with | some j=> .own j e sz [] | none=> .s (rowS sz [])) _
   split
   ·exact .own0
   ·exact .s .row0
 | @own t b sz os e kd gs hne hb ho hk hg hv=>
   show CVR K _ (match posN l t with | some j=> .own j e sz gs | none=> .s (rowS sz gs)) _
   split
   ·rename_i j hj
    refine .own hne ?_ ho hk hg (hv.mv fun b hb=>⟨frz_cut hb,rfl⟩)
    show(l[j]?).bind E.σ=some b
    rw[posN_ok hj];exact hb
   ·rename_i hp
    exact .s (.row hne (frz_own hs hb hp) ho hk hg (hv.mv fun b hb=>⟨frz_cut hb,rfl⟩))
 | bad h=>exact .bad h
theorem RVR.cut(hs:SgOk K E){k:Nat}{l:List Nat}{x:RV}{v:Value}(h:RVR K E x v):RVR K (E.cut k l) (x.cut l) v:=by
 cases h with
 | c h=>exact .c (h.cut hs)
 | agg h=>exact .agg (h.map fun _ _ q=>q.cut hs)
theorem AVR.cut(hg:SgOk K E){k:Nat}{l:List Nat}{x:AV}{v:Value}(h:AVR K E x v):AVR K (E.cut k l) (x.cut k l) v:=by
 cases h with
 | r h=>exact .r (h.cut hg)
 | @ptr o off b h=>
   show AVR K _ (ltB o k (.ptr o off) .bad) _
   unfold ltB
   split
   ·exact .bad
   ·rename_i hk
    refine .ptr ?_
    show(if o<k then E.ρ o else none)=some b
    rw[if_pos (by
     rcases Nat.lt_or_ge o k with g | g
     ·exact g
     ·rw[Nat.ble_eq_true_of_le g] at hk;cases hk)]
    exact h
 | @eptr t g off b base os e kd hb ho hl hs=>
   cases t with
   | none=>exact .eptr (t:=none) (frz_cut hb) ho hl (hs.mono fun _ _ q=>q.mv fun b hb=>⟨frz_cut hb,rfl⟩)
   | some t=>
     show AVR K _ (match posN l t with | some j=> .eptr (some j) g off | none=> .eptr none g off) _
     split
     ·rename_i j hj
      refine .eptr (t:=some j) ?_ ho hl (hs.mono fun _ _ q=>q.mv fun b hb=>⟨frz_cut hb,rfl⟩)
      show(l[j]?).bind E.σ=some b
      rw[posN_ok hj];exact hb
     ·rename_i hp
      exact .eptr (t:=none) (frz_own hg hb hp) ho hl (hs.mono fun _ _ q=>q.mv fun b hb=>⟨frz_cut hb,rfl⟩)
 | tup h=>exact .tup (h.map fun _ _ q=>q.cut hg)
 | skip=>exact .skip
 | bad=>exact .bad
def nodupB:List Nat→Bool
 | []=>true
 | a::l=>match posN l a with
   | some _=>false
   | none=>nodupB l
theorem posN_some : ∀ {l:List Nat} {t j:Nat},l[j]? = some t→∃i,posN l t=some i
 | [],t,j,h=>by simp at h
 | a::l,t,j,h=>by
   simp only[posN]
   cases hb:Nat.beq a t with
   | true=>exact⟨0,rfl⟩
   | false=>
     cases j with
     | zero=>
       simp at h
       subst h
       have:=Nat.beq_refl a
       rw[hb] at this;cases this
     | succ j=>
       obtain⟨i,hi⟩:=posN_some (l:=l) (t:=t) (j:=j) (by simpa using h)
       exact⟨i+1,by simp only[hi]⟩
theorem nodupB_ok : ∀ {l:List Nat},nodupB l=true→∀ {i j t:Nat},l[i]? = some t→l[j]? = some t→i=j
 | [],_,i,j,t,h,_=>by simp at h
 | a::l,hn,i,j,t,h,g=>by
   simp only[nodupB] at hn
   split at hn
   ·cases hn
   ·rename_i hp
    cases i with
    | zero=>
      cases j with
      | zero=>rfl
      | succ j=>
        simp at h g;subst h
        obtain⟨i,hi⟩:=posN_some g
        rw[hp] at hi;cases hi
    | succ i=>
      cases j with
      | zero=>
        simp at h g;subst g
        obtain⟨i,hi⟩:=posN_some h
        rw[hp] at hi;cases hi
      | succ j=>exact congrArg (· + 1) (nodupB_ok hn (i:=i) (j:=j) (t:=t) (by simpa using h) (by simpa using g))
theorem TR.cut{k:Nat}{l:List Nat}(h:TR Z K0 sp K st fr cfr E)(hl:nodupB l=true):TR Z K0 sp K (st.cut k l) (fr.cut k l) cfr (E.cut k l):=by
 have hg:SgOk K E:=⟨fun t b q=>⟨(h.sig t b q).2.1,fun hh=>by have:=(h.sig t b q).1;have:=(h.hid b hh).1;omega⟩,h.inj,h.sr⟩
 refine⟨h.nx,h.keep,h.prot,h.hid,fun j b q=> ?_,fun j j' b q q'=> ?_,fun j o b q q'=> ?_,fun o b q=> ?_,fun o o' b q q'=> ?_,fun o v e cs q=> ?_,fun t=>(h.frm t).cut hg⟩
 ·obtain⟨t,q1,q2⟩:=TE.cut_s q
  obtain⟨k1,k2,_⟩:=h.sig t b q2
  exact⟨k1,k2,(List.getElem?_eq_some_iff.1 q1).1⟩
 ·obtain⟨t,q1,q2⟩:=TE.cut_s q
  obtain⟨t',r1,r2⟩:=TE.cut_s q'
  have:=h.inj t t' b q2 r2
  subst this
  exact nodupB_ok hl q1 r1
 ·obtain⟨t,q1,q2⟩:=TE.cut_s q
  exact h.sr t o b q2 (TE.cut_r q').2
 ·obtain⟨q1,q2⟩:=TE.cut_r q
  obtain⟨k1,k2,k3⟩:=h.rho o b q2
  refine⟨k1,k2,?_⟩
  show o<((st.obs.take k).map _).length
  rw[List.length_map,List.length_take];omega
 ·exact h.rinj o o' b (TE.cut_r q).2 (TE.cut_r q').2
 ·have q:((st.obs.take k).map fun(_,e,cs)=>((0:Nat),e,cs.map (CV.cut l)))[o]? = some (v,e,cs):=q
  rw[List.getElem?_map] at q
  cases hq:(st.obs.take k)[o]? with
  | none=>rw[hq] at q;cases q
  | some y=>
    rw[hq] at q
    obtain⟨v1,e1,cs1⟩:=y
    cases q
    have hk:o<k:=by
     have:=(List.getElem?_eq_some_iff.1 hq).1
     rw[List.length_take] at this;omega
    rw[List.getElem?_take_of_lt hk] at hq
    obtain⟨b,os,k1,k2,k3⟩:=h.obs o _ _ _ hq
    exact⟨b,os,by show(if o<k then E.ρ o else none)=some b;rw[if_pos hk];exact k1,k2,k3.map fun _ _ q=>q.cut hg⟩
theorem Stw.cut{l:List Nat}{E0:TE}{st0:TS}(h:Stw st0 E0 st E)(hr : ∀o b,E0.ρ o=some b→o<st0.obs.length):Stw st0 E0 (st.cut st0.obs.length l) (E.cut st0.obs.length l):=⟨h.hid,fun o b q=>by
 show(if o<st0.obs.length then E.ρ o else none)=some b
 rw[if_pos (hr o b q)];exact h.rho o b q,fun o v e cs q=>by
 have ho:=(List.getElem?_eq_some_iff.1 q).1
 obtain⟨v',cs',k1⟩:=h.typ o v e cs q
 refine⟨0,cs'.map (CV.cut l),?_⟩
 show((st.obs.take st0.obs.length).map fun(_,e,cs)=>((0:Nat),e,cs.map (CV.cut l)))[o]? = _
 rw[List.getElem?_map,List.getElem?_take_of_lt ho,k1];rfl⟩
def condT(a:AV)(yes no:Prop):Prop:=match a with
 | .r (.c (.s (.sc (.bool t))))=>ifT t yes no
 | _=>False
def seqT (k:TFr→TS→Prop)(Q:CExit→TFr→TS→Prop):CExit→TFr→TS→Prop:=fun x fr st=>match x with
 | .normal=>k fr st
 | x=>Q x fr st
def sameX(i id:Nat)(a b:Prop):Prop:=match Nat.beq i id with
 | true=>a
 | false=>b
def blockT(id:Nat)(Q:CExit→TFr→TS→Prop):CExit→TFr→TS→Prop:=fun x fr st=>match x with
 | .exit i=>sameX i id (Q .normal fr st) (Q (.exit i) fr st)
 | x=>Q x fr st
def loopT(k:Nat)(I:Nat→TFr→TS→Prop)(n:Nat)(Q:CExit→TFr→TS→Prop):CExit→TFr→TS→Prop:=fun x fr st=>match x with
 | .normal=>∃m l,m<n∧nodupB l=true∧I m (fr.cut k l) (st.cut k l)
 | x=>Q x fr st
def twR (Z:TP)(T:Tbl)(X:Pan)(D:TD)(R:Value→Prop):RCode→TFr→TS→(CExit→TFr→TS→Prop)→Prop
 | .skip,fr,st,Q=>Q .normal fr st
 | .reg its,fr,st,Q=>twI Z T X D R its fr st (Q .normal)
 | .drw d,fr,st,Q=>twD Z T X D R d.pan d.its fr st fun f s l c=>chkL f (st::l) c d.its (Q .normal f s) d.chk
 | .seq a b,fr,st,Q=>twR Z T X D R a fr st (seqT (fun f s=>twR Z T X D R b f s Q) Q)
 | .cond c a b,fr,st,Q=>condT (tev fr c) (twR Z T X D R a fr st Q) (twR Z T X D R b fr st Q)
 | .block id c,fr,st,Q=>twR Z T X D R c fr st (blockT id Q)
 | .loop c,fr,st,Q=>∃(I:Nat→TFr→TS→Prop) (n:Nat) (l:List Nat),nodupB l=true∧I n (fr.cut st.obs.length l) (st.cut st.obs.length l)∧∀n f s,I n f s→twR Z T X D R c f s (loopT st.obs.length I n Q)
 | .exit id,fr,st,Q=>Q (.exit id) fr st
 | .ret,fr,st,Q=>Q .ret fr st
 | _,_,_,_=>False
theorem zip_get{α β:Type}{P:List (α×β)}{i:Nat}{s:β}(h:(P.map Prod.snd)[i]? = some s) : ∃G,P[i]? = some (G,s)∧(P.map Prod.fst)[i]? = some G:=by
 rw[List.getElem?_map] at h
 cases hp:P[i]? with
 | none=>rw[hp] at h;cases h
 | some q=>
   rw[hp] at h
   obtain⟨a,b⟩:=q
   cases h
   exact⟨a,rfl,by rw[List.getElem?_map,hp];rfl⟩
theorem chkL_ok(h:TR Z K0 sp K st fr cfr E){S:List TS}{c:List Rec}{its:List Item}{k:Prop} : ∀ {L:List (Item×Nat)},chkL fr S c its k L→k∧∀p∈L,∃s,S[p.2]? = some s∧(wantedF cfr p.1.guard=some false∨∃x d,rdX p.1.op=some x∧p.1.dst=some d∧its.filter (fun i=>decide (i.dst=some d))= [p.1]∧recB (tev fr x) (findR d c) s=true)
 | [],hk=>⟨hk,fun _ q=>(by cases q)⟩
 | p::L,hk=>by
   have hk:chkT fr S c its p (chkL fr S c its k L):=hk
   unfold chkT at hk
   split at hk
   ·exact hk.elim
   ·rename_i s hs
    rcases grd_rel h hk with ⟨_,hk⟩ | ⟨q,hk⟩
    ·split at hk
     ·rename_i x d e1 e2
      obtain⟨h1,h2⟩:=hk
      split at h2
      ·rename_i hb
       obtain⟨g1,g2⟩:=chkL_ok h h2
       refine⟨g1,fun p' hp=> ?_⟩
       rcases List.mem_cons.1 hp with rfl | hp
       ·exact⟨s,hs, .inr ⟨x,d,e1,e2,h1,hb⟩⟩
       ·exact g2 p' hp
      ·exact h2.elim
     ·exact hk.elim
    ·obtain⟨g1,g2⟩:=chkL_ok h hk
     refine⟨g1,fun p' hp=> ?_⟩
     rcases List.mem_cons.1 hp with rfl | hp
     ·exact⟨s,hs, .inl q⟩
     ·exact g2 p' hp
theorem twR_sound(hD:TDOk T D){R:Value→Prop} : ∀ {c:RCode} {K:CH} {st:TS} {fr:TFr} {cfr:Fr} {E:TE} {Q:CExit→TFr→TS→Prop},TR Z K0 sp K st fr cfr E→twR Z T X D R c fr st Q→WxR T X c cfr K (fun x cfr' K'=>∃fr' st' E',TR Z K0 sp K' st' fr' cfr' E'∧Stw st E st' E'∧Q x fr' st') (PX K0 sp R):=by
 intro c
 induction c with
 | skip=>intro K st fr cfr E Q h hk;exact .inl ⟨0,_,_,_,rfl,fr,st,E,h,Stw.refl,hk⟩
 | reg its=>
   intro K st fr cfr E Q h hk
   exact wxR_reg ((twI_sound hD h hk).mono fun f H ⟨fr',st',E',t1,t2,t3⟩=>⟨fr',st',E',t1,t2.w,t3⟩)
 | drw d=>
   intro K st fr cfr E Q h hk
   rcases twD_sound hD h hk with ⟨n,v,H',hd,⟨A,k,Rr,f,args,fr1,H1,e,h2,h3,h4,h5,h6⟩,p2⟩ | hr
   ·obtain⟨Zl,hd⟩:=Option.isSome_iff_exists.1 hd
    exact .inr ⟨n,v,H', .drw e hd (h2 Zl hd).1 h3 (h2 Zl hd).2 h4 h5 h6,p2⟩
   left
   rw[wpR_drw]
   obtain⟨n',f',K',L,z1,fr',st',E',P,C,z2,z3,z4,z5,z6,z7,z8⟩:=hr
   obtain⟨z4',z4⟩:=chkL_ok z2 z4
   refine⟨n',f',K',L,z1,fun p hp=> ?_,fr',st',E',z2,z3.w,z4'⟩
   obtain⟨s,e3,hc⟩:=z4 p hp
   rcases hc with q | ⟨x,d',e1,e2,c1,c2⟩
   rotate_left
   ·obtain⟨G,g1,g2⟩:=zip_get (P:=(K,st)::P) (i:=p.2) (s:=s) e3
    refine⟨G,by rw[z5];exact g2, .inr ?_⟩
    unfold recB at c2
    split at c2
    ·rename_i o off rc e4 e5
     simp only[Bool.and_eq_true] at c2
     have h1:=Nat.eq_of_beq_eq_true c2.1
     have h2:=Nat.eq_of_beq_eq_true c2.2.1
     have h3:=c2.2.2
     obtain⟨hrc,hrd⟩:=findR_ok e5
     obtain⟨b,x',it,ob,r1,r2,r3,r4,r5,r6,r7⟩:=(z7 rc hrc).h
     have hit:it=p.1:=by
      have:it∈d.its.filter (fun i=>decide (i.dst=some d')):=List.mem_filter.2 ⟨r1,by rw[←hrd];simpa using r2⟩
      rw[c1] at this
      exact List.mem_singleton.1 this
     subst hit
     rw[r3] at e1;cases e1
     have hr:=tev_rel z2.frm x
     rw[e4] at hr
     obtain⟨b',hb',hv⟩:=hr.ptr_inv
     have:b'=b:=by rw[←h1] at hb';rw[r4] at hb';cases hb';rfl
     subst this
     obtain⟨y,hy1,hy2⟩:=rdV_lop r3 hv (G:=G)
     refine⟨y,d',hy1,e2,?_⟩
     have hver : ∃e cs,s.obs[rc.o]? = some (rc.ver,e,cs):=by
      unfold verB at h3
      rw[h1]
      split at h3
      ·rename_i v e cs hs;exact⟨e,cs,by rw[hs,Nat.eq_of_beq_eq_true h3]⟩
      ·cases h3
     obtain⟨e,cs,hver⟩:=hver
     have:=r7 (G,s) (List.mem_of_getElem? g1) e cs hver
     rw[hy2]
     show rdV p.1.op (G.ob b') off=_
     rw[show G.ob b'=ob from this,←h2,←hrd]
     exact r6 p.1 (by rw[hrd];exact c1)
    ·cases c2
   ·have hl:p.2<(K::L).length:=by
     rw[z5]
     have:=(List.getElem?_eq_some_iff.1 e3).1
     simpa using this
    exact⟨_,List.getElem?_eq_getElem hl, .inl q⟩
 | seq a b iha ihb=>
   intro K st fr cfr E Q h hk
   refine wxR_seq ((iha h hk).mono (fun x f K' ⟨fr',st',E',t1,t2,t3⟩=> ?_) fun _ _ h=>h)
   cases x with
   | normal=>
     refine(ihb t1 t3).mono (fun x f K' ⟨fr'',st'',E'',s1,s2,s3⟩=>⟨fr'',st'',E'',s1,t2.trans s2,s3⟩) fun _ _ h=>h
   | exit i=>exact⟨fr',st',E',t1,t2,t3⟩
   | ret=>exact⟨fr',st',E',t1,t2,t3⟩
 | cond c a b iha ihb=>
   intro K st fr cfr E Q h hk
   have hk:condT (tev fr c) (twR Z T X D R a fr st Q) (twR Z T X D R b fr st Q):=hk
   unfold condT at hk
   split at hk
   ·rename_i t e
    have hc:=raw_rel (tev_rel h.frm c) (u:= .bool t) (by rw[e];rfl)
    unfold ifT at hk
    split at hk
    ·exact wxR_cond_t hc (iha h hk)
    ·exact wxR_cond_f hc (ihb h hk)
   ·exact hk.elim
 | block id c ih=>
   intro K st fr cfr E Q h hk
   refine wxR_block ((ih h hk).mono (fun x f K' ⟨fr',st',E',t1,t2,t3⟩=> ?_) fun _ _ h=>h)
   cases x with
   | normal=>exact⟨fr',st',E',t1,t2,t3⟩
   | ret=>exact⟨fr',st',E',t1,t2,t3⟩
   | exit i=>
     show if i=id then _ else _
     have t3:sameX i id (Q .normal fr' st') (Q (.exit i) fr' st'):=t3
     unfold sameX at t3
     split at t3
     ·rename_i hi;rw[if_pos (Nat.eq_of_beq_eq_true hi)];exact⟨fr',st',E',t1,t2,t3⟩
     ·rename_i hi;rw[if_neg (Nat.ne_of_beq_eq_false hi)];exact⟨fr',st',E',t1,t2,t3⟩
 | loop c ih=>
   intro K st fr cfr E Q h hk
   obtain⟨I,n,l0,hl0,h0,hs⟩:=hk
   have hr : ∀o b,E.ρ o=some b→o<st.obs.length:=fun o b q=>(h.rho o b q).2.2
   refine wxloop_inv (fun n cfr' K'=>∃fr' st' E',TR Z K0 sp K' st' fr' cfr' E'∧Stw st E st' E'∧I n fr' st') (fun m cfr' K' ⟨fr',st',E',t1,t2,t3⟩=> ?_) (n:=n) ⟨_,_,_,h.cut hl0,Stw.refl.cut hr,h0⟩
   refine(ih t1 (hs m fr' st' t3)).mono (fun x f K'' ⟨fr'',st'',E'',s1,s2,s3⟩=> ?_) fun _ _ h=>h
   cases x with
   | normal=>
     obtain⟨m',l,k1,k2,k3⟩:=s3
     exact⟨m',k1,_,_,_,s1.cut k2,(t2.trans s2).cut hr,k3⟩
   | exit i=>exact⟨fr'',st'',E'',s1,t2.trans s2,s3⟩
   | ret=>exact⟨fr'',st'',E'',s1,t2.trans s2,s3⟩
 | exit id=>intro K st fr cfr E Q h hk;exact .inl ⟨0,_,_,_,rfl,fr,st,E,h,Stw.refl,hk⟩
 | ret=>intro K st fr cfr E Q h hk;exact .inl ⟨0,_,_,_,rfl,fr,st,E,h,Stw.refl,hk⟩
 | rangeF g key=>intro K st fr cfr E Q h hk;exact hk.elim
 | bad=>intro K st fr cfr E Q h hk;exact hk.elim
end Can
end Go.Proofs.YtnankhlanilbbaaGreat
end
section
namespace Go.Proofs.YtnankhlanilbbaaGreat
namespace Can
open Go Go.RowKit
set_option linter.unusedSimpArgs false
set_option linter.unusedVariables false
def RV.of:AV→Option RV
 | .r x=>x.fz
 | _=>none
def tresV(fr:TFr)(st:TS):RRes→Option RV
 | .tmp t=>RV.of (fr t)
 | .ld t=>(tlop fr st (.ld (.tmp t))).bind RV.of
 | .lda n t=>(tlop fr st (.lda n (.tmp t))).bind RV.of
def tresL(fr:TFr)(st:TS):List RRes→Option (List RV)
 | []=>some []
 | r::rs=>match tresV fr st r,tresL fr st rs with
   | some x,some xs=>some (x::xs)
   | _,_=>none
def tupA:List RV→AV
 | [x]=> .r x
 | l=> .tup l
def selfFin(self:Self)(st:TS):Option (List SV):=match self with
 | none=>some []
 | some _=>match st.obs[0]? with
   | some (_,_,cs)=>allFz cs
   | none=>none
def finT (res:List RRes)(self:Self)(Q:AV→List SV→Prop):CExit→TFr→TS→Prop:=fun x fr st=>match x with
 | .exit _=>False
 | _=>match tresL fr st res,selfFin self st with
   | some l,some s'=>Q (tupA l) s'
   | _,_=>False
def st0:Self→TS
 | none=>⟨0,[]⟩
 | some (e,ss)=>⟨0,[(0,e,ss.map .s)]⟩
variable {T:Tbl} {X:Pan} {Z:TP} {D:TD} {K0 K K' K'':CH} {sp:Option Nat} {st st' st'' st1:TS} {fr fr1:TFr} {cfr:Fr} {E E' E'':TE}
theorem r2_getD : ∀ {az:List AV} {vs:List Value},R2 (AVR K E) az vs→∀t,AVR K E (az.getD t .bad) (vs.getD t undef)
 | _,_, .nil,t=> .bad
 | _,_, .cons h _,0=>h
 | _,_, .cons _ h,t+1=>by simpa using r2_getD h t
theorem TR.start{e:Option Nat}{hid:Nat→Prop}{self:Self}{args:List AV}{vs:List Value}(h1 : ∀b,hid b→b<K.nx∧sp≠some b)(h2 : ∀b,Z.N b→b<K.nx∧sp≠some b∧K.ob b=Z.M b)(h3:R2 (AVR K (E0 sp hid)) args vs)(h4:SelfR K (E0 sp hid) sp self):TR Z K sp K (st0 self) (fun t=>args.getD t .bad) (fun t=>vs.getD t undef) (E0 sp hid):=by
 have hρ : ∀o b,(if o=0 then sp else none)=some b→o=0∧sp=some b:=fun o b q=>by
  split at q
  ·rename_i e;exact⟨e,q⟩
  ·cases q
 have hself : ∀b,sp=some b→∃e ss os,self=some (e,ss)∧b<K.nx∧K.ob b= .cells os e .ex∧R2 (SVR K (Frz K (E0 sp hid))) ss os:=fun b hb=>by
  match self,h4 with
  | none,h4=>rw[show sp=none from h4] at hb;cases hb
  | some (e,ss),⟨p,os,k1,k2,k3,k4⟩=>rw[k1] at hb;cases hb;exact⟨e,ss,os,rfl,k2,k3,k4⟩
 refine⟨Nat.le_refl _,fun _ _ _=>rfl,h2,h1,(fun _ _ q=>(by cases q)),(fun _ _ _ q=>(by cases q)),(fun _ _ _ q=>(by cases q)),fun o b q=> ?_,fun o o' b q q'=> ?_,fun o v e cs q=> ?_,r2_getD h3⟩
 ·obtain⟨rfl,k⟩:=hρ o b q
  obtain⟨e,ss,os,rfl,g1,g2,g3⟩:=hself b k
  exact⟨g1, .inr k,Nat.zero_lt_one⟩
 ·rw[(hρ o b q).1,(hρ o' b q').1]
 ·match self,h4,q with
  | none,_,q=>simp[st0] at q
  | some (e',ss),⟨p,os,k1,k2,k3,k4⟩,q=>
    cases o with
    | zero=>
      cases q
      exact⟨p,os,k1,k3,k4.map fun _ _ q=> .s q⟩
    | succ o=>simp[st0] at q
theorem rof_rel{a:AV}{v:Value}(h:AVR K E a v){y:RV}(hy:RV.of a=some y)(h1 : ∀b,Frz K E b→Frz K' E' b∧K'.ob b=K.ob b)(h2 : ∀t b,E.σ t=some b→Frz K' E' b∧K'.ob b=K.ob b):RVR K' E' y v:=by
 cases h with
 | r h=>exact rfz_rel h hy h1 fun t b _ q=>h2 t b q
 | _=>cases hy
theorem tres_rel(h:TR Z K0 sp K st fr cfr E)(h1 : ∀b,Frz K E b→Frz K E' b∧K.ob b=K.ob b)(h2 : ∀t b,E.σ t=some b→Frz K E' b∧K.ob b=K.ob b) : ∀ {res:List RRes} {l:List RV},tresL fr st res=some l→∃vs,resL cfr K res=some vs∧R2 (RVR K E') l vs
 | [],l,q=>by cases q;exact⟨[],rfl, .nil⟩
 | r::rs,l,q=>by
   simp only[tresL] at q
   split at q
   ·rename_i x xs e1 e2
    cases q
    obtain⟨vs,k1,k2⟩:=tres_rel h h1 h2 e2
    have : ∃v,resV cfr K r=some v∧RVR K E' x v:=by
     cases r with
     | tmp t=>exact⟨_,rfl,rof_rel (h.frm t) e1 h1 h2⟩
     | ld t=>
       simp only[tresV] at e1
       cases hl:tlop fr st (.ld (.tmp t)) with
       | none=>rw[hl] at e1;cases e1
       | some a=>
         rw[hl] at e1
         obtain⟨v,g1,g2⟩:=tlop_sound h hl
         exact⟨v,g1,rof_rel g2 e1 h1 h2⟩
     | lda n t=>
       simp only[tresV] at e1
       cases hl:tlop fr st (.lda n (.tmp t)) with
       | none=>rw[hl] at e1;cases e1
       | some a=>
         rw[hl] at e1
         obtain⟨v,g1,g2⟩:=tlop_sound h hl
         exact⟨v,g1,rof_rel g2 e1 h1 h2⟩
    obtain⟨v,g1,g2⟩:=this
    exact⟨v::vs,by simp only[resL,g1,k1], .cons g2 k2⟩
   ·cases q
theorem tc_in(hD:TDOk T D){R:Value→Prop}{f:FuncId}{rf:RFunc}(he:T.ext f=false)(hf:T.fn f=some rf){args:List AV}{self:Self}{Q:AV→List SV→Prop}(hk:twR Z T X D R rf.body (fun t=>args.getD t .bad) (st0 self) (finT rf.res self Q)):TC Z T X f args self Q R:=by
 intro K sp hid vs h1 h2 h3 h4
 have t0:=TR.start (e:=none) h1 h2 h3 h4
 refine wxF_in he hf ((twR_sound hD t0 hk).mono (fun x cfr' K' ⟨fr',st',E',t1,t2,t3⟩=> ?_) fun _ _ h=>h)
 have hx : ∃l s',tresL fr' st' rf.res=some l∧selfFin self st'=some s'∧Q (tupA l) s':=by
  unfold finT at t3
  split at t3
  ·exact t3.elim
  ·split at t3
   ·rename_i l s' e1 e2;exact⟨l,s',e1,e2,t3⟩
   ·exact t3.elim
 obtain⟨l,s',e1,e2,e3⟩:=hx
 have hsp : ∀b,sp=some b→E'.ρ 0=some b∧b<K.nx:=fun b hb=>by
  refine⟨t2.rho 0 b (by show(if 0=0 then sp else none)=some b;rw[if_pos rfl,hb]),?_⟩
  match self,h4 with
  | none,h4=>rw[show sp=none from h4] at hb;cases hb
  | some (e,ss),⟨p,os,k1,k2,k3,k4⟩=>rw[k1] at hb;cases hb;exact k2
 have hρ : ∀o b,(E0 sp hid).ρ o=some b→sp=some b:=fun o b q=>by
  have q:(if o=0 then sp else none)=some b:=q
  split at q
  ·exact q
  ·cases q
 have f1 : ∀b,Frz K' E' b→Frz K' (E0 sp hid) b∧K'.ob b=K'.ob b:=fun b hb=>⟨⟨hb.1,fun hh=>hb.2.1 (by rw[t2.hid];exact hh),(fun _ q=>(by cases q)),fun o q=>hb.2.2.2 0 (hsp b (hρ o b q)).1⟩,rfl⟩
 have f2 : ∀t b,E'.σ t=some b→Frz K' (E0 sp hid) b∧K'.ob b=K'.ob b:=fun t b hb=>by
  obtain⟨k1,k2,k3⟩:=t1.sig t b hb
  exact⟨⟨k2,fun hh=>by have:=(h1 b hh).1;omega,(fun _ q=>(by cases q)),fun o q=>t1.sr t 0 b hb (hsp b (hρ o b q)).1⟩,rfl⟩
 obtain⟨vs',g1,g2⟩:=tres_rel t1 f1 f2 e1
 have hfin:finK (resL cfr' K' rf.res) (fun v K'=>K.nx≤K'.nx∧(∀b,b<K.nx→sp≠some b→K'.ob b=K.ob b)∧∃a s',AVR K' (E0 sp hid) a v∧a.clean∧SelfR K' (E0 sp hid) sp (self.map fun p=>(p.1,s'))∧Q a s') K':=by
  rw[g1,finK_some]
  refine⟨t1.nx,t1.keep,tupA l,s',?_,?_,?_,e3⟩
  ·match l,vs',g2 with
   | [],_, .nil=>exact .tup (vs:= []) .nil
   | [x],_, .cons h .nil=>exact .r h
   | x::y::l,_, .cons h (.cons h' t)=>exact .tup (.cons h (.cons h' t))
  ·unfold tupA
   split<;>exact trivial
  ·match self,h4,e2,t2 with
   | none,h4,_,_=>exact h4
   | some (e,ss),⟨p,os,k1,k2,k3,k4⟩,e2,t2=>
     obtain⟨v',cs',q1⟩:=t2.typ 0 0 e (ss.map .s) rfl
     obtain⟨b,os',r1,r2,r3⟩:=t1.obs 0 v' e cs' q1
     rw[(hsp p k1).1] at r1;cases r1
     simp only[selfFin,q1] at e2
     exact⟨p,os',k1,Nat.lt_of_lt_of_le k2 t1.nx,r2,allFz_rel f1 r3 e2 fun t b _ q=>f2 t b q⟩
 cases x with
 | normal=>exact hfin
 | ret=>exact hfin
 | exit i=>unfold finT at t3;exact t3.elim
theorem tc_rG{P:Program}{L:List FuncId}{G:FuncId→List Value→Option Value}(hD:TDOk (tblG P L G) D){R:Value→Prop}{f:Nat}(he:L.elem f=false)(h:(resFunc P (fun N ops=>resD P N ops) f).isSome=true){args:List AV}{self:Self}{Q:AV→List SV→Prop}(k:twR Z (tblG P L G) X D R (rF P f).body (fun t=>args.getD t .bad) (st0 self) (finT (rF P f).res self Q)):TC Z (tblG P L G) X f args self Q R:=by
 refine tc_in hD he ?_ k
 unfold rF
 show resFunc P (fun N ops=>resD P N ops) f=some ((resFunc P (fun N ops=>resD P N ops) f).getD ⟨0,[], .skip⟩)
 cases hr:resFunc P (fun N ops=>resD P N ops) f with
 | none=>rw[hr] at h;cases h
 | some r=>rfl
end Can
end Go.Proofs.YtnankhlanilbbaaGreat
end
section
namespace Go.Proofs.YtnankhlanilbbaaGreat
namespace Can
open Go Go.RowKit
set_option linter.unusedSimpArgs false
set_option linter.unusedVariables false
variable {T:Tbl} {X:Pan} {Z:TP} {D:TD} {R:Value→Prop} {st st1:TS} {fr fr1:TFr}
def CV.inert:CV→Bool
 | .own _ _ _ _=>false
 | _=>true
def allI:List CV→Bool
 | []=>true
 | x::l=>x.inert&&allI l
def RV.inert:RV→Bool
 | .c x=>x.inert
 | .agg cs=>allI cs
def allR:List RV→Bool
 | []=>true
 | x::l=>x.inert&&allR l
def AV.inert(k:Nat):AV→Bool
 | .r x=>x.inert
 | .ptr o _=>Nat.blt o k
 | .eptr (some _) _ _=>false
 | .tup l=>allR l
 | _=>true
theorem CV.inert_act{x:CV}(h:x.inert=true)(g:Nat→SA):x.act g=x:=by cases x<;>first | rfl | cases h
theorem CV.inert_cut{x:CV}(h:x.inert=true)(l:List Nat):x.cut l=x:=by cases x<;>first | rfl | cases h
theorem allI_map{f:CV→CV}(hf : ∀x,x.inert=true→f x=x) : ∀ {cs:List CV},allI cs=true→cs.map f=cs
 | [],_=>rfl
 | x::cs,h=>by
   simp only[allI,Bool.and_eq_true] at h
   rw[List.map_cons,hf x h.1,allI_map hf h.2]
theorem RV.inert_map{x:RV}(h:x.inert=true):(∀g,x.act g=x)∧∀l,x.cut l=x:=by
 cases x with
 | c x=>exact⟨fun g=>congrArg RV.c (CV.inert_act h g),fun l=>congrArg RV.c (CV.inert_cut h l)⟩
 | agg cs=>exact⟨fun g=>congrArg RV.agg (allI_map (fun x hx=>CV.inert_act hx g) h),fun l=>congrArg RV.agg (allI_map (fun x hx=>CV.inert_cut hx l) h)⟩
theorem allR_map{f:RV→RV}(hf : ∀x,x.inert=true→f x=x) : ∀ {cs:List RV},allR cs=true→cs.map f=cs
 | [],_=>rfl
 | x::cs,h=>by
   simp only[allR,Bool.and_eq_true] at h
   rw[List.map_cons,hf x h.1,allR_map hf h.2]
theorem blt_lt{a b:Nat}(h:Nat.blt a b=true):a<b:=by
 have:=Nat.le_of_ble_eq_true h
 omega
theorem AV.inert_act{k:Nat}{a:AV}(h:a.inert k=true)(g:Nat→SA):a.act g=a:=by
 cases a with
 | r x=>exact congrArg AV.r ((RV.inert_map h).1 g)
 | eptr t g off=>cases t<;>first | rfl | cases h
 | tup l=>exact congrArg AV.tup (allR_map (fun x hx=>(RV.inert_map hx).1 g) h)
 | _=>rfl
theorem AV.inert_cut{k k':Nat}{a:AV}(h:a.inert k=true)(hk:k≤k')(l:List Nat):a.cut k' l=a:=by
 cases a with
 | r x=>exact congrArg AV.r ((RV.inert_map h).2 l)
 | ptr o off=>
   have ho:=blt_lt h
   show ltB o k' (.ptr o off) .bad=_
   unfold ltB
   have:Nat.ble k' o=false:=by
    cases hb:Nat.ble k' o with
    | false=>rfl
    | true=>have:=Nat.le_of_ble_eq_true hb;omega
   rw[this]
 | eptr t g off=>cases t<;>first | rfl | cases h
 | tup l'=>exact congrArg AV.tup (allR_map (fun x hx=>(RV.inert_map hx).2 l) h)
 | _=>rfl
theorem fzF_in{k t:Nat}{l:List Nat}(h:(fr t).inert k=true):fzF l fr t=fr t:=by
 rw[fzF_eq];exact AV.inert_act h _
theorem kilF_in{k t:Nat}{o:Option (Nat×TypeId×Nat)}(h:(fr t).inert k=true):kilF o fr t=fr t:=by
 cases o with
 | none=>rfl
 | some p=>obtain⟨a,b⟩:=p;exact AV.inert_act h _
theorem fzS_len{l:List Nat}:(fzS l st).obs.length=st.obs.length:=by
 rw[fzS_eq];show(st.obs.map _).length=_;rw[List.length_map]
theorem kilS_len{o:Option (Nat×TypeId×Nat)}:(kilS o st).obs.length=st.obs.length:=by
 cases o with
 | none=>rfl
 | some p=>obtain⟨a,b⟩:=p;show(st.obs.map _).length=_;rw[List.length_map]
def Kp (k:Nat)(fr:TFr)(st:TS)(fr1:TFr)(st1:TS):Prop:=(∀t,(fr t).inert k=true→fr1 t=fr t)∧st.obs.length≤st1.obs.length
theorem taop_kp{k:Nat}{x:AOp}{a:AV}(h:taop fr st x=some (a,fr1,st1)):Kp k fr st fr1 st1:=by
 cases x with
 | new e z=>
   simp only[taop] at h
   cases hz:zCV z with
   | none=>rw[hz] at h;cases h
   | some cs=>rw[hz] at h;cases h;exact⟨fun _ _=>rfl,by simp⟩
 | box e x=>
   simp only[taop] at h
   cases hz:(tev fr x).cvs with
   | none=>rw[hz] at h;cases h
   | some cs=>rw[hz] at h;cases h;exact⟨fun _ _=>rfl,by simp⟩
 | bsl e sz n z ps=>
   simp only[taop] at h
   split at h
   ·split at h
    ·split at h
     ·cases h;exact⟨fun _ h=>fzF_in h,by show st.obs.length≤(fzS _ st).obs.length;rw[fzS_len];exact Nat.le_refl _⟩
     ·cases h
    ·cases h
   ·cases h
 | _=>cases h
theorem twop_kp{k:Nat}{x:WOp}{a:AV}(h:twop fr st x=some (a,fr1,st1)):Kp k fr st fr1 st1:=by
 cases x with
 | st n x v=>
   simp only[twop] at h
   split at h
   ·split at h
    ·split at h
     ·cases h;exact⟨fun _ _=>rfl,by show st.obs.length≤(st.obs.set _ _).length;rw[List.length_set];exact Nat.le_refl _⟩
     ·cases h
    ·cases h
   ·cases h
 | app e sz bytes s x=>
   simp only[twop] at h
   split at h
   ·split at h
    ·cases h;exact⟨fun _ h=>kilF_in h,by show st.obs.length≤(kilS _ st).obs.length;rw[kilS_len];exact Nat.le_refl _⟩
    ·cases h
   ·cases h
 | _=>cases h
theorem twO_kp{k0:Nat}{op:ROp}{k:AV→TFr→TS→Prop}(h:twO Z T X D op fr st k R):twO Z T X D op fr st (fun a fr1 st1=>k a fr1 st1∧Kp k0 fr st fr1 st1) R:=by
 rw[twO_eq] at h⊢
 have hr:Kp k0 fr st fr st:=⟨fun _ _=>rfl,Nat.le_refl _⟩
 cases op with
 | p x=>
   have h:tpopK fr (fun a=>k a fr st) x:=h
   show tpopK fr (fun a=>k a fr st∧Kp k0 fr st fr st) x
   unfold tpopK at h⊢
   split at h
   ·simp only at h⊢
    split at h
    ·rename_i e1 e2
     obtain⟨h1,n,g,h2,h3,h4⟩:=h
     exact⟨h1,n,g,h2,h3,h4,hr⟩
    ·exact h.elim
   ·simp only at h⊢
    split at h
    ·exact fun q=>⟨h q,hr⟩
    ·exact fun q=>⟨h q,hr⟩
    ·unfold optT at h⊢
     split at h
     ·exact⟨h,hr⟩
     ·exact h.elim
   ·unfold optT at h⊢
    split at h
    ·exact⟨h,hr⟩
    ·exact h.elim
 | l x=>
   simp only[twO0,optT] at h⊢
   split at h
   ·exact⟨h,hr⟩
   ·exact h.elim
 | a x=>
   have h:taopK fr st k x:=h
   show taopK fr st (fun a fr1 st1=>k a fr1 st1∧Kp k0 fr st fr1 st1) x
   unfold taopK at h⊢
   split at h
   ·simp only at h⊢
    split at h
    ·split at h
     ·obtain⟨h1,h2⟩:=h
      rw[fzK_eq] at h2⊢
      exact⟨h1,h2,fun _ h=>fzF_in h,by show st.obs.length≤(fzS _ st).obs.length;rw[fzS_len];exact Nat.le_refl _⟩
     ·exact h.elim
    ·exact h.elim
   ·unfold optS at h⊢
    split at h
    ·rename_i a fr1 st1 e
     exact⟨h,taop_kp e⟩
    ·exact h.elim
 | w x=>
   have h:twopK fr st k x:=h
   show twopK fr st (fun a fr1 st1=>k a fr1 st1∧Kp k0 fr st fr1 st1) x
   unfold twopK at h⊢
   split at h
   ·simp only at h⊢
    split at h
    ·split at h
     ·obtain⟨h1,h2⟩:=h
      rw[kilK_eq] at h2⊢
      exact⟨h1,h2,fun _ h=>kilF_in h,by show st.obs.length≤(kilS _ st).obs.length;rw[kilS_len];exact Nat.le_refl _⟩
     ·exact h.elim
    ·exact h.elim
   ·unfold optS at h⊢
    split at h
    ·rename_i a fr1 st1 e
     exact⟨h,twop_kp e⟩
    ·exact h.elim
 | call f args=>
   simp only[twO0,callO] at h⊢
   split at h
   ·rename_i hf
    unfold nodeC at h⊢
    split at h
    ·split at h
     ·exact⟨h,hr⟩
     ·exact h.elim
    ·exact h.elim
   ·rw[callT_eq] at h⊢
    unfold callT0 at h⊢
    split at h
    ·exact h.elim
    ·split at h
     ·exact h.mono (fun a s q=>⟨q,fun _ h=>fzF_in h,by show st.obs.length≤(fzS _ st).obs.length;rw[fzS_len];exact Nat.le_refl _⟩) fun _ h=>h
     ·split at h
      ·split at h
       ·exact h.mono (fun a s q=>⟨q,fun _ h=>fzF_in h,by show st.obs.length≤((fzS _ st).obs.set _ _).length;rw[List.length_set,fzS_len];exact Nat.le_refl _⟩) fun _ h=>h
       ·exact h.elim
      ·exact h.elim
 | callv g args=>exact h.elim
def dI (its:List Item)(t:Nat):Bool:=match its with
 | []=>true
 | it::r=>match it.dst with
   | some d=> !(Nat.beq d t)&&dI r t
   | none=>dI r t
def nwT:RCode→Nat→Bool
 | .reg its,t=>dI its t
 | .drw d,t=>dI d.its t
 | .seq a b,t=>nwT a t&&nwT b t
 | .cond _ a b,t=>nwT a t&&nwT b t
 | .block _ c,t=>nwT c t
 | .loop c,t=>nwT c t
 | _,_=>true
theorem putA_in{a:AV}{t:Nat}{it:Item}{r:List Item}(hd:dI (it::r) t=true):putA fr it.dst a t=fr t∧dI r t=true:=by
 simp only[dI] at hd
 split at hd
 ·rename_i d hdst
  simp only[Bool.and_eq_true,Bool.not_eq_true'] at hd
  rw[hdst,putA_if]
  exact⟨if_neg (Ne.symm (Nat.ne_of_beq_eq_false hd.1)),hd.2⟩
 ·rename_i hdst;rw[hdst];exact⟨rfl,hd⟩
theorem grdT_mono{g:Option (Nat×Bool)}{y n y' n':Prop}(h:grdT fr g y n)(hy:y→y')(hn:n→n'):grdT fr g y' n':=by
 unfold grdT at h⊢
 split at h
 ·exact hy h
 ·split at h
  ·unfold ifT at h⊢
   split at h
   ·exact hy h
   ·exact hn h
  ·exact hn h
  ·exact h.elim
def KpC (k:Nat)(W:Nat→Bool)(fr:TFr)(st:TS)(fr1:TFr)(st1:TS):Prop:=(∀t,W t=true→(fr t).inert k=true→fr1 t=fr t)∧st.obs.length≤st1.obs.length
theorem KpC.refl{k:Nat}{W:Nat→Bool}:KpC k W fr st fr st:=⟨fun _ _ _=>rfl,Nat.le_refl _⟩
theorem KpC.trans{k:Nat}{W W' W2:Nat→Bool}{fr2:TFr}{st2:TS}(h:KpC k W fr st fr1 st1)(g:KpC k W' fr1 st1 fr2 st2)(hW : ∀t,W2 t=true→W t=true∧W' t=true):KpC k W2 fr st fr2 st2:=⟨fun t ht hi=>by
 have h1:=h.1 t (hW t ht).1 hi
 rw[g.1 t (hW t ht).2 (by rw[h1];exact hi),h1],Nat.le_trans h.2 g.2⟩
theorem Kp.put{k:Nat}{it:Item}{r:List Item}{a:AV}(h:Kp k fr st fr1 st1):KpC k (fun t=>dI (it::r) t) fr st (putA fr1 it.dst a) st1:=⟨fun t ht hi=>by
 rw[(putA_in (fr:=fr1) (a:=a) ht).1];exact h.1 t hi,h.2⟩
theorem twO_mono{op:ROp}{k k':AV→TFr→TS→Prop}(h:twO Z T X D op fr st k R)(hk : ∀a f s,k a f s→k' a f s):twO Z T X D op fr st k' R:=by
 rw[twO_eq] at h⊢
 cases op with
 | p x=>
   have h:tpopK fr (fun a=>k a fr st) x:=h
   show tpopK fr (fun a=>k' a fr st) x
   unfold tpopK at h⊢
   split at h
   ·simp only at h⊢
    split at h
    ·obtain⟨h1,n,g,h2,h3,h4⟩:=h
     exact⟨h1,n,g,h2,h3,hk _ _ _ h4⟩
    ·exact h.elim
   ·simp only at h⊢
    split at h
    ·exact fun q=>hk _ _ _ (h q)
    ·exact fun q=>hk _ _ _ (h q)
    ·unfold optT at h⊢
     split at h
     ·exact hk _ _ _ h
     ·exact h.elim
   ·unfold optT at h⊢
    split at h
    ·exact hk _ _ _ h
    ·exact h.elim
 | l x=>
   simp only[twO0,optT] at h⊢
   split at h
   ·exact hk _ _ _ h
   ·exact h.elim
 | a x=>
   have h:taopK fr st k x:=h
   show taopK fr st k' x
   unfold taopK at h⊢
   split at h
   ·split at h
    ·split at h
     ·obtain⟨h1,h2⟩:=h
      rw[fzK_eq] at h2⊢
      exact⟨h1,hk _ _ _ h2⟩
     ·exact h.elim
    ·exact h.elim
   ·unfold optS at h⊢
    split at h
    ·exact hk _ _ _ h
    ·exact h.elim
 | w x=>
   have h:twopK fr st k x:=h
   show twopK fr st k' x
   unfold twopK at h⊢
   split at h
   ·split at h
    ·split at h
     ·obtain⟨h1,h2⟩:=h
      rw[kilK_eq] at h2⊢
      exact⟨h1,hk _ _ _ h2⟩
     ·exact h.elim
    ·exact h.elim
   ·unfold optS at h⊢
    split at h
    ·exact hk _ _ _ h
    ·exact h.elim
 | call f args=>
   simp only[twO0,callO] at h⊢
   split at h
   ·unfold nodeC at h⊢
    split at h
    ·split at h
     ·exact hk _ _ _ h
     ·exact h.elim
    ·exact h.elim
   ·rw[callT_eq] at h⊢
    unfold callT0 at h⊢
    split at h
    ·exact h.elim
    ·split at h
     ·exact h.mono (fun a s q=>hk _ _ _ q) fun _ h=>h
     ·split at h
      ·split at h
       ·exact h.mono (fun a s q=>hk _ _ _ q) fun _ h=>h
       ·exact h.elim
      ·exact h.elim
 | callv g args=>exact h.elim
theorem twI_mono : ∀ {its:List Item} {fr:TFr} {st:TS} {k k':TFr→TS→Prop},twI Z T X D R its fr st k→(∀f s,k f s→k' f s)→twI Z T X D R its fr st k'
 | [],fr,st,k,k',h,hk=>hk _ _ h
 | it::r,fr,st,k,k',h,hk=>grdT_mono h (fun h=>twO_mono h fun a f s h=>twI_mono h hk) fun h=>twI_mono h hk
theorem twI_kp{k0:Nat} : ∀ {its:List Item} {fr:TFr} {st:TS} {k:TFr→TS→Prop},twI Z T X D R its fr st k→twI Z T X D R its fr st fun f s=>k f s∧KpC k0 (dI its) fr st f s
 | [],fr,st,k,h=>⟨h,KpC.refl⟩
 | it::r,fr,st,k,h=>by
   refine grdT_mono h (fun h=> ?_) fun h=> ?_
   ·refine twO_mono (twO_kp (k0:=k0) h) fun a f s ⟨h1,h2⟩=> ?_
    refine twI_mono (twI_kp h1) fun f' s' ⟨g1,g2⟩=>⟨g1,(h2.put (it:=it) (r:=r) (a:=a)).trans g2 fun t ht=>⟨ht,(putA_in (fr:=fr) (a:= .bad) ht).2⟩⟩
   ·refine twI_mono (twI_kp h) fun f' s' ⟨g1,g2⟩=>⟨g1,(Kp.put (it:=it) (r:=r) (a:= .skip) (k:=k0) (fr:=fr) (st:=st) ⟨fun _ _=>rfl,Nat.le_refl _⟩).trans g2 fun t ht=>⟨ht,(putA_in (fr:=fr) (a:= .bad) ht).2⟩⟩
theorem twD_mono : ∀ {its:List Item} {q:Option (List Item)} {fr:TFr} {st:TS} {k k':TFr→TS→List TS→List Rec→Prop},twD Z T X D R q its fr st k→(∀f s l c,k f s l c→k' f s l c)→twD Z T X D R q its fr st k'
 | [],q,fr,st,k,k',h,hk=>hk _ _ _ _ h
 | it::r,q,fr,st,k,k',h,hk=>grdT_mono h (fun h=>twO_mono h fun a f s h=>by
    rw[fcRs_eq] at h⊢
    exact twD_mono h fun _ _ _ _ h=>hk _ _ _ _ h) fun h=>twD_mono h fun _ _ _ _ h=>hk _ _ _ _ h
theorem twD_kp{k0:Nat} : ∀ {its:List Item} {q:Option (List Item)} {fr:TFr} {st:TS} {k:TFr→TS→List TS→List Rec→Prop},twD Z T X D R q its fr st k→twD Z T X D R q its fr st fun f s l c=>k f s l c∧KpC k0 (dI its) fr st f s
 | [],q,fr,st,k,h=>⟨h,KpC.refl⟩
 | it::r,q,fr,st,k,h=>by
   refine grdT_mono h (fun h=> ?_) fun h=> ?_
   ·refine twO_mono (twO_kp (k0:=k0) h) fun a f s ⟨h1,h2⟩=> ?_
    rw[fcRs_eq] at h1⊢
    refine twD_mono (twD_kp h1) fun f' s' l c ⟨g1,g2⟩=>⟨g1,(h2.put (it:=it) (r:=r) (a:=a)).trans g2 fun t ht=>⟨ht,(putA_in (fr:=fr) (a:= .bad) ht).2⟩⟩
   ·refine twD_mono (twD_kp h) fun f' s' l c ⟨g1,g2⟩=>⟨g1,(Kp.put (it:=it) (r:=r) (a:= .skip) (k:=k0) (fr:=fr) (st:=st) ⟨fun _ _=>rfl,Nat.le_refl _⟩).trans g2 fun t ht=>⟨ht,(putA_in (fr:=fr) (a:= .bad) ht).2⟩⟩
theorem chkL_mono{S:List TS}{c:List Rec}{its:List Item}{k k':Prop}(hk:k→k') : ∀ {L:List (Item×Nat)},chkL fr S c its k L→chkL fr S c its k' L
 | [],h=>hk h
 | p::L,h=>by
   have h:chkT fr S c its p (chkL fr S c its k L):=h
   show chkT fr S c its p (chkL fr S c its k' L)
   unfold chkT at h⊢
   split at h
   ·exact h.elim
   ·refine grdT_mono h (fun h=> ?_) (chkL_mono hk)
    split at h
    ·obtain⟨h1,h2⟩:=h
     refine⟨h1,?_⟩
     split at h2
     ·exact chkL_mono hk h2
     ·exact h2.elim
    ·exact h.elim
theorem condT_mono{a:AV}{y n y' n':Prop}(h:condT a y n)(hy:y→y')(hn:n→n'):condT a y' n':=by
 unfold condT at h⊢
 split at h
 ·unfold ifT at h⊢
  split at h
  ·exact hy h
  ·exact hn h
 ·exact h.elim
theorem loopT_mono{k n:Nat}{I I':Nat→TFr→TS→Prop}{Q Q':CExit→TFr→TS→Prop}(hI : ∀m f s,I m f s→I' m f s)(hQ : ∀x f s,Q x f s→Q' x f s){x:CExit}(h:loopT k I n Q x fr st):loopT k I' n Q' x fr st:=by
 cases x with
 | normal=>obtain⟨m,l,h1,h2,h3⟩:=h;exact⟨m,l,h1,h2,hI _ _ _ h3⟩
 | exit i=>exact hQ _ _ _ h
 | ret=>exact hQ _ _ _ h
theorem sameX_mono{i id:Nat}{a b a' b':Prop}(h:sameX i id a b)(ha:a→a')(hb:b→b'):sameX i id a' b':=by
 unfold sameX at h⊢
 split at h
 ·exact ha h
 ·exact hb h
theorem twR_mono : ∀ {c:RCode} {fr:TFr} {st:TS} {Q Q':CExit→TFr→TS→Prop},twR Z T X D R c fr st Q→(∀x f s,Q x f s→Q' x f s)→twR Z T X D R c fr st Q':=by
 intro c
 induction c with
 | skip=>intro fr st Q Q' h hq;exact hq _ _ _ h
 | reg its=>intro fr st Q Q' h hq;exact twI_mono h fun f s h=>hq _ _ _ h
 | drw d=>intro fr st Q Q' h hq;exact twD_mono h fun f s l c h=>chkL_mono (hq _ _ _) h
 | seq a b iha ihb=>
   intro fr st Q Q' h hq
   refine iha h fun x f s h=> ?_
   cases x with
   | normal=>exact ihb h hq
   | exit i=>exact hq _ _ _ h
   | ret=>exact hq _ _ _ h
 | cond c a b iha ihb=>intro fr st Q Q' h hq;exact condT_mono h (fun h=>iha h hq) fun h=>ihb h hq
 | block id c ih=>
   intro fr st Q Q' h hq
   refine ih h fun x f s h=> ?_
   cases x with
   | normal=>exact hq _ _ _ h
   | exit i=>exact sameX_mono h (hq _ _ _) (hq _ _ _)
   | ret=>exact hq _ _ _ h
 | loop c ih=>
   intro fr st Q Q' h hq
   obtain⟨I,n,l,hl,h0,hs⟩:=h
   exact⟨I,n,l,hl,h0,fun n f s hi=>ih (hs n f s hi) fun x f s h=>loopT_mono (fun _ _ _ h=>h) hq h⟩
 | exit id=>intro fr st Q Q' h hq;exact hq _ _ _ h
 | ret=>intro fr st Q Q' h hq;exact hq _ _ _ h
 | rangeF g key=>intro fr st Q Q' h hq;exact h.elim
 | bad=>intro fr st Q Q' h hq;exact h.elim
theorem twR_kp{k0:Nat} : ∀ {c:RCode} {fr:TFr} {st:TS} {Q:CExit→TFr→TS→Prop},k0≤st.obs.length→twR Z T X D R c fr st Q→twR Z T X D R c fr st fun x f s=>Q x f s∧(∀t,nwT c t=true→(fr t).inert k0=true→f t=fr t)∧k0≤s.obs.length:=by
 intro c
 induction c with
 | skip=>intro fr st Q hk h;exact⟨h,fun _ _ _=>rfl,hk⟩
 | reg its=>intro fr st Q hk h;exact twI_mono (twI_kp (k0:=k0) h) fun f s ⟨h,h1,h2⟩=>⟨h,h1,Nat.le_trans hk h2⟩
 | drw d=>intro fr st Q hk h;exact twD_mono (twD_kp (k0:=k0) h) fun f s l c ⟨h,h1,h2⟩=>chkL_mono (fun h=>⟨h,h1,Nat.le_trans hk h2⟩) h
 | seq a b iha ihb=>
   intro fr st Q hk h
   show twR Z T X D R a fr st _
   refine twR_mono (iha hk h) fun x f s ⟨h,h1,h2⟩=> ?_
   cases x with
   | normal=>
     refine twR_mono (ihb h2 h) fun x f' s' ⟨h,g1,g2⟩=>⟨h,fun t ht hi=> ?_,g2⟩
     simp only[nwT,Bool.and_eq_true] at ht
     have e:=h1 t ht.1 hi
     rw[g1 t ht.2 (by rw[e];exact hi),e]
   | exit i=>exact⟨h,fun t ht hi=>h1 t (by simp only[nwT,Bool.and_eq_true] at ht;exact ht.1) hi,h2⟩
   | ret=>exact⟨h,fun t ht hi=>h1 t (by simp only[nwT,Bool.and_eq_true] at ht;exact ht.1) hi,h2⟩
 | cond c a b iha ihb=>
   intro fr st Q hk h
   refine condT_mono h (fun h=>twR_mono (iha hk h) fun x f s ⟨h,h1,h2⟩=>⟨h,fun t ht hi=>h1 t ?_ hi,h2⟩) fun h=>twR_mono (ihb hk h) fun x f s ⟨h,h1,h2⟩=>⟨h,fun t ht hi=>h1 t ?_ hi,h2⟩
   ·simp only[nwT,Bool.and_eq_true] at ht;exact ht.1
   ·simp only[nwT,Bool.and_eq_true] at ht;exact ht.2
 | block id c ih=>
   intro fr st Q hk h
   show twR Z T X D R c fr st _
   refine twR_mono (ih hk h) fun x f s ⟨h,h1,h2⟩=> ?_
   cases x with
   | normal=>exact⟨h,h1,h2⟩
   | exit i=>exact sameX_mono h (fun h=>⟨h,h1,h2⟩) fun h=>⟨h,h1,h2⟩
   | ret=>exact⟨h,h1,h2⟩
 | loop c ih=>
   intro fr st Q hk h
   obtain⟨I,n,l,hl,h0,hs⟩:=h
   refine⟨fun m f s=>I m f s∧(∀t,nwT c t=true→(fr t).inert k0=true→f t=fr t)∧k0≤s.obs.length,n,l,hl,⟨h0,fun t _ hi=>AV.inert_cut hi hk l,by show k0≤((st.obs.take _).map _).length;rw[List.length_map,List.length_take];omega⟩,fun m f s ⟨hi,ha,hb⟩=> ?_⟩
   refine twR_mono (ih hb (hs m f s hi)) fun x f' s' ⟨h,h1,h2⟩=> ?_
   have hag : ∀t,nwT c t=true→(fr t).inert k0=true→f' t=fr t:=fun t ht hi=>by
    have e:=ha t ht hi
    rw[h1 t ht (by rw[e];exact hi),e]
   cases x with
   | normal=>
     obtain⟨m',l,q1,q2,q3⟩:=h
     refine⟨m',l,q1,q2,q3,fun t ht hi=> ?_,?_⟩
     ·show(f' t).cut _ l=fr t
      rw[hag t ht hi];exact AV.inert_cut hi hk l
     ·show k0≤((s'.obs.take _).map _).length
      rw[List.length_map,List.length_take];omega
   | exit i=>exact⟨h,hag,h2⟩
   | ret=>exact⟨h,hag,h2⟩
 | exit id=>intro fr st Q hk h;exact⟨h,fun _ _ _=>rfl,hk⟩
 | ret=>intro fr st Q hk h;exact⟨h,fun _ _ _=>rfl,hk⟩
 | rangeF g key=>intro fr st Q hk h;exact h.elim
 | bad=>intro fr st Q hk h;exact h.elim
def mixF (c:RCode)(k:Nat)(fr0 f:TFr):TFr:=fun t=>match nwT c t&&(fr0 t).inert k with
 | true=>fr0 t
 | false=>f t
abbrev LoopS(Z:TP)(T:Tbl)(X:Pan)(D:TD)(R:Value→Prop)(c:RCode)(fr0:TFr)(st0:TS)(Q:CExit→TFr→TS→Prop):Prop:=∃(I:Nat→TFr→TS→Prop) (n:Nat) (l:List Nat),nodupB l=true∧I n (fr0.cut st0.obs.length l) (st0.cut st0.obs.length l)∧∀n f s,I n f s→twR Z T X D R c f s (loopT st0.obs.length I n Q)
theorem loop_rule{c:RCode}{Q:CExit→TFr→TS→Prop}{fr0:TFr}{st0:TS}(J:Nat→TFr→TS→Prop)(n:Nat)(l:List Nat)(hl:nodupB l=true)(h0:J n (fr0.cut st0.obs.length l) (st0.cut st0.obs.length l))(hs : ∀m f s,J m f s→f=mixF c st0.obs.length fr0 f→twR Z T X D R c f s (loopT st0.obs.length J m Q)):LoopS Z T X D R c fr0 st0 Q:=by
 refine⟨fun m f s=>J m f s∧(∀t,nwT c t=true→(fr0 t).inert st0.obs.length=true→f t=fr0 t)∧st0.obs.length≤s.obs.length,n,l,hl,⟨h0,fun t _ hi=>AV.inert_cut hi (Nat.le_refl _) l,by show st0.obs.length≤((st0.obs.take _).map _).length;rw[List.length_map,List.length_take];omega⟩,fun m f s ⟨hJ,ha,hb⟩=> ?_⟩
 have hf:f=mixF c st0.obs.length fr0 f:=funext fun t=>by
  unfold mixF
  split
  ·rename_i e
   simp only[Bool.and_eq_true] at e
   exact ha t e.1 e.2
  ·rfl
 refine twR_mono (twR_kp hb (hs m f s hJ hf)) fun x f' s' ⟨h,h1,h2⟩=> ?_
 have hag : ∀t,nwT c t=true→(fr0 t).inert st0.obs.length=true→f' t=fr0 t:=fun t ht hi=>by
  have e:=ha t ht hi
  rw[h1 t ht (by rw[e];exact hi),e]
 cases x with
 | normal=>
   obtain⟨m',l,q1,q2,q3⟩:=h
   refine⟨m',l,q1,q2,q3,fun t ht hi=> ?_,?_⟩
   ·show(f' t).cut _ l=fr0 t
    rw[hag t ht hi];exact AV.inert_cut hi (Nat.le_refl _) l
   ·show st0.obs.length≤((s'.obs.take _).map _).length
    rw[List.length_map,List.length_take];omega
 | exit i=>exact h
 | ret=>exact h
theorem loop_0{c:RCode}{Q:CExit→TFr→TS→Prop}{fr0:TFr}{st0:TS}(J:Nat→TS→Prop)(n:Nat)(l:List Nat)(hl:nodupB l=true)(h0:J n (st0.cut st0.obs.length l))(hs : ∀m f s,J m s→twR Z T X D R c (mixF c st0.obs.length fr0 f) s (loopT st0.obs.length (fun m _ s=>J m s) m Q)):LoopS Z T X D R c fr0 st0 Q:=
 loop_rule (fun m _ s=>J m s) n l hl h0 fun m f s hJ hf=>by rw[hf];exact hs m f s hJ
theorem loop_1{c:RCode}{Q:CExit→TFr→TS→Prop}{fr0:TFr}{st0:TS}(d:Nat)(J:Nat→AV→TS→Prop)(n:Nat)(l:List Nat)(hl:nodupB l=true)(h0:J n ((fr0 d).cut st0.obs.length l) (st0.cut st0.obs.length l))(hs : ∀m a f s,J m a s→twR Z T X D R c (putA (mixF c st0.obs.length fr0 f) (some d) a) s (loopT st0.obs.length (fun m f s=>J m (f d) s) m Q)):LoopS Z T X D R c fr0 st0 Q:=
 loop_rule (fun m f s=>J m (f d) s) n l hl h0 fun m f s hJ hf=>by
  have e:f=putA (mixF c st0.obs.length fr0 f) (some d) (f d):=funext fun t=>by
   rw[putA_if]
   split
   ·rename_i e;rw[e]
   ·rw[←hf]
  rw[e]
  exact hs m (f d) f s hJ
theorem loop_2{c:RCode}{Q:CExit→TFr→TS→Prop}{fr0:TFr}{st0:TS}(d d2:Nat)(J:Nat→AV→AV→TS→Prop)(n:Nat)(l:List Nat)(hl:nodupB l=true)(h0:J n ((fr0 d).cut st0.obs.length l) ((fr0 d2).cut st0.obs.length l) (st0.cut st0.obs.length l))(hs : ∀m a b f s,J m a b s→twR Z T X D R c (putA (putA (mixF c st0.obs.length fr0 f) (some d2) b) (some d) a) s (loopT st0.obs.length (fun m f s=>J m (f d) (f d2) s) m Q)):LoopS Z T X D R c fr0 st0 Q:=
 loop_rule (fun m f s=>J m (f d) (f d2) s) n l hl h0 fun m f s hJ hf=>by
  have e:f=putA (putA (mixF c st0.obs.length fr0 f) (some d2) (f d2)) (some d) (f d):=funext fun t=>by
   rw[putA_if,putA_if]
   split
   ·rename_i e;rw[e]
   ·split
    ·rename_i e;rw[e]
    ·rw[←hf]
  rw[e]
  exact hs m (f d) (f d2) f s hJ
theorem loop_once{c:RCode}{Q:CExit→TFr→TS→Prop}{fr0:TFr}{st0:TS}(l:List Nat)(hl:nodupB l=true)(h : ∀f,twR Z T X D R c (mixF c st0.obs.length fr0 f) (st0.cut st0.obs.length l) (loopT st0.obs.length (fun _ _ _=>False) 0 Q)):LoopS Z T X D R c fr0 st0 Q:=
 loop_rule (fun m f s=>m=0∧s=st0.cut st0.obs.length l) 0 l hl ⟨rfl,rfl⟩ fun m f s ⟨e1,e2⟩ hf=>by
  subst e1 e2
  rw[hf]
  exact twR_mono (h f) fun x f' s' h=>loopT_mono (fun _ _ _ h=>h.elim) (fun _ _ _ h=>h) h
theorem ifT_c{b:Bool}{yes no:Prop}(h1:b=true→yes)(h2:b=false→no):ifT b yes no:=by
 cases b
 ·exact h2 rfl
 ·exact h1 rfl
end Can
end Go.Proofs.YtnankhlanilbbaaGreat
end
