/- Runs over trees: reads and writes. Over any program. Runs over trees: an operation. Over any program. Runs over trees: calls. Over any program. -/
import Derived.Test.YtnankhlanilbbaaGreatZi
section
namespace Go.Proofs.YtnankhlanilbbaaGreat
namespace Can
open Go Go.RowKit
set_option linter.unusedSimpArgs false
set_option linter.unusedVariables false
def tlop (fr:TFr)(st:TS):LOp→Option AV
 | .ld x=>match tev fr x with
   | .ptr o off=>match st.obs[o]? with
     | some (_,_,cs)=>(cs[off]?).map fun x=> .r (.c x)
     | none=>none
   | .eptr _ g off=>(g[off]?).map fun x=> .r (.c (.s x))
   | _=>none
 | .lda n x=>match tev fr x with
   | .ptr o off=>match st.obs[o]? with
     | some (_,_,cs)=>if off+n≤cs.length then some (.r (.agg ((cs.drop off).take n))) else none
     | none=>none
   | .eptr _ g off=>if off+n≤g.length then some (.r (.agg (((g.drop off).take n).map .s))) else none
   | _=>none
 | _=>none
def CV.stamp:CV→List Nat
 | .own t _ _ _=> [t]
 | _=> []
def CV.fz:CV→Option SV
 | .s x=>some x
 | .own _ _ sz gs=>some (rowS sz gs)
 | .bad=>none
def allFz:List CV→Option (List SV)
 | []=>some []
 | x::r=>match x.fz,allFz r with
   | some y,some ys=>some (y::ys)
   | _,_=>none
def fzG (l:List Nat):Nat→SA:=fun t=>if t∈l then .fz else .keep
def killG(o:Option Nat):Nat→SA:=fun t=>if o=some t then .kill else .keep
def fzF (l:List Nat)(fr:TFr):TFr:=match l with
 | []=>fr
 | l=>fr.act (fzG l)
def fzS (l:List Nat)(st:TS):TS:=match l with
 | []=>st
 | l=>st.act (fzG l)
def grps (sz:Nat):List (Option (List CV))→Option (List (List CV))
 | []=>some []
 | some cs::r=>if cs.length=sz then (grps sz r).map (cs:: ·) else none
 | none::_=>none
def allGz:List (List CV)→Option (List (List SV))
 | []=>some []
 | g::r=>match allFz g,allGz r with
   | some y,some ys=>some (y::ys)
   | _,_=>none
def taop (fr:TFr)(st:TS):AOp→Option (AV×TFr×TS)
 | .new e z=>(zCV z).map fun cs=>(.ptr st.obs.length 0,fr,⟨st.nt,st.obs++ [(0,e,cs)]⟩)
 | .box e x=>(tev fr x).cvs.map fun cs=>(.ptr st.obs.length 0,fr,⟨st.nt,st.obs++ [(0,e,cs)]⟩)
 | .bsl e sz n z ps=>if ps.map (·.1)=List.range n∧0<n∧n*sz≤16777216∧n≤16777216 then
    match grps sz (ps.map fun p=>(tev fr p.2).cvs) with
    | some gs=>match allGz gs with
      | some hs=>some (.r (.c (.own st.nt e sz hs)),fzF (gs.flatten.flatMap CV.stamp) fr,⟨st.nt+1,(fzS (gs.flatten.flatMap CV.stamp) st).obs⟩)
      | none=>none
    | none=>none
   else none
 | _=>none
def AV.growOf:AV→Option (Option (Nat×TypeId×Nat)×List (List SV))
 | .r (.c (.own t e sz gs))=>some (some (t,e,sz),gs)
 | .r (.c (.s (.row _ [])))=>some (none,[])
 | _=>none
def growOk(e sz:TypeId):Option (Nat×TypeId×Nat)→Prop
 | none=>True
 | some (_,e',sz')=>e'=e∧sz'=sz
instance {e sz:TypeId} : ∀ {o:Option (Nat×TypeId×Nat)},Decidable (growOk e sz o)
 | none=>inferInstanceAs (Decidable True)
 | some (_,e',sz')=>inferInstanceAs (Decidable (e'=e∧sz'=sz))
def kilF (o:Option (Nat×TypeId×Nat))(fr:TFr):TFr:=match o with
 | none=>fr
 | some (t,_)=>fr.act (killG (some t))
def kilS (o:Option (Nat×TypeId×Nat))(st:TS):TS:=match o with
 | none=>st
 | some (t,_)=>st.act (killG (some t))
def twop (fr:TFr)(st:TS):WOp→Option (AV×TFr×TS)
 | .st n x v=>match tev fr x,(tev fr v).cvs with
   | .ptr o off,some us=>match st.obs[o]? with
     | some (ver,e,cs)=>if us.length=n∧off+n≤cs.length then some (.bad,fr,⟨st.nt,st.obs.set o (ver+1,e,cs.take off++us++cs.drop (off+us.length))⟩) else none
     | none=>none
   | _,_=>none
 | .app e sz bytes s x=>match (tev fr s).growOf,(tev fr x).rowOf with
   | some (o,gs),some (_,z,hs)=>if growOk e sz o∧srcOk sz z∧(gs.length+hs.length)*bytes≤140737488355328∧gs.length+hs.length≤maxLen then
      some (.r (.c (.own st.nt e sz (gs++hs))),kilF o fr,⟨st.nt+1,(kilS o st).obs⟩) else none
   | _,_=>none
 | _=>none
structure Stp(K:CH)(st:TS)(E:TE)(K':CH)(st':TS)(E':TE):Prop where
 hid:E'.hid=E.hid
 rho : ∀o b,E.ρ o=some b→E'.ρ o=some b
 ver : ∀o v e cs,st.obs[o]? = some (v,e,cs)→∃v' cs',st'.obs[o]? = some (v',e,cs')∧v≤v'∧(v'=v→∀b,E.ρ o=some b→K'.ob b=K.ob b)
variable {T:Tbl} {Z:TP} {K0 K K' K'':CH} {sp:Option Nat} {st st' st'':TS} {fr:TFr} {cfr:Fr} {E E' E'':TE}
theorem Stp.refl:Stp K st E K st E:=⟨rfl,fun _ _ h=>h,fun o v e cs h=>⟨v,cs,h,Nat.le_refl _,fun _ _ _=>rfl⟩⟩
theorem Stp.trans(h:Stp K st E K' st' E')(g:Stp K' st' E' K'' st'' E''):Stp K st E K'' st'' E'':=⟨g.hid.trans h.hid,fun o b q=>g.rho o b (h.rho o b q),fun o v e cs q=>by
 obtain⟨v1,cs1,k1,k2,k3⟩:=h.ver o v e cs q
 obtain⟨v2,cs2,l1,l2,l3⟩:=g.ver o v1 e cs1 k1
 exact⟨v2,cs2,l1,Nat.le_trans k2 l2,fun e b hb=>(l3 (by omega) b (h.rho o b hb)).trans (k3 (by omega) b hb)⟩⟩
theorem tlop_sound(h:TR Z K0 sp K st fr cfr E){x:LOp}{a:AV}(hx:tlop fr st x=some a) : ∃v,lop K (evF cfr) x=some v∧AVR K E a v:=by
 cases x with
 | ld x=>
   simp only[tlop] at hx
   have hr:=tev_rel h.frm x
   split at hx
   ·rename_i o off e
    rw[e] at hr
    obtain⟨l,hl,hv⟩:=hr.ptr_inv
    split at hx
    ·rename_i ver ty cs ho
     obtain⟨b,os,k1,k2,k3⟩:=h.obs o _ _ _ ho
     rw[hl] at k1;cases k1
     cases hc:cs[off]? with
     | none=>rw[hc] at hx;cases hx
     | some y=>
       rw[hc] at hx;cases hx
       obtain⟨v,q1,q2⟩:=k3.get hc
       exact⟨v,by simp only[lop,hv,k2,q1], .r (.c q2)⟩
    ·cases hx
   ·rename_i t g off e
    rw[e] at hr
    obtain⟨b,base,os,ty,kd,hb,ho,hl,hs,hv⟩:=hr.eptr_inv
    cases hc:g[off]? with
    | none=>rw[hc] at hx;cases hx
    | some y=>
      rw[hc] at hx;cases hx
      obtain⟨v,q1,q2⟩:=hs.get hc
      have hlt:=(List.getElem?_eq_some_iff.1 hc).1
      rw[List.getElem?_take_of_lt hlt,List.getElem?_drop] at q1
      exact⟨v,by simp only[lop,hv,ho,q1], .r (.c (.s q2))⟩
   ·cases hx
 | lda n x=>
   simp only[tlop] at hx
   have hr:=tev_rel h.frm x
   split at hx
   ·rename_i o off e
    rw[e] at hr
    obtain⟨l,hl,hv⟩:=hr.ptr_inv
    split at hx
    ·rename_i ver ty cs ho
     obtain⟨b,os,k1,k2,k3⟩:=h.obs o _ _ _ ho
     rw[hl] at k1;cases k1
     split at hx
     ·rename_i hle
      cases hx
      exact⟨_,by simp only[lop,hv,k2];rw[if_pos (by rw[k3.len];exact hle)], .r (.agg ((k3.drop off).take n))⟩
     ·cases hx
    ·cases hx
   ·rename_i t g off e
    rw[e] at hr
    obtain⟨b,base,os,ty,kd,hb,ho,hl,hs,hv⟩:=hr.eptr_inv
    split at hx
    ·rename_i hle
     cases hx
     have q:=(hs.drop off).take n
     have e:(((os.drop base).take g.length).drop off).take n=(os.drop (base+off)).take n:=by
      rw[List.drop_take,List.take_take,List.drop_drop,Nat.min_eq_left (by omega)]
     rw[e] at q
     exact⟨_,by simp only[lop,hv,ho];rw[if_pos (by omega)], .r (.agg (q.map fun _ _ q=> .s q))⟩
    ·cases hx
   ·cases hx
 | _=>cases hx
theorem CV.act_keep{x:CV}:x.act (fun _=> .keep)=x:=by cases x<;>rfl
theorem RV.act_keep{x:RV}:x.act (fun _=> .keep)=x:=by
 cases x with
 | c x=>exact congrArg RV.c CV.act_keep
 | agg cs=>exact congrArg RV.agg ((List.map_congr_left fun x _=>CV.act_keep).trans (List.map_id' cs))
theorem AV.act_keep{x:AV}:x.act (fun _=> .keep)=x:=by
 cases x with
 | r x=>exact congrArg AV.r RV.act_keep
 | eptr t g off=>cases t<;>rfl
 | tup l=>exact congrArg AV.tup ((List.map_congr_left fun x _=>RV.act_keep).trans (List.map_id' l))
 | _=>rfl
theorem TFr.act_keep{fr:TFr}:fr.act (fun _=> .keep)=fr:=funext fun t=>AV.act_keep
theorem TS.act_keep{st:TS}:(st.act (fun _=> .keep)).obs=st.obs:=by
 show st.obs.map _=_
 refine(List.map_congr_left fun x _=> ?_).trans (List.map_id' _)
 obtain⟨v,e,cs⟩:=x
 show(v,e,cs.map (CV.act fun _=> .keep))=(v,e,cs)
 rw[(List.map_congr_left fun x _=>CV.act_keep).trans (List.map_id' cs)]
theorem fzG_nil:fzG []=fun _=> .keep:=by funext t;simp[fzG]
theorem fzF_eq{l:List Nat}:fzF l fr=fr.act (fzG l):=by
 cases l with
 | nil=>rw[fzG_nil,TFr.act_keep];rfl
 | cons=>rfl
theorem fzS_eq{l:List Nat}:(fzS l st).obs=(st.act (fzG l)).obs:=by
 cases l with
 | nil=>rw[fzG_nil,TS.act_keep];rfl
 | cons=>rfl
theorem TR.step(h:TR Z K0 sp K st fr cfr E){g:Nat→SA}(m:Mv K E g K' E'){nt':Nat}(hnx:K.nx≤K'.nx)(hk : ∀b,b<K.nx→(∀t,E.σ t≠some b)→K'.ob b=K.ob b)(hhid:E'.hid=E.hid)(hσ : ∀t b,E'.σ t=some b→K0.nx≤b∧b<K'.nx∧t<nt'∧∀o,E.ρ o≠some b)(hinj : ∀t t' b,E'.σ t=some b→E'.σ t'=some b→t=t')(hρ:E'.ρ=E.ρ):TR Z K0 sp K' ⟨nt',(st.act g).obs⟩ (fr.act g) cfr E':=by
 have hold : ∀b,b<K0.nx→K'.ob b=K.ob b:=fun b hb=>hk b (Nat.lt_of_lt_of_le hb h.nx) fun t ht=>by have:=(h.sig t b ht).1;omega
 refine⟨Nat.le_trans h.nx hnx,fun b hb hp=>(hold b hb).trans (h.keep b hb hp),fun b hb=> ?_,fun b hb=>h.hid b (by rwa [hhid] at hb),fun t b q=> ?_,hinj,fun t o b q=> ?_,fun o b q=> ?_,fun o o' b q q'=> ?_,fun o v e cs q=> ?_,fun t=>(h.frm t).mv m⟩
 ·obtain⟨k1,k2,k3⟩:=h.prot b hb
  exact⟨k1,k2,(hold b k1).trans k3⟩
 ·obtain⟨k1,k2,k3,_⟩:=hσ t b q;exact⟨k1,k2,k3⟩
 ·rw[hρ];exact(hσ t b q).2.2.2 o
 ·rw[hρ] at q
  obtain⟨k1,k2,k3⟩:=h.rho o b q
  exact⟨Nat.lt_of_lt_of_le k1 hnx,k2,by show o<(st.obs.map _).length;rw[List.length_map];exact k3⟩
 ·rw[hρ] at q q';exact h.rinj o o' b q q'
 ·have q:(st.obs.map fun(v,e,cs)=>(v,e,cs.map (CV.act g)))[o]? = some (v,e,cs):=q
  rw[List.getElem?_map] at q
  cases hq:st.obs[o]? with
  | none=>rw[hq] at q;cases q
  | some y=>
    rw[hq] at q
    obtain⟨v1,e1,cs1⟩:=y
    cases q
    obtain⟨b,os,k1,k2,k3⟩:=h.obs o _ _ _ hq
    refine⟨b,os,by rw[hρ];exact k1,(hk b (h.rho o b k1).1 fun t ht=>h.sr t o b ht k1).trans k2,k3.map fun _ _ q=>q.mv m⟩
theorem Stp.act{g:Nat→SA}(hhid:E'.hid=E.hid)(hρ:E'.ρ=E.ρ)(ho : ∀o b,E.ρ o=some b→K'.ob b=K.ob b){nt':Nat}:Stp K st E K' ⟨nt',(st.act g).obs⟩ E':=⟨hhid,fun o b h=>by rw[hρ];exact h,fun o v e cs h=>⟨v,cs.map (CV.act g),by
 show(st.obs.map _)[o]? = _
 rw[List.getElem?_map,h];rfl,Nat.le_refl _,fun _ b hb=>ho o b hb⟩⟩
theorem TR.fz(h:TR Z K0 sp K st fr cfr E)(l:List Nat) : ∃E',TR Z K0 sp K ⟨st.nt,(st.act (fzG l)).obs⟩ (fr.act (fzG l)) cfr E'∧Mv K E (fzG l) K E'∧Stp K st E K ⟨st.nt,(st.act (fzG l)).obs⟩ E'∧E'=⟨fun t=>if t∈l then none else E.σ t,E.ρ,E.hid⟩:=by
 have hs : ∀t b,(if t∈l then none else E.σ t)=some b→t∉l∧E.σ t=some b:=fun t b q=>by
  split at q
  ·cases q
  ·rename_i hn;exact⟨hn,q⟩
 have m:Mv K E (fzG l) K ⟨fun t=>if t∈l then none else E.σ t,E.ρ,E.hid⟩:=by
  refine⟨fun b hb=>⟨⟨hb.1,hb.2.1,fun t q=>hb.2.2.1 t (hs t b q).2,hb.2.2.2⟩,rfl⟩,fun t b q e=>⟨?_,rfl⟩,fun t b q e=>⟨?_,rfl⟩,fun o b q=>q⟩
  ·show(if t∈l then none else E.σ t)=some b
   unfold fzG at e
   split at e
   ·cases e
   ·rename_i hn;rw[if_neg hn];exact q
  ·unfold fzG at e
   split at e
   ·rename_i hn
    obtain⟨k1,k2,k3⟩:=h.sig t b q
    refine⟨k2,fun hh=>by have:=(h.hid b hh).1;omega,fun t' q'=> ?_,fun o=>h.sr t o b q⟩
    obtain⟨g1,g2⟩:=hs t' b q'
    exact g1 (h.inj t t' b q g2▸hn)
   ·cases e
 exact⟨_,h.step m (Nat.le_refl _) (fun _ _ _=>rfl) rfl (fun t b q=>by
  obtain⟨g1,g2⟩:=hs t b q
  obtain⟨k1,k2,k3⟩:=h.sig t b g2
  exact⟨k1,k2,k3,fun o=>h.sr t o b g2⟩) (fun t t' b q q'=>h.inj t t' b (hs t b q).2 (hs t' b q').2) rfl,m,Stp.act (E:=E) (E':=⟨fun t=>if t∈l then none else E.σ t,E.ρ,E.hid⟩) rfl rfl (fun _ _ _=>rfl),rfl⟩
theorem TR.row(h:TR Z K0 sp K st fr cfr E){os:List Value}{e:TypeId}{kd:Kd}{sz:Nat}{gs:List (List SV)}(hne:gs≠ []∧gs.length≤maxLen)(hk:kd.isRo=false)(hg : ∀g∈gs,g.length=sz)(hs:SVRs K (Frz K E) gs.flatten os) : ∃E',TR Z K0 sp (K.new (.cells os e kd)) ⟨st.nt+1,st.obs⟩ fr cfr E'∧Stp K st E (K.new (.cells os e kd)) ⟨st.nt+1,st.obs⟩ E'∧AVR (K.new (.cells os e kd)) E' (.r (.c (.own st.nt e sz gs))) (.slice (some ⟨K.nx,0,none⟩) gs.length gs.length):=by
 have hnt : ∀b,E.σ st.nt≠some b:=fun b q=>by have:=(h.sig _ b q).2.2;omega
 have hob : ∀b,b<K.nx→(K.new (.cells os e kd)).ob b=K.ob b:=fun b hb=>new_ne (by omega)
 have hsg : ∀t b,(if t=st.nt then some K.nx else E.σ t)=some b→(t=st.nt∧b=K.nx)∨(t≠st.nt∧E.σ t=some b):=fun t b q=>by
  split at q
  ·rename_i e;cases q;exact .inl ⟨e,rfl⟩
  ·rename_i e;exact .inr ⟨e,q⟩
 have m:Mv K E (fun _=> .keep) (K.new (.cells os e kd)) ⟨fun t=>if t=st.nt then some K.nx else E.σ t,E.ρ,E.hid⟩:=by
  refine⟨fun b hb=>⟨⟨Nat.lt_succ_of_lt hb.1,hb.2.1,fun t q=> ?_,hb.2.2.2⟩,hob b hb.1⟩,fun t b q _=>⟨?_,hob b (h.sig t b q).2.1⟩,(fun _ _ _ q=>(by cases q)),fun o b q=>q⟩
  ·have:=hb.1
   rcases hsg t b q with ⟨_,e⟩ | ⟨_,e⟩
   ·omega
   ·exact hb.2.2.1 t e
  ·show(if t=st.nt then some K.nx else E.σ t)=some b
   rw[if_neg (fun e=>hnt b (by rw[←e];exact q))];exact q
 have ht:=h.step m (nt':=st.nt+1) (Nat.le_succ _) (fun b hb _=>hob b hb) rfl (fun t b q=>by
  rcases hsg t b q with ⟨e1,e2⟩ | ⟨e1,e2⟩
  ·subst e2
   exact⟨h.nx,Nat.lt_succ_self _,by omega,fun o q=>by have:=(h.rho o _ q).1;omega⟩
  ·obtain⟨k1,k2,k3⟩:=h.sig t b e2
   exact⟨k1,Nat.lt_succ_of_lt k2,by omega,fun o=>h.sr t o b e2⟩) (fun t t' b q q'=>by
  rcases hsg t b q with ⟨e1,e2⟩ | ⟨e1,e2⟩<;>rcases hsg t' b q' with ⟨f1,f2⟩ | ⟨f1,f2⟩
  ·omega
  ·have:=(h.sig t' b f2).2.1;omega
  ·have:=(h.sig t b e2).2.1;omega
  ·exact h.inj t t' b e2 f2) rfl
 rw[TFr.act_keep,TS.act_keep] at ht
 refine⟨_,ht,?_, .r (.c (.own hne (if_pos rfl) (new_ob rfl) hk hg (hs.mv m.frz)))⟩
 have:=Stp.act (K:=K) (st:=st) (E:=E) (K':=K.new (.cells os e kd)) (E':=⟨fun t=>if t=st.nt then some K.nx else E.σ t,E.ρ,E.hid⟩) (g:=fun _=> .keep) (nt':=st.nt+1) rfl rfl fun o b q=>hob b (h.rho o b q).1
 rwa [TS.act_keep] at this
theorem TR.kil(h:TR Z K0 sp K st fr cfr E)(t:Nat){o:CObj} : ∃E',TR Z K0 sp (match E.σ t with | some b=>K.set b o | none=>K) ⟨st.nt,(st.act (killG (some t))).obs⟩ (fr.act (killG (some t))) cfr E'∧Mv K E (killG (some t)) (match E.σ t with | some b=>K.set b o | none=>K) E'∧Stp K st E (match E.σ t with | some b=>K.set b o | none=>K) ⟨st.nt,(st.act (killG (some t))).obs⟩ E':=by
 obtain⟨K',hK'⟩ : ∃K',(match E.σ t with | some b=>K.set b o | none=>K)=K':=⟨_,rfl⟩
 rw[hK']
 have hnx:K'.nx=K.nx:=by rw[←hK'];cases E.σ t<;>rfl
 have hob : ∀b,E.σ t≠some b→K'.ob b=K.ob b:=fun b hb=>by
  rw[←hK']
  cases he:E.σ t with
  | none=>rfl
  | some b'=>exact set_ne (fun e=>hb (by rw[he,e]))
 have hs : ∀t' b,(if t'=t then none else E.σ t')=some b→t'≠t∧E.σ t'=some b:=fun t' b q=>by
  split at q
  ·cases q
  ·rename_i hn;exact⟨hn,q⟩
 have hne : ∀t' b,t'≠t→E.σ t'=some b→E.σ t≠some b:=fun t' b hn q q'=>hn (h.inj t' t b q q')
 have m:Mv K E (killG (some t)) K' ⟨fun t'=>if t'=t then none else E.σ t',E.ρ,E.hid⟩:=by
  refine⟨fun b hb=>⟨⟨by rw[hnx];exact hb.1,hb.2.1,fun t' q=>hb.2.2.1 t' (hs t' b q).2,hb.2.2.2⟩,hob b (hb.2.2.1 t)⟩,fun t' b q e=> ?_,fun t' b q e=> ?_,fun o b q=>q⟩
  ·unfold killG at e
   split at e
   ·cases e
   ·rename_i hn
    have hn:t'≠t:=fun e=>hn (by rw[e])
    exact⟨(if_neg hn).trans q,hob b (hne t' b hn q)⟩
  ·unfold killG at e
   split at e<;>cases e
 refine⟨_,h.step m (by rw[hnx];exact Nat.le_refl _) (fun b _ hb=>hob b (hb t)) rfl (fun t' b q=> ?_) (fun t1 t2 b q q'=>h.inj t1 t2 b (hs t1 b q).2 (hs t2 b q').2) rfl,m,Stp.act (E:=E) (E':=⟨fun t'=>if t'=t then none else E.σ t',E.ρ,E.hid⟩) rfl rfl fun o b q=>hob b fun q'=>h.sr t o b q' q⟩
 obtain⟨g1,g2⟩:=hs t' b q
 obtain⟨k1,k2,k3⟩:=h.sig t' b g2
 exact⟨k1,by rw[hnx];exact k2,k3,fun o=>h.sr t' o b g2⟩
theorem TR.kil0(h:TR Z K0 sp K st fr cfr E)(t:Nat) : ∃E',TR Z K0 sp K ⟨st.nt,(st.act (killG (some t))).obs⟩ (fr.act (killG (some t))) cfr E'∧Mv K E (killG (some t)) K E'∧Stp K st E K ⟨st.nt,(st.act (killG (some t))).obs⟩ E'∧∀b,E.σ t=some b→K0.nx≤b∧b<K.nx∧(∀t,E'.σ t≠some b)∧∀o,E'.ρ o≠some b:=by
 have hs : ∀t' b,(if t'=t then none else E.σ t')=some b→t'≠t∧E.σ t'=some b:=fun t' b q=>by
  split at q
  ·cases q
  ·rename_i hn;exact⟨hn,q⟩
 have m:Mv K E (killG (some t)) K ⟨fun t'=>if t'=t then none else E.σ t',E.ρ,E.hid⟩:=by
  refine⟨fun b hb=>⟨⟨hb.1,hb.2.1,fun t' q=>hb.2.2.1 t' (hs t' b q).2,hb.2.2.2⟩,rfl⟩,fun t' b q e=> ?_,fun t' b q e=> ?_,fun o b q=>q⟩
  ·unfold killG at e
   split at e
   ·cases e
   ·rename_i hn
    have hn:t'≠t:=fun e=>hn (by rw[e])
    exact⟨(if_neg hn).trans q,rfl⟩
  ·unfold killG at e
   split at e<;>cases e
 refine⟨_,h.step m (Nat.le_refl _) (fun b _ hb=>rfl) rfl (fun t' b q=> ?_) (fun t1 t2 b q q'=>h.inj t1 t2 b (hs t1 b q).2 (hs t2 b q').2) rfl,m,Stp.act (E:=E) (E':=⟨fun t'=>if t'=t then none else E.σ t',E.ρ,E.hid⟩) rfl rfl fun o b q=>rfl,fun b q=>⟨(h.sig t b q).1,(h.sig t b q).2.1,fun t' q'=>(hs t' b q').1 (h.inj t' t b (hs t' b q').2 q),fun o=>h.sr t o b q⟩⟩
 obtain⟨g1,g2⟩:=hs t' b q
 obtain⟨k1,k2,k3⟩:=h.sig t' b g2
 exact⟨k1,k2,k3,fun o=>h.sr t' o b g2⟩
theorem TR.obj(h:TR Z K0 sp K st fr cfr E){os:List Value}{e:TypeId}{cs:List CV}(hs:R2 (CVR K E) cs os) : ∃E',TR Z K0 sp (K.new (.cells os e .ex)) ⟨st.nt,st.obs++ [(0,e,cs)]⟩ fr cfr E'∧Stp K st E (K.new (.cells os e .ex)) ⟨st.nt,st.obs++ [(0,e,cs)]⟩ E'∧AVR (K.new (.cells os e .ex)) E' (.ptr st.obs.length 0) (.pointer (some ⟨K.nx,0,none⟩)):=by
 have hob : ∀b,b<K.nx→(K.new (.cells os e .ex)).ob b=K.ob b:=fun b hb=>new_ne (by omega)
 have hsg : ∀o b,(if o=st.obs.length then some K.nx else E.ρ o)=some b→(o=st.obs.length∧b=K.nx)∨(o≠st.obs.length∧E.ρ o=some b):=fun t b q=>by
  split at q
  ·rename_i e;cases q;exact .inl ⟨e,rfl⟩
  ·rename_i e;exact .inr ⟨e,q⟩
 have hlo : ∀o b,E.ρ o=some b→(if o=st.obs.length then some K.nx else E.ρ o)=some b:=fun o b q=>by
  rw[if_neg (fun e=>by have:=(h.rho o b q).2.2;omega)];exact q
 have m:Mv K E (fun _=> .keep) (K.new (.cells os e .ex)) ⟨E.σ,fun o=>if o=st.obs.length then some K.nx else E.ρ o,E.hid⟩:=by
  refine⟨fun b hb=>⟨⟨Nat.lt_succ_of_lt hb.1,hb.2.1,hb.2.2.1,fun t q=> ?_⟩,hob b hb.1⟩,fun t b q _=>⟨q,hob b (h.sig t b q).2.1⟩,(fun _ _ _ q=>(by cases q)),hlo⟩
  have:=hb.1
  rcases hsg t b q with ⟨_,e⟩ | ⟨_,e⟩
  ·omega
  ·exact hb.2.2.2 t e
 have hmv : ∀ {x v},AVR K E x v→AVR (K.new (.cells os e .ex)) ⟨E.σ,fun o=>if o=st.obs.length then some K.nx else E.ρ o,E.hid⟩ x v:=fun q=>by
  have:=q.mv m;rwa [AV.act_keep] at this
 have hcv : ∀x v,CVR K E x v→CVR (K.new (.cells os e .ex)) ⟨E.σ,fun o=>if o=st.obs.length then some K.nx else E.ρ o,E.hid⟩ x v:=fun x v q=>by
  have:=q.mv m;rwa [CV.act_keep] at this
 refine⟨⟨E.σ,fun o=>if o=st.obs.length then some K.nx else E.ρ o,E.hid⟩,⟨Nat.le_succ_of_le h.nx,fun b hb hp=> ?_,fun b hb=> ?_,h.hid,fun t b q=> ?_,h.inj,fun t o b q q'=> ?_,fun o b q=> ?_,fun o o' b q q'=> ?_,fun o v e' cs' q=> ?_,fun t=>hmv (h.frm t)⟩,⟨rfl,hlo,fun o v e' cs' q=> ?_⟩, .ptr (if_pos rfl)⟩
 ·have:=h.nx;exact(hob b (by omega)).trans (h.keep b hb hp)
 ·obtain⟨k1,k2,k3⟩:=h.prot b hb
  have:=h.nx;exact⟨k1,k2,(hob b (by omega)).trans k3⟩
 ·obtain⟨k1,k2,k3⟩:=h.sig t b q;exact⟨k1,Nat.lt_succ_of_lt k2,k3⟩
 ·rcases hsg o b q' with ⟨e1,e2⟩ | ⟨e1,e2⟩
  ·have:=(h.sig t b q).2.1;omega
  ·exact h.sr t o b q e2
 ·show b<K.nx+1∧_∧o<(st.obs++ [(0,e,cs)]).length
  rw[List.length_append,List.length_singleton]
  rcases hsg o b q with ⟨e1,e2⟩ | ⟨e1,e2⟩
  ·have:=h.nx;exact⟨by omega, .inl (by omega),by omega⟩
  ·obtain⟨k1,k2,k3⟩:=h.rho o b e2;exact⟨by omega,k2,by omega⟩
 ·rcases hsg o b q with ⟨e1,e2⟩ | ⟨e1,e2⟩<;>rcases hsg o' b q' with ⟨f1,f2⟩ | ⟨f1,f2⟩
  ·omega
  ·have:=(h.rho o' b f2).1;omega
  ·have:=(h.rho o b e2).1;omega
  ·exact h.rinj o o' b e2 f2
 ·have q:(st.obs++ [(0,e,cs)])[o]? = some (v,e',cs'):=q
  rw[List.getElem?_append] at q
  split at q
  ·obtain⟨b,os',k1,k2,k3⟩:=h.obs o v e' cs' q
   exact⟨b,os',hlo o b k1,(hob b (h.rho o b k1).1).trans k2,k3.mono hcv⟩
  ·rename_i hlt
   have ho:o=st.obs.length:=by
    have:=(List.getElem?_eq_some_iff.1 q).1
    simp at this;omega
   subst ho
   simp at q
   obtain⟨rfl,rfl,rfl⟩:=q
   exact⟨K.nx,os,if_pos rfl,new_ob rfl,hs.mono hcv⟩
 ·refine⟨v,cs',?_,Nat.le_refl _,fun _ b hb=>hob b (h.rho o b hb).1⟩
  show(st.obs++ [(0,e,cs)])[o]? = _
  rw[List.getElem?_append_left (List.getElem?_eq_some_iff.1 q).1];exact q
theorem TR.sto(h:TR Z K0 sp K st fr cfr E){o b v:Nat}{e:TypeId}{cs us:List CV}{os:List Value}(hρ:E.ρ o=some b)(ho:st.obs[o]? = some (v,e,cs))(hs:R2 (CVR K E) us os):TR Z K0 sp (K.set b (.cells os e .ex)) ⟨st.nt,st.obs.set o (v+1,e,us)⟩ fr cfr E∧Stp K st E (K.set b (.cells os e .ex)) ⟨st.nt,st.obs.set o (v+1,e,us)⟩ E:=by
 have hob : ∀l,l≠b→(K.set b (.cells os e .ex)).ob l=K.ob l:=fun l hl=>set_ne hl
 have m:Mv K E (fun _=> .keep) (K.set b (.cells os e .ex)) E:=by
  refine⟨fun l hl=>⟨hl,hob l fun e=>hl.2.2.2 o (e▸hρ)⟩,fun t l q _=>⟨q,hob l fun e=>h.sr t o l q (e▸hρ)⟩,(fun _ _ _ q=>(by cases q)),fun _ _ q=>q⟩
 have hmv : ∀ {x v},AVR K E x v→AVR (K.set b (.cells os e .ex)) E x v:=fun q=>by
  have:=q.mv m;rwa [AV.act_keep] at this
 have hcv : ∀x v,CVR K E x v→CVR (K.set b (.cells os e .ex)) E x v:=fun x v q=>by
  have:=q.mv m;rwa [CV.act_keep] at this
 obtain⟨r1,r2,r3⟩:=h.rho o b hρ
 refine⟨⟨h.nx,fun l hl hp=> ?_,fun l hl=> ?_,h.hid,h.sig,h.inj,h.sr,fun o' l q=> ?_,h.rinj,fun o' v' e' cs' q=> ?_,fun t=>hmv (h.frm t)⟩,⟨rfl,fun _ _ q=>q,fun o' v' e' cs' q=> ?_⟩⟩
 ·refine(hob l fun e=> ?_).trans (h.keep l hl hp)
  subst e
  rcases r2 with r2 | r2
  ·omega
  ·exact hp r2
 ·obtain⟨k1,k2,k3⟩:=h.prot l hl
  refine⟨k1,k2,(hob l fun e=> ?_).trans k3⟩
  subst e
  rcases r2 with r2 | r2
  ·omega
  ·exact k2 r2
 ·obtain⟨k1,k2,k3⟩:=h.rho o' l q
  exact⟨k1,k2,by show o'<(st.obs.set o _).length;rw[List.length_set];exact k3⟩
 ·have q:(st.obs.set o (v+1,e,us))[o']? = some (v',e',cs'):=q
  by_cases ho':o=o'
  ·subst ho'
   rw[List.getElem?_set_self r3] at q
   cases q
   exact⟨b,os,hρ,set_ob,hs.mono hcv⟩
  ·rw[List.getElem?_set_ne ho'] at q
   obtain⟨l,os',k1,k2,k3⟩:=h.obs o' v' e' cs' q
   exact⟨l,os',k1,(hob l fun e=>ho' (h.rinj o o' b hρ (e▸k1))).trans k2,k3.mono hcv⟩
 ·by_cases ho':o=o'
  ·subst ho'
   rw[ho] at q;cases q
   exact⟨v+1,us,List.getElem?_set_self r3,Nat.le_succ _,fun e=>by omega⟩
  ·refine⟨v',cs',(List.getElem?_set_ne ho').trans q,Nat.le_refl _,fun _ l hl=>hob l fun e=>ho' (h.rinj o o' b hρ (e▸hl))⟩
end Can
end Go.Proofs.YtnankhlanilbbaaGreat
end
section
namespace Go.Proofs.YtnankhlanilbbaaGreat
namespace Can
open Go Go.RowKit
set_option linter.unusedSimpArgs false
set_option linter.unusedVariables false
variable {T:Tbl} {Z:TP} {K0 K K' K'':CH} {sp:Option Nat} {st st' st'' st1:TS} {fr fr1:TFr} {cfr:Fr} {E E' E'':TE}
theorem SVRs.app{A:Nat→Prop}{xs ys:List SV}{vs us:List Value}(h:SVRs K A xs vs)(g:SVRs K A ys us):SVRs K A (xs++ys) (vs++us):=(h.r2.app g.r2).svrs
theorem src_rel{a:AV}{v:Value}(h:AVR K E a v){t:Option Nat}{z:Option Nat}{hs:List (List SV)}(hr:a.rowOf=some (t,z,hs)){sz:Nat}(hz:srcOk sz z) : ∃xs,srcCells K sz v=some (xs,hs.length)∧SVRs K (Frz K E) hs.flatten xs∧(∀g∈hs,g.length=sz):=by
 rcases row_rel h hr with ⟨rfl,rfl⟩ | ⟨hne,sz',b,os,ty,kd,rfl,k1,k2,k3,k4,k5,rfl⟩
 ·exact⟨[],rfl, .nil,(fun _ q=>(by cases q))⟩
 ·cases hz
  refine⟨os,?_,k5,k4⟩
  have hl:os.length=hs.length*sz:=by rw[k5.r2.len,flat_len' k4]
  have h0:hs.length≠0:=fun e=>hne.1 (List.length_eq_zero_iff.1 e)
  simp only[srcCells,h0,if_false,k2]
  rw[if_pos (by omega),List.drop_zero,List.take_of_length_le (by omega)]
theorem r2_cells{A:Nat→Prop} : ∀ {xs:List SV} {vs:List Value},R2 (SVR K A) xs vs→vs.all isCell=true
 | _,_, .nil=>rfl
 | _,_, .cons h t=>by rw[List.all_cons,SVR.cell h,r2_cells t];rfl
theorem SVRs.cells{A:Nat→Prop}{xs:List SV}{vs:List Value}(h:SVRs K A xs vs):vs.all isCell=true:=r2_cells h.r2
theorem CVRs.cells{xs:List CV}{vs:List Value}(h:R2 (CVR K E) xs vs):vs.all isCell=true:=by
 induction h with
 | nil=>rfl
 | cons h t ih=>rw[List.all_cons,h.cell,ih];rfl
theorem TR.ren(h:TR Z K0 sp K st fr cfr E)(t:Nat) : ∃E',TR Z K0 sp K ⟨st.nt+1,(st.act (killG (some t))).obs⟩ (fr.act (killG (some t))) cfr E'∧Stp K st E K ⟨st.nt+1,(st.act (killG (some t))).obs⟩ E'∧(∀b,Frz K E b→Frz K E' b)∧E'.σ st.nt=E.σ t:=by
 have hnt : ∀b,E.σ st.nt≠some b:=fun b q=>by have:=(h.sig _ b q).2.2;omega
 have hs : ∀t' b,(if t'=st.nt then E.σ t else if t'=t then none else E.σ t')=some b→(t'=st.nt∧E.σ t=some b)∨(t'≠st.nt∧t'≠t∧E.σ t'=some b):=fun t' b q=>by
  split at q
  ·rename_i e;exact .inl ⟨e,q⟩
  ·rename_i e
   split at q
   ·cases q
   ·rename_i e';exact .inr ⟨e,e',q⟩
 have hfz : ∀b,Frz K E b→Frz K ⟨fun t'=>if t'=st.nt then E.σ t else if t'=t then none else E.σ t',E.ρ,E.hid⟩ b:=fun b hb=>⟨hb.1,hb.2.1,fun t' q=>by
  rcases hs t' b q with ⟨_,e⟩ | ⟨_,_,e⟩
  ·exact hb.2.2.1 t e
  ·exact hb.2.2.1 t' e,hb.2.2.2⟩
 have m:Mv K E (killG (some t)) K ⟨fun t'=>if t'=st.nt then E.σ t else if t'=t then none else E.σ t',E.ρ,E.hid⟩:=by
  refine⟨fun b hb=>⟨hfz b hb,rfl⟩,fun t' b q e=> ?_,fun t' b q e=> ?_,fun o b q=>q⟩
  ·unfold killG at e
   split at e
   ·cases e
   ·rename_i hn
    have hn:t'≠t:=fun e=>hn (by rw[e])
    refine⟨?_,rfl⟩
    show(if t'=st.nt then E.σ t else if t'=t then none else E.σ t')=some b
    rw[if_neg (fun e=>hnt b (by rw[←e];exact q)),if_neg hn];exact q
  ·unfold killG at e
   split at e<;>cases e
 refine⟨_,h.step m (Nat.le_refl _) (fun b _ hb=>rfl) rfl (fun t' b q=> ?_) (fun t1 t2 b q q'=> ?_) rfl,Stp.act (E:=E) (E':=⟨fun t'=>if t'=st.nt then E.σ t else if t'=t then none else E.σ t',E.ρ,E.hid⟩) rfl rfl fun o b q=>rfl,hfz,if_pos rfl⟩
 ·rcases hs t' b q with ⟨e1,e⟩ | ⟨e1,_,e⟩
  ·obtain⟨k1,k2,k3⟩:=h.sig t b e
   exact⟨k1,k2,by omega,fun o=>h.sr t o b e⟩
  ·obtain⟨k1,k2,k3⟩:=h.sig t' b e
   exact⟨k1,k2,by omega,fun o=>h.sr t' o b e⟩
 ·rcases hs t1 b q with ⟨e1,e⟩ | ⟨e1,e2,e⟩<;>rcases hs t2 b q' with ⟨f1,f⟩ | ⟨f1,f2,f⟩
  ·omega
  ·exact absurd (h.inj t2 t b f e) f2
  ·exact absurd (h.inj t1 t b e f) e2
  ·exact h.inj t1 t2 b e f
theorem tapp_sound(h:TR Z K0 sp K st fr cfr E){e sz bytes:Nat}{s x:Operand}{a:AV}(ht:twop fr st (.app e sz bytes s x)=some (a,fr1,st1)) : ∃v K1 E1,wop K (evF cfr) (.app e sz bytes s x)=some (v,K1)∧TR Z K0 sp K1 st1 fr1 cfr E1∧AVR K1 E1 a v∧Stp K st E K1 st1 E1:=by
 simp only[twop] at ht
 split at ht
 ·rename_i o gs tq z hs e1 e2
  split at ht
  ·rename_i hc
   obtain⟨c1,c2,c3,c4⟩:=hc
   cases ht
   obtain⟨xs,q1,q2,q3⟩:=src_rel (tev_rel h.frm x) e2 c2
   have hall:=q2.cells
   have hgr:=tev_rel h.frm s
   have hnil:o=none→gs= []→evF cfr s= .slice none 0 0→∃v K1 E1,wop K (evF cfr) (.app e sz bytes s x)=some (v,K1)∧TR Z K0 sp K1 ⟨st.nt+1,(kilS o st).obs⟩ (kilF o fr) cfr E1∧AVR K1 E1 (.r (.c (.own st.nt e sz (gs++hs)))) v∧Stp K st E K1 ⟨st.nt+1,(kilS o st).obs⟩ E1:=fun ho hg hv=>by
    subst ho;subst hg
    rw[List.nil_append]
    have hh:hs.length*bytes≤140737488355328∧hs.length≤maxLen:=by simpa using And.intro c3 c4
    by_cases h0:hs.length=0
    ·have:hs= []:=List.length_eq_zero_iff.1 h0
     subst this
     refine⟨.slice none 0 0,K,E,by simp only[wop,q1,hv];rfl,⟨h.nx,h.keep,h.prot,h.hid,fun t b q=> ?_,h.inj,h.sr,h.rho,h.rinj,h.obs,h.frm⟩, .r (.c .own0),rfl,fun _ _ h=>h,fun o v e cs h=>⟨v,cs,h,Nat.le_refl _,fun _ _ _=>rfl⟩⟩
     obtain⟨k1,k2,k3⟩:=h.sig t b q
     exact⟨k1,k2,Nat.lt_succ_of_lt k3⟩
    ·obtain⟨E1,t1,t2,t3⟩:=h.row (e:=e) (kd:= .gr) (sz:=sz) (gs:=hs) (os:=xs) ⟨fun e=>h0 (by rw[e];rfl),hh.2⟩ rfl q3 q2
     exact⟨_,_,E1,by simp only[wop,q1,hv,h0,if_false];rw[if_pos ⟨hall,hh.1,hh.2⟩],t1,t3,t2⟩
   unfold AV.growOf at e1
   split at e1
   ·rename_i t e' sz' gs' hts
    cases e1
    obtain⟨rfl,rfl⟩:=c1
    rcases row_rel (t:=some t) hgr (by rw[hts];rfl) with ⟨rfl,hv⟩ | ⟨hne,sz2,b,os,ty,kd,hsz2,k1,k2,k3,k4,k5,hv⟩
    ·
     rw[List.nil_append]
     obtain⟨E2,t1,m,t2⟩:=h.kil0 t
     by_cases h0:hs.length=0
     ·have:hs= []:=List.length_eq_zero_iff.1 h0
      subst this
      refine⟨.slice none 0 0,K,E2,by simp only[wop,q1,hv];rfl,⟨t1.nx,t1.keep,t1.prot,t1.hid,fun t b q=> ?_,t1.inj,t1.sr,t1.rho,t1.rinj,t1.obs,t1.frm⟩, .r (.c .own0),t2.1.1,t2.1.2,t2.1.3⟩
      obtain⟨k1,k2,k3⟩:=t1.sig t b q
      exact⟨k1,k2,Nat.lt_succ_of_lt k3⟩
     ·have hh:hs.length*bytes≤140737488355328∧hs.length≤maxLen:=by simpa using And.intro c3 c4
      obtain⟨E1,s1,s2,s3⟩:=t1.row (e:=e') (kd:= .gr) (sz:=sz') (gs:=hs) (os:=xs) ⟨fun e=>h0 (by rw[e];rfl),hh.2⟩ rfl q3 (q2.mv m.frz)
      exact⟨_,_,E1,by simp only[wop,q1,hv,h0,if_false];rw[if_pos ⟨hall,hh.1,hh.2⟩],s1,s3,t2.1.trans s2⟩
    ·have hty:ty=e':=by
      rw[hts] at hgr
      cases hgr with
      | r hgr=>cases hgr with
        | c hgr=>
          rw[hv] at hgr
          cases hgr with
          | own hne hb ho hk hg hs=>
            have k1:E.σ t=some b:=k1
            rw[k2] at ho;cases ho;rfl
     subst hty
     cases hsz2
     have k1:E.σ t=some b:=k1
     have hl:os.length=gs.length*sz':=by rw[k5.r2.len,flat_len' k4]
     by_cases h0:hs.length=0
     ·have:hs= []:=List.length_eq_zero_iff.1 h0
      subst this
      obtain⟨E1,t1,t2,t3,t4⟩:=h.ren t
      refine⟨.slice (some ⟨b,0,none⟩) gs.length gs.length,K,E1,by simp only[wop,q1,hv,k2];rfl,t1,?_,t2⟩
      rw[List.append_nil]
      exact .r (.c (.own hne (t4.trans k1) k2 k3 k4 (k5.mv fun b hb=>⟨t3 b hb,rfl⟩)))
     ·have hx:wop K (evF cfr) (.app ty sz' bytes s x)=some (.slice (some ⟨K.nx,0,none⟩) (gs.length+hs.length) (gs.length+hs.length),appH (kd.isEx&&decide (gs.length<gs.length+hs.length)) K b (.cells (os++xs) ty .gr)):=by
       simp only[wop,q1,hv,k2,h0,if_false]
       rw[if_pos ⟨trivial,trivial,k3,by omega,hall,c3,c4⟩,List.take_of_length_le (by omega)]
      rw[←List.length_append] at hx
      have hfl:SVRs K (Frz K E) (gs++hs).flatten (os++xs):=by rw[List.flatten_append];exact k5.app q2
      have hgl : ∀g∈gs++hs,g.length=sz':=fun g hg=>(List.mem_append.1 hg).elim (k4 g) (q3 g)
      have hgn:gs++hs≠ []∧(gs++hs).length≤maxLen:=⟨fun e=>hne.1 (List.append_eq_nil_iff.1 e).1,by rw[List.length_append];exact c4⟩
      unfold appH at hx
      split at hx
      ·obtain⟨E2,t1,m,t2⟩:=h.kil0 t
       obtain⟨E1,s1,s2,s3⟩:=t1.row (e:=ty) (kd:= .gr) hgn rfl hgl (hfl.mv m.frz)
       exact⟨_,_,E1,hx,s1,s3,t2.1.trans s2⟩
      ·obtain⟨E2,t1,m,t2⟩:=h.kil t (o:= .dead)
       rw[k1] at t1 m t2
       obtain⟨E1,s1,s2,s3⟩:=t1.row (e:=ty) (kd:= .gr) hgn rfl hgl (hfl.mv m.frz)
       exact⟨_,_,E1,hx,s1,s3,t2.trans s2⟩
   ·rename_i hts
    cases e1
    rcases row_rel (t:=none) (gs:= []) hgr (by rw[hts];rfl) with ⟨_,hv⟩ | ⟨hne,_⟩
    ·exact hnil rfl rfl hv
    ·exact absurd rfl hne.1
   ·cases e1
  ·cases ht
 ·cases ht
theorem grps_rel{sz:Nat} : ∀ {l:List (Option (List CV))} {gs:List (List CV)},grps sz l=some gs→l=gs.map some∧∀g∈gs,g.length=sz
 | [],gs,h=>by cases h;exact⟨rfl,(fun _ q=>(by cases q))⟩
 | none::r,gs,h=>by cases h
 | some cs::r,gs,h=>by
   simp only[grps] at h
   split at h
   ·rename_i hc
    cases hr:grps sz r with
    | none=>rw[hr] at h;cases h
    | some gs'=>
      rw[hr] at h;cases h
      obtain⟨e1,e2⟩:=grps_rel hr
      refine⟨by rw[e1];rfl,fun g hg=> ?_⟩
      rcases List.mem_cons.1 hg with rfl | hg
      ·exact hc
      ·exact e2 g hg
   ·cases h
theorem fz_rel{x:CV}{v:Value}(h:CVR K E x v){y:SV}(hy:x.fz=some y){K':CH}{A:Nat→Prop}(h1 : ∀b,Frz K E b→A b∧K'.ob b=K.ob b)(h2 : ∀t b,t∈x.stamp→E.σ t=some b→A b∧K'.ob b=K.ob b):SVR K' A y v:=by
 cases h with
 | s h=>cases hy;exact h.mv h1
 | own0=>cases hy;exact .row0
 | own hne hb ho hk hg hs=>
   cases hy
   obtain⟨q1,q2⟩:=h2 _ _ (List.mem_singleton.2 rfl) hb
   exact .row hne q1 (q2.trans ho) hk hg (hs.mv h1)
 | bad=>cases hy
theorem allFz_rel{K':CH}{A:Nat→Prop}(h1 : ∀b,Frz K E b→A b∧K'.ob b=K.ob b) : ∀ {xs:List CV} {vs:List Value} {ys:List SV},R2 (CVR K E) xs vs→allFz xs=some ys→(∀t b,t∈xs.flatMap CV.stamp→E.σ t=some b→A b∧K'.ob b=K.ob b)→R2 (SVR K' A) ys vs
 | _,_,ys, .nil,h,_=>by cases h;exact .nil
 | x::xs,_,ys, .cons hx ht,h,h2=>by
   simp only[allFz] at h
   split at h
   ·rename_i y ys' e1 e2
    cases h
    exact .cons (fz_rel hx e1 h1 fun t b q=>h2 t b (by rw[List.flatMap_cons];exact List.mem_append_left _ q)) (allFz_rel h1 ht e2 fun t b q=>h2 t b (by rw[List.flatMap_cons];exact List.mem_append_right _ q))
   ·cases h
theorem allGz_rel{K':CH}{A:Nat→Prop}(h1 : ∀b,Frz K E b→A b∧K'.ob b=K.ob b) : ∀ {gs:List (List CV)} {hs:List (List SV)} {vs:List Value},R2 (CVR K E) gs.flatten vs→allGz gs=some hs→(∀t b,t∈gs.flatten.flatMap CV.stamp→E.σ t=some b→A b∧K'.ob b=K.ob b)→R2 (SVR K' A) hs.flatten vs∧hs.length=gs.length∧∀sz,(∀g∈gs,g.length=sz)→∀g∈hs,g.length=sz
 | [],hs,vs,hr,h,_=>by
   cases h
   exact⟨(by cases hr;exact .nil),rfl,fun _ _ _ q=>(by cases q)⟩
 | g::gs,hs,vs,hr,h,h2=>by
   simp only[allGz] at h
   split at h
   ·rename_i y ys e1 e2
    cases h
    rw[List.flatten_cons] at hr h2
    have r1:=hr.take g.length
    have r2:=hr.drop g.length
    rw[List.take_left] at r1
    rw[List.drop_left] at r2
    have k1:=allFz_rel h1 r1 e1 fun t b q=>h2 t b (by rw[List.flatMap_append];exact List.mem_append_left _ q)
    obtain⟨k2,k3,k4⟩:=allGz_rel h1 r2 e2 fun t b q=>h2 t b (by rw[List.flatMap_append];exact List.mem_append_right _ q)
    have hyl:y.length=g.length:=by rw[←k1.len,r1.len]
    refine⟨?_,by simp[k3],fun sz hsz x hx=> ?_⟩
    ·rw[List.flatten_cons,←List.take_append_drop g.length vs]
     exact k1.app k2
    ·rcases List.mem_cons.1 hx with rfl | hx
     ·rw[hyl];exact hsz g (by simp)
     ·exact k4 sz (fun g hg=>hsz g (by simp[hg])) x hx
   ·cases h
theorem bld_all{sz:Nat}{ev:Operand→Value} : ∀ {ps:List (Nat×Operand)} {k:Nat} {z:List Value},ps.map (·.1)=List.range' k ps.length→z.length=(k+ps.length)*sz→(∀p∈ps,isVal (ev p.2)=true∧(ev p.2).cells.size=sz)→bldV z (ps.map fun(i,x)=>(i*sz,sz,ev x))=some (z.take (k*sz)++ps.flatMap fun p=>(ev p.2).cells.toList)
 | [],k,z,_,hz,_=>by
   rw[List.take_of_length_le (by simpa using Nat.le_of_eq hz)]
   simp[bldV]
 | (i,x)::ps,k,z,hi,hz,hv=>by
   rw[List.map_cons,List.length_cons,List.range'_succ] at hi
   injection hi with hi1 hi2
   have hi1:i=k:=hi1
   subst hi1
   obtain⟨h1,h2⟩:=hv (i,x) (by simp)
   have hle:i*sz+sz≤z.length:=by
    rw[hz,List.length_cons,show i+(ps.length+1)=(i+1)+ps.length from by omega,Nat.add_mul (i+1),Nat.add_mul i];omega
   have hcl:((ev x).cells.toList).length=sz:=by rw[Array.length_toList];exact h2
   have ih:=bld_all (sz:=sz) (ev:=ev) (ps:=ps) (k:=i+1) (z:=setCells z (i*sz) (ev x).cells.toList) hi2 (by rw[setCells_length (by omega),hz,List.length_cons,show i+(ps.length+1)=(i+1)+ps.length from by omega]) fun p hp=>hv p (by simp[hp])
   show(if isVal (ev x)=true∧(ev x).cells.size=sz∧i*sz+sz≤z.length then bldV (setCells z (i*sz) (ev x).cells.toList) _ else none)=_
   rw[if_pos ⟨h1,h2,hle⟩,ih]
   congr 1
   rw[List.flatMap_cons,←List.append_assoc]
   congr 1
   unfold setCells
   rw[List.take_append_of_le_length (by rw[List.length_append,List.length_take,hcl,Nat.add_mul];omega),List.take_of_length_le (by rw[List.length_append,List.length_take,hcl,Nat.add_mul];omega)]
theorem zeros_len{z:List Value}{n:Nat}:(zeros z n).length=n:=by simp[zeros]
theorem taop_sound(h:TR Z K0 sp K st fr cfr E){x:AOp}{a:AV}(ht:taop fr st x=some (a,fr1,st1)) : ∃cs e k mk E1,aop (evF cfr) x=some (cs,e,k,mk)∧TR Z K0 sp (K.new (.cells cs e k)) st1 fr1 cfr E1∧AVR (K.new (.cells cs e k)) E1 a (akV mk K.nx)∧Stp K st E (K.new (.cells cs e k)) st1 E1:=by
 cases x with
 | new e z=>
   simp only[taop] at ht
   cases hz:zCV z with
   | none=>rw[hz] at ht;cases ht
   | some cs=>
     rw[hz] at ht;cases ht
     obtain⟨E1,t1,t2,t3⟩:=h.obj (e:=e) (zCV_rel hz)
     exact⟨_,_,_,_,E1,rfl,t1,t3,t2⟩
 | box e x=>
   simp only[taop] at ht
   cases hz:(tev fr x).cvs with
   | none=>rw[hz] at ht;cases ht
   | some cs=>
     rw[hz] at ht;cases ht
     obtain⟨q1,q2⟩:=cvs_rel (tev_rel h.frm x) hz
     obtain⟨E1,t1,t2,t3⟩:=h.obj (e:=e) q1
     exact⟨_,_,_, .ptr,E1,by simp only[aop];rw[if_pos q2],t1,t3,t2⟩
 | bsl e sz n z ps=>
   simp only[taop] at ht
   split at ht
   ·rename_i hc
    obtain⟨c1,c2,c3,c4⟩:=hc
    split at ht
    ·rename_i gs hgs
     split at ht
     ·rename_i hs hhs
      cases ht
      obtain⟨g1,g2⟩:=grps_rel hgs
      have hn:ps.length=n:=by have:=congrArg List.length c1;simpa using this
      subst hn
      have hpv : ∀p∈ps,∃g∈gs,(tev fr p.2).cvs=some g:=fun p hp=>by
       have:(tev fr p.2).cvs∈gs.map some:=by rw[←g1];exact List.mem_map_of_mem hp
       obtain⟨g,k1,k2⟩:=List.mem_map.1 this
       exact⟨g,k1,k2.symm⟩
      have hval : ∀p∈ps,isVal (evF cfr p.2)=true∧(evF cfr p.2).cells.size=sz:=fun p hp=>by
       obtain⟨g,k1,k2⟩:=hpv p hp
       obtain⟨q1,q2⟩:=cvs_rel (tev_rel h.frm p.2) k2
       exact⟨q2,by rw[←Array.length_toList,q1.len];exact g2 g k1⟩
      have hb:=bld_all (ev:=evF cfr) (k:=0) (z:=zeros z (ps.length*sz)) (by rw[c1,List.range_eq_range']) (by rw[zeros_len,Nat.zero_add]) hval
      rw[Nat.zero_mul,List.take_zero,List.nil_append] at hb
      have hrel:R2 (CVR K E) gs.flatten (ps.flatMap fun p=>(evF cfr p.2).cells.toList):=by
       clear hb hval hpv hgs hhs c1 c2 c3 c4
       induction ps generalizing gs with
       | nil=>
         cases gs with
         | nil=>exact .nil
         | cons=>simp at g1
       | cons p ps ih=>
         cases gs with
         | nil=>simp at g1
         | cons g gs=>
           rw[List.map_cons,List.map_cons] at g1
           injection g1 with e1 e2
           rw[List.flatten_cons,List.flatMap_cons]
           exact(cvs_rel (tev_rel h.frm p.2) e1).1.app (ih gs e2 fun g hg=>g2 g (by simp[hg]))
      obtain⟨E1,t1,m,t2,t3⟩:=h.fz (gs.flatten.flatMap CV.stamp)
      obtain⟨k1,k2,k3⟩:=allGz_rel (K':=K) (A:=Frz K E1) m.frz hrel hhs fun t b q1 q2=>m.fz t b q2 (by unfold fzG;rw[if_pos q1])
      have hne:hs≠ []:=fun e=>by
       have:gs.length=0:=by rw[←k2,e];rfl
       have h3:=congrArg List.length g1
       simp at h3;omega
      have hlen:hs.length=ps.length:=by
       have h3:=congrArg List.length g1
       rw[k2];simpa using h3.symm
      obtain⟨E2,s1,s2,s3⟩:=t1.row (e:=e) (kd:= .ex) (sz:=sz) (gs:=hs) ⟨hne,by rw[hlen,maxLen_eq];omega⟩ rfl (k3 sz g2) k1.svrs
      rw[hlen] at s3
      rw[fzF_eq,fzS_eq]
      exact⟨_,e, .ex, .sl ps.length ps.length,E2,by simp only[aop];rw[if_pos ⟨c3,c4⟩,hb];rfl,s1,s3,t2.trans s2⟩
     ·cases ht
    ·cases ht
   ·cases ht
 | _=>cases ht
theorem twop_sound(h:TR Z K0 sp K st fr cfr E){x:WOp}{a:AV}(ht:twop fr st x=some (a,fr1,st1)) : ∃v K1 E1,wop K (evF cfr) x=some (v,K1)∧TR Z K0 sp K1 st1 fr1 cfr E1∧AVR K1 E1 a v∧Stp K st E K1 st1 E1:=by
 cases x with
 | app e sz bytes s x=>exact tapp_sound h ht
 | st n x v=>
   simp only[twop] at ht
   split at ht
   ·rename_i o off us e1 e2
    split at ht
    ·rename_i ver e cs ho
     split at ht
     ·rename_i hc
      cases ht
      have hr:=tev_rel h.frm x
      rw[e1] at hr
      obtain⟨l,hl,hv⟩:=hr.ptr_inv
      obtain⟨q1,q2⟩:=cvs_rel (tev_rel h.frm v) e2
      obtain⟨b,os,k1,k2,k3⟩:=h.obs o _ _ _ ho
      rw[hl] at k1;cases k1
      obtain⟨t1,t2⟩:=h.sto hl ho (k3.set q1 (o:=off))
      refine⟨undef,_,E,?_,t1, .bad,t2⟩
      have hsz:(evF cfr v).cells.size=n:=by rw[←Array.length_toList,q1.len];exact hc.1
      simp only[wop,hv,k2]
      rw[if_pos ⟨rfl,q2,hsz,by rw[k3.len];exact hc.2,CVRs.cells q1⟩]
     ·cases ht
    ·cases ht
   ·cases ht
 | _=>cases ht
end Can
end Go.Proofs.YtnankhlanilbbaaGreat
end
section
namespace Go.Proofs.YtnankhlanilbbaaGreat
namespace Can
open Go Go.RowKit
set_option linter.unusedSimpArgs false
set_option linter.unusedVariables false
variable {T:Tbl} {X:Pan} {Z:TP} {K0 K K' K'':CH} {sp:Option Nat} {st st' st'' st1:TS} {fr fr1:TFr} {cfr:Fr} {E E' E'':TE}
def E0 (sp:Option Nat)(hid:Nat→Prop):TE:=⟨fun _=>none,fun o=>if o=0 then sp else none,hid⟩
abbrev Self:=Option (TypeId×List SV)
def SelfR(K:CH)(E:TE)(sp:Option Nat):Self→Prop
 | none=>sp=none
 | some (e,ss)=>∃p os,sp=some p∧p<K.nx∧K.ob p= .cells os e .ex∧R2 (SVR K (Frz K E)) ss os
def AV.clean:AV→Prop
 | .ptr _ _=>False
 | .eptr _ _ _=>False
 | _=>True
def PX (K0:CH)(sp:Option Nat)(R:Value→Prop)(v:Value)(K':CH):Prop:=K0.nx≤K'.nx∧(∀b,b<K0.nx→sp≠some b→K'.ob b=K0.ob b)∧R v
def TC (Z:TP)(T:Tbl)(X:Pan)(f:FuncId)(args:List AV)(self:Self)(Q:AV→List SV→Prop)(R:Value→Prop):Prop:=
 ∀(K:CH) (sp:Option Nat) (hid:Nat→Prop) (vs:List Value),(∀b,hid b→b<K.nx∧sp≠some b)→(∀b,Z.N b→b<K.nx∧sp≠some b∧K.ob b=Z.M b)→R2 (AVR K (E0 sp hid)) args vs→SelfR K (E0 sp hid) sp self→
  WxF T X f vs K (fun v K'=>K.nx≤K'.nx∧(∀b,b<K.nx→sp≠some b→K'.ob b=K.ob b)∧∃a s',AVR K' (E0 sp hid) a v∧a.clean∧SelfR K' (E0 sp hid) sp (self.map fun p=>(p.1,s'))∧Q a s') (PX K sp R)
theorem TC.mono{f:FuncId}{args:List AV}{self:Self}{Q Q':AV→List SV→Prop}{R R':Value→Prop}(h:TC Z T X f args self Q R)(hq : ∀a s,Q a s→Q' a s)(hr : ∀v,R v→R' v):TC Z T X f args self Q' R':=fun K sp hid vs h1 h2 h3 h4=>(h K sp hid vs h1 h2 h3 h4).mono (fun v K' ⟨k1,k2,a,s',k3,k4,k5,k6⟩=>⟨k1,k2,a,s',k3,k4,k5,hq _ _ k6⟩) fun v K' ⟨k1,k2,k3⟩=>⟨k1,k2,hr _ k3⟩
theorem PX.up(h:TR Z K0 sp K st fr cfr E){sp':Option Nat}{R:Value→Prop}{v:Value}(hsp : ∀b,sp'=some b→∃o,E.ρ o=some b)(hp:PX K sp' R v K'):PX K0 sp R v K':=by
 obtain⟨h1,h2,h3⟩:=hp
 refine⟨Nat.le_trans h.nx h1,fun b hb hs=> ?_,h3⟩
 rw[h2 b (Nat.lt_of_lt_of_le hb h.nx) fun q=> ?_]
 ·exact h.keep b hb hs
 ·obtain⟨o,ho⟩:=hsp b q
  rcases(h.rho o b ho).2.1 with g | g
  ·omega
  ·exact hs g
theorem CVR.mv0{x:CV}{v:Value}(h:CVR K E x v)(h0 : ∀t,E.σ t=none)(hA : ∀b,Frz K E b→Frz K' E' b∧K'.ob b=K.ob b):CVR K' E' x v:=by
 cases h with
 | s h=>exact .s (h.mv hA)
 | own0=>exact .own0
 | own hne hb ho hk hg hs=>rw[h0] at hb;cases hb
 | bad h=>exact .bad h
theorem RVR.mv0{x:RV}{v:Value}(h:RVR K E x v)(h0 : ∀t,E.σ t=none)(hA : ∀b,Frz K E b→Frz K' E' b∧K'.ob b=K.ob b):RVR K' E' x v:=by
 cases h with
 | c h=>exact .c (h.mv0 h0 hA)
 | agg h=>exact .agg (h.mono fun _ _ q=>q.mv0 h0 hA)
theorem AVR.mv0{x:AV}{v:Value}(h:AVR K E x v)(hc:x.clean)(h0 : ∀t,E.σ t=none)(hA : ∀b,Frz K E b→Frz K' E' b∧K'.ob b=K.ob b):AVR K' E' x v:=by
 cases h with
 | r h=>exact .r (h.mv0 h0 hA)
 | ptr=>exact hc.elim
 | eptr=>exact hc.elim
 | tup h=>exact .tup (h.mono fun _ _ q=>q.mv0 h0 hA)
 | skip=>exact .skip
 | bad=>exact .bad
def RV.stamp:RV→List Nat
 | .c x=>x.stamp
 | .agg cs=>cs.flatMap CV.stamp
def AV.stamp:AV→List Nat
 | .r x=>x.stamp
 | _=> []
def RV.fz:RV→Option RV
 | .c x=>x.fz.map fun y=> .c (.s y)
 | .agg cs=>(allFz cs).map fun l=> .agg (l.map .s)
def selfOf:List AV→Option Nat
 | []=>none
 | .ptr o 0::_=>some o
 | _::r=>selfOf r
def argOf(so:Option Nat):AV→Option AV
 | .ptr o 0=>if so=some o then some (.ptr 0 0) else none
 | .r x=>x.fz.map .r
 | _=>none
def argsOf(so:Option Nat):List AV→Option (List AV)
 | []=>some []
 | a::r=>match argOf so a,argsOf so r with
   | some x,some xs=>some (x::xs)
   | _,_=>none
theorem rfz_rel{x:RV}{v:Value}(h:RVR K E x v){y:RV}(hy:x.fz=some y)(h1 : ∀b,Frz K E b→Frz K' E' b∧K'.ob b=K.ob b)(h2 : ∀t b,t∈x.stamp→E.σ t=some b→Frz K' E' b∧K'.ob b=K.ob b):RVR K' E' y v:=by
 cases h with
 | @c x v h=>
   simp only[RV.fz] at hy
   cases hx:x.fz with
   | none=>rw[hx] at hy;cases hy
   | some z=>rw[hx] at hy;cases hy;exact .c (.s (fz_rel h hx h1 h2))
 | @agg cs vs h=>
   simp only[RV.fz] at hy
   cases hx:allFz cs with
   | none=>rw[hx] at hy;cases hy
   | some z=>rw[hx] at hy;cases hy;exact .agg ((allFz_rel h1 h hx h2).map fun _ _ q=> .s q)
def hidC (E:TE)(l:List Nat)(so:Option Nat)(b:Nat):Prop:=E.hid b∨(∃t,t∉l∧E.σ t=some b)∨∃o,so≠some o∧E.ρ o=some b
theorem frz_call(h:TR Z K0 sp K st fr cfr E){l:List Nat}{so:Option Nat}{sp':Option Nat}(hsp : ∀b,sp'=some b→∃o,so=some o∧E.ρ o=some b):(∀b,Frz K E b→Frz K (E0 sp' (hidC E l so)) b∧K.ob b=K.ob b)∧(∀t b,t∈l→E.σ t=some b→Frz K (E0 sp' (hidC E l so)) b∧K.ob b=K.ob b):=by
 constructor
 ·intro b hb
  refine⟨⟨hb.1,fun hh=> ?_,(fun _ q=>(by cases q)),fun o q=> ?_⟩,rfl⟩
  ·rcases hh with hh | ⟨t,_,ht⟩ | ⟨o,_,ho⟩
   ·exact hb.2.1 hh
   ·exact hb.2.2.1 t ht
   ·exact hb.2.2.2 o ho
  ·have q:(if o=0 then sp' else none)=some b:=q
   split at q
   ·obtain⟨o',_,k⟩:=hsp b q;exact hb.2.2.2 o' k
   ·cases q
 ·intro t b hl hb
  obtain⟨k1,k2,k3⟩:=h.sig t b hb
  refine⟨⟨k2,fun hh=> ?_,(fun _ q=>(by cases q)),fun o q=> ?_⟩,rfl⟩
  ·rcases hh with hh | ⟨t',q1,q2⟩ | ⟨o,_,ho⟩
   ·have:=(h.hid b hh).1;omega
   ·exact q1 (h.inj t t' b hb q2▸hl)
   ·exact h.sr t o b hb ho
  ·have q:(if o=0 then sp' else none)=some b:=q
   split at q
   ·obtain⟨o',_,k⟩:=hsp b q;exact h.sr t o' b hb k
   ·cases q
theorem args_rel{sp':Option Nat}{hid':Nat→Prop}{l:List Nat}{so:Option Nat}(hsp : ∀o b,so=some o→E.ρ o=some b→sp'=some b)(h1 : ∀b,Frz K E b→Frz K (E0 sp' hid') b∧K.ob b=K.ob b)(h2 : ∀t b,t∈l→E.σ t=some b→Frz K (E0 sp' hid') b∧K.ob b=K.ob b) : ∀ {az bz:List AV} {vs:List Value},R2 (AVR K E) az vs→argsOf so az=some bz→(∀t∈az.flatMap AV.stamp,t∈l)→R2 (AVR K (E0 sp' hid')) bz vs
 | _,bz,_, .nil,h,_=>by cases h;exact .nil
 | a::az,bz,v::vs, .cons ha ht,h,hl=>by
   simp only[argsOf] at h
   split at h
   ·rename_i x xs e1 e2
    cases h
    refine .cons ?_ (args_rel hsp h1 h2 ht e2 fun t q=>hl t (by rw[List.flatMap_cons];exact List.mem_append_right _ q))
    have hl2 : ∀t∈a.stamp,t∈l:=fun t q=>hl t (by rw[List.flatMap_cons];exact List.mem_append_left _ q)
    unfold argOf at e1
    split at e1
    ·rename_i o
     split at e1
     ·rename_i hso
      cases e1
      obtain⟨b,q1,rfl⟩:=ha.ptr_inv
      exact .ptr (o:=0) (by show(if 0=0 then sp' else none)=some b;rw[if_pos rfl];exact hsp o b hso q1)
     ·cases e1
    ·rename_i y
     cases hy:y.fz with
     | none=>rw[hy] at e1;cases e1
     | some z=>
       rw[hy] at e1;cases e1
       cases ha with
       | r ha=>exact .r (rfz_rel ha hy h1 fun t b q=>h2 t b (hl2 t q))
    ·cases e1
   ·cases h
theorem TR.grow(h:TR Z K0 sp K st fr cfr E)(hnx:K.nx≤K'.nx)(hk : ∀b,b<K.nx→K'.ob b=K.ob b):TR Z K0 sp K' st fr cfr E∧Mv K E (fun _=> .keep) K' E:=by
 have m:Mv K E (fun _=> .keep) K' E:=⟨fun b hb=>⟨⟨Nat.lt_of_lt_of_le hb.1 hnx,hb.2⟩,hk b hb.1⟩,fun t b q _=>⟨q,hk b (h.sig t b q).2.1⟩,(fun _ _ _ q=>(by cases q)),fun _ _ q=>q⟩
 have:=h.step m (nt':=st.nt) hnx (fun b hb _=>hk b hb) rfl (fun t b q=>⟨(h.sig t b q).1,Nat.lt_of_lt_of_le (h.sig t b q).2.1 hnx,(h.sig t b q).2.2,fun o=>h.sr t o b q⟩) h.inj rfl
 rw[TFr.act_keep,TS.act_keep] at this
 exact⟨this,m⟩
theorem CH.ext'{K K':CH}(h:K.nx=K'.nx)(g : ∀b,K.ob b=K'.ob b):K=K':=by
 obtain⟨n,o⟩:=K
 obtain⟨n',o'⟩:=K'
 cases h
 have:o=o':=funext g
 rw[this]
structure TD where
 node:List FuncId
structure TDOk(T:Tbl)(D:TD):Prop where
 node : ∀f,D.node.elem f=true→∀(K:CH) (k l:Int) (a:Option Addr) (n c:Nat),WpF T f [.int .i64 k, .int .i64 l, .slice a n c] K fun v K'=>v= .agg #[.int .i64 k, .int .i64 l, .string ⟨⟨[]⟩⟩, .int .i64 0, .slice a n c]∧∃o,K'=K.new o
def slV:CV→Bool
 | .own _ _ _ _=>true
 | .s (.row _ _)=>true
 | .s (.sc (.slice _ _ _))=>true
 | _=>false
def nodeC(avs:List AV)(fr:TFr)(st:TS)(k:AV→TFr→TS→Prop):Prop:=match avs with
 | [.r (.c (.s (.sc (.int .i64 a)))), .r (.c (.s (.sc (.int .i64 b)))), .r (.c x)]=>match slV x with
   | true=>k (.r (.agg [cS (.int .i64 a),cS (.int .i64 b),cS (.string ⟨⟨[]⟩⟩),cS (.int .i64 0),x])) fr st
   | false=>False
 | _=>False
def callT0(Z:TP)(T:Tbl)(X:Pan)(f:FuncId)(avs:List AV)(fr:TFr)(st:TS)(k:AV→TFr→TS→Prop)(R:Value→Prop):Prop:=
 match argsOf (selfOf avs) avs with
 | none=>False
 | some az=>match selfOf avs with
   | none=>TC Z T X f az none (fun a _=>k a (fzF (avs.flatMap AV.stamp) fr) ⟨st.nt,(fzS (avs.flatMap AV.stamp) st).obs⟩) R
   | some o=>match st.obs[o]? with
     | some (v,e,cs)=>match allFz cs with
       | some ss=>TC Z T X f az (some (e,ss)) (fun a s'=>k a (fzF (avs.flatMap AV.stamp++cs.flatMap CV.stamp) fr) ⟨st.nt,(fzS (avs.flatMap AV.stamp++cs.flatMap CV.stamp) st).obs.set o (v+1,e,s'.map .s)⟩) R
       | none=>False
     | none=>False
def fcNs:List Nat→(List Nat→Prop)→Prop
 | [],k=>k []
 | n::l,k=>match n with
   | 0=>fcNs l fun l=>k (0::l)
   | n+1=>fcNs l fun l=>k ((n+1)::l)
theorem fcNs_eq : ∀ {l:List Nat} {k:List Nat→Prop},fcNs l k=k l
 | [],_=>rfl
 | 0::l,k=>by simp only[fcNs,fcNs_eq]
 | (n+1)::l,k=>by simp only[fcNs,fcNs_eq]
def fzK (l:List Nat)(fr:TFr)(st:TS)(k:TFr→TS→Prop):Prop:=fcNs l fun l=>match l with
 | []=>k fr st
 | a::l=>k (fr.act (fzG (a::l))) (st.act (fzG (a::l)))
theorem fzK_eq{l:List Nat}{fr:TFr}{st:TS}{k:TFr→TS→Prop}:fzK l fr st k=k (fzF l fr) (fzS l st):=by
 unfold fzK
 rw[fcNs_eq]
 cases l<;>rfl
def callT(Z:TP)(T:Tbl)(X:Pan)(f:FuncId)(avs:List AV)(fr:TFr)(st:TS)(k:AV→TFr→TS→Prop)(R:Value→Prop):Prop:=
 match argsOf (selfOf avs) avs with
 | none=>False
 | some az=>match selfOf avs with
   | none=>TC Z T X f az none (fun a _=>fzK (avs.flatMap AV.stamp) fr st fun fr s=>k a fr ⟨st.nt,s.obs⟩) R
   | some o=>match st.obs[o]? with
     | some (v,e,cs)=>match allFz cs with
       | some ss=>TC Z T X f az (some (e,ss)) (fun a s'=>fzK (avs.flatMap AV.stamp++cs.flatMap CV.stamp) fr st fun fr s=>k a fr ⟨st.nt,s.obs.set o (v+1,e,s'.map .s)⟩) R
       | none=>False
     | none=>False
theorem callT_eq{Z:TP}{T:Tbl}{X:Pan}{f:FuncId}{avs:List AV}{fr:TFr}{st:TS}{k:AV→TFr→TS→Prop}{R:Value→Prop}:callT Z T X f avs fr st k R=callT0 Z T X f avs fr st k R:=by
 unfold callT callT0
 simp only[fzK_eq]
theorem r2_map{fr:TFr}(hf : ∀t,AVR K E (fr t) (cfr t)) : ∀(l:List Operand),R2 (AVR K E) (l.map (tev fr)) (l.map (evF cfr))
 | []=> .nil
 | x::l=> .cons (tev_rel hf x) (r2_map hf l)
theorem nodeC_sound{D:TD}(hD:TDOk T D)(h:TR Z K0 sp K st fr cfr E){f:FuncId}(hf:D.node.elem f=true){args:List Operand}{k:AV→TFr→TS→Prop}(hk:nodeC (args.map (tev fr)) fr st k):WpF T f (args.map (evF cfr)) K fun v K1=>∃a fr1 st1 E1,TR Z K0 sp K1 st1 fr1 cfr E1∧AVR K1 E1 a v∧Stp K st E K1 st1 E1∧k a fr1 st1:=by
 have hr:=r2_map h.frm args
 obtain⟨avs,ha⟩ : ∃avs,args.map (tev fr)=avs:=⟨_,rfl⟩
 obtain⟨vs,hv⟩ : ∃vs,args.map (evF cfr)=vs:=⟨_,rfl⟩
 rw[ha] at hk hr
 rw[hv] at hr⊢
 unfold nodeC at hk
 split at hk
 ·rename_i a b x
  cases hx:slV x with
  | false=>rw[hx] at hk;exact hk.elim
  | true=>
  rw[hx] at hk
  cases hr with
  | cons h1 hr=>cases hr with
    | cons h2 hr=>cases hr with
      | cons h3 hr=>
        cases hr
        obtain rfl:=raw_rel h1 (u:= .int .i64 a) rfl
        obtain rfl:=raw_rel h2 (u:= .int .i64 b) rfl
        rename_i w3
        cases h3 with
        | r h3=>cases h3 with
          | c h3=>
            have : ∃q n c,w3=Value.slice q n c:=by
             cases h3 with
             | s h3=>
               cases h3 with
               | sc h3=>
                 cases w3 with
                 | slice q n c=>exact⟨q,n,c,rfl⟩
                 | _=>cases hx
               | row0=>exact⟨_,_,_,rfl⟩
               | row=>exact⟨_,_,_,rfl⟩
             | own0=>exact⟨_,_,_,rfl⟩
             | own=>exact⟨_,_,_,rfl⟩
             | bad=>cases hx
            obtain⟨q,n,c,rfl⟩:=this
            refine(hD.node f hf K a b q n c).mono fun v K1 ⟨e1,o,e2⟩=> ?_
            subst e1 e2
            obtain⟨t1,m⟩:=h.grow (K':=K.new o) (Nat.le_succ _) fun b hb=>new_ne (by omega)
            have h3:=h3.mv m
            rw[CV.act_keep] at h3
            exact⟨_,_,_,E,t1, .r (.agg (vs:= [_,_,_,_,_]) (.cons (.s (.sc rfl)) (.cons (.s (.sc rfl)) (.cons (.s (.sc rfl)) (.cons (.s (.sc rfl)) (.cons h3 .nil)))))),⟨rfl,fun _ _ h=>h,fun o v e cs h'=>⟨v,cs,h',Nat.le_refl _,fun _ b hb=>new_ne (by have:=(h.rho o b hb).1;omega)⟩⟩,hk⟩
 ·exact hk.elim
theorem callT_sound(h:TR Z K0 sp K st fr cfr E){f:FuncId}{args:List Operand}{k:AV→TFr→TS→Prop}{R:Value→Prop}(hk:callT Z T X f (args.map (tev fr)) fr st k R):WxF T X f (args.map (evF cfr)) K (fun v K1=>∃a fr1 st1 E1,TR Z K0 sp K1 st1 fr1 cfr E1∧AVR K1 E1 a v∧Stp K st E K1 st1 E1∧k a fr1 st1) (PX K0 sp R):=by
 have hr:=r2_map h.frm args
 obtain⟨avs,ha⟩ : ∃avs,args.map (tev fr)=avs:=⟨_,rfl⟩
 obtain⟨vs,hv⟩ : ∃vs,args.map (evF cfr)=vs:=⟨_,rfl⟩
 rw[ha] at hk hr
 rw[hv] at hr⊢
 rw[callT_eq] at hk
 unfold callT0 at hk
 split at hk
 ·exact hk.elim
 ·rename_i az haz
  split at hk
  ·rename_i hso
   rw[hso] at haz
   obtain⟨f1,f2⟩:=frz_call h (l:=avs.flatMap AV.stamp) (so:=none) (sp':=none) (fun _ q=>(by cases q))
   have hz:=args_rel (hid':=hidC E (avs.flatMap AV.stamp) none) (fun o b q=>(by cases q)) f1 f2 hr haz fun t q=>q
   refine(hk K none _ vs (fun b hb=>⟨?_,(fun q=>(by cases q))⟩) (fun b hb=>⟨Nat.lt_of_lt_of_le (h.prot b hb).1 h.nx,(fun q=>(by cases q)),(h.prot b hb).2.2⟩) hz rfl).mono (fun v K1 ⟨k1,k2,a,s',k3,k4,k5,k6⟩=> ?_) fun v K1 hp=>hp.up h fun b q=>(by cases q)
   ·rcases hb with hb | ⟨t,_,ht⟩ | ⟨o,_,ho⟩
    ·exact Nat.lt_of_lt_of_le (h.hid b hb).1 h.nx
    ·exact(h.sig t b ht).2.1
    ·exact(h.rho o b ho).1
   ·obtain⟨E1,t1,m,t2,rfl⟩:=h.fz (avs.flatMap AV.stamp)
    obtain⟨u1,m1⟩:=t1.grow k1 fun b hb=>k2 b hb (fun q=>(by cases q))
    rw[fzF_eq,fzS_eq] at k6
    refine⟨a,_,_,_,u1,k3.mv0 k4 (fun _=>rfl) fun b hb=>⟨⟨hb.1,fun hh=>hb.2.1 (.inl hh),fun t q=> ?_,fun o q=>hb.2.1 (.inr (.inr ⟨o,(fun q=>(by cases q)),q⟩))⟩,rfl⟩,⟨rfl,fun o b q=>q,fun o v e cs q=> ?_⟩,k6⟩
    ·have q:(if t∈avs.flatMap AV.stamp then none else E.σ t)=some b:=q
     split at q
     ·cases q
     ·rename_i hn;exact hb.2.1 (.inr (.inl ⟨t,hn,q⟩))
    ·obtain⟨v',cs',g1,g2,g3⟩:=t2.ver o v e cs q
     exact⟨v',cs',g1,g2,fun e b hb=>(k2 b (h.rho o b hb).1 (fun q=>(by cases q))).trans (g3 e b hb)⟩
  ·rename_i o hso
   split at hk
   ·rename_i v e cs hob
    split at hk
    ·rename_i ss hss
     rw[hso] at haz
     obtain⟨p,os,o1,o2,o3⟩:=h.obs o v e cs hob
     obtain⟨f1,f2⟩:=frz_call h (l:=avs.flatMap AV.stamp++cs.flatMap CV.stamp) (so:=some o) (sp':=some p) (fun b q=>⟨o,rfl,q▸o1⟩)
     have hz:=args_rel (hid':=hidC E (avs.flatMap AV.stamp++cs.flatMap CV.stamp) (some o)) (fun o' b q1 q2=>by cases q1;rw[←o1,q2]) f1 f2 hr haz fun t q=>List.mem_append_left _ q
     have hself:=allFz_rel f1 o3 hss fun t b q1 q2=>f2 t b (List.mem_append_right _ q1) q2
     have hpn:p<K.nx:=(h.rho o p o1).1
     refine(hk K (some p) _ vs (fun b hb=>⟨?_,fun q=> ?_⟩) (fun b hb=>⟨Nat.lt_of_lt_of_le (h.prot b hb).1 h.nx,fun q=> ?_,(h.prot b hb).2.2⟩) hz ⟨p,os,rfl,hpn,o2,hself⟩).mono (fun v1 K1 ⟨k1,k2,a,s',k3,k4,k5,k6⟩=> ?_) fun v K1 hp=>hp.up h fun b q=>⟨o,by cases q;exact o1⟩
     ·rcases hb with hb | ⟨t,_,ht⟩ | ⟨o,_,ho⟩
      ·exact Nat.lt_of_lt_of_le (h.hid b hb).1 h.nx
      ·exact(h.sig t b ht).2.1
      ·exact(h.rho o b ho).1
     ·cases q
      rcases hb with hb | ⟨t,_,ht⟩ | ⟨o',q1,ho⟩
      ·obtain⟨g1,g2⟩:=h.hid p hb
       rcases(h.rho o p o1).2.1 with g | g
       ·omega
       ·exact g2 g
      ·exact h.sr t o p ht o1
      ·exact q1 (by rw[h.rinj o o' p o1 ho])
     ·cases q
      obtain⟨g1,g2,_⟩:=h.prot p hb
      rcases(h.rho o p o1).2.1 with g | g
      ·omega
      ·exact g2 g
     ·obtain⟨p',os',s1,s2,s3,s4⟩:=k5
      cases s1
      obtain⟨E1,t1,m,t2,rfl⟩:=h.fz (avs.flatMap AV.stamp++cs.flatMap CV.stamp)
      obtain⟨u1,m1⟩:=t1.grow (K':=K1.set p (K.ob p)) k1 fun b hb=>by
       by_cases hbp:b=p
       ·subst hbp;exact set_ob
       ·rw[set_ne hbp];exact k2 b hb fun q=>hbp (by cases q;rfl)
      have hfz : ∀b,Frz K1 (E0 (some p) (hidC E (avs.flatMap AV.stamp++cs.flatMap CV.stamp) (some o))) b→b≠p∧¬E.hid b∧(∀t,(if t∈avs.flatMap AV.stamp++cs.flatMap CV.stamp then none else E.σ t)≠some b)∧(∀o,E.ρ o≠some b)∧b<K1.nx:=fun b hb=>by
       have hbp:b≠p:=fun e=>hb.2.2.2 0 (by show(if 0=0 then some p else none)=some b;rw[if_pos rfl,e])
       refine⟨hbp,fun hh=>hb.2.1 (.inl hh),fun t q=> ?_,fun o' q=> ?_,hb.1⟩
       ·split at q
        ·cases q
        ·rename_i hn;exact hb.2.1 (.inr (.inl ⟨t,hn,q⟩))
       ·by_cases ho:o'=o
        ·subst ho;rw[o1] at q;cases q;exact hbp rfl
        ·exact hb.2.1 (.inr (.inr ⟨o',fun q=>ho (by cases q;rfl),q⟩))
      have hob1:(⟨st.nt,(st.act (fzG (avs.flatMap AV.stamp++cs.flatMap CV.stamp))).obs⟩:TS).obs[o]? = some (v,e,cs.map (CV.act (fzG (avs.flatMap AV.stamp++cs.flatMap CV.stamp)))):=by
       show(st.obs.map _)[o]? = _
       rw[List.getElem?_map,hob];rfl
      obtain⟨w1,w2⟩:=u1.sto (us:=s'.map .s) (os:=os') (b:=p) o1 hob1 (s4.map fun x v q=> .s (q.mv fun b hb=>by
       obtain⟨g1,g2,g3,g4,g5⟩:=hfz b hb
       exact⟨⟨g5,g2,g3,g4⟩,set_ne g1⟩))
      have hK:(K1.set p (K.ob p)).set p (.cells os' e .ex)=K1:=CH.ext' rfl fun b=>by
       by_cases hbp:b=p
       ·subst hbp;rw[set_ob,s3]
       ·rw[set_ne hbp,set_ne hbp]
      rw[hK] at w1 w2
      rw[fzF_eq,fzS_eq] at k6
      refine⟨a,_,_,_,w1,k3.mv0 k4 (fun _=>rfl) fun b hb=> ?_,?_,k6⟩
      ·obtain⟨g1,g2,g3,g4,g5⟩:=hfz b hb
       exact⟨⟨g5,g2,g3,g4⟩,rfl⟩
      ·refine⟨rfl,fun o b q=>q,fun o' v' e' cs' q=> ?_⟩
       obtain⟨v2,cs2,g1,g2,g3⟩:=t2.ver o' v' e' cs' q
       obtain⟨v3,cs3,g4,g5,g6⟩:=w2.ver o' v2 e' cs2 g1
       refine⟨v3,cs3,g4,Nat.le_trans g2 g5,fun e b hb=> ?_⟩
       rw[g6 (by omega) b hb]
       have hob':(K1.set p (K.ob p)).ob b=K.ob b:=by
        by_cases hbp:b=p
        ·subst hbp;exact set_ob
        ·rw[set_ne hbp];exact k2 b (h.rho o' b hb).1 fun q=>hbp (by cases q;rfl)
       exact hob'
    ·exact hk.elim
   ·exact hk.elim
end Can
end Go.Proofs.YtnankhlanilbbaaGreat
end
