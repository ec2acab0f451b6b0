/- Runs over trees: reads and writes. Over any program. Runs over trees: an operation. Over any program. -/
import Derived.Test.YtdfgkcoenagaaaaGreatZi
section
namespace Go.Proofs.YtdfgkcoenagaaaaGreat
namespace Can
open Go Go.RowKit
set_option linter.unusedSimpArgs false
set_option linter.unusedVariables false
def bndT (fr:TFr):Option Operand→Option Nat
 | none=>some 0
 | some x=>match (tev fr x).raw with
   | some (.int .i64 n)=>if 0≤n then some n.toNat else none
   | _=>none
def tlop (fr:TFr)(st:TS):LOp→Option AV
 | .ld x=>match tev fr x with
   | .ptr o off=>match st.obs[o]? with
     | some (_,_,cs)=>(cs[off]?).map fun x=> .r (.c x)
     | none=>none
   | .eptr _ g off=>(g[off]?).map fun x=> .r (.c (.s x))
   | _=>none
 | .lda n x=>match tev fr x with
   | .ptr o off=>match st.obs[o]? with
     | some (_,_,cs)=>if off+n≤cs.length then some (.r (.agg ((cs.drop off).take n))) else none
     | none=>none
   | .eptr _ g off=>if off+n≤g.length then some (.r (.agg (((g.drop off).take n).map .s))) else none
   | _=>none
 | .slc e sz x lo hi none=>match tev fr x,bndT fr lo with
   | .r (.c (.s (.row z gs))),some n=>match hi with
     | none=>if z=sz∧sz=5∧e=ndTy∧Nat.ble n gs.length=true then some (.r (.c (.s (.sub sz (gs.drop n))))) else none
     | some h=>match (tev fr h).raw with
       | some (.int .i64 m)=>if z=sz∧sz=5∧e=ndTy∧0≤m∧Nat.ble n m.toNat=true∧Nat.ble m.toNat gs.length=true then some (.r (.c (.s (.sub sz ((gs.drop n).take (m.toNat-n)))))) else none
       | _=>none
   | _,_=>none
 | _=>none
def CV.stamp:CV→List Nat
 | .own t _ _ _=> [t]
 | _=> []
def CV.fz:CV→Option SV
 | .s x=>some x
 | .own _ _ sz gs=>some (rowS sz gs)
 | .bad=>none
def allFz:List CV→Option (List SV)
 | []=>some []
 | x::r=>match x.fz,allFz r with
   | some y,some ys=>some (y::ys)
   | _,_=>none
def fzG (l:List Nat):Nat→SA:=fun t=>if t∈l then .fz else .keep
def killG(o:Option Nat):Nat→SA:=fun t=>if o=some t then .kill else .keep
def fzF (l:List Nat)(fr:TFr):TFr:=match l with
 | []=>fr
 | l=>fr.act (fzG l)
def fzS (l:List Nat)(st:TS):TS:=match l with
 | []=>st
 | l=>st.act (fzG l)
def grps (sz:Nat):List (Option (List CV))→Option (List (List CV))
 | []=>some []
 | some cs::r=>if cs.length=sz then (grps sz r).map (cs:: ·) else none
 | none::_=>none
def allGz:List (List CV)→Option (List (List SV))
 | []=>some []
 | g::r=>match allFz g,allGz r with
   | some y,some ys=>some (y::ys)
   | _,_=>none
def taop (fr:TFr)(st:TS):AOp→Option (AV×TFr×TS)
 | .new e z=>match zCV z with
   | some cs=>if lks cs= [] then some (.ptr st.obs.length 0,fr,⟨st.nt,st.obs++ [(0,e,cs)]⟩) else none
   | none=>none
 | .box e x=>match (tev fr x).cvs with
   | some cs=>if lks cs= [] then some (.ptr st.obs.length 0,fr,⟨st.nt,st.obs++ [(0,e,cs)]⟩) else none
   | none=>none
 | .bsl e sz n z ps=>if ps.map (·.1)=List.range n∧0<n∧n*sz≤16777216∧n≤16777216∧tyB e sz=true then
    match grps sz (ps.map fun p=>(tev fr p.2).cvs) with
    | some gs=>match allGz gs with
      | some hs=>some (.r (.c (.own st.nt e sz hs)),fzF (gs.flatten.flatMap CV.stamp) fr,⟨st.nt+1,(fzS (gs.flatten.flatMap CV.stamp) st).obs⟩)
      | none=>none
    | none=>none
   else none
 | _=>none
def AV.growOf:AV→Option (Option (Nat×TypeId×Nat)×List (List SV))
 | .r (.c (.own t e sz gs))=>some (some (t,e,sz),gs)
 | .r (.c (.s (.row _ [])))=>some (none,[])
 | _=>none
def growOk(e sz:TypeId):Option (Nat×TypeId×Nat)→Prop
 | none=>True
 | some (_,e',sz')=>e'=e∧sz'=sz
instance {e sz:TypeId} : ∀ {o:Option (Nat×TypeId×Nat)},Decidable (growOk e sz o)
 | none=>inferInstanceAs (Decidable True)
 | some (_,e',sz')=>inferInstanceAs (Decidable (e'=e∧sz'=sz))
def kilF (o:Option (Nat×TypeId×Nat))(fr:TFr):TFr:=match o with
 | none=>fr
 | some (t,_)=>fr.act (killG (some t))
def kilS (o:Option (Nat×TypeId×Nat))(st:TS):TS:=match o with
 | none=>st
 | some (t,_)=>st.act (killG (some t))
def twop (fr:TFr)(st:TS):WOp→Option (AV×TFr×TS)
 | .st n x v=>match tev fr x,(tev fr v).cvs with
   | .ptr o off,some us=>match st.obs[o]? with
     | some (ver,e,cs)=>if us.length=n∧off+n≤cs.length∧lks us= []∧lks ((cs.drop off).take us.length)= [] then some (.bad,fr,⟨st.nt,st.obs.set o (ver+1,e,cs.take off++us++cs.drop (off+us.length))⟩) else none
     | none=>none
   | _,_=>none
 | .app e sz bytes s x=>match (tev fr s).growOf,(tev fr x).rowOf with
   | some (o,gs),some (_,z,hs)=>if growOk e sz o∧srcOk sz z∧(gs.length+hs.length)*bytes≤140737488355328∧gs.length+hs.length≤maxLen∧tyB e sz=true then
      some (.r (.c (.own st.nt e sz (gs++hs))),kilF o fr,⟨st.nt+1,(kilS o st).obs⟩) else none
   | _,_=>none
 | _=>none
structure Stp(K:CH)(st:TS)(E:TE)(K':CH)(st':TS)(E':TE):Prop where
 hid : ∀b,E.hid b→E'.hid b
 rho : ∀o b,E.ρ o=some b→E'.ρ o=some b
 ver : ∀o v e cs,st.obs[o]? = some (v,e,cs)→∃v' cs',st'.obs[o]? = some (v',e,cs')∧v≤v'∧(v'=v→∀b,E.ρ o=some b→K'.ob b=K.ob b)
variable {T:Tbl} {Z:TP} {K0 K K' K'':CH} {sp:Option Nat} {W0:Nat→Prop} {st st' st'':TS} {fr:TFr} {cfr:Fr} {E E' E'':TE}
theorem Stp.refl:Stp K st E K st E:=⟨fun _ h=>h,fun _ _ h=>h,fun o v e cs h=>⟨v,cs,h,Nat.le_refl _,fun _ _ _=>rfl⟩⟩
theorem Stp.trans(h:Stp K st E K' st' E')(g:Stp K' st' E' K'' st'' E''):Stp K st E K'' st'' E'':=⟨fun b q=>g.hid b (h.hid b q),fun o b q=>g.rho o b (h.rho o b q),fun o v e cs q=>by
 obtain⟨v1,cs1,k1,k2,k3⟩:=h.ver o v e cs q
 obtain⟨v2,cs2,l1,l2,l3⟩:=g.ver o v1 e cs1 k1
 exact⟨v2,cs2,l1,Nat.le_trans k2 l2,fun e b hb=>(l3 (by omega) b (h.rho o b hb)).trans (k3 (by omega) b hb)⟩⟩
theorem bndT_rel{A:Nat→Prop}(hf : ∀t,AVR K E (fr t) (cfr t)){lo:Option Operand}{n:Nat}(h:bndT fr lo=some n):bnd (evF cfr) 0 lo=some (n:Int):=by
 unfold bndT at h
 split at h
 ·cases h;rfl
 ·rename_i x
  split at h
  ·rename_i m e
   split at h
   ·rename_i hm
    cases h
    have:=raw_rel (tev_rel hf x) e
    simp only[bnd,this]
    rw[Int.toNat_of_nonneg hm]
   ·cases h
  ·cases h
theorem row_ok{A:Nat→Prop}{gs:List (List SV)}{sz e:Nat}{v:Value}(h:SVR K A (.row sz gs) v)(h5:sz=5)(he:e=ndTy):okSl K e v=true:=by
 cases h with
 | row0=>rfl
 | @row b _ os e' kd _ hne hb ho hk hg hs ht=>
   have:=ht h5
   subst this he
   simp only[okSl,ho]
   cases kd with
   | ro=>cases hk
   | _=>exact beq_self_eq_true _
theorem sub_rel{A:Nat→Prop}{gs:List (List SV)}{sz n m:Nat}{v:Value}(h:SVR K A (.row sz gs) v)(h1:n≤m)(h2:m≤gs.length) : ∃w,sliceV sz v n m (capV v) false=some w∧SVR K A (.sub sz ((gs.drop n).take (m-n))) w:=by
 cases h with
 | row0=>
   have:n=0∧m=0:=by simp at h2;omega
   obtain⟨e1,e2⟩:=this
   subst e1 e2
   exact⟨.slice none 0 0,rfl, .sub0⟩
 | @row b _ os e kd _ hne hb ho hk hg hs ht=>
   have hfl:os.length=gs.length*sz:=by rw[hs.r2.len,flat_len' hg]
   have hle:(n:Int)≤m:=by omega
   have e0:sliceV sz (.slice (some ⟨b,0,none⟩) gs.length gs.length) n m (capV (.slice (some ⟨b,0,none⟩) gs.length gs.length)) false=if 0≤(n:Int)∧(n:Int)≤m∧(m:Int)≤(gs.length:Nat)∧((gs.length:Nat):Int)≤gs.length then (if (n:Int)=(gs.length:Nat) then some (.slice (some ⟨b,0+(n:Int).toNat*sz,none⟩) 0 0) else some (.slice (some ⟨b,0+(n:Int).toNat*sz,none⟩) ((m:Int)-n).toNat (((gs.length:Nat):Int)-n).toNat)) else none:=rfl
   rw[e0,if_pos ⟨by omega,hle,by omega,Int.le_refl _⟩]
   by_cases hn:n=gs.length
   ·have e1:(gs.drop n).take (m-n)= []:=by rw[hn,List.drop_length,List.take_nil]
    rw[if_pos (by omega),e1]
    exact⟨_,rfl, .sub0⟩
   ·rw[if_neg (by omega)]
    have e1:((gs.drop n).take (m-n)).length=((m:Int)-n).toNat:=by rw[List.length_take,List.length_drop];omega
    have e3:Int.toNat (n:Int)=n:=by omega
    rw[e3,Nat.zero_add]
    by_cases hm:m=n
    ·subst hm
     rw[Nat.sub_self,List.take_zero]
     have e4:((m:Int)-m).toNat=0:=by omega
     rw[e4]
     exact⟨_,rfl, .sub0⟩
    ·refine⟨_,rfl,?_⟩
     rw[←e1]
     have hlen:((gs.drop n).take (m-n)).length=m-n:=by rw[List.length_take,List.length_drop];omega
     have hmul:n*sz+(m-n)*sz≤gs.length*sz:=by rw[←Nat.add_mul];exact Nat.mul_le_mul_right _ (by omega)
     refine .sub ⟨fun e=> ?_,by rw[hlen];have:=hne.2;omega⟩ hb ho (fun g hg'=>hg g (List.mem_of_mem_drop (List.mem_of_mem_take hg'))) (by rw[hlen,hfl];exact hmul) ?_ ht
     ·rw[e] at hlen;simp at hlen;omega
     ·have hd : ∀(l:List (List SV)) (n:Nat),(∀g∈l,g.length=sz)→(l.drop n).flatten=l.flatten.drop (n*sz):=fun l=>by
       induction l with
       | nil=>intro n _;simp
       | cons a l ih=>
         intro n hg
         cases n with
         | zero=>simp
         | succ n=>
           rw[List.drop_succ_cons,ih n fun g h=>hg g (by simp[h]),List.flatten_cons,Nat.add_mul,Nat.one_mul,Nat.add_comm,←List.drop_drop]
           congr 1
           have:=hg a (by simp)
           rw[←this,List.drop_left]
      have ht : ∀(l:List (List SV)) (n:Nat),(∀g∈l,g.length=sz)→(l.take n).flatten=l.flatten.take (n*sz):=fun l=>by
       induction l with
       | nil=>intro n _;simp
       | cons a l ih=>
         intro n hg
         cases n with
         | zero=>simp
         | succ n=>
           have:=hg a (by simp)
           rw[List.take_succ_cons,List.flatten_cons,ih n fun g h=>hg g (by simp[h]),List.flatten_cons,Nat.add_mul,Nat.one_mul,Nat.add_comm,←this,List.take_append]
           congr 1
           ·rw[List.take_of_length_le (by omega)]
           ·congr 1;omega
      rw[hlen,ht _ _ fun g h=>hg g (List.mem_of_mem_drop h),hd _ _ hg]
      exact((hs.r2.drop (n*sz)).take ((m-n)*sz)).svrs
theorem tlop_sound(h:TR Z K0 sp W0 K st fr cfr E){x:LOp}{a:AV}(hx:tlop fr st x=some a) : ∃v,lop K (evF cfr) x=some v∧AVR K E a v:=by
 cases x with
 | ld x=>
   simp only[tlop] at hx
   have hr:=tev_rel h.frm x
   split at hx
   ·rename_i o off e
    rw[e] at hr
    obtain⟨l,hl,hv⟩:=hr.ptr_inv
    split at hx
    ·rename_i ver ty cs ho
     obtain⟨b,os,k1,k2,k3⟩:=h.obs o _ _ _ ho
     rw[hl] at k1;cases k1
     cases hc:cs[off]? with
     | none=>rw[hc] at hx;cases hx
     | some y=>
       rw[hc] at hx;cases hx
       obtain⟨v,q1,q2⟩:=k3.get hc
       exact⟨v,by simp only[lop,hv,k2,q1], .r (.c q2)⟩
    ·cases hx
   ·rename_i t g off e
    rw[e] at hr
    obtain⟨b,base,os,ty,kd,hb,ho,hl,hs,hv⟩:=hr.eptr_inv
    cases hc:g[off]? with
    | none=>rw[hc] at hx;cases hx
    | some y=>
      rw[hc] at hx;cases hx
      obtain⟨v,q1,q2⟩:=hs.get hc
      have hlt:=(List.getElem?_eq_some_iff.1 hc).1
      rw[List.getElem?_take_of_lt hlt,List.getElem?_drop] at q1
      exact⟨v,by simp only[lop,hv,ho,q1], .r (.c (.s q2))⟩
   ·cases hx
 | lda n x=>
   simp only[tlop] at hx
   have hr:=tev_rel h.frm x
   split at hx
   ·rename_i o off e
    rw[e] at hr
    obtain⟨l,hl,hv⟩:=hr.ptr_inv
    split at hx
    ·rename_i ver ty cs ho
     obtain⟨b,os,k1,k2,k3⟩:=h.obs o _ _ _ ho
     rw[hl] at k1;cases k1
     split at hx
     ·rename_i hle
      cases hx
      exact⟨_,by simp only[lop,hv,k2];rw[if_pos (by rw[k3.len];exact hle)], .r (.agg ((k3.drop off).take n))⟩
     ·cases hx
    ·cases hx
   ·rename_i t g off e
    rw[e] at hr
    obtain⟨b,base,os,ty,kd,hb,ho,hl,hs,hv⟩:=hr.eptr_inv
    split at hx
    ·rename_i hle
     cases hx
     have q:=(hs.drop off).take n
     have e:(((os.drop base).take g.length).drop off).take n=(os.drop (base+off)).take n:=by
      rw[List.drop_take,List.take_take,List.drop_drop,Nat.min_eq_left (by omega)]
     rw[e] at q
     exact⟨_,by simp only[lop,hv,ho];rw[if_pos (by omega)], .r (.agg (q.map fun _ _ q=> .s q))⟩
    ·cases hx
   ·cases hx
 | slc e sz x lo hi mx=>
   cases mx with
   | some=>cases hx
   | none=>
     simp only[tlop] at hx
     split at hx
     ·rename_i z gs n e1 e2
      have hr:=tev_rel h.frm x
      rw[e1] at hr
      have hlo:=bndT_rel (A:=fun _=>True) h.frm e2
      cases hr with
      | r hr=>cases hr with
        | c hr=>cases hr with
          | s hr=>
            obtain⟨v,hv⟩ : ∃v,evF cfr x=v:=⟨_,rfl⟩
            rw[hv] at hr
            have hln:lenV v=gs.length:=by cases hr<;>rfl
            split at hx
            ·split at hx
             ·rename_i hc
              obtain⟨rfl,h5,he,hc⟩:=hc
              cases hx
              have hn:=Nat.le_of_ble_eq_true hc
              have hok:=row_ok hr h5 he
              obtain⟨w,q1,q2⟩:=sub_rel (n:=n) (m:=gs.length) hr hn (Nat.le_refl _)
              rw[List.take_of_length_le (by rw[List.length_drop];omega)] at q2
              refine⟨w,?_, .r (.c (.s q2))⟩
              show(match bnd (evF cfr) 0 lo,bnd (evF cfr) (lenV (evF cfr x)) none,bnd (evF cfr) (capV (evF cfr x)) none with
               | some l,some h,some m=>if okSl K e (evF cfr x)&&((none:Option Operand).isNone||(none:Option Operand).isSome) then sliceV z (evF cfr x) l h m (none:Option Operand).isSome else none
               | _,_,_=>none)=some w
              rw[hlo,hv,hln]
              show(if okSl K e v&&true then _ else _)=some w
              rw[hok]
              exact q1
             ·cases hx
            ·rename_i hop
             split at hx
             ·rename_i m e3
              split at hx
              ·rename_i hc
               obtain⟨rfl,h5,he,hm,hc1,hc2⟩:=hc
               cases hx
               have hh:=raw_rel (tev_rel h.frm hop) e3
               have hok:=row_ok hr h5 he
               obtain⟨w,q1,q2⟩:=sub_rel (n:=n) (m:=m.toNat) hr (Nat.le_of_ble_eq_true hc1) (Nat.le_of_ble_eq_true hc2)
               refine⟨w,?_, .r (.c (.s q2))⟩
               rw[Int.toNat_of_nonneg hm] at q1
               show(match bnd (evF cfr) 0 lo,bnd (evF cfr) (lenV (evF cfr x)) (some hop),bnd (evF cfr) (capV (evF cfr x)) none with
                | some l,some h,some m=>if okSl K e (evF cfr x)&&((none:Option Operand).isNone||(some hop).isSome) then sliceV z (evF cfr x) l h m (none:Option Operand).isSome else none
                | _,_,_=>none)=some w
               have hb : ∀d,bnd (evF cfr) d (some hop)=some m:=fun d=>by simp only[bnd,hh]
               rw[hlo,hv,hb]
               show(if okSl K e v&&true then _ else _)=some w
               rw[hok]
               exact q1
              ·cases hx
             ·cases hx
     ·cases hx
 | _=>cases hx
theorem CV.act_keep{x:CV}:x.act (fun _=> .keep)=x:=by cases x<;>rfl
theorem RV.act_keep{x:RV}:x.act (fun _=> .keep)=x:=by
 cases x with
 | c x=>exact congrArg RV.c CV.act_keep
 | agg cs=>exact congrArg RV.agg ((List.map_congr_left fun x _=>CV.act_keep).trans (List.map_id' cs))
theorem AV.act_keep{x:AV}:x.act (fun _=> .keep)=x:=by
 cases x with
 | r x=>exact congrArg AV.r RV.act_keep
 | eptr t g off=>cases t<;>rfl
 | tup l=>exact congrArg AV.tup ((List.map_congr_left fun x _=>RV.act_keep).trans (List.map_id' l))
 | _=>rfl
theorem TFr.act_keep{fr:TFr}:fr.act (fun _=> .keep)=fr:=funext fun t=>AV.act_keep
theorem TS.act_keep{st:TS}:(st.act (fun _=> .keep)).obs=st.obs:=by
 show st.obs.map _=_
 refine(List.map_congr_left fun x _=> ?_).trans (List.map_id' _)
 obtain⟨v,e,cs⟩:=x
 show(v,e,cs.map (CV.act fun _=> .keep))=(v,e,cs)
 rw[(List.map_congr_left fun x _=>CV.act_keep).trans (List.map_id' cs)]
theorem fzG_nil:fzG []=fun _=> .keep:=by funext t;simp[fzG]
theorem fzF_eq{l:List Nat}:fzF l fr=fr.act (fzG l):=by
 cases l with
 | nil=>rw[fzG_nil,TFr.act_keep];rfl
 | cons=>rfl
theorem fzS_eq{l:List Nat}:(fzS l st).obs=(st.act (fzG l)).obs:=by
 cases l with
 | nil=>rw[fzG_nil,TS.act_keep];rfl
 | cons=>rfl
theorem lks_app : ∀ {a b:List CV},lks (a++b)=lks a++lks b
 | [],b=>rfl
 | x::a,b=>by
   have ih:=lks_app (a:=a) (b:=b)
   cases x with
   | s y=>cases y with
     | lk z=>show z::lks (a++b)=z::lks a++lks b;rw[ih];rfl
     | sc v=>exact ih
     | row sz gs=>exact ih
     | sub sz gs=>exact ih
   | own=>exact ih
   | bad=>exact ih
theorem lks_cons{x:CV}{l:List CV}:lks (x::l)=lks [x]++lks l:=lks_app (a:= [x]) (b:=l)
theorem lks_act{g:Nat→SA} : ∀ {cs:List CV},lks (cs.map (CV.act g))=lks cs
 | []=>rfl
 | x::cs=>by
   rw[List.map_cons,lks_cons,lks_cons (x:=x),lks_act]
   congr 1
   cases x with
   | s y=>rfl
   | bad=>rfl
   | own t e sz gs=>
     show lks [match g t with | .keep=>CV.own t e sz gs | .fz=> .s (rowS sz gs) | .kill=> .bad]= []
     cases g t<;>rfl
theorem lkW_cons{x:CV}{v:Value}{l:List CV}{vs:List Value}:lkW (x::l) (v::vs)=lkW [x] [v]++lkW l vs:=by
 cases x with
 | s y=>cases y<;>rfl
 | bad=>rfl
 | own=>rfl
theorem lkW_app : ∀ {a b:List CV} {us vs:List Value},a.length=us.length→lkW (a++b) (us++vs)=lkW a us++lkW b vs
 | [],b,[],vs,_=>by simp[lkW]
 | x::a,b,u::us,vs,h=>by
   rw[List.cons_append,List.cons_append,lkW_cons,lkW_app (by simpa using h),lkW_cons (l:=a),List.append_assoc]
theorem lkW_none : ∀ {a:List CV} {us:List Value},lks a= []→lkW a us= []
 | [],us,_=>by cases us<;>rfl
 | x::a,us,h=>by
   rw[lks_cons] at h
   obtain⟨h1,h2⟩:=List.append_eq_nil_iff.1 h
   cases us with
   | nil=>cases x with
     | s y=>cases y<;>rfl
     | bad=>rfl
     | own=>rfl
   | cons u us=>
     rw[lkW_cons,lkW_none h2]
     cases x with
     | s y=>
       cases y with
       | lk x=>cases h1
       | _=>rfl
     | bad=>rfl
     | own=>rfl
theorem lkW_act{g:Nat→SA} : ∀ {cs:List CV} {vs:List Value},lkW (cs.map (CV.act g)) vs=lkW cs vs
 | [],vs=>rfl
 | x::cs,[]=>by
   cases x with
   | s y=>cases y<;>rfl
   | bad=>rfl
   | own t e sz gs=>
     rw[List.map_cons]
     show lkW ((match g t with | .keep=>CV.own t e sz gs | .fz=> .s (rowS sz gs) | .kill=> .bad)::_) []= []
     cases g t<;>rfl
 | x::cs,v::vs=>by
   rw[List.map_cons,lkW_cons,lkW_cons (x:=x),lkW_act]
   congr 1
   cases x with
   | s y=>rfl
   | bad=>rfl
   | own t e sz gs=>
     show lkW [match g t with | .keep=>CV.own t e sz gs | .fz=> .s (rowS sz gs) | .kill=> .bad] [v]= []
     cases g t<;>rfl
theorem lks_set{cs us:List CV}{off:Nat}(h1:lks us= [])(h2:lks ((cs.drop off).take us.length)= []):lks (cs.take off++us++cs.drop (off+us.length))=lks cs:=by
 have e:cs=cs.take off++((cs.drop off).take us.length++cs.drop (off+us.length)):=by
  rw[←List.drop_drop,List.take_append_drop,List.take_append_drop]
 rw[lks_app,lks_app,h1,List.append_nil]
 conv=>rhs;rw[e,lks_app,lks_app,h2,List.nil_append]
theorem lkW_set{cs us:List CV}{os vs:List Value}{off:Nat}(h1:lks us= [])(h2:lks ((cs.drop off).take us.length)= [])(hl:cs.length=os.length)(hu:us.length=vs.length)(ho:off+us.length≤cs.length):lkW (cs.take off++us++cs.drop (off+us.length)) (setCells os off vs)=lkW cs os:=by
 have e : ∀ {α:Type} (cs:List α),cs=cs.take off++((cs.drop off).take us.length++cs.drop (off+us.length)):=fun cs=>by
  rw[←List.drop_drop,List.take_append_drop,List.take_append_drop]
 have a1:(cs.take off).length=(os.take off).length:=by simp[hl]
 have a2:((cs.drop off).take us.length).length=((os.drop off).take us.length).length:=by simp[hl]
 unfold setCells
 rw[lkW_app (by rw[List.length_append,List.length_append,a1,hu]),lkW_app a1,lkW_none h1,List.append_nil,←hu]
 conv=>rhs;rw[e cs,e os,lkW_app a1,lkW_app a2,lkW_none h2,List.nil_append]
theorem JR.mv{l l':List (Nat×TypeId×List CV)}{W:Nat→Prop}(h:JR Z l K sp W)(hl:l'.length=l.length)(h0 : ∀v e cs,l[0]? = some (v,e,cs)→∃v' cs',l'[0]? = some (v',e,cs')∧lks cs'=lks cs∧cs'.length=cs.length∧(lks cs≠ []→∀p os,sp=some p→K.ob p= .cells os e .ex→∃os',K'.ob p= .cells os' e .ex∧os'.length=os.length∧lkW cs' os'=lkW cs os))(hw : ∀b,W b→K'.ob b=K.ob b)(hn:K.nx≤K'.nx):JR Z l' K' sp W:=by
 match l,l',h,hl,h0 with
 | [],[],h,_,_=>exact h
 | (v,e,cs)::r,(v',e',cs')::r',h,_,h0=>
   obtain⟨v2,cs2,q1,q2,q3,q4⟩:=h0 v e cs rfl
   cases q1
   rcases h with ⟨h1,h2⟩ | ⟨h1,p,os,h2,h3,h4,h5⟩
   ·exact .inl ⟨q2.trans h1,h2⟩
   ·obtain⟨os',g1,g2,g3⟩:=q4 h1 p os h2 h3
    refine .inr ⟨by rw[q2];exact h1,p,os',h2,g1,by rw[g2,h4,q3],?_⟩
    rw[q2,g3]
    exact Z.jm h5 hw hn
theorem JR.act{l:List (Nat×TypeId×List CV)}{W:Nat→Prop}{g:Nat→SA}(h:JR Z l K sp W)(hp : ∀p,sp=some p→K'.ob p=K.ob p)(hw : ∀b,W b→K'.ob b=K.ob b)(hn:K.nx≤K'.nx):JR Z (l.map fun(v,e,cs)=>(v,e,cs.map (CV.act g))) K' sp W:=by
 refine h.mv (by rw[List.length_map]) (fun v e cs q=>⟨v,cs.map (CV.act g),by rw[List.getElem?_map,q];rfl,lks_act,by rw[List.length_map],fun _ p os h1 h2=>⟨os,(hp p h1).trans h2,rfl,lkW_act⟩⟩) hw hn
theorem TR.step(h:TR Z K0 sp W0 K st fr cfr E){g:Nat→SA}(m:Mv K E g K' E'){nt':Nat}(hnx:K.nx≤K'.nx)(hk : ∀b,b<K.nx→(∀t,E.σ t≠some b)→K'.ob b=K.ob b)(hhid:E'.hid=E.hid)(hσ : ∀t b,E'.σ t=some b→K0.nx≤b∧b<K'.nx∧t<nt'∧(∀o,E.ρ o≠some b)∧¬E.hid b)(hinj : ∀t t' b,E'.σ t=some b→E'.σ t'=some b→t=t')(hρ:E'.ρ=E.ρ):TR Z K0 sp W0 K' ⟨nt',(st.act g).obs⟩ (fr.act g) cfr E':=by
 have hold : ∀b,b<K0.nx→K'.ob b=K.ob b:=fun b hb=>hk b (Nat.lt_of_lt_of_le hb h.nx) fun t ht=>by have:=(h.sig t b ht).1;omega
 refine⟨Nat.le_trans h.nx hnx,fun b hb hp hw=>(hold b hb).trans (h.keep b hb hp hw),fun b hb=> ?_,fun b hb=> ?_,?_,fun t b q=> ?_,hinj,fun t o b q=> ?_,fun o b q=> ?_,fun o o' b q q'=> ?_,fun o v e cs q=> ?_,fun t=>(h.frm t).mv m⟩
 ·obtain⟨k1,k2,k3,k4⟩:=h.prot b hb
  exact⟨k1,k2,k3,(hold b k1).trans k4⟩
 ·rw[hhid] at hb
  obtain⟨k1,k2,k3⟩:=h.hid b hb
  exact⟨Nat.lt_of_lt_of_le k1 hnx,fun t q=>(hσ t b q).2.2.2.2 hb,fun o q=>k3 o (by rwa [hρ] at q)⟩
 ·obtain⟨W,w1,w2⟩:=h.wr
  refine⟨W,fun b hb=>by rw[hhid];exact w1 b hb,?_⟩
  rw[hρ]
  refine w2.act (fun p q=>hk p (h.rho 0 p q).1 fun t q'=>h.sr t 0 p q' q) (fun b hb=> ?_) hnx
  obtain⟨k1,k2,_⟩:=h.hid b (w1 b hb).1
  exact hk b k1 k2
 ·obtain⟨k1,k2,k3,_⟩:=hσ t b q;exact⟨k1,k2,k3⟩
 ·rw[hρ];exact(hσ t b q).2.2.2.1 o
 ·rw[hρ] at q
  obtain⟨k1,k2,k3⟩:=h.rho o b q
  exact⟨Nat.lt_of_lt_of_le k1 hnx,k2,by show o<(st.obs.map _).length;rw[List.length_map];exact k3⟩
 ·rw[hρ] at q q';exact h.rinj o o' b q q'
 ·have q:(st.obs.map fun(v,e,cs)=>(v,e,cs.map (CV.act g)))[o]? = some (v,e,cs):=q
  rw[List.getElem?_map] at q
  cases hq:st.obs[o]? with
  | none=>rw[hq] at q;cases q
  | some y=>
    rw[hq] at q
    obtain⟨v1,e1,cs1⟩:=y
    cases q
    obtain⟨b,os,k1,k2,k3⟩:=h.obs o _ _ _ hq
    refine⟨b,os,by rw[hρ];exact k1,(hk b (h.rho o b k1).1 fun t ht=>h.sr t o b ht k1).trans k2,k3.map fun _ _ q=>q.mv m⟩
theorem Stp.act{g:Nat→SA}(hhid:E'.hid=E.hid)(hρ:E'.ρ=E.ρ)(ho : ∀o b,E.ρ o=some b→K'.ob b=K.ob b){nt':Nat}:Stp K st E K' ⟨nt',(st.act g).obs⟩ E':=⟨fun b q=>(by rw[hhid];exact q),fun o b h=>by rw[hρ];exact h,fun o v e cs h=>⟨v,cs.map (CV.act g),by
 show(st.obs.map _)[o]? = _
 rw[List.getElem?_map,h];rfl,Nat.le_refl _,fun _ b hb=>ho o b hb⟩⟩
theorem TR.fz(h:TR Z K0 sp W0 K st fr cfr E)(l:List Nat) : ∃E',TR Z K0 sp W0 K ⟨st.nt,(st.act (fzG l)).obs⟩ (fr.act (fzG l)) cfr E'∧Mv K E (fzG l) K E'∧Stp K st E K ⟨st.nt,(st.act (fzG l)).obs⟩ E'∧E'=⟨fun t=>if t∈l then none else E.σ t,E.ρ,E.hid⟩:=by
 have hs : ∀t b,(if t∈l then none else E.σ t)=some b→t∉l∧E.σ t=some b:=fun t b q=>by
  split at q
  ·cases q
  ·rename_i hn;exact⟨hn,q⟩
 have m:Mv K E (fzG l) K ⟨fun t=>if t∈l then none else E.σ t,E.ρ,E.hid⟩:=by
  refine⟨fun b hb=>⟨⟨hb.1,hb.2.1,fun t q=>hb.2.2.1 t (hs t b q).2,hb.2.2.2⟩,rfl⟩,fun t b q e=>⟨?_,rfl⟩,fun t b q e=>⟨?_,rfl⟩,fun o b q=>q⟩
  ·show(if t∈l then none else E.σ t)=some b
   unfold fzG at e
   split at e
   ·cases e
   ·rename_i hn;rw[if_neg hn];exact q
  ·unfold fzG at e
   split at e
   ·rename_i hn
    obtain⟨k1,k2,k3⟩:=h.sig t b q
    refine⟨k2,fun hh=>(h.hid b hh).2.1 t q,fun t' q'=> ?_,fun o=>h.sr t o b q⟩
    obtain⟨g1,g2⟩:=hs t' b q'
    exact g1 (h.inj t t' b q g2▸hn)
   ·cases e
 exact⟨_,h.step m (Nat.le_refl _) (fun _ _ _=>rfl) rfl (fun t b q=>by
  obtain⟨g1,g2⟩:=hs t b q
  obtain⟨k1,k2,k3⟩:=h.sig t b g2
  exact⟨k1,k2,k3,fun o=>h.sr t o b g2,fun hh=>(h.hid b hh).2.1 t g2⟩) (fun t t' b q q'=>h.inj t t' b (hs t b q).2 (hs t' b q').2) rfl,m,Stp.act (E:=E) (E':=⟨fun t=>if t∈l then none else E.σ t,E.ρ,E.hid⟩) rfl rfl (fun _ _ _=>rfl),rfl⟩
theorem TR.row(h:TR Z K0 sp W0 K st fr cfr E){os:List Value}{e:TypeId}{kd:Kd}{sz:Nat}{gs:List (List SV)}(hne:gs≠ []∧gs.length≤maxLen)(hk:kd.isRo=false)(hg : ∀g∈gs,g.length=sz)(hs:SVRs K (Frz K E) gs.flatten os)(hty:sz=5→e=ndTy) : ∃E',TR Z K0 sp W0 (K.new (.cells os e kd)) ⟨st.nt+1,st.obs⟩ fr cfr E'∧Stp K st E (K.new (.cells os e kd)) ⟨st.nt+1,st.obs⟩ E'∧AVR (K.new (.cells os e kd)) E' (.r (.c (.own st.nt e sz gs))) (.slice (some ⟨K.nx,0,none⟩) gs.length gs.length):=by
 have hnt : ∀b,E.σ st.nt≠some b:=fun b q=>by have:=(h.sig _ b q).2.2;omega
 have hob : ∀b,b<K.nx→(K.new (.cells os e kd)).ob b=K.ob b:=fun b hb=>new_ne (by omega)
 have hsg : ∀t b,(if t=st.nt then some K.nx else E.σ t)=some b→(t=st.nt∧b=K.nx)∨(t≠st.nt∧E.σ t=some b):=fun t b q=>by
  split at q
  ·rename_i e;cases q;exact .inl ⟨e,rfl⟩
  ·rename_i e;exact .inr ⟨e,q⟩
 have m:Mv K E (fun _=> .keep) (K.new (.cells os e kd)) ⟨fun t=>if t=st.nt then some K.nx else E.σ t,E.ρ,E.hid⟩:=by
  refine⟨fun b hb=>⟨⟨Nat.lt_succ_of_lt hb.1,hb.2.1,fun t q=> ?_,hb.2.2.2⟩,hob b hb.1⟩,fun t b q _=>⟨?_,hob b (h.sig t b q).2.1⟩,(fun _ _ _ q=>(by cases q)),fun o b q=>q⟩
  ·have:=hb.1
   rcases hsg t b q with ⟨_,e⟩ | ⟨_,e⟩
   ·omega
   ·exact hb.2.2.1 t e
  ·show(if t=st.nt then some K.nx else E.σ t)=some b
   rw[if_neg (fun e=>hnt b (by rw[←e];exact q))];exact q
 have ht:=h.step m (nt':=st.nt+1) (Nat.le_succ _) (fun b hb _=>hob b hb) rfl (fun t b q=>by
  rcases hsg t b q with ⟨e1,e2⟩ | ⟨e1,e2⟩
  ·subst e2
   exact⟨h.nx,Nat.lt_succ_self _,by omega,fun o q=>by have:=(h.rho o _ q).1;omega,fun hh=>by have:=(h.hid _ hh).1;omega⟩
  ·obtain⟨k1,k2,k3⟩:=h.sig t b e2
   exact⟨k1,Nat.lt_succ_of_lt k2,by omega,fun o=>h.sr t o b e2,fun hh=>(h.hid b hh).2.1 t e2⟩) (fun t t' b q q'=>by
  rcases hsg t b q with ⟨e1,e2⟩ | ⟨e1,e2⟩<;>rcases hsg t' b q' with ⟨f1,f2⟩ | ⟨f1,f2⟩
  ·omega
  ·have:=(h.sig t' b f2).2.1;omega
  ·have:=(h.sig t b e2).2.1;omega
  ·exact h.inj t t' b e2 f2) rfl
 rw[TFr.act_keep,TS.act_keep] at ht
 refine⟨_,ht,?_, .r (.c (.own hne (if_pos rfl) (new_ob rfl) hk hg (hs.mv m.frz) hty))⟩
 have:=Stp.act (K:=K) (st:=st) (E:=E) (K':=K.new (.cells os e kd)) (E':=⟨fun t=>if t=st.nt then some K.nx else E.σ t,E.ρ,E.hid⟩) (g:=fun _=> .keep) (nt':=st.nt+1) rfl rfl fun o b q=>hob b (h.rho o b q).1
 rwa [TS.act_keep] at this
theorem TR.kil(h:TR Z K0 sp W0 K st fr cfr E)(t:Nat){o:CObj} : ∃E',TR Z K0 sp W0 (match E.σ t with | some b=>K.set b o | none=>K) ⟨st.nt,(st.act (killG (some t))).obs⟩ (fr.act (killG (some t))) cfr E'∧Mv K E (killG (some t)) (match E.σ t with | some b=>K.set b o | none=>K) E'∧Stp K st E (match E.σ t with | some b=>K.set b o | none=>K) ⟨st.nt,(st.act (killG (some t))).obs⟩ E':=by
 obtain⟨K',hK'⟩ : ∃K',(match E.σ t with | some b=>K.set b o | none=>K)=K':=⟨_,rfl⟩
 rw[hK']
 have hnx:K'.nx=K.nx:=by rw[←hK'];cases E.σ t<;>rfl
 have hob : ∀b,E.σ t≠some b→K'.ob b=K.ob b:=fun b hb=>by
  rw[←hK']
  cases he:E.σ t with
  | none=>rfl
  | some b'=>exact set_ne (fun e=>hb (by rw[he,e]))
 have hs : ∀t' b,(if t'=t then none else E.σ t')=some b→t'≠t∧E.σ t'=some b:=fun t' b q=>by
  split at q
  ·cases q
  ·rename_i hn;exact⟨hn,q⟩
 have hne : ∀t' b,t'≠t→E.σ t'=some b→E.σ t≠some b:=fun t' b hn q q'=>hn (h.inj t' t b q q')
 have m:Mv K E (killG (some t)) K' ⟨fun t'=>if t'=t then none else E.σ t',E.ρ,E.hid⟩:=by
  refine⟨fun b hb=>⟨⟨by rw[hnx];exact hb.1,hb.2.1,fun t' q=>hb.2.2.1 t' (hs t' b q).2,hb.2.2.2⟩,hob b (hb.2.2.1 t)⟩,fun t' b q e=> ?_,fun t' b q e=> ?_,fun o b q=>q⟩
  ·unfold killG at e
   split at e
   ·cases e
   ·rename_i hn
    have hn:t'≠t:=fun e=>hn (by rw[e])
    exact⟨(if_neg hn).trans q,hob b (hne t' b hn q)⟩
  ·unfold killG at e
   split at e<;>cases e
 refine⟨_,h.step m (by rw[hnx];exact Nat.le_refl _) (fun b _ hb=>hob b (hb t)) rfl (fun t' b q=> ?_) (fun t1 t2 b q q'=>h.inj t1 t2 b (hs t1 b q).2 (hs t2 b q').2) rfl,m,Stp.act (E:=E) (E':=⟨fun t'=>if t'=t then none else E.σ t',E.ρ,E.hid⟩) rfl rfl fun o b q=>hob b fun q'=>h.sr t o b q' q⟩
 obtain⟨g1,g2⟩:=hs t' b q
 obtain⟨k1,k2,k3⟩:=h.sig t' b g2
 exact⟨k1,by rw[hnx];exact k2,k3,fun o=>h.sr t' o b g2,fun hh=>(h.hid b hh).2.1 t' g2⟩
theorem TR.kil0(h:TR Z K0 sp W0 K st fr cfr E)(t:Nat) : ∃E',TR Z K0 sp W0 K ⟨st.nt,(st.act (killG (some t))).obs⟩ (fr.act (killG (some t))) cfr E'∧Mv K E (killG (some t)) K E'∧Stp K st E K ⟨st.nt,(st.act (killG (some t))).obs⟩ E'∧∀b,E.σ t=some b→K0.nx≤b∧b<K.nx∧(∀t,E'.σ t≠some b)∧∀o,E'.ρ o≠some b:=by
 have hs : ∀t' b,(if t'=t then none else E.σ t')=some b→t'≠t∧E.σ t'=some b:=fun t' b q=>by
  split at q
  ·cases q
  ·rename_i hn;exact⟨hn,q⟩
 have m:Mv K E (killG (some t)) K ⟨fun t'=>if t'=t then none else E.σ t',E.ρ,E.hid⟩:=by
  refine⟨fun b hb=>⟨⟨hb.1,hb.2.1,fun t' q=>hb.2.2.1 t' (hs t' b q).2,hb.2.2.2⟩,rfl⟩,fun t' b q e=> ?_,fun t' b q e=> ?_,fun o b q=>q⟩
  ·unfold killG at e
   split at e
   ·cases e
   ·rename_i hn
    have hn:t'≠t:=fun e=>hn (by rw[e])
    exact⟨(if_neg hn).trans q,rfl⟩
  ·unfold killG at e
   split at e<;>cases e
 refine⟨_,h.step m (Nat.le_refl _) (fun b _ hb=>rfl) rfl (fun t' b q=> ?_) (fun t1 t2 b q q'=>h.inj t1 t2 b (hs t1 b q).2 (hs t2 b q').2) rfl,m,Stp.act (E:=E) (E':=⟨fun t'=>if t'=t then none else E.σ t',E.ρ,E.hid⟩) rfl rfl fun o b q=>rfl,fun b q=>⟨(h.sig t b q).1,(h.sig t b q).2.1,fun t' q'=>(hs t' b q').1 (h.inj t' t b (hs t' b q').2 q),fun o=>h.sr t o b q⟩⟩
 obtain⟨g1,g2⟩:=hs t' b q
 obtain⟨k1,k2,k3⟩:=h.sig t' b g2
 exact⟨k1,k2,k3,fun o=>h.sr t' o b g2,fun hh=>(h.hid b hh).2.1 t' g2⟩
theorem TR.obj(h:TR Z K0 sp W0 K st fr cfr E){os:List Value}{e:TypeId}{cs:List CV}(hs:R2 (CVR K E) cs os)(hlk:lks cs= []) : ∃E',TR Z K0 sp W0 (K.new (.cells os e .ex)) ⟨st.nt,st.obs++ [(0,e,cs)]⟩ fr cfr E'∧Stp K st E (K.new (.cells os e .ex)) ⟨st.nt,st.obs++ [(0,e,cs)]⟩ E'∧AVR (K.new (.cells os e .ex)) E' (.ptr st.obs.length 0) (.pointer (some ⟨K.nx,0,none⟩)):=by
 have hob : ∀b,b<K.nx→(K.new (.cells os e .ex)).ob b=K.ob b:=fun b hb=>new_ne (by omega)
 have hsg : ∀o b,(if o=st.obs.length then some K.nx else E.ρ o)=some b→(o=st.obs.length∧b=K.nx)∨(o≠st.obs.length∧E.ρ o=some b):=fun t b q=>by
  split at q
  ·rename_i e;cases q;exact .inl ⟨e,rfl⟩
  ·rename_i e;exact .inr ⟨e,q⟩
 have hlo : ∀o b,E.ρ o=some b→(if o=st.obs.length then some K.nx else E.ρ o)=some b:=fun o b q=>by
  rw[if_neg (fun e=>by have:=(h.rho o b q).2.2;omega)];exact q
 have m:Mv K E (fun _=> .keep) (K.new (.cells os e .ex)) ⟨E.σ,fun o=>if o=st.obs.length then some K.nx else E.ρ o,E.hid⟩:=by
  refine⟨fun b hb=>⟨⟨Nat.lt_succ_of_lt hb.1,hb.2.1,hb.2.2.1,fun t q=> ?_⟩,hob b hb.1⟩,fun t b q _=>⟨q,hob b (h.sig t b q).2.1⟩,(fun _ _ _ q=>(by cases q)),hlo⟩
  have:=hb.1
  rcases hsg t b q with ⟨_,e⟩ | ⟨_,e⟩
  ·omega
  ·exact hb.2.2.2 t e
 have hmv : ∀ {x v},AVR K E x v→AVR (K.new (.cells os e .ex)) ⟨E.σ,fun o=>if o=st.obs.length then some K.nx else E.ρ o,E.hid⟩ x v:=fun q=>by
  have:=q.mv m;rwa [AV.act_keep] at this
 have hcv : ∀x v,CVR K E x v→CVR (K.new (.cells os e .ex)) ⟨E.σ,fun o=>if o=st.obs.length then some K.nx else E.ρ o,E.hid⟩ x v:=fun x v q=>by
  have:=q.mv m;rwa [CV.act_keep] at this
 refine⟨⟨E.σ,fun o=>if o=st.obs.length then some K.nx else E.ρ o,E.hid⟩,⟨Nat.le_succ_of_le h.nx,fun b hb hp hw=> ?_,fun b hb=> ?_,fun b hb=> ?_,?_,fun t b q=> ?_,h.inj,fun t o b q q'=> ?_,fun o b q=> ?_,fun o o' b q q'=> ?_,fun o v e' cs' q=> ?_,fun t=>hmv (h.frm t)⟩,⟨fun _ q=>q,hlo,fun o v e' cs' q=> ?_⟩, .ptr (if_pos rfl)⟩
 ·have:=h.nx;exact(hob b (by omega)).trans (h.keep b hb hp hw)
 ·obtain⟨k1,k2,k3,k4⟩:=h.prot b hb
  have:=h.nx;exact⟨k1,k2,k3,(hob b (by omega)).trans k4⟩
 ·obtain⟨k1,k2,k3⟩:=h.hid b hb
  refine⟨Nat.lt_succ_of_lt k1,k2,fun o q=> ?_⟩
  rcases hsg o b q with ⟨_,e⟩ | ⟨_,e⟩
  ·omega
  ·exact k3 o e
 ·obtain⟨W,w1,w2⟩:=h.wr
  refine⟨W,w1,?_⟩
  have hr:st.obs≠ []→(if 0=st.obs.length then some K.nx else E.ρ 0)=E.ρ 0:=fun hne=>if_neg fun e=>hne (List.length_eq_zero_iff.1 e.symm)
  show JR Z (st.obs++ [(0,e,cs)]) _ (if 0=st.obs.length then some K.nx else E.ρ 0) W
  match hl:st.obs,w2,hr with
  | [],w2,_=>exact .inl ⟨hlk,w2⟩
  | (v,e',cs')::r,w2,hr=>
    rw[hr (by simp)]
    refine JR.mv (l:=(v,e',cs')::r) (l':=(v,e',cs')::r) w2 rfl (fun v e cs q=>⟨v,cs,q,rfl,rfl,fun _ p os h1 h2=>⟨os,(hob p (h.rho 0 p h1).1).trans h2,rfl,rfl⟩⟩) (fun b hb=>hob b (h.hid b (w1 b hb).1).1) (Nat.le_succ _)
 ·obtain⟨k1,k2,k3⟩:=h.sig t b q;exact⟨k1,Nat.lt_succ_of_lt k2,k3⟩
 ·rcases hsg o b q' with ⟨e1,e2⟩ | ⟨e1,e2⟩
  ·have:=(h.sig t b q).2.1;omega
  ·exact h.sr t o b q e2
 ·show b<K.nx+1∧_∧o<(st.obs++ [(0,e,cs)]).length
  rw[List.length_append,List.length_singleton]
  rcases hsg o b q with ⟨e1,e2⟩ | ⟨e1,e2⟩
  ·have:=h.nx;exact⟨by omega, .inl (by omega),by omega⟩
  ·obtain⟨k1,k2,k3⟩:=h.rho o b e2;exact⟨by omega,k2,by omega⟩
 ·rcases hsg o b q with ⟨e1,e2⟩ | ⟨e1,e2⟩<;>rcases hsg o' b q' with ⟨f1,f2⟩ | ⟨f1,f2⟩
  ·omega
  ·have:=(h.rho o' b f2).1;omega
  ·have:=(h.rho o b e2).1;omega
  ·exact h.rinj o o' b e2 f2
 ·have q:(st.obs++ [(0,e,cs)])[o]? = some (v,e',cs'):=q
  rw[List.getElem?_append] at q
  split at q
  ·obtain⟨b,os',k1,k2,k3⟩:=h.obs o v e' cs' q
   exact⟨b,os',hlo o b k1,(hob b (h.rho o b k1).1).trans k2,k3.mono hcv⟩
  ·rename_i hlt
   have ho:o=st.obs.length:=by
    have:=(List.getElem?_eq_some_iff.1 q).1
    simp at this;omega
   subst ho
   simp at q
   obtain⟨rfl,rfl,rfl⟩:=q
   exact⟨K.nx,os,if_pos rfl,new_ob rfl,hs.mono hcv⟩
 ·refine⟨v,cs',?_,Nat.le_refl _,fun _ b hb=>hob b (h.rho o b hb).1⟩
  show(st.obs++ [(0,e,cs)])[o]? = _
  rw[List.getElem?_append_left (List.getElem?_eq_some_iff.1 q).1];exact q
theorem TR.sto(h:TR Z K0 sp W0 K st fr cfr E){o b v:Nat}{e:TypeId}{cs us:List CV}{os:List Value}(hρ:E.ρ o=some b)(ho:st.obs[o]? = some (v,e,cs))(hs:R2 (CVR K E) us os)(hlk:lks us=lks cs∧us.length=cs.length∧(lks cs≠ []→∀os0,K.ob b= .cells os0 e .ex→os.length=os0.length∧lkW us os=lkW cs os0)):TR Z K0 sp W0 (K.set b (.cells os e .ex)) ⟨st.nt,st.obs.set o (v+1,e,us)⟩ fr cfr E∧Stp K st E (K.set b (.cells os e .ex)) ⟨st.nt,st.obs.set o (v+1,e,us)⟩ E:=by
 have hob : ∀l,l≠b→(K.set b (.cells os e .ex)).ob l=K.ob l:=fun l hl=>set_ne hl
 have m:Mv K E (fun _=> .keep) (K.set b (.cells os e .ex)) E:=by
  refine⟨fun l hl=>⟨hl,hob l fun e=>hl.2.2.2 o (e▸hρ)⟩,fun t l q _=>⟨q,hob l fun e=>h.sr t o l q (e▸hρ)⟩,(fun _ _ _ q=>(by cases q)),fun _ _ q=>q⟩
 have hmv : ∀ {x v},AVR K E x v→AVR (K.set b (.cells os e .ex)) E x v:=fun q=>by
  have:=q.mv m;rwa [AV.act_keep] at this
 have hcv : ∀x v,CVR K E x v→CVR (K.set b (.cells os e .ex)) E x v:=fun x v q=>by
  have:=q.mv m;rwa [CV.act_keep] at this
 obtain⟨r1,r2,r3⟩:=h.rho o b hρ
 refine⟨⟨h.nx,fun l hl hp hw=> ?_,fun l hl=> ?_,h.hid,?_,h.sig,h.inj,h.sr,fun o' l q=> ?_,h.rinj,fun o' v' e' cs' q=> ?_,fun t=>hmv (h.frm t)⟩,⟨fun _ q=>q,fun _ _ q=>q,fun o' v' e' cs' q=> ?_⟩⟩
 ·refine(hob l fun e=> ?_).trans (h.keep l hl hp hw)
  subst e
  rcases r2 with r2 | r2
  ·omega
  ·exact hp r2
 ·obtain⟨k1,k2,k3,k4⟩:=h.prot l hl
  refine⟨k1,k2,k3,(hob l fun e=> ?_).trans k4⟩
  subst e
  rcases r2 with r2 | r2
  ·omega
  ·exact k2 r2
 ·obtain⟨W,w1,w2⟩:=h.wr
  refine⟨W,w1,JR.mv w2 (by show(st.obs.set o _).length=_;rw[List.length_set]) (fun v' e' cs' q=> ?_) (fun l hl=>hob l fun e=>(h.hid l (w1 l hl).1).2.2 o (e▸hρ)) (Nat.le_refl _)⟩
  show ∃v'' cs'',(st.obs.set o (v+1,e,us))[0]? = _∧_
  by_cases ho':o=0
  ·subst ho'
   rw[ho] at q;cases q
   refine⟨v+1,us,List.getElem?_set_self r3,hlk.1,hlk.2.1,fun hne p os0 h1 h2=> ?_⟩
   have hpb:p=b:=by rw[hρ] at h1;cases h1;rfl
   subst hpb
   obtain⟨g1,g2⟩:=hlk.2.2 hne os0 h2
   exact⟨os,set_ob,g1,g2⟩
  ·refine⟨v',cs',(List.getElem?_set_ne ho').trans q,rfl,rfl,fun _ p os0 h1 h2=>⟨os0,(hob p fun e=>ho' ?_).trans h2,rfl,rfl⟩⟩
   exact h.rinj o 0 b hρ (e▸h1)
 ·obtain⟨k1,k2,k3⟩:=h.rho o' l q
  exact⟨k1,k2,by show o'<(st.obs.set o _).length;rw[List.length_set];exact k3⟩
 ·have q:(st.obs.set o (v+1,e,us))[o']? = some (v',e',cs'):=q
  by_cases ho':o=o'
  ·subst ho'
   rw[List.getElem?_set_self r3] at q
   cases q
   exact⟨b,os,hρ,set_ob,hs.mono hcv⟩
  ·rw[List.getElem?_set_ne ho'] at q
   obtain⟨l,os',k1,k2,k3⟩:=h.obs o' v' e' cs' q
   exact⟨l,os',k1,(hob l fun e=>ho' (h.rinj o o' b hρ (e▸k1))).trans k2,k3.mono hcv⟩
 ·by_cases ho':o=o'
  ·subst ho'
   rw[ho] at q;cases q
   exact⟨v+1,us,List.getElem?_set_self r3,Nat.le_succ _,fun e=>by omega⟩
  ·refine⟨v',cs',(List.getElem?_set_ne ho').trans q,Nat.le_refl _,fun _ l hl=>hob l fun e=>ho' (h.rinj o o' b hρ (e▸hl))⟩
end Can
end Go.Proofs.YtdfgkcoenagaaaaGreat
end
section
namespace Go.Proofs.YtdfgkcoenagaaaaGreat
namespace Can
open Go Go.RowKit
set_option linter.unusedSimpArgs false
set_option linter.unusedVariables false
variable {T:Tbl} {Z:TP} {K0 K K' K'':CH} {sp:Option Nat} {W0:Nat→Prop} {st st' st'' st1:TS} {fr fr1:TFr} {cfr:Fr} {E E' E'':TE}
theorem SVRs.app{A:Nat→Prop}{xs ys:List SV}{vs us:List Value}(h:SVRs K A xs vs)(g:SVRs K A ys us):SVRs K A (xs++ys) (vs++us):=(h.r2.app g.r2).svrs
theorem src_rel{a:AV}{v:Value}(h:AVR K E a v){t:Option Nat}{z:Option Nat}{hs:List (List SV)}(hr:a.rowOf=some (t,z,hs)){sz:Nat}(hz:srcOk sz z) : ∃xs,srcCells K sz v=some (xs,hs.length)∧SVRs K (Frz K E) hs.flatten xs∧(∀g∈hs,g.length=sz):=by
 rcases row_rel h hr with ⟨rfl,rfl⟩ | ⟨hne,sz',b,os,ty,kd,rfl,k1,k2,k3,k4,k5,rfl⟩
 ·exact⟨[],rfl, .nil,(fun _ q=>(by cases q))⟩
 ·cases hz
  refine⟨os,?_,k5,k4⟩
  have hl:os.length=hs.length*sz:=by rw[k5.r2.len,flat_len' k4]
  have h0:hs.length≠0:=fun e=>hne.1 (List.length_eq_zero_iff.1 e)
  simp only[srcCells,h0,if_false,k2]
  rw[if_pos (by omega),List.drop_zero,List.take_of_length_le (by omega)]
theorem r2_cells{A:Nat→Prop} : ∀ {xs:List SV} {vs:List Value},R2 (SVR K A) xs vs→vs.all isCell=true
 | _,_, .nil=>rfl
 | _,_, .cons h t=>by rw[List.all_cons,SVR.cell h,r2_cells t];rfl
theorem SVRs.cells{A:Nat→Prop}{xs:List SV}{vs:List Value}(h:SVRs K A xs vs):vs.all isCell=true:=r2_cells h.r2
theorem CVRs.cells{xs:List CV}{vs:List Value}(h:R2 (CVR K E) xs vs):vs.all isCell=true:=by
 induction h with
 | nil=>rfl
 | cons h t ih=>rw[List.all_cons,h.cell,ih];rfl
theorem TR.ren(h:TR Z K0 sp W0 K st fr cfr E)(t:Nat) : ∃E',TR Z K0 sp W0 K ⟨st.nt+1,(st.act (killG (some t))).obs⟩ (fr.act (killG (some t))) cfr E'∧Stp K st E K ⟨st.nt+1,(st.act (killG (some t))).obs⟩ E'∧(∀b,Frz K E b→Frz K E' b)∧E'.σ st.nt=E.σ t:=by
 have hnt : ∀b,E.σ st.nt≠some b:=fun b q=>by have:=(h.sig _ b q).2.2;omega
 have hs : ∀t' b,(if t'=st.nt then E.σ t else if t'=t then none else E.σ t')=some b→(t'=st.nt∧E.σ t=some b)∨(t'≠st.nt∧t'≠t∧E.σ t'=some b):=fun t' b q=>by
  split at q
  ·rename_i e;exact .inl ⟨e,q⟩
  ·rename_i e
   split at q
   ·cases q
   ·rename_i e';exact .inr ⟨e,e',q⟩
 have hfz : ∀b,Frz K E b→Frz K ⟨fun t'=>if t'=st.nt then E.σ t else if t'=t then none else E.σ t',E.ρ,E.hid⟩ b:=fun b hb=>⟨hb.1,hb.2.1,fun t' q=>by
  rcases hs t' b q with ⟨_,e⟩ | ⟨_,_,e⟩
  ·exact hb.2.2.1 t e
  ·exact hb.2.2.1 t' e,hb.2.2.2⟩
 have m:Mv K E (killG (some t)) K ⟨fun t'=>if t'=st.nt then E.σ t else if t'=t then none else E.σ t',E.ρ,E.hid⟩:=by
  refine⟨fun b hb=>⟨hfz b hb,rfl⟩,fun t' b q e=> ?_,fun t' b q e=> ?_,fun o b q=>q⟩
  ·unfold killG at e
   split at e
   ·cases e
   ·rename_i hn
    have hn:t'≠t:=fun e=>hn (by rw[e])
    refine⟨?_,rfl⟩
    show(if t'=st.nt then E.σ t else if t'=t then none else E.σ t')=some b
    rw[if_neg (fun e=>hnt b (by rw[←e];exact q)),if_neg hn];exact q
  ·unfold killG at e
   split at e<;>cases e
 refine⟨_,h.step m (Nat.le_refl _) (fun b _ hb=>rfl) rfl (fun t' b q=> ?_) (fun t1 t2 b q q'=> ?_) rfl,Stp.act (E:=E) (E':=⟨fun t'=>if t'=st.nt then E.σ t else if t'=t then none else E.σ t',E.ρ,E.hid⟩) rfl rfl fun o b q=>rfl,hfz,if_pos rfl⟩
 ·rcases hs t' b q with ⟨e1,e⟩ | ⟨e1,_,e⟩
  ·obtain⟨k1,k2,k3⟩:=h.sig t b e
   exact⟨k1,k2,by omega,fun o=>h.sr t o b e,fun hh=>(h.hid b hh).2.1 t e⟩
  ·obtain⟨k1,k2,k3⟩:=h.sig t' b e
   exact⟨k1,k2,by omega,fun o=>h.sr t' o b e,fun hh=>(h.hid b hh).2.1 t' e⟩
 ·rcases hs t1 b q with ⟨e1,e⟩ | ⟨e1,e2,e⟩<;>rcases hs t2 b q' with ⟨f1,f⟩ | ⟨f1,f2,f⟩
  ·omega
  ·exact absurd (h.inj t2 t b f e) f2
  ·exact absurd (h.inj t1 t b e f) e2
  ·exact h.inj t1 t2 b e f
theorem tapp_sound(h:TR Z K0 sp W0 K st fr cfr E){e sz bytes:Nat}{s x:Operand}{a:AV}(ht:twop fr st (.app e sz bytes s x)=some (a,fr1,st1)) : ∃v K1 E1,wop K (evF cfr) (.app e sz bytes s x)=some (v,K1)∧TR Z K0 sp W0 K1 st1 fr1 cfr E1∧AVR K1 E1 a v∧Stp K st E K1 st1 E1:=by
 simp only[twop] at ht
 split at ht
 ·rename_i o gs tq z hs e1 e2
  split at ht
  ·rename_i hc
   obtain⟨c1,c2,c3,c4,c5⟩:=hc
   have hty0:=tyB_ok c5
   cases ht
   obtain⟨xs,q1,q2,q3⟩:=src_rel (tev_rel h.frm x) e2 c2
   have hall:=q2.cells
   have hgr:=tev_rel h.frm s
   have hnil:o=none→gs= []→evF cfr s= .slice none 0 0→∃v K1 E1,wop K (evF cfr) (.app e sz bytes s x)=some (v,K1)∧TR Z K0 sp W0 K1 ⟨st.nt+1,(kilS o st).obs⟩ (kilF o fr) cfr E1∧AVR K1 E1 (.r (.c (.own st.nt e sz (gs++hs)))) v∧Stp K st E K1 ⟨st.nt+1,(kilS o st).obs⟩ E1:=fun ho hg hv=>by
    subst ho;subst hg
    rw[List.nil_append]
    have hh:hs.length*bytes≤140737488355328∧hs.length≤maxLen:=by simpa using And.intro c3 c4
    by_cases h0:hs.length=0
    ·have:hs= []:=List.length_eq_zero_iff.1 h0
     subst this
     refine⟨.slice none 0 0,K,E,by simp only[wop,q1,hv];rfl,⟨h.nx,h.keep,h.prot,h.hid,h.wr,fun t b q=> ?_,h.inj,h.sr,h.rho,h.rinj,h.obs,h.frm⟩, .r (.c .own0),fun _ h=>h,fun _ _ h=>h,fun o v e cs h=>⟨v,cs,h,Nat.le_refl _,fun _ _ _=>rfl⟩⟩
     obtain⟨k1,k2,k3⟩:=h.sig t b q
     exact⟨k1,k2,Nat.lt_succ_of_lt k3⟩
    ·obtain⟨E1,t1,t2,t3⟩:=h.row (e:=e) (kd:= .gr) (sz:=sz) (gs:=hs) (os:=xs) ⟨fun e=>h0 (by rw[e];rfl),hh.2⟩ rfl q3 q2 hty0
     exact⟨_,_,E1,by simp only[wop,q1,hv,h0,if_false];rw[if_pos ⟨hall,hh.1,hh.2⟩],t1,t3,t2⟩
   unfold AV.growOf at e1
   split at e1
   ·rename_i t e' sz' gs' hts
    cases e1
    obtain⟨rfl,rfl⟩:=c1
    rcases row_rel (t:=some t) hgr (by rw[hts];rfl) with ⟨rfl,hv⟩ | ⟨hne,sz2,b,os,ty,kd,hsz2,k1,k2,k3,k4,k5,hv⟩
    ·
     rw[List.nil_append]
     obtain⟨E2,t1,m,t2⟩:=h.kil0 t
     by_cases h0:hs.length=0
     ·have:hs= []:=List.length_eq_zero_iff.1 h0
      subst this
      refine⟨.slice none 0 0,K,E2,by simp only[wop,q1,hv];rfl,⟨t1.nx,t1.keep,t1.prot,t1.hid,t1.wr,fun t b q=> ?_,t1.inj,t1.sr,t1.rho,t1.rinj,t1.obs,t1.frm⟩, .r (.c .own0),t2.1.1,t2.1.2,t2.1.3⟩
      obtain⟨k1,k2,k3⟩:=t1.sig t b q
      exact⟨k1,k2,Nat.lt_succ_of_lt k3⟩
     ·have hh:hs.length*bytes≤140737488355328∧hs.length≤maxLen:=by simpa using And.intro c3 c4
      obtain⟨E1,s1,s2,s3⟩:=t1.row (e:=e') (kd:= .gr) (sz:=sz') (gs:=hs) (os:=xs) ⟨fun e=>h0 (by rw[e];rfl),hh.2⟩ rfl q3 (q2.mv m.frz) hty0
      exact⟨_,_,E1,by simp only[wop,q1,hv,h0,if_false];rw[if_pos ⟨hall,hh.1,hh.2⟩],s1,s3,t2.1.trans s2⟩
    ·have hty:ty=e':=by
      rw[hts] at hgr
      cases hgr with
      | r hgr=>cases hgr with
        | c hgr=>
          rw[hv] at hgr
          cases hgr with
          | own hne hb ho hk hg hs=>
            have k1:E.σ t=some b:=k1
            rw[k2] at ho;cases ho;rfl
     subst hty
     cases hsz2
     have k1:E.σ t=some b:=k1
     have hl:os.length=gs.length*sz':=by rw[k5.r2.len,flat_len' k4]
     by_cases h0:hs.length=0
     ·have:hs= []:=List.length_eq_zero_iff.1 h0
      subst this
      obtain⟨E1,t1,t2,t3,t4⟩:=h.ren t
      refine⟨.slice (some ⟨b,0,none⟩) gs.length gs.length,K,E1,by simp only[wop,q1,hv,k2];rfl,t1,?_,t2⟩
      rw[List.append_nil]
      exact .r (.c (.own hne (t4.trans k1) k2 k3 k4 (k5.mv fun b hb=>⟨t3 b hb,rfl⟩) hty0))
     ·have hx:wop K (evF cfr) (.app ty sz' bytes s x)=some (.slice (some ⟨K.nx,0,none⟩) (gs.length+hs.length) (gs.length+hs.length),appH (kd.isEx&&decide (gs.length<gs.length+hs.length)) K b (.cells (os++xs) ty .gr)):=by
       simp only[wop,q1,hv,k2,h0,if_false]
       rw[if_pos ⟨trivial,trivial,k3,by omega,hall,c3,c4⟩,List.take_of_length_le (by omega)]
      rw[←List.length_append] at hx
      have hfl:SVRs K (Frz K E) (gs++hs).flatten (os++xs):=by rw[List.flatten_append];exact k5.app q2
      have hgl : ∀g∈gs++hs,g.length=sz':=fun g hg=>(List.mem_append.1 hg).elim (k4 g) (q3 g)
      have hgn:gs++hs≠ []∧(gs++hs).length≤maxLen:=⟨fun e=>hne.1 (List.append_eq_nil_iff.1 e).1,by rw[List.length_append];exact c4⟩
      unfold appH at hx
      split at hx
      ·obtain⟨E2,t1,m,t2⟩:=h.kil0 t
       obtain⟨E1,s1,s2,s3⟩:=t1.row (e:=ty) (kd:= .gr) hgn rfl hgl (hfl.mv m.frz) hty0
       exact⟨_,_,E1,hx,s1,s3,t2.1.trans s2⟩
      ·obtain⟨E2,t1,m,t2⟩:=h.kil t (o:= .dead)
       rw[k1] at t1 m t2
       obtain⟨E1,s1,s2,s3⟩:=t1.row (e:=ty) (kd:= .gr) hgn rfl hgl (hfl.mv m.frz) hty0
       exact⟨_,_,E1,hx,s1,s3,t2.trans s2⟩
   ·rename_i hts
    cases e1
    rcases row_rel (t:=none) (gs:= []) hgr (by rw[hts];rfl) with ⟨_,hv⟩ | ⟨hne,_⟩
    ·exact hnil rfl rfl hv
    ·exact absurd rfl hne.1
   ·cases e1
  ·cases ht
 ·cases ht
theorem grps_rel{sz:Nat} : ∀ {l:List (Option (List CV))} {gs:List (List CV)},grps sz l=some gs→l=gs.map some∧∀g∈gs,g.length=sz
 | [],gs,h=>by cases h;exact⟨rfl,(fun _ q=>(by cases q))⟩
 | none::r,gs,h=>by cases h
 | some cs::r,gs,h=>by
   simp only[grps] at h
   split at h
   ·rename_i hc
    cases hr:grps sz r with
    | none=>rw[hr] at h;cases h
    | some gs'=>
      rw[hr] at h;cases h
      obtain⟨e1,e2⟩:=grps_rel hr
      refine⟨by rw[e1];rfl,fun g hg=> ?_⟩
      rcases List.mem_cons.1 hg with rfl | hg
      ·exact hc
      ·exact e2 g hg
   ·cases h
theorem fz_rel{x:CV}{v:Value}(h:CVR K E x v){y:SV}(hy:x.fz=some y){K':CH}{A:Nat→Prop}(h1 : ∀b,Frz K E b→A b∧K'.ob b=K.ob b)(h2 : ∀t b,t∈x.stamp→E.σ t=some b→A b∧K'.ob b=K.ob b):SVR K' A y v:=by
 cases h with
 | s h=>cases hy;exact h.mv h1
 | own0=>cases hy;exact .row0
 | own hne hb ho hk hg hs ht=>
   cases hy
   obtain⟨q1,q2⟩:=h2 _ _ (List.mem_singleton.2 rfl) hb
   exact .row hne q1 (q2.trans ho) hk hg (hs.mv h1) ht
 | bad=>cases hy
theorem allFz_rel{K':CH}{A:Nat→Prop}(h1 : ∀b,Frz K E b→A b∧K'.ob b=K.ob b) : ∀ {xs:List CV} {vs:List Value} {ys:List SV},R2 (CVR K E) xs vs→allFz xs=some ys→(∀t b,t∈xs.flatMap CV.stamp→E.σ t=some b→A b∧K'.ob b=K.ob b)→R2 (SVR K' A) ys vs
 | _,_,ys, .nil,h,_=>by cases h;exact .nil
 | x::xs,_,ys, .cons hx ht,h,h2=>by
   simp only[allFz] at h
   split at h
   ·rename_i y ys' e1 e2
    cases h
    exact .cons (fz_rel hx e1 h1 fun t b q=>h2 t b (by rw[List.flatMap_cons];exact List.mem_append_left _ q)) (allFz_rel h1 ht e2 fun t b q=>h2 t b (by rw[List.flatMap_cons];exact List.mem_append_right _ q))
   ·cases h
theorem allGz_rel{K':CH}{A:Nat→Prop}(h1 : ∀b,Frz K E b→A b∧K'.ob b=K.ob b) : ∀ {gs:List (List CV)} {hs:List (List SV)} {vs:List Value},R2 (CVR K E) gs.flatten vs→allGz gs=some hs→(∀t b,t∈gs.flatten.flatMap CV.stamp→E.σ t=some b→A b∧K'.ob b=K.ob b)→R2 (SVR K' A) hs.flatten vs∧hs.length=gs.length∧∀sz,(∀g∈gs,g.length=sz)→∀g∈hs,g.length=sz
 | [],hs,vs,hr,h,_=>by
   cases h
   exact⟨(by cases hr;exact .nil),rfl,fun _ _ _ q=>(by cases q)⟩
 | g::gs,hs,vs,hr,h,h2=>by
   simp only[allGz] at h
   split at h
   ·rename_i y ys e1 e2
    cases h
    rw[List.flatten_cons] at hr h2
    have r1:=hr.take g.length
    have r2:=hr.drop g.length
    rw[List.take_left] at r1
    rw[List.drop_left] at r2
    have k1:=allFz_rel h1 r1 e1 fun t b q=>h2 t b (by rw[List.flatMap_append];exact List.mem_append_left _ q)
    obtain⟨k2,k3,k4⟩:=allGz_rel h1 r2 e2 fun t b q=>h2 t b (by rw[List.flatMap_append];exact List.mem_append_right _ q)
    have hyl:y.length=g.length:=by rw[←k1.len,r1.len]
    refine⟨?_,by simp[k3],fun sz hsz x hx=> ?_⟩
    ·rw[List.flatten_cons,←List.take_append_drop g.length vs]
     exact k1.app k2
    ·rcases List.mem_cons.1 hx with rfl | hx
     ·rw[hyl];exact hsz g (by simp)
     ·exact k4 sz (fun g hg=>hsz g (by simp[hg])) x hx
   ·cases h
theorem bld_all{sz:Nat}{ev:Operand→Value} : ∀ {ps:List (Nat×Operand)} {k:Nat} {z:List Value},ps.map (·.1)=List.range' k ps.length→z.length=(k+ps.length)*sz→(∀p∈ps,isVal (ev p.2)=true∧(ev p.2).cells.size=sz)→bldV z (ps.map fun(i,x)=>(i*sz,sz,ev x))=some (z.take (k*sz)++ps.flatMap fun p=>(ev p.2).cells.toList)
 | [],k,z,_,hz,_=>by
   rw[List.take_of_length_le (by simpa using Nat.le_of_eq hz)]
   simp[bldV]
 | (i,x)::ps,k,z,hi,hz,hv=>by
   rw[List.map_cons,List.length_cons,List.range'_succ] at hi
   injection hi with hi1 hi2
   have hi1:i=k:=hi1
   subst hi1
   obtain⟨h1,h2⟩:=hv (i,x) (by simp)
   have hle:i*sz+sz≤z.length:=by
    rw[hz,List.length_cons,show i+(ps.length+1)=(i+1)+ps.length from by omega,Nat.add_mul (i+1),Nat.add_mul i];omega
   have hcl:((ev x).cells.toList).length=sz:=by rw[Array.length_toList];exact h2
   have ih:=bld_all (sz:=sz) (ev:=ev) (ps:=ps) (k:=i+1) (z:=setCells z (i*sz) (ev x).cells.toList) hi2 (by rw[setCells_length (by omega),hz,List.length_cons,show i+(ps.length+1)=(i+1)+ps.length from by omega]) fun p hp=>hv p (by simp[hp])
   show(if isVal (ev x)=true∧(ev x).cells.size=sz∧i*sz+sz≤z.length then bldV (setCells z (i*sz) (ev x).cells.toList) _ else none)=_
   rw[if_pos ⟨h1,h2,hle⟩,ih]
   congr 1
   rw[List.flatMap_cons,←List.append_assoc]
   congr 1
   unfold setCells
   rw[List.take_append_of_le_length (by rw[List.length_append,List.length_take,hcl,Nat.add_mul];omega),List.take_of_length_le (by rw[List.length_append,List.length_take,hcl,Nat.add_mul];omega)]
theorem zeros_len{z:List Value}{n:Nat}:(zeros z n).length=n:=by simp[zeros]
theorem taop_sound(h:TR Z K0 sp W0 K st fr cfr E){x:AOp}{a:AV}(ht:taop fr st x=some (a,fr1,st1)) : ∃cs e k mk E1,aop (evF cfr) x=some (cs,e,k,mk)∧TR Z K0 sp W0 (K.new (.cells cs e k)) st1 fr1 cfr E1∧AVR (K.new (.cells cs e k)) E1 a (akV mk K.nx)∧Stp K st E (K.new (.cells cs e k)) st1 E1:=by
 cases x with
 | new e z=>
   simp only[taop] at ht
   cases hz:zCV z with
   | none=>rw[hz] at ht;cases ht
   | some cs=>
     rw[hz] at ht
     simp only at ht
     split at ht
     ·rename_i hlk
      cases ht
      obtain⟨E1,t1,t2,t3⟩:=h.obj (e:=e) (zCV_rel hz) hlk
      exact⟨_,_,_,_,E1,rfl,t1,t3,t2⟩
     ·cases ht
 | box e x=>
   simp only[taop] at ht
   cases hz:(tev fr x).cvs with
   | none=>rw[hz] at ht;cases ht
   | some cs=>
     rw[hz] at ht
     simp only at ht
     split at ht
     ·rename_i hlk
      cases ht
      obtain⟨q1,q2⟩:=cvs_rel (tev_rel h.frm x) hz
      obtain⟨E1,t1,t2,t3⟩:=h.obj (e:=e) q1 hlk
      exact⟨_,_,_, .ptr,E1,by simp only[aop];rw[if_pos q2],t1,t3,t2⟩
     ·cases ht
 | bsl e sz n z ps=>
   simp only[taop] at ht
   split at ht
   ·rename_i hc
    obtain⟨c1,c2,c3,c4,c5⟩:=hc
    split at ht
    ·rename_i gs hgs
     split at ht
     ·rename_i hs hhs
      cases ht
      obtain⟨g1,g2⟩:=grps_rel hgs
      have hn:ps.length=n:=by have:=congrArg List.length c1;simpa using this
      subst hn
      have hpv : ∀p∈ps,∃g∈gs,(tev fr p.2).cvs=some g:=fun p hp=>by
       have:(tev fr p.2).cvs∈gs.map some:=by rw[←g1];exact List.mem_map_of_mem hp
       obtain⟨g,k1,k2⟩:=List.mem_map.1 this
       exact⟨g,k1,k2.symm⟩
      have hval : ∀p∈ps,isVal (evF cfr p.2)=true∧(evF cfr p.2).cells.size=sz:=fun p hp=>by
       obtain⟨g,k1,k2⟩:=hpv p hp
       obtain⟨q1,q2⟩:=cvs_rel (tev_rel h.frm p.2) k2
       exact⟨q2,by rw[←Array.length_toList,q1.len];exact g2 g k1⟩
      have hb:=bld_all (ev:=evF cfr) (k:=0) (z:=zeros z (ps.length*sz)) (by rw[c1,List.range_eq_range']) (by rw[zeros_len,Nat.zero_add]) hval
      rw[Nat.zero_mul,List.take_zero,List.nil_append] at hb
      have hrel:R2 (CVR K E) gs.flatten (ps.flatMap fun p=>(evF cfr p.2).cells.toList):=by
       clear hb hval hpv hgs hhs c1 c2 c3 c4
       induction ps generalizing gs with
       | nil=>
         cases gs with
         | nil=>exact .nil
         | cons=>simp at g1
       | cons p ps ih=>
         cases gs with
         | nil=>simp at g1
         | cons g gs=>
           rw[List.map_cons,List.map_cons] at g1
           injection g1 with e1 e2
           rw[List.flatten_cons,List.flatMap_cons]
           exact(cvs_rel (tev_rel h.frm p.2) e1).1.app (ih gs e2 fun g hg=>g2 g (by simp[hg]))
      obtain⟨E1,t1,m,t2,t3⟩:=h.fz (gs.flatten.flatMap CV.stamp)
      obtain⟨k1,k2,k3⟩:=allGz_rel (K':=K) (A:=Frz K E1) m.frz hrel hhs fun t b q1 q2=>m.fz t b q2 (by unfold fzG;rw[if_pos q1])
      have hne:hs≠ []:=fun e=>by
       have:gs.length=0:=by rw[←k2,e];rfl
       have h3:=congrArg List.length g1
       simp at h3;omega
      have hlen:hs.length=ps.length:=by
       have h3:=congrArg List.length g1
       rw[k2];simpa using h3.symm
      obtain⟨E2,s1,s2,s3⟩:=t1.row (e:=e) (kd:= .ex) (sz:=sz) (gs:=hs) ⟨hne,by rw[hlen,maxLen_eq];omega⟩ rfl (k3 sz g2) k1.svrs (tyB_ok c5)
      rw[hlen] at s3
      rw[fzF_eq,fzS_eq]
      exact⟨_,e, .ex, .sl ps.length ps.length,E2,by simp only[aop];rw[if_pos ⟨c3,c4⟩,hb];rfl,s1,s3,t2.trans s2⟩
     ·cases ht
    ·cases ht
   ·cases ht
 | _=>cases ht
theorem twop_sound(h:TR Z K0 sp W0 K st fr cfr E){x:WOp}{a:AV}(ht:twop fr st x=some (a,fr1,st1)) : ∃v K1 E1,wop K (evF cfr) x=some (v,K1)∧TR Z K0 sp W0 K1 st1 fr1 cfr E1∧AVR K1 E1 a v∧Stp K st E K1 st1 E1:=by
 cases x with
 | app e sz bytes s x=>exact tapp_sound h ht
 | st n x v=>
   simp only[twop] at ht
   split at ht
   ·rename_i o off us e1 e2
    split at ht
    ·rename_i ver e cs ho
     split at ht
     ·rename_i hc
      cases ht
      have hr:=tev_rel h.frm x
      rw[e1] at hr
      obtain⟨l,hl,hv⟩:=hr.ptr_inv
      obtain⟨q1,q2⟩:=cvs_rel (tev_rel h.frm v) e2
      obtain⟨b,os,k1,k2,k3⟩:=h.obs o _ _ _ ho
      rw[hl] at k1;cases k1
      obtain⟨c1,c2,c3,c4⟩:=hc
      obtain⟨t1,t2⟩:=h.sto hl ho (k3.set q1 (o:=off)) ⟨lks_set c3 c4,(by simp only[List.length_append,List.length_take,List.length_drop];omega),fun _ os0 h0=>by
       rw[k2] at h0;cases h0
       exact⟨setCells_length (by rw[q1.len,k3.len];omega),lkW_set c3 c4 k3.len.symm q1.len.symm (by omega)⟩⟩
      refine⟨undef,_,E,?_,t1, .bad,t2⟩
      have hsz:(evF cfr v).cells.size=n:=by rw[←Array.length_toList,q1.len];exact c1
      simp only[wop,hv,k2]
      rw[if_pos ⟨rfl,q2,hsz,by rw[k3.len];exact c2,CVRs.cells q1⟩]
     ·cases ht
    ·cases ht
   ·cases ht
 | _=>cases ht
end Can
end Go.Proofs.YtdfgkcoenagaaaaGreat
end
