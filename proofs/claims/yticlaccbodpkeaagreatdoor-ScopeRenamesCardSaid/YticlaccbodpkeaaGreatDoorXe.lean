/- Runs over trees: reads and writes. Over any program. Runs over trees: an operation. Over any program. Runs over trees: calls. Over any program. Runs over trees: code and functions. Over any program. Runs over trees: a function. Over any program. Runs over trees: loops by what they carry. Over any program. Parse: the grammar answers, whatever the tokens; where it ends, how many nodes. No program in sight. Parse: with more steps the same answer. No program in sight. Parse, the program: the reader in memory; its looks at a token. Parse, the program: what is known of its reader's looks, for runs over trees. Parse, the program: a token that can't stand there: fail panics. Parse, the program: the closure that Parse defers. Parse, the program: its small steps, as runs over trees. Parse, the program: steps along the grammar. Parse: how high the trees are. No program in sight. (Printed by tools/genpsh.py.). Parse, the program: leaf, single, place. Parse, the program: its rules, as runs over trees, along the grammar. (Printed by tools/genpw3.py.). Parse, the program: all its rules, along the grammar. (Printed by tools/genpw3.py.). Parse, the program: parse.Parse, ahead of its deferred call. -/
import Derived.Test.YticlaccbodpkeaaGreatDoorXd
import Derived.Test.YticlaccbodpkeaaGreatDoorXa
section
namespace Go.Proofs.YticlaccbodpkeaaGreatDoor
namespace Can
open Go Go.RowKit
set_option linter.unusedSimpArgs false
set_option linter.unusedVariables false
def bndT (fr:TFr):Option Operand→Option Nat
 | none=>some 0
 | some x=>match (tev fr x).raw with
   | some (.int .i64 n)=>if 0≤n then some n.toNat else none
   | _=>none
def tlop (fr:TFr)(st:TS):LOp→Option AV
 | .ld x=>match tev fr x with
   | .ptr o off=>match st.obs[o]? with
     | some (_,_,cs)=>(cs[off]?).map fun x=> .r (.c x)
     | none=>none
   | .eptr _ g off=>(g[off]?).map fun x=> .r (.c (.s x))
   | _=>none
 | .lda n x=>match tev fr x with
   | .ptr o off=>match st.obs[o]? with
     | some (_,_,cs)=>if off+n≤cs.length then some (.r (.agg ((cs.drop off).take n))) else none
     | none=>none
   | .eptr _ g off=>if off+n≤g.length then some (.r (.agg (((g.drop off).take n).map .s))) else none
   | _=>none
 | .slc e sz x lo hi none=>match tev fr x,bndT fr lo with
   | .r (.c (.s (.row z gs))),some n=>match hi with
     | none=>if z=sz∧sz=5∧e=ndTy∧Nat.ble n gs.length=true then some (.r (.c (.s (.sub sz (gs.drop n))))) else none
     | some h=>match (tev fr h).raw with
       | some (.int .i64 m)=>if z=sz∧sz=5∧e=ndTy∧0≤m∧Nat.ble n m.toNat=true∧Nat.ble m.toNat gs.length=true then some (.r (.c (.s (.sub sz ((gs.drop n).take (m.toNat-n)))))) else none
       | _=>none
   | _,_=>none
 | _=>none
def CV.stamp:CV→List Nat
 | .own t _ _ _=> [t]
 | _=> []
def CV.fz:CV→Option SV
 | .s x=>some x
 | .own _ _ sz gs=>some (rowS sz gs)
 | .bad=>none
def allFz:List CV→Option (List SV)
 | []=>some []
 | x::r=>match x.fz,allFz r with
   | some y,some ys=>some (y::ys)
   | _,_=>none
def fzG (l:List Nat):Nat→SA:=fun t=>if t∈l then .fz else .keep
def killG(o:Option Nat):Nat→SA:=fun t=>if o=some t then .kill else .keep
def fzF (l:List Nat)(fr:TFr):TFr:=match l with
 | []=>fr
 | l=>fr.act (fzG l)
def fzS (l:List Nat)(st:TS):TS:=match l with
 | []=>st
 | l=>st.act (fzG l)
def grps (sz:Nat):List (Option (List CV))→Option (List (List CV))
 | []=>some []
 | some cs::r=>if cs.length=sz then (grps sz r).map (cs:: ·) else none
 | none::_=>none
def allGz:List (List CV)→Option (List (List SV))
 | []=>some []
 | g::r=>match allFz g,allGz r with
   | some y,some ys=>some (y::ys)
   | _,_=>none
def taop (fr:TFr)(st:TS):AOp→Option (AV×TFr×TS)
 | .new e z=>match zCV z with
   | some cs=>if lks cs= [] then some (.ptr st.obs.length 0,fr,⟨st.nt,st.obs++ [(0,e,cs)]⟩) else none
   | none=>none
 | .box e x=>match (tev fr x).cvs with
   | some cs=>if lks cs= [] then some (.ptr st.obs.length 0,fr,⟨st.nt,st.obs++ [(0,e,cs)]⟩) else none
   | none=>none
 | .bsl e sz n z ps=>if ps.map (·.1)=List.range n∧0<n∧n*sz≤16777216∧n≤16777216∧tyB e sz=true then
    match grps sz (ps.map fun p=>(tev fr p.2).cvs) with
    | some gs=>match allGz gs with
      | some hs=>some (.r (.c (.own st.nt e sz hs)),fzF (gs.flatten.flatMap CV.stamp) fr,⟨st.nt+1,(fzS (gs.flatten.flatMap CV.stamp) st).obs⟩)
      | none=>none
    | none=>none
   else none
 | _=>none
def AV.growOf:AV→Option (Option (Nat×TypeId×Nat)×List (List SV))
 | .r (.c (.own t e sz gs))=>some (some (t,e,sz),gs)
 | .r (.c (.s (.row _ [])))=>some (none,[])
 | _=>none
def growOk(e sz:TypeId):Option (Nat×TypeId×Nat)→Prop
 | none=>True
 | some (_,e',sz')=>e'=e∧sz'=sz
instance {e sz:TypeId} : ∀ {o:Option (Nat×TypeId×Nat)},Decidable (growOk e sz o)
 | none=>inferInstanceAs (Decidable True)
 | some (_,e',sz')=>inferInstanceAs (Decidable (e'=e∧sz'=sz))
def kilF (o:Option (Nat×TypeId×Nat))(fr:TFr):TFr:=match o with
 | none=>fr
 | some (t,_)=>fr.act (killG (some t))
def kilS (o:Option (Nat×TypeId×Nat))(st:TS):TS:=match o with
 | none=>st
 | some (t,_)=>st.act (killG (some t))
def twop (fr:TFr)(st:TS):WOp→Option (AV×TFr×TS)
 | .st n x v=>match tev fr x,(tev fr v).cvs with
   | .ptr o off,some us=>match st.obs[o]? with
     | some (ver,e,cs)=>if us.length=n∧off+n≤cs.length∧lks us= []∧lks ((cs.drop off).take us.length)= [] then some (.bad,fr,⟨st.nt,st.obs.set o (ver+1,e,cs.take off++us++cs.drop (off+us.length))⟩) else none
     | none=>none
   | _,_=>none
 | .app e sz bytes s x=>match (tev fr s).growOf,(tev fr x).rowOf with
   | some (o,gs),some (_,z,hs)=>if growOk e sz o∧srcOk sz z∧(gs.length+hs.length)*bytes≤140737488355328∧gs.length+hs.length≤maxLen∧tyB e sz=true then
      some (.r (.c (.own st.nt e sz (gs++hs))),kilF o fr,⟨st.nt+1,(kilS o st).obs⟩) else none
   | _,_=>none
 | _=>none
structure Stp(K:CH)(st:TS)(E:TE)(K':CH)(st':TS)(E':TE):Prop where
 hid : ∀b,E.hid b→E'.hid b
 rho : ∀o b,E.ρ o=some b→E'.ρ o=some b
 ver : ∀o v e cs,st.obs[o]? = some (v,e,cs)→∃v' cs',st'.obs[o]? = some (v',e,cs')∧v≤v'∧(v'=v→∀b,E.ρ o=some b→K'.ob b=K.ob b)
variable {T:Tbl} {Z:TP} {K0 K K' K'':CH} {sp:Option Nat} {W0:Nat→Prop} {st st' st'':TS} {fr:TFr} {cfr:Fr} {E E' E'':TE}
theorem Stp.refl:Stp K st E K st E:=⟨fun _ h=>h,fun _ _ h=>h,fun o v e cs h=>⟨v,cs,h,Nat.le_refl _,fun _ _ _=>rfl⟩⟩
theorem Stp.trans(h:Stp K st E K' st' E')(g:Stp K' st' E' K'' st'' E''):Stp K st E K'' st'' E'':=⟨fun b q=>g.hid b (h.hid b q),fun o b q=>g.rho o b (h.rho o b q),fun o v e cs q=>by
 obtain⟨v1,cs1,k1,k2,k3⟩:=h.ver o v e cs q
 obtain⟨v2,cs2,l1,l2,l3⟩:=g.ver o v1 e cs1 k1
 exact⟨v2,cs2,l1,Nat.le_trans k2 l2,fun e b hb=>(l3 (by omega) b (h.rho o b hb)).trans (k3 (by omega) b hb)⟩⟩
theorem bndT_rel{A:Nat→Prop}(hf : ∀t,AVR K E (fr t) (cfr t)){lo:Option Operand}{n:Nat}(h:bndT fr lo=some n):bnd (evF cfr) 0 lo=some (n:Int):=by
 unfold bndT at h
 split at h
 ·cases h;rfl
 ·rename_i x
  split at h
  ·rename_i m e
   split at h
   ·rename_i hm
    cases h
    have:=raw_rel (tev_rel hf x) e
    simp only[bnd,this]
    rw[Int.toNat_of_nonneg hm]
   ·cases h
  ·cases h
theorem row_ok{A:Nat→Prop}{gs:List (List SV)}{sz e:Nat}{v:Value}(h:SVR K A (.row sz gs) v)(h5:sz=5)(he:e=ndTy):okSl K e v=true:=by
 cases h with
 | row0=>rfl
 | @row b _ os e' kd _ hne hb ho hk hg hs ht=>
   have:=ht h5
   subst this he
   simp only[okSl,ho]
   cases kd with
   | ro=>cases hk
   | _=>exact beq_self_eq_true _
theorem sub_rel{A:Nat→Prop}{gs:List (List SV)}{sz n m:Nat}{v:Value}(h:SVR K A (.row sz gs) v)(h1:n≤m)(h2:m≤gs.length) : ∃w,sliceV sz v n m (capV v) false=some w∧SVR K A (.sub sz ((gs.drop n).take (m-n))) w:=by
 cases h with
 | row0=>
   have:n=0∧m=0:=by simp at h2;omega
   obtain⟨e1,e2⟩:=this
   subst e1 e2
   exact⟨.slice none 0 0,rfl, .sub0⟩
 | @row b _ os e kd _ hne hb ho hk hg hs ht=>
   have hfl:os.length=gs.length*sz:=by rw[hs.r2.len,flat_len' hg]
   have hle:(n:Int)≤m:=by omega
   have e0:sliceV sz (.slice (some ⟨b,0,none⟩) gs.length gs.length) n m (capV (.slice (some ⟨b,0,none⟩) gs.length gs.length)) false=if 0≤(n:Int)∧(n:Int)≤m∧(m:Int)≤(gs.length:Nat)∧((gs.length:Nat):Int)≤gs.length then (if (n:Int)=(gs.length:Nat) then some (.slice (some ⟨b,0+(n:Int).toNat*sz,none⟩) 0 0) else some (.slice (some ⟨b,0+(n:Int).toNat*sz,none⟩) ((m:Int)-n).toNat (((gs.length:Nat):Int)-n).toNat)) else none:=rfl
   rw[e0,if_pos ⟨by omega,hle,by omega,Int.le_refl _⟩]
   by_cases hn:n=gs.length
   ·have e1:(gs.drop n).take (m-n)= []:=by rw[hn,List.drop_length,List.take_nil]
    rw[if_pos (by omega),e1]
    exact⟨_,rfl, .sub0⟩
   ·rw[if_neg (by omega)]
    have e1:((gs.drop n).take (m-n)).length=((m:Int)-n).toNat:=by rw[List.length_take,List.length_drop];omega
    have e3:Int.toNat (n:Int)=n:=by omega
    rw[e3,Nat.zero_add]
    by_cases hm:m=n
    ·subst hm
     rw[Nat.sub_self,List.take_zero]
     have e4:((m:Int)-m).toNat=0:=by omega
     rw[e4]
     exact⟨_,rfl, .sub0⟩
    ·refine⟨_,rfl,?_⟩
     rw[←e1]
     have hlen:((gs.drop n).take (m-n)).length=m-n:=by rw[List.length_take,List.length_drop];omega
     have hmul:n*sz+(m-n)*sz≤gs.length*sz:=by rw[←Nat.add_mul];exact Nat.mul_le_mul_right _ (by omega)
     refine .sub ⟨fun e=> ?_,by rw[hlen];have:=hne.2;omega⟩ hb ho (fun g hg'=>hg g (List.mem_of_mem_drop (List.mem_of_mem_take hg'))) (by rw[hlen,hfl];exact hmul) ?_ ht
     ·rw[e] at hlen;simp at hlen;omega
     ·have hd : ∀(l:List (List SV)) (n:Nat),(∀g∈l,g.length=sz)→(l.drop n).flatten=l.flatten.drop (n*sz):=fun l=>by
       induction l with
       | nil=>intro n _;simp
       | cons a l ih=>
         intro n hg
         cases n with
         | zero=>simp
         | succ n=>
           rw[List.drop_succ_cons,ih n fun g h=>hg g (by simp[h]),List.flatten_cons,Nat.add_mul,Nat.one_mul,Nat.add_comm,←List.drop_drop]
           congr 1
           have:=hg a (by simp)
           rw[←this,List.drop_left]
      have ht : ∀(l:List (List SV)) (n:Nat),(∀g∈l,g.length=sz)→(l.take n).flatten=l.flatten.take (n*sz):=fun l=>by
       induction l with
       | nil=>intro n _;simp
       | cons a l ih=>
         intro n hg
         cases n with
         | zero=>simp
         | succ n=>
           have:=hg a (by simp)
           rw[List.take_succ_cons,List.flatten_cons,ih n fun g h=>hg g (by simp[h]),List.flatten_cons,Nat.add_mul,Nat.one_mul,Nat.add_comm,←this,List.take_append]
           congr 1
           ·rw[List.take_of_length_le (by omega)]
           ·congr 1;omega
      rw[hlen,ht _ _ fun g h=>hg g (List.mem_of_mem_drop h),hd _ _ hg]
      exact((hs.r2.drop (n*sz)).take ((m-n)*sz)).svrs
theorem tlop_sound(h:TR Z K0 sp W0 K st fr cfr E){x:LOp}{a:AV}(hx:tlop fr st x=some a) : ∃v,lop K (evF cfr) x=some v∧AVR K E a v:=by
 cases x with
 | ld x=>
   simp only[tlop] at hx
   have hr:=tev_rel h.frm x
   split at hx
   ·rename_i o off e
    rw[e] at hr
    obtain⟨l,hl,hv⟩:=hr.ptr_inv
    split at hx
    ·rename_i ver ty cs ho
     obtain⟨b,os,k1,k2,k3⟩:=h.obs o _ _ _ ho
     rw[hl] at k1;cases k1
     cases hc:cs[off]? with
     | none=>rw[hc] at hx;cases hx
     | some y=>
       rw[hc] at hx;cases hx
       obtain⟨v,q1,q2⟩:=k3.get hc
       exact⟨v,by simp only[lop,hv,k2,q1], .r (.c q2)⟩
    ·cases hx
   ·rename_i t g off e
    rw[e] at hr
    obtain⟨b,base,os,ty,kd,hb,ho,hl,hs,hv⟩:=hr.eptr_inv
    cases hc:g[off]? with
    | none=>rw[hc] at hx;cases hx
    | some y=>
      rw[hc] at hx;cases hx
      obtain⟨v,q1,q2⟩:=hs.get hc
      have hlt:=(List.getElem?_eq_some_iff.1 hc).1
      rw[List.getElem?_take_of_lt hlt,List.getElem?_drop] at q1
      exact⟨v,by simp only[lop,hv,ho,q1], .r (.c (.s q2))⟩
   ·cases hx
 | lda n x=>
   simp only[tlop] at hx
   have hr:=tev_rel h.frm x
   split at hx
   ·rename_i o off e
    rw[e] at hr
    obtain⟨l,hl,hv⟩:=hr.ptr_inv
    split at hx
    ·rename_i ver ty cs ho
     obtain⟨b,os,k1,k2,k3⟩:=h.obs o _ _ _ ho
     rw[hl] at k1;cases k1
     split at hx
     ·rename_i hle
      cases hx
      exact⟨_,by simp only[lop,hv,k2];rw[if_pos (by rw[k3.len];exact hle)], .r (.agg ((k3.drop off).take n))⟩
     ·cases hx
    ·cases hx
   ·rename_i t g off e
    rw[e] at hr
    obtain⟨b,base,os,ty,kd,hb,ho,hl,hs,hv⟩:=hr.eptr_inv
    split at hx
    ·rename_i hle
     cases hx
     have q:=(hs.drop off).take n
     have e:(((os.drop base).take g.length).drop off).take n=(os.drop (base+off)).take n:=by
      rw[List.drop_take,List.take_take,List.drop_drop,Nat.min_eq_left (by omega)]
     rw[e] at q
     exact⟨_,by simp only[lop,hv,ho];rw[if_pos (by omega)], .r (.agg (q.map fun _ _ q=> .s q))⟩
    ·cases hx
   ·cases hx
 | slc e sz x lo hi mx=>
   cases mx with
   | some=>cases hx
   | none=>
     simp only[tlop] at hx
     split at hx
     ·rename_i z gs n e1 e2
      have hr:=tev_rel h.frm x
      rw[e1] at hr
      have hlo:=bndT_rel (A:=fun _=>True) h.frm e2
      cases hr with
      | r hr=>cases hr with
        | c hr=>cases hr with
          | s hr=>
            obtain⟨v,hv⟩ : ∃v,evF cfr x=v:=⟨_,rfl⟩
            rw[hv] at hr
            have hln:lenV v=gs.length:=by cases hr<;>rfl
            split at hx
            ·split at hx
             ·rename_i hc
              obtain⟨rfl,h5,he,hc⟩:=hc
              cases hx
              have hn:=Nat.le_of_ble_eq_true hc
              have hok:=row_ok hr h5 he
              obtain⟨w,q1,q2⟩:=sub_rel (n:=n) (m:=gs.length) hr hn (Nat.le_refl _)
              rw[List.take_of_length_le (by rw[List.length_drop];omega)] at q2
              refine⟨w,?_, .r (.c (.s q2))⟩
              show(match bnd (evF cfr) 0 lo,bnd (evF cfr) (lenV (evF cfr x)) none,bnd (evF cfr) (capV (evF cfr x)) none with
               | some l,some h,some m=>if okSl K e (evF cfr x)&&((none:Option Operand).isNone||(none:Option Operand).isSome) then sliceV z (evF cfr x) l h m (none:Option Operand).isSome else none
               | _,_,_=>none)=some w
              rw[hlo,hv,hln]
              show(if okSl K e v&&true then _ else _)=some w
              rw[hok]
              exact q1
             ·cases hx
            ·rename_i hop
             split at hx
             ·rename_i m e3
              split at hx
              ·rename_i hc
               obtain⟨rfl,h5,he,hm,hc1,hc2⟩:=hc
               cases hx
               have hh:=raw_rel (tev_rel h.frm hop) e3
               have hok:=row_ok hr h5 he
               obtain⟨w,q1,q2⟩:=sub_rel (n:=n) (m:=m.toNat) hr (Nat.le_of_ble_eq_true hc1) (Nat.le_of_ble_eq_true hc2)
               refine⟨w,?_, .r (.c (.s q2))⟩
               rw[Int.toNat_of_nonneg hm] at q1
               show(match bnd (evF cfr) 0 lo,bnd (evF cfr) (lenV (evF cfr x)) (some hop),bnd (evF cfr) (capV (evF cfr x)) none with
                | some l,some h,some m=>if okSl K e (evF cfr x)&&((none:Option Operand).isNone||(some hop).isSome) then sliceV z (evF cfr x) l h m (none:Option Operand).isSome else none
                | _,_,_=>none)=some w
               have hb : ∀d,bnd (evF cfr) d (some hop)=some m:=fun d=>by simp only[bnd,hh]
               rw[hlo,hv,hb]
               show(if okSl K e v&&true then _ else _)=some w
               rw[hok]
               exact q1
              ·cases hx
             ·cases hx
     ·cases hx
 | _=>cases hx
theorem CV.act_keep{x:CV}:x.act (fun _=> .keep)=x:=by cases x<;>rfl
theorem RV.act_keep{x:RV}:x.act (fun _=> .keep)=x:=by
 cases x with
 | c x=>exact congrArg RV.c CV.act_keep
 | agg cs=>exact congrArg RV.agg ((List.map_congr_left fun x _=>CV.act_keep).trans (List.map_id' cs))
theorem AV.act_keep{x:AV}:x.act (fun _=> .keep)=x:=by
 cases x with
 | r x=>exact congrArg AV.r RV.act_keep
 | eptr t g off=>cases t<;>rfl
 | tup l=>exact congrArg AV.tup ((List.map_congr_left fun x _=>RV.act_keep).trans (List.map_id' l))
 | _=>rfl
theorem TFr.act_keep{fr:TFr}:fr.act (fun _=> .keep)=fr:=funext fun t=>AV.act_keep
theorem TS.act_keep{st:TS}:(st.act (fun _=> .keep)).obs=st.obs:=by
 show st.obs.map _=_
 refine(List.map_congr_left fun x _=> ?_).trans (List.map_id' _)
 obtain⟨v,e,cs⟩:=x
 show(v,e,cs.map (CV.act fun _=> .keep))=(v,e,cs)
 rw[(List.map_congr_left fun x _=>CV.act_keep).trans (List.map_id' cs)]
theorem fzG_nil:fzG []=fun _=> .keep:=by funext t;simp[fzG]
theorem fzF_eq{l:List Nat}:fzF l fr=fr.act (fzG l):=by
 cases l with
 | nil=>rw[fzG_nil,TFr.act_keep];rfl
 | cons=>rfl
theorem fzS_eq{l:List Nat}:(fzS l st).obs=(st.act (fzG l)).obs:=by
 cases l with
 | nil=>rw[fzG_nil,TS.act_keep];rfl
 | cons=>rfl
theorem lks_app : ∀ {a b:List CV},lks (a++b)=lks a++lks b
 | [],b=>rfl
 | x::a,b=>by
   have ih:=lks_app (a:=a) (b:=b)
   cases x with
   | s y=>cases y with
     | lk z=>show z::lks (a++b)=z::lks a++lks b;rw[ih];rfl
     | sc v=>exact ih
     | row sz gs=>exact ih
     | sub sz gs=>exact ih
   | own=>exact ih
   | bad=>exact ih
theorem lks_cons{x:CV}{l:List CV}:lks (x::l)=lks [x]++lks l:=lks_app (a:= [x]) (b:=l)
theorem lks_act{g:Nat→SA} : ∀ {cs:List CV},lks (cs.map (CV.act g))=lks cs
 | []=>rfl
 | x::cs=>by
   rw[List.map_cons,lks_cons,lks_cons (x:=x),lks_act]
   congr 1
   cases x with
   | s y=>rfl
   | bad=>rfl
   | own t e sz gs=>
     show lks [match g t with | .keep=>CV.own t e sz gs | .fz=> .s (rowS sz gs) | .kill=> .bad]= []
     cases g t<;>rfl
theorem lkW_cons{x:CV}{v:Value}{l:List CV}{vs:List Value}:lkW (x::l) (v::vs)=lkW [x] [v]++lkW l vs:=by
 cases x with
 | s y=>cases y<;>rfl
 | bad=>rfl
 | own=>rfl
theorem lkW_app : ∀ {a b:List CV} {us vs:List Value},a.length=us.length→lkW (a++b) (us++vs)=lkW a us++lkW b vs
 | [],b,[],vs,_=>by simp[lkW]
 | x::a,b,u::us,vs,h=>by
   rw[List.cons_append,List.cons_append,lkW_cons,lkW_app (by simpa using h),lkW_cons (l:=a),List.append_assoc]
theorem lkW_none : ∀ {a:List CV} {us:List Value},lks a= []→lkW a us= []
 | [],us,_=>by cases us<;>rfl
 | x::a,us,h=>by
   rw[lks_cons] at h
   obtain⟨h1,h2⟩:=List.append_eq_nil_iff.1 h
   cases us with
   | nil=>cases x with
     | s y=>cases y<;>rfl
     | bad=>rfl
     | own=>rfl
   | cons u us=>
     rw[lkW_cons,lkW_none h2]
     cases x with
     | s y=>
       cases y with
       | lk x=>cases h1
       | _=>rfl
     | bad=>rfl
     | own=>rfl
theorem lkW_act{g:Nat→SA} : ∀ {cs:List CV} {vs:List Value},lkW (cs.map (CV.act g)) vs=lkW cs vs
 | [],vs=>rfl
 | x::cs,[]=>by
   cases x with
   | s y=>cases y<;>rfl
   | bad=>rfl
   | own t e sz gs=>
     rw[List.map_cons]
     show lkW ((match g t with | .keep=>CV.own t e sz gs | .fz=> .s (rowS sz gs) | .kill=> .bad)::_) []= []
     cases g t<;>rfl
 | x::cs,v::vs=>by
   rw[List.map_cons,lkW_cons,lkW_cons (x:=x),lkW_act]
   congr 1
   cases x with
   | s y=>rfl
   | bad=>rfl
   | own t e sz gs=>
     show lkW [match g t with | .keep=>CV.own t e sz gs | .fz=> .s (rowS sz gs) | .kill=> .bad] [v]= []
     cases g t<;>rfl
theorem lks_set{cs us:List CV}{off:Nat}(h1:lks us= [])(h2:lks ((cs.drop off).take us.length)= []):lks (cs.take off++us++cs.drop (off+us.length))=lks cs:=by
 have e:cs=cs.take off++((cs.drop off).take us.length++cs.drop (off+us.length)):=by
  rw[←List.drop_drop,List.take_append_drop,List.take_append_drop]
 rw[lks_app,lks_app,h1,List.append_nil]
 conv=>rhs;rw[e,lks_app,lks_app,h2,List.nil_append]
theorem lkW_set{cs us:List CV}{os vs:List Value}{off:Nat}(h1:lks us= [])(h2:lks ((cs.drop off).take us.length)= [])(hl:cs.length=os.length)(hu:us.length=vs.length)(ho:off+us.length≤cs.length):lkW (cs.take off++us++cs.drop (off+us.length)) (setCells os off vs)=lkW cs os:=by
 have e : ∀ {α:Type} (cs:List α),cs=cs.take off++((cs.drop off).take us.length++cs.drop (off+us.length)):=fun cs=>by
  rw[←List.drop_drop,List.take_append_drop,List.take_append_drop]
 have a1:(cs.take off).length=(os.take off).length:=by simp[hl]
 have a2:((cs.drop off).take us.length).length=((os.drop off).take us.length).length:=by simp[hl]
 unfold setCells
 rw[lkW_app (by rw[List.length_append,List.length_append,a1,hu]),lkW_app a1,lkW_none h1,List.append_nil,←hu]
 conv=>rhs;rw[e cs,e os,lkW_app a1,lkW_app a2,lkW_none h2,List.nil_append]
theorem JR.mv{l l':List (Nat×TypeId×List CV)}{W:Nat→Prop}(h:JR Z l K sp W)(hl:l'.length=l.length)(h0 : ∀v e cs,l[0]? = some (v,e,cs)→∃v' cs',l'[0]? = some (v',e,cs')∧lks cs'=lks cs∧cs'.length=cs.length∧(lks cs≠ []→∀p os,sp=some p→K.ob p= .cells os e .ex→∃os',K'.ob p= .cells os' e .ex∧os'.length=os.length∧lkW cs' os'=lkW cs os))(hw : ∀b,W b→K'.ob b=K.ob b)(hn:K.nx≤K'.nx):JR Z l' K' sp W:=by
 match l,l',h,hl,h0 with
 | [],[],h,_,_=>exact h
 | (v,e,cs)::r,(v',e',cs')::r',h,_,h0=>
   obtain⟨v2,cs2,q1,q2,q3,q4⟩:=h0 v e cs rfl
   cases q1
   rcases h with ⟨h1,h2⟩ | ⟨h1,p,os,h2,h3,h4,h5⟩
   ·exact .inl ⟨q2.trans h1,h2⟩
   ·obtain⟨os',g1,g2,g3⟩:=q4 h1 p os h2 h3
    refine .inr ⟨by rw[q2];exact h1,p,os',h2,g1,by rw[g2,h4,q3],?_⟩
    rw[q2,g3]
    exact Z.jm h5 hw hn
theorem JR.act{l:List (Nat×TypeId×List CV)}{W:Nat→Prop}{g:Nat→SA}(h:JR Z l K sp W)(hp : ∀p,sp=some p→K'.ob p=K.ob p)(hw : ∀b,W b→K'.ob b=K.ob b)(hn:K.nx≤K'.nx):JR Z (l.map fun(v,e,cs)=>(v,e,cs.map (CV.act g))) K' sp W:=by
 refine h.mv (by rw[List.length_map]) (fun v e cs q=>⟨v,cs.map (CV.act g),by rw[List.getElem?_map,q];rfl,lks_act,by rw[List.length_map],fun _ p os h1 h2=>⟨os,(hp p h1).trans h2,rfl,lkW_act⟩⟩) hw hn
theorem TR.step(h:TR Z K0 sp W0 K st fr cfr E){g:Nat→SA}(m:Mv K E g K' E'){nt':Nat}(hnx:K.nx≤K'.nx)(hk : ∀b,b<K.nx→(∀t,E.σ t≠some b)→K'.ob b=K.ob b)(hhid:E'.hid=E.hid)(hσ : ∀t b,E'.σ t=some b→K0.nx≤b∧b<K'.nx∧t<nt'∧(∀o,E.ρ o≠some b)∧¬E.hid b)(hinj : ∀t t' b,E'.σ t=some b→E'.σ t'=some b→t=t')(hρ:E'.ρ=E.ρ):TR Z K0 sp W0 K' ⟨nt',(st.act g).obs⟩ (fr.act g) cfr E':=by
 have hold : ∀b,b<K0.nx→K'.ob b=K.ob b:=fun b hb=>hk b (Nat.lt_of_lt_of_le hb h.nx) fun t ht=>by have:=(h.sig t b ht).1;omega
 refine⟨Nat.le_trans h.nx hnx,fun b hb hp hw=>(hold b hb).trans (h.keep b hb hp hw),fun b hb=> ?_,fun b hb=> ?_,?_,fun t b q=> ?_,hinj,fun t o b q=> ?_,fun o b q=> ?_,fun o o' b q q'=> ?_,fun o v e cs q=> ?_,fun t=>(h.frm t).mv m⟩
 ·obtain⟨k1,k2,k3,k4⟩:=h.prot b hb
  exact⟨k1,k2,k3,(hold b k1).trans k4⟩
 ·rw[hhid] at hb
  obtain⟨k1,k2,k3⟩:=h.hid b hb
  exact⟨Nat.lt_of_lt_of_le k1 hnx,fun t q=>(hσ t b q).2.2.2.2 hb,fun o q=>k3 o (by rwa [hρ] at q)⟩
 ·obtain⟨W,w1,w2⟩:=h.wr
  refine⟨W,fun b hb=>by rw[hhid];exact w1 b hb,?_⟩
  rw[hρ]
  refine w2.act (fun p q=>hk p (h.rho 0 p q).1 fun t q'=>h.sr t 0 p q' q) (fun b hb=> ?_) hnx
  obtain⟨k1,k2,_⟩:=h.hid b (w1 b hb).1
  exact hk b k1 k2
 ·obtain⟨k1,k2,k3,_⟩:=hσ t b q;exact⟨k1,k2,k3⟩
 ·rw[hρ];exact(hσ t b q).2.2.2.1 o
 ·rw[hρ] at q
  obtain⟨k1,k2,k3⟩:=h.rho o b q
  exact⟨Nat.lt_of_lt_of_le k1 hnx,k2,by show o<(st.obs.map _).length;rw[List.length_map];exact k3⟩
 ·rw[hρ] at q q';exact h.rinj o o' b q q'
 ·have q:(st.obs.map fun(v,e,cs)=>(v,e,cs.map (CV.act g)))[o]? = some (v,e,cs):=q
  rw[List.getElem?_map] at q
  cases hq:st.obs[o]? with
  | none=>rw[hq] at q;cases q
  | some y=>
    rw[hq] at q
    obtain⟨v1,e1,cs1⟩:=y
    cases q
    obtain⟨b,os,k1,k2,k3⟩:=h.obs o _ _ _ hq
    refine⟨b,os,by rw[hρ];exact k1,(hk b (h.rho o b k1).1 fun t ht=>h.sr t o b ht k1).trans k2,k3.map fun _ _ q=>q.mv m⟩
theorem Stp.act{g:Nat→SA}(hhid:E'.hid=E.hid)(hρ:E'.ρ=E.ρ)(ho : ∀o b,E.ρ o=some b→K'.ob b=K.ob b){nt':Nat}:Stp K st E K' ⟨nt',(st.act g).obs⟩ E':=⟨fun b q=>(by rw[hhid];exact q),fun o b h=>by rw[hρ];exact h,fun o v e cs h=>⟨v,cs.map (CV.act g),by
 show(st.obs.map _)[o]? = _
 rw[List.getElem?_map,h];rfl,Nat.le_refl _,fun _ b hb=>ho o b hb⟩⟩
theorem TR.fz(h:TR Z K0 sp W0 K st fr cfr E)(l:List Nat) : ∃E',TR Z K0 sp W0 K ⟨st.nt,(st.act (fzG l)).obs⟩ (fr.act (fzG l)) cfr E'∧Mv K E (fzG l) K E'∧Stp K st E K ⟨st.nt,(st.act (fzG l)).obs⟩ E'∧E'=⟨fun t=>if t∈l then none else E.σ t,E.ρ,E.hid⟩:=by
 have hs : ∀t b,(if t∈l then none else E.σ t)=some b→t∉l∧E.σ t=some b:=fun t b q=>by
  split at q
  ·cases q
  ·rename_i hn;exact⟨hn,q⟩
 have m:Mv K E (fzG l) K ⟨fun t=>if t∈l then none else E.σ t,E.ρ,E.hid⟩:=by
  refine⟨fun b hb=>⟨⟨hb.1,hb.2.1,fun t q=>hb.2.2.1 t (hs t b q).2,hb.2.2.2⟩,rfl⟩,fun t b q e=>⟨?_,rfl⟩,fun t b q e=>⟨?_,rfl⟩,fun o b q=>q⟩
  ·show(if t∈l then none else E.σ t)=some b
   unfold fzG at e
   split at e
   ·cases e
   ·rename_i hn;rw[if_neg hn];exact q
  ·unfold fzG at e
   split at e
   ·rename_i hn
    obtain⟨k1,k2,k3⟩:=h.sig t b q
    refine⟨k2,fun hh=>(h.hid b hh).2.1 t q,fun t' q'=> ?_,fun o=>h.sr t o b q⟩
    obtain⟨g1,g2⟩:=hs t' b q'
    exact g1 (h.inj t t' b q g2▸hn)
   ·cases e
 exact⟨_,h.step m (Nat.le_refl _) (fun _ _ _=>rfl) rfl (fun t b q=>by
  obtain⟨g1,g2⟩:=hs t b q
  obtain⟨k1,k2,k3⟩:=h.sig t b g2
  exact⟨k1,k2,k3,fun o=>h.sr t o b g2,fun hh=>(h.hid b hh).2.1 t g2⟩) (fun t t' b q q'=>h.inj t t' b (hs t b q).2 (hs t' b q').2) rfl,m,Stp.act (E:=E) (E':=⟨fun t=>if t∈l then none else E.σ t,E.ρ,E.hid⟩) rfl rfl (fun _ _ _=>rfl),rfl⟩
theorem TR.row(h:TR Z K0 sp W0 K st fr cfr E){os:List Value}{e:TypeId}{kd:Kd}{sz:Nat}{gs:List (List SV)}(hne:gs≠ []∧gs.length≤maxLen)(hk:kd.isRo=false)(hg : ∀g∈gs,g.length=sz)(hs:SVRs K (Frz K E) gs.flatten os)(hty:sz=5→e=ndTy) : ∃E',TR Z K0 sp W0 (K.new (.cells os e kd)) ⟨st.nt+1,st.obs⟩ fr cfr E'∧Stp K st E (K.new (.cells os e kd)) ⟨st.nt+1,st.obs⟩ E'∧AVR (K.new (.cells os e kd)) E' (.r (.c (.own st.nt e sz gs))) (.slice (some ⟨K.nx,0,none⟩) gs.length gs.length):=by
 have hnt : ∀b,E.σ st.nt≠some b:=fun b q=>by have:=(h.sig _ b q).2.2;omega
 have hob : ∀b,b<K.nx→(K.new (.cells os e kd)).ob b=K.ob b:=fun b hb=>new_ne (by omega)
 have hsg : ∀t b,(if t=st.nt then some K.nx else E.σ t)=some b→(t=st.nt∧b=K.nx)∨(t≠st.nt∧E.σ t=some b):=fun t b q=>by
  split at q
  ·rename_i e;cases q;exact .inl ⟨e,rfl⟩
  ·rename_i e;exact .inr ⟨e,q⟩
 have m:Mv K E (fun _=> .keep) (K.new (.cells os e kd)) ⟨fun t=>if t=st.nt then some K.nx else E.σ t,E.ρ,E.hid⟩:=by
  refine⟨fun b hb=>⟨⟨Nat.lt_succ_of_lt hb.1,hb.2.1,fun t q=> ?_,hb.2.2.2⟩,hob b hb.1⟩,fun t b q _=>⟨?_,hob b (h.sig t b q).2.1⟩,(fun _ _ _ q=>(by cases q)),fun o b q=>q⟩
  ·have:=hb.1
   rcases hsg t b q with ⟨_,e⟩ | ⟨_,e⟩
   ·omega
   ·exact hb.2.2.1 t e
  ·show(if t=st.nt then some K.nx else E.σ t)=some b
   rw[if_neg (fun e=>hnt b (by rw[←e];exact q))];exact q
 have ht:=h.step m (nt':=st.nt+1) (Nat.le_succ _) (fun b hb _=>hob b hb) rfl (fun t b q=>by
  rcases hsg t b q with ⟨e1,e2⟩ | ⟨e1,e2⟩
  ·subst e2
   exact⟨h.nx,Nat.lt_succ_self _,by omega,fun o q=>by have:=(h.rho o _ q).1;omega,fun hh=>by have:=(h.hid _ hh).1;omega⟩
  ·obtain⟨k1,k2,k3⟩:=h.sig t b e2
   exact⟨k1,Nat.lt_succ_of_lt k2,by omega,fun o=>h.sr t o b e2,fun hh=>(h.hid b hh).2.1 t e2⟩) (fun t t' b q q'=>by
  rcases hsg t b q with ⟨e1,e2⟩ | ⟨e1,e2⟩<;>rcases hsg t' b q' with ⟨f1,f2⟩ | ⟨f1,f2⟩
  ·omega
  ·have:=(h.sig t' b f2).2.1;omega
  ·have:=(h.sig t b e2).2.1;omega
  ·exact h.inj t t' b e2 f2) rfl
 rw[TFr.act_keep,TS.act_keep] at ht
 refine⟨_,ht,?_, .r (.c (.own hne (if_pos rfl) (new_ob rfl) hk hg (hs.mv m.frz) hty))⟩
 have:=Stp.act (K:=K) (st:=st) (E:=E) (K':=K.new (.cells os e kd)) (E':=⟨fun t=>if t=st.nt then some K.nx else E.σ t,E.ρ,E.hid⟩) (g:=fun _=> .keep) (nt':=st.nt+1) rfl rfl fun o b q=>hob b (h.rho o b q).1
 rwa [TS.act_keep] at this
theorem TR.kil(h:TR Z K0 sp W0 K st fr cfr E)(t:Nat){o:CObj} : ∃E',TR Z K0 sp W0 (match E.σ t with | some b=>K.set b o | none=>K) ⟨st.nt,(st.act (killG (some t))).obs⟩ (fr.act (killG (some t))) cfr E'∧Mv K E (killG (some t)) (match E.σ t with | some b=>K.set b o | none=>K) E'∧Stp K st E (match E.σ t with | some b=>K.set b o | none=>K) ⟨st.nt,(st.act (killG (some t))).obs⟩ E':=by
 obtain⟨K',hK'⟩ : ∃K',(match E.σ t with | some b=>K.set b o | none=>K)=K':=⟨_,rfl⟩
 rw[hK']
 have hnx:K'.nx=K.nx:=by rw[←hK'];cases E.σ t<;>rfl
 have hob : ∀b,E.σ t≠some b→K'.ob b=K.ob b:=fun b hb=>by
  rw[←hK']
  cases he:E.σ t with
  | none=>rfl
  | some b'=>exact set_ne (fun e=>hb (by rw[he,e]))
 have hs : ∀t' b,(if t'=t then none else E.σ t')=some b→t'≠t∧E.σ t'=some b:=fun t' b q=>by
  split at q
  ·cases q
  ·rename_i hn;exact⟨hn,q⟩
 have hne : ∀t' b,t'≠t→E.σ t'=some b→E.σ t≠some b:=fun t' b hn q q'=>hn (h.inj t' t b q q')
 have m:Mv K E (killG (some t)) K' ⟨fun t'=>if t'=t then none else E.σ t',E.ρ,E.hid⟩:=by
  refine⟨fun b hb=>⟨⟨by rw[hnx];exact hb.1,hb.2.1,fun t' q=>hb.2.2.1 t' (hs t' b q).2,hb.2.2.2⟩,hob b (hb.2.2.1 t)⟩,fun t' b q e=> ?_,fun t' b q e=> ?_,fun o b q=>q⟩
  ·unfold killG at e
   split at e
   ·cases e
   ·rename_i hn
    have hn:t'≠t:=fun e=>hn (by rw[e])
    exact⟨(if_neg hn).trans q,hob b (hne t' b hn q)⟩
  ·unfold killG at e
   split at e<;>cases e
 refine⟨_,h.step m (by rw[hnx];exact Nat.le_refl _) (fun b _ hb=>hob b (hb t)) rfl (fun t' b q=> ?_) (fun t1 t2 b q q'=>h.inj t1 t2 b (hs t1 b q).2 (hs t2 b q').2) rfl,m,Stp.act (E:=E) (E':=⟨fun t'=>if t'=t then none else E.σ t',E.ρ,E.hid⟩) rfl rfl fun o b q=>hob b fun q'=>h.sr t o b q' q⟩
 obtain⟨g1,g2⟩:=hs t' b q
 obtain⟨k1,k2,k3⟩:=h.sig t' b g2
 exact⟨k1,by rw[hnx];exact k2,k3,fun o=>h.sr t' o b g2,fun hh=>(h.hid b hh).2.1 t' g2⟩
theorem TR.kil0(h:TR Z K0 sp W0 K st fr cfr E)(t:Nat) : ∃E',TR Z K0 sp W0 K ⟨st.nt,(st.act (killG (some t))).obs⟩ (fr.act (killG (some t))) cfr E'∧Mv K E (killG (some t)) K E'∧Stp K st E K ⟨st.nt,(st.act (killG (some t))).obs⟩ E'∧∀b,E.σ t=some b→K0.nx≤b∧b<K.nx∧(∀t,E'.σ t≠some b)∧∀o,E'.ρ o≠some b:=by
 have hs : ∀t' b,(if t'=t then none else E.σ t')=some b→t'≠t∧E.σ t'=some b:=fun t' b q=>by
  split at q
  ·cases q
  ·rename_i hn;exact⟨hn,q⟩
 have m:Mv K E (killG (some t)) K ⟨fun t'=>if t'=t then none else E.σ t',E.ρ,E.hid⟩:=by
  refine⟨fun b hb=>⟨⟨hb.1,hb.2.1,fun t' q=>hb.2.2.1 t' (hs t' b q).2,hb.2.2.2⟩,rfl⟩,fun t' b q e=> ?_,fun t' b q e=> ?_,fun o b q=>q⟩
  ·unfold killG at e
   split at e
   ·cases e
   ·rename_i hn
    have hn:t'≠t:=fun e=>hn (by rw[e])
    exact⟨(if_neg hn).trans q,rfl⟩
  ·unfold killG at e
   split at e<;>cases e
 refine⟨_,h.step m (Nat.le_refl _) (fun b _ hb=>rfl) rfl (fun t' b q=> ?_) (fun t1 t2 b q q'=>h.inj t1 t2 b (hs t1 b q).2 (hs t2 b q').2) rfl,m,Stp.act (E:=E) (E':=⟨fun t'=>if t'=t then none else E.σ t',E.ρ,E.hid⟩) rfl rfl fun o b q=>rfl,fun b q=>⟨(h.sig t b q).1,(h.sig t b q).2.1,fun t' q'=>(hs t' b q').1 (h.inj t' t b (hs t' b q').2 q),fun o=>h.sr t o b q⟩⟩
 obtain⟨g1,g2⟩:=hs t' b q
 obtain⟨k1,k2,k3⟩:=h.sig t' b g2
 exact⟨k1,k2,k3,fun o=>h.sr t' o b g2,fun hh=>(h.hid b hh).2.1 t' g2⟩
theorem TR.obj(h:TR Z K0 sp W0 K st fr cfr E){os:List Value}{e:TypeId}{cs:List CV}(hs:R2 (CVR K E) cs os)(hlk:lks cs= []) : ∃E',TR Z K0 sp W0 (K.new (.cells os e .ex)) ⟨st.nt,st.obs++ [(0,e,cs)]⟩ fr cfr E'∧Stp K st E (K.new (.cells os e .ex)) ⟨st.nt,st.obs++ [(0,e,cs)]⟩ E'∧AVR (K.new (.cells os e .ex)) E' (.ptr st.obs.length 0) (.pointer (some ⟨K.nx,0,none⟩)):=by
 have hob : ∀b,b<K.nx→(K.new (.cells os e .ex)).ob b=K.ob b:=fun b hb=>new_ne (by omega)
 have hsg : ∀o b,(if o=st.obs.length then some K.nx else E.ρ o)=some b→(o=st.obs.length∧b=K.nx)∨(o≠st.obs.length∧E.ρ o=some b):=fun t b q=>by
  split at q
  ·rename_i e;cases q;exact .inl ⟨e,rfl⟩
  ·rename_i e;exact .inr ⟨e,q⟩
 have hlo : ∀o b,E.ρ o=some b→(if o=st.obs.length then some K.nx else E.ρ o)=some b:=fun o b q=>by
  rw[if_neg (fun e=>by have:=(h.rho o b q).2.2;omega)];exact q
 have m:Mv K E (fun _=> .keep) (K.new (.cells os e .ex)) ⟨E.σ,fun o=>if o=st.obs.length then some K.nx else E.ρ o,E.hid⟩:=by
  refine⟨fun b hb=>⟨⟨Nat.lt_succ_of_lt hb.1,hb.2.1,hb.2.2.1,fun t q=> ?_⟩,hob b hb.1⟩,fun t b q _=>⟨q,hob b (h.sig t b q).2.1⟩,(fun _ _ _ q=>(by cases q)),hlo⟩
  have:=hb.1
  rcases hsg t b q with ⟨_,e⟩ | ⟨_,e⟩
  ·omega
  ·exact hb.2.2.2 t e
 have hmv : ∀ {x v},AVR K E x v→AVR (K.new (.cells os e .ex)) ⟨E.σ,fun o=>if o=st.obs.length then some K.nx else E.ρ o,E.hid⟩ x v:=fun q=>by
  have:=q.mv m;rwa [AV.act_keep] at this
 have hcv : ∀x v,CVR K E x v→CVR (K.new (.cells os e .ex)) ⟨E.σ,fun o=>if o=st.obs.length then some K.nx else E.ρ o,E.hid⟩ x v:=fun x v q=>by
  have:=q.mv m;rwa [CV.act_keep] at this
 refine⟨⟨E.σ,fun o=>if o=st.obs.length then some K.nx else E.ρ o,E.hid⟩,⟨Nat.le_succ_of_le h.nx,fun b hb hp hw=> ?_,fun b hb=> ?_,fun b hb=> ?_,?_,fun t b q=> ?_,h.inj,fun t o b q q'=> ?_,fun o b q=> ?_,fun o o' b q q'=> ?_,fun o v e' cs' q=> ?_,fun t=>hmv (h.frm t)⟩,⟨fun _ q=>q,hlo,fun o v e' cs' q=> ?_⟩, .ptr (if_pos rfl)⟩
 ·have:=h.nx;exact(hob b (by omega)).trans (h.keep b hb hp hw)
 ·obtain⟨k1,k2,k3,k4⟩:=h.prot b hb
  have:=h.nx;exact⟨k1,k2,k3,(hob b (by omega)).trans k4⟩
 ·obtain⟨k1,k2,k3⟩:=h.hid b hb
  refine⟨Nat.lt_succ_of_lt k1,k2,fun o q=> ?_⟩
  rcases hsg o b q with ⟨_,e⟩ | ⟨_,e⟩
  ·omega
  ·exact k3 o e
 ·obtain⟨W,w1,w2⟩:=h.wr
  refine⟨W,w1,?_⟩
  have hr:st.obs≠ []→(if 0=st.obs.length then some K.nx else E.ρ 0)=E.ρ 0:=fun hne=>if_neg fun e=>hne (List.length_eq_zero_iff.1 e.symm)
  show JR Z (st.obs++ [(0,e,cs)]) _ (if 0=st.obs.length then some K.nx else E.ρ 0) W
  match hl:st.obs,w2,hr with
  | [],w2,_=>exact .inl ⟨hlk,w2⟩
  | (v,e',cs')::r,w2,hr=>
    rw[hr (by simp)]
    refine JR.mv (l:=(v,e',cs')::r) (l':=(v,e',cs')::r) w2 rfl (fun v e cs q=>⟨v,cs,q,rfl,rfl,fun _ p os h1 h2=>⟨os,(hob p (h.rho 0 p h1).1).trans h2,rfl,rfl⟩⟩) (fun b hb=>hob b (h.hid b (w1 b hb).1).1) (Nat.le_succ _)
 ·obtain⟨k1,k2,k3⟩:=h.sig t b q;exact⟨k1,Nat.lt_succ_of_lt k2,k3⟩
 ·rcases hsg o b q' with ⟨e1,e2⟩ | ⟨e1,e2⟩
  ·have:=(h.sig t b q).2.1;omega
  ·exact h.sr t o b q e2
 ·show b<K.nx+1∧_∧o<(st.obs++ [(0,e,cs)]).length
  rw[List.length_append,List.length_singleton]
  rcases hsg o b q with ⟨e1,e2⟩ | ⟨e1,e2⟩
  ·have:=h.nx;exact⟨by omega, .inl (by omega),by omega⟩
  ·obtain⟨k1,k2,k3⟩:=h.rho o b e2;exact⟨by omega,k2,by omega⟩
 ·rcases hsg o b q with ⟨e1,e2⟩ | ⟨e1,e2⟩<;>rcases hsg o' b q' with ⟨f1,f2⟩ | ⟨f1,f2⟩
  ·omega
  ·have:=(h.rho o' b f2).1;omega
  ·have:=(h.rho o b e2).1;omega
  ·exact h.rinj o o' b e2 f2
 ·have q:(st.obs++ [(0,e,cs)])[o]? = some (v,e',cs'):=q
  rw[List.getElem?_append] at q
  split at q
  ·obtain⟨b,os',k1,k2,k3⟩:=h.obs o v e' cs' q
   exact⟨b,os',hlo o b k1,(hob b (h.rho o b k1).1).trans k2,k3.mono hcv⟩
  ·rename_i hlt
   have ho:o=st.obs.length:=by
    have:=(List.getElem?_eq_some_iff.1 q).1
    simp at this;omega
   subst ho
   simp at q
   obtain⟨rfl,rfl,rfl⟩:=q
   exact⟨K.nx,os,if_pos rfl,new_ob rfl,hs.mono hcv⟩
 ·refine⟨v,cs',?_,Nat.le_refl _,fun _ b hb=>hob b (h.rho o b hb).1⟩
  show(st.obs++ [(0,e,cs)])[o]? = _
  rw[List.getElem?_append_left (List.getElem?_eq_some_iff.1 q).1];exact q
theorem TR.sto(h:TR Z K0 sp W0 K st fr cfr E){o b v:Nat}{e:TypeId}{cs us:List CV}{os:List Value}(hρ:E.ρ o=some b)(ho:st.obs[o]? = some (v,e,cs))(hs:R2 (CVR K E) us os)(hlk:lks us=lks cs∧us.length=cs.length∧(lks cs≠ []→∀os0,K.ob b= .cells os0 e .ex→os.length=os0.length∧lkW us os=lkW cs os0)):TR Z K0 sp W0 (K.set b (.cells os e .ex)) ⟨st.nt,st.obs.set o (v+1,e,us)⟩ fr cfr E∧Stp K st E (K.set b (.cells os e .ex)) ⟨st.nt,st.obs.set o (v+1,e,us)⟩ E:=by
 have hob : ∀l,l≠b→(K.set b (.cells os e .ex)).ob l=K.ob l:=fun l hl=>set_ne hl
 have m:Mv K E (fun _=> .keep) (K.set b (.cells os e .ex)) E:=by
  refine⟨fun l hl=>⟨hl,hob l fun e=>hl.2.2.2 o (e▸hρ)⟩,fun t l q _=>⟨q,hob l fun e=>h.sr t o l q (e▸hρ)⟩,(fun _ _ _ q=>(by cases q)),fun _ _ q=>q⟩
 have hmv : ∀ {x v},AVR K E x v→AVR (K.set b (.cells os e .ex)) E x v:=fun q=>by
  have:=q.mv m;rwa [AV.act_keep] at this
 have hcv : ∀x v,CVR K E x v→CVR (K.set b (.cells os e .ex)) E x v:=fun x v q=>by
  have:=q.mv m;rwa [CV.act_keep] at this
 obtain⟨r1,r2,r3⟩:=h.rho o b hρ
 refine⟨⟨h.nx,fun l hl hp hw=> ?_,fun l hl=> ?_,h.hid,?_,h.sig,h.inj,h.sr,fun o' l q=> ?_,h.rinj,fun o' v' e' cs' q=> ?_,fun t=>hmv (h.frm t)⟩,⟨fun _ q=>q,fun _ _ q=>q,fun o' v' e' cs' q=> ?_⟩⟩
 ·refine(hob l fun e=> ?_).trans (h.keep l hl hp hw)
  subst e
  rcases r2 with r2 | r2
  ·omega
  ·exact hp r2
 ·obtain⟨k1,k2,k3,k4⟩:=h.prot l hl
  refine⟨k1,k2,k3,(hob l fun e=> ?_).trans k4⟩
  subst e
  rcases r2 with r2 | r2
  ·omega
  ·exact k2 r2
 ·obtain⟨W,w1,w2⟩:=h.wr
  refine⟨W,w1,JR.mv w2 (by show(st.obs.set o _).length=_;rw[List.length_set]) (fun v' e' cs' q=> ?_) (fun l hl=>hob l fun e=>(h.hid l (w1 l hl).1).2.2 o (e▸hρ)) (Nat.le_refl _)⟩
  show ∃v'' cs'',(st.obs.set o (v+1,e,us))[0]? = _∧_
  by_cases ho':o=0
  ·subst ho'
   rw[ho] at q;cases q
   refine⟨v+1,us,List.getElem?_set_self r3,hlk.1,hlk.2.1,fun hne p os0 h1 h2=> ?_⟩
   have hpb:p=b:=by rw[hρ] at h1;cases h1;rfl
   subst hpb
   obtain⟨g1,g2⟩:=hlk.2.2 hne os0 h2
   exact⟨os,set_ob,g1,g2⟩
  ·refine⟨v',cs',(List.getElem?_set_ne ho').trans q,rfl,rfl,fun _ p os0 h1 h2=>⟨os0,(hob p fun e=>ho' ?_).trans h2,rfl,rfl⟩⟩
   exact h.rinj o 0 b hρ (e▸h1)
 ·obtain⟨k1,k2,k3⟩:=h.rho o' l q
  exact⟨k1,k2,by show o'<(st.obs.set o _).length;rw[List.length_set];exact k3⟩
 ·have q:(st.obs.set o (v+1,e,us))[o']? = some (v',e',cs'):=q
  by_cases ho':o=o'
  ·subst ho'
   rw[List.getElem?_set_self r3] at q
   cases q
   exact⟨b,os,hρ,set_ob,hs.mono hcv⟩
  ·rw[List.getElem?_set_ne ho'] at q
   obtain⟨l,os',k1,k2,k3⟩:=h.obs o' v' e' cs' q
   exact⟨l,os',k1,(hob l fun e=>ho' (h.rinj o o' b hρ (e▸k1))).trans k2,k3.mono hcv⟩
 ·by_cases ho':o=o'
  ·subst ho'
   rw[ho] at q;cases q
   exact⟨v+1,us,List.getElem?_set_self r3,Nat.le_succ _,fun e=>by omega⟩
  ·refine⟨v',cs',(List.getElem?_set_ne ho').trans q,Nat.le_refl _,fun _ l hl=>hob l fun e=>ho' (h.rinj o o' b hρ (e▸hl))⟩
end Can
end Go.Proofs.YticlaccbodpkeaaGreatDoor
end
section
namespace Go.Proofs.YticlaccbodpkeaaGreatDoor
namespace Can
open Go Go.RowKit
set_option linter.unusedSimpArgs false
set_option linter.unusedVariables false
variable {T:Tbl} {Z:TP} {K0 K K' K'':CH} {sp:Option Nat} {W0:Nat→Prop} {st st' st'' st1:TS} {fr fr1:TFr} {cfr:Fr} {E E' E'':TE}
theorem SVRs.app{A:Nat→Prop}{xs ys:List SV}{vs us:List Value}(h:SVRs K A xs vs)(g:SVRs K A ys us):SVRs K A (xs++ys) (vs++us):=(h.r2.app g.r2).svrs
theorem src_rel{a:AV}{v:Value}(h:AVR K E a v){t:Option Nat}{z:Option Nat}{hs:List (List SV)}(hr:a.rowOf=some (t,z,hs)){sz:Nat}(hz:srcOk sz z) : ∃xs,srcCells K sz v=some (xs,hs.length)∧SVRs K (Frz K E) hs.flatten xs∧(∀g∈hs,g.length=sz):=by
 rcases row_rel h hr with ⟨rfl,rfl⟩ | ⟨hne,sz',b,os,ty,kd,rfl,k1,k2,k3,k4,k5,rfl⟩
 ·exact⟨[],rfl, .nil,(fun _ q=>(by cases q))⟩
 ·cases hz
  refine⟨os,?_,k5,k4⟩
  have hl:os.length=hs.length*sz:=by rw[k5.r2.len,flat_len' k4]
  have h0:hs.length≠0:=fun e=>hne.1 (List.length_eq_zero_iff.1 e)
  simp only[srcCells,h0,if_false,k2]
  rw[if_pos (by omega),List.drop_zero,List.take_of_length_le (by omega)]
theorem r2_cells{A:Nat→Prop} : ∀ {xs:List SV} {vs:List Value},R2 (SVR K A) xs vs→vs.all isCell=true
 | _,_, .nil=>rfl
 | _,_, .cons h t=>by rw[List.all_cons,SVR.cell h,r2_cells t];rfl
theorem SVRs.cells{A:Nat→Prop}{xs:List SV}{vs:List Value}(h:SVRs K A xs vs):vs.all isCell=true:=r2_cells h.r2
theorem CVRs.cells{xs:List CV}{vs:List Value}(h:R2 (CVR K E) xs vs):vs.all isCell=true:=by
 induction h with
 | nil=>rfl
 | cons h t ih=>rw[List.all_cons,h.cell,ih];rfl
theorem TR.ren(h:TR Z K0 sp W0 K st fr cfr E)(t:Nat) : ∃E',TR Z K0 sp W0 K ⟨st.nt+1,(st.act (killG (some t))).obs⟩ (fr.act (killG (some t))) cfr E'∧Stp K st E K ⟨st.nt+1,(st.act (killG (some t))).obs⟩ E'∧(∀b,Frz K E b→Frz K E' b)∧E'.σ st.nt=E.σ t:=by
 have hnt : ∀b,E.σ st.nt≠some b:=fun b q=>by have:=(h.sig _ b q).2.2;omega
 have hs : ∀t' b,(if t'=st.nt then E.σ t else if t'=t then none else E.σ t')=some b→(t'=st.nt∧E.σ t=some b)∨(t'≠st.nt∧t'≠t∧E.σ t'=some b):=fun t' b q=>by
  split at q
  ·rename_i e;exact .inl ⟨e,q⟩
  ·rename_i e
   split at q
   ·cases q
   ·rename_i e';exact .inr ⟨e,e',q⟩
 have hfz : ∀b,Frz K E b→Frz K ⟨fun t'=>if t'=st.nt then E.σ t else if t'=t then none else E.σ t',E.ρ,E.hid⟩ b:=fun b hb=>⟨hb.1,hb.2.1,fun t' q=>by
  rcases hs t' b q with ⟨_,e⟩ | ⟨_,_,e⟩
  ·exact hb.2.2.1 t e
  ·exact hb.2.2.1 t' e,hb.2.2.2⟩
 have m:Mv K E (killG (some t)) K ⟨fun t'=>if t'=st.nt then E.σ t else if t'=t then none else E.σ t',E.ρ,E.hid⟩:=by
  refine⟨fun b hb=>⟨hfz b hb,rfl⟩,fun t' b q e=> ?_,fun t' b q e=> ?_,fun o b q=>q⟩
  ·unfold killG at e
   split at e
   ·cases e
   ·rename_i hn
    have hn:t'≠t:=fun e=>hn (by rw[e])
    refine⟨?_,rfl⟩
    show(if t'=st.nt then E.σ t else if t'=t then none else E.σ t')=some b
    rw[if_neg (fun e=>hnt b (by rw[←e];exact q)),if_neg hn];exact q
  ·unfold killG at e
   split at e<;>cases e
 refine⟨_,h.step m (Nat.le_refl _) (fun b _ hb=>rfl) rfl (fun t' b q=> ?_) (fun t1 t2 b q q'=> ?_) rfl,Stp.act (E:=E) (E':=⟨fun t'=>if t'=st.nt then E.σ t else if t'=t then none else E.σ t',E.ρ,E.hid⟩) rfl rfl fun o b q=>rfl,hfz,if_pos rfl⟩
 ·rcases hs t' b q with ⟨e1,e⟩ | ⟨e1,_,e⟩
  ·obtain⟨k1,k2,k3⟩:=h.sig t b e
   exact⟨k1,k2,by omega,fun o=>h.sr t o b e,fun hh=>(h.hid b hh).2.1 t e⟩
  ·obtain⟨k1,k2,k3⟩:=h.sig t' b e
   exact⟨k1,k2,by omega,fun o=>h.sr t' o b e,fun hh=>(h.hid b hh).2.1 t' e⟩
 ·rcases hs t1 b q with ⟨e1,e⟩ | ⟨e1,e2,e⟩<;>rcases hs t2 b q' with ⟨f1,f⟩ | ⟨f1,f2,f⟩
  ·omega
  ·exact absurd (h.inj t2 t b f e) f2
  ·exact absurd (h.inj t1 t b e f) e2
  ·exact h.inj t1 t2 b e f
theorem tapp_sound(h:TR Z K0 sp W0 K st fr cfr E){e sz bytes:Nat}{s x:Operand}{a:AV}(ht:twop fr st (.app e sz bytes s x)=some (a,fr1,st1)) : ∃v K1 E1,wop K (evF cfr) (.app e sz bytes s x)=some (v,K1)∧TR Z K0 sp W0 K1 st1 fr1 cfr E1∧AVR K1 E1 a v∧Stp K st E K1 st1 E1:=by
 simp only[twop] at ht
 split at ht
 ·rename_i o gs tq z hs e1 e2
  split at ht
  ·rename_i hc
   obtain⟨c1,c2,c3,c4,c5⟩:=hc
   have hty0:=tyB_ok c5
   cases ht
   obtain⟨xs,q1,q2,q3⟩:=src_rel (tev_rel h.frm x) e2 c2
   have hall:=q2.cells
   have hgr:=tev_rel h.frm s
   have hnil:o=none→gs= []→evF cfr s= .slice none 0 0→∃v K1 E1,wop K (evF cfr) (.app e sz bytes s x)=some (v,K1)∧TR Z K0 sp W0 K1 ⟨st.nt+1,(kilS o st).obs⟩ (kilF o fr) cfr E1∧AVR K1 E1 (.r (.c (.own st.nt e sz (gs++hs)))) v∧Stp K st E K1 ⟨st.nt+1,(kilS o st).obs⟩ E1:=fun ho hg hv=>by
    subst ho;subst hg
    rw[List.nil_append]
    have hh:hs.length*bytes≤140737488355328∧hs.length≤maxLen:=by simpa using And.intro c3 c4
    by_cases h0:hs.length=0
    ·have:hs= []:=List.length_eq_zero_iff.1 h0
     subst this
     refine⟨.slice none 0 0,K,E,by simp only[wop,q1,hv];rfl,⟨h.nx,h.keep,h.prot,h.hid,h.wr,fun t b q=> ?_,h.inj,h.sr,h.rho,h.rinj,h.obs,h.frm⟩, .r (.c .own0),fun _ h=>h,fun _ _ h=>h,fun o v e cs h=>⟨v,cs,h,Nat.le_refl _,fun _ _ _=>rfl⟩⟩
     obtain⟨k1,k2,k3⟩:=h.sig t b q
     exact⟨k1,k2,Nat.lt_succ_of_lt k3⟩
    ·obtain⟨E1,t1,t2,t3⟩:=h.row (e:=e) (kd:= .gr) (sz:=sz) (gs:=hs) (os:=xs) ⟨fun e=>h0 (by rw[e];rfl),hh.2⟩ rfl q3 q2 hty0
     exact⟨_,_,E1,by simp only[wop,q1,hv,h0,if_false];rw[if_pos ⟨hall,hh.1,hh.2⟩],t1,t3,t2⟩
   unfold AV.growOf at e1
   split at e1
   ·rename_i t e' sz' gs' hts
    cases e1
    obtain⟨rfl,rfl⟩:=c1
    rcases row_rel (t:=some t) hgr (by rw[hts];rfl) with ⟨rfl,hv⟩ | ⟨hne,sz2,b,os,ty,kd,hsz2,k1,k2,k3,k4,k5,hv⟩
    ·
     rw[List.nil_append]
     obtain⟨E2,t1,m,t2⟩:=h.kil0 t
     by_cases h0:hs.length=0
     ·have:hs= []:=List.length_eq_zero_iff.1 h0
      subst this
      refine⟨.slice none 0 0,K,E2,by simp only[wop,q1,hv];rfl,⟨t1.nx,t1.keep,t1.prot,t1.hid,t1.wr,fun t b q=> ?_,t1.inj,t1.sr,t1.rho,t1.rinj,t1.obs,t1.frm⟩, .r (.c .own0),t2.1.1,t2.1.2,t2.1.3⟩
      obtain⟨k1,k2,k3⟩:=t1.sig t b q
      exact⟨k1,k2,Nat.lt_succ_of_lt k3⟩
     ·have hh:hs.length*bytes≤140737488355328∧hs.length≤maxLen:=by simpa using And.intro c3 c4
      obtain⟨E1,s1,s2,s3⟩:=t1.row (e:=e') (kd:= .gr) (sz:=sz') (gs:=hs) (os:=xs) ⟨fun e=>h0 (by rw[e];rfl),hh.2⟩ rfl q3 (q2.mv m.frz) hty0
      exact⟨_,_,E1,by simp only[wop,q1,hv,h0,if_false];rw[if_pos ⟨hall,hh.1,hh.2⟩],s1,s3,t2.1.trans s2⟩
    ·have hty:ty=e':=by
      rw[hts] at hgr
      cases hgr with
      | r hgr=>cases hgr with
        | c hgr=>
          rw[hv] at hgr
          cases hgr with
          | own hne hb ho hk hg hs=>
            have k1:E.σ t=some b:=k1
            rw[k2] at ho;cases ho;rfl
     subst hty
     cases hsz2
     have k1:E.σ t=some b:=k1
     have hl:os.length=gs.length*sz':=by rw[k5.r2.len,flat_len' k4]
     by_cases h0:hs.length=0
     ·have:hs= []:=List.length_eq_zero_iff.1 h0
      subst this
      obtain⟨E1,t1,t2,t3,t4⟩:=h.ren t
      refine⟨.slice (some ⟨b,0,none⟩) gs.length gs.length,K,E1,by simp only[wop,q1,hv,k2];rfl,t1,?_,t2⟩
      rw[List.append_nil]
      exact .r (.c (.own hne (t4.trans k1) k2 k3 k4 (k5.mv fun b hb=>⟨t3 b hb,rfl⟩) hty0))
     ·have hx:wop K (evF cfr) (.app ty sz' bytes s x)=some (.slice (some ⟨K.nx,0,none⟩) (gs.length+hs.length) (gs.length+hs.length),appH (kd.isEx&&decide (gs.length<gs.length+hs.length)) K b (.cells (os++xs) ty .gr)):=by
       simp only[wop,q1,hv,k2,h0,if_false]
       rw[if_pos ⟨trivial,trivial,k3,by omega,hall,c3,c4⟩,List.take_of_length_le (by omega)]
      rw[←List.length_append] at hx
      have hfl:SVRs K (Frz K E) (gs++hs).flatten (os++xs):=by rw[List.flatten_append];exact k5.app q2
      have hgl : ∀g∈gs++hs,g.length=sz':=fun g hg=>(List.mem_append.1 hg).elim (k4 g) (q3 g)
      have hgn:gs++hs≠ []∧(gs++hs).length≤maxLen:=⟨fun e=>hne.1 (List.append_eq_nil_iff.1 e).1,by rw[List.length_append];exact c4⟩
      unfold appH at hx
      split at hx
      ·obtain⟨E2,t1,m,t2⟩:=h.kil0 t
       obtain⟨E1,s1,s2,s3⟩:=t1.row (e:=ty) (kd:= .gr) hgn rfl hgl (hfl.mv m.frz) hty0
       exact⟨_,_,E1,hx,s1,s3,t2.1.trans s2⟩
      ·obtain⟨E2,t1,m,t2⟩:=h.kil t (o:= .dead)
       rw[k1] at t1 m t2
       obtain⟨E1,s1,s2,s3⟩:=t1.row (e:=ty) (kd:= .gr) hgn rfl hgl (hfl.mv m.frz) hty0
       exact⟨_,_,E1,hx,s1,s3,t2.trans s2⟩
   ·rename_i hts
    cases e1
    rcases row_rel (t:=none) (gs:= []) hgr (by rw[hts];rfl) with ⟨_,hv⟩ | ⟨hne,_⟩
    ·exact hnil rfl rfl hv
    ·exact absurd rfl hne.1
   ·cases e1
  ·cases ht
 ·cases ht
theorem grps_rel{sz:Nat} : ∀ {l:List (Option (List CV))} {gs:List (List CV)},grps sz l=some gs→l=gs.map some∧∀g∈gs,g.length=sz
 | [],gs,h=>by cases h;exact⟨rfl,(fun _ q=>(by cases q))⟩
 | none::r,gs,h=>by cases h
 | some cs::r,gs,h=>by
   simp only[grps] at h
   split at h
   ·rename_i hc
    cases hr:grps sz r with
    | none=>rw[hr] at h;cases h
    | some gs'=>
      rw[hr] at h;cases h
      obtain⟨e1,e2⟩:=grps_rel hr
      refine⟨by rw[e1];rfl,fun g hg=> ?_⟩
      rcases List.mem_cons.1 hg with rfl | hg
      ·exact hc
      ·exact e2 g hg
   ·cases h
theorem fz_rel{x:CV}{v:Value}(h:CVR K E x v){y:SV}(hy:x.fz=some y){K':CH}{A:Nat→Prop}(h1 : ∀b,Frz K E b→A b∧K'.ob b=K.ob b)(h2 : ∀t b,t∈x.stamp→E.σ t=some b→A b∧K'.ob b=K.ob b):SVR K' A y v:=by
 cases h with
 | s h=>cases hy;exact h.mv h1
 | own0=>cases hy;exact .row0
 | own hne hb ho hk hg hs ht=>
   cases hy
   obtain⟨q1,q2⟩:=h2 _ _ (List.mem_singleton.2 rfl) hb
   exact .row hne q1 (q2.trans ho) hk hg (hs.mv h1) ht
 | bad=>cases hy
theorem allFz_rel{K':CH}{A:Nat→Prop}(h1 : ∀b,Frz K E b→A b∧K'.ob b=K.ob b) : ∀ {xs:List CV} {vs:List Value} {ys:List SV},R2 (CVR K E) xs vs→allFz xs=some ys→(∀t b,t∈xs.flatMap CV.stamp→E.σ t=some b→A b∧K'.ob b=K.ob b)→R2 (SVR K' A) ys vs
 | _,_,ys, .nil,h,_=>by cases h;exact .nil
 | x::xs,_,ys, .cons hx ht,h,h2=>by
   simp only[allFz] at h
   split at h
   ·rename_i y ys' e1 e2
    cases h
    exact .cons (fz_rel hx e1 h1 fun t b q=>h2 t b (by rw[List.flatMap_cons];exact List.mem_append_left _ q)) (allFz_rel h1 ht e2 fun t b q=>h2 t b (by rw[List.flatMap_cons];exact List.mem_append_right _ q))
   ·cases h
theorem allGz_rel{K':CH}{A:Nat→Prop}(h1 : ∀b,Frz K E b→A b∧K'.ob b=K.ob b) : ∀ {gs:List (List CV)} {hs:List (List SV)} {vs:List Value},R2 (CVR K E) gs.flatten vs→allGz gs=some hs→(∀t b,t∈gs.flatten.flatMap CV.stamp→E.σ t=some b→A b∧K'.ob b=K.ob b)→R2 (SVR K' A) hs.flatten vs∧hs.length=gs.length∧∀sz,(∀g∈gs,g.length=sz)→∀g∈hs,g.length=sz
 | [],hs,vs,hr,h,_=>by
   cases h
   exact⟨(by cases hr;exact .nil),rfl,fun _ _ _ q=>(by cases q)⟩
 | g::gs,hs,vs,hr,h,h2=>by
   simp only[allGz] at h
   split at h
   ·rename_i y ys e1 e2
    cases h
    rw[List.flatten_cons] at hr h2
    have r1:=hr.take g.length
    have r2:=hr.drop g.length
    rw[List.take_left] at r1
    rw[List.drop_left] at r2
    have k1:=allFz_rel h1 r1 e1 fun t b q=>h2 t b (by rw[List.flatMap_append];exact List.mem_append_left _ q)
    obtain⟨k2,k3,k4⟩:=allGz_rel h1 r2 e2 fun t b q=>h2 t b (by rw[List.flatMap_append];exact List.mem_append_right _ q)
    have hyl:y.length=g.length:=by rw[←k1.len,r1.len]
    refine⟨?_,by simp[k3],fun sz hsz x hx=> ?_⟩
    ·rw[List.flatten_cons,←List.take_append_drop g.length vs]
     exact k1.app k2
    ·rcases List.mem_cons.1 hx with rfl | hx
     ·rw[hyl];exact hsz g (by simp)
     ·exact k4 sz (fun g hg=>hsz g (by simp[hg])) x hx
   ·cases h
theorem bld_all{sz:Nat}{ev:Operand→Value} : ∀ {ps:List (Nat×Operand)} {k:Nat} {z:List Value},ps.map (·.1)=List.range' k ps.length→z.length=(k+ps.length)*sz→(∀p∈ps,isVal (ev p.2)=true∧(ev p.2).cells.size=sz)→bldV z (ps.map fun(i,x)=>(i*sz,sz,ev x))=some (z.take (k*sz)++ps.flatMap fun p=>(ev p.2).cells.toList)
 | [],k,z,_,hz,_=>by
   rw[List.take_of_length_le (by simpa using Nat.le_of_eq hz)]
   simp[bldV]
 | (i,x)::ps,k,z,hi,hz,hv=>by
   rw[List.map_cons,List.length_cons,List.range'_succ] at hi
   injection hi with hi1 hi2
   have hi1:i=k:=hi1
   subst hi1
   obtain⟨h1,h2⟩:=hv (i,x) (by simp)
   have hle:i*sz+sz≤z.length:=by
    rw[hz,List.length_cons,show i+(ps.length+1)=(i+1)+ps.length from by omega,Nat.add_mul (i+1),Nat.add_mul i];omega
   have hcl:((ev x).cells.toList).length=sz:=by rw[Array.length_toList];exact h2
   have ih:=bld_all (sz:=sz) (ev:=ev) (ps:=ps) (k:=i+1) (z:=setCells z (i*sz) (ev x).cells.toList) hi2 (by rw[setCells_length (by omega),hz,List.length_cons,show i+(ps.length+1)=(i+1)+ps.length from by omega]) fun p hp=>hv p (by simp[hp])
   show(if isVal (ev x)=true∧(ev x).cells.size=sz∧i*sz+sz≤z.length then bldV (setCells z (i*sz) (ev x).cells.toList) _ else none)=_
   rw[if_pos ⟨h1,h2,hle⟩,ih]
   congr 1
   rw[List.flatMap_cons,←List.append_assoc]
   congr 1
   unfold setCells
   rw[List.take_append_of_le_length (by rw[List.length_append,List.length_take,hcl,Nat.add_mul];omega),List.take_of_length_le (by rw[List.length_append,List.length_take,hcl,Nat.add_mul];omega)]
theorem zeros_len{z:List Value}{n:Nat}:(zeros z n).length=n:=by simp[zeros]
theorem taop_sound(h:TR Z K0 sp W0 K st fr cfr E){x:AOp}{a:AV}(ht:taop fr st x=some (a,fr1,st1)) : ∃cs e k mk E1,aop (evF cfr) x=some (cs,e,k,mk)∧TR Z K0 sp W0 (K.new (.cells cs e k)) st1 fr1 cfr E1∧AVR (K.new (.cells cs e k)) E1 a (akV mk K.nx)∧Stp K st E (K.new (.cells cs e k)) st1 E1:=by
 cases x with
 | new e z=>
   simp only[taop] at ht
   cases hz:zCV z with
   | none=>rw[hz] at ht;cases ht
   | some cs=>
     rw[hz] at ht
     simp only at ht
     split at ht
     ·rename_i hlk
      cases ht
      obtain⟨E1,t1,t2,t3⟩:=h.obj (e:=e) (zCV_rel hz) hlk
      exact⟨_,_,_,_,E1,rfl,t1,t3,t2⟩
     ·cases ht
 | box e x=>
   simp only[taop] at ht
   cases hz:(tev fr x).cvs with
   | none=>rw[hz] at ht;cases ht
   | some cs=>
     rw[hz] at ht
     simp only at ht
     split at ht
     ·rename_i hlk
      cases ht
      obtain⟨q1,q2⟩:=cvs_rel (tev_rel h.frm x) hz
      obtain⟨E1,t1,t2,t3⟩:=h.obj (e:=e) q1 hlk
      exact⟨_,_,_, .ptr,E1,by simp only[aop];rw[if_pos q2],t1,t3,t2⟩
     ·cases ht
 | bsl e sz n z ps=>
   simp only[taop] at ht
   split at ht
   ·rename_i hc
    obtain⟨c1,c2,c3,c4,c5⟩:=hc
    split at ht
    ·rename_i gs hgs
     split at ht
     ·rename_i hs hhs
      cases ht
      obtain⟨g1,g2⟩:=grps_rel hgs
      have hn:ps.length=n:=by have:=congrArg List.length c1;simpa using this
      subst hn
      have hpv : ∀p∈ps,∃g∈gs,(tev fr p.2).cvs=some g:=fun p hp=>by
       have:(tev fr p.2).cvs∈gs.map some:=by rw[←g1];exact List.mem_map_of_mem hp
       obtain⟨g,k1,k2⟩:=List.mem_map.1 this
       exact⟨g,k1,k2.symm⟩
      have hval : ∀p∈ps,isVal (evF cfr p.2)=true∧(evF cfr p.2).cells.size=sz:=fun p hp=>by
       obtain⟨g,k1,k2⟩:=hpv p hp
       obtain⟨q1,q2⟩:=cvs_rel (tev_rel h.frm p.2) k2
       exact⟨q2,by rw[←Array.length_toList,q1.len];exact g2 g k1⟩
      have hb:=bld_all (ev:=evF cfr) (k:=0) (z:=zeros z (ps.length*sz)) (by rw[c1,List.range_eq_range']) (by rw[zeros_len,Nat.zero_add]) hval
      rw[Nat.zero_mul,List.take_zero,List.nil_append] at hb
      have hrel:R2 (CVR K E) gs.flatten (ps.flatMap fun p=>(evF cfr p.2).cells.toList):=by
       clear hb hval hpv hgs hhs c1 c2 c3 c4
       induction ps generalizing gs with
       | nil=>
         cases gs with
         | nil=>exact .nil
         | cons=>simp at g1
       | cons p ps ih=>
         cases gs with
         | nil=>simp at g1
         | cons g gs=>
           rw[List.map_cons,List.map_cons] at g1
           injection g1 with e1 e2
           rw[List.flatten_cons,List.flatMap_cons]
           exact(cvs_rel (tev_rel h.frm p.2) e1).1.app (ih gs e2 fun g hg=>g2 g (by simp[hg]))
      obtain⟨E1,t1,m,t2,t3⟩:=h.fz (gs.flatten.flatMap CV.stamp)
      obtain⟨k1,k2,k3⟩:=allGz_rel (K':=K) (A:=Frz K E1) m.frz hrel hhs fun t b q1 q2=>m.fz t b q2 (by unfold fzG;rw[if_pos q1])
      have hne:hs≠ []:=fun e=>by
       have:gs.length=0:=by rw[←k2,e];rfl
       have h3:=congrArg List.length g1
       simp at h3;omega
      have hlen:hs.length=ps.length:=by
       have h3:=congrArg List.length g1
       rw[k2];simpa using h3.symm
      obtain⟨E2,s1,s2,s3⟩:=t1.row (e:=e) (kd:= .ex) (sz:=sz) (gs:=hs) ⟨hne,by rw[hlen,maxLen_eq];omega⟩ rfl (k3 sz g2) k1.svrs (tyB_ok c5)
      rw[hlen] at s3
      rw[fzF_eq,fzS_eq]
      exact⟨_,e, .ex, .sl ps.length ps.length,E2,by simp only[aop];rw[if_pos ⟨c3,c4⟩,hb];rfl,s1,s3,t2.trans s2⟩
     ·cases ht
    ·cases ht
   ·cases ht
 | _=>cases ht
theorem twop_sound(h:TR Z K0 sp W0 K st fr cfr E){x:WOp}{a:AV}(ht:twop fr st x=some (a,fr1,st1)) : ∃v K1 E1,wop K (evF cfr) x=some (v,K1)∧TR Z K0 sp W0 K1 st1 fr1 cfr E1∧AVR K1 E1 a v∧Stp K st E K1 st1 E1:=by
 cases x with
 | app e sz bytes s x=>exact tapp_sound h ht
 | st n x v=>
   simp only[twop] at ht
   split at ht
   ·rename_i o off us e1 e2
    split at ht
    ·rename_i ver e cs ho
     split at ht
     ·rename_i hc
      cases ht
      have hr:=tev_rel h.frm x
      rw[e1] at hr
      obtain⟨l,hl,hv⟩:=hr.ptr_inv
      obtain⟨q1,q2⟩:=cvs_rel (tev_rel h.frm v) e2
      obtain⟨b,os,k1,k2,k3⟩:=h.obs o _ _ _ ho
      rw[hl] at k1;cases k1
      obtain⟨c1,c2,c3,c4⟩:=hc
      obtain⟨t1,t2⟩:=h.sto hl ho (k3.set q1 (o:=off)) ⟨lks_set c3 c4,(by simp only[List.length_append,List.length_take,List.length_drop];omega),fun _ os0 h0=>by
       rw[k2] at h0;cases h0
       exact⟨setCells_length (by rw[q1.len,k3.len];omega),lkW_set c3 c4 k3.len.symm q1.len.symm (by omega)⟩⟩
      refine⟨undef,_,E,?_,t1, .bad,t2⟩
      have hsz:(evF cfr v).cells.size=n:=by rw[←Array.length_toList,q1.len];exact c1
      simp only[wop,hv,k2]
      rw[if_pos ⟨rfl,q2,hsz,by rw[k3.len];exact c2,CVRs.cells q1⟩]
     ·cases ht
    ·cases ht
   ·cases ht
 | _=>cases ht
end Can
end Go.Proofs.YticlaccbodpkeaaGreatDoor
end
section
namespace Go.Proofs.YticlaccbodpkeaaGreatDoor
namespace Can
open Go Go.RowKit
set_option linter.unusedSimpArgs false
set_option linter.unusedVariables false
variable {T:Tbl} {X:Pan} {Z:TP} {K0 K K' K'':CH} {sp:Option Nat} {W0:Nat→Prop} {st st' st'' st1:TS} {fr fr1:TFr} {cfr:Fr} {E E' E'':TE}
def E0 (sp:Option Nat)(hid:Nat→Prop):TE:=⟨fun _=>none,fun o=>if o=0 then sp else none,hid⟩
abbrev Self:=Option (TypeId×List SV)
def SelfR(K:CH)(E:TE)(sp:Option Nat):Self→Prop
 | none=>sp=none
 | some (e,ss)=>∃p os,sp=some p∧p<K.nx∧K.ob p= .cells os e .ex∧R2 (SVR K (Frz K E)) ss os
def AV.clean:AV→Prop
 | .ptr _ _=>False
 | .eptr _ _ _=>False
 | _=>True
def SJ (Z:TP)(K:CH)(sp:Option Nat)(W:Nat→Prop):Self→Prop
 | none=>∀b,¬W b
 | some (e,ss)=>JR Z [(0,e,ss.map .s)] K sp W
def PX (K0:CH)(sp:Option Nat)(W0:Nat→Prop)(R:Value→Prop)(v:Value)(K':CH):Prop:=K0.nx≤K'.nx∧(∀b,b<K0.nx→sp≠some b→¬W0 b→K'.ob b=K0.ob b)∧R v
structure HW(K K':CH)(sp:Option Nat)(hid W hid' W':Nat→Prop):Prop where
 up : ∀b,hid b→hid' b
 dn : ∀b,hid' b→b<K'.nx
 w : ∀b,W' b→hid' b∧(W b∨K.nx≤b)
def TC (Z:TP)(T:Tbl)(X:Pan)(f:FuncId)(args:List AV)(self:Self)(Q:AV→List SV→Prop)(R:Value→Prop):Prop:=
 ∀(K:CH) (sp:Option Nat) (hid W:Nat→Prop) (vs:List Value),(∀b,hid b→b<K.nx∧sp≠some b)→(∀b,W b→hid b)→(∀b,Z.N b→b<K.nx∧sp≠some b∧¬W b∧K.ob b=Z.M b)→R2 (AVR K (E0 sp hid)) args vs→SelfR K (E0 sp hid) sp self→SJ Z K sp W self→
  WxF T X f vs K (fun v K'=>K.nx≤K'.nx∧(∀b,b<K.nx→sp≠some b→¬W b→K'.ob b=K.ob b)∧∃hid' W' a s',HW K K' sp hid W hid' W'∧AVR K' (E0 sp hid') a v∧a.clean∧SelfR K' (E0 sp hid') sp (self.map fun p=>(p.1,s'))∧SJ Z K' sp W' (self.map fun p=>(p.1,s'))∧Q a s') (PX K sp W R)
theorem TC.mono{f:FuncId}{args:List AV}{self:Self}{Q Q':AV→List SV→Prop}{R R':Value→Prop}(h:TC Z T X f args self Q R)(hq : ∀a s,Q a s→Q' a s)(hr : ∀v,R v→R' v):TC Z T X f args self Q' R':=fun K sp hid W vs h1 h2 h3 h4 h5 h6=>(h K sp hid W vs h1 h2 h3 h4 h5 h6).mono (fun v K' ⟨k1,k2,hid',W',a,s',k3,k4,k5,k6,k7,k8⟩=>⟨k1,k2,hid',W',a,s',k3,k4,k5,k6,k7,hq _ _ k8⟩) fun v K' ⟨k1,k2,k3⟩=>⟨k1,k2,hr v k3⟩
theorem PX.up(h:TR Z K0 sp W0 K st fr cfr E){sp':Option Nat}{W:Nat→Prop}{R:Value→Prop}{v:Value}(hsp : ∀b,sp'=some b→∃o,E.ρ o=some b)(hw : ∀b,W b→W0 b∨K0.nx≤b)(hp:PX K sp' W R v K'):PX K0 sp W0 R v K':=by
 obtain⟨h1,h2,h3⟩:=hp
 refine⟨Nat.le_trans h.nx h1,fun b hb hs hwb=> ?_,h3⟩
 rw[h2 b (Nat.lt_of_lt_of_le hb h.nx) (fun q=> ?_) fun q=> ?_]
 ·exact h.keep b hb hs hwb
 ·obtain⟨o,ho⟩:=hsp b q
  rcases(h.rho o b ho).2.1 with g | g
  ·omega
  ·exact hs g
 ·rcases hw b q with g | g
  ·exact hwb g
  ·omega
theorem CVR.mv0{x:CV}{v:Value}(h:CVR K E x v)(h0 : ∀t,E.σ t=none)(hA : ∀b,Frz K E b→Frz K' E' b∧K'.ob b=K.ob b):CVR K' E' x v:=by
 cases h with
 | s h=>exact .s (h.mv hA)
 | own0=>exact .own0
 | own hne hb ho hk hg hs=>rw[h0] at hb;cases hb
 | bad h=>exact .bad h
theorem RVR.mv0{x:RV}{v:Value}(h:RVR K E x v)(h0 : ∀t,E.σ t=none)(hA : ∀b,Frz K E b→Frz K' E' b∧K'.ob b=K.ob b):RVR K' E' x v:=by
 cases h with
 | c h=>exact .c (h.mv0 h0 hA)
 | agg h=>exact .agg (h.mono fun _ _ q=>q.mv0 h0 hA)
theorem AVR.mv0{x:AV}{v:Value}(h:AVR K E x v)(hc:x.clean)(h0 : ∀t,E.σ t=none)(hA : ∀b,Frz K E b→Frz K' E' b∧K'.ob b=K.ob b):AVR K' E' x v:=by
 cases h with
 | r h=>exact .r (h.mv0 h0 hA)
 | ptr=>exact hc.elim
 | eptr=>exact hc.elim
 | tup h=>exact .tup (h.mono fun _ _ q=>q.mv0 h0 hA)
 | skip=>exact .skip
 | bad=>exact .bad
def RV.stamp:RV→List Nat
 | .c x=>x.stamp
 | .agg cs=>cs.flatMap CV.stamp
def AV.stamp:AV→List Nat
 | .r x=>x.stamp
 | _=> []
def RV.fz:RV→Option RV
 | .c x=>x.fz.map fun y=> .c (.s y)
 | .agg cs=>(allFz cs).map fun l=> .agg (l.map .s)
def selfOf:List AV→Option Nat
 | []=>none
 | .ptr o 0::_=>some o
 | _::r=>selfOf r
def argOf(so:Option Nat):AV→Option AV
 | .ptr o 0=>if so=some o then some (.ptr 0 0) else none
 | .r x=>x.fz.map .r
 | _=>none
def argsOf(so:Option Nat):List AV→Option (List AV)
 | []=>some []
 | a::r=>match argOf so a,argsOf so r with
   | some x,some xs=>some (x::xs)
   | _,_=>none
theorem rfz_rel{x:RV}{v:Value}(h:RVR K E x v){y:RV}(hy:x.fz=some y)(h1 : ∀b,Frz K E b→Frz K' E' b∧K'.ob b=K.ob b)(h2 : ∀t b,t∈x.stamp→E.σ t=some b→Frz K' E' b∧K'.ob b=K.ob b):RVR K' E' y v:=by
 cases h with
 | @c x v h=>
   simp only[RV.fz] at hy
   cases hx:x.fz with
   | none=>rw[hx] at hy;cases hy
   | some z=>rw[hx] at hy;cases hy;exact .c (.s (fz_rel h hx h1 h2))
 | @agg cs vs h=>
   simp only[RV.fz] at hy
   cases hx:allFz cs with
   | none=>rw[hx] at hy;cases hy
   | some z=>rw[hx] at hy;cases hy;exact .agg ((allFz_rel h1 h hx h2).map fun _ _ q=> .s q)
def hidC (E:TE)(l:List Nat)(so:Option Nat)(b:Nat):Prop:=E.hid b∨(∃t,t∉l∧E.σ t=some b)∨∃o,so≠some o∧E.ρ o=some b
theorem frz_call(h:TR Z K0 sp W0 K st fr cfr E){l:List Nat}{so:Option Nat}{sp':Option Nat}(hsp : ∀b,sp'=some b→∃o,so=some o∧E.ρ o=some b):(∀b,Frz K E b→Frz K (E0 sp' (hidC E l so)) b∧K.ob b=K.ob b)∧(∀t b,t∈l→E.σ t=some b→Frz K (E0 sp' (hidC E l so)) b∧K.ob b=K.ob b):=by
 constructor
 ·intro b hb
  refine⟨⟨hb.1,fun hh=> ?_,(fun _ q=>(by cases q)),fun o q=> ?_⟩,rfl⟩
  ·rcases hh with hh | ⟨t,_,ht⟩ | ⟨o,_,ho⟩
   ·exact hb.2.1 hh
   ·exact hb.2.2.1 t ht
   ·exact hb.2.2.2 o ho
  ·have q:(if o=0 then sp' else none)=some b:=q
   split at q
   ·obtain⟨o',_,k⟩:=hsp b q;exact hb.2.2.2 o' k
   ·cases q
 ·intro t b hl hb
  obtain⟨k1,k2,k3⟩:=h.sig t b hb
  refine⟨⟨k2,fun hh=> ?_,(fun _ q=>(by cases q)),fun o q=> ?_⟩,rfl⟩
  ·rcases hh with hh | ⟨t',q1,q2⟩ | ⟨o,_,ho⟩
   ·exact(h.hid b hh).2.1 t hb
   ·exact q1 (h.inj t t' b hb q2▸hl)
   ·exact h.sr t o b hb ho
  ·have q:(if o=0 then sp' else none)=some b:=q
   split at q
   ·obtain⟨o',_,k⟩:=hsp b q;exact h.sr t o' b hb k
   ·cases q
theorem args_rel{sp':Option Nat}{hid':Nat→Prop}{l:List Nat}{so:Option Nat}(hsp : ∀o b,so=some o→E.ρ o=some b→sp'=some b)(h1 : ∀b,Frz K E b→Frz K (E0 sp' hid') b∧K.ob b=K.ob b)(h2 : ∀t b,t∈l→E.σ t=some b→Frz K (E0 sp' hid') b∧K.ob b=K.ob b) : ∀ {az bz:List AV} {vs:List Value},R2 (AVR K E) az vs→argsOf so az=some bz→(∀t∈az.flatMap AV.stamp,t∈l)→R2 (AVR K (E0 sp' hid')) bz vs
 | _,bz,_, .nil,h,_=>by cases h;exact .nil
 | a::az,bz,v::vs, .cons ha ht,h,hl=>by
   simp only[argsOf] at h
   split at h
   ·rename_i x xs e1 e2
    cases h
    refine .cons ?_ (args_rel hsp h1 h2 ht e2 fun t q=>hl t (by rw[List.flatMap_cons];exact List.mem_append_right _ q))
    have hl2 : ∀t∈a.stamp,t∈l:=fun t q=>hl t (by rw[List.flatMap_cons];exact List.mem_append_left _ q)
    unfold argOf at e1
    split at e1
    ·rename_i o
     split at e1
     ·rename_i hso
      cases e1
      obtain⟨b,q1,rfl⟩:=ha.ptr_inv
      exact .ptr (o:=0) (by show(if 0=0 then sp' else none)=some b;rw[if_pos rfl];exact hsp o b hso q1)
     ·cases e1
    ·rename_i y
     cases hy:y.fz with
     | none=>rw[hy] at e1;cases e1
     | some z=>
       rw[hy] at e1;cases e1
       cases ha with
       | r ha=>exact .r (rfz_rel ha hy h1 fun t b q=>h2 t b (hl2 t q))
    ·cases e1
   ·cases h
theorem TR.grow(h:TR Z K0 sp W0 K st fr cfr E)(hnx:K.nx≤K'.nx)(hk : ∀b,b<K.nx→K'.ob b=K.ob b):TR Z K0 sp W0 K' st fr cfr E∧Mv K E (fun _=> .keep) K' E:=by
 have m:Mv K E (fun _=> .keep) K' E:=⟨fun b hb=>⟨⟨Nat.lt_of_lt_of_le hb.1 hnx,hb.2⟩,hk b hb.1⟩,fun t b q _=>⟨q,hk b (h.sig t b q).2.1⟩,(fun _ _ _ q=>(by cases q)),fun _ _ q=>q⟩
 have:=h.step m (nt':=st.nt) hnx (fun b hb _=>hk b hb) rfl (fun t b q=>⟨(h.sig t b q).1,Nat.lt_of_lt_of_le (h.sig t b q).2.1 hnx,(h.sig t b q).2.2,fun o=>h.sr t o b q,fun hh=>(h.hid b hh).2.1 t q⟩) h.inj rfl
 rw[TFr.act_keep,TS.act_keep] at this
 exact⟨this,m⟩
structure TD where
 node:List FuncId
structure TDOk(T:Tbl)(D:TD):Prop where
 node : ∀f,D.node.elem f=true→∀(K:CH) (k l:Int) (a:Option Addr) (n c:Nat),WpF T f [.int .i64 k, .int .i64 l, .slice a n c] K fun v K'=>v= .agg #[.int .i64 k, .int .i64 l, .string ⟨⟨[]⟩⟩, .int .i64 0, .slice a n c]∧∃o,K'=K.new o
def slV:CV→Bool
 | .own _ _ _ _=>true
 | .s (.row _ _)=>true
 | .s (.sc (.slice _ _ _))=>true
 | _=>false
def nodeC(avs:List AV)(fr:TFr)(st:TS)(k:AV→TFr→TS→Prop):Prop:=match avs with
 | [.r (.c (.s (.sc (.int .i64 a)))), .r (.c (.s (.sc (.int .i64 b)))), .r (.c x)]=>match slV x with
   | true=>k (.r (.agg [cS (.int .i64 a),cS (.int .i64 b),cS (.string ⟨⟨[]⟩⟩),cS (.int .i64 0),x])) fr st
   | false=>False
 | _=>False
def slOk (o:Nat)(cs:List CV):Bool:=match o with
 | 0=>true
 | _=>(lks cs).isEmpty
def callT0(Z:TP)(T:Tbl)(X:Pan)(f:FuncId)(avs:List AV)(fr:TFr)(st:TS)(k:AV→TFr→TS→Prop)(R:Value→Prop):Prop:=
 match argsOf (selfOf avs) avs with
 | none=>False
 | some az=>match selfOf avs with
   | none=>TC Z T X f az none (fun a _=>k a (fzF (avs.flatMap AV.stamp) fr) ⟨st.nt,(fzS (avs.flatMap AV.stamp) st).obs⟩) R
   | some o=>match st.obs[o]? with
     | some (v,e,cs)=>match allFz cs,slOk o cs with
       | some ss,true=>TC Z T X f az (some (e,ss)) (fun a s'=>k a (fzF (avs.flatMap AV.stamp++cs.flatMap CV.stamp) fr) ⟨st.nt,(fzS (avs.flatMap AV.stamp++cs.flatMap CV.stamp) st).obs.set o (v+1,e,s'.map .s)⟩) R
       | _,_=>False
     | none=>False
def fcNs:List Nat→(List Nat→Prop)→Prop
 | [],k=>k []
 | n::l,k=>match n with
   | 0=>fcNs l fun l=>k (0::l)
   | n+1=>fcNs l fun l=>k ((n+1)::l)
theorem fcNs_eq : ∀ {l:List Nat} {k:List Nat→Prop},fcNs l k=k l
 | [],_=>rfl
 | 0::l,k=>by simp only[fcNs,fcNs_eq]
 | (n+1)::l,k=>by simp only[fcNs,fcNs_eq]
def fzK (l:List Nat)(fr:TFr)(st:TS)(k:TFr→TS→Prop):Prop:=fcNs l fun l=>match l with
 | []=>k fr st
 | a::l=>k (fr.act (fzG (a::l))) (st.act (fzG (a::l)))
theorem fzK_eq{l:List Nat}{fr:TFr}{st:TS}{k:TFr→TS→Prop}:fzK l fr st k=k (fzF l fr) (fzS l st):=by
 unfold fzK
 rw[fcNs_eq]
 cases l<;>rfl
def callT(Z:TP)(T:Tbl)(X:Pan)(f:FuncId)(avs:List AV)(fr:TFr)(st:TS)(k:AV→TFr→TS→Prop)(R:Value→Prop):Prop:=
 match argsOf (selfOf avs) avs with
 | none=>False
 | some az=>match selfOf avs with
   | none=>TC Z T X f az none (fun a _=>fzK (avs.flatMap AV.stamp) fr st fun fr s=>k a fr ⟨st.nt,s.obs⟩) R
   | some o=>match st.obs[o]? with
     | some (v,e,cs)=>match allFz cs,slOk o cs with
       | some ss,true=>TC Z T X f az (some (e,ss)) (fun a s'=>fzK (avs.flatMap AV.stamp++cs.flatMap CV.stamp) fr st fun fr s=>k a fr ⟨st.nt,s.obs.set o (v+1,e,s'.map .s)⟩) R
       | _,_=>False
     | none=>False
theorem callT_eq{Z:TP}{T:Tbl}{X:Pan}{f:FuncId}{avs:List AV}{fr:TFr}{st:TS}{k:AV→TFr→TS→Prop}{R:Value→Prop}:callT Z T X f avs fr st k R=callT0 Z T X f avs fr st k R:=by
 unfold callT callT0
 simp only[fzK_eq]
theorem r2_map{fr:TFr}(hf : ∀t,AVR K E (fr t) (cfr t)) : ∀(l:List Operand),R2 (AVR K E) (l.map (tev fr)) (l.map (evF cfr))
 | []=> .nil
 | x::l=> .cons (tev_rel hf x) (r2_map hf l)
theorem nodeC_sound{D:TD}(hD:TDOk T D)(h:TR Z K0 sp W0 K st fr cfr E){f:FuncId}(hf:D.node.elem f=true){args:List Operand}{k:AV→TFr→TS→Prop}(hk:nodeC (args.map (tev fr)) fr st k):WpF T f (args.map (evF cfr)) K fun v K1=>∃a fr1 st1 E1,TR Z K0 sp W0 K1 st1 fr1 cfr E1∧AVR K1 E1 a v∧Stp K st E K1 st1 E1∧k a fr1 st1:=by
 have hr:=r2_map h.frm args
 obtain⟨avs,ha⟩ : ∃avs,args.map (tev fr)=avs:=⟨_,rfl⟩
 obtain⟨vs,hv⟩ : ∃vs,args.map (evF cfr)=vs:=⟨_,rfl⟩
 rw[ha] at hk hr
 rw[hv] at hr⊢
 unfold nodeC at hk
 split at hk
 ·rename_i a b x
  cases hx:slV x with
  | false=>rw[hx] at hk;exact hk.elim
  | true=>
  rw[hx] at hk
  cases hr with
  | cons h1 hr=>cases hr with
    | cons h2 hr=>cases hr with
      | cons h3 hr=>
        cases hr
        obtain rfl:=raw_rel h1 (u:= .int .i64 a) rfl
        obtain rfl:=raw_rel h2 (u:= .int .i64 b) rfl
        rename_i w3
        cases h3 with
        | r h3=>cases h3 with
          | c h3=>
            have : ∃q n c,w3=Value.slice q n c:=by
             cases h3 with
             | s h3=>
               cases h3 with
               | sc h3=>
                 cases w3 with
                 | slice q n c=>exact⟨q,n,c,rfl⟩
                 | _=>cases hx
               | row0=>exact⟨_,_,_,rfl⟩
               | row=>exact⟨_,_,_,rfl⟩
               | lk=>cases hx
               | sub0=>cases hx
               | sub=>cases hx
             | own0=>exact⟨_,_,_,rfl⟩
             | own=>exact⟨_,_,_,rfl⟩
             | bad=>cases hx
            obtain⟨q,n,c,rfl⟩:=this
            refine(hD.node f hf K a b q n c).mono fun v K1 ⟨e1,o,e2⟩=> ?_
            subst e1 e2
            obtain⟨t1,m⟩:=h.grow (K':=K.new o) (Nat.le_succ _) fun b hb=>new_ne (by omega)
            have h3:=h3.mv m
            rw[CV.act_keep] at h3
            exact⟨_,_,_,E,t1, .r (.agg (vs:= [_,_,_,_,_]) (.cons (.s (.sc rfl)) (.cons (.s (.sc rfl)) (.cons (.s (.sc rfl)) (.cons (.s (.sc rfl)) (.cons h3 .nil)))))),⟨fun _ h=>h,fun _ _ h=>h,fun o v e cs h'=>⟨v,cs,h',Nat.le_refl _,fun _ b hb=>new_ne (by have:=(h.rho o b hb).1;omega)⟩⟩,hk⟩
 ·exact hk.elim
theorem allFz_len : ∀ {cs:List CV} {ss:List SV},allFz cs=some ss→ss.length=cs.length
 | [],ss,h=>by cases h;rfl
 | x::cs,ss,h=>by
   simp only[allFz] at h
   split at h
   ·rename_i y ys e1 e2
    cases h
    simp[allFz_len e2]
   ·cases h
theorem lks_fz : ∀ {cs:List CV} {ss:List SV},allFz cs=some ss→lks (ss.map .s)=lks cs∧∀vs,lkW (ss.map .s) vs=lkW cs vs
 | [],ss,h=>by cases h;exact⟨rfl,fun _=>rfl⟩
 | x::cs,ss,h=>by
   simp only[allFz] at h
   split at h
   ·rename_i y ys e1 e2
    cases h
    obtain⟨i1,i2⟩:=lks_fz e2
    rw[List.map_cons]
    cases x with
    | s z=>
      cases e1
      refine⟨by rw[lks_cons,i1,←lks_cons],fun vs=> ?_⟩
      cases vs with
      | nil=>cases y<;>rfl
      | cons v vs=>rw[lkW_cons,i2,←lkW_cons]
    | own t e sz gs=>
      cases e1
      refine⟨i1,fun vs=> ?_⟩
      cases vs with
      | nil=>rfl
      | cons v vs=>exact i2 vs
    | bad=>cases e1
   ·cases h
theorem JR.hd{v v':Nat}{e:TypeId}{cs:List CV}{r r':List (Nat×TypeId×List CV)}{W:Nat→Prop}(h:JR Z ((v,e,cs)::r) K sp W):JR Z ((v',e,cs)::r') K sp W:=h
theorem TR.call(h:TR Z K0 sp W0 K st fr cfr E){W W':Nat→Prop}{o p v:Nat}{e:TypeId}{cs us:List CV}{os':List Value}(hρ:E.ρ o=some p)(ho:st.obs[o]? = some (v,e,cs))(hnx:K.nx≤K'.nx)(hk : ∀b,b<K.nx→b≠p→¬W b→K'.ob b=K.ob b)(hp:K'.ob p= .cells os' e .ex)(hw : ∀b,W b→E.hid b∧(W0 b∨K0.nx≤b))(hN : ∀b,W' b→E.hid b∨(K.nx≤b∧b<K'.nx))(hN0 : ∀b,W' b→W0 b∨K0.nx≤b)(hs:R2 (CVR K' ⟨E.σ,E.ρ,fun b=>E.hid b∨W' b⟩) us os')(hJ : ∃W2:Nat→Prop,(∀b,W2 b→(E.hid b∨W' b)∧(W0 b∨K0.nx≤b))∧JR Z (st.obs.set o (v+1,e,us)) K' (E.ρ 0) W2) :
 TR Z K0 sp W0 K' ⟨st.nt,st.obs.set o (v+1,e,us)⟩ fr cfr ⟨E.σ,E.ρ,fun b=>E.hid b∨W' b⟩∧Stp K st E K' ⟨st.nt,st.obs.set o (v+1,e,us)⟩ ⟨E.σ,E.ρ,fun b=>E.hid b∨W' b⟩:=by
 obtain⟨r1,r2,r3⟩:=h.rho o p hρ
 have hob : ∀b,b<K.nx→¬E.hid b→b≠p→K'.ob b=K.ob b:=fun b hb hh hp=>hk b hb hp fun q=>hh (hw b q).1
 have m:Mv K E (fun _=> .keep) K' ⟨E.σ,E.ρ,fun b=>E.hid b∨W' b⟩:=by
  refine⟨fun b hb=>⟨⟨Nat.lt_of_lt_of_le hb.1 hnx,fun q=> ?_,hb.2.2⟩,hob b hb.1 hb.2.1 fun e=>hb.2.2.2 o (e▸hρ)⟩,fun t b q _=>⟨q,hob b (h.sig t b q).2.1 (fun hh=>(h.hid b hh).2.1 t q) fun e=>h.sr t o b q (e▸hρ)⟩,(fun _ _ _ q=>(by cases q)),fun _ _ q=>q⟩
  rcases q with q | q
  ·exact hb.2.1 q
  ·rcases hN b q with g | g
   ·exact hb.2.1 g
   ·have:=hb.1;omega
 have hmv : ∀ {x v},AVR K E x v→AVR K' ⟨E.σ,E.ρ,fun b=>E.hid b∨W' b⟩ x v:=fun q=>by
  have:=q.mv m;rwa [AV.act_keep] at this
 have hcv : ∀x v,CVR K E x v→CVR K' ⟨E.σ,E.ρ,fun b=>E.hid b∨W' b⟩ x v:=fun x v q=>by
  have:=q.mv m;rwa [CV.act_keep] at this
 have hnw : ∀b,b<K0.nx→¬W0 b→¬W b:=fun b hb hw0 q=>by
  rcases(hw b q).2 with g | g
  ·exact hw0 g
  ·omega
 refine⟨⟨Nat.le_trans h.nx hnx,fun b hb hsp hw0=> ?_,fun b hb=> ?_,fun b hb=> ?_,hJ,fun t b q=> ?_,h.inj,h.sr,fun o' b q=> ?_,h.rinj,fun o' v' e' cs' q=> ?_,fun t=>hmv (h.frm t)⟩,⟨fun _ q=> .inl q,fun _ _ q=>q,fun o' v' e' cs' q=> ?_⟩⟩
 ·refine(hk b (Nat.lt_of_lt_of_le hb h.nx) (fun e=> ?_) (hnw b hb hw0)).trans (h.keep b hb hsp hw0)
  subst e
  rcases r2 with r2 | r2
  ·omega
  ·exact hsp r2
 ·obtain⟨k1,k2,k3,k4⟩:=h.prot b hb
  refine⟨k1,k2,k3,(hk b (Nat.lt_of_lt_of_le k1 h.nx) (fun e=> ?_) (hnw b k1 k3)).trans k4⟩
  subst e
  rcases r2 with r2 | r2
  ·omega
  ·exact k2 r2
 ·have hb':E.hid b∨(K.nx≤b∧b<K'.nx):=hb.elim .inl (hN b)
  rcases hb' with hb | ⟨hb,hb2⟩
  ·obtain⟨k1,k2,k3⟩:=h.hid b hb
   exact⟨Nat.lt_of_lt_of_le k1 hnx,k2,k3⟩
  ·exact⟨hb2,fun t q=>by have:=(h.sig t b q).2.1;omega,fun o q=>by have:=(h.rho o b q).1;omega⟩
 ·obtain⟨k1,k2,k3⟩:=h.sig t b q
  exact⟨k1,Nat.lt_of_lt_of_le k2 hnx,k3⟩
 ·obtain⟨k1,k2,k3⟩:=h.rho o' b q
  exact⟨Nat.lt_of_lt_of_le k1 hnx,k2,by show o'<(st.obs.set o _).length;rw[List.length_set];exact k3⟩
 ·have q:(st.obs.set o (v+1,e,us))[o']? = some (v',e',cs'):=q
  by_cases ho':o=o'
  ·subst ho'
   rw[List.getElem?_set_self r3] at q
   cases q
   exact⟨p,os',hρ,hp,hs⟩
  ·rw[List.getElem?_set_ne ho'] at q
   obtain⟨l,os2,k1,k2,k3⟩:=h.obs o' v' e' cs' q
   exact⟨l,os2,k1,(hob l (h.rho o' l k1).1 (fun hh=>(h.hid l hh).2.2 o' k1) fun e=>ho' (h.rinj o o' p hρ (e▸k1))).trans k2,k3.mono hcv⟩
 ·by_cases ho':o=o'
  ·subst ho'
   rw[ho] at q;cases q
   exact⟨v+1,us,List.getElem?_set_self r3,Nat.le_succ _,fun e=>by omega⟩
  ·refine⟨v',cs',(List.getElem?_set_ne ho').trans q,Nat.le_refl _,fun _ l hl=>hob l (h.rho o' l hl).1 (fun hh=>(h.hid l hh).2.2 o' hl) fun e=>ho' (h.rinj o o' p hρ (e▸hl))⟩
theorem slOk_or{o:Nat}{cs:List CV}(h:slOk o cs=true):o=0∨lks cs= []:=by
 cases o with
 | zero=>exact .inl rfl
 | succ o=>exact .inr (List.isEmpty_iff.1 h)
theorem callT_sound(h:TR Z K0 sp W0 K st fr cfr E){f:FuncId}{args:List Operand}{k:AV→TFr→TS→Prop}{R:Value→Prop}(hk:callT Z T X f (args.map (tev fr)) fr st k R):WxF T X f (args.map (evF cfr)) K (fun v K1=>∃a fr1 st1 E1,TR Z K0 sp W0 K1 st1 fr1 cfr E1∧AVR K1 E1 a v∧Stp K st E K1 st1 E1∧k a fr1 st1) (PX K0 sp W0 R):=by
 have hr:=r2_map h.frm args
 obtain⟨avs,ha⟩ : ∃avs,args.map (tev fr)=avs:=⟨_,rfl⟩
 obtain⟨vs,hv⟩ : ∃vs,args.map (evF cfr)=vs:=⟨_,rfl⟩
 rw[ha] at hk hr
 rw[hv] at hr⊢
 rw[callT_eq] at hk
 unfold callT0 at hk
 split at hk
 ·exact hk.elim
 ·rename_i az haz
  split at hk
  ·rename_i hso
   rw[hso] at haz
   obtain⟨f1,f2⟩:=frz_call h (l:=avs.flatMap AV.stamp) (so:=none) (sp':=none) (fun _ q=>(by cases q))
   have hz:=args_rel (hid':=hidC E (avs.flatMap AV.stamp) none) (fun o b q=>(by cases q)) f1 f2 hr haz fun t q=>q
   refine(hk K none _ (fun _=>False) vs (fun b hb=>⟨?_,(fun q=>(by cases q))⟩) (fun _ h=>h.elim) (fun b hb=>⟨Nat.lt_of_lt_of_le (h.prot b hb).1 h.nx,(fun q=>(by cases q)),id,(h.prot b hb).2.2.2⟩) hz rfl fun _ h=>h).mono (fun v K1 ⟨k1,k2,hid',W',a,s',hW,k3,k4,k5,k6,k7⟩=> ?_) fun v K1 hp=>hp.up h (fun b q=>(by cases q)) fun b q=>q.elim
   ·rcases hb with hb | ⟨t,_,ht⟩ | ⟨o,_,ho⟩
    ·exact(h.hid b hb).1
    ·exact(h.sig t b ht).2.1
    ·exact(h.rho o b ho).1
   ·obtain⟨E1,t1,m,t2,rfl⟩:=h.fz (avs.flatMap AV.stamp)
    obtain⟨u1,m1⟩:=t1.grow k1 fun b hb=>k2 b hb (fun q=>(by cases q)) id
    rw[fzF_eq,fzS_eq] at k7
    refine⟨a,_,_,_,u1,k3.mv0 k4 (fun _=>rfl) fun b hb=>⟨⟨hb.1,fun hh=>hb.2.1 (hW.up b (.inl hh)),fun t q=> ?_,fun o q=>hb.2.1 (hW.up b (.inr (.inr ⟨o,(fun q=>(by cases q)),q⟩)))⟩,rfl⟩,⟨fun _ q=>q,fun o b q=>q,fun o v e cs q=> ?_⟩,k7⟩
    ·have q:(if t∈avs.flatMap AV.stamp then none else E.σ t)=some b:=q
     split at q
     ·cases q
     ·rename_i hn;exact hb.2.1 (hW.up b (.inr (.inl ⟨t,hn,q⟩)))
    ·obtain⟨v',cs',g1,g2,g3⟩:=t2.ver o v e cs q
     exact⟨v',cs',g1,g2,fun e b hb=>(k2 b (h.rho o b hb).1 (fun q=>(by cases q)) id).trans (g3 e b hb)⟩
  ·rename_i o hso
   split at hk
   ·rename_i v e cs hob
    split at hk
    ·rename_i ss hss hsl
     rw[hso] at haz
     obtain⟨p,os,o1,o2,o3⟩:=h.obs o v e cs hob
     obtain⟨f1,f2⟩:=frz_call h (l:=avs.flatMap AV.stamp++cs.flatMap CV.stamp) (so:=some o) (sp':=some p) (fun b q=>⟨o,rfl,q▸o1⟩)
     have hz:=args_rel (hid':=hidC E (avs.flatMap AV.stamp++cs.flatMap CV.stamp) (some o)) (fun o' b q1 q2=>by cases q1;rw[←o1,q2]) f1 f2 hr haz fun t q=>List.mem_append_left _ q
     have hself:=allFz_rel f1 o3 hss fun t b q1 q2=>f2 t b (List.mem_append_right _ q1) q2
     have hpn:p<K.nx:=(h.rho o p o1).1
     obtain⟨lk1,lk2⟩:=lks_fz hss
     obtain⟨Wc,w1,w2⟩:=h.wr
     obtain⟨W,hw,hSJ,hor⟩ : ∃W:Nat→Prop,(∀b,W b→E.hid b∧(W0 b∨K0.nx≤b))∧SJ Z K (some p) W (some (e,ss))∧(o=0∨∀b,¬W b):=by
      by_cases hl:lks cs= []
      ·exact⟨fun _=>False,fun _ h=>h.elim, .inl ⟨lk1.trans hl,fun _ h=>h⟩, .inr fun _ h=>h⟩
      ·have h0:=(slOk_or hsl).resolve_right hl
       subst h0
       refine⟨Wc,w1,?_, .inl rfl⟩
       match hst:st.obs,w2,hob with
       | (v',e',cs')::r,w2,hob=>
         cases hob
         rcases w2 with ⟨g,_⟩ | ⟨_,p',os2,g1,g2,g3,g4⟩
         ·exact absurd g hl
         ·rw[o1] at g1;cases g1
          exact .inr ⟨by rw[lk1];exact hl,p,os2,rfl,g2,by rw[g3,←allFz_len hss,List.length_map],by rw[lk1,lk2];exact g4⟩
     refine(hk K (some p) _ W vs (fun b hb=>⟨?_,fun q=> ?_⟩) (fun b hb=> .inl (hw b hb).1) (fun b hb=>⟨Nat.lt_of_lt_of_le (h.prot b hb).1 h.nx,fun q=> ?_,fun q=> ?_,(h.prot b hb).2.2.2⟩) hz ⟨p,os,rfl,hpn,o2,hself⟩ hSJ).mono (fun v1 K1 ⟨k1,k2,hid',W',a,s',hW,k3,k4,k5,k6,k7⟩=> ?_) fun v K1 hp=>hp.up h (fun b q=>⟨o,by cases q;exact o1⟩) fun b q=>(hw b q).2
     ·rcases hb with hb | ⟨t,_,ht⟩ | ⟨o,_,ho⟩
      ·exact(h.hid b hb).1
      ·exact(h.sig t b ht).2.1
      ·exact(h.rho o b ho).1
     ·cases q
      rcases hb with hb | ⟨t,_,ht⟩ | ⟨o',q1,ho⟩
      ·exact(h.hid p hb).2.2 o o1
      ·exact h.sr t o p ht o1
      ·exact q1 (by rw[h.rinj o o' p o1 ho])
     ·cases q
      obtain⟨g1,g2,_⟩:=h.prot p hb
      rcases(h.rho o p o1).2.1 with g | g
      ·omega
      ·exact g2 g
     ·obtain⟨g1,_,g3,_⟩:=h.prot b hb
      rcases(hw b q).2 with g | g
      ·exact g3 g
      ·omega
     ·obtain⟨p',os',s1,s2,s3,s4⟩:=k5
      cases s1
      obtain⟨E1,t1,m,t2,rfl⟩:=h.fz (avs.flatMap AV.stamp++cs.flatMap CV.stamp)
      have hfz : ∀b,Frz K1 (E0 (some p) hid') b→b≠p∧¬(E.hid b∨W' b)∧(∀t,(if t∈avs.flatMap AV.stamp++cs.flatMap CV.stamp then none else E.σ t)≠some b)∧(∀o,E.ρ o≠some b)∧b<K1.nx:=fun b hb=>by
       have hbp:b≠p:=fun e=>hb.2.2.2 0 (by show(if 0=0 then some p else none)=some b;rw[if_pos rfl,e])
       refine⟨hbp,fun hh=>hb.2.1 ?_,fun t q=> ?_,fun o' q=> ?_,hb.1⟩
       ·rcases hh with hh | hh
        ·exact hW.up b (.inl hh)
        ·exact(hW.w b hh).1
       ·split at q
        ·cases q
        ·rename_i hn;exact hb.2.1 (hW.up b (.inr (.inl ⟨t,hn,q⟩)))
       ·by_cases ho:o'=o
        ·subst ho;rw[o1] at q;cases q;exact hbp rfl
        ·exact hb.2.1 (hW.up b (.inr (.inr ⟨o',fun q=>ho (by cases q;rfl),q⟩)))
      have hN : ∀b,W' b→E.hid b∨(K.nx≤b∧b<K1.nx):=fun b q=>by
       obtain⟨q1,q2⟩:=hW.w b q
       rcases q2 with q2 | q2
       ·exact .inl (hw b q2).1
       ·exact .inr ⟨q2,hW.dn b q1⟩
      have hN0 : ∀b,W' b→W0 b∨K0.nx≤b:=fun b q=>by
       rcases(hW.w b q).2 with q2 | q2
       ·exact(hw b q2).2
       ·exact .inr (Nat.le_trans h.nx q2)
      have hob1:(⟨st.nt,(st.act (fzG (avs.flatMap AV.stamp++cs.flatMap CV.stamp))).obs⟩:TS).obs[o]? = some (v,e,cs.map (CV.act (fzG (avs.flatMap AV.stamp++cs.flatMap CV.stamp)))):=by
       show(st.obs.map _)[o]? = _
       rw[List.getElem?_map,hob];rfl
      have ho3:o<(st.act (fzG (avs.flatMap AV.stamp++cs.flatMap CV.stamp))).obs.length:=(List.getElem?_eq_some_iff.1 hob1).1
      have hk2 : ∀b,b<K.nx→b≠p→¬W b→K1.ob b=K.ob b:=fun b hb hbp hwb=>k2 b hb (fun q=>hbp (by cases q;rfl)) hwb
      obtain⟨u1,u2⟩:=t1.call (W:=W) (W':=W') (us:=s'.map .s) (os':=os') (p:=p) o1 hob1 k1 hk2 s3 hw hN hN0 (s4.map fun x v q=> .s (q.mv fun b hb=>by
       obtain⟨g1,g2,g3,g4,g5⟩:=hfz b hb
       exact⟨⟨g5,g2,g3,g4⟩,rfl⟩)) (by
       by_cases h0:o=0
       ·subst h0
        refine⟨W',fun b q=>⟨.inr q,hN0 b q⟩,?_⟩
        show JR Z ((st.act (fzG (avs.flatMap AV.stamp++cs.flatMap CV.stamp))).obs.set 0 (v+1,e,s'.map .s)) K1 (E.ρ 0) W'
        rw[o1]
        match hst:(st.act (fzG (avs.flatMap AV.stamp++cs.flatMap CV.stamp))).obs,ho3 with
        | _::r,_=>exact JR.hd (v:=0) (r:= []) k6
       ·have hW0:=hor.resolve_left h0
        obtain⟨W2,g1,g2⟩:=t1.wr
        refine⟨W2,fun b q=>⟨.inl (g1 b q).1,(g1 b q).2⟩,JR.mv g2 (by rw[List.length_set]) (fun v' e' cs' q=> ?_) (fun b q=> ?_) k1⟩
        ·refine⟨v',cs',(List.getElem?_set_ne h0).trans q,rfl,rfl,fun _ p0 os0 q1 q2=>⟨os0,?_,rfl,rfl⟩⟩
         have q1:E.ρ 0=some p0:=q1
         exact(hk2 p0 (h.rho 0 p0 q1).1 (fun e=>h0 (h.rinj o 0 p o1 (e▸q1))) (hW0 p0)).trans q2
        ·have hh:=h.hid b (g1 b q).1
         exact hk2 b hh.1 (fun e=>hh.2.2 o (e▸o1)) (hW0 b))
      rw[fzF_eq,fzS_eq] at k7
      refine⟨a,_,_,_,u1,k3.mv0 k4 (fun _=>rfl) fun b hb=> ?_,⟨fun b q=> .inl q,fun o b q=>q,fun o' v' e' cs' q=> ?_⟩,k7⟩
      ·obtain⟨g1,g2,g3,g4,g5⟩:=hfz b hb
       exact⟨⟨g5,g2,g3,g4⟩,rfl⟩
      ·obtain⟨v2,cs2,g1,g2,g3⟩:=t2.ver o' v' e' cs' q
       obtain⟨v3,cs3,g4,g5,g6⟩:=u2.ver o' v2 e' cs2 g1
       exact⟨v3,cs3,g4,Nat.le_trans g2 g5,fun e b hb=>g6 (by omega) b hb⟩
    ·exact hk.elim
   ·exact hk.elim
end Can
end Go.Proofs.YticlaccbodpkeaaGreatDoor
end
section
namespace Go.Proofs.YticlaccbodpkeaaGreatDoor
namespace Can
open Go Go.RowKit
set_option linter.unusedSimpArgs false
set_option linter.unusedVariables false
def putA (fr:TFr):Option Nat→AV→TFr
 | none,_=>fr
 | some d,a=>fun t=>match Nat.beq t d with
   | true=>a
   | false=>fr t
theorem putA_if{fr:TFr}{d t:Nat}{a:AV}:putA fr (some d) a t=if t=d then a else fr t:=by
 show(match Nat.beq t d with | true=>a | false=>fr t)=_
 split
 ·rename_i h;rw[if_pos (Nat.eq_of_beq_eq_true h)]
 ·rename_i h;rw[if_neg (Nat.ne_of_beq_eq_false h)]
def ifT (b:Bool)(yes no:Prop):Prop:=match b with
 | true=>yes
 | false=>no
def optT (o:Option AV)(k:AV→Prop):Prop:=match o with
 | some a=>k a
 | none=>False
def optS (o:Option (AV×TFr×TS))(k:AV→TFr→TS→Prop):Prop:=match o with
 | some (a,fr,st)=>k a fr st
 | none=>False
def tpopK(fr:TFr)(k:AV→Prop):POp→Prop
 | .idx x i sz=>match (tev fr x).rowIx,(tev fr i).raw with
   | some (t,z,gs),some (.int _ j)=>srcOk sz z∧∃(n:Nat) (g:List SV),j=(n:Int)∧gs[n]? = some g∧k (.eptr t g 0)
   | _,_=>False
 | .len x=>match tev fr x with
   | .r (.c (.s (.row _ gs)))=>gs.length≤maxLen→k (iS gs.length)
   | .r (.c (.own _ _ _ gs))=>gs.length≤maxLen→k (iS gs.length)
   | .r (.c (.s (.sub _ gs)))=>gs.length≤maxLen→k (iS gs.length)
   | a=>optT ((lenOf a).map fun n=>iS n) k
 | x=>optT (tpop fr x) k
def taopK(fr:TFr)(st:TS)(k:AV→TFr→TS→Prop):AOp→Prop
 | .bsl e sz n z ps=>match Nat.ble 1 n&&(Nat.ble (n*sz) 16777216&&(Nat.ble n 16777216&&tyB e sz)),grps sz (ps.map fun p=>(tev fr p.2).cvs) with
   | true,some gs=>match allGz gs with
     | some hs=>ps.map (·.1)=List.range n∧fzK (gs.flatten.flatMap CV.stamp) fr st fun fr s=>k (.r (.c (.own st.nt e sz hs))) fr ⟨st.nt+1,s.obs⟩
     | none=>False
   | _,_=>False
 | x=>optS (taop fr st x) k
theorem taopK_ok{fr:TFr}{st:TS}{k:AV→TFr→TS→Prop}{x:AOp}(h:taopK fr st k x) : ∃a fr1 st1,taop fr st x=some (a,fr1,st1)∧k a fr1 st1:=by
 unfold taopK at h
 split at h
 ·rename_i e sz n z ps
  split at h
  ·rename_i gs h1 h2
   split at h
   ·rename_i hs h3
    obtain⟨h4,h5⟩:=h
    simp only[Bool.and_eq_true] at h1
    rw[fzK_eq] at h5
    refine⟨_,_,_,?_,h5⟩
    simp only[taop,h2,h3]
    rw[if_pos ⟨h4,Nat.le_of_ble_eq_true h1.1,Nat.le_of_ble_eq_true h1.2.1,Nat.le_of_ble_eq_true h1.2.2.1,h1.2.2.2⟩]
   ·exact h.elim
  ·exact h.elim
 ·unfold optS at h
  split at h
  ·rename_i a fr1 st1 e;exact⟨a,fr1,st1,e,h⟩
  ·exact h.elim
def kilK (o:Option (Nat×TypeId×Nat))(fr:TFr)(st:TS)(k:TFr→TS→Prop):Prop:=match o with
 | none=>k fr st
 | some (t,_)=>k (fr.act (killG (some t))) (st.act (killG (some t)))
theorem kilK_eq{o:Option (Nat×TypeId×Nat)}{fr:TFr}{st:TS}{k:TFr→TS→Prop}:kilK o fr st k=k (kilF o fr) (kilS o st):=by
 cases o<;>rfl
def BdA (n bytes:Nat):Prop:=n*bytes≤140737488355328∧n≤maxLen
def growB(e sz:Nat):Option (Nat×TypeId×Nat)→Bool
 | none=>true
 | some (_,e',sz')=>Nat.beq e' e&&Nat.beq sz' sz
def srcB (sz:Nat):Option Nat→Bool
 | none=>true
 | some sz'=>Nat.beq sz' sz
theorem growB_ok{e sz:Nat}{o:Option (Nat×TypeId×Nat)}(h:growB e sz o=true):growOk e sz o:=by
 cases o with
 | none=>trivial
 | some p=>
   obtain⟨t,e',sz'⟩:=p
   simp only[growB,Bool.and_eq_true] at h
   exact⟨Nat.eq_of_beq_eq_true h.1,Nat.eq_of_beq_eq_true h.2⟩
theorem srcB_ok{sz:Nat}{o:Option Nat}(h:srcB sz o=true):srcOk sz o:=by
 cases o with
 | none=>trivial
 | some p=>exact Nat.eq_of_beq_eq_true h
def twopK(fr:TFr)(st:TS)(k:AV→TFr→TS→Prop):WOp→Prop
 | .app e sz bytes s x=>match (tev fr s).growOf,(tev fr x).rowOf with
   | some (o,gs),some (_,z,hs)=>match growB e sz o&&tyB e sz,srcB sz z with
     | true,true=>BdA (gs.length+hs.length) bytes∧kilK o fr st fun fr s=>k (.r (.c (.own st.nt e sz (gs++hs)))) fr ⟨st.nt+1,s.obs⟩
     | _,_=>False
   | _,_=>False
 | x=>optS (twop fr st x) k
def callO(Z:TP)(T:Tbl)(X:Pan)(D:TD)(f:FuncId)(avs:List AV)(fr:TFr)(st:TS)(k:AV→TFr→TS→Prop)(R:Value→Prop):Prop:=match D.node.elem f with
 | true=>nodeC avs fr st k
 | false=>callT Z T X f avs fr st k R
def twO0 (Z:TP)(T:Tbl)(X:Pan)(D:TD)(op:ROp)(fr:TFr)(st:TS)(k:AV→TFr→TS→Prop)(R:Value→Prop):Prop:=match op with
 | .p x=>tpopK fr (fun a=>k a fr st) x
 | .l x=>optT (tlop fr st x) fun a=>k a fr st
 | .a x=>taopK fr st k x
 | .w x=>twopK fr st k x
 | .call f args=>callO Z T X D f (args.map (tev fr)) fr st k R
 | .callv _ _=>False
structure Rec where
 d:Nat
 o:Nat
 off:Nat
 ver:Nat
def fcN (n:Nat)(k:Nat→Prop):Prop:=match n with
 | 0=>k 0
 | n+1=>k (n+1)
def fcV (v:Value)(k:Value→Prop):Prop:=match v with
 | .int kd n=>k (.int kd n)
 | .bool b=>ifT b (k (.bool true)) (k (.bool false))
 | .string s=>k (.string s)
 | .slice a n c=>k (.slice a n c)
 | v=>k v
def fcS (x:SV)(k:SV→Prop):Prop:=match x with
 | .sc v=>fcV v fun v=>k (.sc v)
 | .row sz gs=>k (.row sz gs)
 | .lk x=>k (.lk x)
 | .sub sz gs=>k (.sub sz gs)
def fcC (x:CV)(k:CV→Prop):Prop:=match x with
 | .s x=>fcS x fun x=>k (.s x)
 | .own t e sz gs=>fcN t fun t=>k (.own t e sz gs)
 | .bad=>k .bad
def fcL:List CV→(List CV→Prop)→Prop
 | [],k=>k []
 | x::l,k=>fcC x fun x=>fcL l fun l=>k (x::l)
def fcX (x:RV)(k:RV→Prop):Prop:=match x with
 | .c x=>fcC x fun x=>k (.c x)
 | .agg cs=>fcL cs fun cs=>k (.agg cs)
def fcXs:List RV→(List RV→Prop)→Prop
 | [],k=>k []
 | x::l,k=>fcX x fun x=>fcXs l fun l=>k (x::l)
def fcA (a:AV)(k:AV→Prop):Prop:=match a with
 | .r x=>fcX x fun x=>k (.r x)
 | .ptr o off=>fcN o fun o=>fcN off fun off=>k (.ptr o off)
 | .eptr t g off=>k (.eptr t g off)
 | .tup l=>fcXs l fun l=>k (.tup l)
 | .skip=>k .skip
 | .bad=>k .bad
def fcVo (v:Value)(k:Value→Prop):Prop:=match v with
 | .int kd n=>k (.int kd n)
 | .bool b=>k (.bool b)
 | .string s=>k (.string s)
 | .slice a n c=>k (.slice a n c)
 | v=>k v
def fcSo (x:SV)(k:SV→Prop):Prop:=match x with
 | .sc v=>fcVo v fun v=>k (.sc v)
 | .row sz gs=>k (.row sz gs)
 | .lk x=>k (.lk x)
 | .sub sz gs=>k (.sub sz gs)
def fcCo (x:CV)(k:CV→Prop):Prop:=match x with
 | .s x=>fcSo x fun x=>k (.s x)
 | .own t e sz gs=>fcN t fun t=>k (.own t e sz gs)
 | .bad=>k .bad
def fcLo:List CV→(List CV→Prop)→Prop
 | [],k=>k []
 | x::l,k=>fcCo x fun x=>fcLo l fun l=>k (x::l)
def fcO:List (Nat×TypeId×List CV)→(List (Nat×TypeId×List CV)→Prop)→Prop
 | [],k=>k []
 | (v,e,cs)::l,k=>fcN v fun v=>fcLo cs fun cs=>fcO l fun l=>k ((v,e,cs)::l)
def fcT (st:TS)(k:TS→Prop):Prop:=match st with
 | ⟨n,l⟩=>fcN n fun n=>fcO l fun l=>k ⟨n,l⟩
theorem fcN_eq{n:Nat}{k:Nat→Prop}:fcN n k=k n:=by cases n<;>rfl
theorem fcV_eq{v:Value}{k:Value→Prop}:fcV v k=k v:=by
 cases v with
 | bool b=>cases b<;>rfl
 | _=>rfl
theorem fcS_eq{x:SV}{k:SV→Prop}:fcS x k=k x:=by
 cases x with
 | sc v=>simp only[fcS,fcV_eq]
 | row=>rfl
 | lk=>rfl
 | sub=>rfl
theorem fcC_eq{x:CV}{k:CV→Prop}:fcC x k=k x:=by
 cases x with
 | s x=>simp only[fcC,fcS_eq]
 | own=>simp only[fcC,fcN_eq]
 | bad=>rfl
theorem fcL_eq : ∀ {l:List CV} {k:List CV→Prop},fcL l k=k l
 | [],_=>rfl
 | x::l,k=>by simp only[fcL,fcC_eq,fcL_eq]
theorem fcX_eq{x:RV}{k:RV→Prop}:fcX x k=k x:=by
 cases x with
 | c x=>simp only[fcX,fcC_eq]
 | agg cs=>simp only[fcX,fcL_eq]
theorem fcXs_eq : ∀ {l:List RV} {k:List RV→Prop},fcXs l k=k l
 | [],_=>rfl
 | x::l,k=>by simp only[fcXs,fcX_eq,fcXs_eq]
theorem fcA_eq{a:AV}{k:AV→Prop}:fcA a k=k a:=by
 cases a with
 | r x=>simp only[fcA,fcX_eq]
 | ptr o off=>simp only[fcA,fcN_eq]
 | tup l=>simp only[fcA,fcXs_eq]
 | _=>rfl
theorem fcVo_eq{v:Value}{k:Value→Prop}:fcVo v k=k v:=by cases v<;>rfl
theorem fcSo_eq{x:SV}{k:SV→Prop}:fcSo x k=k x:=by
 cases x with
 | sc v=>simp only[fcSo,fcVo_eq]
 | row=>rfl
 | lk=>rfl
 | sub=>rfl
theorem fcCo_eq{x:CV}{k:CV→Prop}:fcCo x k=k x:=by
 cases x with
 | s x=>simp only[fcCo,fcSo_eq]
 | own=>simp only[fcCo,fcN_eq]
 | bad=>rfl
theorem fcLo_eq : ∀ {l:List CV} {k:List CV→Prop},fcLo l k=k l
 | [],_=>rfl
 | x::l,k=>by simp only[fcLo,fcCo_eq,fcLo_eq]
theorem fcO_eq : ∀ {l:List (Nat×TypeId×List CV)} {k:List (Nat×TypeId×List CV)→Prop},fcO l k=k l
 | [],_=>rfl
 | (v,e,cs)::l,k=>by simp only[fcO,fcN_eq,fcLo_eq,fcO_eq]
theorem fcT_eq{st:TS}{k:TS→Prop}:fcT st k=k st:=by
 obtain⟨n,l⟩:=st
 simp only[fcT,fcN_eq,fcO_eq]
def twO (Z:TP)(T:Tbl)(X:Pan)(D:TD)(op:ROp)(fr:TFr)(st:TS)(k:AV→TFr→TS→Prop)(R:Value→Prop):Prop:=twO0 Z T X D op fr st (fun a f s=>fcA a fun a=>fcT s fun s=>k a f s) R
theorem twO_eq{Z:TP}{T:Tbl}{X:Pan}{D:TD}{op:ROp}{fr:TFr}{st:TS}{k:AV→TFr→TS→Prop}{R:Value→Prop}:twO Z T X D op fr st k R=twO0 Z T X D op fr st k R:=by
 unfold twO
 congr 1
 funext a f s
 rw[fcA_eq,fcT_eq]
def fcRs:List Rec→(List Rec→Prop)→Prop
 | [],k=>k []
 | ⟨d,o,off,v⟩::l,k=>fcN o fun o=>fcN off fun off=>fcN v fun v=>fcRs l fun l=>k (⟨d,o,off,v⟩::l)
theorem fcRs_eq : ∀ {l:List Rec} {k:List Rec→Prop},fcRs l k=k l
 | [],_=>rfl
 | ⟨d,o,off,v⟩::l,k=>by simp only[fcRs,fcN_eq,fcRs_eq]
def eqB (c b:Bool):Bool:=match b with
 | true=>c
 | false=> !c
def grdT (fr:TFr)(g:Option (Nat×Bool))(yes no:Prop):Prop:=match g with
 | none=>yes
 | some (s,b)=>match fr s with
   | .r (.c (.s (.sc (.bool c))))=>ifT (eqB c b) yes no
   | .skip=>no
   | _=>False
def twI (Z:TP)(T:Tbl)(X:Pan)(D:TD)(R:Value→Prop):List Item→TFr→TS→(TFr→TS→Prop)→Prop
 | [],fr,st,k=>k fr st
 | it::r,fr,st,k=>grdT fr it.guard (twO Z T X D it.op fr st (fun a fr1 st1=>twI Z T X D R r (putA fr1 it.dst a) st1 k) R) (twI Z T X D R r (putA fr it.dst .skip) st k)
def recX (fr:TFr)(st:TS)(d:Nat)(x:Operand):List Rec:=match tev fr x with
 | .ptr o off=>match st.obs[o]? with
   | some (v,_,_)=> [⟨d,o,off,v⟩]
   | none=> []
 | _=> []
def recOf(fr:TFr)(st:TS)(it:Item):List Rec:=match it.op,it.dst with
 | .l (.ld x),some d=>recX fr st d x
 | .l (.lda _ x),some d=>recX fr st d x
 | _,_=> []
def twZ:List Item→TFr→TS→Prop
 | [],_,_=>True
 | it::r,fr,st=>grdT fr it.guard (match it.op with
   | .p x=>tpopK fr (fun a=>twZ r (putA fr it.dst a) st) x
   | .l x=>optT (tlop fr st x) fun a=>twZ r (putA fr it.dst a) st
   | _=>False) (twZ r (putA fr it.dst .skip) st)
def panQ (q:Option (List Item))(fr:TFr)(st:TS)(R:Value→Prop):Value→Prop:=match q with
 | some Zl=>fun v=>twZ Zl fr st∧R v
 | none=>fun _=>False
def nxQ (q:Option (List Item))(op:ROp):Option (List Item):=match isQ op with
 | true=>q
 | false=>none
def addB (b:Bool)(s:TS)(l:List TS):List TS:=match b with
 | true=>s::l
 | false=>l
def twD (Z:TP)(T:Tbl)(X:Pan)(D:TD)(R:Value→Prop):Option (List Item)→List Item→TFr→TS→(TFr→TS→List TS→List Rec→Prop)→Prop
 | _,[],fr,st,k=>k fr st [] []
 | q,it::r,fr,st,k=>grdT fr it.guard (twO Z T X D it.op fr st (fun a fr1 st1=>fcRs (recOf fr st it) fun rc=>twD Z T X D R (nxQ q it.op) r (putA fr1 it.dst a) st1 fun f s l c=>k f s (addB (isW it.op) st1 l) (rc++c)) (panQ q fr st R))
    (twD Z T X D R (nxQ q it.op) r (putA fr it.dst .skip) st fun f s l c=>k f s (addB (isW it.op) st l) c)
def rdX:ROp→Option Operand
 | .l (.ld x)=>some x
 | .l (.lda _ x)=>some x
 | _=>none
def findR(d:Nat):List Rec→Option Rec
 | []=>none
 | r::c=>match Nat.beq r.d d with
   | true=>some r
   | false=>findR d c
theorem findR_ok{d:Nat}{rc:Rec} : ∀ {c:List Rec},findR d c=some rc→rc∈c∧rc.d=d
 | [],h=>by cases h
 | r::c,h=>by
   simp only[findR] at h
   split at h
   ·rename_i hb;cases h;exact⟨by simp,Nat.eq_of_beq_eq_true hb⟩
   ·obtain⟨h1,h2⟩:=findR_ok h;exact⟨by simp[h1],h2⟩
def verB (s:TS)(o v:Nat):Bool:=match s.obs[o]? with
 | some (v',_,_)=>Nat.beq v' v
 | none=>false
def recB (a:AV)(r:Option Rec)(s:TS):Bool:=match a,r with
 | .ptr o off,some r=>Nat.beq r.o o&&(Nat.beq r.off off&&verB s o r.ver)
 | _,_=>false
def cntD (d:Nat):List Item→Nat
 | []=>0
 | it::r=>match it.dst with
   | some e=>match Nat.beq e d with
     | true=>cntD d r+1
     | false=>cntD d r
   | none=>cntD d r
def chkT (fr:TFr)(S:List TS)(c:List Rec)(its:List Item)(p:Item×Nat)(k:Prop):Prop:=match S[p.2]? with
 | none=>False
 | some s=>grdT fr p.1.guard
   (match rdX p.1.op,p.1.dst with
     | some x,some d=>its.filter (fun i=>decide (i.dst=some d))= [p.1]∧match recB (tev fr x) (findR d c) s with
       | true=>k
       | false=>False
     | _,_=>False) k
def chkL (fr:TFr)(S:List TS)(c:List Rec)(its:List Item)(k:Prop):List (Item×Nat)→Prop
 | []=>k
 | p::r=>chkT fr S c its p (chkL fr S c its k r)
variable {T:Tbl} {X:Pan} {Z:TP} {D:TD} {K0 K K' K'':CH} {sp:Option Nat} {W0:Nat→Prop} {st st' st'' st1:TS} {fr fr1:TFr} {cfr:Fr} {E E' E'':TE}
theorem grd_rel(h:TR Z K0 sp W0 K st fr cfr E){g:Option (Nat×Bool)}{yes no:Prop}(hg:grdT fr g yes no):(wantedF cfr g=some true∧yes)∨(wantedF cfr g=some false∧no):=by
 unfold grdT at hg
 split at hg
 ·exact .inl ⟨rfl,hg⟩
 ·rename_i s b
  have hr:=h.frm s
  split at hg
  ·rename_i c e
   have:=raw_rel hr (by rw[e];rfl)
   unfold ifT at hg
   split at hg
   ·rename_i hc
    refine .inl ⟨?_,hg⟩
    cases b<;>cases c<;>first | (simp only[wantedF,this];rfl) | (simp[eqB] at hc)
   ·rename_i hc
    refine .inr ⟨?_,hg⟩
    cases b<;>cases c<;>first | (simp only[wantedF,this];rfl) | (simp[eqB] at hc)
  ·rename_i e
   rw[e] at hr
   cases hv:cfr s with
   | _=>rw[hv] at hr;cases hr;try exact .inr ⟨by simp only[wantedF,hv],hg⟩
  ·exact hg.elim
theorem TR.put(h:TR Z K0 sp W0 K st fr cfr E){d:Option Nat}{a:AV}{v:Value}(ha:AVR K E a v):TR Z K0 sp W0 K st (putA fr d a) (putF cfr d v) E:=⟨h.nx,h.keep,h.prot,h.hid,h.wr,h.sig,h.inj,h.sr,h.rho,h.rinj,h.obs,fun t=>by
 cases d with
 | none=>exact h.frm t
 | some d=>
   rw[putA_if]
   show AVR K E (if t=d then a else fr t) (if t=d then v else cfr t)
   split
   ·exact ha
   ·exact h.frm t⟩
theorem row_len{a:AV}{v:Value}(h:AVR K E a v){t z:Option Nat}{gs:List (List SV)}(hr:a.rowOf=some (t,z,gs)):gs.length≤maxLen:=by
 rcases row_rel h hr with ⟨rfl,_⟩ | ⟨h1,_⟩
 ·exact Nat.zero_le _
 ·exact h1.2
theorem tpopK_ok(hf : ∀t,AVR K E (fr t) (cfr t)){k:AV→Prop}{x:POp}(h:tpopK fr k x) : ∃a,tpop fr x=some a∧k a:=by
 unfold tpopK at h
 split at h
 ·rename_i x i sz
  split at h
  ·rename_i t z gs kk j e1 e2
   obtain⟨h1,n,g,rfl,h2,h3⟩:=h
   refine⟨_,?_,h3⟩
   simp only[tpop,e1,e2]
   rw[if_pos ⟨h1,by omega⟩,Int.toNat_natCast,h2];rfl
  ·exact h.elim
 ·rename_i x
  have hx:=tev_rel hf x
  split at h
  ·rename_i sz gs e
   rw[e] at hx
   exact⟨iS gs.length,by simp only[tpop,e];rfl,h (row_len (t:=none) (z:=some sz) hx rfl)⟩
  ·rename_i t e' sz gs e
   rw[e] at hx
   exact⟨iS gs.length,by simp only[tpop,e];rfl,h (row_len (t:=some t) (z:=some sz) hx rfl)⟩
  ·rename_i sz gs e
   rw[e] at hx
   refine⟨iS gs.length,by simp only[tpop,e];rfl,h ?_⟩
   generalize evF cfr x=w at hx
   cases hx with | r hx=>cases hx with | c hx=>cases hx with | s hx=>
   cases hx with
   | sub0=>exact Nat.zero_le _
   | sub hne=>exact hne.2
  ·unfold optT at h
   split at h
   ·rename_i a e;exact⟨a,by simp only[tpop];exact e,h⟩
   ·exact h.elim
 ·unfold optT at h
  split at h
  ·rename_i a e;exact⟨a,e,h⟩
  ·exact h.elim
theorem twopK_ok{k:AV→TFr→TS→Prop}{x:WOp}(h:twopK fr st k x) : ∃a fr1 st1,twop fr st x=some (a,fr1,st1)∧k a fr1 st1:=by
 unfold twopK at h
 split at h
 ·rename_i e sz bytes s x
  split at h
  ·rename_i o gs t z hs e1 e2
   split at h
   ·rename_i b1 b2
    obtain⟨⟨h1,h2⟩,h3⟩:=h
    rw[kilK_eq] at h3
    refine⟨_,_,_,?_,h3⟩
    simp only[twop,e1,e2]
    simp only[Bool.and_eq_true] at b1
    rw[if_pos ⟨growB_ok b1.1,srcB_ok b2,h1,h2,b1.2⟩]
   ·exact h.elim
  ·exact h.elim
 ·unfold optS at h
  split at h
  ·rename_i a fr1 st1 e;exact⟨a,fr1,st1,e,h⟩
  ·exact h.elim
theorem twO_sound(hD:TDOk T D)(h:TR Z K0 sp W0 K st fr cfr E){op:ROp}{k:AV→TFr→TS→Prop}{R:Value→Prop}(hk:twO Z T X D op fr st k R):WxO T X cfr K op (fun v K1=>∃a fr1 st1 E1,TR Z K0 sp W0 K1 st1 fr1 cfr E1∧AVR K1 E1 a v∧Stp K st E K1 st1 E1∧k a fr1 st1) (PX K0 sp W0 R):=by
 rw[twO_eq] at hk
 cases op with
 | p x=>
   left
   rw[wpO_p]
   obtain⟨a,e,hk⟩:=tpopK_ok h.frm (k:=fun a=>k a fr st) hk
   obtain⟨v,q1,q2⟩:=tpop_sound h.frm e
   exact⟨v,q1,a,fr,st,E,h,q2,Stp.refl,hk⟩
 | l x=>
   left
   rw[wpO_l]
   simp only[twO0,optT] at hk
   split at hk
   ·rename_i a e
    obtain⟨v,q1,q2⟩:=tlop_sound h e
    exact⟨v,q1,a,fr,st,E,h,q2,Stp.refl,hk⟩
   ·exact hk.elim
 | a x=>
   left
   rw[wpO_a]
   obtain⟨a,fr1,st1,e,hk⟩:=taopK_ok hk
   obtain⟨cs,e,kd,mk,E1,q1,q2,q3,q4⟩:=taop_sound h e
   exact⟨cs,e,kd,mk,q1,a,fr1,st1,E1,q2,q3,q4,hk⟩
 | w x=>
   left
   rw[wpO_w]
   obtain⟨a,fr1,st1,e,hk⟩:=twopK_ok hk
   obtain⟨v,K1,E1,q1,q2,q3,q4⟩:=twop_sound h e
   exact⟨v,K1,q1,a,fr1,st1,E1,q2,q3,q4,hk⟩
 | call f args=>
   simp only[twO0,callO] at hk
   split at hk
   ·rename_i hf
    left
    rw[wpO_call]
    exact nodeC_sound hD h hf hk
   ·rcases callT_sound h hk with g | g
    ·left;rw[wpO_call];exact g
    ·exact .inr ⟨f,args,rfl,g⟩
 | callv g args=>exact hk.elim
theorem WxI.mono{its:List Item}{fr:Fr}{H:CH}{K K':Fr→CH→Prop}{R:Value→CH→Prop}(h:WxI T X its fr H K R)(hk : ∀f H,K f H→K' f H):WxI T X its fr H K' R:=by
 rcases h with ⟨n,f,H',h1,h2⟩ | h
 ·exact .inl ⟨n,f,H',h1,hk _ _ h2⟩
 ·exact .inr h
theorem twI_sound(hD:TDOk T D){R:Value→Prop} : ∀ {its:List Item} {K:CH} {st:TS} {fr:TFr} {cfr:Fr} {E:TE} {k:TFr→TS→Prop},TR Z K0 sp W0 K st fr cfr E→twI Z T X D R its fr st k→WxI T X its cfr K (fun cfr' K'=>∃fr' st' E',TR Z K0 sp W0 K' st' fr' cfr' E'∧Stp K st E K' st' E'∧k fr' st') (PX K0 sp W0 R)
 | [],K,st,fr,cfr,E,k,h,hk=> .inl (wpI_nil.2 ⟨fr,st,E,h,Stp.refl,hk⟩)
 | it::r,K,st,fr,cfr,E,k,h,hk=>by
   obtain⟨d,op,g⟩:=it
   rcases grd_rel h hk with ⟨q,hk⟩ | ⟨q,hk⟩
   ·refine wxI_cons q ?_
    rcases twO_sound hD h hk with ⟨n,v,K1,w1,a,fr1,st1,E1,t1,t2,t3,t4⟩ | hp
    ·left
     refine⟨n,v,K1,w1,?_⟩
     exact(twI_sound hD (its:=r) (t1.put (d:=d) t2) t4).mono fun f' K' ⟨fr',st',E',z2,z3,z4⟩=>⟨fr',st',E',z2,t3.trans z3,z4⟩
    ·exact .inr hp
   ·refine wxI_skip q ?_
    exact(twI_sound hD (its:=r) (h.put (d:=d) (a:= .skip) (v:=skipV) .skip) hk).mono fun f' K' ⟨fr',st',E',z2,z3,z4⟩=>⟨fr',st',E',z2,z3,z4⟩
def rdV (op:ROp)(ob:CObj)(off:Nat):Option Value:=match op,ob with
 | .l (.ld _), .cells cs _ _=>cs[off]?
 | .l (.lda n _), .cells cs _ _=>if off+n≤cs.length then some (.agg ((cs.drop off).take n).toArray) else none
 | _,_=>none
theorem rdV_lop{op:ROp}{x:Operand}(hx:rdX op=some x){ev:Operand→Value}{b off:Nat}(hv:ev x= .pointer (some ⟨b,off,none⟩)){G:CH} : ∃y,op= .l y∧lop G ev y=rdV op (G.ob b) off:=by
 unfold rdX at hx
 split at hx
 ·cases hx
  refine⟨_,rfl,?_⟩
  simp only[lop,hv,rdV]
  cases G.ob b<;>rfl
 ·cases hx
  refine⟨_,rfl,?_⟩
  simp only[lop,hv,rdV]
  cases G.ob b<;>rfl
 ·cases hx
structure RecR(st:TS)(E':TE)(its:List Item)(cfr':Fr)(L:List (CH×TS))(r:Rec):Prop where
 h : ∃b x it ob,it∈its∧it.dst=some r.d∧rdX it.op=some x∧E'.ρ r.o=some b∧(∀v e cs,st.obs[r.o]? = some (v,e,cs)→v≤r.ver)∧(∀it0,its.filter (fun i=>decide (i.dst=some r.d))= [it0]→rdV it.op ob r.off=some (cfr' r.d))∧∀p∈L,∀e cs,p.2.obs[r.o]? = some (r.ver,e,cs)→p.1.ob b=ob
theorem twZ_sound : ∀ {its:List Item} {fr:TFr} {cfr:Fr},TR Z K0 sp W0 K st fr cfr E→twZ its fr st→∃n r,runI (evH T n) its cfr K=some r
 | [],fr,cfr,h,hk=>⟨0,_,rfl⟩
 | it::r,fr,cfr,h,hk=>by
   obtain⟨d,op,g⟩:=it
   rcases grd_rel h hk with ⟨q,hk⟩ | ⟨q,hk⟩
   ·simp only at hk
    cases op with
    | p x=>
      obtain⟨a,e,hk⟩:=tpopK_ok h.frm hk
      obtain⟨v,q1,q2⟩:=tpop_sound h.frm e
      obtain⟨n,r',hr⟩:=twZ_sound (its:=r) (h.put (d:=d) q2) hk
      exact⟨n,r',by simp only[runI,stepI,q,rop,q1,Option.map_some];exact hr⟩
    | l x=>
      simp only[optT] at hk
      split at hk
      ·rename_i a e
       obtain⟨v,q1,q2⟩:=tlop_sound h e
       obtain⟨n,r',hr⟩:=twZ_sound (its:=r) (h.put (d:=d) q2) hk
       exact⟨n,r',by simp only[runI,stepI,q,rop,q1,Option.map_some];exact hr⟩
      ·exact hk.elim
    | _=>exact hk.elim
   ·obtain⟨n,r',hr⟩:=twZ_sound (its:=r) (h.put (d:=d) (a:= .skip) (v:=skipV) .skip) hk
    exact⟨n,r',by simp only[runI,stepI,q];exact hr⟩
theorem twD_sound(hD:TDOk T D){R:Value→Prop} : ∀ {pq:Option (List Item)} {its:List Item} {K:CH} {st:TS} {fr:TFr} {cfr:Fr} {E:TE} {k:TFr→TS→List TS→List Rec→Prop},TR Z K0 sp W0 K st fr cfr E→twD Z T X D R pq its fr st k→(∃n v H',pq.isSome=true∧PanI T X n pq its cfr K v H'∧PX K0 sp W0 R v H')∨WpD T its cfr K fun cfr' K' L=>∃fr' st' E' P C,TR Z K0 sp W0 K' st' fr' cfr' E'∧Stp K st E K' st' E'∧k fr' st' (P.map Prod.snd) C∧L=P.map Prod.fst∧(∀p∈P,∃Ep,Stp K st E p.1 p.2 Ep)∧(∀r∈C,RecR st E' its cfr' ((K,st)::P) r)∧∀t,(∀i∈its,i.dst≠some t)→cfr' t=cfr t
 | pq,[],K,st,fr,cfr,E,k,h,hk=> .inr <| wpD_nil.2 ⟨fr,st,E,[],[],h,Stp.refl,hk,rfl,(fun _ q=>(by cases q)),(fun _ q=>(by cases q)),fun _ _=>rfl⟩
 | pq,it::r,K,st,fr,cfr,E,k,h,hk=>by
   obtain⟨d,op,g⟩:=it
   have hput : ∀ {cfr':Fr} {v:Value},(∀t,(∀i∈r,i.dst≠some t)→cfr' t=putF cfr d v t)→∀t,(∀i∈(⟨d,op,g⟩:Item)::r,i.dst≠some t)→cfr' t=cfr t:=fun {cfr' v} hq t ht=>by
    rw[hq t fun i hi=>ht i (by simp[hi])]
    have:=ht ⟨d,op,g⟩ (by simp)
    cases d with
    | none=>rfl
    | some d=>exact if_neg fun e=>this (by rw[e])
   rcases grd_rel h hk with ⟨q,hk⟩ | ⟨q,hk⟩
   ·rcases twO_sound hD h hk with ⟨n,v,K1,w1,a,fr1,st1,E1,t1,t2,t3,t4⟩ | ⟨f,args,e1,n,v,H',p1,p2⟩
    rotate_left
    ·cases pq with
     | some Zl=>exact .inl ⟨n,v,H',rfl,panI_here q e1 (fun Zl' e=>by cases e;exact twZ_sound h p2.2.2.1) p1,p2.1,p2.2.1,p2.2.2.2⟩
     | none=>exact p2.2.2.elim
    rw[fcRs_eq] at t4
    rcases twD_sound hD (its:=r) (t1.put (d:=d) t2) t4 with ⟨m,u,H',p0,p1,p2⟩ | hr
    ·unfold nxQ at p0 p1
     split at p0
     ·rename_i hop
      rw[hop] at p1
      exact .inl ⟨m,u,H',p0,panI_cons (m:=n) (by simp only[stepI,q,w1];rfl) (fun _ _=>hop) p1,p2⟩
     ·cases p0
    right
    rw[wpD_cons]
    simp only[q]
    refine⟨n,v,K1,w1,?_⟩
    obtain⟨n',f',K',L,z1,fr',st',E',P,C,z2,z3,z4,z5,z6,z7,z8⟩:=hr
    have hP : ∃P':List (CH×TS),addB (isW op) st1 (P.map Prod.snd)=P'.map Prod.snd∧(if isW op=true then K1::L else L)=P'.map Prod.fst∧∀p∈P',p=(K1,st1)∨p∈P:=by
     by_cases hw:isW op=true
     ·exact⟨(K1,st1)::P,by rw[hw];rfl,by rw[if_pos hw,z5];rfl,fun p hp=>by simpa using hp⟩
     ·exact⟨P,by rw[Bool.not_eq_true] at hw;rw[hw];rfl,by rw[if_neg hw,z5],fun p hp=> .inr hp⟩
    obtain⟨P',p1,p2,p3⟩:=hP
    have hstp : ∀p∈P',∃Ep,Stp K st E p.1 p.2 Ep:=fun p hp=>by
     rcases p3 p hp with rfl | hp
     ·exact⟨E1,t3⟩
     ·obtain⟨Ep,k1⟩:=z6 p hp;exact⟨Ep,t3.trans k1⟩
    refine⟨n',f',K',L,z1,fr',st',E',P',recOf fr st ⟨d,op,g⟩++C,z2,t3.trans z3,by rw[←p1];exact z4,p2,hstp,fun rc hrc=> ?_,hput z8⟩
    rcases List.mem_append.1 hrc with hrc | hrc
    ·
     have key : ∀x d',rdX op=some x→d=some d'→rc∈recX fr st d' x→RecR st E' (⟨d,op,g⟩::r) f' ((K,st)::P') rc:=fun x d' hx hd hrx=>by
      subst hd
      unfold recX at hrx
      split at hrx
      ·rename_i o off he
       split at hrx
       ·rename_i ver ty cs ho
        obtain rfl:=List.mem_singleton.1 hrx
        have hr:=tev_rel h.frm x
        rw[he] at hr
        obtain⟨b,hb,hv⟩:=hr.ptr_inv
        refine⟨b,x,⟨some d',op,g⟩,K.ob b,by simp,rfl,hx,z3.rho o b (t3.rho o b hb),fun v' e' cs' q=>by rw[ho] at q;cases q;exact Nat.le_refl _,fun it0 hf=> ?_,fun p hp e' cs' q=> ?_⟩
        ·have hf2:r.filter (fun i=>decide (i.dst=some d'))= []:=by
          rw[List.filter_cons_of_pos (by simp)] at hf
          exact(List.cons.inj hf).2
         have hcf:f' d'=v:=by
          rw[z8 d' fun i hi e=>by
           have:i∈r.filter (fun i=>decide (i.dst=some d')):=List.mem_filter.2 ⟨hi,by simpa using e⟩
           rw[hf2] at this;cases this]
          exact if_pos rfl
         show rdV op (K.ob b) off=some (f' d')
         rw[hcf]
         obtain⟨y,rfl,hy⟩:=rdV_lop hx hv (G:=K)
         obtain⟨_,w2⟩:=(wpO_l (K:=fun v' K'=>v'=v)).1 ⟨n,v,K1,w1,rfl⟩
         rw[←hy];rw[w2.2] at w2;exact w2.1
        ·rcases List.mem_cons.1 hp with rfl | hp
         ·rfl
         ·obtain⟨Ep,k1⟩:=hstp p hp
          obtain⟨v2,cs2,g1,g2,g3⟩:=k1.ver o _ _ _ ho
          rw[g1] at q;cases q
          exact g3 rfl b hb
       ·cases hrx
      ·cases hrx
     unfold recOf at hrc
     split at hrc
     ·rename_i x d' e1 e2
      have e1:op= .l (.ld x):=e1
      exact key x d' (by rw[e1];rfl) e2 hrc
     ·rename_i m x d' e1 e2
      have e1:op= .l (.lda m x):=e1
      exact key x d' (by rw[e1];rfl) e2 hrc
     ·cases hrc
    ·
     obtain⟨b,x,it,ob,r1,r2,r3,r4,r5,r6,r7⟩:=(z7 rc hrc).h
     have hle : ∀v e cs,st.obs[rc.o]? = some (v,e,cs)→v≤rc.ver:=fun v e cs q=>by
      obtain⟨v2,cs2,g1,g2,g3⟩:=t3.ver _ _ _ _ q
      exact Nat.le_trans g2 (r5 _ _ _ g1)
     refine⟨b,x,it,ob,by simp[r1],r2,r3,r4,hle,fun it0 hf=> ?_,fun p hp e' cs' q=> ?_⟩
     ·by_cases hd:d=some rc.d
      ·rw[List.filter_cons_of_pos (by simpa using hd)] at hf
       have hf2:=(List.cons.inj hf).2
       have:it∈r.filter (fun i=>decide (i.dst=some rc.d)):=List.mem_filter.2 ⟨r1,by simpa using r2⟩
       rw[hf2] at this;cases this
      ·rw[List.filter_cons_of_neg (by simpa using hd)] at hf
       exact r6 it0 hf
     ·rcases List.mem_cons.1 hp with rfl | hp
      ·obtain⟨v2,cs2,g1,g2,g3⟩:=t3.ver _ _ _ _ q
       have:=r5 _ _ _ g1
       have hv2:v2=rc.ver:=by omega
       subst hv2
       have k1:=r7 (K1,st1) (by simp) _ _ g1
       obtain⟨bb,os,h1,h2,h3⟩:=h.obs _ _ _ _ q
       have:bb=b:=by
        have:=z3.rho _ _ (t3.rho _ _ h1)
        rw[r4] at this;cases this;rfl
       subst this
       exact(g3 rfl bb h1).symm.trans k1
      ·rcases p3 p hp with rfl | hp
       ·exact r7 _ (by simp) e' cs' q
       ·exact r7 p (by simp[hp]) e' cs' q
   ·rcases twD_sound hD (its:=r) (h.put (d:=d) (a:= .skip) (v:=skipV) .skip) hk with ⟨m,u,H',p0,p1,p2⟩ | hr
    ·unfold nxQ at p0 p1
     split at p0
     ·rename_i hop
      rw[hop] at p1
      exact .inl ⟨m,u,H',p0,panI_cons (m:=0) (by simp only[stepI,q]) (fun _ _=>hop) p1,p2⟩
     ·cases p0
    right
    rw[wpD_cons]
    simp only[q]
    obtain⟨n',f',K',L,z1,fr',st',E',P,C,z2,z3,z4,z5,z6,z7,z8⟩:=hr
    have hP : ∃P':List (CH×TS),addB (isW op) st (P.map Prod.snd)=P'.map Prod.snd∧(if isW op=true then K::L else L)=P'.map Prod.fst∧∀p∈P',p=(K,st)∨p∈P:=by
     by_cases hw:isW op=true
     ·exact⟨(K,st)::P,by rw[hw];rfl,by rw[if_pos hw,z5];rfl,fun p hp=>by simpa using hp⟩
     ·exact⟨P,by rw[Bool.not_eq_true] at hw;rw[hw];rfl,by rw[if_neg hw,z5],fun p hp=> .inr hp⟩
    obtain⟨P',p1,p2,p3⟩:=hP
    refine⟨n',f',K',L,z1,fr',st',E',P',C,z2,z3,by rw[←p1];exact z4,p2,fun p hp=> ?_,fun rc hrc=> ?_,hput z8⟩
    ·rcases p3 p hp with rfl | hp
     ·exact⟨E,Stp.refl⟩
     ·exact z6 p hp
    ·obtain⟨b,x,it,ob,r1,r2,r3,r4,r5,r6,r7⟩:=(z7 rc hrc).h
     refine⟨b,x,it,ob,by simp[r1],r2,r3,r4,r5,fun it0 hf=> ?_,fun p hp e' cs' q=> ?_⟩
     ·by_cases hd:d=some rc.d
      ·rw[List.filter_cons_of_pos (by simpa using hd)] at hf
       have hf2:=(List.cons.inj hf).2
       have:it∈r.filter (fun i=>decide (i.dst=some rc.d)):=List.mem_filter.2 ⟨r1,by simpa using r2⟩
       rw[hf2] at this;cases this
      ·rw[List.filter_cons_of_neg (by simpa using hd)] at hf
       exact r6 it0 hf
     ·rcases List.mem_cons.1 hp with rfl | hp
      ·exact r7 _ (by simp) e' cs' q
      ·rcases p3 p hp with rfl | hp
       ·exact r7 _ (by simp) e' cs' q
       ·exact r7 p (by simp[hp]) e' cs' q
structure Stw(st:TS)(E:TE)(st':TS)(E':TE):Prop where
 hid : ∀b,E.hid b→E'.hid b
 rho : ∀o b,E.ρ o=some b→E'.ρ o=some b
 typ : ∀(o v:Nat) (e:TypeId) (cs:List CV),st.obs[o]? = some (v,e,cs)→∃v' cs',st'.obs[o]? = some (v',e,cs')
theorem Stw.refl:Stw st E st E:=⟨fun _ h=>h,fun _ _ h=>h,fun o v e cs h=>⟨v,cs,h⟩⟩
theorem Stw.trans(h:Stw st E st' E')(g:Stw st' E' st'' E''):Stw st E st'' E'':=⟨fun b q=>g.hid b (h.hid b q),fun o b q=>g.rho o b (h.rho o b q),fun o v e cs q=>by
 obtain⟨v1,cs1,k1⟩:=h.typ o v e cs q
 exact g.typ o v1 e cs1 k1⟩
theorem Stp.w(h:Stp K st E K' st' E'):Stw st E st' E':=⟨h.hid,h.rho,fun o v e cs q=>by
 obtain⟨v1,cs1,k1,_⟩:=h.ver o v e cs q
 exact⟨v1,cs1,k1⟩⟩
def posN:List Nat→Nat→Option Nat
 | [],_=>none
 | a::l,t=>match Nat.beq a t with
   | true=>some 0
   | false=>match posN l t with
     | some j=>some (j+1)
     | none=>none
theorem posN_ok : ∀ {l:List Nat} {t j:Nat},posN l t=some j→l[j]? = some t
 | [],t,j,h=>by cases h
 | a::l,t,j,h=>by
   simp only[posN] at h
   split at h
   ·rename_i hb;cases h;rw[Nat.eq_of_beq_eq_true hb];rfl
   ·split at h
    ·rename_i j' h';cases h;simpa using posN_ok h'
    ·cases h
def CV.cut(l:List Nat):CV→CV
 | .own t e sz gs=>match posN l t with
   | some j=> .own j e sz gs
   | none=> .s (rowS sz gs)
 | x=>x
def RV.cut(l:List Nat):RV→RV
 | .c x=> .c (x.cut l)
 | .agg cs=> .agg (cs.map (CV.cut l))
def ltB (o k:Nat)(a b:AV):AV:=match Nat.ble k o with
 | true=>b
 | false=>a
def AV.cut(k:Nat)(l:List Nat):AV→AV
 | .r x=> .r (x.cut l)
 | .ptr o off=>ltB o k (.ptr o off) .bad
 | .eptr (some t) g off=>match posN l t with
   | some j=> .eptr (some j) g off
   | none=> .eptr none g off
 | .eptr none g off=> .eptr none g off
 | .tup xs=> .tup (xs.map (RV.cut l))
 | .skip=> .skip
 | .bad=> .bad
def TFr.cut(k:Nat)(l:List Nat)(fr:TFr):TFr:=fun t=>(fr t).cut k l
def TS.cut(k:Nat)(l:List Nat)(st:TS):TS:=⟨l.length,(st.obs.take k).map fun(_,e,cs)=>(0,e,cs.map (CV.cut l))⟩
def TE.cut(k:Nat)(l:List Nat)(E:TE):TE:=⟨fun j=>(l[j]?).bind E.σ,fun o=>if o<k then E.ρ o else none,E.hid⟩
theorem TE.cut_s{k:Nat}{l:List Nat}{j b:Nat}(h:(E.cut k l).σ j=some b) : ∃t,l[j]? = some t∧E.σ t=some b:=by
 have h:(l[j]?).bind E.σ=some b:=h
 cases hj:l[j]? with
 | none=>rw[hj] at h;cases h
 | some t=>rw[hj] at h;exact⟨t,rfl,h⟩
theorem TE.cut_r{k:Nat}{l:List Nat}{o b:Nat}(h:(E.cut k l).ρ o=some b):o<k∧E.ρ o=some b:=by
 have h:(if o<k then E.ρ o else none)=some b:=h
 split at h
 ·rename_i hk;exact⟨hk,h⟩
 ·cases h
theorem frz_cut{k:Nat}{l:List Nat}{b:Nat}(h:Frz K E b):Frz K (E.cut k l) b:=⟨h.1,h.2.1,fun j q=>by
 obtain⟨t,_,q2⟩:=TE.cut_s q
 exact h.2.2.1 t q2,fun o q=>h.2.2.2 o (TE.cut_r q).2⟩
structure SgOk(K:CH)(E:TE):Prop where
 hid : ∀t b,E.σ t=some b→b<K.nx∧¬E.hid b
 inj : ∀t t' b,E.σ t=some b→E.σ t'=some b→t=t'
 sr : ∀t o b,E.σ t=some b→E.ρ o≠some b
theorem posN_none : ∀ {l:List Nat} {t j:Nat},posN l t=none→l[j]? ≠some t
 | [],t,j,h,g=>by simp at g
 | a::l,t,j,h,g=>by
   simp only[posN] at h
   split at h
   ·cases h
   ·rename_i hb
    split at h
    ·cases h
    ·rename_i hp
     cases j with
     | zero=>
       simp at g
       subst g
       have:=Nat.beq_refl a
       rw[hb] at this;cases this
     | succ j=>exact posN_none (j:=j) hp (by simpa using g)
theorem frz_own{k:Nat}{l:List Nat}{t b:Nat}(h:SgOk K E)(hb:E.σ t=some b)(hp:posN l t=none):Frz K (E.cut k l) b:=⟨(h.hid t b hb).1,(h.hid t b hb).2,fun j q=>by
 obtain⟨t',q1,q2⟩:=TE.cut_s q
 have:=h.inj t t' b hb q2
 subst this
 exact posN_none hp q1,fun o q=>h.sr t o b hb (TE.cut_r q).2⟩
theorem CVR.cut(hs:SgOk K E){k:Nat}{l:List Nat}{x:CV}{v:Value}(h:CVR K E x v):CVR K (E.cut k l) (x.cut l) v:=by
 cases h with
 | s h=>exact .s (h.mv fun b hb=>⟨frz_cut hb,rfl⟩)
 | @own0 t sz e=>
   show CVR K _ (match posN l t with | some j=> .own j e sz [] | none=> .s (rowS sz [])) _
   split
   ·exact .own0
   ·exact .s .row0
 | @own t b sz os e kd gs hne hb ho hk hg hv ht=>
   show CVR K _ (match posN l t with | some j=> .own j e sz gs | none=> .s (rowS sz gs)) _
   split
   ·rename_i j hj
    refine .own hne ?_ ho hk hg (hv.mv fun b hb=>⟨frz_cut hb,rfl⟩) ht
    show(l[j]?).bind E.σ=some b
    rw[posN_ok hj];exact hb
   ·rename_i hp
    exact .s (.row hne (frz_own hs hb hp) ho hk hg (hv.mv fun b hb=>⟨frz_cut hb,rfl⟩) ht)
 | bad h=>exact .bad h
theorem RVR.cut(hs:SgOk K E){k:Nat}{l:List Nat}{x:RV}{v:Value}(h:RVR K E x v):RVR K (E.cut k l) (x.cut l) v:=by
 cases h with
 | c h=>exact .c (h.cut hs)
 | agg h=>exact .agg (h.map fun _ _ q=>q.cut hs)
theorem AVR.cut(hg:SgOk K E){k:Nat}{l:List Nat}{x:AV}{v:Value}(h:AVR K E x v):AVR K (E.cut k l) (x.cut k l) v:=by
 cases h with
 | r h=>exact .r (h.cut hg)
 | @ptr o off b h=>
   show AVR K _ (ltB o k (.ptr o off) .bad) _
   unfold ltB
   split
   ·exact .bad
   ·rename_i hk
    refine .ptr ?_
    show(if o<k then E.ρ o else none)=some b
    rw[if_pos (by
     rcases Nat.lt_or_ge o k with g | g
     ·exact g
     ·rw[Nat.ble_eq_true_of_le g] at hk;cases hk)]
    exact h
 | @eptr t g off b base os e kd hb ho hl hs=>
   cases t with
   | none=>exact .eptr (t:=none) (frz_cut hb) ho hl (hs.mono fun _ _ q=>q.mv fun b hb=>⟨frz_cut hb,rfl⟩)
   | some t=>
     show AVR K _ (match posN l t with | some j=> .eptr (some j) g off | none=> .eptr none g off) _
     split
     ·rename_i j hj
      refine .eptr (t:=some j) ?_ ho hl (hs.mono fun _ _ q=>q.mv fun b hb=>⟨frz_cut hb,rfl⟩)
      show(l[j]?).bind E.σ=some b
      rw[posN_ok hj];exact hb
     ·rename_i hp
      exact .eptr (t:=none) (frz_own hg hb hp) ho hl (hs.mono fun _ _ q=>q.mv fun b hb=>⟨frz_cut hb,rfl⟩)
 | tup h=>exact .tup (h.map fun _ _ q=>q.cut hg)
 | skip=>exact .skip
 | bad=>exact .bad
def nodupB:List Nat→Bool
 | []=>true
 | a::l=>match posN l a with
   | some _=>false
   | none=>nodupB l
theorem posN_some : ∀ {l:List Nat} {t j:Nat},l[j]? = some t→∃i,posN l t=some i
 | [],t,j,h=>by simp at h
 | a::l,t,j,h=>by
   simp only[posN]
   cases hb:Nat.beq a t with
   | true=>exact⟨0,rfl⟩
   | false=>
     cases j with
     | zero=>
       simp at h
       subst h
       have:=Nat.beq_refl a
       rw[hb] at this;cases this
     | succ j=>
       obtain⟨i,hi⟩:=posN_some (l:=l) (t:=t) (j:=j) (by simpa using h)
       exact⟨i+1,by simp only[hi]⟩
theorem nodupB_ok : ∀ {l:List Nat},nodupB l=true→∀ {i j t:Nat},l[i]? = some t→l[j]? = some t→i=j
 | [],_,i,j,t,h,_=>by simp at h
 | a::l,hn,i,j,t,h,g=>by
   simp only[nodupB] at hn
   split at hn
   ·cases hn
   ·rename_i hp
    cases i with
    | zero=>
      cases j with
      | zero=>rfl
      | succ j=>
        simp at h g;subst h
        obtain⟨i,hi⟩:=posN_some g
        rw[hp] at hi;cases hi
    | succ i=>
      cases j with
      | zero=>
        simp at h g;subst g
        obtain⟨i,hi⟩:=posN_some h
        rw[hp] at hi;cases hi
      | succ j=>exact congrArg (· + 1) (nodupB_ok hn (i:=i) (j:=j) (t:=t) (by simpa using h) (by simpa using g))
theorem lks_cut{l:List Nat} : ∀ {cs:List CV},lks (cs.map (CV.cut l))=lks cs
 | []=>rfl
 | x::cs=>by
   rw[List.map_cons,lks_cons,lks_cons (x:=x),lks_cut]
   congr 1
   cases x with
   | s y=>rfl
   | bad=>rfl
   | own t e sz gs=>
     show lks [match posN l t with | some j=>CV.own j e sz gs | none=> .s (rowS sz gs)]= []
     cases posN l t<;>rfl
theorem lkW_cut{l:List Nat} : ∀ {cs:List CV} {vs:List Value},lkW (cs.map (CV.cut l)) vs=lkW cs vs
 | [],vs=>rfl
 | x::cs,[]=>by
   cases x with
   | s y=>cases y<;>rfl
   | bad=>rfl
   | own t e sz gs=>
     rw[List.map_cons]
     show lkW ((match posN l t with | some j=>CV.own j e sz gs | none=> .s (rowS sz gs))::_) []= []
     cases posN l t<;>rfl
 | x::cs,v::vs=>by
   rw[List.map_cons,lkW_cons,lkW_cons (x:=x),lkW_cut]
   congr 1
   cases x with
   | s y=>rfl
   | bad=>rfl
   | own t e sz gs=>
     show lkW [match posN l t with | some j=>CV.own j e sz gs | none=> .s (rowS sz gs)] [v]= []
     cases posN l t<;>rfl
theorem TR.cut{k:Nat}{l:List Nat}(h:TR Z K0 sp W0 K st fr cfr E)(hl:nodupB l=true):TR Z K0 sp W0 K (st.cut k l) (fr.cut k l) cfr (E.cut k l):=by
 have hg:SgOk K E:=⟨fun t b q=>⟨(h.sig t b q).2.1,fun hh=>(h.hid b hh).2.1 t q⟩,h.inj,h.sr⟩
 refine⟨h.nx,h.keep,h.prot,fun b hb=> ?_,?_,fun j b q=> ?_,fun j j' b q q'=> ?_,fun j o b q q'=> ?_,fun o b q=> ?_,fun o o' b q q'=> ?_,fun o v e cs q=> ?_,fun t=>(h.frm t).cut hg⟩
 ·obtain⟨k1,k2,k3⟩:=h.hid b hb
  exact⟨k1,fun t q=>by
   obtain⟨t',_,q2⟩:=TE.cut_s q
   exact k2 t' q2,fun o q=>k3 o (TE.cut_r q).2⟩
 ·obtain⟨W,w1,w2⟩:=h.wr
  cases k with
  | zero=>exact⟨fun _=>False,fun _ h=>h.elim,fun _ h=>h⟩
  | succ k=>
    refine⟨W,w1,?_⟩
    show JR Z ((st.obs.take (k+1)).map fun(_,e,cs)=>((0:Nat),e,cs.map (CV.cut l))) K (E.ρ 0) W
    match st.obs,w2 with
    | [],w2=>exact w2
    | (v,e,cs)::r,w2=>
      rcases w2 with ⟨g,g2⟩ | ⟨g,p,os,g1,g2,g3,g4⟩
      ·exact .inl ⟨lks_cut.trans g,g2⟩
      ·exact .inr ⟨by rw[lks_cut];exact g,p,os,g1,g2,by rw[List.length_map];exact g3,by rw[lks_cut,lkW_cut];exact g4⟩
 ·obtain⟨t,q1,q2⟩:=TE.cut_s q
  obtain⟨k1,k2,_⟩:=h.sig t b q2
  exact⟨k1,k2,(List.getElem?_eq_some_iff.1 q1).1⟩
 ·obtain⟨t,q1,q2⟩:=TE.cut_s q
  obtain⟨t',r1,r2⟩:=TE.cut_s q'
  have:=h.inj t t' b q2 r2
  subst this
  exact nodupB_ok hl q1 r1
 ·obtain⟨t,q1,q2⟩:=TE.cut_s q
  exact h.sr t o b q2 (TE.cut_r q').2
 ·obtain⟨q1,q2⟩:=TE.cut_r q
  obtain⟨k1,k2,k3⟩:=h.rho o b q2
  refine⟨k1,k2,?_⟩
  show o<((st.obs.take k).map _).length
  rw[List.length_map,List.length_take];omega
 ·exact h.rinj o o' b (TE.cut_r q).2 (TE.cut_r q').2
 ·have q:((st.obs.take k).map fun(_,e,cs)=>((0:Nat),e,cs.map (CV.cut l)))[o]? = some (v,e,cs):=q
  rw[List.getElem?_map] at q
  cases hq:(st.obs.take k)[o]? with
  | none=>rw[hq] at q;cases q
  | some y=>
    rw[hq] at q
    obtain⟨v1,e1,cs1⟩:=y
    cases q
    have hk:o<k:=by
     have:=(List.getElem?_eq_some_iff.1 hq).1
     rw[List.length_take] at this;omega
    rw[List.getElem?_take_of_lt hk] at hq
    obtain⟨b,os,k1,k2,k3⟩:=h.obs o _ _ _ hq
    exact⟨b,os,by show(if o<k then E.ρ o else none)=some b;rw[if_pos hk];exact k1,k2,k3.map fun _ _ q=>q.cut hg⟩
theorem Stw.cut{l:List Nat}{E0:TE}{st0:TS}(h:Stw st0 E0 st E)(hr : ∀o b,E0.ρ o=some b→o<st0.obs.length):Stw st0 E0 (st.cut st0.obs.length l) (E.cut st0.obs.length l):=⟨h.hid,fun o b q=>by
 show(if o<st0.obs.length then E.ρ o else none)=some b
 rw[if_pos (hr o b q)];exact h.rho o b q,fun o v e cs q=>by
 have ho:=(List.getElem?_eq_some_iff.1 q).1
 obtain⟨v',cs',k1⟩:=h.typ o v e cs q
 refine⟨0,cs'.map (CV.cut l),?_⟩
 show((st.obs.take st0.obs.length).map fun(_,e,cs)=>((0:Nat),e,cs.map (CV.cut l)))[o]? = _
 rw[List.getElem?_map,List.getElem?_take_of_lt ho,k1];rfl⟩
def condT(a:AV)(yes no:Prop):Prop:=match a with
 | .r (.c (.s (.sc (.bool t))))=>ifT t yes no
 | _=>False
def seqT (k:TFr→TS→Prop)(Q:CExit→TFr→TS→Prop):CExit→TFr→TS→Prop:=fun x fr st=>match x with
 | .normal=>k fr st
 | x=>Q x fr st
def sameX(i id:Nat)(a b:Prop):Prop:=match Nat.beq i id with
 | true=>a
 | false=>b
def blockT(id:Nat)(Q:CExit→TFr→TS→Prop):CExit→TFr→TS→Prop:=fun x fr st=>match x with
 | .exit i=>sameX i id (Q .normal fr st) (Q (.exit i) fr st)
 | x=>Q x fr st
def loopT(k:Nat)(I:Nat→TFr→TS→Prop)(n:Nat)(Q:CExit→TFr→TS→Prop):CExit→TFr→TS→Prop:=fun x fr st=>match x with
 | .normal=>∃m l,m<n∧nodupB l=true∧I m (fr.cut k l) (st.cut k l)
 | x=>Q x fr st
def twR (Z:TP)(T:Tbl)(X:Pan)(D:TD)(R:Value→Prop):RCode→TFr→TS→(CExit→TFr→TS→Prop)→Prop
 | .skip,fr,st,Q=>Q .normal fr st
 | .reg its,fr,st,Q=>twI Z T X D R its fr st (Q .normal)
 | .drw d,fr,st,Q=>twD Z T X D R d.pan d.its fr st fun f s l c=>chkL f (st::l) c d.its (Q .normal f s) d.chk
 | .seq a b,fr,st,Q=>twR Z T X D R a fr st (seqT (fun f s=>twR Z T X D R b f s Q) Q)
 | .cond c a b,fr,st,Q=>condT (tev fr c) (twR Z T X D R a fr st Q) (twR Z T X D R b fr st Q)
 | .block id c,fr,st,Q=>twR Z T X D R c fr st (blockT id Q)
 | .loop c,fr,st,Q=>∃(I:Nat→TFr→TS→Prop) (n:Nat) (l:List Nat),nodupB l=true∧I n (fr.cut st.obs.length l) (st.cut st.obs.length l)∧∀n f s,I n f s→twR Z T X D R c f s (loopT st.obs.length I n Q)
 | .exit id,fr,st,Q=>Q (.exit id) fr st
 | .ret,fr,st,Q=>Q .ret fr st
 | _,_,_,_=>False
theorem zip_get{α β:Type}{P:List (α×β)}{i:Nat}{s:β}(h:(P.map Prod.snd)[i]? = some s) : ∃G,P[i]? = some (G,s)∧(P.map Prod.fst)[i]? = some G:=by
 rw[List.getElem?_map] at h
 cases hp:P[i]? with
 | none=>rw[hp] at h;cases h
 | some q=>
   rw[hp] at h
   obtain⟨a,b⟩:=q
   cases h
   exact⟨a,rfl,by rw[List.getElem?_map,hp];rfl⟩
theorem chkL_ok(h:TR Z K0 sp W0 K st fr cfr E){S:List TS}{c:List Rec}{its:List Item}{k:Prop} : ∀ {L:List (Item×Nat)},chkL fr S c its k L→k∧∀p∈L,∃s,S[p.2]? = some s∧(wantedF cfr p.1.guard=some false∨∃x d,rdX p.1.op=some x∧p.1.dst=some d∧its.filter (fun i=>decide (i.dst=some d))= [p.1]∧recB (tev fr x) (findR d c) s=true)
 | [],hk=>⟨hk,fun _ q=>(by cases q)⟩
 | p::L,hk=>by
   have hk:chkT fr S c its p (chkL fr S c its k L):=hk
   unfold chkT at hk
   split at hk
   ·exact hk.elim
   ·rename_i s hs
    rcases grd_rel h hk with ⟨_,hk⟩ | ⟨q,hk⟩
    ·split at hk
     ·rename_i x d e1 e2
      obtain⟨h1,h2⟩:=hk
      split at h2
      ·rename_i hb
       obtain⟨g1,g2⟩:=chkL_ok h h2
       refine⟨g1,fun p' hp=> ?_⟩
       rcases List.mem_cons.1 hp with rfl | hp
       ·exact⟨s,hs, .inr ⟨x,d,e1,e2,h1,hb⟩⟩
       ·exact g2 p' hp
      ·exact h2.elim
     ·exact hk.elim
    ·obtain⟨g1,g2⟩:=chkL_ok h hk
     refine⟨g1,fun p' hp=> ?_⟩
     rcases List.mem_cons.1 hp with rfl | hp
     ·exact⟨s,hs, .inl q⟩
     ·exact g2 p' hp
theorem twR_sound(hD:TDOk T D){R:Value→Prop} : ∀ {c:RCode} {K:CH} {st:TS} {fr:TFr} {cfr:Fr} {E:TE} {Q:CExit→TFr→TS→Prop},TR Z K0 sp W0 K st fr cfr E→twR Z T X D R c fr st Q→WxR T X c cfr K (fun x cfr' K'=>∃fr' st' E',TR Z K0 sp W0 K' st' fr' cfr' E'∧Stw st E st' E'∧Q x fr' st') (PX K0 sp W0 R):=by
 intro c
 induction c with
 | skip=>intro K st fr cfr E Q h hk;exact .inl ⟨0,_,_,_,rfl,fr,st,E,h,Stw.refl,hk⟩
 | reg its=>
   intro K st fr cfr E Q h hk
   exact wxR_reg ((twI_sound hD h hk).mono fun f H ⟨fr',st',E',t1,t2,t3⟩=>⟨fr',st',E',t1,t2.w,t3⟩)
 | drw d=>
   intro K st fr cfr E Q h hk
   rcases twD_sound hD h hk with ⟨n,v,H',hd,⟨A,k,Rr,f,args,fr1,H1,e,h2,h3,h4,h5,h6⟩,p2⟩ | hr
   ·obtain⟨Zl,hd⟩:=Option.isSome_iff_exists.1 hd
    exact .inr ⟨n,v,H', .drw e hd (h2 Zl hd).1 h3 (h2 Zl hd).2 h4 h5 h6,p2⟩
   left
   rw[wpR_drw]
   obtain⟨n',f',K',L,z1,fr',st',E',P,C,z2,z3,z4,z5,z6,z7,z8⟩:=hr
   obtain⟨z4',z4⟩:=chkL_ok z2 z4
   refine⟨n',f',K',L,z1,fun p hp=> ?_,fr',st',E',z2,z3.w,z4'⟩
   obtain⟨s,e3,hc⟩:=z4 p hp
   rcases hc with q | ⟨x,d',e1,e2,c1,c2⟩
   rotate_left
   ·obtain⟨G,g1,g2⟩:=zip_get (P:=(K,st)::P) (i:=p.2) (s:=s) e3
    refine⟨G,by rw[z5];exact g2, .inr ?_⟩
    unfold recB at c2
    split at c2
    ·rename_i o off rc e4 e5
     simp only[Bool.and_eq_true] at c2
     have h1:=Nat.eq_of_beq_eq_true c2.1
     have h2:=Nat.eq_of_beq_eq_true c2.2.1
     have h3:=c2.2.2
     obtain⟨hrc,hrd⟩:=findR_ok e5
     obtain⟨b,x',it,ob,r1,r2,r3,r4,r5,r6,r7⟩:=(z7 rc hrc).h
     have hit:it=p.1:=by
      have:it∈d.its.filter (fun i=>decide (i.dst=some d')):=List.mem_filter.2 ⟨r1,by rw[←hrd];simpa using r2⟩
      rw[c1] at this
      exact List.mem_singleton.1 this
     subst hit
     rw[r3] at e1;cases e1
     have hr:=tev_rel z2.frm x
     rw[e4] at hr
     obtain⟨b',hb',hv⟩:=hr.ptr_inv
     have:b'=b:=by rw[←h1] at hb';rw[r4] at hb';cases hb';rfl
     subst this
     obtain⟨y,hy1,hy2⟩:=rdV_lop r3 hv (G:=G)
     refine⟨y,d',hy1,e2,?_⟩
     have hver : ∃e cs,s.obs[rc.o]? = some (rc.ver,e,cs):=by
      unfold verB at h3
      rw[h1]
      split at h3
      ·rename_i v e cs hs;exact⟨e,cs,by rw[hs,Nat.eq_of_beq_eq_true h3]⟩
      ·cases h3
     obtain⟨e,cs,hver⟩:=hver
     have:=r7 (G,s) (List.mem_of_getElem? g1) e cs hver
     rw[hy2]
     show rdV p.1.op (G.ob b') off=_
     rw[show G.ob b'=ob from this,←h2,←hrd]
     exact r6 p.1 (by rw[hrd];exact c1)
    ·cases c2
   ·have hl:p.2<(K::L).length:=by
     rw[z5]
     have:=(List.getElem?_eq_some_iff.1 e3).1
     simpa using this
    exact⟨_,List.getElem?_eq_getElem hl, .inl q⟩
 | seq a b iha ihb=>
   intro K st fr cfr E Q h hk
   refine wxR_seq ((iha h hk).mono (fun x f K' ⟨fr',st',E',t1,t2,t3⟩=> ?_) fun _ _ h=>h)
   cases x with
   | normal=>
     refine(ihb t1 t3).mono (fun x f K' ⟨fr'',st'',E'',s1,s2,s3⟩=>⟨fr'',st'',E'',s1,t2.trans s2,s3⟩) fun _ _ h=>h
   | exit i=>exact⟨fr',st',E',t1,t2,t3⟩
   | ret=>exact⟨fr',st',E',t1,t2,t3⟩
 | cond c a b iha ihb=>
   intro K st fr cfr E Q h hk
   have hk:condT (tev fr c) (twR Z T X D R a fr st Q) (twR Z T X D R b fr st Q):=hk
   unfold condT at hk
   split at hk
   ·rename_i t e
    have hc:=raw_rel (tev_rel h.frm c) (u:= .bool t) (by rw[e];rfl)
    unfold ifT at hk
    split at hk
    ·exact wxR_cond_t hc (iha h hk)
    ·exact wxR_cond_f hc (ihb h hk)
   ·exact hk.elim
 | block id c ih=>
   intro K st fr cfr E Q h hk
   refine wxR_block ((ih h hk).mono (fun x f K' ⟨fr',st',E',t1,t2,t3⟩=> ?_) fun _ _ h=>h)
   cases x with
   | normal=>exact⟨fr',st',E',t1,t2,t3⟩
   | ret=>exact⟨fr',st',E',t1,t2,t3⟩
   | exit i=>
     show if i=id then _ else _
     have t3:sameX i id (Q .normal fr' st') (Q (.exit i) fr' st'):=t3
     unfold sameX at t3
     split at t3
     ·rename_i hi;rw[if_pos (Nat.eq_of_beq_eq_true hi)];exact⟨fr',st',E',t1,t2,t3⟩
     ·rename_i hi;rw[if_neg (Nat.ne_of_beq_eq_false hi)];exact⟨fr',st',E',t1,t2,t3⟩
 | loop c ih=>
   intro K st fr cfr E Q h hk
   obtain⟨I,n,l0,hl0,h0,hs⟩:=hk
   have hr : ∀o b,E.ρ o=some b→o<st.obs.length:=fun o b q=>(h.rho o b q).2.2
   refine wxloop_inv (fun n cfr' K'=>∃fr' st' E',TR Z K0 sp W0 K' st' fr' cfr' E'∧Stw st E st' E'∧I n fr' st') (fun m cfr' K' ⟨fr',st',E',t1,t2,t3⟩=> ?_) (n:=n) ⟨_,_,_,h.cut hl0,Stw.refl.cut hr,h0⟩
   refine(ih t1 (hs m fr' st' t3)).mono (fun x f K'' ⟨fr'',st'',E'',s1,s2,s3⟩=> ?_) fun _ _ h=>h
   cases x with
   | normal=>
     obtain⟨m',l,k1,k2,k3⟩:=s3
     exact⟨m',k1,_,_,_,s1.cut k2,(t2.trans s2).cut hr,k3⟩
   | exit i=>exact⟨fr'',st'',E'',s1,t2.trans s2,s3⟩
   | ret=>exact⟨fr'',st'',E'',s1,t2.trans s2,s3⟩
 | exit id=>intro K st fr cfr E Q h hk;exact .inl ⟨0,_,_,_,rfl,fr,st,E,h,Stw.refl,hk⟩
 | ret=>intro K st fr cfr E Q h hk;exact .inl ⟨0,_,_,_,rfl,fr,st,E,h,Stw.refl,hk⟩
 | rangeF g key=>intro K st fr cfr E Q h hk;exact hk.elim
 | bad=>intro K st fr cfr E Q h hk;exact hk.elim
end Can
end Go.Proofs.YticlaccbodpkeaaGreatDoor
end
section
namespace Go.Proofs.YticlaccbodpkeaaGreatDoor
namespace Can
open Go Go.RowKit
set_option linter.unusedSimpArgs false
set_option linter.unusedVariables false
def RV.of:AV→Option RV
 | .r x=>x.fz
 | _=>none
def tresV(fr:TFr)(st:TS):RRes→Option RV
 | .tmp t=>RV.of (fr t)
 | .ld t=>(tlop fr st (.ld (.tmp t))).bind RV.of
 | .lda n t=>(tlop fr st (.lda n (.tmp t))).bind RV.of
def tresL(fr:TFr)(st:TS):List RRes→Option (List RV)
 | []=>some []
 | r::rs=>match tresV fr st r,tresL fr st rs with
   | some x,some xs=>some (x::xs)
   | _,_=>none
def tupA:List RV→AV
 | [x]=> .r x
 | l=> .tup l
def selfFin(self:Self)(st:TS):Option (List SV):=match self with
 | none=>some []
 | some _=>match st.obs[0]? with
   | some (_,_,cs)=>allFz cs
   | none=>none
def finT (res:List RRes)(self:Self)(Q:AV→List SV→Prop):CExit→TFr→TS→Prop:=fun x fr st=>match x with
 | .exit _=>False
 | _=>match tresL fr st res,selfFin self st with
   | some l,some s'=>Q (tupA l) s'
   | _,_=>False
def st0:Self→TS
 | none=>⟨0,[]⟩
 | some (e,ss)=>⟨0,[(0,e,ss.map .s)]⟩
variable {T:Tbl} {X:Pan} {Z:TP} {D:TD} {K0 K K' K'':CH} {sp:Option Nat} {W0:Nat→Prop} {st st' st'' st1:TS} {fr fr1:TFr} {cfr:Fr} {E E' E'':TE}
theorem r2_getD : ∀ {az:List AV} {vs:List Value},R2 (AVR K E) az vs→∀t,AVR K E (az.getD t .bad) (vs.getD t undef)
 | _,_, .nil,t=> .bad
 | _,_, .cons h _,0=>h
 | _,_, .cons _ h,t+1=>by simpa using r2_getD h t
theorem TR.start{e:Option Nat}{hid W:Nat→Prop}{self:Self}{args:List AV}{vs:List Value}(h1 : ∀b,hid b→b<K.nx∧sp≠some b)(hW : ∀b,W b→hid b)(h2 : ∀b,Z.N b→b<K.nx∧sp≠some b∧¬W b∧K.ob b=Z.M b)(h3:R2 (AVR K (E0 sp hid)) args vs)(h4:SelfR K (E0 sp hid) sp self)(h5:SJ Z K sp W self):TR Z K sp W K (st0 self) (fun t=>args.getD t .bad) (fun t=>vs.getD t undef) (E0 sp hid):=by
 have hρ : ∀o b,(if o=0 then sp else none)=some b→o=0∧sp=some b:=fun o b q=>by
  split at q
  ·rename_i e;exact⟨e,q⟩
  ·cases q
 have hself : ∀b,sp=some b→∃e ss os,self=some (e,ss)∧b<K.nx∧K.ob b= .cells os e .ex∧R2 (SVR K (Frz K (E0 sp hid))) ss os:=fun b hb=>by
  match self,h4 with
  | none,h4=>rw[show sp=none from h4] at hb;cases hb
  | some (e,ss),⟨p,os,k1,k2,k3,k4⟩=>rw[k1] at hb;cases hb;exact⟨e,ss,os,rfl,k2,k3,k4⟩
 refine⟨Nat.le_refl _,fun _ _ _ _=>rfl,h2,fun b hb=>⟨(h1 b hb).1,(fun _ q=>(by cases q)),fun o q=>(h1 b hb).2 (hρ o b q).2⟩,⟨W,fun b hb=>⟨hW b hb, .inl hb⟩,by
  match self,h5 with
  | none,h5=>exact h5
  | some (e,ss),h5=>exact h5⟩,(fun _ _ q=>(by cases q)),(fun _ _ _ q=>(by cases q)),(fun _ _ _ q=>(by cases q)),fun o b q=> ?_,fun o o' b q q'=> ?_,fun o v e cs q=> ?_,r2_getD h3⟩
 ·obtain⟨rfl,k⟩:=hρ o b q
  obtain⟨e,ss,os,rfl,g1,g2,g3⟩:=hself b k
  exact⟨g1, .inr k,Nat.zero_lt_one⟩
 ·rw[(hρ o b q).1,(hρ o' b q').1]
 ·match self,h4,q with
  | none,_,q=>simp[st0] at q
  | some (e',ss),⟨p,os,k1,k2,k3,k4⟩,q=>
    cases o with
    | zero=>
      cases q
      exact⟨p,os,k1,k3,k4.map fun _ _ q=> .s q⟩
    | succ o=>simp[st0] at q
theorem rof_rel{a:AV}{v:Value}(h:AVR K E a v){y:RV}(hy:RV.of a=some y)(h1 : ∀b,Frz K E b→Frz K' E' b∧K'.ob b=K.ob b)(h2 : ∀t b,E.σ t=some b→Frz K' E' b∧K'.ob b=K.ob b):RVR K' E' y v:=by
 cases h with
 | r h=>exact rfz_rel h hy h1 fun t b _ q=>h2 t b q
 | _=>cases hy
theorem tres_rel(h:TR Z K0 sp W0 K st fr cfr E)(h1 : ∀b,Frz K E b→Frz K E' b∧K.ob b=K.ob b)(h2 : ∀t b,E.σ t=some b→Frz K E' b∧K.ob b=K.ob b) : ∀ {res:List RRes} {l:List RV},tresL fr st res=some l→∃vs,resL cfr K res=some vs∧R2 (RVR K E') l vs
 | [],l,q=>by cases q;exact⟨[],rfl, .nil⟩
 | r::rs,l,q=>by
   simp only[tresL] at q
   split at q
   ·rename_i x xs e1 e2
    cases q
    obtain⟨vs,k1,k2⟩:=tres_rel h h1 h2 e2
    have : ∃v,resV cfr K r=some v∧RVR K E' x v:=by
     cases r with
     | tmp t=>exact⟨_,rfl,rof_rel (h.frm t) e1 h1 h2⟩
     | ld t=>
       simp only[tresV] at e1
       cases hl:tlop fr st (.ld (.tmp t)) with
       | none=>rw[hl] at e1;cases e1
       | some a=>
         rw[hl] at e1
         obtain⟨v,g1,g2⟩:=tlop_sound h hl
         exact⟨v,g1,rof_rel g2 e1 h1 h2⟩
     | lda n t=>
       simp only[tresV] at e1
       cases hl:tlop fr st (.lda n (.tmp t)) with
       | none=>rw[hl] at e1;cases e1
       | some a=>
         rw[hl] at e1
         obtain⟨v,g1,g2⟩:=tlop_sound h hl
         exact⟨v,g1,rof_rel g2 e1 h1 h2⟩
    obtain⟨v,g1,g2⟩:=this
    exact⟨v::vs,by simp only[resL,g1,k1], .cons g2 k2⟩
   ·cases q
theorem tc_in(hD:TDOk T D){R:Value→Prop}{f:FuncId}{rf:RFunc}(he:T.ext f=false)(hf:T.fn f=some rf){args:List AV}{self:Self}{Q:AV→List SV→Prop}(hk:twR Z T X D R rf.body (fun t=>args.getD t .bad) (st0 self) (finT rf.res self Q)):TC Z T X f args self Q R:=by
 intro K sp hid W vs h1 hW h2 h3 h4 h5
 have t0:=TR.start (e:=none) h1 hW h2 h3 h4 h5
 refine wxF_in he hf ((twR_sound hD t0 hk).mono (fun x cfr' K' ⟨fr',st',E',t1,t2,t3⟩=> ?_) fun _ _ h=>h)
 have hx : ∃l s',tresL fr' st' rf.res=some l∧selfFin self st'=some s'∧Q (tupA l) s':=by
  unfold finT at t3
  split at t3
  ·exact t3.elim
  ·split at t3
   ·rename_i l s' e1 e2;exact⟨l,s',e1,e2,t3⟩
   ·exact t3.elim
 obtain⟨l,s',e1,e2,e3⟩:=hx
 have hsp : ∀b,sp=some b→E'.ρ 0=some b∧b<K.nx:=fun b hb=>by
  refine⟨t2.rho 0 b (by show(if 0=0 then sp else none)=some b;rw[if_pos rfl,hb]),?_⟩
  match self,h4 with
  | none,h4=>rw[show sp=none from h4] at hb;cases hb
  | some (e,ss),⟨p,os,k1,k2,k3,k4⟩=>rw[k1] at hb;cases hb;exact k2
 have hρ : ∀o b,(E0 sp hid).ρ o=some b→sp=some b:=fun o b q=>by
  have q:(if o=0 then sp else none)=some b:=q
  split at q
  ·exact q
  ·cases q
 have f1 : ∀b,Frz K' E' b→Frz K' (E0 sp E'.hid) b∧K'.ob b=K'.ob b:=fun b hb=>⟨⟨hb.1,hb.2.1,(fun _ q=>(by cases q)),fun o q=>hb.2.2.2 0 (hsp b (hρ o b q)).1⟩,rfl⟩
 have f2 : ∀t b,E'.σ t=some b→Frz K' (E0 sp E'.hid) b∧K'.ob b=K'.ob b:=fun t b hb=>by
  obtain⟨k1,k2,k3⟩:=t1.sig t b hb
  exact⟨⟨k2,fun hh=>(t1.hid b hh).2.1 t hb,(fun _ q=>(by cases q)),fun o q=>t1.sr t 0 b hb (hsp b (hρ o b q)).1⟩,rfl⟩
 obtain⟨vs',g1,g2⟩:=tres_rel t1 f1 f2 e1
 have hfin:finK (resL cfr' K' rf.res) (fun v K'=>K.nx≤K'.nx∧(∀b,b<K.nx→sp≠some b→¬W b→K'.ob b=K.ob b)∧∃hid' W' a s',HW K K' sp hid W hid' W'∧AVR K' (E0 sp hid') a v∧a.clean∧SelfR K' (E0 sp hid') sp (self.map fun p=>(p.1,s'))∧SJ Z K' sp W' (self.map fun p=>(p.1,s'))∧Q a s') K':=by
  rw[g1,finK_some]
  obtain⟨W1,w1,w2⟩:=t1.wr
  have hup : ∀b,hid b→E'.hid b:=fun b hb=>t2.hid b hb
  have hdn : ∀b,E'.hid b→b<K'.nx:=fun b hb=>(t1.hid b hb).1
  have hav:AVR K' (E0 sp E'.hid) (tupA l) (tupleV vs'):=by
   match l,vs',g2 with
   | [],_, .nil=>exact .tup (vs:= []) .nil
   | [x],_, .cons h .nil=>exact .r h
   | x::y::l,_, .cons h (.cons h' t)=>exact .tup (.cons h (.cons h' t))
  have hcl:(tupA l).clean:=by
   unfold tupA
   split<;>exact trivial
  match self,h4,e2,t2 with
  | none,h4,_,_=>exact⟨t1.nx,t1.keep,E'.hid,fun _=>False,tupA l,s',⟨hup,hdn,fun _ h=>h.elim⟩,hav,hcl,h4,fun _ h=>h,e3⟩
  | some (e,ss),⟨p,os,k1,k2,k3,k4⟩,e2,t2=>
    obtain⟨v',cs',q1⟩:=t2.typ 0 0 e (ss.map .s) rfl
    obtain⟨b,os',r1,r2,r3⟩:=t1.obs 0 v' e cs' q1
    rw[(hsp p k1).1] at r1;cases r1
    simp only[selfFin,q1] at e2
    obtain⟨lk1,lk2⟩:=lks_fz e2
    refine⟨t1.nx,t1.keep,E'.hid,W1,tupA l,s',⟨hup,hdn,w1⟩,hav,hcl,⟨p,os',k1,Nat.lt_of_lt_of_le k2 t1.nx,r2,allFz_rel f1 r3 e2 fun t b _ q=>f2 t b q⟩,?_,e3⟩
    show JR Z [(0,e,s'.map .s)] K' sp W1
    rw[(hsp p k1).1] at w2
    rw[k1]
    match hst:st'.obs,w2,q1 with
    | (v2,e2',cs2)::r,w2,q1=>
      cases q1
      rcases w2 with ⟨a1,a2⟩ | ⟨a1,p',os2,a2,a3,a4,a5⟩
      ·exact .inl ⟨lk1.trans a1,a2⟩
      ·exact .inr ⟨by rw[lk1];exact a1,p',os2,a2,a3,by rw[a4,←allFz_len e2,List.length_map],by rw[lk1,lk2];exact a5⟩
 cases x with
 | normal=>exact hfin
 | ret=>exact hfin
 | exit i=>unfold finT at t3;exact t3.elim
theorem tc_rG{P:Program}{L:List FuncId}{G:FuncId→List Value→Option Value}(hD:TDOk (tblG P L G) D){R:Value→Prop}{f:Nat}(he:L.elem f=false)(h:(resFunc P (fun N ops=>resD P N ops) f).isSome=true){args:List AV}{self:Self}{Q:AV→List SV→Prop}(k:twR Z (tblG P L G) X D R (rF P f).body (fun t=>args.getD t .bad) (st0 self) (finT (rF P f).res self Q)):TC Z (tblG P L G) X f args self Q R:=by
 refine tc_in hD he ?_ k
 unfold rF
 show resFunc P (fun N ops=>resD P N ops) f=some ((resFunc P (fun N ops=>resD P N ops) f).getD ⟨0,[], .skip⟩)
 cases hr:resFunc P (fun N ops=>resD P N ops) f with
 | none=>rw[hr] at h;cases h
 | some r=>rfl
def Self.open:Self→Bool
 | none=>true
 | some (_,ss)=>(lks (ss.map .s)).isEmpty
theorem tc_old{R:Value→Prop}{f:FuncId}{args:List AV}{self:Self}{Q:AV→List SV→Prop}(hs:self.open=true)(h : ∀(K:CH) (sp:Option Nat) (hid:Nat→Prop) (vs:List Value),(∀b,hid b→b<K.nx∧sp≠some b)→(∀b,Z.N b→b<K.nx∧sp≠some b∧K.ob b=Z.M b)→R2 (AVR K (E0 sp hid)) args vs→SelfR K (E0 sp hid) sp self→
 WxF T X f vs K (fun v K'=>K.nx≤K'.nx∧(∀b,b<K.nx→sp≠some b→K'.ob b=K.ob b)∧∃a s',AVR K' (E0 sp hid) a v∧a.clean∧SelfR K' (E0 sp hid) sp (self.map fun p=>(p.1,s'))∧lks (s'.map .s)= []∧Q a s') fun v K'=>K.nx≤K'.nx∧(∀b,b<K.nx→sp≠some b→K'.ob b=K.ob b)∧R v):TC Z T X f args self Q R:=by
 intro K sp hid W vs h1 hW h2 h3 h4 h5
 refine(h K sp hid vs h1 (fun b hb=>⟨(h2 b hb).1,(h2 b hb).2.1,(h2 b hb).2.2.2⟩) h3 h4).mono (fun v K' ⟨k1,k2,a,s',k3,k4,k5,k6,k7⟩=>⟨k1,fun b hb hp _=>k2 b hb hp,hid,fun _=>False,a,s',⟨fun _ q=>q,fun b q=>Nat.lt_of_lt_of_le (h1 b q).1 k1,fun _ q=>q.elim⟩,k3,k4,k5,?_,k7⟩) fun v K' ⟨k1,k2,k3⟩=>⟨k1,fun b hb hp _=>k2 b hb hp,k3⟩
 match self with
 | none=>exact fun _ q=>q
 | some (e,ss)=>exact .inl ⟨k6,fun _ q=>q⟩
end Can
end Go.Proofs.YticlaccbodpkeaaGreatDoor
end
section
namespace Go.Proofs.YticlaccbodpkeaaGreatDoor
namespace Can
open Go Go.RowKit
set_option linter.unusedSimpArgs false
set_option linter.unusedVariables false
variable {T:Tbl} {X:Pan} {Z:TP} {D:TD} {R:Value→Prop} {st st1:TS} {fr fr1:TFr}
def CV.inert:CV→Bool
 | .own _ _ _ _=>false
 | _=>true
def allI:List CV→Bool
 | []=>true
 | x::l=>x.inert&&allI l
def RV.inert:RV→Bool
 | .c x=>x.inert
 | .agg cs=>allI cs
def allR:List RV→Bool
 | []=>true
 | x::l=>x.inert&&allR l
def AV.inert(k:Nat):AV→Bool
 | .r x=>x.inert
 | .ptr o _=>Nat.blt o k
 | .eptr (some _) _ _=>false
 | .tup l=>allR l
 | _=>true
theorem CV.inert_act{x:CV}(h:x.inert=true)(g:Nat→SA):x.act g=x:=by cases x<;>first | rfl | cases h
theorem CV.inert_cut{x:CV}(h:x.inert=true)(l:List Nat):x.cut l=x:=by cases x<;>first | rfl | cases h
theorem allI_map{f:CV→CV}(hf : ∀x,x.inert=true→f x=x) : ∀ {cs:List CV},allI cs=true→cs.map f=cs
 | [],_=>rfl
 | x::cs,h=>by
   simp only[allI,Bool.and_eq_true] at h
   rw[List.map_cons,hf x h.1,allI_map hf h.2]
theorem RV.inert_map{x:RV}(h:x.inert=true):(∀g,x.act g=x)∧∀l,x.cut l=x:=by
 cases x with
 | c x=>exact⟨fun g=>congrArg RV.c (CV.inert_act h g),fun l=>congrArg RV.c (CV.inert_cut h l)⟩
 | agg cs=>exact⟨fun g=>congrArg RV.agg (allI_map (fun x hx=>CV.inert_act hx g) h),fun l=>congrArg RV.agg (allI_map (fun x hx=>CV.inert_cut hx l) h)⟩
theorem allR_map{f:RV→RV}(hf : ∀x,x.inert=true→f x=x) : ∀ {cs:List RV},allR cs=true→cs.map f=cs
 | [],_=>rfl
 | x::cs,h=>by
   simp only[allR,Bool.and_eq_true] at h
   rw[List.map_cons,hf x h.1,allR_map hf h.2]
theorem blt_lt{a b:Nat}(h:Nat.blt a b=true):a<b:=by
 have:=Nat.le_of_ble_eq_true h
 omega
theorem AV.inert_act{k:Nat}{a:AV}(h:a.inert k=true)(g:Nat→SA):a.act g=a:=by
 cases a with
 | r x=>exact congrArg AV.r ((RV.inert_map h).1 g)
 | eptr t g off=>cases t<;>first | rfl | cases h
 | tup l=>exact congrArg AV.tup (allR_map (fun x hx=>(RV.inert_map hx).1 g) h)
 | _=>rfl
theorem AV.inert_cut{k k':Nat}{a:AV}(h:a.inert k=true)(hk:k≤k')(l:List Nat):a.cut k' l=a:=by
 cases a with
 | r x=>exact congrArg AV.r ((RV.inert_map h).2 l)
 | ptr o off=>
   have ho:=blt_lt h
   show ltB o k' (.ptr o off) .bad=_
   unfold ltB
   have:Nat.ble k' o=false:=by
    cases hb:Nat.ble k' o with
    | false=>rfl
    | true=>have:=Nat.le_of_ble_eq_true hb;omega
   rw[this]
 | eptr t g off=>cases t<;>first | rfl | cases h
 | tup l'=>exact congrArg AV.tup (allR_map (fun x hx=>(RV.inert_map hx).2 l) h)
 | _=>rfl
theorem fzF_in{k t:Nat}{l:List Nat}(h:(fr t).inert k=true):fzF l fr t=fr t:=by
 rw[fzF_eq];exact AV.inert_act h _
theorem kilF_in{k t:Nat}{o:Option (Nat×TypeId×Nat)}(h:(fr t).inert k=true):kilF o fr t=fr t:=by
 cases o with
 | none=>rfl
 | some p=>obtain⟨a,b⟩:=p;exact AV.inert_act h _
theorem fzS_len{l:List Nat}:(fzS l st).obs.length=st.obs.length:=by
 rw[fzS_eq];show(st.obs.map _).length=_;rw[List.length_map]
theorem kilS_len{o:Option (Nat×TypeId×Nat)}:(kilS o st).obs.length=st.obs.length:=by
 cases o with
 | none=>rfl
 | some p=>obtain⟨a,b⟩:=p;show(st.obs.map _).length=_;rw[List.length_map]
def Kp (k:Nat)(fr:TFr)(st:TS)(fr1:TFr)(st1:TS):Prop:=(∀t,(fr t).inert k=true→fr1 t=fr t)∧st.obs.length≤st1.obs.length
theorem taop_kp{k:Nat}{x:AOp}{a:AV}(h:taop fr st x=some (a,fr1,st1)):Kp k fr st fr1 st1:=by
 cases x with
 | new e z=>
   simp only[taop] at h
   cases hz:zCV z with
   | none=>rw[hz] at h;cases h
   | some cs=>
     rw[hz] at h
     simp only at h
     split at h
     ·cases h;exact⟨fun _ _=>rfl,by simp⟩
     ·cases h
 | box e x=>
   simp only[taop] at h
   cases hz:(tev fr x).cvs with
   | none=>rw[hz] at h;cases h
   | some cs=>
     rw[hz] at h
     simp only at h
     split at h
     ·cases h;exact⟨fun _ _=>rfl,by simp⟩
     ·cases h
 | bsl e sz n z ps=>
   simp only[taop] at h
   split at h
   ·split at h
    ·split at h
     ·cases h;exact⟨fun _ h=>fzF_in h,by show st.obs.length≤(fzS _ st).obs.length;rw[fzS_len];exact Nat.le_refl _⟩
     ·cases h
    ·cases h
   ·cases h
 | _=>cases h
theorem twop_kp{k:Nat}{x:WOp}{a:AV}(h:twop fr st x=some (a,fr1,st1)):Kp k fr st fr1 st1:=by
 cases x with
 | st n x v=>
   simp only[twop] at h
   split at h
   ·split at h
    ·split at h
     ·cases h;exact⟨fun _ _=>rfl,by show st.obs.length≤(st.obs.set _ _).length;rw[List.length_set];exact Nat.le_refl _⟩
     ·cases h
    ·cases h
   ·cases h
 | app e sz bytes s x=>
   simp only[twop] at h
   split at h
   ·split at h
    ·cases h;exact⟨fun _ h=>kilF_in h,by show st.obs.length≤(kilS _ st).obs.length;rw[kilS_len];exact Nat.le_refl _⟩
    ·cases h
   ·cases h
 | _=>cases h
theorem twO_kp{k0:Nat}{op:ROp}{k:AV→TFr→TS→Prop}(h:twO Z T X D op fr st k R):twO Z T X D op fr st (fun a fr1 st1=>k a fr1 st1∧Kp k0 fr st fr1 st1) R:=by
 rw[twO_eq] at h⊢
 have hr:Kp k0 fr st fr st:=⟨fun _ _=>rfl,Nat.le_refl _⟩
 cases op with
 | p x=>
   have h:tpopK fr (fun a=>k a fr st) x:=h
   show tpopK fr (fun a=>k a fr st∧Kp k0 fr st fr st) x
   unfold tpopK at h⊢
   split at h
   ·simp only at h⊢
    split at h
    ·rename_i e1 e2
     obtain⟨h1,n,g,h2,h3,h4⟩:=h
     exact⟨h1,n,g,h2,h3,h4,hr⟩
    ·exact h.elim
   ·simp only at h⊢
    split at h
    ·exact fun q=>⟨h q,hr⟩
    ·exact fun q=>⟨h q,hr⟩
    ·exact fun q=>⟨h q,hr⟩
    ·unfold optT at h⊢
     split at h
     ·exact⟨h,hr⟩
     ·exact h.elim
   ·unfold optT at h⊢
    split at h
    ·exact⟨h,hr⟩
    ·exact h.elim
 | l x=>
   simp only[twO0,optT] at h⊢
   split at h
   ·exact⟨h,hr⟩
   ·exact h.elim
 | a x=>
   have h:taopK fr st k x:=h
   show taopK fr st (fun a fr1 st1=>k a fr1 st1∧Kp k0 fr st fr1 st1) x
   unfold taopK at h⊢
   split at h
   ·simp only at h⊢
    split at h
    ·split at h
     ·obtain⟨h1,h2⟩:=h
      rw[fzK_eq] at h2⊢
      exact⟨h1,h2,fun _ h=>fzF_in h,by show st.obs.length≤(fzS _ st).obs.length;rw[fzS_len];exact Nat.le_refl _⟩
     ·exact h.elim
    ·exact h.elim
   ·unfold optS at h⊢
    split at h
    ·rename_i a fr1 st1 e
     exact⟨h,taop_kp e⟩
    ·exact h.elim
 | w x=>
   have h:twopK fr st k x:=h
   show twopK fr st (fun a fr1 st1=>k a fr1 st1∧Kp k0 fr st fr1 st1) x
   unfold twopK at h⊢
   split at h
   ·simp only at h⊢
    split at h
    ·split at h
     ·obtain⟨h1,h2⟩:=h
      rw[kilK_eq] at h2⊢
      exact⟨h1,h2,fun _ h=>kilF_in h,by show st.obs.length≤(kilS _ st).obs.length;rw[kilS_len];exact Nat.le_refl _⟩
     ·exact h.elim
    ·exact h.elim
   ·unfold optS at h⊢
    split at h
    ·rename_i a fr1 st1 e
     exact⟨h,twop_kp e⟩
    ·exact h.elim
 | call f args=>
   simp only[twO0,callO] at h⊢
   split at h
   ·rename_i hf
    unfold nodeC at h⊢
    split at h
    ·split at h
     ·exact⟨h,hr⟩
     ·exact h.elim
    ·exact h.elim
   ·rw[callT_eq] at h⊢
    unfold callT0 at h⊢
    split at h
    ·exact h.elim
    ·split at h
     ·exact h.mono (fun a s q=>⟨q,fun _ h=>fzF_in h,by show st.obs.length≤(fzS _ st).obs.length;rw[fzS_len];exact Nat.le_refl _⟩) fun _ h=>h
     ·split at h
      ·split at h
       ·exact h.mono (fun a s q=>⟨q,fun _ h=>fzF_in h,by show st.obs.length≤((fzS _ st).obs.set _ _).length;rw[List.length_set,fzS_len];exact Nat.le_refl _⟩) fun _ h=>h
       ·exact h.elim
      ·exact h.elim
 | callv g args=>exact h.elim
def dI (its:List Item)(t:Nat):Bool:=match its with
 | []=>true
 | it::r=>match it.dst with
   | some d=> !(Nat.beq d t)&&dI r t
   | none=>dI r t
def nwT:RCode→Nat→Bool
 | .reg its,t=>dI its t
 | .drw d,t=>dI d.its t
 | .seq a b,t=>nwT a t&&nwT b t
 | .cond _ a b,t=>nwT a t&&nwT b t
 | .block _ c,t=>nwT c t
 | .loop c,t=>nwT c t
 | _,_=>true
theorem putA_in{a:AV}{t:Nat}{it:Item}{r:List Item}(hd:dI (it::r) t=true):putA fr it.dst a t=fr t∧dI r t=true:=by
 simp only[dI] at hd
 split at hd
 ·rename_i d hdst
  simp only[Bool.and_eq_true,Bool.not_eq_true'] at hd
  rw[hdst,putA_if]
  exact⟨if_neg (Ne.symm (Nat.ne_of_beq_eq_false hd.1)),hd.2⟩
 ·rename_i hdst;rw[hdst];exact⟨rfl,hd⟩
theorem grdT_mono{g:Option (Nat×Bool)}{y n y' n':Prop}(h:grdT fr g y n)(hy:y→y')(hn:n→n'):grdT fr g y' n':=by
 unfold grdT at h⊢
 split at h
 ·exact hy h
 ·split at h
  ·unfold ifT at h⊢
   split at h
   ·exact hy h
   ·exact hn h
  ·exact hn h
  ·exact h.elim
def KpC (k:Nat)(W:Nat→Bool)(fr:TFr)(st:TS)(fr1:TFr)(st1:TS):Prop:=(∀t,W t=true→(fr t).inert k=true→fr1 t=fr t)∧st.obs.length≤st1.obs.length
theorem KpC.refl{k:Nat}{W:Nat→Bool}:KpC k W fr st fr st:=⟨fun _ _ _=>rfl,Nat.le_refl _⟩
theorem KpC.trans{k:Nat}{W W' W2:Nat→Bool}{fr2:TFr}{st2:TS}(h:KpC k W fr st fr1 st1)(g:KpC k W' fr1 st1 fr2 st2)(hW : ∀t,W2 t=true→W t=true∧W' t=true):KpC k W2 fr st fr2 st2:=⟨fun t ht hi=>by
 have h1:=h.1 t (hW t ht).1 hi
 rw[g.1 t (hW t ht).2 (by rw[h1];exact hi),h1],Nat.le_trans h.2 g.2⟩
theorem Kp.put{k:Nat}{it:Item}{r:List Item}{a:AV}(h:Kp k fr st fr1 st1):KpC k (fun t=>dI (it::r) t) fr st (putA fr1 it.dst a) st1:=⟨fun t ht hi=>by
 rw[(putA_in (fr:=fr1) (a:=a) ht).1];exact h.1 t hi,h.2⟩
theorem twO_mono{op:ROp}{k k':AV→TFr→TS→Prop}(h:twO Z T X D op fr st k R)(hk : ∀a f s,k a f s→k' a f s):twO Z T X D op fr st k' R:=by
 rw[twO_eq] at h⊢
 cases op with
 | p x=>
   have h:tpopK fr (fun a=>k a fr st) x:=h
   show tpopK fr (fun a=>k' a fr st) x
   unfold tpopK at h⊢
   split at h
   ·simp only at h⊢
    split at h
    ·obtain⟨h1,n,g,h2,h3,h4⟩:=h
     exact⟨h1,n,g,h2,h3,hk _ _ _ h4⟩
    ·exact h.elim
   ·simp only at h⊢
    split at h
    ·exact fun q=>hk _ _ _ (h q)
    ·exact fun q=>hk _ _ _ (h q)
    ·exact fun q=>hk _ _ _ (h q)
    ·unfold optT at h⊢
     split at h
     ·exact hk _ _ _ h
     ·exact h.elim
   ·unfold optT at h⊢
    split at h
    ·exact hk _ _ _ h
    ·exact h.elim
 | l x=>
   simp only[twO0,optT] at h⊢
   split at h
   ·exact hk _ _ _ h
   ·exact h.elim
 | a x=>
   have h:taopK fr st k x:=h
   show taopK fr st k' x
   unfold taopK at h⊢
   split at h
   ·split at h
    ·split at h
     ·obtain⟨h1,h2⟩:=h
      rw[fzK_eq] at h2⊢
      exact⟨h1,hk _ _ _ h2⟩
     ·exact h.elim
    ·exact h.elim
   ·unfold optS at h⊢
    split at h
    ·exact hk _ _ _ h
    ·exact h.elim
 | w x=>
   have h:twopK fr st k x:=h
   show twopK fr st k' x
   unfold twopK at h⊢
   split at h
   ·split at h
    ·split at h
     ·obtain⟨h1,h2⟩:=h
      rw[kilK_eq] at h2⊢
      exact⟨h1,hk _ _ _ h2⟩
     ·exact h.elim
    ·exact h.elim
   ·unfold optS at h⊢
    split at h
    ·exact hk _ _ _ h
    ·exact h.elim
 | call f args=>
   simp only[twO0,callO] at h⊢
   split at h
   ·unfold nodeC at h⊢
    split at h
    ·split at h
     ·exact hk _ _ _ h
     ·exact h.elim
    ·exact h.elim
   ·rw[callT_eq] at h⊢
    unfold callT0 at h⊢
    split at h
    ·exact h.elim
    ·split at h
     ·exact h.mono (fun a s q=>hk _ _ _ q) fun _ h=>h
     ·split at h
      ·split at h
       ·exact h.mono (fun a s q=>hk _ _ _ q) fun _ h=>h
       ·exact h.elim
      ·exact h.elim
 | callv g args=>exact h.elim
theorem twI_mono : ∀ {its:List Item} {fr:TFr} {st:TS} {k k':TFr→TS→Prop},twI Z T X D R its fr st k→(∀f s,k f s→k' f s)→twI Z T X D R its fr st k'
 | [],fr,st,k,k',h,hk=>hk _ _ h
 | it::r,fr,st,k,k',h,hk=>grdT_mono h (fun h=>twO_mono h fun a f s h=>twI_mono h hk) fun h=>twI_mono h hk
theorem twI_kp{k0:Nat} : ∀ {its:List Item} {fr:TFr} {st:TS} {k:TFr→TS→Prop},twI Z T X D R its fr st k→twI Z T X D R its fr st fun f s=>k f s∧KpC k0 (dI its) fr st f s
 | [],fr,st,k,h=>⟨h,KpC.refl⟩
 | it::r,fr,st,k,h=>by
   refine grdT_mono h (fun h=> ?_) fun h=> ?_
   ·refine twO_mono (twO_kp (k0:=k0) h) fun a f s ⟨h1,h2⟩=> ?_
    refine twI_mono (twI_kp h1) fun f' s' ⟨g1,g2⟩=>⟨g1,(h2.put (it:=it) (r:=r) (a:=a)).trans g2 fun t ht=>⟨ht,(putA_in (fr:=fr) (a:= .bad) ht).2⟩⟩
   ·refine twI_mono (twI_kp h) fun f' s' ⟨g1,g2⟩=>⟨g1,(Kp.put (it:=it) (r:=r) (a:= .skip) (k:=k0) (fr:=fr) (st:=st) ⟨fun _ _=>rfl,Nat.le_refl _⟩).trans g2 fun t ht=>⟨ht,(putA_in (fr:=fr) (a:= .bad) ht).2⟩⟩
theorem twD_mono : ∀ {its:List Item} {q:Option (List Item)} {fr:TFr} {st:TS} {k k':TFr→TS→List TS→List Rec→Prop},twD Z T X D R q its fr st k→(∀f s l c,k f s l c→k' f s l c)→twD Z T X D R q its fr st k'
 | [],q,fr,st,k,k',h,hk=>hk _ _ _ _ h
 | it::r,q,fr,st,k,k',h,hk=>grdT_mono h (fun h=>twO_mono h fun a f s h=>by
    rw[fcRs_eq] at h⊢
    exact twD_mono h fun _ _ _ _ h=>hk _ _ _ _ h) fun h=>twD_mono h fun _ _ _ _ h=>hk _ _ _ _ h
theorem twD_kp{k0:Nat} : ∀ {its:List Item} {q:Option (List Item)} {fr:TFr} {st:TS} {k:TFr→TS→List TS→List Rec→Prop},twD Z T X D R q its fr st k→twD Z T X D R q its fr st fun f s l c=>k f s l c∧KpC k0 (dI its) fr st f s
 | [],q,fr,st,k,h=>⟨h,KpC.refl⟩
 | it::r,q,fr,st,k,h=>by
   refine grdT_mono h (fun h=> ?_) fun h=> ?_
   ·refine twO_mono (twO_kp (k0:=k0) h) fun a f s ⟨h1,h2⟩=> ?_
    rw[fcRs_eq] at h1⊢
    refine twD_mono (twD_kp h1) fun f' s' l c ⟨g1,g2⟩=>⟨g1,(h2.put (it:=it) (r:=r) (a:=a)).trans g2 fun t ht=>⟨ht,(putA_in (fr:=fr) (a:= .bad) ht).2⟩⟩
   ·refine twD_mono (twD_kp h) fun f' s' l c ⟨g1,g2⟩=>⟨g1,(Kp.put (it:=it) (r:=r) (a:= .skip) (k:=k0) (fr:=fr) (st:=st) ⟨fun _ _=>rfl,Nat.le_refl _⟩).trans g2 fun t ht=>⟨ht,(putA_in (fr:=fr) (a:= .bad) ht).2⟩⟩
theorem chkL_mono{S:List TS}{c:List Rec}{its:List Item}{k k':Prop}(hk:k→k') : ∀ {L:List (Item×Nat)},chkL fr S c its k L→chkL fr S c its k' L
 | [],h=>hk h
 | p::L,h=>by
   have h:chkT fr S c its p (chkL fr S c its k L):=h
   show chkT fr S c its p (chkL fr S c its k' L)
   unfold chkT at h⊢
   split at h
   ·exact h.elim
   ·refine grdT_mono h (fun h=> ?_) (chkL_mono hk)
    split at h
    ·obtain⟨h1,h2⟩:=h
     refine⟨h1,?_⟩
     split at h2
     ·exact chkL_mono hk h2
     ·exact h2.elim
    ·exact h.elim
theorem condT_mono{a:AV}{y n y' n':Prop}(h:condT a y n)(hy:y→y')(hn:n→n'):condT a y' n':=by
 unfold condT at h⊢
 split at h
 ·unfold ifT at h⊢
  split at h
  ·exact hy h
  ·exact hn h
 ·exact h.elim
theorem loopT_mono{k n:Nat}{I I':Nat→TFr→TS→Prop}{Q Q':CExit→TFr→TS→Prop}(hI : ∀m f s,I m f s→I' m f s)(hQ : ∀x f s,Q x f s→Q' x f s){x:CExit}(h:loopT k I n Q x fr st):loopT k I' n Q' x fr st:=by
 cases x with
 | normal=>obtain⟨m,l,h1,h2,h3⟩:=h;exact⟨m,l,h1,h2,hI _ _ _ h3⟩
 | exit i=>exact hQ _ _ _ h
 | ret=>exact hQ _ _ _ h
theorem sameX_mono{i id:Nat}{a b a' b':Prop}(h:sameX i id a b)(ha:a→a')(hb:b→b'):sameX i id a' b':=by
 unfold sameX at h⊢
 split at h
 ·exact ha h
 ·exact hb h
theorem twR_mono : ∀ {c:RCode} {fr:TFr} {st:TS} {Q Q':CExit→TFr→TS→Prop},twR Z T X D R c fr st Q→(∀x f s,Q x f s→Q' x f s)→twR Z T X D R c fr st Q':=by
 intro c
 induction c with
 | skip=>intro fr st Q Q' h hq;exact hq _ _ _ h
 | reg its=>intro fr st Q Q' h hq;exact twI_mono h fun f s h=>hq _ _ _ h
 | drw d=>intro fr st Q Q' h hq;exact twD_mono h fun f s l c h=>chkL_mono (hq _ _ _) h
 | seq a b iha ihb=>
   intro fr st Q Q' h hq
   refine iha h fun x f s h=> ?_
   cases x with
   | normal=>exact ihb h hq
   | exit i=>exact hq _ _ _ h
   | ret=>exact hq _ _ _ h
 | cond c a b iha ihb=>intro fr st Q Q' h hq;exact condT_mono h (fun h=>iha h hq) fun h=>ihb h hq
 | block id c ih=>
   intro fr st Q Q' h hq
   refine ih h fun x f s h=> ?_
   cases x with
   | normal=>exact hq _ _ _ h
   | exit i=>exact sameX_mono h (hq _ _ _) (hq _ _ _)
   | ret=>exact hq _ _ _ h
 | loop c ih=>
   intro fr st Q Q' h hq
   obtain⟨I,n,l,hl,h0,hs⟩:=h
   exact⟨I,n,l,hl,h0,fun n f s hi=>ih (hs n f s hi) fun x f s h=>loopT_mono (fun _ _ _ h=>h) hq h⟩
 | exit id=>intro fr st Q Q' h hq;exact hq _ _ _ h
 | ret=>intro fr st Q Q' h hq;exact hq _ _ _ h
 | rangeF g key=>intro fr st Q Q' h hq;exact h.elim
 | bad=>intro fr st Q Q' h hq;exact h.elim
theorem twR_kp{k0:Nat} : ∀ {c:RCode} {fr:TFr} {st:TS} {Q:CExit→TFr→TS→Prop},k0≤st.obs.length→twR Z T X D R c fr st Q→twR Z T X D R c fr st fun x f s=>Q x f s∧(∀t,nwT c t=true→(fr t).inert k0=true→f t=fr t)∧k0≤s.obs.length:=by
 intro c
 induction c with
 | skip=>intro fr st Q hk h;exact⟨h,fun _ _ _=>rfl,hk⟩
 | reg its=>intro fr st Q hk h;exact twI_mono (twI_kp (k0:=k0) h) fun f s ⟨h,h1,h2⟩=>⟨h,h1,Nat.le_trans hk h2⟩
 | drw d=>intro fr st Q hk h;exact twD_mono (twD_kp (k0:=k0) h) fun f s l c ⟨h,h1,h2⟩=>chkL_mono (fun h=>⟨h,h1,Nat.le_trans hk h2⟩) h
 | seq a b iha ihb=>
   intro fr st Q hk h
   show twR Z T X D R a fr st _
   refine twR_mono (iha hk h) fun x f s ⟨h,h1,h2⟩=> ?_
   cases x with
   | normal=>
     refine twR_mono (ihb h2 h) fun x f' s' ⟨h,g1,g2⟩=>⟨h,fun t ht hi=> ?_,g2⟩
     simp only[nwT,Bool.and_eq_true] at ht
     have e:=h1 t ht.1 hi
     rw[g1 t ht.2 (by rw[e];exact hi),e]
   | exit i=>exact⟨h,fun t ht hi=>h1 t (by simp only[nwT,Bool.and_eq_true] at ht;exact ht.1) hi,h2⟩
   | ret=>exact⟨h,fun t ht hi=>h1 t (by simp only[nwT,Bool.and_eq_true] at ht;exact ht.1) hi,h2⟩
 | cond c a b iha ihb=>
   intro fr st Q hk h
   refine condT_mono h (fun h=>twR_mono (iha hk h) fun x f s ⟨h,h1,h2⟩=>⟨h,fun t ht hi=>h1 t ?_ hi,h2⟩) fun h=>twR_mono (ihb hk h) fun x f s ⟨h,h1,h2⟩=>⟨h,fun t ht hi=>h1 t ?_ hi,h2⟩
   ·simp only[nwT,Bool.and_eq_true] at ht;exact ht.1
   ·simp only[nwT,Bool.and_eq_true] at ht;exact ht.2
 | block id c ih=>
   intro fr st Q hk h
   show twR Z T X D R c fr st _
   refine twR_mono (ih hk h) fun x f s ⟨h,h1,h2⟩=> ?_
   cases x with
   | normal=>exact⟨h,h1,h2⟩
   | exit i=>exact sameX_mono h (fun h=>⟨h,h1,h2⟩) fun h=>⟨h,h1,h2⟩
   | ret=>exact⟨h,h1,h2⟩
 | loop c ih=>
   intro fr st Q hk h
   obtain⟨I,n,l,hl,h0,hs⟩:=h
   refine⟨fun m f s=>I m f s∧(∀t,nwT c t=true→(fr t).inert k0=true→f t=fr t)∧k0≤s.obs.length,n,l,hl,⟨h0,fun t _ hi=>AV.inert_cut hi hk l,by show k0≤((st.obs.take _).map _).length;rw[List.length_map,List.length_take];omega⟩,fun m f s ⟨hi,ha,hb⟩=> ?_⟩
   refine twR_mono (ih hb (hs m f s hi)) fun x f' s' ⟨h,h1,h2⟩=> ?_
   have hag : ∀t,nwT c t=true→(fr t).inert k0=true→f' t=fr t:=fun t ht hi=>by
    have e:=ha t ht hi
    rw[h1 t ht (by rw[e];exact hi),e]
   cases x with
   | normal=>
     obtain⟨m',l,q1,q2,q3⟩:=h
     refine⟨m',l,q1,q2,q3,fun t ht hi=> ?_,?_⟩
     ·show(f' t).cut _ l=fr t
      rw[hag t ht hi];exact AV.inert_cut hi hk l
     ·show k0≤((s'.obs.take _).map _).length
      rw[List.length_map,List.length_take];omega
   | exit i=>exact⟨h,hag,h2⟩
   | ret=>exact⟨h,hag,h2⟩
 | exit id=>intro fr st Q hk h;exact⟨h,fun _ _ _=>rfl,hk⟩
 | ret=>intro fr st Q hk h;exact⟨h,fun _ _ _=>rfl,hk⟩
 | rangeF g key=>intro fr st Q hk h;exact h.elim
 | bad=>intro fr st Q hk h;exact h.elim
def mixF (c:RCode)(k:Nat)(fr0 f:TFr):TFr:=fun t=>match nwT c t&&(fr0 t).inert k with
 | true=>fr0 t
 | false=>f t
abbrev LoopS(Z:TP)(T:Tbl)(X:Pan)(D:TD)(R:Value→Prop)(c:RCode)(fr0:TFr)(st0:TS)(Q:CExit→TFr→TS→Prop):Prop:=∃(I:Nat→TFr→TS→Prop) (n:Nat) (l:List Nat),nodupB l=true∧I n (fr0.cut st0.obs.length l) (st0.cut st0.obs.length l)∧∀n f s,I n f s→twR Z T X D R c f s (loopT st0.obs.length I n Q)
theorem loop_rule{c:RCode}{Q:CExit→TFr→TS→Prop}{fr0:TFr}{st0:TS}(J:Nat→TFr→TS→Prop)(n:Nat)(l:List Nat)(hl:nodupB l=true)(h0:J n (fr0.cut st0.obs.length l) (st0.cut st0.obs.length l))(hs : ∀m f s,J m f s→f=mixF c st0.obs.length fr0 f→twR Z T X D R c f s (loopT st0.obs.length J m Q)):LoopS Z T X D R c fr0 st0 Q:=by
 refine⟨fun m f s=>J m f s∧(∀t,nwT c t=true→(fr0 t).inert st0.obs.length=true→f t=fr0 t)∧st0.obs.length≤s.obs.length,n,l,hl,⟨h0,fun t _ hi=>AV.inert_cut hi (Nat.le_refl _) l,by show st0.obs.length≤((st0.obs.take _).map _).length;rw[List.length_map,List.length_take];omega⟩,fun m f s ⟨hJ,ha,hb⟩=> ?_⟩
 have hf:f=mixF c st0.obs.length fr0 f:=funext fun t=>by
  unfold mixF
  split
  ·rename_i e
   simp only[Bool.and_eq_true] at e
   exact ha t e.1 e.2
  ·rfl
 refine twR_mono (twR_kp hb (hs m f s hJ hf)) fun x f' s' ⟨h,h1,h2⟩=> ?_
 have hag : ∀t,nwT c t=true→(fr0 t).inert st0.obs.length=true→f' t=fr0 t:=fun t ht hi=>by
  have e:=ha t ht hi
  rw[h1 t ht (by rw[e];exact hi),e]
 cases x with
 | normal=>
   obtain⟨m',l,q1,q2,q3⟩:=h
   refine⟨m',l,q1,q2,q3,fun t ht hi=> ?_,?_⟩
   ·show(f' t).cut _ l=fr0 t
    rw[hag t ht hi];exact AV.inert_cut hi (Nat.le_refl _) l
   ·show st0.obs.length≤((s'.obs.take _).map _).length
    rw[List.length_map,List.length_take];omega
 | exit i=>exact h
 | ret=>exact h
theorem loop_0{c:RCode}{Q:CExit→TFr→TS→Prop}{fr0:TFr}{st0:TS}(J:Nat→TS→Prop)(n:Nat)(l:List Nat)(hl:nodupB l=true)(h0:J n (st0.cut st0.obs.length l))(hs : ∀m f s,J m s→twR Z T X D R c (mixF c st0.obs.length fr0 f) s (loopT st0.obs.length (fun m _ s=>J m s) m Q)):LoopS Z T X D R c fr0 st0 Q:=
 loop_rule (fun m _ s=>J m s) n l hl h0 fun m f s hJ hf=>by rw[hf];exact hs m f s hJ
theorem loop_1{c:RCode}{Q:CExit→TFr→TS→Prop}{fr0:TFr}{st0:TS}(d:Nat)(J:Nat→AV→TS→Prop)(n:Nat)(l:List Nat)(hl:nodupB l=true)(h0:J n ((fr0 d).cut st0.obs.length l) (st0.cut st0.obs.length l))(hs : ∀m a f s,J m a s→twR Z T X D R c (putA (mixF c st0.obs.length fr0 f) (some d) a) s (loopT st0.obs.length (fun m f s=>J m (f d) s) m Q)):LoopS Z T X D R c fr0 st0 Q:=
 loop_rule (fun m f s=>J m (f d) s) n l hl h0 fun m f s hJ hf=>by
  have e:f=putA (mixF c st0.obs.length fr0 f) (some d) (f d):=funext fun t=>by
   rw[putA_if]
   split
   ·rename_i e;rw[e]
   ·rw[←hf]
  rw[e]
  exact hs m (f d) f s hJ
theorem loop_2{c:RCode}{Q:CExit→TFr→TS→Prop}{fr0:TFr}{st0:TS}(d d2:Nat)(J:Nat→AV→AV→TS→Prop)(n:Nat)(l:List Nat)(hl:nodupB l=true)(h0:J n ((fr0 d).cut st0.obs.length l) ((fr0 d2).cut st0.obs.length l) (st0.cut st0.obs.length l))(hs : ∀m a b f s,J m a b s→twR Z T X D R c (putA (putA (mixF c st0.obs.length fr0 f) (some d2) b) (some d) a) s (loopT st0.obs.length (fun m f s=>J m (f d) (f d2) s) m Q)):LoopS Z T X D R c fr0 st0 Q:=
 loop_rule (fun m f s=>J m (f d) (f d2) s) n l hl h0 fun m f s hJ hf=>by
  have e:f=putA (putA (mixF c st0.obs.length fr0 f) (some d2) (f d2)) (some d) (f d):=funext fun t=>by
   rw[putA_if,putA_if]
   split
   ·rename_i e;rw[e]
   ·split
    ·rename_i e;rw[e]
    ·rw[←hf]
  rw[e]
  exact hs m (f d) (f d2) f s hJ
theorem loop_once{c:RCode}{Q:CExit→TFr→TS→Prop}{fr0:TFr}{st0:TS}(l:List Nat)(hl:nodupB l=true)(h : ∀f,twR Z T X D R c (mixF c st0.obs.length fr0 f) (st0.cut st0.obs.length l) (loopT st0.obs.length (fun _ _ _=>False) 0 Q)):LoopS Z T X D R c fr0 st0 Q:=
 loop_rule (fun m f s=>m=0∧s=st0.cut st0.obs.length l) 0 l hl ⟨rfl,rfl⟩ fun m f s ⟨e1,e2⟩ hf=>by
  subst e1 e2
  rw[hf]
  exact twR_mono (h f) fun x f' s' h=>loopT_mono (fun _ _ _ h=>h.elim) (fun _ _ _ h=>h) h
theorem ifT_c{b:Bool}{yes no:Prop}(h1:b=true→yes)(h2:b=false→no):ifT b yes no:=by
 cases b
 ·exact h2 rfl
 ·exact h1 rfl
end Can
end Go.Proofs.YticlaccbodpkeaaGreatDoor
end
section
namespace Go.Proofs.YticlaccbodpkeaaGreatDoor
namespace Can
set_option linter.unusedSimpArgs false
set_option linter.unusedVariables false
def Gd (E:Nat→Prop)(P:List Nd→Nat→Prop):PR→Prop
 | none=>False
 | some (.error e)=>E e
 | some (.ok (l,j))=>P l j
theorem Gd.mono{E E':Nat→Prop}{P P':List Nd→Nat→Prop}{r:PR}(h:Gd E P r)(hE : ∀e,E e→E' e)(hP : ∀l j,P l j→P' l j):Gd E' P' r:=by
 match r,h with
 | some (.error e),h=>exact hE e h
 | some (.ok (l,j)),h=>exact hP l j h
theorem gd_pb{E:Nat→Prop}{P:List Nd→Nat→Prop}{r:PR}{k:List Nd→Nat→PR}:Gd E P (pb r k)↔Gd E (fun l j=>Gd E P (k l j)) r:=by
 match r with
 | none=>exact Iff.rfl
 | some (.error e)=>exact Iff.rfl
 | some (.ok (l,j))=>exact Iff.rfl
theorem gd_pb1{E:Nat→Prop}{P:List Nd→Nat→Prop}{r:PR}{k:Nd→Nat→PR}:Gd E P (pb1 r k)↔Gd E (fun l j=>∃t,l= [t]∧Gd E P (k t j)) r:=by
 match r with
 | none=>exact Iff.rfl
 | some (.error e)=>exact Iff.rfl
 | some (.ok ([],j))=>simp[pb1,pb,Gd]
 | some (.ok ([t],j))=>simp[pb1,pb,Gd]
 | some (.ok (t::u::l,j))=>simp[pb1,pb,Gd]
theorem isT_lt'{ts:List PT}{i:Nat}{s:List UInt8}(h:isT ts i s=true):i<ts.length:=by
 unfold isT at h
 rcases Nat.lt_or_ge i ts.length with g | g
 ·exact g
 ·have hk:(nowT ts i).kind=0:=by
   unfold nowT
   rw[List.getElem?_eq_none g]
   cases ts.getLast?<;>rfl
  rw[hk] at h
  simp at h
theorem kd_lt{ts:List PT}{i:Nat}(h:(nowT ts i).kind≠0):i<ts.length:=by
 rcases Nat.lt_or_ge i ts.length with g | g
 ·exact g
 ·exfalso
  apply h
  unfold nowT
  rw[List.getElem?_eq_none g]
  cases ts.getLast?<;>rfl
theorem isT_no{ts:List PT}{i:Nat}{s:List UInt8}(h:(nowT ts i).kind≠if isWd s=true then 8 else 9):isT ts i s=false:=by
 unfold isT
 apply decide_eq_false
 rintro⟨h1,_,h3⟩
 apply h
 cases hw:isWd s with
 | true=>
   rw[hw] at h3
   rw[if_pos rfl]
   exact of_decide_eq_true h3.symm
 | false=>
   rw[hw] at h3
   rw[if_neg (by decide)]
   rcases h1 with h1 | h1
   ·exact absurd h1 (of_decide_eq_false h3.symm)
   ·exact h1
theorem beg_k{ts:List PT}{i:Nat}(h:4≤(nowT ts i).kind∧(nowT ts i).kind≤7):begT ts i=true:=by
 unfold begT
 rw[decide_eq_true h]
 simp only[Bool.true_or]
theorem beg_n{ts:List PT}{i:Nat}(h : ¬(4≤(nowT ts i).kind∧(nowT ts i).kind≤7))(h8:(nowT ts i).kind≠8)(h9:(nowT ts i).kind≠9):begT ts i=false:=by
 unfold begT
 rw[decide_eq_false h]
 repeat rw[isT_no (by split<;>assumption)]
 rfl
theorem beg_w{ts:List PT}{i:Nat}(h:(nowT ts i).kind=8):begT ts i=(isT ts i s_lambda||isT ts i s_not||isT ts i s_None||isT ts i s_True||isT ts i s_False):=by
 have hn : ∀s,isWd s=false→isT ts i s=false:=fun s hs=>isT_no (by rw[h,hs];decide)
 unfold begT
 rw[decide_eq_false (by rw[h];decide),hn s_plus rfl,hn s_minus rfl,hn s_lpar rfl,hn s_lbrk rfl,hn s_lbrc rfl]
 simp only[Bool.false_or,Bool.or_false]
theorem beg_s{ts:List PT}{i:Nat}(h:(nowT ts i).kind=9):begT ts i=(isT ts i s_plus||isT ts i s_minus||isT ts i s_lpar||isT ts i s_lbrk||isT ts i s_lbrc):=by
 have hn : ∀s,isWd s=true→isT ts i s=false:=fun s hs=>isT_no (by rw[h,hs];decide)
 unfold begT
 rw[decide_eq_false (by rw[h];decide),hn s_lambda rfl,hn s_not rfl,hn s_None rfl,hn s_True rfl,hn s_False rfl]
 simp only[Bool.false_or]
theorem gd_wantB{ts:List PT}{s:List UInt8}{i:Nat}{k:Nat→PR}{E:Nat→Prop}{P:List Nd→Nat→Prop}(h1:E i)(h2:i<ts.length→Gd E P (k (i+1))):Gd E P (wantB ts s i k):=by
 unfold wantB
 split
 ·rename_i h;exact h2 (isT_lt' h)
 ·exact h1
theorem gd_wantK{ts:List PT}{kd:Int}(h0:kd≠0){i:Nat}{k:List UInt8→Nat→PR}{E:Nat→Prop}{P:List Nd→Nat→Prop}(h1:E i)(h2:i<ts.length→Gd E P (k (nowT ts i).text (i+1))):Gd E P (wantK ts kd i k):=by
 unfold wantK
 split
 ·rename_i h;exact h2 (kd_lt (by rw[h];exact h0))
 ·exact h1
theorem gd_if{ts:List PT}{s:List UInt8}{i:Nat}{a b:PR}{E:Nat→Prop}{P:List Nd→Nat→Prop}(h1:i<ts.length→Gd E P a)(h2:Gd E P b):Gd E P (if isT ts i s=true then a else b):=by
 split
 ·rename_i h;exact h1 (isT_lt' h)
 ·exact h2
theorem gd_ite{c:Prop}[Decidable c]{a b:PR}{E:Nat→Prop}{P:List Nd→Nat→Prop}(h1:c→Gd E P a)(h2 : ¬c→Gd E P b):Gd E P (if c then a else b):=by
 split
 ·rename_i h;exact h1 h
 ·rename_i h;exact h2 h
theorem gd_ok{l:List Nd}{j:Nat}{E:Nat→Prop}{P:List Nd→Nat→Prop}(h:P l j):Gd E P (some (.ok (l,j))):=h
theorem gd_er{e:Nat}{E:Nat→Prop}{P:List Nd→Nat→Prop}(h:E e):Gd E P (some (.error e)):=h
theorem gd_pk{t:Nd}{j:Nat}{E:Nat→Prop}{P:List Nd→Nat→Prop}(h:P [t] j):Gd E P (pk1 t j):=h
def NT.rank:NT→Nat
 | .atom=>1
 | .primary=>2
 | .factor=>3
 | .term=>4
 | .arith=>5
 | .compare=>6
 | .not=>7
 | .and=>8
 | .or=>9
 | .expr=>10
 | .exprs=>11
 | .one=>3
 | .places=>4
 | .value=>13
 | .plain=>14
 | .simple=>15
 | .block=>16
 | .stmt=>17
 | .maybe _ _ _=>12
 | .row _ _=>11
 | .index _=>11
 | .list _=>11
 | .braces _=>11
 | .blockL _=>18
 | .ifs _=>11
 | .top _=>18
 | .triesF _ _=>0
 | _=>11
def NT.min:NT→Nat
 | .params _ _ _ | .row _ _ | .exprsL _ _ | .orL _ | .andL _ | .cmpL _ _ | .arithL _ | .termL _ | .primL _ | .clauses _ | .list _ | .braces _ | .dictL _ _ | .placesL _ _ | .maybe _ _ _ | .asgL _ _ | .triesL _ | .triesF _ _ | .top _=>0
 | .stmt=>2
 | _=>1
def NT.good:NT→Prop
 | .asgL _ acc=>acc≠ []
 | _=>True
def NT.acc:NT→Option Nat
 | .row _ acc=>some acc.length
 | .clauses acc=>some acc.length
 | .triesL acc=>some acc.length
 | .top acc=>some acc.length
 | _=>none
def NT.post(a:NT)(i n:Nat)(l:List Nd)(j:Nat):Prop:=i+a.min≤j∧j≤n∧match a.acc with
 | some m=>2*l.length+i≤2*m+j+1∧m≤l.length
 | none=>l.length=1
theorem nd_one_of{l:List Nd}(h:l.length=1) : ∃t,l= [t]:=by
 match l,h with
 | [t],_=>exact⟨t,rfl⟩
theorem last_ne{acc:List Nd}(h:acc≠ []) : ∃t,acc.getLast? = some t:=by
 cases hq:acc.getLast? with
 | none=>exact absurd (List.getLast?_eq_none_iff.1 hq) h
 | some t=>exact⟨t,rfl⟩
def GrOk (ts:List PT)(f:Nat):Prop:=∀(a:NT) (i:Nat),a.good→i≤ts.length→ts.length*64+a.rank<f+i*64→Gd (fun e=>i≤e∧e≤ts.length) (a.post i ts.length) (gr ts f a i)
theorem GrOk.one{ts:List PT}{f:Nat}(h:GrOk ts f){a:NT}{i:Nat}(hg:a.good)(hi:i≤ts.length)(hf:ts.length*64+a.rank<f+i*64){E:Nat→Prop}{P:List Nd→Nat→Prop}(hE : ∀e,i≤e→e≤ts.length→E e){k:Nd→Nat→PR}(ha:a.acc=none)(hP : ∀t j,i+a.min≤j→j≤ts.length→Gd E P (k t j)):Gd E P (pb1 (gr ts f a i) k):=by
 rw[gd_pb1]
 refine(h a i hg hi hf).mono (fun e h=>hE e h.1 h.2) fun l j h=> ?_
 unfold NT.post at h
 rw[ha] at h
 obtain⟨h1,h2,h3⟩:=h
 obtain⟨t,rfl⟩:=nd_one_of h3
 exact⟨t,rfl,hP t j h1 h2⟩
theorem GrOk.lst{ts:List PT}{f:Nat}(h:GrOk ts f){a:NT}{i:Nat}(hg:a.good)(hi:i≤ts.length)(hf:ts.length*64+a.rank<f+i*64){E:Nat→Prop}{P:List Nd→Nat→Prop}(hE : ∀e,i≤e→e≤ts.length→E e){k:List Nd→Nat→PR}(ha:a.acc=some (a.acc.getD 0))(hP : ∀l j,i≤j→j≤ts.length→2*l.length+i≤2*a.acc.getD 0+j+1→a.acc.getD 0≤l.length→Gd E P (k l j)):Gd E P (pb (gr ts f a i) k):=by
 rw[gd_pb]
 refine(h a i hg hi hf).mono (fun e h=>hE e h.1 h.2) fun l j h=> ?_
 unfold NT.post at h
 rw[ha] at h
 obtain⟨h1,h2,h3,h4⟩:=h
 exact hP l j (by omega) h2 h3 h4
theorem GrOk.nxt{ts:List PT}{f:Nat}(h:GrOk ts f){a:NT}{i:Nat}(hg:a.good)(hi:i≤ts.length)(hf:ts.length*64+a.rank<f+i*64){E:Nat→Prop}{P:List Nd→Nat→Prop}(hE : ∀e,i≤e→e≤ts.length→E e)(hP : ∀l j,i+a.min≤j→j≤ts.length→(match a.acc with | some m=>2*l.length+i≤2*m+j+1∧m≤l.length | none=>l.length=1)→P l j):Gd E P (gr ts f a i):=by
 refine(h a i hg hi hf).mono (fun e h=>hE e h.1 h.2) fun l j h=> ?_
 obtain⟨h1,h2,h3⟩:=h
 exact hP l j h1 h2 h3
def OpG (ts:List PT)(i:Nat)(r:Except Nat (Nat×Nat)):Prop:=match r with
 | .error e=>i≤e∧e≤ts.length
 | .ok (op,j)=>(op=0∧j=i)∨(op≠0∧i<j∧j≤ts.length)
theorem opG_if{ts:List PT}{i k:Nat}{s:List UInt8}{a b:Except Nat (Nat×Nat)}(h1:k<ts.length→OpG ts i a)(h2:OpG ts i b):OpG ts i (if isT ts k s=true then a else b):=by
 split
 ·rename_i h;exact h1 (isT_lt' h)
 ·exact h2
theorem opG_ok{ts:List PT}{i op j:Nat}(h0:op≠0)(h1:i<j)(h2:j≤ts.length):OpG ts i (.ok (op,j)):=Or.inr ⟨h0,h1,h2⟩
theorem opG_0{ts:List PT}{i:Nat}:OpG ts i (.ok (0,i)):=Or.inl ⟨rfl,rfl⟩
theorem opG_er{ts:List PT}{i e:Nat}(h1:i≤e)(h2:e≤ts.length):OpG ts i (.error e):=⟨h1,h2⟩
theorem opT_gd{ts:List PT}{i:Nat}(hi:i≤ts.length):OpG ts i (opT ts i):=by
 unfold opT
 repeat' first | exact opG_0 | exact opG_ok (by decide) (by omega) (by omega) | exact opG_er (by omega) (by omega) | refine opG_if (fun h=> ?_) ?_
theorem augT_lt{ts:List PT}{i:Nat}(h : ¬augT ts i=0):i<ts.length:=by
 unfold augT at h
 rcases Nat.lt_or_ge i ts.length with g | g
 ·exact g
 ·exfalso
  have hn : ∀s,isT ts i s=false:=fun s=>by
   cases hs:isT ts i s with
   | true=>have:=isT_lt' hs;omega
   | false=>rfl
  simp[hn] at h
theorem gd_op{ts:List PT}{i:Nat}(hi:i≤ts.length){E:Nat→Prop}{P:List Nd→Nat→Prop}(hE : ∀e,i≤e→e≤ts.length→E e){A:PR}{B:Nat→Nat→PR}(hA:Gd E P A)(hB : ∀op j,i<j→j≤ts.length→Gd E P (B op j)):Gd E P (match opT ts i with | .error e=>some (.error e) | .ok (0,_)=>A | .ok (op+1,j)=>B op j):=by
 have ho:=opT_gd hi
 match opT ts i,ho with
 | .error e,ho=>exact hE e ho.1 ho.2
 | .ok (0,_),_=>exact hA
 | .ok (op+1,j),ho=>
   rcases ho with ⟨h,_⟩ | ⟨_,h1,h2⟩
   ·cases h
   ·exact hB op j h1 h2
set_option maxHeartbeats 4000000 in
theorem grOk_succ{ts:List PT}{f:Nat}(ih:GrOk ts f):GrOk ts (f+1):=by
 intro a i hg hi hf
 cases a
 case' maybe k l c=>cases c
 case' asgL l acc=>obtain⟨t,ht⟩:=last_ne hg
 all_goals first | simp only[gr,ht] | simp only[gr,Bool.false_eq_true,if_false,if_true]
 case' cmpL n acc=>refine gd_op hi (fun e h1 h2=>⟨h1,h2⟩) ?_ fun op j h1 h2=> ?_
 all_goals (repeat' first | (have h0:=kd_lt (by rw[h];decide);clear h) | (have h0:=kd_lt (i:=i) (ts:=ts) (by omega);clear h) | (have h0:=augT_lt h;clear h) | (with_reducible refine gd_if (fun h=> ?_) ?_) | ((with_reducible refine gd_wantB ?_ ?_);exact⟨by omega,by omega⟩;intro h) | ((with_reducible refine gd_wantK ?_ ?_ ?_);decide;exact⟨by omega,by omega⟩;intro h) | ((with_reducible refine gd_er ?_);exact⟨by omega,by omega⟩) | ((with_reducible refine gd_pk ?_);(refine⟨?_,by omega,?_⟩<;>(simp only[NT.min,NT.acc,List.length_nil,List.length_cons,List.length_append]<;>omega))) | ((with_reducible refine gd_ok ?_);(refine⟨?_,by omega,?_⟩<;>(simp only[NT.min,NT.acc,List.length_nil,List.length_cons,List.length_append]<;>omega))) | ((with_reducible refine ih.one ?_ ?_ ?_ ?_ ?_ ?_);(first | exact True.intro | simp[NT.good]);omega;(simp only[NT.rank] at hf⊢;omega);(intro e g5 g6;exact⟨by omega,g6⟩);rfl;intro t j g1 g3;simp only[NT.min] at g1) | ((with_reducible refine ih.lst ?_ ?_ ?_ ?_ ?_ ?_);(first | exact True.intro | simp[NT.good]);omega;(simp only[NT.rank] at hf⊢;omega);(intro e g5 g6;exact⟨by omega,g6⟩);rfl;intro l j g1 g2 g3 g4;(simp only[NT.acc,Option.getD_some,List.length_nil,List.length_cons,List.length_append] at g3 g4)) | ((with_reducible refine ih.nxt ?_ ?_ ?_ ?_ ?_);(first | exact True.intro | simp[NT.good]);omega;(simp only[NT.rank] at hf⊢;omega);(intro e g5 g6;exact⟨by omega,g6⟩);intro l j g1 g3 g4;simp only[NT.acc,List.length_nil,List.length_cons,List.length_append] at g4;simp only[NT.min] at g1;(refine⟨?_,by omega,?_⟩<;>(simp only[NT.min,NT.acc,List.length_nil,List.length_cons,List.length_append]<;>omega))) | (with_reducible refine gd_ite (fun h=> ?_) (fun h=> ?_)))
theorem gr_gd{ts:List PT} : ∀f,GrOk ts f
 | 0=>fun a i _ hi h=>by omega
 | f+1=>grOk_succ (gr_gd f)
end Can
end Go.Proofs.YticlaccbodpkeaaGreatDoor
end
section
namespace Go.Proofs.YticlaccbodpkeaaGreatDoor
namespace Can
set_option linter.unusedSimpArgs false
set_option linter.unusedVariables false
def LeP (a b:PR):Prop:=∀r,a=some r→b=some r
theorem LeP.refl{a:PR}:LeP a a:=fun _ h=>h
theorem le_pb{r r':PR}{k k':List Nd→Nat→PR}(h:LeP r r')(hk : ∀l j,LeP (k l j) (k' l j)):LeP (pb r k) (pb r' k'):=fun x hx=>by
 match r,h,hx with
 | none,_,hx=>cases hx
 | some (.error e),h,hx=>rw[h _ rfl];exact hx
 | some (.ok (l,j)),h,hx=>rw[h _ rfl];exact hk l j x hx
theorem le_pb1{r r':PR}{k k':Nd→Nat→PR}(h:LeP r r')(hk : ∀t j,LeP (k t j) (k' t j)):LeP (pb1 r k) (pb1 r' k'):=le_pb h fun l j=>by
 match l with
 | []=>exact LeP.refl
 | [t]=>exact hk t j
 | _::_::_=>exact LeP.refl
theorem le_wantB{ts:List PT}{s:List UInt8}{i:Nat}{k k':Nat→PR}(hk : ∀j,LeP (k j) (k' j)):LeP (wantB ts s i k) (wantB ts s i k'):=by
 unfold wantB
 split
 ·exact hk _
 ·exact LeP.refl
theorem le_wantK{ts:List PT}{kd:Int}{i:Nat}{k k':List UInt8→Nat→PR}(hk : ∀s j,LeP (k s j) (k' s j)):LeP (wantK ts kd i k) (wantK ts kd i k'):=by
 unfold wantK
 split
 ·exact hk _ _
 ·exact LeP.refl
theorem le_ite{c:Prop}[Decidable c]{a b a' b':PR}(h1:LeP a a')(h2:LeP b b'):LeP (if c then a else b) (if c then a' else b'):=by
 split
 ·exact h1
 ·exact h2
def MnOk (ts:List PT)(f g:Nat):Prop:=∀a i,LeP (gr ts f a i) (gr ts g a i)
theorem mnOk_succ{ts:List PT}{f g:Nat}(ih:MnOk ts f g):MnOk ts (f+1) (g+1):=by
 have ih : ∀a i,LeP (gr ts f a i) (gr ts g a i):=ih
 intro a i
 cases a
 case cmpL n b=>
  simp only[gr]
  split
  all_goals repeat' first | (with_reducible exact LeP.refl) | (with_reducible exact ih _ _) | (with_reducible refine le_ite ?_ ?_) | (with_reducible refine le_wantB fun _=> ?_) | (with_reducible refine le_wantK fun _ _=> ?_) | (with_reducible refine le_pb1 (ih _ _) fun _ _=> ?_) | (with_reducible refine le_pb (ih _ _) fun _ _=> ?_)
 case asgL a b=>
  simp only[gr]
  cases b.getLast? with
  | none=>exact le_ite LeP.refl LeP.refl
  | some t=>repeat' first | (with_reducible exact LeP.refl) | (with_reducible exact ih _ _) | (with_reducible refine le_ite ?_ ?_) | (with_reducible refine le_wantB fun _=> ?_) | (with_reducible refine le_wantK fun _ _=> ?_) | (with_reducible refine le_pb1 (ih _ _) fun _ _=> ?_) | (with_reducible refine le_pb (ih _ _) fun _ _=> ?_)
 all_goals simp only[gr]
 all_goals (repeat' first | (with_reducible exact LeP.refl) | (with_reducible exact ih _ _) | (with_reducible refine le_ite ?_ ?_) | (with_reducible refine le_wantB fun _=> ?_) | (with_reducible refine le_wantK fun _ _=> ?_) | (with_reducible refine le_pb1 (ih _ _) fun _ _=> ?_) | (with_reducible refine le_pb (ih _ _) fun _ _=> ?_))
theorem gr_mn{ts:List PT} : ∀f,MnOk ts f (f+1)
 | 0=>fun a i r h=>by cases h
 | f+1=>mnOk_succ (gr_mn f)
theorem gr_mono{ts:List PT}{f g:Nat}(h:f≤g){a:NT}{i:Nat}{r:Except Nat (List Nd×Nat)}(hr:gr ts f a i=some r):gr ts g a i=some r:=by
 induction h with
 | refl=>exact hr
 | step _ ih=>exact gr_mn _ a i r ih
end Can
end Go.Proofs.YticlaccbodpkeaaGreatDoor
end
section
namespace Go.Proofs.YticlaccbodpkeaaGreatDoor
namespace Can
open Go Go.RowKit
set_option linter.unusedSimpArgs false
set_option linter.unusedVariables false
set_option maxRecDepth 4000
def tokV (t:PT):List Value:= [.int .i64 t.kind, .int .i64 t.line, .string ⟨⟨t.text⟩⟩]
def CTk:CRep PT:=fun _ cs t=>cs=tokV t
def tkC (t:PT):CObj:= .cells (tokV t) 85 .ex
structure Sl where
 q:Option Addr
 n:Nat
 c:Nat
theorem tk_get{K:CH}{q:Option Addr}{c:Nat}{ts:List PT}(h:SlAt 3 CTk K q c ts){i:Nat}(hi:i<ts.length) : ∃l o os e kd,q=some ⟨l,o,none⟩∧K.ob l= .cells os e kd∧l<K.nx∧o+i*3+3≤os.length∧(os.drop (o+i*3)).take 3=tokV ts[i]∧os[o+i*3+1]? = some (.int .i64 ts[i].line):=by
 rcases h with ⟨rfl,_⟩ | ⟨l,o,os,e,kd,rfl,h1,h2,h3,h4,h5,h6⟩
 ·cases hi
 ·have g:_=_:=h6 i hi
  refine⟨l,o,os,e,kd,rfl,h4,h1,by omega,g,?_⟩
  have:os[o+i*3+1]? = (tokV ts[i])[1]? :=by rw[←g,List.getElem?_take_of_lt (by decide),List.getElem?_drop]
  rw[this];rfl
theorem new_set{K:CH}{o o':CObj}:(K.new o).set K.nx o'=K.new o':=by
 unfold CH.set CH.new
 congr 1
 funext k
 by_cases h:k=K.nx
 ·simp[h]
 ·simp[h]
abbrev pS(l:List UInt8):ByteArray:=⟨⟨l⟩⟩
theorem pstr_get{l:List UInt8}{i:Nat}:(pS l)[i]? = l[i]? :=by
 show(if h:i<(pS l).size then some ((pS l)[i]'h) else none)=_
 by_cases h:i<l.length
 ·have h':i<(pS l).size:=h
  rw[dif_pos h',List.getElem?_eq_getElem h];rfl
 ·have h' : ¬i<(pS l).size:=h
  rw[dif_neg h',List.getElem?_eq_none (by omega)]
theorem pstr_eq{a b:List UInt8}:svOf (binOp .eql 0 (.string (pS a)) (.string (pS b)))=some (.bool (decide (a=b))):=by
 have h:((pS a).toList==(pS b).toList)=decide (a=b):=by
  have h : ∀l:List UInt8,(pS l).toList=l:=fun l=>by simp[ByteArray.toList_eq]
  rw[h,h]
  by_cases e:a=b
  ·simp[e]
  ·rw[decide_eq_false e];simpa using e
 simp only[binOp,Op.stringOp,svOf,Pure.pure,h]
def rpC (sl:Sl)(i:Nat):CObj:= .cells [.slice sl.q sl.n sl.c, .int .i64 (i:Nat)] 114 .ex
structure RpP(K:CH)(p:Nat)(sl:Sl)(ts:List PT)(i:Nat):Prop where
 ob:K.ob p=rpC sl i
 pl:p<K.nx
 il:i≤ts.length
 n:sl.n=ts.length
 tk:SlAt 3 CTk K sl.q sl.c ts
end Can
end Go.Proofs.YticlaccbodpkeaaGreatDoor
end
section
namespace Go.Proofs.YticlaccbodpkeaaGreatDoor
namespace Can
open Go Go.RowKit
set_option linter.unusedSimpArgs false
set_option linter.unusedVariables false
set_option maxRecDepth 4000
mutual
def ndS:Nd→List SV
 | .mk k l x o ks=> [.sc (.int .i64 (k:Nat)), .sc (.int .i64 l), .sc (.string ⟨⟨x⟩⟩), .sc (.int .i64 (o:Nat)), .row 5 (ndsS ks)]
def ndsS:List Nd→List (List SV)
 | []=> []
 | n::ks=>ndS n::ndsS ks
end
theorem ndsS_app : ∀ {a b:List Nd},ndsS (a++b)=ndsS a++ndsS b
 | [],b=>rfl
 | n::a,b=>by simp only[List.cons_append,ndsS,ndsS_app]
theorem ndsS_len : ∀ {a:List Nd},(ndsS a).length=a.length
 | []=>rfl
 | n::a=>by simp only[ndsS,List.length_cons,ndsS_len]
theorem ndS_len{t:Nd}:(ndS t).length=5:=by cases t;rfl
theorem ndsS_get : ∀ {a:List Nd} {i:Nat} {t:Nd},a[i]? = some t→(ndsS a)[i]? = some (ndS t)
 | [],i,t,h=>by simp at h
 | n::a,0,t,h=>by simp at h;subst h;rfl
 | n::a,i+1,t,h=>by simpa[ndsS] using ndsS_get (a:=a) (i:=i) (by simpa using h)
def ndA (t:Nd):AV:= .r (.agg ((ndS t).map .s))
def tokA (t:PT):AV:= .r (.agg [cS (.int .i64 t.kind),cS (.int .i64 t.line),cS (.string ⟨⟨t.text⟩⟩)])
structure TkZ(Z:TP)(sl:Sl)(ts:List PT):Prop where
 n:sl.n=ts.length
 q : ∀l o,sl.q=some ⟨l,o,none⟩→Z.N l
 tk : ∀K:CH,(∀b,Z.N b→b<K.nx∧K.ob b=Z.M b)→SlAt 3 CTk K sl.q sl.c ts
theorem tokA_rel{K:CH}{E:TE}{t:PT}:AVR K E (tokA t) (.agg (tokV t).toArray):= .r (.agg (vs:=tokV t) (.cons (.s (.sc rfl)) (.cons (.s (.sc rfl)) (.cons (.s (.sc rfl)) .nil))))
theorem rS_rel{K:CH}{E:TE}{v:Value}(h:isCell v=true):AVR K E (rS v) v:= .r (.c (.s (.sc h)))
theorem r2_rS{K:CH}{E:TE} : ∀ {L:List Value} {vs:List Value},R2 (AVR K E) (L.map rS) vs→vs=L
 | [],_, .nil=>rfl
 | v::L,_, .cons h t=>by rw[r2_rS t,raw_rel h rfl]
theorem tc_self{Z:TP}{T:Tbl}{X:Pan}{f:FuncId}{args:List AV}{e:TypeId}{s s':List SV}{Q:AV→List SV→Prop}{R:Value→Prop}(h:s=s')(g:TC Z T X f args (some (e,s')) Q R):TC Z T X f args (some (e,s)) Q R:=by rw[h];exact g
theorem wr_inc{i n:Nat}(h:i<n)(hn:n≤4398046510976):(IntKind.wrap .i64 ((i:Int)+1))=((i+1:Nat):Int):=by
 rw[w_i64 (by omega) (by omega)];omega
def rdS (sl:Sl)(i:Nat):List SV:= [.sc (.slice sl.q sl.n sl.c), .sc (.int .i64 (i:Nat))]
abbrev rdR(sl:Sl)(i:Nat):Self:=some (114,rdS sl i)
section
variable {Z:TP} {X:Pan} {W:Int→Value} {ts:List PT} {sl:Sl} {R:Value→Prop} {Q:AV→List SV→Prop} {E:Nat→Prop} {P:List Nd→Nat→Prop} {i:Nat}
end
end Can
end Go.Proofs.YticlaccbodpkeaaGreatDoor
end
section
namespace Go.Proofs.YticlaccbodpkeaaGreatDoor
namespace Can
open Go Go.RowKit
set_option linter.unusedSimpArgs false
set_option linter.unusedVariables false
set_option maxRecDepth 4000
def wrV (l:Int):Value:= .iface 116 (.agg #[.int .i64 l])
def pX:Pan:=fun f args H v H'=>f=139∧∃p sl ts i,args= [.pointer (some ⟨p,0,none⟩)]∧RpP H p sl ts i∧v=wrV (nowT ts i).line∧H'=H.new (tkC (nowT ts i))
end Can
end Go.Proofs.YticlaccbodpkeaaGreatDoor
end
section
namespace Go.Proofs.YticlaccbodpkeaaGreatDoor
namespace Can
open Go Go.RowKit
set_option linter.unusedSimpArgs false
set_option linter.unusedVariables false
set_option maxRecDepth 4000
end Can
end Go.Proofs.YticlaccbodpkeaaGreatDoor
end
section
namespace Go.Proofs.YticlaccbodpkeaaGreatDoor
namespace Can
open Go Go.RowKit
set_option linter.unusedSimpArgs false
set_option linter.unusedVariables false
set_option maxRecDepth 4000
attribute [local irreducible] TC isT nowT begT
section
variable {Z:TP} {X:Pan} {W:Int→Value} {ts:List PT} {sl:Sl} {R:Value→Prop} {Q:AV→List SV→Prop} {E:Nat→Prop} {P:List Nd→Nat→Prop} {i:Nat}
end
end Can
end Go.Proofs.YticlaccbodpkeaaGreatDoor
end
section
namespace Go.Proofs.YticlaccbodpkeaaGreatDoor
namespace Can
open Go Go.RowKit
set_option linter.unusedSimpArgs false
set_option linter.unusedVariables false
set_option maxRecDepth 4000
attribute [local irreducible] TC isT nowT begT
theorem gr_post{ts:List PT}{f:Nat}{a:NT}{i:Nat}(hg:a.good)(hi:i≤ts.length){E:Nat→Prop}{P:List Nd→Nat→Prop}(h:Gd E P (gr ts f a i)):Gd (fun e=>E e∧e≤ts.length) (fun l j=>P l j∧a.post i ts.length l j) (gr ts f a i):=by
 cases hr:gr ts f a i with
 | none=>rw[hr] at h;exact h
 | some r=>
   have h1:=gr_gd (ts:=ts) (max f (ts.length*64+a.rank+1)) a i hg hi (by omega)
   rw[gr_mono (Nat.le_max_left ..) hr] at h1
   rw[hr] at h
   match r,h,h1 with
   | .error e,h,h1=>exact⟨h,h1.2⟩
   | .ok (l,j),h,h1=>exact⟨h,h1⟩
def ans1:List Nd→AV
 | [t]=>ndA t
 | _=> .bad
def ansL (l:List Nd):AV:= .r (.c (.s (.row 5 (ndsS l))))
def AccV (acc:List Nd)(c:CV):Prop:=(acc= []∧c= .s (.row 5 []))∨(acc≠ []∧c= .own 0 26 5 (ndsS acc))
theorem accV_app{acc:List Nd}{t:Nd}{g:List (List SV)}(h:g=ndsS acc++ [ndS t]):AccV (acc++ [t]) (.own 0 26 5 g):= .inr ⟨by simp,by rw[h,ndsS_app];rfl⟩
theorem ndsS_snoc{acc:List Nd}{t:Nd}:ndsS (acc++ [t])=ndsS acc++ [ndS t]:=by rw[ndsS_app];rfl
theorem sn_agg{a b c d:CV}{acc:List Nd}{t:Nd}{g:List (List SV)}(h:g=ndsS acc++ [ndS t]):AV.r (.agg [a,b,c,d,CV.s (.row 5 g)])=AV.r (.agg [a,b,c,d,CV.s (.row 5 (ndsS (acc++ [t])))]):=by rw[h,ndsS_snoc]
theorem sn_row{acc:List Nd}{t:Nd}{g:List (List SV)}(h:g=ndsS acc++ [ndS t]):AV.r (.c (CV.s (.row 5 g)))=AV.r (.c (CV.s (.row 5 (ndsS (acc++ [t]))))):=by rw[h,ndsS_snoc]
theorem wr_dec{acc:List Nd}(hne:acc≠ [])(hm:(ndsS acc).length≤maxLen):IntKind.wrap .i64 (((ndsS acc).length:Int)-1)=((acc.length-1:Nat):Int):=by
 rw[ndsS_len] at hm⊢
 rw[maxLen_eq] at hm
 have:acc.length≠0:=fun e=>hne (List.length_eq_zero_iff.1 e)
 rw[w_i64 (by omega) (by omega)];omega
theorem last_get{acc:List Nd}{t:Nd}(h:acc.getLast? = some t):acc[acc.length-1]? = some t:=by rw[←h,List.getLast?_eq_getElem?]
theorem gd_pk1{E:Nat→Prop}{P:List Nd→Nat→Prop}{t:Nd}{j:Nat}{k:Nd→Nat→PR}(h:Gd E (fun l j=>∃t,l= [t]∧Gd E P (k t j)) (pk1 t j)):Gd E P (k t j):=by
 obtain⟨t',e,h⟩:=h
 cases e;exact h
theorem bdA{m:Nat}(h:m≤2199023255552):BdA m 64:=⟨by omega,by rw[maxLen_eq];omega⟩
theorem q_eq{Q:AV→List SV→Prop}{a a':AV}{s s':List SV}(ha:a=a')(hs:s=s')(h:Q a' s'):Q a s:=by rw[ha,hs];exact h
theorem len1_c{E:Nat→Prop}{P:List Nd→Nat→Prop}{acc:List Nd}{A B:PR}{b:Bool}{yes no:Prop}(hG:Gd E P (if acc.length=1 then A else B))(hb:b=true↔acc.length=1)(h1:Gd E P A→yes)(h2:Gd E P B→no):ifT b yes no:=by
 refine ifT_c (fun h=> ?_) fun h=> ?_
 ·rw[if_pos (hb.1 h)] at hG;exact h1 hG
 ·rw[if_neg (fun g=>by rw[hb.2 g] at h;cases h)] at hG;exact h2 hG
theorem ite_andP{p q:Prop}[Decidable p][Decidable q]{a b:PR}:(if p∧q then a else b)=if p then (if q then a else b) else b:=by
 by_cases hp:p<;>by_cases hq:q<;>simp[hp,hq]
abbrev oN(cs:List CV):Nat×TypeId×List CV:=(0,26,cs)
abbrev nzC:List CV:= [cS (.int .i64 0),cS (.int .i64 0),cS (.string ⟨⟨[]⟩⟩),cS (.int .i64 0), .s (.row 5 [])]
abbrev nC(k:Nat)(l:Int)(x:List UInt8)(o:Nat)(c:CV):List CV:= [cS (.int .i64 (k:Nat)),cS (.int .i64 l),cS (.string ⟨⟨x⟩⟩),cS (.int .i64 (o:Nat)),c]
abbrev nA(k:Nat)(l:Int)(x:List UInt8)(o:Nat)(ks:List Nd):List CV:=nC k l x o (.s (.row 5 (ndsS ks)))
def PC (Z:TP)(X:Pan)(W:Int→Value)(ts:List PT)(sl:Sl)(f:Nat)(a:NT)(F:FuncId)(args:List AV)(ans:List Nd→AV):Prop:=
 ∀(i:Nat) (Q:AV→List SV→Prop) (R:Value→Prop) (E:Nat→Prop) (P:List Nd→Nat→Prop),i≤ts.length→Gd E P (gr ts f a i)→(∀e,E e→R (W (nowT ts e).line))→(∀l j,P l j→j≤ts.length→Q (ans l) (rdS sl j))→TC Z (tblG Tryz.prog LG GG) X F args (rdR sl i) Q R
section
variable {Z:TP} {X:Pan} {W:Int→Value} {ts:List PT} {sl:Sl} {R:Value→Prop} {Q:AV→List SV→Prop} {E:Nat→Prop} {P:List Nd→Nat→Prop} {i:Nat}
end
end Can
end Go.Proofs.YticlaccbodpkeaaGreatDoor
end
section
namespace Go.Proofs.YticlaccbodpkeaaGreatDoor
namespace Can
set_option linter.unusedSimpArgs false
set_option linter.unusedVariables false
mutual
def htN:Nd→Nat
 | .mk _ _ _ _ ks=>htL ks+1
def htL:List Nd→Nat
 | []=>0
 | n::ks=>max (htN n) (htL ks)
end
theorem htL_drop{ks:List Nd}{i:Nat}{t:Nd}(h:ks[i]? = some t):htL (ks.drop i)=max (htN t) (htL (ks.drop (i+1))):=by
 obtain⟨hi,rfl⟩:=List.getElem?_eq_some_iff.1 h
 rw[List.drop_eq_getElem_cons hi]
 rfl
theorem htL_mem : ∀ {ks:List Nd} {t:Nd},t∈ks→htN t≤htL ks
 | n::ks,t,h=>by
   rcases List.mem_cons.1 h with rfl | h
   ·exact Nat.le_max_left _ _
   ·exact Nat.le_trans (htL_mem h) (Nat.le_max_right _ _)
mutual
def szN:Nd→Nat
 | .mk _ _ _ _ ks=>szL ks+1
def szL:List Nd→Nat
 | []=>0
 | n::ks=>szN n+szL ks
end
mutual
theorem ht_szN : ∀n:Nd,htN n≤szN n
 | .mk _ _ _ _ ks=>Nat.succ_le_succ (ht_szL ks)
theorem ht_szL : ∀ks:List Nd,htL ks≤szL ks
 | []=>Nat.le_refl _
 | n::ks=>Nat.max_le.2 ⟨Nat.le_trans (ht_szN n) (Nat.le_add_right _ _),Nat.le_trans (ht_szL ks) (Nat.le_add_left _ _)⟩
end
theorem szL_app : ∀ {a b:List Nd},szL (a++b)=szL a+szL b
 | [],b=>(Nat.zero_add _).symm
 | n::a,b=>by simp only[List.cons_append,szL,szL_app,Nat.add_assoc]
def NT.sz:NT→Nat
 | .params _ _ c=>szL c
 | .row _ b=>szL b
 | .exprsL _ b=>szL b
 | .orL a=>szN a
 | .andL a=>szN a
 | .cmpL a b=>szN a+szL b
 | .arithL a=>szN a
 | .termL a=>szN a
 | .primL a=>szN a
 | .index a=>szN a
 | .clauses a=>szL a
 | .dictL _ b=>szL b
 | .placesL _ b=>szL b
 | .names _ _ c=>szL c
 | .asgL _ b=>szL b
 | .blockL a=>szL a
 | .triesL a=>szL a
 | .triesF _ b=>szL b
 | .top a=>szL a
 | _=>0
def NT.lo:NT→Nat
 | .atom=>50
 | .primary=>50
 | .factor=>50
 | .term=>50
 | .arith=>50
 | .compare=>49
 | .expr=>49
 | .exprs=>48
 | .one=>50
 | .places=>49
 | .value=>47
 | .plain=>40
 | .simple=>40
 | .block=>30
 | .stmt=>30
 | .ifs _=>20
 | .not=>49
 | .and=>49
 | .or=>49
 | _=>0
def NT.ad:NT→Nat
 | .exprsL _ _=>1
 | .cmpL _ _=>1
 | .dictL _ _=>1
 | .placesL _ _=>1
 | .params _ _ _=>1
 | .maybe _ _ _=>1
 | .asgL _ _=>1
 | .list _=>1
 | .braces _=>1
 | .triesF _ _=>1
 | _=>0
def GdT (P:List Nd→Nat→Prop)(r:PR):Prop:=Gd (fun _=>True) P r
theorem gd_and{E E':Nat→Prop}{P P':List Nd→Nat→Prop}{r:PR}(h:Gd E P r)(h':Gd E' P' r):Gd (fun e=>E e∧E' e) (fun l j=>P l j∧P' l j) r:=by
 match r,h,h' with
 | some (.error e),h,h'=>exact⟨h,h'⟩
 | some (.ok (l,j)),h,h'=>exact⟨h,h'⟩
theorem gt_if{ts:List PT}{s:List UInt8}{i:Nat}{a b:PR}{P:List Nd→Nat→Prop}(h1:i<ts.length→GdT P a)(h2:GdT P b):GdT P (if isT ts i s=true then a else b):=gd_if h1 h2
theorem gt_ite{c:Prop}[Decidable c]{a b:PR}{P:List Nd→Nat→Prop}(h1:c→GdT P a)(h2 : ¬c→GdT P b):GdT P (if c then a else b):=gd_ite h1 h2
theorem gt_wantB{ts:List PT}{s:List UInt8}{i:Nat}{k:Nat→PR}{P:List Nd→Nat→Prop}(h2:i<ts.length→GdT P (k (i+1))):GdT P (wantB ts s i k):=gd_wantB trivial h2
theorem gt_wantK{ts:List PT}{kd:Int}(h0:kd≠0){i:Nat}{k:List UInt8→Nat→PR}{P:List Nd→Nat→Prop}(h2:i<ts.length→GdT P (k (nowT ts i).text (i+1))):GdT P (wantK ts kd i k):=gd_wantK h0 trivial h2
theorem gt_pk{t:Nd}{j:Nat}{P:List Nd→Nat→Prop}(h:P [t] j):GdT P (pk1 t j):=h
theorem gt_ok{l:List Nd}{j:Nat}{P:List Nd→Nat→Prop}(h:P l j):GdT P (some (.ok (l,j))):=h
theorem gt_er{e:Nat}{P:List Nd→Nat→Prop}:GdT P (some (.error e)):=trivial
def HtOk (ts:List PT)(f:Nat):Prop:=∀(a:NT) (i:Nat),a.good→i≤ts.length→ts.length*64+a.rank<f+i*64→GdT (fun l j=>szL l+64*i+a.lo≤a.sz+64*j+a.ad) (gr ts f a i)
theorem HtOk.one{ts:List PT}{f:Nat}(h:HtOk ts f){a:NT}{i:Nat}{P:List Nd→Nat→Prop}{k:Nd→Nat→PR}(hg:a.good)(hi:i≤ts.length)(hf:ts.length*64+a.rank<f+i*64)(ha:a.acc=none)(hP : ∀t j,i+a.min≤j→j≤ts.length→szN t+64*i+a.lo≤a.sz+64*j+a.ad→GdT P (k t j)):GdT P (pb1 (gr ts f a i) k):=by
 unfold GdT
 rw[gd_pb1]
 refine(gd_and (gr_gd f a i hg hi hf) (h a i hg hi hf)).mono (fun _ _=>trivial) fun l j h=> ?_
 obtain⟨⟨h1,h2,h3⟩,h4⟩:=h
 rw[ha] at h3
 obtain⟨t,rfl⟩:=nd_one_of h3
 exact⟨t,rfl,hP t j h1 h2 h4⟩
theorem HtOk.lst{ts:List PT}{f:Nat}(h:HtOk ts f){a:NT}{i:Nat}{P:List Nd→Nat→Prop}{k:List Nd→Nat→PR}(hg:a.good)(hi:i≤ts.length)(hf:ts.length*64+a.rank<f+i*64)(hP : ∀l j,i+a.min≤j→j≤ts.length→szL l+64*i+a.lo≤a.sz+64*j+a.ad→GdT P (k l j)):GdT P (pb (gr ts f a i) k):=by
 unfold GdT
 rw[gd_pb]
 refine(gd_and (gr_gd f a i hg hi hf) (h a i hg hi hf)).mono (fun _ _=>trivial) fun l j h=> ?_
 obtain⟨⟨h1,h2,h3⟩,h4⟩:=h
 exact hP l j h1 h2 h4
theorem HtOk.nxt{ts:List PT}{f:Nat}(h:HtOk ts f){a:NT}{i:Nat}{P:List Nd→Nat→Prop}(hg:a.good)(hi:i≤ts.length)(hf:ts.length*64+a.rank<f+i*64)(hP : ∀l j,i+a.min≤j→j≤ts.length→szL l+64*i+a.lo≤a.sz+64*j+a.ad→P l j):GdT P (gr ts f a i):=
 (gd_and (gr_gd f a i hg hi hf) (h a i hg hi hf)).mono (fun _ _=>trivial) fun l j ⟨⟨h1,h2,h3⟩,h4⟩=>hP l j h1 h2 h4
theorem gt_op{ts:List PT}{i:Nat}(hi:i≤ts.length){P:List Nd→Nat→Prop}{A:PR}{B:Nat→Nat→PR}(hA:GdT P A)(hB : ∀op j,i<j→j≤ts.length→GdT P (B op j)):GdT P (match opT ts i with | .error e=>some (.error e) | .ok (0,_)=>A | .ok (op+1,j)=>B op j):=by
 have ho:=opT_gd hi
 match opT ts i,ho with
 | .error e,ho=>exact gt_er
 | .ok (0,_),_=>exact hA
 | .ok (op+1,j),ho=>
   rcases ho with ⟨h,_⟩ | ⟨_,h1,h2⟩
   ·cases h
   ·exact hB op j h1 h2
set_option maxHeartbeats 4000000 in
theorem htOk_succ{ts:List PT}{f:Nat}(ih:HtOk ts f):HtOk ts (f+1):=by
 intro a i hg hi hf
 cases a
 case' maybe k l c=>cases c
 case' asgL l acc=>obtain⟨t,ht⟩:=last_ne hg
 case' cmpL n acc=>cases hb:acc.isEmpty
 all_goals first | simp only[gr,ht] | simp only[gr,hb,Bool.false_eq_true,if_false,if_true] | simp only[gr,Bool.false_eq_true,if_false,if_true]
 case' cmpL.false=>refine gt_op hi ?_ fun op j h1 h2=> ?_
 case' cmpL.true=>refine gt_op hi ?_ fun op j h1 h2=> ?_
 all_goals (repeat' first | (have h0:=kd_lt (by rw[h];decide);clear h) | (have h0:=kd_lt (i:=i) (ts:=ts) (by omega);clear h) | (have h0:=augT_lt h;clear h) | (with_reducible refine gt_if (fun h=> ?_) ?_) | ((with_reducible refine gt_wantB ?_);intro h) | ((with_reducible refine gt_wantK ?_ ?_);decide;intro h) | (with_reducible exact gt_er) | ((with_reducible refine gt_pk ?_);(simp only[NT.min,NT.sz,NT.lo,NT.ad,szN,szL,szL_app];omega)) | ((with_reducible refine gt_ok ?_);(simp only[NT.min,NT.sz,NT.lo,NT.ad,szN,szL,szL_app];omega)) | ((with_reducible refine ih.one ?_ ?_ ?_ ?_ ?_);(first | exact True.intro | simp[NT.good]);omega;(simp only[NT.rank] at hf⊢;omega);rfl;intro t j g1 g3 g7;simp only[NT.min,NT.sz,NT.lo,NT.ad,szN,szL,szL_app] at g1 g7) | ((with_reducible refine ih.lst ?_ ?_ ?_ ?_);(first | exact True.intro | simp[NT.good]);omega;(simp only[NT.rank] at hf⊢;omega);intro l j g1 g3 g7;simp only[NT.min,NT.sz,NT.lo,NT.ad,szN,szL,szL_app] at g1 g7) | ((with_reducible refine ih.nxt ?_ ?_ ?_ ?_);(first | exact True.intro | simp[NT.good]);omega;(simp only[NT.rank] at hf⊢;omega);intro l j g1 g3 g7;simp only[NT.min,NT.sz,NT.lo,NT.ad,szN,szL,szL_app] at g1 g7⊢;omega) | (with_reducible refine gt_ite (fun h=> ?_) (fun h=> ?_)))
theorem gr_ht{ts:List PT} : ∀f,HtOk ts f
 | 0=>fun a i _ hi h=>by omega
 | f+1=>htOk_succ (gr_ht f)
end Can
end Go.Proofs.YticlaccbodpkeaaGreatDoor
end
section
namespace Go.Proofs.YticlaccbodpkeaaGreatDoor
namespace Can
open Go Go.RowKit
set_option linter.unusedSimpArgs false
set_option linter.unusedVariables false
set_option maxRecDepth 4000
attribute [local irreducible] TC isT nowT begT
theorem wr_inc'{i n:Nat}(h:i<n)(hn:n≤maxLen):(IntKind.wrap .i64 ((i:Int)+1))=((i+1:Nat):Int):=by
 rw[maxLen_eq] at hn
 rw[w_i64 (by omega) (by omega)];omega
section
variable {Z:TP} {X:Pan} {R:Value→Prop} {Q:AV→List SV→Prop}
theorem placesN_drop{ks:List Nd}{i:Nat}{t:Nd}(h:ks[i]? = some t):placesN (ks.drop i)=(placeN t&&placesN (ks.drop (i+1))):=by
 obtain⟨hi,rfl⟩:=List.getElem?_eq_some_iff.1 h
 rw[List.drop_eq_getElem_cons hi]
 rfl
noncomputable def nsz:Nd→Nat:=fun t=>SizeOf.sizeOf t
theorem nsz_lt{k:Nat}{l:Int}{x:List UInt8}{o:Nat}{ks:List Nd}{t:Nd}(h:t∈ks):nsz t<nsz (.mk k l x o ks):=by
 have h1:=List.sizeOf_lt_of_mem h
 unfold nsz
 rw[Nd.mk.sizeOf_spec]
 omega
theorem max_int(a b:Nat):(if true=true then (if ((b:Nat):Int)>(a:Nat) then ((b:Nat):Int) else (a:Nat)) else if ((b:Nat):Int)<(a:Nat) then ((b:Nat):Int) else (a:Nat))=((max a b:Nat):Int):=by
 rw[if_pos rfl]
 split<;>omega
end
end Can
end Go.Proofs.YticlaccbodpkeaaGreatDoor
end
section
namespace Go.Proofs.YticlaccbodpkeaaGreatDoor
namespace Can
open Go Go.RowKit
set_option linter.unusedSimpArgs false
set_option linter.unusedVariables false
set_option maxRecDepth 4000
attribute [local irreducible] TC isT nowT begT placeN
section
variable {Z:TP} {X:Pan} {W:Int→Value} {ts:List PT} {sl:Sl} {f:Nat}
end
end Can
end Go.Proofs.YticlaccbodpkeaaGreatDoor
end
section
namespace Go.Proofs.YticlaccbodpkeaaGreatDoor
namespace Can
open Go Go.RowKit
set_option linter.unusedSimpArgs false
set_option linter.unusedVariables false
set_option maxRecDepth 4000
attribute [local irreducible] TC isT nowT begT placeN
section
variable {Z:TP} {X:Pan} {W:Int→Value} {ts:List PT} {sl:Sl} {f:Nat}
end
end Can
end Go.Proofs.YticlaccbodpkeaaGreatDoor
end
section
namespace Go.Proofs.YticlaccbodpkeaaGreatDoor
namespace Can
open Go Go.RowKit
set_option linter.unusedSimpArgs false
set_option linter.unusedVariables false
set_option maxRecDepth 4000
def zNd:Nd:= .mk 0 0 [] 0 []
def parseT(ts:List PT):Nd×Int×Int:=match gr ts (ts.length*64+100) (.top []) 0 with
 | some (.ok (l,_))=>if 60<htL l+1 then (zNd,0,11) else (nd 1 (hdLine (nowT ts 0).line l) l,0,0)
 | some (.error e)=>(zNd,(nowT ts e).line,22)
 | none=>(zNd,0,0)
def prZ (H:CH)(sl:Sl):TP:= .plain (fun b=>∃o,sl.q=some ⟨b,o,none⟩) H.ob
theorem prZ_in{H:CH}{sl:Sl}{ts:List PT}(h:SlAt 3 CTk H sl.q sl.c ts){b:Nat}(hb:(prZ H sl).N b):b<H.nx:=by
 obtain⟨o,ho⟩:=hb
 rcases h with ⟨_,_,h | h | h⟩ | ⟨l,o',os,e,k,q,hl,_⟩
 ·rw[h] at ho;cases ho
 ·rw[h] at ho;cases ho
 ·rw[h] at ho;cases ho
 ·rw[q] at ho;cases ho;exact hl
theorem prZ_ok{H:CH}{sl:Sl}{ts:List PT}(h:SlAt 3 CTk H sl.q sl.c ts)(hn:sl.n=ts.length):TkZ (prZ H sl) sl ts:=by
 refine⟨hn,fun l o q=>⟨o,q⟩,fun K hK=> ?_⟩
 rcases h with ⟨h1,h2,h3⟩ | ⟨l,o,os,e,k,q,h1,h2,h3,h4,h5,h6⟩
 ·exact .inl ⟨h1,h2,h3⟩
 ·obtain⟨g1,g2⟩:=hK l ⟨o,q⟩
  exact .inr ⟨l,o,os,e,k,q,g1,h2,h3,g2.trans h4,h5,h6⟩
theorem set_ne'{K:CH}{p b:Nat}{o:CObj}(h:b≠p):(K.set p o).ob b=K.ob b:=by
 simp only[CH.set]
 rw[if_neg h]
theorem tc_wp{T:Tbl}{X:Pan}{f:FuncId}{args:List AV}{Q:AV→List SV→Prop}(h:TC (.plain (fun _=>False) fun _=> .dead) T X f args none Q fun _=>False){K:CH}{vs:List Value}(hv:R2 (AVR K (E0 none fun _=>False)) args vs):WpF T f vs K fun v K'=>HExt K K'∧∃a s',AVR K' (E0 none fun _=>False) a v∧Q a s':=by
 rcases h K none (fun _=>False) (fun _=>False) vs (fun _ h=>h.elim) (fun _ h=>h) (fun _ h=>h.elim) hv rfl (fun _ h=>h) with h | ⟨n,v,H',_,h⟩
 ·exact h.mono fun v K' ⟨h1,h2,hid',W',a,s',_,h3,hc,_,_,h4⟩=>⟨⟨h1,fun b hb=>h2 b hb (by simp) id⟩,a,s',h3.mv0 hc (fun _=>rfl) fun b hb=>⟨⟨hb.1,id,hb.2.2⟩,rfl⟩,h4⟩
 ·exact h.2.2.elim
attribute [local irreducible] TC isT nowT begT placeN
theorem row_slc{K:CH}{A:Nat→Prop}{sz:Nat}{gs:List (List SV)}{w:Value}(h:SVR K A (.row sz gs) w) : ∃a n c,w= .slice a n c:=by
 cases h with
 | row0=>exact⟨_,_,_,rfl⟩
 | row=>exact⟨_,_,_,rfl⟩
theorem nd_rel{K:CH}{A:Nat→Prop}(hA : ∀b,A b→b<K.nx){k:Nat}{l:Int}{x:List UInt8}{o:Nat}{ks:List Nd}{w:Value}(hw:SVR K A (.row 5 (ndsS ks)) w):R2 (AVR K (E0 none fun _=>False)) [ndA (.mk k l x o ks)] [.agg #[.int .i64 (k:Nat), .int .i64 l, .string ⟨⟨x⟩⟩, .int .i64 (o:Nat),w]]:=by
 refine .cons ?_ .nil
 have hw':SVR K (Frz K (E0 none fun _=>False)) (.row 5 (ndsS ks)) w:=hw.mv fun b hb=>⟨⟨hA b hb,fun h=>h,(fun _ q=>(by cases q)),fun o q=>(by
  have q:(if o=0 then none else none)=some b:=q
  split at q<;>cases q)⟩,rfl⟩
 exact .r (.agg (vs:= [.int .i64 (k:Nat), .int .i64 l, .string ⟨⟨x⟩⟩, .int .i64 (o:Nat),w]) (.cons (.s (.sc rfl)) (.cons (.s (.sc rfl)) (.cons (.s (.sc rfl)) (.cons (.s (.sc rfl)) (.cons (.s hw') .nil))))))
def PrO (H:CH)(t:Nd)(ln er:Int)(vs:List Value)(K':CH):Prop:=HExt H K'∧∃os,vs= [.agg os.toArray, .int .i64 ln, .int .i64 er]∧SVRs K' (fun b=>H.nx≤b∧b<K'.nx) (ndS t) os
def TyV (vs:List Value)(K':CH):Prop:=∀a0 a1 a2 a3 b n c r,vs= .agg #[a0,a1,a2,a3, .slice (some ⟨b,0,none⟩) n c]::r→∃cs kd,K'.ob b= .cells cs 26 kd
end Can
end Go.Proofs.YticlaccbodpkeaaGreatDoor
end
