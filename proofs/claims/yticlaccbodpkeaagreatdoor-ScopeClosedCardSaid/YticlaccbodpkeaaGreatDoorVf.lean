/- Runs over trees: reads and writes. Over any program. Runs over trees: an operation. Over any program. Runs over trees: calls. Over any program. Runs over trees: code and functions. Over any program. Runs over trees: a function. Over any program. Runs over trees: loops by what they carry. Over any program. Parse: the grammar answers, whatever the tokens; where it ends, how many nodes. No program in sight. Parse: with more steps the same answer. No program in sight. Parse, the program: the reader in memory; its looks at a token. Parse, the program: what is known of its reader's looks, for runs over trees. Parse, the program: a token that can't stand there: fail panics. -/
import Derived.Test.YticlaccbodpkeaaGreatDoorVe
import Derived.Test.YticlaccbodpkeaaGreatDoorVd
import Derived.Test.YticlaccbodpkeaaGreatDoorVa
open Array renaming length_toList → Nz
open Bool renaming and_eq_true → fJ
open Go renaming FuncId → aU, Operand → au, TypeId → aI, Value → ae
open Go.Value renaming cells → dp
open Iff renaming rfl → dS
open List renaming all_cons → yz, append_assoc → rP, append_nil → jz, cons_append → jU, drop_drop → ir, filter_cons_of_pos → agk, flatMap_append → NF, flatMap_cons → vU, flatten_cons → Ce, getElem?_drop → sP, getElem?_eq_getElem → bM, getElem?_eq_none → wW, getElem?_map → hY, getElem?_set_ne → Jk, getElem?_set_self → Nx, getElem?_take_of_lt → Af, length → rN, length_append → cO, length_cons → cw, length_drop → ky, length_map → fh, length_nil → cX, length_set → Jr, length_take → ny, map_congr_left → wZ, map_cons → dG, mem_append_left → tQ, mem_append_right → Ed, nil_append → mR, take_append_drop → Al, take_of_length_le → qD, take_zero → xd
open Nat renaming add_mul → qC, beq → tT, eq_of_beq_eq_true → Aj, le_of_ble_eq_true → Eb, le_refl → al, le_succ → mQ, le_trans → bW, lt_of_lt_of_le → cj, lt_or_ge → yx, lt_succ_of_lt → yu, ne_of_beq_eq_false → agj
open Option renaming map_some → fg
open True renaming intro → D7
set_option maxHeartbeats 4000000
set_option linter.unusedSimpArgs false
set_option linter.unusedVariables false
namespace Go.Proofs.YticlaccbodpkeaaGreatDoor
namespace Can
section
open Go Go.RowKit
def Vb (fr:aM):Option au->Option Nat
 | none=>some 0
 | some x=>match (eC fr x).raw with
   | some (.int .i64 n)=>if 0<=n then some n.toNat else none
   | _=>none
def zj (fr:aM)(st:TS):iG->Option AV
 | .ld x=>match eC fr x with
   | .ptr o off=>match st.av[o]? with
     | some (_,_,cs)=>(cs[off]?).map λx=> .r (.c x)
     | none=>none
   | .fT _ g off=>(g[off]?).map λx=> .r (.c (.s x))
   | _=>none
 | .kA n x=>match eC fr x with
   | .ptr o off=>match st.av[o]? with
     | some (_,_,cs)=>if off+n<=cs.length then some (.r (.agg ((cs.drop off).take n))) else none
     | none=>none
   | .fT _ g off=>if off+n<=g.length then some (.r (.agg (((g.drop off).take n).map .s))) else none
   | _=>none
 | .Cq e sz x lo hi none=>match eC fr x,Vb fr lo with
   | .r (.c (.s (.row z gs))),some n=>match hi with
     | none=>if z=sz/\sz=5/\e=Bp/\Nat.ble n gs.length=true then some (.r (.c (.s (.sub sz (gs.drop n))))) else none
     | some h=>match (eC fr h).raw with
       | some (.int .i64 m)=>if z=sz/\sz=5/\e=Bp/\0<=m/\Nat.ble n m.toNat=true/\Nat.ble m.toNat gs.length=true then some (.r (.c (.s (.sub sz ((gs.drop n).take (m.toNat-n)))))) else none
       | _=>none
   | _,_=>none
 | _=>none
def CV.fq:CV->List Nat
 | .own t _ _ _=> [t]
 | _=> []
def CV.fz:CV->Option SV
 | .s x=>some x
 | .own _ _ sz gs=>some (vq sz gs)
 | .bad=>none
def vu:List CV->Option (List SV)
 | []=>some []
 | x::r=>match x.fz,vu r with
   | some y,some ys=>some (y::ys)
   | _,_=>none
def nY (l:List Nat):Nat->SA:=λt=>if t∈l then .fz else .cP
def lY(o:Option Nat):Nat->SA:=λt=>if o=some t then .kill else .cP
def Ik (l:List Nat)(fr:aM):aM:=match l with
 | []=>fr
 | l=>fr.act (nY l)
def zk (l:List Nat)(st:TS):TS:=match l with
 | []=>st
 | l=>st.act (nY l)
def Il (sz:Nat):List (Option (List CV))->Option (List (List CV))
 | []=>some []
 | some cs::r=>if cs.length=sz then (Il sz r).map (cs:: ·) else none
 | none::_=>none
def Lu:List (List CV)->Option (List (List SV))
 | []=>some []
 | g::r=>match vu g,Lu r with
   | some y,some ys=>some (y::ys)
   | _,_=>none
def xW (fr:aM)(st:TS):qH->Option (AV×aM×TS)
 | .new e z=>match Fi z with
   | some cs=>if fp cs= [] then some (.ptr st.av.length 0,fr,⟨st.nt,st.av++ [(0,e,cs)]⟩) else none
   | none=>none
 | .box e x=>match (eC fr x).wM with
   | some cs=>if fp cs= [] then some (.ptr st.av.length 0,fr,⟨st.nt,st.av++ [(0,e,cs)]⟩) else none
   | none=>none
 | .AA e sz n z ps=>if ps.map (·.1)=List.range n/\0<n/\n*sz<=16777216/\n<=16777216/\Lp e sz=true then
    match Il sz (ps.map λp=>(eC fr p.2).wM) with
    | some gs=>match Lu gs with
      | some hs=>some (.r (.c (.own st.nt e sz hs)),Ik (gs.flatten.flatMap CV.fq) fr,⟨st.nt+1,(zk (gs.flatten.flatMap CV.fq) st).av⟩)
      | none=>none
    | none=>none
   else none
 | _=>none
def AV.Vc:AV->Option (Option (Nat×aI×Nat)×List (List SV))
 | .r (.c (.own t e sz gs))=>some (some (t,e,sz),gs)
 | .r (.c (.s (.row _ [])))=>some (none,[])
 | _=>none
def Vd(e sz:aI):Option (Nat×aI×Nat)->Prop
 | none=>True
 | some (_,e',oD)=>e'=e/\oD=sz
instance {e sz:aI} : ∀ {o:Option (Nat×aI×Nat)},Decidable (Vd e sz o)
 | none=>inferInstanceAs (Decidable True)
 | some (_,e',oD)=>inferInstanceAs (Decidable (e'=e/\oD=sz))
def Py (o:Option (Nat×aI×Nat))(fr:aM):aM:=match o with
 | none=>fr
 | some (t,_)=>fr.act (lY (some t))
def Fl (o:Option (Nat×aI×Nat))(st:TS):TS:=match o with
 | none=>st
 | some (t,_)=>st.act (lY (some t))
def zl (fr:aM)(st:TS):ja->Option (AV×aM×TS)
 | .st n x v=>match eC fr x,(eC fr v).wM with
   | .ptr o off,some a=>match st.av[o]? with
     | some (nh,e,cs)=>if a.length=n/\off+n<=cs.length/\fp a= []/\fp ((cs.drop off).take a.length)= [] then some (.bad,fr,⟨st.nt,st.av.set o (nh+1,e,cs.take off++a++cs.drop (off+a.length))⟩) else none
     | none=>none
   | _,_=>none
 | .app e sz bytes s x=>match (eC fr s).Vc,(eC fr x).rowOf with
   | some (o,gs),some (_,z,hs)=>if Vd e sz o/\Ij sz z/\(gs.length+hs.length)*bytes<=140737488355328/\gs.length+hs.length<=maxLen/\Lp e sz=true then
      some (.r (.c (.own st.nt e sz (gs++hs))),Py o fr,⟨st.nt+1,(Fl o st).av⟩) else none
   | _,_=>none
 | _=>none
structure gR(K:CH)(st:TS)(E:TE)(K':CH)(aX:TS)(E':TE):Prop where
 hid : ∀b,E.hid b->E'.hid b
 ej : ∀o b,E.ρ o=some b->E'.ρ o=some b
 nh : ∀o v e cs,st.av[o]? = some (v,e,cs)->∃v' cs',aX.av[o]? = some (v',e,cs')/\v<=v'/\(v'=v->∀b,E.ρ o=some b->K'.ob b=K.ob b)
variable {T:bZ} {Z:TP} {K0 K K' Fm:CH} {sp:Option Nat} {W0:Nat->Prop} {st aX vv:TS} {fr:aM} {aK:Fr} {E E' vw:TE}
theorem gR.refl:gR K st E K st E:=⟨λ_ h=>h,λ_ _ h=>h,λo v e cs h=>⟨v,cs,h,al _,λ_ _ _=>rfl⟩⟩
theorem gR.trans(h:gR K st E K' aX E')(g:gR K' aX E' Fm vv vw):gR K st E Fm vv vw:=⟨λb q=>g.hid b (h.hid b q),λo b q=>g.ej o b (h.ej o b q),λo v e cs q=>by
 obtain⟨a,c,d,f,j⟩:=h.nh o v e cs q;obtain⟨v2,k,l,m,l3⟩:=g.nh o a e c d;exact⟨v2,k,l,bW f m,λe b hb=>(l3 Om b (h.ej o b hb)).trans (j Om b hb)⟩⟩
theorem alo{A:Nat->Prop}(a : ∀t,bX K E (fr t) (aK t)){lo:Option au}{n:Nat}(h:Vb fr lo=some n):fF (aJ aK) 0 lo=some (n:Int):=by
 unfold Vb at h;split at h;·cases h;rfl
 rename_i x;split at h
 ·rename_i m e;split at h;·rename_i b;cases h;have:=ut (jR a x) e;simp only[fF,this];rw[Int.toNat_of_nonneg b]
  cases h
 cases h
theorem acK{A:Nat->Prop}{gs:List (List SV)}{sz e:Nat}{v:ae}(h:eJ K A (.row sz gs) v)(h5:sz=5)(he:e=Bp):pT K e v=true:=by
 cases h with
 | pI=>rfl
 | @row b _ os e' kd _ aA hb ho hk hg hs ht=>
   have:=ht h5;subst this he;simp only[pT,ho];cases kd with
   | ro=>cases hk
   | _=>exact beq_self_eq_true _
theorem acL{A:Nat->Prop}{gs:List (List SV)}{sz n m:Nat}{v:ae}(h:eJ K A (.row sz gs) v)(h1:n<=m)(h2:m<=gs.length) : ∃w,sX sz v n m (yL v) false=some w/\eJ K A (.sub sz ((gs.drop n).take (m-n))) w:=by
 cases h with
 | pI=>
   have:n=0/\m=0:=by simp at h2;omega
   obtain⟨d,o⟩:=this;subst d o;exact⟨.slice none 0 0,rfl, .zi⟩
 | @row b _ os e kd _ aA hb ho hk hg hs ht=>
   have q:os.length=gs.length*sz:=by rw[hs.r2.len,Fj hg]
   have j:(n:Int)<=m:=by omega
   have r:sX sz (.slice (some ⟨b,0,none⟩) gs.length gs.length) n m (yL (.slice (some ⟨b,0,none⟩) gs.length gs.length)) false=if 0<=(n:Int)/\(n:Int)<=m/\(m:Int)<=(gs.length:Nat)/\((gs.length:Nat):Int)<=gs.length then (if (n:Int)=(gs.length:Nat) then some (.slice (some ⟨b,0+(n:Int).toNat*sz,none⟩) 0 0) else some (.slice (some ⟨b,0+(n:Int).toNat*sz,none⟩) ((m:Int)-n).toNat (((gs.length:Nat):Int)-n).toNat)) else none:=rfl
   rw[r,iP ⟨Om,j,Om,Int.le_refl _⟩];by_cases hn:n=gs.length
   ·have d:(gs.drop n).take (m-n)= []:=by rw[hn,List.drop_length,List.take_nil]
    rw[iP Om,d];exact⟨_,rfl, .zi⟩
   rw[iN Om];have d:((gs.drop n).take (m-n)).length=((m:Int)-n).toNat:=by rw[ny,ky];omega
   have s:Int.toNat (n:Int)=n:=by omega
   rw[s,Nat.zero_add];by_cases t:m=n
   ·subst t;rw[Nat.sub_self,xd];have u:((m:Int)-m).toNat=0:=by omega
    rw[u];exact⟨_,rfl, .zi⟩
   refine⟨_,rfl,?_⟩;rw[<-d];have c:((gs.drop n).take (m-n)).length=m-n:=by rw[ny,ky];omega
   have f:n*sz+(m-n)*sz<=gs.length*sz:=by rw[<-qC];exact Nat.mul_le_mul_right _ Om
   refine .sub ⟨λe=> ?_,by rw[c];have:=aA.2;omega⟩ hb ho (λg x=>hg g (List.mem_of_mem_drop (List.mem_of_mem_take x))) (by rw[c,q];exact f) ?_ ht;·rw[e] at c;simp at c;omega
   have hd : ∀(l:List (List SV)) (n:Nat),(∀g∈l,g.length=sz)->(l.drop n).flatten=l.flatten.drop (n*sz):=λl=>by
    induction l with
    | nil=>intro n _;simp
    | cons a l k=>
      intro n hg;cases n with
      | zero=>simp
      | succ n=>
        rw[List.drop_succ_cons,k n λg h=>hg g (by simp[h]),Ce,qC,Nat.one_mul,Nat.add_comm,<-ir];congr 1
        have:=hg a Sm;rw[<-this,List.drop_left]
   have ht : ∀(l:List (List SV)) (n:Nat),(∀g∈l,g.length=sz)->(l.take n).flatten=l.flatten.take (n*sz):=λl=>by
    induction l with
    | nil=>intro n _;simp
    | cons a l k=>
      intro n hg;cases n with
      | zero=>simp
      | succ n=>
        have:=hg a Sm;rw[List.take_succ_cons,Ce,k n λg h=>hg g (by simp[h]),Ce,qC,Nat.one_mul,Nat.add_comm,<-this,List.take_append];congr 1
        ·rw[qD Om]
        congr 1;omega
   rw[c,ht _ _ λg h=>hg g (List.mem_of_mem_drop h),hd _ _ hg];exact((hs.r2.drop (n*sz)).take ((m-n)*sz)).Lq
theorem PA(h:TR Z K0 sp W0 K st fr aK E){x:iG}{a:AV}(hx:zj fr st x=some a) : ∃v,aD K (aJ aK) x=some v/\bX K E a v:=by
 cases x with
 | ld x=>
   simp only[zj] at hx;have f:=jR h.gx x;split at hx
   ·rename_i o off e;rw[e] at f;obtain⟨l,hl,hv⟩:=f.xU;split at hx
    ·rename_i nh G cs ho;obtain⟨b,os,u,H,C⟩:=h.av o _ _ _ ho;rw[hl] at u;cases u;cases hc:cs[off]? with
     | none=>rw[hc] at hx;cases hx
     | some y=>
       rw[hc] at hx;cases hx;obtain⟨v,j,k⟩:=C.get hc;exact⟨v,by simp only[aD,hv,H,j], .r (.c k)⟩
    cases hx
   ·rename_i t g off e;rw[e] at f;obtain⟨b,base,os,G,kd,hb,ho,hl,hs,hv⟩:=f.Pw;cases hc:g[off]? with
    | none=>rw[hc] at hx;cases hx
    | some y=>
      rw[hc] at hx;cases hx;obtain⟨v,j,k⟩:=hs.get hc;have L:=(List.getElem?_eq_some_iff.1 hc).1;rw[Af L,sP] at j;exact⟨v,by simp only[aD,hv,ho,j], .r (.c (.s k))⟩
   cases hx
 | kA n x=>
   simp only[zj] at hx;have f:=jR h.gx x;split at hx
   ·rename_i o off e;rw[e] at f;obtain⟨l,hl,hv⟩:=f.xU;split at hx
    ·rename_i nh G cs ho;obtain⟨b,os,u,H,C⟩:=h.av o _ _ _ ho;rw[hl] at u;cases u;split at hx;·rename_i B;cases hx;exact⟨_,by simp only[aD,hv,H];rw[iP (by rw[C.len];exact B)], .r (.agg ((C.drop off).take n))⟩
     cases hx
    cases hx
   ·rename_i t g off e;rw[e] at f;obtain⟨b,base,os,G,kd,hb,ho,hl,hs,hv⟩:=f.Pw;split at hx
    ·rename_i B;cases hx;have q:=(hs.drop off).take n;have e:(((os.drop base).take g.length).drop off).take n=(os.drop (base+off)).take n:=by
      rw[List.drop_take,List.take_take,ir,Nat.min_eq_left Om]
     rw[e] at q;exact⟨_,by simp only[aD,hv,ho];rw[iP Om], .r (.agg (q.map λ_ _ q=> .s q))⟩
    cases hx
   cases hx
 | Cq e sz x lo hi mx=>
   cases mx with
   | some=>cases hx
   | none=>
     simp only[zj] at hx;split at hx
     ·rename_i z gs n M N;have f:=jR h.gx x;rw[M] at f;have J:=alo (A:=λ_=>True) h.gx N;cases f with
      | r f=>cases f with
        | c f=>cases f with
          | s f=>
            obtain⟨v,hv⟩ : ∃v,aJ aK x=v:=⟨_,rfl⟩;rw[hv] at f;have O:At v=gs.length:=by cases f<;>rfl
            split at hx
            ·split at hx
             ·rename_i hc;obtain⟨rfl,h5,he,hc⟩:=hc;cases hx;have hn:=Eb hc;have I:=acK f h5 he;obtain⟨w,j,k⟩:=acL (n:=n) (m:=gs.length) f hn (al _);rw[qD (by rw[ky];omega)] at k;refine⟨w,?_, .r (.c (.s k))⟩;show(match fF (aJ aK) 0 lo,fF (aJ aK) (At (aJ aK x)) none,fF (aJ aK) (yL (aJ aK x)) none with
               | some l,some h,some m=>if pT K e (aJ aK x)&&((none:Option au).isNone||(none:Option au).isSome) then sX z (aJ aK x) l h m (none:Option au).isSome else none
               | _,_,_=>none)=some w
              rw[J,hv,O];show(if pT K e v&&true then _ else _)=some w;rw[I];exact j
             cases hx
            rename_i F;split at hx
            ·rename_i m S;split at hx
             ·rename_i hc;obtain⟨rfl,h5,he,U,V,Y⟩:=hc;cases hx;have hh:=ut (jR h.gx F) S;have I:=acK f h5 he;obtain⟨w,j,k⟩:=acL (n:=n) (m:=m.toNat) f (Eb V) (Eb Y);refine⟨w,?_, .r (.c (.s k))⟩;rw[Int.toNat_of_nonneg U] at j;show(match fF (aJ aK) 0 lo,fF (aJ aK) (At (aJ aK x)) (some F),fF (aJ aK) (yL (aJ aK x)) none with
               | some l,some h,some m=>if pT K e (aJ aK x)&&((none:Option au).isNone||(some F).isSome) then sX z (aJ aK x) l h m (none:Option au).isSome else none
               | _,_,_=>none)=some w
              have hb : ∀d,fF (aJ aK) d (some F)=some m:=λd=>by simp only[fF,hh]
              rw[J,hv,hb];show(if pT K e v&&true then _ else _)=some w;rw[I];exact j
             cases hx
            cases hx
     cases hx
 | _=>cases hx
theorem CV.lZ{x:CV}:x.act (λ_=> .cP)=x:=by cases x<;>rfl
theorem RV.lZ{x:RV}:x.act (λ_=> .cP)=x:=by
 cases x with
 | c x=>exact congrArg RV.c CV.lZ
 | agg cs=>exact congrArg RV.agg ((wZ λx _=>CV.lZ).trans (List.map_id' cs))
theorem AV.lZ{x:AV}:x.act (λ_=> .cP)=x:=by
 cases x with
 | r x=>exact congrArg AV.r RV.lZ
 | fT t g off=>cases t<;>rfl
 | jX l=>exact congrArg AV.jX ((wZ λx _=>RV.lZ).trans (List.map_id' l))
 | _=>rfl
theorem aM.lZ{fr:aM}:fr.act (λ_=> .cP)=fr:=funext λt=>AV.lZ
theorem TS.lZ{st:TS}:(st.act (λ_=> .cP)).av=st.av:=by
 show st.av.map _=_;refine(wZ λx _=> ?_).trans (List.map_id' _);obtain⟨v,e,cs⟩:=x;show(v,e,cs.map (CV.act λ_=> .cP))=(v,e,cs);rw[(wZ λx _=>CV.lZ).trans (List.map_id' cs)]
theorem acM:nY []=λ_=> .cP:=by funext t;simp[nY]
theorem PD{l:List Nat}:Ik l fr=fr.act (nY l):=by
 cases l with
 | nil=>rw[acM,aM.lZ];rfl
 | cons=>rfl
theorem PE{l:List Nat}:(zk l st).av=(st.act (nY l)).av:=by
 cases l with
 | nil=>rw[acM,TS.lZ];rfl
 | cons=>rfl
theorem Im : ∀ {a b:List CV},fp (a++b)=fp a++fp b
 | [],b=>rfl
 | x::a,b=>by
   have c:=Im (a:=a) (b:=b);cases x with
   | s y=>cases y with
     | lk z=>show z::fp (a++b)=z::fp a++fp b;rw[c];rfl
     | sc v=>exact c
     | row sz gs=>exact c
     | sub sz gs=>exact c
   | own=>exact c
   | bad=>exact c
theorem Fq{x:CV}{l:List CV}:fp (x::l)=fp [x]++fp l:=Im (a:= [x]) (b:=l)
theorem acN{g:Nat->SA} : ∀ {cs:List CV},fp (cs.map (CV.act g))=fp cs
 | []=>rfl
 | x::cs=>by
   rw[dG,Fq,Fq (x:=x),acN];congr 1
   cases x with
   | s y=>rfl
   | bad=>rfl
   | own t e sz gs=>
     show fp [match g t with | .cP=>CV.own t e sz gs | .fz=> .s (vq sz gs) | .kill=> .bad]= [];cases g t<;>rfl
theorem Bq{x:CV}{v:ae}{l:List CV}{vs:List ae}:kO (x::l) (v::vs)=kO [x] [v]++kO l vs:=by
 cases x with
 | s y=>cases y<;>rfl
 | bad=>rfl
 | own=>rfl
theorem Lw : ∀ {a b:List CV} {us vs:List ae},a.length=us.length->kO (a++b) (us++vs)=kO a us++kO b vs
 | [],b,[],vs,_=>by simp[kO]
 | x::a,b,u::us,vs,h=>by
   rw[jU,jU,Bq,Lw (by simpa using h),Bq (l:=a),rP]
theorem Ve : ∀ {a:List CV} {us:List ae},fp a= []->kO a us= []
 | [],us,_=>by cases us<;>rfl
 | x::a,us,h=>by
   rw[Fq] at h;obtain⟨h1,h2⟩:=List.append_eq_nil_iff.1 h;cases us with
   | nil=>cases x with
     | s y=>cases y<;>rfl
     | bad=>rfl
     | own=>rfl
   | cons u us=>
     rw[Bq,Ve h2];cases x with
     | s y=>
       cases y with
       | lk x=>cases h1
       | _=>rfl
     | bad=>rfl
     | own=>rfl
theorem acO{g:Nat->SA} : ∀ {cs:List CV} {vs:List ae},kO (cs.map (CV.act g)) vs=kO cs vs
 | [],vs=>rfl
 | x::cs,[]=>by
   cases x with
   | s y=>cases y<;>rfl
   | bad=>rfl
   | own t e sz gs=>
     rw[dG];show kO ((match g t with | .cP=>CV.own t e sz gs | .fz=> .s (vq sz gs) | .kill=> .bad)::_) []= [];cases g t<;>rfl
 | x::cs,v::vs=>by
   rw[dG,Bq,Bq (x:=x),acO];congr 1
   cases x with
   | s y=>rfl
   | bad=>rfl
   | own t e sz gs=>
     show kO [match g t with | .cP=>CV.own t e sz gs | .fz=> .s (vq sz gs) | .kill=> .bad] [v]= [];cases g t<;>rfl
theorem alp{cs us:List CV}{off:Nat}(h1:fp us= [])(h2:fp ((cs.drop off).take us.length)= []):fp (cs.take off++us++cs.drop (off+us.length))=fp cs:=by
 have e:cs=cs.take off++((cs.drop off).take us.length++cs.drop (off+us.length)):=by
  rw[<-ir,Al,Al]
 rw[Im,Im,h1,jz];conv=>rhs;rw[e,Im,Im,h2,mR]
theorem alq{cs us:List CV}{os vs:List ae}{off:Nat}(h1:fp us= [])(h2:fp ((cs.drop off).take us.length)= [])(hl:cs.length=os.length)(hu:us.length=vs.length)(ho:off+us.length<=cs.length):kO (cs.take off++us++cs.drop (off+us.length)) (setCells os off vs)=kO cs os:=by
 have e : ∀ {α:Type} (cs:List α),cs=cs.take off++((cs.drop off).take us.length++cs.drop (off+us.length)):=λcs=>by
  rw[<-ir,Al,Al]
 have a:(cs.take off).length=(os.take off).length:=by simp[hl]
 have a2:((cs.drop off).take us.length).length=((os.drop off).take us.length).length:=by simp[hl]
 unfold setCells;rw[Lw (by rw[cO,cO,a,hu]),Lw a,Ve h1,jz,<-hu];conv=>rhs;rw[e cs,e os,Lw a,Lw a2,Ve h2,mR]
theorem JR.mv{l l':List (Nat×aI×List CV)}{W:Nat->Prop}(h:JR Z l K sp W)(hl:l'.length=l.length)(a : ∀v e cs,l[0]? = some (v,e,cs)->∃v' cs',l'[0]? = some (v',e,cs')/\fp cs'=fp cs/\cs'.length=cs.length/\(fp cs≠ []->∀p os,sp=some p->K.ob p= .cells os e .ex->∃os',K'.ob p= .cells os' e .ex/\os'.length=os.length/\kO cs' os'=kO cs os))(hw : ∀b,W b->K'.ob b=K.ob b)(hn:K.nx<=K'.nx):JR Z l' K' sp W:=by
 match l,l',h,hl,a with
 | [],[],h,_,_=>exact h
 | (v,e,cs)::r,(v',e',cs')::j,h,_,a=>
   obtain⟨v2,k,d,c,f,g⟩:=a v e cs rfl;cases d;rcases h with ⟨h1,h2⟩ | ⟨h1,p,os,h2,h3,h4,h5⟩
   ·exact .inl ⟨c.trans h1,h2⟩
   obtain⟨os',g1,g2,g3⟩:=g h1 p os h2 h3;refine .inr ⟨by rw[c];exact h1,p,os',h2,g1,by rw[g2,h4,f],?_⟩;rw[c,g3];exact Z.jm h5 hw hn
theorem JR.act{l:List (Nat×aI×List CV)}{W:Nat->Prop}{g:Nat->SA}(h:JR Z l K sp W)(hp : ∀p,sp=some p->K'.ob p=K.ob p)(hw : ∀b,W b->K'.ob b=K.ob b)(hn:K.nx<=K'.nx):JR Z (l.map λ(v,e,cs)=>(v,e,cs.map (CV.act g))) K' sp W:=by
 refine h.mv (by rw[fh]) (λv e cs q=>⟨v,cs.map (CV.act g),by rw[hY,q];rfl,acN,by rw[fh],λ_ p os h1 h2=>⟨os,(hp p h1).trans h2,rfl,acO⟩⟩) hw hn
theorem TR.step(h:TR Z K0 sp W0 K st fr aK E){g:Nat->SA}(m:Mv K E g K' E'){Fs:Nat}(k:K.nx<=K'.nx)(hk : ∀b,b<K.nx->(∀t,E.σ t≠some b)->K'.ob b=K.ob b)(u:E'.hid=E.hid)(n : ∀t b,E'.σ t=some b->K0.nx<=b/\b<K'.nx/\t<Fs/\(∀o,E.ρ o≠some b)/\¬E.hid b)(r : ∀t t' b,E'.σ t=some b->E'.σ t'=some b->t=t')(j:E'.ρ=E.ρ):TR Z K0 sp W0 K' ⟨Fs,(st.act g).av⟩ (fr.act g) aK E':=by
 have f : ∀b,b<K0.nx->K'.ob b=K.ob b:=λb hb=>hk b (cj hb h.nx) λt ht=>by have:=(h.sig t b ht).1;omega
 refine⟨bW h.nx k,λb hb hp hw=>(f b hb).trans (h.cP b hb hp hw),λb hb=> ?_,λb hb=> ?_,?_,λt b q=> ?_,r,λt o b q=> ?_,λo b q=> ?_,λo o' b q l=> ?_,λo v e cs q=> ?_,λt=>(h.gx t).mv m⟩;·obtain⟨a,c,d,x⟩:=h.ur b hb;exact⟨a,c,d,(f b a).trans x⟩
 ·rw[u] at hb;obtain⟨a,c,d⟩:=h.hid b hb;exact⟨cj a k,λt q=>(n t b q).2.2.2.2 hb,λo q=>d o (by rwa [j] at q)⟩
 ·obtain⟨W,w,z⟩:=h.wr;refine⟨W,λb hb=>by rw[u];exact w b hb,?_⟩;rw[j];refine z.act (λp q=>hk p (h.ej 0 p q).1 λt l=>h.sr t 0 p l q) (λb hb=> ?_) k;obtain⟨a,c,_⟩:=h.hid b (w b hb).1;exact hk b a c
 ·obtain⟨a,c,d,_⟩:=n t b q;exact⟨a,c,d⟩
 ·rw[j];exact(n t b q).2.2.2.1 o
 ·rw[j] at q;obtain⟨a,c,d⟩:=h.ej o b q;exact⟨cj a k,c,by show o<(st.av.map _).length;rw[fh];exact d⟩
 ·rw[j] at q l;exact h.sC o o' b q l
 have q:(st.av.map λ(v,e,cs)=>(v,e,cs.map (CV.act g)))[o]? = some (v,e,cs):=q;rw[hY] at q;cases s:st.av[o]? with
 | none=>rw[s] at q;cases q
 | some y=>
   rw[s] at q;obtain⟨A,B,C⟩:=y;cases q;obtain⟨b,os,a,c,d⟩:=h.av o _ _ _ s;refine⟨b,os,by rw[j];exact a,(hk b (h.ej o b a).1 λt ht=>h.sr t o b ht a).trans c,d.map λ_ _ q=>q.mv m⟩
theorem gR.act{g:Nat->SA}(a:E'.hid=E.hid)(c:E'.ρ=E.ρ)(ho : ∀o b,E.ρ o=some b->K'.ob b=K.ob b){Fs:Nat}:gR K st E K' ⟨Fs,(st.act g).av⟩ E':=⟨λb q=>(by rw[a];exact q),λo b h=>by rw[c];exact h,λo v e cs h=>⟨v,cs.map (CV.act g),by
 show(st.av.map _)[o]? = _;rw[hY,h];rfl,al _,λ_ b hb=>ho o b hb⟩⟩
theorem TR.fz(h:TR Z K0 sp W0 K st fr aK E)(l:List Nat) : ∃E',TR Z K0 sp W0 K ⟨st.nt,(st.act (nY l)).av⟩ (fr.act (nY l)) aK E'/\Mv K E (nY l) K E'/\gR K st E K ⟨st.nt,(st.act (nY l)).av⟩ E'/\E'=⟨λt=>if t∈l then none else E.σ t,E.ρ,E.hid⟩:=by
 have hs : ∀t b,(if t∈l then none else E.σ t)=some b->t∉l/\E.σ t=some b:=λt b q=>by
  split at q;·cases q
  rename_i hn;exact⟨hn,q⟩
 have m:Mv K E (nY l) K ⟨λt=>if t∈l then none else E.σ t,E.ρ,E.hid⟩:=by
  refine⟨λb hb=>⟨⟨hb.1,hb.2.1,λt q=>hb.2.2.1 t (hs t b q).2,hb.2.2.2⟩,rfl⟩,λt b q e=>⟨?_,rfl⟩,λt b q e=>⟨?_,rfl⟩,λo b q=>q⟩
  ·show(if t∈l then none else E.σ t)=some b;unfold nY at e;split at e;·cases e
   rename_i hn;rw[iN hn];exact q
  unfold nY at e;split at e;·rename_i hn;obtain⟨d,a,f⟩:=h.sig t b q;refine⟨a,λhh=>(h.hid b hh).2.1 t q,λt' c=> ?_,λo=>h.sr t o b q⟩;obtain⟨g1,g2⟩:=hs t' b c;exact g1 (h.inj t t' b q g2▸hn)
  cases e
 exact⟨_,h.step m (al _) (λ_ _ _=>rfl) rfl (λt b q=>by
  obtain⟨g1,g2⟩:=hs t b q;obtain⟨d,a,f⟩:=h.sig t b g2;exact⟨d,a,f,λo=>h.sr t o b g2,λhh=>(h.hid b hh).2.1 t g2⟩) (λt t' b q c=>h.inj t t' b (hs t b q).2 (hs t' b c).2) rfl,m,gR.act (E:=E) (E':=⟨λt=>if t∈l then none else E.σ t,E.ρ,E.hid⟩) rfl rfl (λ_ _ _=>rfl),rfl⟩
theorem TR.row(h:TR Z K0 sp W0 K st fr aK E){os:List ae}{e:aI}{kd:Kd}{sz:Nat}{gs:List (List SV)}(aA:gs≠ []/\gs.length<=maxLen)(hk:kd.cD=false)(hg : ∀g∈gs,g.length=sz)(hs:b9 K (dE K E) gs.flatten os)(k:sz=5->e=Bp) : ∃E',TR Z K0 sp W0 (K.new (.cells os e kd)) ⟨st.nt+1,st.av⟩ fr aK E'/\gR K st E (K.new (.cells os e kd)) ⟨st.nt+1,st.av⟩ E'/\bX (K.new (.cells os e kd)) E' (.r (.c (.own st.nt e sz gs))) (.slice (some ⟨K.nx,0,none⟩) gs.length gs.length):=by
 have l : ∀b,E.σ st.nt≠some b:=λb q=>by have:=(h.sig _ b q).2.2;omega
 have d : ∀b,b<K.nx->(K.new (.cells os e kd)).ob b=K.ob b:=λb hb=>bQ Om;have f : ∀t b,(if t=st.nt then some K.nx else E.σ t)=some b->(t=st.nt/\b=K.nx)\/(t≠st.nt/\E.σ t=some b):=λt b q=>by
  split at q;·rename_i e;cases q;exact .inl ⟨e,rfl⟩
  rename_i e;exact .inr ⟨e,q⟩
 have m:Mv K E (λ_=> .cP) (K.new (.cells os e kd)) ⟨λt=>if t=st.nt then some K.nx else E.σ t,E.ρ,E.hid⟩:=by
  refine⟨λb hb=>⟨⟨yu hb.1,hb.2.1,λt q=> ?_,hb.2.2.2⟩,d b hb.1⟩,λt b q _=>⟨?_,d b (h.sig t b q).2.1⟩,(λ_ _ _ q=>(by cases q)),λo b q=>q⟩
  ·have:=hb.1;rcases f t b q with ⟨_,e⟩ | ⟨_,e⟩
   ·omega
   exact hb.2.2.1 t e
  show(if t=st.nt then some K.nx else E.σ t)=some b;rw[iN (λe=>l b (by rw[<-e];exact q))];exact q
 have ht:=h.step m (Fs:=st.nt+1) (mQ _) (λb hb _=>d b hb) rfl (λt b q=>by
  rcases f t b q with ⟨j,a⟩ | ⟨j,a⟩
  ·subst a;exact⟨h.nx,Nat.lt_succ_self _,Om,λo q=>by have:=(h.ej o _ q).1;omega,λhh=>by have:=(h.hid _ hh).1;omega⟩
  ·obtain⟨s,u,w⟩:=h.sig t b a;exact⟨s,yu u,Om,λo=>h.sr t o b a,λhh=>(h.hid b hh).2.1 t a⟩) (λt t' b q v=>by
  rcases f t b q with ⟨j,a⟩ | ⟨j,a⟩<;>rcases f t' b v with ⟨f1,f2⟩ | ⟨f1,f2⟩
  ·omega
  ·have:=(h.sig t' b f2).2.1;omega
  ·have:=(h.sig t b a).2.1;omega
  exact h.inj t t' b a f2) rfl
 rw[aM.lZ,TS.lZ] at ht;refine⟨_,ht,?_, .r (.c (.own aA (iP rfl) (aaK rfl) hk hg (hs.mv m.jb) k))⟩;have:=gR.act (K:=K) (st:=st) (E:=E) (K':=K.new (.cells os e kd)) (E':=⟨λt=>if t=st.nt then some K.nx else E.σ t,E.ρ,E.hid⟩) (g:=λ_=> .cP) (Fs:=st.nt+1) rfl rfl λo b q=>d b (h.ej o b q).1;rwa [TS.lZ] at this
theorem TR.kil(h:TR Z K0 sp W0 K st fr aK E)(t:Nat){o:cy} : ∃E',TR Z K0 sp W0 (match E.σ t with | some b=>K.set b o | none=>K) ⟨st.nt,(st.act (lY (some t))).av⟩ (fr.act (lY (some t))) aK E'/\Mv K E (lY (some t)) (match E.σ t with | some b=>K.set b o | none=>K) E'/\gR K st E (match E.σ t with | some b=>K.set b o | none=>K) ⟨st.nt,(st.act (lY (some t))).av⟩ E':=by
 obtain⟨K',d⟩ : ∃K',(match E.σ t with | some b=>K.set b o | none=>K)=K':=⟨_,rfl⟩;rw[d];have f:K'.nx=K.nx:=by rw[<-d];cases E.σ t<;>rfl
 have c : ∀b,E.σ t≠some b->K'.ob b=K.ob b:=λb hb=>by
  rw[<-d];cases he:E.σ t with
  | none=>rfl
  | some l=>exact T1 (λe=>hb (by rw[he,e]))
 have hs : ∀t' b,(if t'=t then none else E.σ t')=some b->t'≠t/\E.σ t'=some b:=λt' b q=>by
  split at q;·cases q
  rename_i hn;exact⟨hn,q⟩
 have aA : ∀t' b,t'≠t->E.σ t'=some b->E.σ t≠some b:=λt' b hn q a=>hn (h.inj t' t b q a);have m:Mv K E (lY (some t)) K' ⟨λt'=>if t'=t then none else E.σ t',E.ρ,E.hid⟩:=by
  refine⟨λb hb=>⟨⟨by rw[f];exact hb.1,hb.2.1,λt' q=>hb.2.2.1 t' (hs t' b q).2,hb.2.2.2⟩,c b (hb.2.2.1 t)⟩,λt' b q e=> ?_,λt' b q e=> ?_,λo b q=>q⟩
  ·unfold lY at e;split at e;·cases e
   rename_i hn;have hn:t'≠t:=λe=>hn (by rw[e]);exact⟨(iN hn).trans q,c b (aA t' b hn q)⟩
  unfold lY at e;split at e<;>cases e
 refine⟨_,h.step m (by rw[f];exact al _) (λb _ hb=>c b (hb t)) rfl (λt' b q=> ?_) (λt1 t2 b q a=>h.inj t1 t2 b (hs t1 b q).2 (hs t2 b a).2) rfl,m,gR.act (E:=E) (E':=⟨λt'=>if t'=t then none else E.σ t',E.ρ,E.hid⟩) rfl rfl λo b q=>c b λa=>h.sr t o b a q⟩;obtain⟨g1,g2⟩:=hs t' b q;obtain⟨g,j,k⟩:=h.sig t' b g2;exact⟨g,by rw[f];exact j,k,λo=>h.sr t' o b g2,λhh=>(h.hid b hh).2.1 t' g2⟩
theorem TR.acP(h:TR Z K0 sp W0 K st fr aK E)(t:Nat) : ∃E',TR Z K0 sp W0 K ⟨st.nt,(st.act (lY (some t))).av⟩ (fr.act (lY (some t))) aK E'/\Mv K E (lY (some t)) K E'/\gR K st E K ⟨st.nt,(st.act (lY (some t))).av⟩ E'/\∀b,E.σ t=some b->K0.nx<=b/\b<K.nx/\(∀t,E'.σ t≠some b)/\∀o,E'.ρ o≠some b:=by
 have hs : ∀t' b,(if t'=t then none else E.σ t')=some b->t'≠t/\E.σ t'=some b:=λt' b q=>by
  split at q;·cases q
  rename_i hn;exact⟨hn,q⟩
 have m:Mv K E (lY (some t)) K ⟨λt'=>if t'=t then none else E.σ t',E.ρ,E.hid⟩:=by
  refine⟨λb hb=>⟨⟨hb.1,hb.2.1,λt' q=>hb.2.2.1 t' (hs t' b q).2,hb.2.2.2⟩,rfl⟩,λt' b q e=> ?_,λt' b q e=> ?_,λo b q=>q⟩
  ·unfold lY at e;split at e;·cases e
   rename_i hn;have hn:t'≠t:=λe=>hn (by rw[e]);exact⟨(iN hn).trans q,rfl⟩
  unfold lY at e;split at e<;>cases e
 refine⟨_,h.step m (al _) (λb _ hb=>rfl) rfl (λt' b q=> ?_) (λt1 t2 b q a=>h.inj t1 t2 b (hs t1 b q).2 (hs t2 b a).2) rfl,m,gR.act (E:=E) (E':=⟨λt'=>if t'=t then none else E.σ t',E.ρ,E.hid⟩) rfl rfl λo b q=>rfl,λb q=>⟨(h.sig t b q).1,(h.sig t b q).2.1,λt' a=>(hs t' b a).1 (h.inj t' t b (hs t' b a).2 q),λo=>h.sr t o b q⟩⟩;obtain⟨g1,g2⟩:=hs t' b q;obtain⟨c,d,f⟩:=h.sig t' b g2;exact⟨c,d,f,λo=>h.sr t' o b g2,λhh=>(h.hid b hh).2.1 t' g2⟩
theorem TR.obj(h:TR Z K0 sp W0 K st fr aK E){os:List ae}{e:aI}{cs:List CV}(hs:R2 (fo K E) cs os)(B:fp cs= []) : ∃E',TR Z K0 sp W0 (K.new (.cells os e .ex)) ⟨st.nt,st.av++ [(0,e,cs)]⟩ fr aK E'/\gR K st E (K.new (.cells os e .ex)) ⟨st.nt,st.av++ [(0,e,cs)]⟩ E'/\bX (K.new (.cells os e .ex)) E' (.ptr st.av.length 0) (.pointer (some ⟨K.nx,0,none⟩)):=by
 have f : ∀b,b<K.nx->(K.new (.cells os e .ex)).ob b=K.ob b:=λb hb=>bQ Om;have j : ∀o b,(if o=st.av.length then some K.nx else E.ρ o)=some b->(o=st.av.length/\b=K.nx)\/(o≠st.av.length/\E.ρ o=some b):=λt b q=>by
  split at q;·rename_i e;cases q;exact .inl ⟨e,rfl⟩
  rename_i e;exact .inr ⟨e,q⟩
 have s : ∀o b,E.ρ o=some b->(if o=st.av.length then some K.nx else E.ρ o)=some b:=λo b q=>by
  rw[iN (λe=>by have:=(h.ej o b q).2.2;omega)];exact q
 have m:Mv K E (λ_=> .cP) (K.new (.cells os e .ex)) ⟨E.σ,λo=>if o=st.av.length then some K.nx else E.ρ o,E.hid⟩:=by
  refine⟨λb hb=>⟨⟨yu hb.1,hb.2.1,hb.2.2.1,λt q=> ?_⟩,f b hb.1⟩,λt b q _=>⟨q,f b (h.sig t b q).2.1⟩,(λ_ _ _ q=>(by cases q)),s⟩;have:=hb.1;rcases j t b q with ⟨_,e⟩ | ⟨_,e⟩
  ·omega
  exact hb.2.2.2 t e
 have C : ∀ {x v},bX K E x v->bX (K.new (.cells os e .ex)) ⟨E.σ,λo=>if o=st.av.length then some K.nx else E.ρ o,E.hid⟩ x v:=λq=>by
  have:=q.mv m;rwa [AV.lZ] at this
 have z : ∀x v,fo K E x v->fo (K.new (.cells os e .ex)) ⟨E.σ,λo=>if o=st.av.length then some K.nx else E.ρ o,E.hid⟩ x v:=λx v q=>by
  have:=q.mv m;rwa [CV.lZ] at this
 refine⟨⟨E.σ,λo=>if o=st.av.length then some K.nx else E.ρ o,E.hid⟩,⟨Nat.le_succ_of_le h.nx,λb hb hp hw=> ?_,λb hb=> ?_,λb hb=> ?_,?_,λt b q=> ?_,h.inj,λt o b q u=> ?_,λo b q=> ?_,λo o' b q u=> ?_,λo v e' cs' q=> ?_,λt=>C (h.gx t)⟩,⟨λ_ q=>q,s,λo v e' cs' q=> ?_⟩, .ptr (iP rfl)⟩;·have:=h.nx;exact(f b Om).trans (h.cP b hb hp hw)
 ·obtain⟨a,c,g,F⟩:=h.ur b hb;have:=h.nx;exact⟨a,c,g,(f b Om).trans F⟩
 ·obtain⟨a,c,g⟩:=h.hid b hb;refine⟨yu a,c,λo q=> ?_⟩;rcases j o b q with ⟨_,e⟩ | ⟨_,e⟩
  ·omega
  exact g o e
 ·obtain⟨W,A,k⟩:=h.wr;refine⟨W,A,?_⟩;have w:st.av≠ []->(if 0=st.av.length then some K.nx else E.ρ 0)=E.ρ 0:=λaA=>iN λe=>aA (List.length_eq_zero_iff.1 e.symm);show JR Z (st.av++ [(0,e,cs)]) _ (if 0=st.av.length then some K.nx else E.ρ 0) W;match hl:st.av,k,w with
  | [],k,_=>exact .inl ⟨B,k⟩
  | (v,e',cs')::r,k,w=>
    rw[w Sm];refine JR.mv (l:=(v,e',cs')::r) (l':=(v,e',cs')::r) k rfl (λv e cs q=>⟨v,cs,q,rfl,rfl,λ_ p os h1 h2=>⟨os,(f p (h.ej 0 p h1).1).trans h2,rfl,rfl⟩⟩) (λb hb=>f b (h.hid b (A b hb).1).1) (mQ _)
 ·obtain⟨a,c,g⟩:=h.sig t b q;exact⟨a,yu c,g⟩
 ·rcases j o b u with ⟨n,d⟩ | ⟨n,d⟩
  ·have:=(h.sig t b q).2.1;omega
  exact h.sr t o b q d
 ·show b<K.nx+1/\_/\o<(st.av++ [(0,e,cs)]).length;rw[cO,List.length_singleton];rcases j o b q with ⟨n,d⟩ | ⟨n,d⟩
  ·have:=h.nx;exact⟨Om, .inl Om,Om⟩
  obtain⟨a,c,g⟩:=h.ej o b d;exact⟨Om,c,Om⟩
 ·rcases j o b q with ⟨n,d⟩ | ⟨n,d⟩<;>rcases j o' b u with ⟨f1,f2⟩ | ⟨f1,f2⟩
  ·omega
  ·have:=(h.ej o' b f2).1;omega
  ·have:=(h.ej o b d).1;omega
  exact h.sC o o' b d f2
 ·have q:(st.av++ [(0,e,cs)])[o]? = some (v,e',cs'):=q;rw[List.getElem?_append] at q;split at q;·obtain⟨b,y,a,c,g⟩:=h.av o v e' cs' q;exact⟨b,y,s o b a,(f b (h.ej o b a).1).trans c,g.mono z⟩
  rename_i G;have ho:o=st.av.length:=by
   have:=(List.getElem?_eq_some_iff.1 q).1;simp at this;omega
  subst ho;simp at q;obtain⟨rfl,rfl,rfl⟩:=q;exact⟨K.nx,os,iP rfl,aaK rfl,hs.mono z⟩
 refine⟨v,cs',?_,al _,λ_ b hb=>f b (h.ej o b hb).1⟩;show(st.av++ [(0,e,cs)])[o]? = _;rw[List.getElem?_append_left (List.getElem?_eq_some_iff.1 q).1];exact q
theorem TR.sto(h:TR Z K0 sp W0 K st fr aK E){o b v:Nat}{e:aI}{cs us:List CV}{os:List ae}(c:E.ρ o=some b)(ho:st.av[o]? = some (v,e,cs))(hs:R2 (fo K E) us os)(n:fp us=fp cs/\us.length=cs.length/\(fp cs≠ []->∀f,K.ob b= .cells f e .ex->os.length=f.length/\kO us os=kO cs f)):TR Z K0 sp W0 (K.set b (.cells os e .ex)) ⟨st.nt,st.av.set o (v+1,e,us)⟩ fr aK E/\gR K st E (K.set b (.cells os e .ex)) ⟨st.nt,st.av.set o (v+1,e,us)⟩ E:=by
 have d : ∀l,l≠b->(K.set b (.cells os e .ex)).ob l=K.ob l:=λl hl=>T1 hl;have m:Mv K E (λ_=> .cP) (K.set b (.cells os e .ex)) E:=by
  refine⟨λl hl=>⟨hl,d l λe=>hl.2.2.2 o (e▸c)⟩,λt l q _=>⟨q,d l λe=>h.sr t o l q (e▸c)⟩,(λ_ _ _ q=>(by cases q)),λ_ _ q=>q⟩
 have y : ∀ {x v},bX K E x v->bX (K.set b (.cells os e .ex)) E x v:=λq=>by
  have:=q.mv m;rwa [AV.lZ] at this
 have u : ∀x v,fo K E x v->fo (K.set b (.cells os e .ex)) E x v:=λx v q=>by
  have:=q.mv m;rwa [CV.lZ] at this
 obtain⟨F,r2,r⟩:=h.ej o b c;refine⟨⟨h.nx,λl hl hp hw=> ?_,λl hl=> ?_,h.hid,?_,h.sig,h.inj,h.sr,λo' l q=> ?_,h.sC,λo' v' e' cs' q=> ?_,λt=>y (h.gx t)⟩,⟨λ_ q=>q,λ_ _ q=>q,λo' v' e' cs' q=> ?_⟩⟩
 ·refine(d l λe=> ?_).trans (h.cP l hl hp hw);subst e;rcases r2 with r2 | r2
  ·omega
  exact hp r2
 ·obtain⟨g,j,k,z⟩:=h.ur l hl;refine⟨g,j,k,(d l λe=> ?_).trans z⟩;subst e;rcases r2 with r2 | r2
  ·omega
  exact j r2
 ·obtain⟨W,w,A⟩:=h.wr;refine⟨W,w,JR.mv A (by show(st.av.set o _).length=_;rw[Jr]) (λv' e' cs' q=> ?_) (λl hl=>d l λe=>(h.hid l (w l hl).1).2.2 o (e▸c)) (al _)⟩;show ∃G B,(st.av.set o (v+1,e,us))[0]? = _/\_;by_cases a:o=0
  ·subst a;rw[ho] at q;cases q;refine⟨v+1,us,Nx r,n.1,n.2.1,λaA p f h1 h2=> ?_⟩;have C:p=b:=by rw[c] at h1;cases h1;rfl
   subst C;obtain⟨g1,g2⟩:=n.2.2 aA f h2;exact⟨os,aaL,g1,g2⟩
  refine⟨v',cs',(Jk a).trans q,rfl,rfl,λ_ p f h1 h2=>⟨f,(d p λe=>a ?_).trans h2,rfl,rfl⟩⟩;exact h.sC o 0 b c (e▸h1)
 ·obtain⟨g,j,k⟩:=h.ej o' l q;exact⟨g,j,by show o'<(st.av.set o _).length;rw[Jr];exact k⟩
 ·have q:(st.av.set o (v+1,e,us))[o']? = some (v',e',cs'):=q;by_cases a:o=o'
  ·subst a;rw[Nx r] at q;cases q;exact⟨b,os,c,aaL,hs.mono u⟩
  rw[Jk a] at q;obtain⟨l,s,g,j,k⟩:=h.av o' v' e' cs' q;exact⟨l,s,g,(d l λe=>a (h.sC o o' b c (e▸g))).trans j,k.mono u⟩
 by_cases a:o=o'
 ·subst a;rw[ho] at q;cases q;exact⟨v+1,us,Nx r,mQ _,λe=>by omega⟩
 refine⟨v',cs',(Jk a).trans q,al _,λ_ l hl=>d l λe=>a (h.sC o o' b c (e▸hl))⟩
end
section
open Go Go.RowKit
variable {T:bZ} {Z:TP} {K0 K K' Fm:CH} {sp:Option Nat} {W0:Nat->Prop} {st aX vv bN:TS} {fr aj:aM} {aK:Fr} {E E' vw:TE}
theorem b9.app{A:Nat->Prop}{xs ys:List SV}{vs us:List ae}(h:b9 K A xs vs)(g:b9 K A ys us):b9 K A (xs++ys) (vs++us):=(h.r2.app g.r2).Lq
theorem als{a:AV}{v:ae}(h:bX K E a v){t:Option Nat}{z:Option Nat}{hs:List (List SV)}(f:a.rowOf=some (t,z,hs)){sz:Nat}(hz:Ij sz z) : ∃xs,qI K sz v=some (xs,hs.length)/\b9 K (dE K E) hs.flatten xs/\(∀g∈hs,g.length=sz):=by
 rcases Fk h f with ⟨rfl,rfl⟩ | ⟨aA,oD,b,os,l,kd,rfl,m,j,n,c,d,rfl⟩
 ·exact⟨[],rfl, .nil,(λ_ q=>(by cases q))⟩
 cases hz;refine⟨os,?_,d,c⟩;have hl:os.length=hs.length*sz:=by rw[d.r2.len,Fj c]
 have k:hs.length≠0:=λe=>aA.1 (List.length_eq_zero_iff.1 e);simp only[qI,k,iF,j];rw[iP Om,List.drop_zero,qD Om]
theorem acQ{A:Nat->Prop} : ∀ {xs:List SV} {vs:List ae},R2 (eJ K A) xs vs->vs.all bu=true
 | _,_, .nil=>rfl
 | _,_, .cons h t=>by rw[yz,eJ.cell h,acQ t];rfl
theorem b9.cells{A:Nat->Prop}{xs:List SV}{vs:List ae}(h:b9 K A xs vs):vs.all bu=true:=acQ h.r2
theorem alt.cells{xs:List CV}{vs:List ae}(h:R2 (fo K E) xs vs):vs.all bu=true:=by
 induction h with
 | nil=>rfl
 | cons h t a=>rw[yz,h.cell,a];rfl
theorem TR.ren(h:TR Z K0 sp W0 K st fr aK E)(t:Nat) : ∃E',TR Z K0 sp W0 K ⟨st.nt+1,(st.act (lY (some t))).av⟩ (fr.act (lY (some t))) aK E'/\gR K st E K ⟨st.nt+1,(st.act (lY (some t))).av⟩ E'/\(∀b,dE K E b->dE K E' b)/\E'.σ st.nt=E.σ t:=by
 have j : ∀b,E.σ st.nt≠some b:=λb q=>by have:=(h.sig _ b q).2.2;omega
 have hs : ∀t' b,(if t'=st.nt then E.σ t else if t'=t then none else E.σ t')=some b->(t'=st.nt/\E.σ t=some b)\/(t'≠st.nt/\t'≠t/\E.σ t'=some b):=λt' b q=>by
  split at q;·rename_i e;exact .inl ⟨e,q⟩
  rename_i e;split at q;·cases q
  rename_i e';exact .inr ⟨e,e',q⟩
 have g : ∀b,dE K E b->dE K ⟨λt'=>if t'=st.nt then E.σ t else if t'=t then none else E.σ t',E.ρ,E.hid⟩ b:=λb hb=>⟨hb.1,hb.2.1,λt' q=>by
  rcases hs t' b q with ⟨_,e⟩ | ⟨_,_,e⟩
  ·exact hb.2.2.1 t e
  exact hb.2.2.1 t' e,hb.2.2.2⟩
 have m:Mv K E (lY (some t)) K ⟨λt'=>if t'=st.nt then E.σ t else if t'=t then none else E.σ t',E.ρ,E.hid⟩:=by
  refine⟨λb hb=>⟨g b hb,rfl⟩,λt' b q e=> ?_,λt' b q e=> ?_,λo b q=>q⟩
  ·unfold lY at e;split at e;·cases e
   rename_i hn;have hn:t'≠t:=λe=>hn (by rw[e]);refine⟨?_,rfl⟩;show(if t'=st.nt then E.σ t else if t'=t then none else E.σ t')=some b;rw[iN (λe=>j b (by rw[<-e];exact q)),iN hn];exact q
  unfold lY at e;split at e<;>cases e
 refine⟨_,h.step m (al _) (λb _ hb=>rfl) rfl (λt' b q=> ?_) (λt1 t2 b q k=> ?_) rfl,gR.act (E:=E) (E':=⟨λt'=>if t'=st.nt then E.σ t else if t'=t then none else E.σ t',E.ρ,E.hid⟩) rfl rfl λo b q=>rfl,g,iP rfl⟩
 ·rcases hs t' b q with ⟨a,e⟩ | ⟨a,_,e⟩
  ·obtain⟨c,d,l⟩:=h.sig t b e;exact⟨c,d,Om,λo=>h.sr t o b e,λhh=>(h.hid b hh).2.1 t e⟩
  obtain⟨c,d,l⟩:=h.sig t' b e;exact⟨c,d,Om,λo=>h.sr t' o b e,λhh=>(h.hid b hh).2.1 t' e⟩
 rcases hs t1 b q with ⟨a,e⟩ | ⟨a,n,e⟩<;>rcases hs t2 b k with ⟨f1,f⟩ | ⟨f1,f2,f⟩
 ·omega
 ·exact absurd (h.inj t2 t b f e) f2
 ·exact absurd (h.inj t1 t b e f) n
 exact h.inj t1 t2 b e f
theorem alu(h:TR Z K0 sp W0 K st fr aK E){e sz bytes:Nat}{s x:au}{a:AV}(ht:zl fr st (.app e sz bytes s x)=some (a,aj,bN)) : ∃v k d,bD K (aJ aK) (.app e sz bytes s x)=some (v,k)/\TR Z K0 sp W0 k bN aj aK d/\bX k d a v/\gR K st E k bN d:=by
 simp only[zl] at ht;split at ht
 ·rename_i o gs tq z hs y e2;split at ht
  ·rename_i hc;obtain⟨c1,c2,c3,H,c5⟩:=hc;have A:=acF c5;cases ht;obtain⟨xs,u,I,L⟩:=als (jR h.gx x) e2 c2;have M:=I.cells;have l:=jR h.gx s;have nK:o=none->gs= []->aJ aK s= .slice none 0 0->∃v k d,bD K (aJ aK) (.app e sz bytes s x)=some (v,k)/\TR Z K0 sp W0 k ⟨st.nt+1,(Fl o st).av⟩ (Py o fr) aK d/\bX k d (.r (.c (.own st.nt e sz (gs++hs)))) v/\gR K st E k ⟨st.nt+1,(Fl o st).av⟩ d:=λho hg hv=>by
    subst ho;subst hg;rw[mR];have hh:hs.length*bytes<=140737488355328/\hs.length<=maxLen:=by simpa using And.intro c3 H
    by_cases f:hs.length=0
    ·have:hs= []:=List.length_eq_zero_iff.1 f;subst this;refine⟨.slice none 0 0,K,E,by simp only[bD,u,hv];rfl,⟨h.nx,h.cP,h.ur,h.hid,h.wr,λt b q=> ?_,h.inj,h.sr,h.ej,h.sC,h.av,h.gx⟩, .r (.c .vr),λ_ h=>h,λ_ _ h=>h,λo v e cs h=>⟨v,cs,h,al _,λ_ _ _=>rfl⟩⟩;obtain⟨j,n,w⟩:=h.sig t b q;exact⟨j,n,yu w⟩
    obtain⟨d,t1,t2,t3⟩:=h.row (e:=e) (kd:= .gr) (sz:=sz) (gs:=hs) (os:=xs) ⟨λe=>f (by rw[e];rfl),hh.2⟩ rfl L I A;exact⟨_,_,d,by simp only[bD,u,hv,f,iF];rw[iP ⟨M,hh.1,hh.2⟩],t1,t3,t2⟩
   unfold AV.Vc at y;split at y
   ·rename_i t e' oD gs' J;cases y;obtain⟨rfl,rfl⟩:=c1;rcases Fk (t:=some t) l (by rw[J];rfl) with ⟨rfl,hv⟩ | ⟨aA,sz2,b,os,B,kd,N,j,n,w,O,S,hv⟩
    ·
     rw[mR];obtain⟨U,t1,m,t2⟩:=h.acP t;by_cases f:hs.length=0
     ·have:hs= []:=List.length_eq_zero_iff.1 f;subst this;refine⟨.slice none 0 0,K,U,by simp only[bD,u,hv];rfl,⟨t1.nx,t1.cP,t1.ur,t1.hid,t1.wr,λt b q=> ?_,t1.inj,t1.sr,t1.ej,t1.sC,t1.av,t1.gx⟩, .r (.c .vr),t2.1.1,t2.1.2,t2.1.3⟩;obtain⟨j,n,w⟩:=t1.sig t b q;exact⟨j,n,yu w⟩
     have hh:hs.length*bytes<=140737488355328/\hs.length<=maxLen:=by simpa using And.intro c3 H
     obtain⟨d,C,s2,F⟩:=t1.row (e:=e') (kd:= .gr) (sz:=oD) (gs:=hs) (os:=xs) ⟨λe=>f (by rw[e];rfl),hh.2⟩ rfl L (I.mv m.jb) A;exact⟨_,_,d,by simp only[bD,u,hv,f,iF];rw[iP ⟨M,hh.1,hh.2⟩],C,F,t2.1.trans s2⟩
    have Br:B=e':=by
     rw[J] at l;cases l with
     | r l=>cases l with
       | c l=>
         rw[hv] at l;cases l with
         | own aA hb ho hk hg hs=>
           have j:E.σ t=some b:=j;rw[n] at ho;cases ho;rfl
    subst Br;cases N;have j:E.σ t=some b:=j;have hl:os.length=gs.length*oD:=by rw[S.r2.len,Fj O]
    by_cases f:hs.length=0
    ·have:hs= []:=List.length_eq_zero_iff.1 f;subst this;obtain⟨d,t1,t2,t3,t4⟩:=h.ren t;refine⟨.slice (some ⟨b,0,none⟩) gs.length gs.length,K,d,by simp only[bD,u,hv,n];rfl,t1,?_,t2⟩;rw[jz];exact .r (.c (.own aA (t4.trans j) n w O (S.mv λb hb=>⟨t3 b hb,rfl⟩) A))
    have hx:bD K (aJ aK) (.app B oD bytes s x)=some (.slice (some ⟨K.nx,0,none⟩) (gs.length+hs.length) (gs.length+hs.length),kC (kd.j9&&decide (gs.length<gs.length+hs.length)) K b (.cells (os++xs) B .gr)):=by
     simp only[bD,u,hv,n,f,iF];rw[iP ⟨trivial,trivial,w,Om,M,c3,H⟩,qD Om]
    rw[<-cO] at hx;have V:b9 K (dE K E) (gs++hs).flatten (os++xs):=by rw[List.flatten_append];exact S.app I
    have Y : ∀g∈gs++hs,g.length=oD:=λg hg=>(List.mem_append.1 hg).elim (O g) (L g);have G:gs++hs≠ []/\(gs++hs).length<=maxLen:=⟨λe=>aA.1 (List.append_eq_nil_iff.1 e).1,by rw[cO];exact H⟩;unfold kC at hx;split at hx;·obtain⟨U,t1,m,t2⟩:=h.acP t;obtain⟨d,C,s2,F⟩:=t1.row (e:=B) (kd:= .gr) G rfl Y (V.mv m.jb) A;exact⟨_,_,d,hx,C,F,t2.1.trans s2⟩
    obtain⟨U,t1,m,t2⟩:=h.kil t (o:= .dead);rw[j] at t1 m t2;obtain⟨d,C,s2,F⟩:=t1.row (e:=B) (kd:= .gr) G rfl Y (V.mv m.jb) A;exact⟨_,_,d,hx,C,F,t2.trans s2⟩
   ·rename_i J;cases y;rcases Fk (t:=none) (gs:= []) l (by rw[J];rfl) with ⟨_,hv⟩ | ⟨aA,_⟩
    ·exact nK rfl rfl hv
    exact absurd rfl aA.1
   cases y
  cases ht
 cases ht
theorem acS{sz:Nat} : ∀ {l:List (Option (List CV))} {gs:List (List CV)},Il sz l=some gs->l=gs.map some/\∀g∈gs,g.length=sz
 | [],gs,h=>by cases h;exact⟨rfl,(λ_ q=>(by cases q))⟩
 | none::r,gs,h=>by cases h
 | some cs::r,gs,h=>by
   simp only[Il] at h;split at h
   ·rename_i hc;cases a:Il sz r with
    | none=>rw[a] at h;cases h
    | some b=>
      rw[a] at h;cases h;obtain⟨c,d⟩:=acS a;refine⟨by rw[c];rfl,λg hg=> ?_⟩;rcases List.mem_cons.1 hg with rfl | hg
      ·exact hc
      exact d g hg
   cases h
theorem acT{x:CV}{v:ae}(h:fo K E x v){y:SV}(a:x.fz=some y){K':CH}{A:Nat->Prop}(h1 : ∀b,dE K E b->A b/\K'.ob b=K.ob b)(h2 : ∀t b,t∈x.fq->E.σ t=some b->A b/\K'.ob b=K.ob b):eJ K' A y v:=by
 cases h with
 | s h=>cases a;exact h.mv h1
 | vr=>cases a;exact .pI
 | own aA hb ho hk hg hs ht=>
   cases a;obtain⟨c,d⟩:=h2 _ _ (List.mem_singleton.2 rfl) hb;exact .row aA c (d.trans ho) hk hg (hs.mv h1) ht
 | bad=>cases a
theorem Ly{K':CH}{A:Nat->Prop}(h1 : ∀b,dE K E b->A b/\K'.ob b=K.ob b) : ∀ {xs:List CV} {vs:List ae} {ys:List SV},R2 (fo K E) xs vs->vu xs=some ys->(∀t b,t∈xs.flatMap CV.fq->E.σ t=some b->A b/\K'.ob b=K.ob b)->R2 (eJ K' A) ys vs
 | _,_,ys, .nil,h,_=>by cases h;exact .nil
 | x::xs,_,ys, .cons hx ht,h,h2=>by
   simp only[vu] at h;split at h;·rename_i y d a c;cases h;exact .cons (acT hx a h1 λt b q=>h2 t b (by rw[vU];exact tQ _ q)) (Ly h1 ht c λt b q=>h2 t b (by rw[vU];exact Ed _ q))
   cases h
theorem acU{K':CH}{A:Nat->Prop}(h1 : ∀b,dE K E b->A b/\K'.ob b=K.ob b) : ∀ {gs:List (List CV)} {hs:List (List SV)} {vs:List ae},R2 (fo K E) gs.flatten vs->Lu gs=some hs->(∀t b,t∈gs.flatten.flatMap CV.fq->E.σ t=some b->A b/\K'.ob b=K.ob b)->R2 (eJ K' A) hs.flatten vs/\hs.length=gs.length/\∀sz,(∀g∈gs,g.length=sz)->∀g∈hs,g.length=sz
 | [],hs,vs,a,h,_=>by
   cases h;exact⟨(by cases a;exact .nil),rfl,λ_ _ _ q=>(by cases q)⟩
 | g::gs,hs,vs,a,h,h2=>by
   simp only[Lu] at h;split at h
   ·rename_i y ys f j;cases h;rw[Ce] at a h2;have c:=a.take g.length;have r2:=a.drop g.length;rw[List.take_left] at c;rw[List.drop_left] at r2;have d:=Ly h1 c f λt b q=>h2 t b (by rw[NF];exact tQ _ q);obtain⟨k,l,m⟩:=acU h1 r2 j λt b q=>h2 t b (by rw[NF];exact Ed _ q);have n:y.length=g.length:=by rw[<-d.len,c.len]
    refine⟨?_,by simp[l],λsz e x hx=> ?_⟩;·rw[Ce,<-Al g.length vs];exact d.app k
    rcases List.mem_cons.1 hx with rfl | hx
    ·rw[n];exact e g Sm
    exact m sz (λg hg=>e g (by simp[hg])) x hx
   cases h
theorem acV{sz:Nat}{ev:au->ae} : ∀ {ps:List (Nat×au)} {k:Nat} {z:List ae},ps.map (·.1)=List.range' k ps.length->z.length=(k+ps.length)*sz->(∀p∈ps,isVal (ev p.2)=true/\(ev p.2).cells.size=sz)->iv z (ps.map λ(i,x)=>(i*sz,sz,ev x))=some (z.take (k*sz)++ps.flatMap λp=>(ev p.2).cells.toList)
 | [],k,z,_,hz,_=>by
   rw[qD (by simpa using Nat.le_of_eq hz)];simp[iv]
 | (i,x)::ps,k,z,hi,hz,hv=>by
   rw[dG,cw,List.range'_succ] at hi;injection hi with u9 c
   have u9:i=k:=u9;subst u9;obtain⟨h1,h2⟩:=hv (i,x) Sm;have a:i*sz+sz<=z.length:=by
    rw[hz,cw,show i+(ps.length+1)=(i+1)+ps.length from by omega,qC (i+1),qC i];omega
   have b:((ev x).cells.toList).length=sz:=by rw[Nz];exact h2
   have d:=acV (sz:=sz) (ev:=ev) (ps:=ps) (k:=i+1) (z:=setCells z (i*sz) (ev x).cells.toList) c (by rw[NU Om,hz,cw,show i+(ps.length+1)=(i+1)+ps.length from by omega]) λp hp=>hv p (by simp[hp]);show(if isVal (ev x)=true/\(ev x).cells.size=sz/\i*sz+sz<=z.length then iv (setCells z (i*sz) (ev x).cells.toList) _ else none)=_;rw[iP ⟨h1,h2,a⟩,d];congr 1
   rw[vU,<-rP];congr 1
   unfold setCells;rw[List.take_append_of_le_length (by rw[cO,ny,b,qC];omega),qD (by rw[cO,ny,b,qC];omega)]
theorem alv{z:List ae}{n:Nat}:(kB z n).length=n:=by simp[kB]
theorem alw(h:TR Z K0 sp W0 K st fr aK E){x:qH}{a:AV}(ht:xW fr st x=some (a,aj,bN)) : ∃cs e k mk c,da (aJ aK) x=some (cs,e,k,mk)/\TR Z K0 sp W0 (K.new (.cells cs e k)) bN aj aK c/\bX (K.new (.cells cs e k)) c a (fj mk K.nx)/\gR K st E (K.new (.cells cs e k)) bN c:=by
 cases x with
 | new e z=>
   simp only[xW] at ht;cases hz:Fi z with
   | none=>rw[hz] at ht;cases ht
   | some cs=>
     rw[hz] at ht;simp only at ht;split at ht;·rename_i u;cases ht;obtain⟨c,t1,t2,t3⟩:=h.obj (e:=e) (Va hz) u;exact⟨_,_,_,_,c,rfl,t1,t3,t2⟩
     cases ht
 | box e x=>
   simp only[xW] at ht;cases hz:(eC fr x).wM with
   | none=>rw[hz] at ht;cases ht
   | some cs=>
     rw[hz] at ht;simp only at ht;split at ht;·rename_i u;cases ht;obtain⟨j,l⟩:=Lt (jR h.gx x) hz;obtain⟨c,t1,t2,t3⟩:=h.obj (e:=e) j u;exact⟨_,_,_, .ptr,c,by simp only[da];rw[iP l],t1,t3,t2⟩
     cases ht
 | AA e sz n z ps=>
   simp only[xW] at ht;split at ht
   ·rename_i hc;obtain⟨v,C,c3,w,c5⟩:=hc;split at ht
    ·rename_i gs o;split at ht
     ·rename_i hs q;cases ht;obtain⟨g1,g2⟩:=acS o;have hn:ps.length=n:=by have:=congrArg rN v;simpa using this
      subst hn;have r : ∀p∈ps,∃g∈gs,(eC fr p.2).wM=some g:=λp hp=>by
       have:(eC fr p.2).wM∈gs.map some:=by rw[<-g1];exact List.mem_map_of_mem hp
       obtain⟨g,s,f⟩:=List.mem_map.1 this;exact⟨g,s,f.symm⟩
      have y : ∀p∈ps,isVal (aJ aK p.2)=true/\(aJ aK p.2).cells.size=sz:=λp hp=>by
       obtain⟨g,s,f⟩:=r p hp;obtain⟨j,l⟩:=Lt (jR h.gx p.2) f;exact⟨l,by rw[<-Nz,j.len];exact g2 g s⟩
      have hb:=acV (ev:=aJ aK) (k:=0) (z:=kB z (ps.length*sz)) (by rw[v,List.range_eq_range']) (by rw[alv,Nat.zero_add]) y;rw[Nat.zero_mul,xd,mR] at hb;have hrel:R2 (fo K E) gs.flatten (ps.flatMap λp=>(aJ aK p.2).cells.toList):=by
       clear hb y r o q v C c3 w;induction ps generalizing gs with
       | nil=>
         cases gs with
         | nil=>exact .nil
         | cons=>simp at g1
       | cons p ps F=>
         cases gs with
         | nil=>simp at g1
         | cons g gs=>
           rw[dG,dG] at g1;injection g1 with G H
           rw[Ce,vU];exact(Lt (jR h.gx p.2) G).1.app (F gs H λg hg=>g2 g (by simp[hg]))
      obtain⟨c,t1,m,t2,t3⟩:=h.fz (gs.flatten.flatMap CV.fq);obtain⟨s,f,I⟩:=acU (K':=K) (A:=dE K c) m.jb hrel q λt b j l=>m.fz t b l (by unfold nY;rw[iP j]);have aA:hs≠ []:=λe=>by
       have:gs.length=0:=by rw[<-f,e];rfl
       have h3:=congrArg rN g1;simp at h3;omega
      have d:hs.length=ps.length:=by
       have h3:=congrArg rN g1;rw[f];simpa using h3.symm
      obtain⟨J,L,s2,B⟩:=t1.row (e:=e) (kd:= .ex) (sz:=sz) (gs:=hs) ⟨aA,by rw[d,gZ];omega⟩ rfl (I sz g2) s.Lq (acF c5);rw[d] at B;rw[PD,PE];exact⟨_,e, .ex, .sl ps.length ps.length,J,by simp only[da];rw[iP ⟨c3,w⟩,hb];rfl,L,B,t2.trans s2⟩
     cases ht
    cases ht
   cases ht
 | _=>cases ht
theorem alx(h:TR Z K0 sp W0 K st fr aK E){x:ja}{a:AV}(ht:zl fr st x=some (a,aj,bN)) : ∃v d g,bD K (aJ aK) x=some (v,d)/\TR Z K0 sp W0 d bN aj aK g/\bX d g a v/\gR K st E d bN g:=by
 cases x with
 | app e sz bytes s x=>exact alu h ht
 | st n x v=>
   simp only[zl] at ht;split at ht
   ·rename_i o off B t u;split at ht
    ·rename_i nh e cs ho;split at ht
     ·rename_i hc;cases ht;have j:=jR h.gx x;rw[t] at j;obtain⟨l,hl,hv⟩:=j.xU;obtain⟨c,w⟩:=Lt (jR h.gx v) u;obtain⟨b,os,k,m,f⟩:=h.av o _ _ _ ho;rw[hl] at k;cases k;obtain⟨y,z,c3,q⟩:=hc;obtain⟨t1,t2⟩:=h.sto hl ho (f.set c (o:=off)) ⟨alp c3 q,(by simp only[cO,ny,ky];omega),λ_ C r=>by
       rw[m] at r;cases r;exact⟨NU (by rw[c.len,f.len];omega),alq c3 q f.len.symm c.len.symm Om⟩⟩
      refine⟨undef,_,E,?_,t1, .bad,t2⟩;have A:(aJ aK v).cells.size=n:=by rw[<-Nz,c.len];exact y
      simp only[bD,hv,m];rw[iP ⟨rfl,w,A,by rw[f.len];exact z,alt.cells c⟩]
     cases ht
    cases ht
   cases ht
 | _=>cases ht
end
section
open Go Go.RowKit
variable {T:bZ} {X:cY} {Z:TP} {K0 K K' Fm:CH} {sp:Option Nat} {W0:Nat->Prop} {st aX vv bN:TS} {fr aj:aM} {aK:Fr} {E E' vw:TE}
def E0 (sp:Option Nat)(hid:Nat->Prop):TE:=⟨λ_=>none,λo=>if o=0 then sp else none,hid⟩
abbrev Self:=Option (aI×List SV)
def De(K:CH)(E:TE)(sp:Option Nat):Self->Prop
 | none=>sp=none
 | some (e,a)=>∃p os,sp=some p/\p<K.nx/\K.ob p= .cells os e .ex/\R2 (eJ K (dE K E)) a os
def AV.clean:AV->Prop
 | .ptr _ _=>False
 | .fT _ _ _=>False
 | _=>True
def SJ (Z:TP)(K:CH)(sp:Option Nat)(W:Nat->Prop):Self->Prop
 | none=>∀b,¬W b
 | some (e,a)=>JR Z [(0,e,a.map .s)] K sp W
def PX (K0:CH)(sp:Option Nat)(W0:Nat->Prop)(R:ae->Prop)(v:ae)(K':CH):Prop:=K0.nx<=K'.nx/\(∀b,b<K0.nx->sp≠some b->¬W0 b->K'.ob b=K0.ob b)/\R v
structure HW(K K':CH)(sp:Option Nat)(hid W mG W':Nat->Prop):Prop where
 up : ∀b,hid b->mG b
 dn : ∀b,mG b->b<K'.nx
 w : ∀b,W' b->mG b/\(W b\/K.nx<=b)
def TC (Z:TP)(T:bZ)(X:cY)(f:aU)(args:List AV)(self:Self)(Q:AV->List SV->Prop)(R:ae->Prop):Prop:=
 ∀(K:CH) (sp:Option Nat) (hid W:Nat->Prop) (vs:List ae),(∀b,hid b->b<K.nx/\sp≠some b)->(∀b,W b->hid b)->(∀b,Z.N b->b<K.nx/\sp≠some b/\¬W b/\K.ob b=Z.M b)->R2 (bX K (E0 sp hid)) args vs->De K (E0 sp hid) sp self->SJ Z K sp W self->
  E7 T X f vs K (λv K'=>K.nx<=K'.nx/\(∀b,b<K.nx->sp≠some b->¬W b->K'.ob b=K.ob b)/\∃mG W' a c,HW K K' sp hid W mG W'/\bX K' (E0 sp mG) a v/\a.clean/\De K' (E0 sp mG) sp (self.map λp=>(p.1,c))/\SJ Z K' sp W' (self.map λp=>(p.1,c))/\Q a c) (PX K sp W R)
theorem TC.mono{f:aU}{args:List AV}{self:Self}{Q e:AV->List SV->Prop}{R g:ae->Prop}(h:TC Z T X f args self Q R)(j : ∀a s,Q a s->e a s)(k : ∀v,R v->g v):TC Z T X f args self e g:=λK sp hid W vs h1 h2 h3 h4 h5 l=>(h K sp hid W vs h1 h2 h3 h4 h5 l).mono (λv K' ⟨b,c,mG,W',a,m,d,n,o,p,q,r⟩=>⟨b,c,mG,W',a,m,d,n,o,p,q,j _ _ r⟩) λv K' ⟨b,c,d⟩=>⟨b,c,k v d⟩
theorem PX.up(h:TR Z K0 sp W0 K st fr aK E){sp':Option Nat}{W:Nat->Prop}{R:ae->Prop}{v:ae}(c : ∀b,sp'=some b->∃o,E.ρ o=some b)(hw : ∀b,W b->W0 b\/K0.nx<=b)(hp:PX K sp' W R v K'):PX K0 sp W0 R v K':=by
 obtain⟨h1,h2,h3⟩:=hp;refine⟨bW h.nx h1,λb hb hs a=> ?_,h3⟩;rw[h2 b (cj hb h.nx) (λq=> ?_) λq=> ?_];·exact h.cP b hb hs a
 ·obtain⟨o,ho⟩:=c b q;rcases(h.ej o b ho).2.1 with g | g
  ·omega
  exact hs g
 rcases hw b q with g | g
 ·exact a g
 omega
theorem fo.Bt{x:CV}{v:ae}(h:fo K E x v)(a : ∀t,E.σ t=none)(hA : ∀b,dE K E b->dE K' E' b/\K'.ob b=K.ob b):fo K' E' x v:=by
 cases h with
 | s h=>exact .s (h.mv hA)
 | vr=>exact .vr
 | own aA hb ho hk hg hs=>rw[a] at hb;cases hb
 | bad h=>exact .bad h
theorem qh.Bt{x:RV}{v:ae}(h:qh K E x v)(a : ∀t,E.σ t=none)(hA : ∀b,dE K E b->dE K' E' b/\K'.ob b=K.ob b):qh K' E' x v:=by
 cases h with
 | c h=>exact .c (h.Bt a hA)
 | agg h=>exact .agg (h.mono λ_ _ q=>q.Bt a hA)
theorem bX.Bt{x:AV}{v:ae}(h:bX K E x v)(hc:x.clean)(a : ∀t,E.σ t=none)(hA : ∀b,dE K E b->dE K' E' b/\K'.ob b=K.ob b):bX K' E' x v:=by
 cases h with
 | r h=>exact .r (h.Bt a hA)
 | ptr=>exact hc.elim
 | fT=>exact hc.elim
 | jX h=>exact .jX (h.mono λ_ _ q=>q.Bt a hA)
 | skip=>exact .skip
 | bad=>exact .bad
def RV.fq:RV->List Nat
 | .c x=>x.fq
 | .agg cs=>cs.flatMap CV.fq
def AV.fq:AV->List Nat
 | .r x=>x.fq
 | _=> []
def RV.fz:RV->Option RV
 | .c x=>x.fz.map λy=> .c (.s y)
 | .agg cs=>(vu cs).map λl=> .agg (l.map .s)
def Lz:List AV->Option Nat
 | []=>none
 | .ptr o 0::_=>some o
 | _::r=>Lz r
def acW(so:Option Nat):AV->Option AV
 | .ptr o 0=>if so=some o then some (.ptr 0 0) else none
 | .r x=>x.fz.map .r
 | _=>none
def LA(so:Option Nat):List AV->Option (List AV)
 | []=>some []
 | a::r=>match acW so a,LA so r with
   | some x,some xs=>some (x::xs)
   | _,_=>none
theorem acX{x:RV}{v:ae}(h:qh K E x v){y:RV}(a:x.fz=some y)(h1 : ∀b,dE K E b->dE K' E' b/\K'.ob b=K.ob b)(h2 : ∀t b,t∈x.fq->E.σ t=some b->dE K' E' b/\K'.ob b=K.ob b):qh K' E' y v:=by
 cases h with
 | @c x v h=>
   simp only[RV.fz] at a;cases hx:x.fz with
   | none=>rw[hx] at a;cases a
   | some z=>rw[hx] at a;cases a;exact .c (.s (acT h hx h1 h2))
 | @agg cs vs h=>
   simp only[RV.fz] at a;cases hx:vu cs with
   | none=>rw[hx] at a;cases a
   | some z=>rw[hx] at a;cases a;exact .agg ((Ly h1 h hx h2).map λ_ _ q=> .s q)
def PG (E:TE)(l:List Nat)(so:Option Nat)(b:Nat):Prop:=E.hid b\/(∃t,t∉l/\E.σ t=some b)\/∃o,so≠some o/\E.ρ o=some b
theorem acY(h:TR Z K0 sp W0 K st fr aK E){l:List Nat}{so:Option Nat}{sp':Option Nat}(a : ∀b,sp'=some b->∃o,so=some o/\E.ρ o=some b):(∀b,dE K E b->dE K (E0 sp' (PG E l so)) b/\K.ob b=K.ob b)/\(∀t b,t∈l->E.σ t=some b->dE K (E0 sp' (PG E l so)) b/\K.ob b=K.ob b):=by
 constructor
 ·intro b hb;refine⟨⟨hb.1,λhh=> ?_,(λ_ q=>(by cases q)),λo q=> ?_⟩,rfl⟩
  ·rcases hh with hh | ⟨t,_,ht⟩ | ⟨o,_,ho⟩
   ·exact hb.2.1 hh
   ·exact hb.2.2.1 t ht
   exact hb.2.2.2 o ho
  have q:(if o=0 then sp' else none)=some b:=q;split at q;·obtain⟨o',_,k⟩:=a b q;exact hb.2.2.2 o' k
  cases q
 intro t b hl hb;obtain⟨f,c,g⟩:=h.sig t b hb;refine⟨⟨c,λhh=> ?_,(λ_ q=>(by cases q)),λo q=> ?_⟩,rfl⟩
 ·rcases hh with hh | ⟨t',d,e⟩ | ⟨o,_,ho⟩
  ·exact(h.hid b hh).2.1 t hb
  ·exact d (h.inj t t' b hb e▸hl)
  exact h.sr t o b hb ho
 have q:(if o=0 then sp' else none)=some b:=q;split at q;·obtain⟨o',_,k⟩:=a b q;exact h.sr t o' b hb k
 cases q
theorem Vh{sp':Option Nat}{mG:Nat->Prop}{l:List Nat}{so:Option Nat}(g : ∀o b,so=some o->E.ρ o=some b->sp'=some b)(h1 : ∀b,dE K E b->dE K (E0 sp' mG) b/\K.ob b=K.ob b)(h2 : ∀t b,t∈l->E.σ t=some b->dE K (E0 sp' mG) b/\K.ob b=K.ob b) : ∀ {d e:List AV} {vs:List ae},R2 (bX K E) d vs->LA so d=some e->(∀t∈d.flatMap AV.fq,t∈l)->R2 (bX K (E0 sp' mG)) e vs
 | _,e,_, .nil,h,_=>by cases h;exact .nil
 | a::d,e,v::vs, .cons ha ht,h,hl=>by
   simp only[LA] at h;split at h
   ·rename_i x xs c j;cases h;refine .cons ?_ (Vh g h1 h2 ht j λt q=>hl t (by rw[vU];exact Ed _ q));have k : ∀t∈a.fq,t∈l:=λt q=>hl t (by rw[vU];exact tQ _ q);unfold acW at c;split at c
    ·rename_i o;split at c;·rename_i m;cases c;obtain⟨b,n,rfl⟩:=ha.xU;exact .ptr (o:=0) (by show(if 0=0 then sp' else none)=some b;rw[iP rfl];exact g o b m n)
     cases c
    ·rename_i y;cases f:y.fz with
     | none=>rw[f] at c;cases c
     | some z=>
       rw[f] at c;cases c;cases ha with
       | r ha=>exact .r (acX ha f h1 λt b q=>h2 t b (k t q))
    cases c
   cases h
theorem TR.grow(h:TR Z K0 sp W0 K st fr aK E)(a:K.nx<=K'.nx)(hk : ∀b,b<K.nx->K'.ob b=K.ob b):TR Z K0 sp W0 K' st fr aK E/\Mv K E (λ_=> .cP) K' E:=by
 have m:Mv K E (λ_=> .cP) K' E:=⟨λb hb=>⟨⟨cj hb.1 a,hb.2⟩,hk b hb.1⟩,λt b q _=>⟨q,hk b (h.sig t b q).2.1⟩,(λ_ _ _ q=>(by cases q)),λ_ _ q=>q⟩;have:=h.step m (Fs:=st.nt) a (λb hb _=>hk b hb) rfl (λt b q=>⟨(h.sig t b q).1,cj (h.sig t b q).2.1 a,(h.sig t b q).2.2,λo=>h.sr t o b q,λhh=>(h.hid b hh).2.1 t q⟩) h.inj rfl;rw[aM.lZ,TS.lZ] at this;exact⟨this,m⟩
structure TD where
 node:List aU
structure Df(T:bZ)(D:TD):Prop where
 node : ∀f,D.node.elem f=true->∀(K:CH) (k l:Int) (a:Option Addr) (n c:Nat),aR T f [.int .i64 k, .int .i64 l, .slice a n c] K λv K'=>v= .agg #[.int .i64 k, .int .i64 l, .string ⟨⟨[]⟩⟩, .int .i64 0, .slice a n c]/\∃o,K'=K.new o
def slV:CV->Bool
 | .own _ _ _ _=>true
 | .s (.row _ _)=>true
 | .s (.sc (.slice _ _ _))=>true
 | _=>false
def LC(d:List AV)(fr:aM)(st:TS)(k:AV->aM->TS->Prop):Prop:=match d with
 | [.r (.c (.s (.sc (.int .i64 a)))), .r (.c (.s (.sc (.int .i64 b)))), .r (.c x)]=>match slV x with
   | true=>k (.r (.agg [cS (.int .i64 a),cS (.int .i64 b),cS (.string ⟨⟨[]⟩⟩),cS (.int .i64 0),x])) fr st
   | false=>False
 | _=>False
def Vi (o:Nat)(cs:List CV):Bool:=match o with
 | 0=>true
 | _=>(fp cs).isEmpty
def LD(Z:TP)(T:bZ)(X:cY)(f:aU)(b:List AV)(fr:aM)(st:TS)(k:AV->aM->TS->Prop)(R:ae->Prop):Prop:=
 match LA (Lz b) b with
 | none=>False
 | some c=>match Lz b with
   | none=>TC Z T X f c none (λa _=>k a (Ik (b.flatMap AV.fq) fr) ⟨st.nt,(zk (b.flatMap AV.fq) st).av⟩) R
   | some o=>match st.av[o]? with
     | some (v,e,cs)=>match vu cs,Vi o cs with
       | some d,true=>TC Z T X f c (some (e,d)) (λa g=>k a (Ik (b.flatMap AV.fq++cs.flatMap CV.fq) fr) ⟨st.nt,(zk (b.flatMap AV.fq++cs.flatMap CV.fq) st).av.set o (v+1,e,g.map .s)⟩) R
       | _,_=>False
     | none=>False
def Ip:List Nat->(List Nat->Prop)->Prop
 | [],k=>k []
 | n::l,k=>match n with
   | 0=>Ip l λl=>k (0::l)
   | n+1=>Ip l λl=>k ((n+1)::l)
theorem Vj : ∀ {l:List Nat} {k:List Nat->Prop},Ip l k=k l
 | [],_=>rfl
 | 0::l,k=>by simp only[Ip,Vj]
 | (n+1)::l,k=>by simp only[Ip,Vj]
def LF (l:List Nat)(fr:aM)(st:TS)(k:aM->TS->Prop):Prop:=Ip l λl=>match l with
 | []=>k fr st
 | a::l=>k (fr.act (nY (a::l))) (st.act (nY (a::l)))
theorem PH{l:List Nat}{fr:aM}{st:TS}{k:aM->TS->Prop}:LF l fr st k=k (Ik l fr) (zk l st):=by
 unfold LF;rw[Vj];cases l<;>rfl
def PI(Z:TP)(T:bZ)(X:cY)(f:aU)(b:List AV)(fr:aM)(st:TS)(k:AV->aM->TS->Prop)(R:ae->Prop):Prop:=
 match LA (Lz b) b with
 | none=>False
 | some c=>match Lz b with
   | none=>TC Z T X f c none (λa _=>LF (b.flatMap AV.fq) fr st λfr s=>k a fr ⟨st.nt,s.av⟩) R
   | some o=>match st.av[o]? with
     | some (v,e,cs)=>match vu cs,Vi o cs with
       | some d,true=>TC Z T X f c (some (e,d)) (λa g=>LF (b.flatMap AV.fq++cs.flatMap CV.fq) fr st λfr s=>k a fr ⟨st.nt,s.av.set o (v+1,e,g.map .s)⟩) R
       | _,_=>False
     | none=>False
theorem Vk{Z:TP}{T:bZ}{X:cY}{f:aU}{a:List AV}{fr:aM}{st:TS}{k:AV->aM->TS->Prop}{R:ae->Prop}:PI Z T X f a fr st k R=LD Z T X f a fr st k R:=by
 unfold PI LD;simp only[PH]
theorem Vl{fr:aM}(a : ∀t,bX K E (fr t) (aK t)) : ∀(l:List au),R2 (bX K E) (l.map (eC fr)) (l.map (aJ aK))
 | []=> .nil
 | x::l=> .cons (jR a x) (Vl a l)
theorem aly{D:TD}(t:Df T D)(h:TR Z K0 sp W0 K st fr aK E){f:aU}(w:D.node.elem f=true){args:List au}{k:AV->aM->TS->Prop}(hk:LC (args.map (eC fr)) fr st k):aR T f (args.map (aJ aK)) K λv g=>∃a aj bN j,TR Z K0 sp W0 g bN aj aK j/\bX g j a v/\gR K st E g bN j/\k a aj bN:=by
 have d:=Vl h.gx args;obtain⟨l,ha⟩ : ∃l,args.map (eC fr)=l:=⟨_,rfl⟩;obtain⟨vs,hv⟩ : ∃vs,args.map (aJ aK)=vs:=⟨_,rfl⟩;rw[ha] at hk d;rw[hv] at d⊢;unfold LC at hk;split at hk
 ·rename_i a b x;cases hx:slV x with
  | false=>rw[hx] at hk;exact hk.elim
  | true=>
  rw[hx] at hk;cases d with
  | cons h1 d=>cases d with
    | cons h2 d=>cases d with
      | cons h3 d=>
        cases d;obtain rfl:=ut h1 (u:= .int .i64 a) rfl;obtain rfl:=ut h2 (u:= .int .i64 b) rfl;rename_i w3;cases h3 with
        | r h3=>cases h3 with
          | c h3=>
            have : ∃q n c,w3=Value.slice q n c:=by
             cases h3 with
             | s h3=>
               cases h3 with
               | sc h3=>
                 cases w3 with
                 | slice q n c=>exact⟨q,n,c,rfl⟩
                 | _=>cases hx
               | pI=>exact⟨_,_,_,rfl⟩
               | row=>exact⟨_,_,_,rfl⟩
               | lk=>cases hx
               | zi=>cases hx
               | sub=>cases hx
             | vr=>exact⟨_,_,_,rfl⟩
             | own=>exact⟨_,_,_,rfl⟩
             | bad=>cases hx
            obtain⟨q,n,c,rfl⟩:=this;refine(t.node f w K a b q n c).mono λv g ⟨y,o,z⟩=> ?_;subst y z;obtain⟨t1,m⟩:=h.grow (K':=K.new o) (mQ _) λb hb=>bQ Om;have h3:=h3.mv m;rw[CV.lZ] at h3;exact⟨_,_,_,E,t1, .r (.agg (vs:= [_,_,_,_,_]) (.cons (.s (.sc rfl)) (.cons (.s (.sc rfl)) (.cons (.s (.sc rfl)) (.cons (.s (.sc rfl)) (.cons h3 .nil)))))),⟨λ_ h=>h,λ_ _ h=>h,λo v e cs h'=>⟨v,cs,h',al _,λ_ b hb=>bQ (by have:=(h.ej o b hb).1;omega)⟩⟩,hk⟩
 exact hk.elim
theorem Vm : ∀ {cs:List CV} {a:List SV},vu cs=some a->a.length=cs.length
 | [],a,h=>by cases h;rfl
 | x::cs,a,h=>by
   simp only[vu] at h;split at h;·rename_i y ys c b;cases h;simp[Vm b]
   cases h
theorem Vn : ∀ {cs:List CV} {a:List SV},vu cs=some a->fp (a.map .s)=fp cs/\∀vs,kO (a.map .s) vs=kO cs vs
 | [],a,h=>by cases h;exact⟨rfl,λ_=>rfl⟩
 | x::cs,a,h=>by
   simp only[vu] at h;split at h
   ·rename_i y ys b c;cases h;obtain⟨i1,i2⟩:=Vn c;rw[dG];cases x with
    | s z=>
      cases b;refine⟨by rw[Fq,i1,<-Fq],λvs=> ?_⟩;cases vs with
      | nil=>cases y<;>rfl
      | cons v vs=>rw[Bq,i2,<-Bq]
    | own t e sz gs=>
      cases b;refine⟨i1,λvs=> ?_⟩;cases vs with
      | nil=>rfl
      | cons v vs=>exact i2 vs
    | bad=>cases b
   cases h
theorem JR.hd{v v':Nat}{e:aI}{cs:List CV}{r a:List (Nat×aI×List CV)}{W:Nat->Prop}(h:JR Z ((v,e,cs)::r) K sp W):JR Z ((v',e,cs)::a) K sp W:=h
theorem TR.call(h:TR Z K0 sp W0 K st fr aK E){W W':Nat->Prop}{o p v:Nat}{e:aI}{cs us:List CV}{os':List ae}(j:E.ρ o=some p)(ho:st.av[o]? = some (v,e,cs))(k:K.nx<=K'.nx)(hk : ∀b,b<K.nx->b≠p->¬W b->K'.ob b=K.ob b)(hp:K'.ob p= .cells os' e .ex)(hw : ∀b,W b->E.hid b/\(W0 b\/K0.nx<=b))(u : ∀b,W' b->E.hid b\/(K.nx<=b/\b<K'.nx))(J : ∀b,W' b->W0 b\/K0.nx<=b)(hs:R2 (fo K' ⟨E.σ,E.ρ,λb=>E.hid b\/W' b⟩) us os')(A : ∃w:Nat->Prop,(∀b,w b->(E.hid b\/W' b)/\(W0 b\/K0.nx<=b))/\JR Z (st.av.set o (v+1,e,us)) K' (E.ρ 0) w) :
 TR Z K0 sp W0 K' ⟨st.nt,st.av.set o (v+1,e,us)⟩ fr aK ⟨E.σ,E.ρ,λb=>E.hid b\/W' b⟩/\gR K st E K' ⟨st.nt,st.av.set o (v+1,e,us)⟩ ⟨E.σ,E.ρ,λb=>E.hid b\/W' b⟩:=by
 obtain⟨L,r2,y⟩:=h.ej o p j;have r : ∀b,b<K.nx->¬E.hid b->b≠p->K'.ob b=K.ob b:=λb hb hh hp=>hk b hb hp λq=>hh (hw b q).1;have m:Mv K E (λ_=> .cP) K' ⟨E.σ,E.ρ,λb=>E.hid b\/W' b⟩:=by
  refine⟨λb hb=>⟨⟨cj hb.1 k,λq=> ?_,hb.2.2⟩,r b hb.1 hb.2.1 λe=>hb.2.2.2 o (e▸j)⟩,λt b q _=>⟨q,r b (h.sig t b q).2.1 (λhh=>(h.hid b hh).2.1 t q) λe=>h.sr t o b q (e▸j)⟩,(λ_ _ _ q=>(by cases q)),λ_ _ q=>q⟩;rcases q with q | q
  ·exact hb.2.1 q
  rcases u b q with g | g
  ·exact hb.2.1 g
  have:=hb.1;omega
 have B : ∀ {x v},bX K E x v->bX K' ⟨E.σ,E.ρ,λb=>E.hid b\/W' b⟩ x v:=λq=>by
  have:=q.mv m;rwa [AV.lZ] at this
 have C : ∀x v,fo K E x v->fo K' ⟨E.σ,E.ρ,λb=>E.hid b\/W' b⟩ x v:=λx v q=>by
  have:=q.mv m;rwa [CV.lZ] at this
 have n : ∀b,b<K0.nx->¬W0 b->¬W b:=λb hb s q=>by
  rcases(hw b q).2 with g | g
  ·exact s g
  omega
 refine⟨⟨bW h.nx k,λb hb z s=> ?_,λb hb=> ?_,λb hb=> ?_,A,λt b q=> ?_,h.inj,h.sr,λo' b q=> ?_,h.sC,λo' v' e' cs' q=> ?_,λt=>B (h.gx t)⟩,⟨λ_ q=> .inl q,λ_ _ q=>q,λo' v' e' cs' q=> ?_⟩⟩
 ·refine(hk b (cj hb h.nx) (λe=> ?_) (n b hb s)).trans (h.cP b hb z s);subst e;rcases r2 with r2 | r2
  ·omega
  exact z r2
 ·obtain⟨a,c,d,F⟩:=h.ur b hb;refine⟨a,c,d,(hk b (cj a h.nx) (λe=> ?_) (n b a d)).trans F⟩;subst e;rcases r2 with r2 | r2
  ·omega
  exact c r2
 ·have G:E.hid b\/(K.nx<=b/\b<K'.nx):=hb.elim .inl (u b);rcases G with hb | ⟨hb,H⟩
  ·obtain⟨a,c,d⟩:=h.hid b hb;exact⟨cj a k,c,d⟩
  exact⟨H,λt q=>by have:=(h.sig t b q).2.1;omega,λo q=>by have:=(h.ej o b q).1;omega⟩
 ·obtain⟨a,c,d⟩:=h.sig t b q;exact⟨a,cj c k,d⟩
 ·obtain⟨a,c,d⟩:=h.ej o' b q;exact⟨cj a k,c,by show o'<(st.av.set o _).length;rw[Jr];exact d⟩
 ·have q:(st.av.set o (v+1,e,us))[o']? = some (v',e',cs'):=q;by_cases f:o=o'
  ·subst f;rw[Nx y] at q;cases q;exact⟨p,os',j,hp,hs⟩
  rw[Jk f] at q;obtain⟨l,I,a,c,d⟩:=h.av o' v' e' cs' q;exact⟨l,I,a,(r l (h.ej o' l a).1 (λhh=>(h.hid l hh).2.2 o' a) λe=>f (h.sC o o' p j (e▸a))).trans c,d.mono C⟩
 by_cases f:o=o'
 ·subst f;rw[ho] at q;cases q;exact⟨v+1,us,Nx y,mQ _,λe=>by omega⟩
 refine⟨v',cs',(Jk f).trans q,al _,λ_ l hl=>r l (h.ej o' l hl).1 (λhh=>(h.hid l hh).2.2 o' hl) λe=>f (h.sC o o' p j (e▸hl))⟩
theorem alz{o:Nat}{cs:List CV}(h:Vi o cs=true):o=0\/fp cs= []:=by
 cases o with
 | zero=>exact .inl rfl
 | succ o=>exact .inr (List.isEmpty_iff.1 h)
theorem alA(h:TR Z K0 sp W0 K st fr aK E){f:aU}{args:List au}{k:AV->aM->TS->Prop}{R:ae->Prop}(hk:PI Z T X f (args.map (eC fr)) fr st k R):E7 T X f (args.map (aJ aK)) K (λv j=>∃a aj bN z,TR Z K0 sp W0 j bN aj aK z/\bX j z a v/\gR K st E j bN z/\k a aj bN) (PX K0 sp W0 R):=by
 have G:=Vl h.gx args;obtain⟨c,ha⟩ : ∃c,args.map (eC fr)=c:=⟨_,rfl⟩;obtain⟨vs,hv⟩ : ∃vs,args.map (aJ aK)=vs:=⟨_,rfl⟩;rw[ha] at hk G;rw[hv] at G⊢;rw[Vk] at hk;unfold LD at hk;split at hk;·exact hk.elim
 rename_i az H;split at hk
 ·rename_i N;rw[N] at H;obtain⟨f1,f2⟩:=acY h (l:=c.flatMap AV.fq) (so:=none) (sp':=none) (λ_ q=>(by cases q));have hz:=Vh (mG:=PG E (c.flatMap AV.fq) none) (λo b q=>(by cases q)) f1 f2 G H λt q=>q;refine(hk K none _ (λ_=>False) vs (λb hb=>⟨?_,(λq=>(by cases q))⟩) (λ_ h=>h.elim) (λb hb=>⟨cj (h.ur b hb).1 h.nx,(λq=>(by cases q)),id,(h.ur b hb).2.2.2⟩) hz rfl λ_ h=>h).mono (λv j ⟨I,J,mG,W',a,S,u,U,V,k5,k6,A⟩=> ?_) λv j hp=>hp.up h (λb q=>(by cases q)) λb q=>q.elim
  ·rcases hb with hb | ⟨t,_,ht⟩ | ⟨o,_,ho⟩
   ·exact(h.hid b hb).1
   ·exact(h.sig t b ht).2.1
   exact(h.ej o b ho).1
  obtain⟨z,t1,m,t2,rfl⟩:=h.fz (c.flatMap AV.fq);obtain⟨Y,m1⟩:=t1.grow I λb hb=>J b hb (λq=>(by cases q)) id;rw[PD,PE] at A;refine⟨a,_,_,_,Y,U.Bt V (λ_=>rfl) λb hb=>⟨⟨hb.1,λhh=>hb.2.1 (u.up b (.inl hh)),λt q=> ?_,λo q=>hb.2.1 (u.up b (.inr (.inr ⟨o,(λq=>(by cases q)),q⟩)))⟩,rfl⟩,⟨λ_ q=>q,λo b q=>q,λo v e cs q=> ?_⟩,A⟩
  ·have q:(if t∈c.flatMap AV.fq then none else E.σ t)=some b:=q;split at q;·cases q
   rename_i hn;exact hb.2.1 (u.up b (.inr (.inl ⟨t,hn,q⟩)))
  obtain⟨v',cs',g1,g2,g3⟩:=t2.nh o v e cs q;exact⟨v',cs',g1,g2,λe b hb=>(J b (h.ej o b hb).1 (λq=>(by cases q)) id).trans (g3 e b hb)⟩
 rename_i o N;split at hk
 ·rename_i v e cs B;split at hk
  ·rename_i ss Vp jV;rw[N] at H;obtain⟨p,os,d,o2,o3⟩:=h.av o v e cs B;obtain⟨f1,f2⟩:=acY h (l:=c.flatMap AV.fq++cs.flatMap CV.fq) (so:=some o) (sp':=some p) (λb q=>⟨o,rfl,q▸d⟩);have hz:=Vh (mG:=PG E (c.flatMap AV.fq++cs.flatMap CV.fq) (some o)) (λo' b n q2=>by cases n;rw[<-d,q2]) f1 f2 G H λt q=>tQ _ q;have Vq:=Ly f1 o3 Vp λt b n q2=>f2 t b (Ed _ n) q2;have vz:p<K.nx:=(h.ej o p d).1;obtain⟨Ft,Vr⟩:=Vn Vp;obtain⟨Wc,w1,w2⟩:=h.wr;obtain⟨W,hw,hSJ,Fu⟩ : ∃W:Nat->Prop,(∀b,W b->E.hid b/\(W0 b\/K0.nx<=b))/\SJ Z K (some p) W (some (e,ss))/\(o=0\/∀b,¬W b):=by
    by_cases hl:fp cs= []
    ·exact⟨λ_=>False,λ_ h=>h.elim, .inl ⟨Ft.trans hl,λ_ h=>h⟩, .inr λ_ h=>h⟩
    have y:=(alz jV).resolve_right hl;subst y;refine⟨Wc,w1,?_, .inl rfl⟩;match aL:st.av,w2,B with
    | (v',e',cs')::r,w2,B=>
      cases B;rcases w2 with ⟨g,_⟩ | ⟨_,p',oW,g1,g2,g3,g4⟩
      ·exact absurd g hl
      rw[d] at g1;cases g1;exact .inr ⟨by rw[Ft];exact hl,p,oW,rfl,g2,by rw[g3,<-Vm Vp,fh],by rw[Ft,Vr];exact g4⟩
   refine(hk K (some p) _ W vs (λb hb=>⟨?_,λq=> ?_⟩) (λb hb=> .inl (hw b hb).1) (λb hb=>⟨cj (h.ur b hb).1 h.nx,λq=> ?_,λq=> ?_,(h.ur b hb).2.2.2⟩) hz ⟨p,os,rfl,vz,o2,Vq⟩ hSJ).mono (λv1 j ⟨I,J,mG,W',a,S,u,U,V,k5,k6,A⟩=> ?_) λv j hp=>hp.up h (λb q=>⟨o,by cases q;exact d⟩) λb q=>(hw b q).2
   ·rcases hb with hb | ⟨t,_,ht⟩ | ⟨o,_,ho⟩
    ·exact(h.hid b hb).1
    ·exact(h.sig t b ht).2.1
    exact(h.ej o b ho).1
   ·cases q;rcases hb with hb | ⟨t,_,ht⟩ | ⟨o',n,ho⟩
    ·exact(h.hid p hb).2.2 o d
    ·exact h.sr t o p ht d
    exact n (by rw[h.sC o o' p d ho])
   ·cases q;obtain⟨g1,g2,_⟩:=h.ur p hb;rcases(h.ej o p d).2.1 with g | g
    ·omega
    exact g2 g
   ·obtain⟨g1,_,g3,_⟩:=h.ur b hb;rcases(hw b q).2 with g | g
    ·exact g3 g
    omega
   obtain⟨p',C,s1,s2,s3,s4⟩:=k5;cases s1;obtain⟨z,t1,m,t2,rfl⟩:=h.fz (c.flatMap AV.fq++cs.flatMap CV.fq);have Am : ∀b,dE j (E0 (some p) mG) b->b≠p/\¬(E.hid b\/W' b)/\(∀t,(if t∈c.flatMap AV.fq++cs.flatMap CV.fq then none else E.σ t)≠some b)/\(∀o,E.ρ o≠some b)/\b<j.nx:=λb hb=>by
    have L:b≠p:=λe=>hb.2.2.2 0 (by show(if 0=0 then some p else none)=some b;rw[iP rfl,e]);refine⟨L,λhh=>hb.2.1 ?_,λt q=> ?_,λo' q=> ?_,hb.1⟩
    ·rcases hh with hh | hh
     ·exact u.up b (.inl hh)
     exact(u.w b hh).1
    ·split at q;·cases q
     rename_i hn;exact hb.2.1 (u.up b (.inr (.inl ⟨t,hn,q⟩)))
    by_cases ho:o'=o
    ·subst ho;rw[d] at q;cases q;exact L rfl
    exact hb.2.1 (u.up b (.inr (.inr ⟨o',λq=>ho (by cases q;rfl),q⟩)))
   have hN : ∀b,W' b->E.hid b\/(K.nx<=b/\b<j.nx):=λb q=>by
    obtain⟨n,q2⟩:=u.w b q;rcases q2 with q2 | q2
    ·exact .inl (hw b q2).1
    exact .inr ⟨q2,u.dn b n⟩
   have Vo : ∀b,W' b->W0 b\/K0.nx<=b:=λb q=>by
    rcases(u.w b q).2 with q2 | q2
    ·exact(hw b q2).2
    exact .inr (bW h.nx q2)
   have gM:(⟨st.nt,(st.act (nY (c.flatMap AV.fq++cs.flatMap CV.fq))).av⟩:TS).av[o]? = some (v,e,cs.map (CV.act (nY (c.flatMap AV.fq++cs.flatMap CV.fq)))):=by
    show(st.av.map _)[o]? = _;rw[hY,B];rfl
   have sb:o<(st.act (nY (c.flatMap AV.fq++cs.flatMap CV.fq))).av.length:=(List.getElem?_eq_some_iff.1 gM).1;have jq : ∀b,b<K.nx->b≠p->¬W b->j.ob b=K.ob b:=λb hb L PF=>J b hb (λq=>L (by cases q;rfl)) PF;obtain⟨Y,u2⟩:=t1.call (W:=W) (W':=W') (us:=S.map .s) (os':=C) (p:=p) d gM I jq s3 hw hN Vo (s4.map λx v q=> .s (q.mv λb hb=>by
    obtain⟨g1,g2,g3,g4,g5⟩:=Am b hb;exact⟨⟨g5,g2,g3,g4⟩,rfl⟩)) (by
    by_cases y:o=0
    ·subst y;refine⟨W',λb q=>⟨.inr q,Vo b q⟩,?_⟩;show JR Z ((st.act (nY (c.flatMap AV.fq++cs.flatMap CV.fq))).av.set 0 (v+1,e,S.map .s)) j (E.ρ 0) W';rw[d];match aL:(st.act (nY (c.flatMap AV.fq++cs.flatMap CV.fq))).av,sb with
     | _::r,_=>exact JR.hd (v:=0) (r:= []) k6
    have F:=Fu.resolve_left y;obtain⟨W2,g1,g2⟩:=t1.wr;refine⟨W2,λb q=>⟨.inl (g1 b q).1,(g1 b q).2⟩,JR.mv g2 (by rw[Jr]) (λv' e' cs' q=> ?_) (λb q=> ?_) I⟩;·refine⟨v',cs',(Jk y).trans q,rfl,rfl,λ_ M zn n q2=>⟨zn,?_,rfl,rfl⟩⟩;have n:E.ρ 0=some M:=n;exact(jq M (h.ej 0 M n).1 (λe=>y (h.sC o 0 p d (e▸n))) (F M)).trans q2
    have hh:=h.hid b (g1 b q).1;exact jq b hh.1 (λe=>hh.2.2 o (e▸d)) (F b))
   rw[PD,PE] at A;refine⟨a,_,_,_,Y,U.Bt V (λ_=>rfl) λb hb=> ?_,⟨λb q=> .inl q,λo b q=>q,λo' v' e' cs' q=> ?_⟩,A⟩;·obtain⟨g1,g2,g3,g4,g5⟩:=Am b hb;exact⟨⟨g5,g2,g3,g4⟩,rfl⟩
   obtain⟨v2,xJ,g1,g2,g3⟩:=t2.nh o' v' e' cs' q;obtain⟨v3,cs3,g4,g5,g6⟩:=u2.nh o' v2 e' xJ g1;exact⟨v3,cs3,g4,bW g2 g5,λe b hb=>g6 Om b hb⟩
  exact hk.elim
 exact hk.elim
end
section
open Go Go.RowKit
def rh (fr:aM):Option Nat->AV->aM
 | none,_=>fr
 | some d,a=>λt=>match tT t d with
   | true=>a
   | false=>fr t
theorem LH{fr:aM}{d t:Nat}{a:AV}:rh fr (some d) a t=if t=d then a else fr t:=by
 show(match tT t d with | true=>a | false=>fr t)=_;split;·rename_i h;rw[iP (Aj h)]
 rename_i h;rw[iN (agj h)]
def Bu (b:Bool)(a no:Prop):Prop:=match b with
 | true=>a
 | false=>no
def uv (o:Option AV)(k:AV->Prop):Prop:=match o with
 | some a=>k a
 | none=>False
def Dg (o:Option (AV×aM×TS))(k:AV->aM->TS->Prop):Prop:=match o with
 | some (a,fr,st)=>k a fr st
 | none=>False
def zp(fr:aM)(k:AV->Prop):dJ->Prop
 | .idx x i sz=>match (eC fr x).Pu,(eC fr i).raw with
   | some (t,z,gs),some (.int _ j)=>Ij sz z/\∃(n:Nat) (g:List SV),j=(n:Int)/\gs[n]? = some g/\k (.fT t g 0)
   | _,_=>False
 | .len x=>match eC fr x with
   | .r (.c (.s (.row _ gs)))=>gs.length<=maxLen->k (iS gs.length)
   | .r (.c (.own _ _ _ gs))=>gs.length<=maxLen->k (iS gs.length)
   | .r (.c (.s (.sub _ gs)))=>gs.length<=maxLen->k (iS gs.length)
   | a=>uv ((lenOf a).map λn=>iS n) k
 | x=>uv (sD fr x) k
def Bv(fr:aM)(st:TS)(k:AV->aM->TS->Prop):qH->Prop
 | .AA e sz n z ps=>match Nat.ble 1 n&&(Nat.ble (n*sz) 16777216&&(Nat.ble n 16777216&&Lp e sz)),Il sz (ps.map λp=>(eC fr p.2).wM) with
   | true,some gs=>match Lu gs with
     | some hs=>ps.map (·.1)=List.range n/\LF (gs.flatten.flatMap CV.fq) fr st λfr s=>k (.r (.c (.own st.nt e sz hs))) fr ⟨st.nt+1,s.av⟩
     | none=>False
   | _,_=>False
 | x=>Dg (xW fr st x) k
theorem alB{fr:aM}{st:TS}{k:AV->aM->TS->Prop}{x:qH}(h:Bv fr st k x) : ∃a aj bN,xW fr st x=some (a,aj,bN)/\k a aj bN:=by
 unfold Bv at h;split at h
 ·rename_i e sz n z ps;split at h
  ·rename_i gs h1 h2;split at h;·rename_i hs h3;obtain⟨h4,h5⟩:=h;simp only[fJ] at h1;rw[PH] at h5;refine⟨_,_,_,?_,h5⟩;simp only[xW,h2,h3];rw[iP ⟨h4,Eb h1.1,Eb h1.2.1,Eb h1.2.2.1,h1.2.2.2⟩]
   exact h.elim
  exact h.elim
 unfold Dg at h;split at h;·rename_i a aj bN e;exact⟨a,aj,bN,e,h⟩
 exact h.elim
def acZ (o:Option (Nat×aI×Nat))(fr:aM)(st:TS)(k:aM->TS->Prop):Prop:=match o with
 | none=>k fr st
 | some (t,_)=>k (fr.act (lY (some t))) (st.act (lY (some t)))
theorem Vs{o:Option (Nat×aI×Nat)}{fr:aM}{st:TS}{k:aM->TS->Prop}:acZ o fr st k=k (Py o fr) (Fl o st):=by
 cases o<;>rfl
def BdA (n bytes:Nat):Prop:=n*bytes<=140737488355328/\n<=maxLen
def Vt(e sz:Nat):Option (Nat×aI×Nat)->Bool
 | none=>true
 | some (_,e',oD)=>tT e' e&&tT oD sz
def ac0 (sz:Nat):Option Nat->Bool
 | none=>true
 | some oD=>tT oD sz
theorem alC{e sz:Nat}{o:Option (Nat×aI×Nat)}(h:Vt e sz o=true):Vd e sz o:=by
 cases o with
 | none=>trivial
 | some p=>
   obtain⟨t,e',oD⟩:=p;simp only[Vt,fJ] at h;exact⟨Aj h.1,Aj h.2⟩
theorem alD{sz:Nat}{o:Option Nat}(h:ac0 sz o=true):Ij sz o:=by
 cases o with
 | none=>trivial
 | some p=>exact Aj h
def Bw(fr:aM)(st:TS)(k:AV->aM->TS->Prop):ja->Prop
 | .app e sz bytes s x=>match (eC fr s).Vc,(eC fr x).rowOf with
   | some (o,gs),some (_,z,hs)=>match Vt e sz o&&Lp e sz,ac0 sz z with
     | true,true=>BdA (gs.length+hs.length) bytes/\acZ o fr st λfr s=>k (.r (.c (.own st.nt e sz (gs++hs)))) fr ⟨st.nt+1,s.av⟩
     | _,_=>False
   | _,_=>False
 | x=>Dg (zl fr st x) k
def PK(Z:TP)(T:bZ)(X:cY)(D:TD)(f:aU)(a:List AV)(fr:aM)(st:TS)(k:AV->aM->TS->Prop)(R:ae->Prop):Prop:=match D.node.elem f with
 | true=>LC a fr st k
 | false=>PI Z T X f a fr st k R
def Dh (Z:TP)(T:bZ)(X:cY)(D:TD)(op:gu)(fr:aM)(st:TS)(k:AV->aM->TS->Prop)(R:ae->Prop):Prop:=match op with
 | .p x=>zp fr (λa=>k a fr st) x
 | .l x=>uv (zj fr st x) λa=>k a fr st
 | .a x=>Bv fr st k x
 | .w x=>Bw fr st k x
 | .call f args=>PK Z T X D f (args.map (eC fr)) fr st k R
 | .pv _ _=>False
structure Rec where
 d:Nat
 o:Nat
 off:Nat
 nh:Nat
def zq (n:Nat)(k:Nat->Prop):Prop:=match n with
 | 0=>k 0
 | n+1=>k (n+1)
def fcV (v:ae)(k:ae->Prop):Prop:=match v with
 | .int kd n=>k (.int kd n)
 | .bool b=>Bu b (k (.bool true)) (k (.bool false))
 | .string s=>k (.string s)
 | .slice a n c=>k (.slice a n c)
 | v=>k v
def Vu (x:SV)(k:SV->Prop):Prop:=match x with
 | .sc v=>fcV v λv=>k (.sc v)
 | .row sz gs=>k (.row sz gs)
 | .lk x=>k (.lk x)
 | .sub sz gs=>k (.sub sz gs)
def LI (x:CV)(k:CV->Prop):Prop:=match x with
 | .s x=>Vu x λx=>k (.s x)
 | .own t e sz gs=>zq t λt=>k (.own t e sz gs)
 | .bad=>k .bad
def PL:List CV->(List CV->Prop)->Prop
 | [],k=>k []
 | x::l,k=>LI x λx=>PL l λl=>k (x::l)
def LJ (x:RV)(k:RV->Prop):Prop:=match x with
 | .c x=>LI x λx=>k (.c x)
 | .agg cs=>PL cs λcs=>k (.agg cs)
def PM:List RV->(List RV->Prop)->Prop
 | [],k=>k []
 | x::l,k=>LJ x λx=>PM l λl=>k (x::l)
def LK (a:AV)(k:AV->Prop):Prop:=match a with
 | .r x=>LJ x λx=>k (.r x)
 | .ptr o off=>zq o λo=>zq off λoff=>k (.ptr o off)
 | .fT t g off=>k (.fT t g off)
 | .jX l=>PM l λl=>k (.jX l)
 | .skip=>k .skip
 | .bad=>k .bad
def ac1 (v:ae)(k:ae->Prop):Prop:=match v with
 | .int kd n=>k (.int kd n)
 | .bool b=>k (.bool b)
 | .string s=>k (.string s)
 | .slice a n c=>k (.slice a n c)
 | v=>k v
def Vv (x:SV)(k:SV->Prop):Prop:=match x with
 | .sc v=>ac1 v λv=>k (.sc v)
 | .row sz gs=>k (.row sz gs)
 | .lk x=>k (.lk x)
 | .sub sz gs=>k (.sub sz gs)
def PN (x:CV)(k:CV->Prop):Prop:=match x with
 | .s x=>Vv x λx=>k (.s x)
 | .own t e sz gs=>zq t λt=>k (.own t e sz gs)
 | .bad=>k .bad
def PO:List CV->(List CV->Prop)->Prop
 | [],k=>k []
 | x::l,k=>PN x λx=>PO l λl=>k (x::l)
def PP:List (Nat×aI×List CV)->(List (Nat×aI×List CV)->Prop)->Prop
 | [],k=>k []
 | (v,e,cs)::l,k=>zq v λv=>PO cs λcs=>PP l λl=>k ((v,e,cs)::l)
def Vw (st:TS)(k:TS->Prop):Prop:=match st with
 | ⟨n,l⟩=>zq n λn=>PP l λl=>k ⟨n,l⟩
theorem Iq{n:Nat}{k:Nat->Prop}:zq n k=k n:=by cases n<;>rfl
theorem alE{v:ae}{k:ae->Prop}:fcV v k=k v:=by
 cases v with
 | bool b=>cases b<;>rfl
 | _=>rfl
theorem alF{x:SV}{k:SV->Prop}:Vu x k=k x:=by
 cases x with
 | sc v=>simp only[Vu,alE]
 | row=>rfl
 | lk=>rfl
 | sub=>rfl
theorem ac2{x:CV}{k:CV->Prop}:LI x k=k x:=by
 cases x with
 | s x=>simp only[LI,alF]
 | own=>simp only[LI,Iq]
 | bad=>rfl
theorem ac3 : ∀ {l:List CV} {k:List CV->Prop},PL l k=k l
 | [],_=>rfl
 | x::l,k=>by simp only[PL,ac2,ac3]
theorem ac4{x:RV}{k:RV->Prop}:LJ x k=k x:=by
 cases x with
 | c x=>simp only[LJ,ac2]
 | agg cs=>simp only[LJ,ac3]
theorem ac5 : ∀ {l:List RV} {k:List RV->Prop},PM l k=k l
 | [],_=>rfl
 | x::l,k=>by simp only[PM,ac4,ac5]
theorem alG{a:AV}{k:AV->Prop}:LK a k=k a:=by
 cases a with
 | r x=>simp only[LK,ac4]
 | ptr o off=>simp only[LK,Iq]
 | jX l=>simp only[LK,ac5]
 | _=>rfl
theorem alH{v:ae}{k:ae->Prop}:ac1 v k=k v:=by cases v<;>rfl
theorem alI{x:SV}{k:SV->Prop}:Vv x k=k x:=by
 cases x with
 | sc v=>simp only[Vv,alH]
 | row=>rfl
 | lk=>rfl
 | sub=>rfl
theorem alJ{x:CV}{k:CV->Prop}:PN x k=k x:=by
 cases x with
 | s x=>simp only[PN,alI]
 | own=>simp only[PN,Iq]
 | bad=>rfl
theorem ac6 : ∀ {l:List CV} {k:List CV->Prop},PO l k=k l
 | [],_=>rfl
 | x::l,k=>by simp only[PO,alJ,ac6]
theorem ac7 : ∀ {l:List (Nat×aI×List CV)} {k:List (Nat×aI×List CV)->Prop},PP l k=k l
 | [],_=>rfl
 | (v,e,cs)::l,k=>by simp only[PP,Iq,ac6,ac7]
theorem alK{st:TS}{k:TS->Prop}:Vw st k=k st:=by
 obtain⟨n,l⟩:=st;simp only[Vw,Iq,ac7]
def Bx (Z:TP)(T:bZ)(X:cY)(D:TD)(op:gu)(fr:aM)(st:TS)(k:AV->aM->TS->Prop)(R:ae->Prop):Prop:=Dh Z T X D op fr st (λa f s=>LK a λa=>Vw s λs=>k a f s) R
theorem Vx{Z:TP}{T:bZ}{X:cY}{D:TD}{op:gu}{fr:aM}{st:TS}{k:AV->aM->TS->Prop}{R:ae->Prop}:Bx Z T X D op fr st k R=Dh Z T X D op fr st k R:=by
 unfold Bx;congr 1
 funext a f s
 rw[alG,alK]
def PQ:List Rec->(List Rec->Prop)->Prop
 | [],k=>k []
 | ⟨d,o,off,v⟩::l,k=>zq o λo=>zq off λoff=>zq v λv=>PQ l λl=>k (⟨d,o,off,v⟩::l)
theorem PS : ∀ {l:List Rec} {k:List Rec->Prop},PQ l k=k l
 | [],_=>rfl
 | ⟨d,o,off,v⟩::l,k=>by simp only[PQ,Iq,PS]
def Vy (c b:Bool):Bool:=match b with
 | true=>c
 | false=> !c
def By (fr:aM)(g:Option (Nat×Bool))(a no:Prop):Prop:=match g with
 | none=>a
 | some (s,b)=>match fr s with
   | .r (.c (.s (.sc (.bool c))))=>Bu (Vy c b) a no
   | .skip=>no
   | _=>False
def Di (Z:TP)(T:bZ)(X:cY)(D:TD)(R:ae->Prop):List Item->aM->TS->(aM->TS->Prop)->Prop
 | [],fr,st,k=>k fr st
 | it::r,fr,st,k=>By fr it.guard (Bx Z T X D it.op fr st (λa aj bN=>Di Z T X D R r (rh aj it.dst a) bN k) R) (Di Z T X D R r (rh fr it.dst .skip) st k)
def PU (fr:aM)(st:TS)(d:Nat)(x:au):List Rec:=match eC fr x with
 | .ptr o off=>match st.av[o]? with
   | some (v,_,_)=> [⟨d,o,off,v⟩]
   | none=> []
 | _=> []
def Vz(fr:aM)(st:TS)(it:Item):List Rec:=match it.op,it.dst with
 | .l (.ld x),some d=>PU fr st d x
 | .l (.kA _ x),some d=>PU fr st d x
 | _,_=> []
def LM:List Item->aM->TS->Prop
 | [],_,_=>True
 | it::r,fr,st=>By fr it.guard (match it.op with
   | .p x=>zp fr (λa=>LM r (rh fr it.dst a) st) x
   | .l x=>uv (zj fr st x) λa=>LM r (rh fr it.dst a) st
   | _=>False) (LM r (rh fr it.dst .skip) st)
def alL (q:Option (List Item))(fr:aM)(st:TS)(R:ae->Prop):ae->Prop:=match q with
 | some Zl=>λv=>LM Zl fr st/\R v
 | none=>λ_=>False
def PV (q:Option (List Item))(op:gu):Option (List Item):=match qK op with
 | true=>q
 | false=>none
def PW (b:Bool)(s:TS)(l:List TS):List TS:=match b with
 | true=>s::l
 | false=>l
def Dj (Z:TP)(T:bZ)(X:cY)(D:TD)(R:ae->Prop):Option (List Item)->List Item->aM->TS->(aM->TS->List TS->List Rec->Prop)->Prop
 | _,[],fr,st,k=>k fr st [] []
 | q,it::r,fr,st,k=>By fr it.guard (Bx Z T X D it.op fr st (λa aj bN=>PQ (Vz fr st it) λrc=>Dj Z T X D R (PV q it.op) r (rh aj it.dst a) bN λf s l c=>k f s (PW (bS it.op) bN l) (rc++c)) (alL q fr st R))
    (Dj Z T X D R (PV q it.op) r (rh fr it.dst .skip) st λf s l c=>k f s (PW (bS it.op) st l) c)
def Ir:gu->Option au
 | .l (.ld x)=>some x
 | .l (.kA _ x)=>some x
 | _=>none
def LN(d:Nat):List Rec->Option Rec
 | []=>none
 | r::c=>match tT r.d d with
   | true=>some r
   | false=>LN d c
theorem ac8{d:Nat}{rc:Rec} : ∀ {c:List Rec},LN d c=some rc->rc∈c/\rc.d=d
 | [],h=>by cases h
 | r::c,h=>by
   simp only[LN] at h;split at h;·rename_i hb;cases h;exact⟨Sm,Aj hb⟩
   obtain⟨h1,h2⟩:=ac8 h;exact⟨by simp[h1],h2⟩
def ac9 (s:TS)(o v:Nat):Bool:=match s.av[o]? with
 | some (v',_,_)=>tT v' v
 | none=>false
def VA (a:AV)(r:Option Rec)(s:TS):Bool:=match a,r with
 | .ptr o off,some r=>tT r.o o&&(tT r.off off&&ac9 s o r.nh)
 | _,_=>false
def VB (d:Nat):List Item->Nat
 | []=>0
 | it::r=>match it.dst with
   | some e=>match tT e d with
     | true=>VB d r+1
     | false=>VB d r
   | none=>VB d r
def Is (fr:aM)(S:List TS)(c:List Rec)(af:List Item)(p:Item×Nat)(k:Prop):Prop:=match S[p.2]? with
 | none=>False
 | some s=>By fr p.1.guard
   (match Ir p.1.op,p.1.dst with
     | some x,some d=>af.filter (λi=>decide (i.dst=some d))= [p.1]/\match VA (eC fr x) (LN d c) s with
       | true=>k
       | false=>False
     | _,_=>False) k
def Dk (fr:aM)(S:List TS)(c:List Rec)(af:List Item)(k:Prop):List (Item×Nat)->Prop
 | []=>k
 | p::r=>Is fr S c af p (Dk fr S c af k r)
variable {T:bZ} {X:cY} {Z:TP} {D:TD} {K0 K K' Fm:CH} {sp:Option Nat} {W0:Nat->Prop} {st aX vv bN:TS} {fr aj:aM} {aK:Fr} {E E' vw:TE}
theorem PY(h:TR Z K0 sp W0 K st fr aK E){g:Option (Nat×Bool)}{a no:Prop}(hg:By fr g a no):(dU aK g=some true/\a)\/(dU aK g=some false/\no):=by
 unfold By at hg;split at hg;·exact .inl ⟨rfl,hg⟩
 rename_i s b;have d:=h.gx s;split at hg
 ·rename_i c e;have:=ut d (by rw[e];rfl);unfold Bu at hg;split at hg
  ·rename_i hc;refine .inl ⟨?_,hg⟩;cases b<;>cases c<;>first | (simp only[dU,this];rfl) | (simp[Vy] at hc)
  rename_i hc;refine .inr ⟨?_,hg⟩;cases b<;>cases c<;>first | (simp only[dU,this];rfl) | (simp[Vy] at hc)
 ·rename_i e;rw[e] at d;cases hv:aK s with
  | _=>rw[hv] at d;cases d;try exact .inr ⟨by simp only[dU,hv],hg⟩
 exact hg.elim
theorem TR.put(h:TR Z K0 sp W0 K st fr aK E){d:Option Nat}{a:AV}{v:ae}(ha:bX K E a v):TR Z K0 sp W0 K st (rh fr d a) (bE aK d v) E:=⟨h.nx,h.cP,h.ur,h.hid,h.wr,h.sig,h.inj,h.sr,h.ej,h.sC,h.av,λt=>by
 cases d with
 | none=>exact h.gx t
 | some d=>
   rw[LH];show bX K E (if t=d then a else fr t) (if t=d then v else aK t);split;·exact ha
   exact h.gx t⟩
theorem ac'{a:AV}{v:ae}(h:bX K E a v){t z:Option Nat}{gs:List (List SV)}(b:a.rowOf=some (t,z,gs)):gs.length<=maxLen:=by
 rcases Fk h b with ⟨rfl,_⟩ | ⟨h1,_⟩
 ·exact Nat.zero_le _
 exact h1.2
theorem ada(b : ∀t,bX K E (fr t) (aK t)){k:AV->Prop}{x:dJ}(h:zp fr k x) : ∃a,sD fr x=some a/\k a:=by
 unfold zp at h;split at h
 ·rename_i x i sz;split at h;·rename_i t z gs kk j d f;obtain⟨h1,n,g,rfl,h2,h3⟩:=h;refine⟨_,?_,h3⟩;simp only[sD,d,f];rw[iP ⟨h1,Om⟩,Int.toNat_natCast,h2];rfl
  exact h.elim
 ·rename_i x;have hx:=jR b x;split at h;·rename_i sz gs e;rw[e] at hx;exact⟨iS gs.length,by simp only[sD,e];rfl,h (ac' (t:=none) (z:=some sz) hx rfl)⟩
  ·rename_i t e' sz gs e;rw[e] at hx;exact⟨iS gs.length,by simp only[sD,e];rfl,h (ac' (t:=some t) (z:=some sz) hx rfl)⟩
  ·rename_i sz gs e;rw[e] at hx;refine⟨iS gs.length,by simp only[sD,e];rfl,h ?_⟩;generalize aJ aK x=w at hx;cases hx with | r hx=>cases hx with | c hx=>cases hx with | s hx=>
   cases hx with
   | zi=>exact Nat.zero_le _
   | sub aA=>exact aA.2
  unfold uv at h;split at h;·rename_i a e;exact⟨a,by simp only[sD];exact e,h⟩
  exact h.elim
 unfold uv at h;split at h;·rename_i a e;exact⟨a,e,h⟩
 exact h.elim
theorem alM{k:AV->aM->TS->Prop}{x:ja}(h:Bw fr st k x) : ∃a aj bN,zl fr st x=some (a,aj,bN)/\k a aj bN:=by
 unfold Bw at h;split at h
 ·rename_i e sz bytes s x;split at h
  ·rename_i o gs t z hs c d;split at h;·rename_i b f;obtain⟨⟨h1,h2⟩,h3⟩:=h;rw[Vs] at h3;refine⟨_,_,_,?_,h3⟩;simp only[zl,c,d];simp only[fJ] at b;rw[iP ⟨alC b.1,alD f,h1,h2,b.2⟩]
   exact h.elim
  exact h.elim
 unfold Dg at h;split at h;·rename_i a aj bN e;exact⟨a,aj,bN,e,h⟩
 exact h.elim
theorem adb(o:Df T D)(h:TR Z K0 sp W0 K st fr aK E){op:gu}{k:AV->aM->TS->Prop}{R:ae->Prop}(hk:Bx Z T X D op fr st k R):WxO T X aK K op (λv j=>∃a aj bN b,TR Z K0 sp W0 j bN aj aK b/\bX j b a v/\gR K st E j bN b/\k a aj bN) (PX K0 sp W0 R):=by
 rw[Vx] at hk;cases op with
 | p x=>
   left;rw[Z7];obtain⟨a,e,hk⟩:=ada h.gx (k:=λa=>k a fr st) hk;obtain⟨v,c,d⟩:=acJ h.gx e;exact⟨v,c,a,fr,st,E,h,d,gR.refl,hk⟩
 | l x=>
   left;rw[Tr];simp only[Dh,uv] at hk;split at hk;·rename_i a e;obtain⟨v,c,d⟩:=PA h e;exact⟨v,c,a,fr,st,E,h,d,gR.refl,hk⟩
   exact hk.elim
 | a x=>
   left;rw[Z8];obtain⟨a,aj,bN,e,hk⟩:=alB hk;obtain⟨cs,e,kd,mk,b,c,d,m,n⟩:=alw h e;exact⟨cs,e,kd,mk,c,a,aj,bN,b,d,m,n,hk⟩
 | w x=>
   left;rw[Z9];obtain⟨a,aj,bN,e,hk⟩:=alM hk;obtain⟨v,j,b,c,d,m,n⟩:=alx h e;exact⟨v,j,c,a,aj,bN,b,d,m,n,hk⟩
 | call f args=>
   simp only[Dh,PK] at hk;split at hk;·rename_i q;left;rw[Z'];exact aly o h q hk
   rcases alA h hk with g | g
   ·left;rw[Z'];exact g
   exact .inr ⟨f,args,rfl,g⟩
 | pv g args=>exact hk.elim
theorem Be.mono{af:List Item}{fr:Fr}{H:CH}{K K':Fr->CH->Prop}{R:ae->CH->Prop}(h:Be T X af fr H K R)(hk : ∀f H,K f H->K' f H):Be T X af fr H K' R:=by
 rcases h with ⟨n,f,H',h1,h2⟩ | h
 ·exact .inl ⟨n,f,H',h1,hk _ _ h2⟩
 exact .inr h
theorem VC(b:Df T D){R:ae->Prop} : ∀ {af:List Item} {K:CH} {st:TS} {fr:aM} {aK:Fr} {E:TE} {k:aM->TS->Prop},TR Z K0 sp W0 K st fr aK E->Di Z T X D R af fr st k->Be T X af aK K (λqi K'=>∃fr' aX E',TR Z K0 sp W0 K' aX fr' qi E'/\gR K st E K' aX E'/\k fr' aX) (PX K0 sp W0 R)
 | [],K,st,fr,aK,E,k,h,hk=> .inl (eQ.2 ⟨fr,st,E,h,gR.refl,hk⟩)
 | it::r,K,st,fr,aK,E,k,h,hk=>by
   obtain⟨d,op,g⟩:=it;rcases PY h hk with ⟨q,hk⟩ | ⟨q,hk⟩
   ·refine ajz q ?_;rcases adb b h hk with ⟨n,v,c,e,a,aj,bN,j,t1,t2,t3,t4⟩ | hp
    ·left;refine⟨n,v,c,e,?_⟩;exact(VC b (af:=r) (t1.put (d:=d) t2) t4).mono λf K' ⟨fr',aX,E',z2,z3,z4⟩=>⟨fr',aX,E',z2,t3.trans z3,z4⟩
    exact .inr hp
   refine ajA q ?_;exact(VC b (af:=r) (h.put (d:=d) (a:= .skip) (v:=kD) .skip) hk).mono λf K' ⟨fr',aX,E',z2,z3,z4⟩=>⟨fr',aX,E',z2,z3,z4⟩
def It (op:gu)(ob:cy)(off:Nat):Option ae:=match op,ob with
 | .l (.ld _), .cells cs _ _=>cs[off]?
 | .l (.kA n _), .cells cs _ _=>if off+n<=cs.length then some (.agg ((cs.drop off).take n).toArray) else none
 | _,_=>none
theorem adc{op:gu}{x:au}(hx:Ir op=some x){ev:au->ae}{b off:Nat}(hv:ev x= .pointer (some ⟨b,off,none⟩)){G:CH} : ∃y,op= .l y/\aD G ev y=It op (G.ob b) off:=by
 unfold Ir at hx;split at hx
 ·cases hx;refine⟨_,rfl,?_⟩;simp only[aD,hv,It];cases G.ob b<;>rfl
 ·cases hx;refine⟨_,rfl,?_⟩;simp only[aD,hv,It];cases G.ob b<;>rfl
 cases hx
structure ade(st:TS)(E':TE)(af:List Item)(qi:Fr)(L:List (CH×TS))(r:Rec):Prop where
 h : ∃b x it ob,it∈af/\it.dst=some r.d/\Ir it.op=some x/\E'.ρ r.o=some b/\(∀v e cs,st.av[r.o]? = some (v,e,cs)->v<=r.nh)/\(∀Iu,af.filter (λi=>decide (i.dst=some r.d))= [Iu]->It it.op ob r.off=some (qi r.d))/\∀p∈L,∀e cs,p.2.av[r.o]? = some (r.nh,e,cs)->p.1.ob b=ob
theorem PZ : ∀ {af:List Item} {fr:aM} {aK:Fr},TR Z K0 sp W0 K st fr aK E->LM af fr st->∃n r,cT (cU T n) af aK K=some r
 | [],fr,aK,h,hk=>⟨0,_,rfl⟩
 | it::r,fr,aK,h,hk=>by
   obtain⟨d,op,g⟩:=it;rcases PY h hk with ⟨q,hk⟩ | ⟨q,hk⟩
   ·simp only at hk;cases op with
    | p x=>
      obtain⟨a,e,hk⟩:=ada h.gx hk;obtain⟨v,f,j⟩:=acJ h.gx e;obtain⟨n,b,c⟩:=PZ (af:=r) (h.put (d:=d) j) hk;exact⟨n,b,by simp only[cT,cE,q,eg,f,fg];exact c⟩
    | l x=>
      simp only[uv] at hk;split at hk;·rename_i a e;obtain⟨v,f,j⟩:=PA h e;obtain⟨n,b,c⟩:=PZ (af:=r) (h.put (d:=d) j) hk;exact⟨n,b,by simp only[cT,cE,q,eg,f,fg];exact c⟩
      exact hk.elim
    | _=>exact hk.elim
   obtain⟨n,b,c⟩:=PZ (af:=r) (h.put (d:=d) (a:= .skip) (v:=kD) .skip) hk;exact⟨n,b,by simp only[cT,cE,q];exact c⟩
theorem VD(hD:Df T D){R:ae->Prop} : ∀ {pq:Option (List Item)} {af:List Item} {K:CH} {st:TS} {fr:aM} {aK:Fr} {E:TE} {k:aM->TS->List TS->List Rec->Prop},TR Z K0 sp W0 K st fr aK E->Dj Z T X D R pq af fr st k->(∃n v H',pq.isSome=true/\KS T X n pq af aK K v H'/\PX K0 sp W0 R v H')\/CK T af aK K λqi K' L=>∃fr' aX E' P C,TR Z K0 sp W0 K' aX fr' qi E'/\gR K st E K' aX E'/\k fr' aX (P.map Prod.snd) C/\L=P.map Prod.fst/\(∀p∈P,∃H,gR K st E p.1 p.2 H)/\(∀r∈C,ade st E' af qi ((K,st)::P) r)/\∀t,(∀i∈af,i.dst≠some t)->qi t=aK t
 | pq,[],K,st,fr,aK,E,k,h,hk=> .inr <| aab.2 ⟨fr,st,E,[],[],h,gR.refl,hk,rfl,(λ_ q=>(by cases q)),(λ_ q=>(by cases q)),λ_ _=>rfl⟩
 | pq,it::r,K,st,fr,aK,E,k,h,hk=>by
   obtain⟨d,op,g⟩:=it;have N : ∀ {qi:Fr} {v:ae},(∀t,(∀i∈r,i.dst≠some t)->qi t=bE aK d v t)->∀t,(∀i∈(⟨d,op,g⟩:Item)::r,i.dst≠some t)->qi t=aK t:=λ{qi v} hq t ht=>by
    rw[hq t λi hi=>ht i (by simp[hi])];have:=ht ⟨d,op,g⟩ Sm;cases d with
    | none=>rfl
    | some d=>exact iN λe=>this (by rw[e])
   rcases PY h hk with ⟨q,hk⟩ | ⟨q,hk⟩
   ·rcases adb hD h hk with ⟨n,v,I,w1,a,aj,bN,E1,t1,t2,t3,t4⟩ | ⟨f,args,A,n,v,H',c,j⟩
    rotate_left
    ·cases pq with
     | some Zl=>exact .inl ⟨n,v,H',rfl,abK q A (λZl' e=>by cases e;exact PZ h j.2.2.1) c,j.1,j.2.1,j.2.2.2⟩
     | none=>exact j.2.2.elim
    rw[PS] at t4;rcases VD hD (af:=r) (t1.put (d:=d) t2) t4 with ⟨m,u,H',B,c,j⟩ | hr
    ·unfold PV at B c;split at B;·rename_i O;rw[O] at c;exact .inl ⟨m,u,H',B,O0 (m:=n) (by simp only[cE,q,w1];rfl) (λ_ _=>O) c,j⟩
     cases B
    right;rw[Oq];simp only[q];refine⟨n,v,I,w1,?_⟩;obtain⟨n',J,K',L,z1,fr',aX,E',P,C,z2,z3,z4,z5,z6,z7,z8⟩:=hr;have hP : ∃s:List (CH×TS),PW (bS op) bN (P.map Prod.snd)=s.map Prod.snd/\(if bS op=true then I::L else L)=s.map Prod.fst/\∀p∈s,p=(I,bN)\/p∈P:=by
     by_cases hw:bS op=true
     ·exact⟨(I,bN)::P,by rw[hw];rfl,by rw[iP hw,z5];rfl,λp hp=>by simpa using hp⟩
     exact⟨P,by rw[Bool.not_eq_true] at hw;rw[hw];rfl,by rw[iN hw,z5],λp hp=> .inr hp⟩
    obtain⟨s,c,j,S⟩:=hP;have U : ∀p∈s,∃H,gR K st E p.1 p.2 H:=λp hp=>by
     rcases S p hp with rfl | hp
     ·exact⟨E1,t3⟩
     obtain⟨H,V⟩:=z6 p hp;exact⟨H,t3.trans V⟩
    refine⟨n',J,K',L,z1,fr',aX,E',s,Vz fr st ⟨d,op,g⟩++C,z2,t3.trans z3,by rw[<-c];exact z4,j,U,λrc qj=> ?_,N z8⟩;rcases List.mem_append.1 qj with qj | qj
    ·
     have key : ∀x w,Ir op=some x->d=some w->rc∈PU fr st w x->ade st E' (⟨d,op,g⟩::r) J ((K,st)::s) rc:=λx w hx hd M=>by
      subst hd;unfold PU at M;split at M
      ·rename_i o off he;split at M
       ·rename_i nh ty cs ho;obtain rfl:=List.mem_singleton.1 M;have hr:=jR h.gx x;rw[he] at hr;obtain⟨b,hb,hv⟩:=hr.xU;refine⟨b,x,⟨some w,op,g⟩,K.ob b,Sm,rfl,hx,z3.ej o b (t3.ej o b hb),λv' e' cs' q=>by rw[ho] at q;cases q;exact al _,λIu z=> ?_,λp hp e' cs' q=> ?_⟩
        ·have Y:r.filter (λi=>decide (i.dst=some w))= []:=by
          rw[agk Sm] at z;exact(List.cons.inj z).2
         have hcf:J w=v:=by
          rw[z8 w λi hi e=>by
           have:i∈r.filter (λi=>decide (i.dst=some w)):=List.mem_filter.2 ⟨hi,by simpa using e⟩;rw[Y] at this;cases this]
          exact iP rfl
         show It op (K.ob b) off=some (J w);rw[hcf];obtain⟨y,rfl,hy⟩:=adc hx hv (G:=K);obtain⟨_,w2⟩:=(Tr (K:=λv' K'=>v'=v)).1 ⟨n,v,I,w1,rfl⟩;rw[<-hy];rw[w2.2] at w2;exact w2.1
        rcases List.mem_cons.1 hp with rfl | hp
        ·rfl
        obtain⟨H,V⟩:=U p hp;obtain⟨v2,xJ,g1,g2,g3⟩:=V.nh o _ _ _ ho;rw[g1] at q;cases q;exact g3 rfl b hb
       cases M
      cases M
     unfold Vz at qj;split at qj;·rename_i x w A e2;have A:op= .l (.ld x):=A;exact key x w (by rw[A];rfl) e2 qj
     ·rename_i m x w A e2;have A:op= .l (.kA m x):=A;exact key x w (by rw[A];rfl) e2 qj
     cases qj
    
    obtain⟨b,x,it,ob,r1,r2,r3,r4,r5,r6,F⟩:=(z7 rc qj).h;have hle : ∀v e cs,st.av[rc.o]? = some (v,e,cs)->v<=rc.nh:=λv e cs q=>by
     obtain⟨v2,xJ,g1,g2,g3⟩:=t3.nh _ _ _ _ q;exact bW g2 (r5 _ _ _ g1)
    refine⟨b,x,it,ob,by simp[r1],r2,r3,r4,hle,λIu z=> ?_,λp hp e' cs' q=> ?_⟩
    ·by_cases hd:d=some rc.d
     ·rw[agk (by simpa using hd)] at z;have Y:=(List.cons.inj z).2;have:it∈r.filter (λi=>decide (i.dst=some rc.d)):=List.mem_filter.2 ⟨r1,by simpa using r2⟩;rw[Y] at this;cases this
     rw[List.filter_cons_of_neg (by simpa using hd)] at z;exact r6 Iu z
    rcases List.mem_cons.1 hp with rfl | hp
    ·obtain⟨v2,xJ,g1,g2,g3⟩:=t3.nh _ _ _ _ q;have:=r5 _ _ _ g1;have P3:v2=rc.nh:=by omega
     subst P3;have V:=F (I,bN) Sm _ _ g1;obtain⟨bb,os,h1,h2,h3⟩:=h.av _ _ _ _ q;have:bb=b:=by
      have:=z3.ej _ _ (t3.ej _ _ h1);rw[r4] at this;cases this;rfl
     subst this;exact(g3 rfl bb h1).symm.trans V
    rcases S p hp with rfl | hp
    ·exact F _ Sm e' cs' q
    exact F p (by simp[hp]) e' cs' q
   ·rcases VD hD (af:=r) (h.put (d:=d) (a:= .skip) (v:=kD) .skip) hk with ⟨m,u,H',B,c,j⟩ | hr
    ·unfold PV at B c;split at B;·rename_i O;rw[O] at c;exact .inl ⟨m,u,H',B,O0 (m:=0) (by simp only[cE,q]) (λ_ _=>O) c,j⟩
     cases B
    right;rw[Oq];simp only[q];obtain⟨n',J,K',L,z1,fr',aX,E',P,C,z2,z3,z4,z5,z6,z7,z8⟩:=hr;have hP : ∃s:List (CH×TS),PW (bS op) st (P.map Prod.snd)=s.map Prod.snd/\(if bS op=true then K::L else L)=s.map Prod.fst/\∀p∈s,p=(K,st)\/p∈P:=by
     by_cases hw:bS op=true
     ·exact⟨(K,st)::P,by rw[hw];rfl,by rw[iP hw,z5];rfl,λp hp=>by simpa using hp⟩
     exact⟨P,by rw[Bool.not_eq_true] at hw;rw[hw];rfl,by rw[iN hw,z5],λp hp=> .inr hp⟩
    obtain⟨s,c,j,S⟩:=hP;refine⟨n',J,K',L,z1,fr',aX,E',s,C,z2,z3,by rw[<-c];exact z4,j,λp hp=> ?_,λrc qj=> ?_,N z8⟩
    ·rcases S p hp with rfl | hp
     ·exact⟨E,gR.refl⟩
     exact z6 p hp
    obtain⟨b,x,it,ob,r1,r2,r3,r4,r5,r6,F⟩:=(z7 rc qj).h;refine⟨b,x,it,ob,by simp[r1],r2,r3,r4,r5,λIu z=> ?_,λp hp e' cs' q=> ?_⟩
    ·by_cases hd:d=some rc.d
     ·rw[agk (by simpa using hd)] at z;have Y:=(List.cons.inj z).2;have:it∈r.filter (λi=>decide (i.dst=some rc.d)):=List.mem_filter.2 ⟨r1,by simpa using r2⟩;rw[Y] at this;cases this
     rw[List.filter_cons_of_neg (by simpa using hd)] at z;exact r6 Iu z
    rcases List.mem_cons.1 hp with rfl | hp
    ·exact F _ Sm e' cs' q
    rcases S p hp with rfl | hp
    ·exact F _ Sm e' cs' q
    exact F p (by simp[hp]) e' cs' q
structure sE(st:TS)(E:TE)(aX:TS)(E':TE):Prop where
 hid : ∀b,E.hid b->E'.hid b
 ej : ∀o b,E.ρ o=some b->E'.ρ o=some b
 P4 : ∀(o v:Nat) (e:aI) (cs:List CV),st.av[o]? = some (v,e,cs)->∃v' cs',aX.av[o]? = some (v',e,cs')
theorem sE.refl:sE st E st E:=⟨λ_ h=>h,λ_ _ h=>h,λo v e cs h=>⟨v,cs,h⟩⟩
theorem sE.trans(h:sE st E aX E')(g:sE aX E' vv vw):sE st E vv vw:=⟨λb q=>g.hid b (h.hid b q),λo b q=>g.ej o b (h.ej o b q),λo v e cs q=>by
 obtain⟨a,c,d⟩:=h.P4 o v e cs q;exact g.P4 o a e c d⟩
theorem gR.w(h:gR K st E K' aX E'):sE st E aX E':=⟨h.hid,h.ej,λo v e cs q=>by
 obtain⟨a,b,c,_⟩:=h.nh o v e cs q;exact⟨a,b,c⟩⟩
def oY:List Nat->Nat->Option Nat
 | [],_=>none
 | a::l,t=>match tT a t with
   | true=>some 0
   | false=>match oY l t with
     | some j=>some (j+1)
     | none=>none
theorem VE : ∀ {l:List Nat} {t j:Nat},oY l t=some j->l[j]? = some t
 | [],t,j,h=>by cases h
 | a::l,t,j,h=>by
   simp only[oY] at h;split at h;·rename_i hb;cases h;rw[Aj hb];rfl
   split at h;·rename_i b h';cases h;simpa using VE h'
   cases h
def CV.cut(l:List Nat):CV->CV
 | .own t e sz gs=>match oY l t with
   | some j=> .own j e sz gs
   | none=> .s (vq sz gs)
 | x=>x
def RV.cut(l:List Nat):RV->RV
 | .c x=> .c (x.cut l)
 | .agg cs=> .agg (cs.map (CV.cut l))
def LO (o k:Nat)(a b:AV):AV:=match Nat.ble k o with
 | true=>b
 | false=>a
def AV.cut(k:Nat)(l:List Nat):AV->AV
 | .r x=> .r (x.cut l)
 | .ptr o off=>LO o k (.ptr o off) .bad
 | .fT (some t) g off=>match oY l t with
   | some j=> .fT (some j) g off
   | none=> .fT none g off
 | .fT none g off=> .fT none g off
 | .jX xs=> .jX (xs.map (RV.cut l))
 | .skip=> .skip
 | .bad=> .bad
def aM.cut(k:Nat)(l:List Nat)(fr:aM):aM:=λt=>(fr t).cut k l
def TS.cut(k:Nat)(l:List Nat)(st:TS):TS:=⟨l.length,(st.av.take k).map λ(_,e,cs)=>(0,e,cs.map (CV.cut l))⟩
def TE.cut(k:Nat)(l:List Nat)(E:TE):TE:=⟨λj=>(l[j]?).bind E.σ,λo=>if o<k then E.ρ o else none,E.hid⟩
theorem TE.Fv{k:Nat}{l:List Nat}{j b:Nat}(h:(E.cut k l).σ j=some b) : ∃t,l[j]? = some t/\E.σ t=some b:=by
 have h:(l[j]?).bind E.σ=some b:=h;cases a:l[j]? with
 | none=>rw[a] at h;cases h
 | some t=>rw[a] at h;exact⟨t,rfl,h⟩
theorem TE.Fw{k:Nat}{l:List Nat}{o b:Nat}(h:(E.cut k l).ρ o=some b):o<k/\E.ρ o=some b:=by
 have h:(if o<k then E.ρ o else none)=some b:=h;split at h;·rename_i hk;exact⟨hk,h⟩
 cases h
theorem Fx{k:Nat}{l:List Nat}{b:Nat}(h:dE K E b):dE K (E.cut k l) b:=⟨h.1,h.2.1,λj q=>by
 obtain⟨t,_,a⟩:=TE.Fv q;exact h.2.2.1 t a,λo q=>h.2.2.2 o (TE.Fw q).2⟩
structure LP(K:CH)(E:TE):Prop where
 hid : ∀t b,E.σ t=some b->b<K.nx/\¬E.hid b
 inj : ∀t t' b,E.σ t=some b->E.σ t'=some b->t=t'
 sr : ∀t o b,E.σ t=some b->E.ρ o≠some b
theorem adh : ∀ {l:List Nat} {t j:Nat},oY l t=none->l[j]? ≠some t
 | [],t,j,h,g=>by simp at g
 | a::l,t,j,h,g=>by
   simp only[oY] at h;split at h;·cases h
   rename_i hb;split at h;·cases h
   rename_i hp;cases j with
   | zero=>
     simp at g;subst g;have:=Nat.beq_refl a;rw[hb] at this;cases this
   | succ j=>exact adh (j:=j) hp (by simpa using g)
theorem adi{k:Nat}{l:List Nat}{t b:Nat}(h:LP K E)(hb:E.σ t=some b)(hp:oY l t=none):dE K (E.cut k l) b:=⟨(h.hid t b hb).1,(h.hid t b hb).2,λj q=>by
 obtain⟨t',a,c⟩:=TE.Fv q;have:=h.inj t t' b hb c;subst this;exact adh hp a,λo q=>h.sr t o b hb (TE.Fw q).2⟩
theorem fo.cut(hs:LP K E){k:Nat}{l:List Nat}{x:CV}{v:ae}(h:fo K E x v):fo K (E.cut k l) (x.cut l) v:=by
 cases h with
 | s h=>exact .s (h.mv λb hb=>⟨Fx hb,rfl⟩)
 | @vr t sz e=>
   show fo K _ (match oY l t with | some j=> .own j e sz [] | none=> .s (vq sz [])) _;split;·exact .vr
   exact .s .pI
 | @own t b sz os e kd gs aA hb ho hk hg hv ht=>
   show fo K _ (match oY l t with | some j=> .own j e sz gs | none=> .s (vq sz gs)) _;split;·rename_i j a;refine .own aA ?_ ho hk hg (hv.mv λb hb=>⟨Fx hb,rfl⟩) ht;show(l[j]?).bind E.σ=some b;rw[VE a];exact hb
   rename_i hp;exact .s (.row aA (adi hs hb hp) ho hk hg (hv.mv λb hb=>⟨Fx hb,rfl⟩) ht)
 | bad h=>exact .bad h
theorem qh.cut(hs:LP K E){k:Nat}{l:List Nat}{x:RV}{v:ae}(h:qh K E x v):qh K (E.cut k l) (x.cut l) v:=by
 cases h with
 | c h=>exact .c (h.cut hs)
 | agg h=>exact .agg (h.map λ_ _ q=>q.cut hs)
theorem bX.cut(hg:LP K E){k:Nat}{l:List Nat}{x:AV}{v:ae}(h:bX K E x v):bX K (E.cut k l) (x.cut k l) v:=by
 cases h with
 | r h=>exact .r (h.cut hg)
 | @ptr o off b h=>
   show bX K _ (LO o k (.ptr o off) .bad) _;unfold LO;split;·exact .bad
   rename_i hk;refine .ptr ?_;show(if o<k then E.ρ o else none)=some b;rw[iP (by
    rcases yx o k with g | g
    ·exact g
    rw[Nat.ble_eq_true_of_le g] at hk;cases hk)]
   exact h
 | @fT t g off b base os e kd hb ho hl hs=>
   cases t with
   | none=>exact .fT (t:=none) (Fx hb) ho hl (hs.mono λ_ _ q=>q.mv λb hb=>⟨Fx hb,rfl⟩)
   | some t=>
     show bX K _ (match oY l t with | some j=> .fT (some j) g off | none=> .fT none g off) _;split;·rename_i j a;refine .fT (t:=some j) ?_ ho hl (hs.mono λ_ _ q=>q.mv λb hb=>⟨Fx hb,rfl⟩);show(l[j]?).bind E.σ=some b;rw[VE a];exact hb
     rename_i hp;exact .fT (t:=none) (adi hg hb hp) ho hl (hs.mono λ_ _ q=>q.mv λb hb=>⟨Fx hb,rfl⟩)
 | jX h=>exact .jX (h.map λ_ _ q=>q.cut hg)
 | skip=>exact .skip
 | bad=>exact .bad
def xZ:List Nat->Bool
 | []=>true
 | a::l=>match oY l a with
   | some _=>false
   | none=>xZ l
theorem VF : ∀ {l:List Nat} {t j:Nat},l[j]? = some t->∃i,oY l t=some i
 | [],t,j,h=>by simp at h
 | a::l,t,j,h=>by
   simp only[oY];cases hb:tT a t with
   | true=>exact⟨0,rfl⟩
   | false=>
     cases j with
     | zero=>
       simp at h;subst h;have:=Nat.beq_refl a;rw[hb] at this;cases this
     | succ j=>
       obtain⟨i,hi⟩:=VF (l:=l) (t:=t) (j:=j) (by simpa using h);exact⟨i+1,by simp only[hi]⟩
theorem adj : ∀ {l:List Nat},xZ l=true->∀ {i j t:Nat},l[i]? = some t->l[j]? = some t->i=j
 | [],_,i,j,t,h,_=>by simp at h
 | a::l,hn,i,j,t,h,g=>by
   simp only[xZ] at hn;split at hn;·cases hn
   rename_i hp;cases i with
   | zero=>
     cases j with
     | zero=>rfl
     | succ j=>
       simp at h g;subst h;obtain⟨i,hi⟩:=VF g;rw[hp] at hi;cases hi
   | succ i=>
     cases j with
     | zero=>
       simp at h g;subst g;obtain⟨i,hi⟩:=VF h;rw[hp] at hi;cases hi
     | succ j=>exact congrArg (· + 1) (adj hn (i:=i) (j:=j) (t:=t) (by simpa using h) (by simpa using g))
theorem P5{l:List Nat} : ∀ {cs:List CV},fp (cs.map (CV.cut l))=fp cs
 | []=>rfl
 | x::cs=>by
   rw[dG,Fq,Fq (x:=x),P5];congr 1
   cases x with
   | s y=>rfl
   | bad=>rfl
   | own t e sz gs=>
     show fp [match oY l t with | some j=>CV.own j e sz gs | none=> .s (vq sz gs)]= [];cases oY l t<;>rfl
theorem adk{l:List Nat} : ∀ {cs:List CV} {vs:List ae},kO (cs.map (CV.cut l)) vs=kO cs vs
 | [],vs=>rfl
 | x::cs,[]=>by
   cases x with
   | s y=>cases y<;>rfl
   | bad=>rfl
   | own t e sz gs=>
     rw[dG];show kO ((match oY l t with | some j=>CV.own j e sz gs | none=> .s (vq sz gs))::_) []= [];cases oY l t<;>rfl
 | x::cs,v::vs=>by
   rw[dG,Bq,Bq (x:=x),adk];congr 1
   cases x with
   | s y=>rfl
   | bad=>rfl
   | own t e sz gs=>
     show kO [match oY l t with | some j=>CV.own j e sz gs | none=> .s (vq sz gs)] [v]= [];cases oY l t<;>rfl
theorem TR.cut{k:Nat}{l:List Nat}(h:TR Z K0 sp W0 K st fr aK E)(hl:xZ l=true):TR Z K0 sp W0 K (st.cut k l) (fr.cut k l) aK (E.cut k l):=by
 have hg:LP K E:=⟨λt b q=>⟨(h.sig t b q).2.1,λhh=>(h.hid b hh).2.1 t q⟩,h.inj,h.sr⟩;refine⟨h.nx,h.cP,h.ur,λb hb=> ?_,?_,λj b q=> ?_,λj z b q f=> ?_,λj o b q f=> ?_,λo b q=> ?_,λo o' b q f=> ?_,λo v e cs q=> ?_,λt=>(h.gx t).cut hg⟩
 ·obtain⟨c,d,u⟩:=h.hid b hb;exact⟨c,λt q=>by
   obtain⟨t',_,a⟩:=TE.Fv q;exact d t' a,λo q=>u o (TE.Fw q).2⟩
 ·obtain⟨W,w,m⟩:=h.wr;cases k with
  | zero=>exact⟨λ_=>False,λ_ h=>h.elim,λ_ h=>h⟩
  | succ k=>
    refine⟨W,w,?_⟩;show JR Z ((st.av.take (k+1)).map λ(_,e,cs)=>((0:Nat),e,cs.map (CV.cut l))) K (E.ρ 0) W;match st.av,m with
    | [],m=>exact m
    | (v,e,cs)::r,m=>
      rcases m with ⟨g,g2⟩ | ⟨g,p,os,g1,g2,g3,g4⟩
      ·exact .inl ⟨P5.trans g,g2⟩
      exact .inr ⟨by rw[P5];exact g,p,os,g1,g2,by rw[fh];exact g3,by rw[P5,adk];exact g4⟩
 ·obtain⟨t,n,a⟩:=TE.Fv q;obtain⟨c,d,_⟩:=h.sig t b a;exact⟨c,d,(List.getElem?_eq_some_iff.1 n).1⟩
 ·obtain⟨t,n,a⟩:=TE.Fv q;obtain⟨t',x,r2⟩:=TE.Fv f;have:=h.inj t t' b a r2;subst this;exact adj hl n x
 ·obtain⟨t,n,a⟩:=TE.Fv q;exact h.sr t o b a (TE.Fw f).2
 ·obtain⟨n,a⟩:=TE.Fw q;obtain⟨c,d,u⟩:=h.ej o b a;refine⟨c,d,?_⟩;show o<((st.av.take k).map _).length;rw[fh,ny];omega
 ·exact h.sC o o' b (TE.Fw q).2 (TE.Fw f).2
 have q:((st.av.take k).map λ(_,e,cs)=>((0:Nat),e,cs.map (CV.cut l)))[o]? = some (v,e,cs):=q;rw[hY] at q;cases s:(st.av.take k)[o]? with
 | none=>rw[s] at q;cases q
 | some y=>
   rw[s] at q;obtain⟨A,B,C⟩:=y;cases q;have hk:o<k:=by
    have:=(List.getElem?_eq_some_iff.1 s).1;rw[ny] at this;omega
   rw[Af hk] at s;obtain⟨b,os,c,d,u⟩:=h.av o _ _ _ s;exact⟨b,os,by show(if o<k then E.ρ o else none)=some b;rw[iP hk];exact c,d,u.map λ_ _ q=>q.cut hg⟩
theorem sE.cut{l:List Nat}{E0:TE}{ce:TS}(h:sE ce E0 st E)(a : ∀o b,E0.ρ o=some b->o<ce.av.length):sE ce E0 (st.cut ce.av.length l) (E.cut ce.av.length l):=⟨h.hid,λo b q=>by
 show(if o<ce.av.length then E.ρ o else none)=some b;rw[iP (a o b q)];exact h.ej o b q,λo v e cs q=>by
 have ho:=(List.getElem?_eq_some_iff.1 q).1;obtain⟨v',cs',c⟩:=h.P4 o v e cs q;refine⟨0,cs'.map (CV.cut l),?_⟩;show((st.av.take ce.av.length).map λ(_,e,cs)=>((0:Nat),e,cs.map (CV.cut l)))[o]? = _;rw[hY,Af ho,c];rfl⟩
def Iw(a:AV)(b no:Prop):Prop:=match a with
 | .r (.c (.s (.sc (.bool t))))=>Bu t b no
 | _=>False
def alN (k:aM->TS->Prop)(Q:bq->aM->TS->Prop):bq->aM->TS->Prop:=λx fr st=>match x with
 | .normal=>k fr st
 | x=>Q x fr st
def Ix(i id:Nat)(a b:Prop):Prop:=match tT i id with
 | true=>a
 | false=>b
def alO(id:Nat)(Q:bq->aM->TS->Prop):bq->aM->TS->Prop:=λx fr st=>match x with
 | .exit i=>Ix i id (Q .normal fr st) (Q (.exit i) fr st)
 | x=>Q x fr st
def Dl(k:Nat)(I:Nat->aM->TS->Prop)(n:Nat)(Q:bq->aM->TS->Prop):bq->aM->TS->Prop:=λx fr st=>match x with
 | .normal=>∃m l,m<n/\xZ l=true/\I m (fr.cut k l) (st.cut k l)
 | x=>Q x fr st
def l5 (Z:TP)(T:bZ)(X:cY)(D:TD)(R:ae->Prop):bH->aM->TS->(bq->aM->TS->Prop)->Prop
 | .skip,fr,st,Q=>Q .normal fr st
 | .gW af,fr,st,Q=>Di Z T X D R af fr st (Q .normal)
 | .lB d,fr,st,Q=>Dj Z T X D R d.yO d.af fr st λf s l c=>Dk f (st::l) c d.af (Q .normal f s) d.nJ
 | .seq a b,fr,st,Q=>l5 Z T X D R a fr st (alN (λf s=>l5 Z T X D R b f s Q) Q)
 | .cond c a b,fr,st,Q=>Iw (eC fr c) (l5 Z T X D R a fr st Q) (l5 Z T X D R b fr st Q)
 | .block id c,fr,st,Q=>l5 Z T X D R c fr st (alO id Q)
 | .loop c,fr,st,Q=>∃(I:Nat->aM->TS->Prop) (n:Nat) (l:List Nat),xZ l=true/\I n (fr.cut st.av.length l) (st.cut st.av.length l)/\∀n f s,I n f s->l5 Z T X D R c f s (Dl st.av.length I n Q)
 | .exit id,fr,st,Q=>Q (.exit id) fr st
 | .ret,fr,st,Q=>Q .ret fr st
 | _,_,_,_=>False
theorem alP{α β:Type}{P:List (α×β)}{i:Nat}{s:β}(h:(P.map Prod.snd)[i]? = some s) : ∃G,P[i]? = some (G,s)/\(P.map Prod.fst)[i]? = some G:=by
 rw[hY] at h;cases hp:P[i]? with
 | none=>rw[hp] at h;cases h
 | some q=>
   rw[hp] at h;obtain⟨a,b⟩:=q;cases h;exact⟨a,rfl,by rw[hY,hp];rfl⟩
theorem VG(h:TR Z K0 sp W0 K st fr aK E){S:List TS}{c:List Rec}{af:List Item}{k:Prop} : ∀ {L:List (Item×Nat)},Dk fr S c af k L->k/\∀p∈L,∃s,S[p.2]? = some s/\(dU aK p.1.guard=some false\/∃x d,Ir p.1.op=some x/\p.1.dst=some d/\af.filter (λi=>decide (i.dst=some d))= [p.1]/\VA (eC fr x) (LN d c) s=true)
 | [],hk=>⟨hk,λ_ q=>(by cases q)⟩
 | p::L,hk=>by
   have hk:Is fr S c af p (Dk fr S c af k L):=hk;unfold Is at hk;split at hk;·exact hk.elim
   rename_i s hs;rcases PY h hk with ⟨_,hk⟩ | ⟨q,hk⟩
   ·split at hk
    ·rename_i x d b e;obtain⟨h1,h2⟩:=hk;split at h2
     ·rename_i hb;obtain⟨g1,g2⟩:=VG h h2;refine⟨g1,λa hp=> ?_⟩;rcases List.mem_cons.1 hp with rfl | hp
      ·exact⟨s,hs, .inr ⟨x,d,b,e,h1,hb⟩⟩
      exact g2 a hp
     exact h2.elim
    exact hk.elim
   obtain⟨g1,g2⟩:=VG h hk;refine⟨g1,λa hp=> ?_⟩;rcases List.mem_cons.1 hp with rfl | hp
   ·exact⟨s,hs, .inl q⟩
   exact g2 a hp
theorem VH(Y:Df T D){R:ae->Prop} : ∀ {c:bH} {K:CH} {st:TS} {fr:aM} {aK:Fr} {E:TE} {Q:bq->aM->TS->Prop},TR Z K0 sp W0 K st fr aK E->l5 Z T X D R c fr st Q->mZ T X c aK K (λx qi K'=>∃fr' aX E',TR Z K0 sp W0 K' aX fr' qi E'/\sE st E aX E'/\Q x fr' aX) (PX K0 sp W0 R):=by
 intro c;induction c with
 | skip=>intro K st fr aK E Q h hk;exact .inl ⟨0,_,_,_,rfl,fr,st,E,h,sE.refl,hk⟩
 | gW af=>
   intro K st fr aK E Q h hk;exact ajB ((VC Y h hk).mono λf H ⟨fr',aX,E',t1,t2,t3⟩=>⟨fr',aX,E',t1,t2.w,t3⟩)
 | lB d=>
   intro K st fr aK E Q h hk;rcases VD Y h hk with ⟨n,v,H',hd,⟨A,k,Rr,f,args,aj,H1,e,h2,h3,h4,h5,h6⟩,p2⟩ | hr
   ·obtain⟨Zl,hd⟩:=Option.isSome_iff_exists.1 hd;exact .inr ⟨n,v,H', .lB e hd (h2 Zl hd).1 h3 (h2 Zl hd).2 h4 h5 h6,p2⟩
   left;rw[Ts];obtain⟨n',f',K',L,z1,fr',aX,E',P,C,z2,z3,z4,z5,z6,z7,z8⟩:=hr;obtain⟨F,z4⟩:=VG z2 z4;refine⟨n',f',K',L,z1,λp hp=> ?_,fr',aX,E',z2,z3.w,F⟩;obtain⟨s,e3,hc⟩:=z4 p hp;rcases hc with q | ⟨x,d',e1,e2,c1,j⟩
   rotate_left
   ·obtain⟨G,g1,g2⟩:=alP (P:=(K,st)::P) (i:=p.2) (s:=s) e3;refine⟨G,by rw[z5];exact g2, .inr ?_⟩;unfold VA at j;split at j
    ·rename_i o off rc e4 e5;simp only[fJ] at j;have h1:=Aj j.1;have h2:=Aj j.2.1;have h3:=j.2.2;obtain⟨qj,J⟩:=ac8 e5;obtain⟨b,x',it,ob,r1,r2,r3,r4,r5,r6,r7⟩:=(z7 rc qj).h;have hit:it=p.1:=by
      have:it∈d.af.filter (λi=>decide (i.dst=some d')):=List.mem_filter.2 ⟨r1,by rw[<-J];simpa using r2⟩;rw[c1] at this;exact List.mem_singleton.1 this
     subst hit;rw[r3] at e1;cases e1;have hr:=jR z2.gx x;rw[e4] at hr;obtain⟨M,N,hv⟩:=hr.xU;have:M=b:=by rw[<-h1] at N;rw[r4] at N;cases N;rfl
     subst this;obtain⟨y,xD,Ba⟩:=adc r3 hv (G:=G);refine⟨y,d',xD,e2,?_⟩;have O : ∃e cs,s.av[rc.o]? = some (rc.nh,e,cs):=by
      unfold ac9 at h3;rw[h1];split at h3;·rename_i v e cs hs;exact⟨e,cs,by rw[hs,Aj h3]⟩
      cases h3
     obtain⟨e,cs,O⟩:=O;have:=r7 (G,s) (List.mem_of_getElem? g1) e cs O;rw[Ba];show It p.1.op (G.ob M) off=_;rw[show G.ob M=ob from this,<-h2,<-J];exact r6 p.1 (by rw[J];exact c1)
    cases j
   have hl:p.2<(K::L).length:=by
    rw[z5];have:=(List.getElem?_eq_some_iff.1 e3).1;simpa using this
   exact⟨_,bM hl, .inl q⟩
 | seq a b S U=>
   intro K st fr aK E Q h hk;refine Ul ((S h hk).mono (λx f K' ⟨fr',aX,E',t1,t2,t3⟩=> ?_) λ_ _ h=>h);cases x with
   | normal=>
     refine(U t1 t3).mono (λx f K' ⟨B,vv,vw,r,s2,z⟩=>⟨B,vv,vw,r,t2.trans s2,z⟩) λ_ _ h=>h
   | exit i=>exact⟨fr',aX,E',t1,t2,t3⟩
   | ret=>exact⟨fr',aX,E',t1,t2,t3⟩
 | cond c a b S U=>
   intro K st fr aK E Q h hk;have hk:Iw (eC fr c) (l5 Z T X D R a fr st Q) (l5 Z T X D R b fr st Q):=hk;unfold Iw at hk;split at hk
   ·rename_i t e;have hc:=ut (jR h.gx c) (u:= .bool t) (by rw[e];rfl);unfold Bu at hk;split at hk;·exact ajC hc (S h hk)
    exact ajD hc (U h hk)
   exact hk.elim
 | block id c V=>
   intro K st fr aK E Q h hk;refine ajE ((V h hk).mono (λx f K' ⟨fr',aX,E',t1,t2,t3⟩=> ?_) λ_ _ h=>h);cases x with
   | normal=>exact⟨fr',aX,E',t1,t2,t3⟩
   | ret=>exact⟨fr',aX,E',t1,t2,t3⟩
   | exit i=>
     show if i=id then _ else _
     have t3:Ix i id (Q .normal fr' aX) (Q (.exit i) fr' aX):=t3;unfold Ix at t3;split at t3;·rename_i hi;rw[iP (Aj hi)];exact⟨fr',aX,E',t1,t2,t3⟩
     rename_i hi;rw[iN (agj hi)];exact⟨fr',aX,E',t1,t2,t3⟩
 | loop c V=>
   intro K st fr aK E Q h hk;obtain⟨I,n,l0,uY,h0,hs⟩:=hk;have hr : ∀o b,E.ρ o=some b->o<st.av.length:=λo b q=>(h.ej o b q).2.2;refine ajG (λn qi K'=>∃fr' aX E',TR Z K0 sp W0 K' aX fr' qi E'/\sE st E aX E'/\I n fr' aX) (λm qi K' ⟨fr',aX,E',t1,t2,t3⟩=> ?_) (n:=n) ⟨_,_,_,h.cut uY,sE.refl.cut hr,h0⟩;refine(V t1 (hs m fr' aX t3)).mono (λx f Fm ⟨B,vv,vw,r,s2,z⟩=> ?_) λ_ _ h=>h;cases x with
   | normal=>
     obtain⟨m',l,k1,k2,k3⟩:=z;exact⟨m',k1,_,_,_,r.cut k2,(t2.trans s2).cut hr,k3⟩
   | exit i=>exact⟨B,vv,vw,r,t2.trans s2,z⟩
   | ret=>exact⟨B,vv,vw,r,t2.trans s2,z⟩
 | exit id=>intro K st fr aK E Q h hk;exact .inl ⟨0,_,_,_,rfl,fr,st,E,h,sE.refl,hk⟩
 | ret=>intro K st fr aK E Q h hk;exact .inl ⟨0,_,_,_,rfl,fr,st,E,h,sE.refl,hk⟩
 | sa g key=>intro K st fr aK E Q h hk;exact hk.elim
 | bad=>intro K st fr aK E Q h hk;exact hk.elim
end
section
open Go Go.RowKit
def RV.of:AV->Option RV
 | .r x=>x.fz
 | _=>none
def VJ(fr:aM)(st:TS):pA->Option RV
 | .tmp t=>RV.of (fr t)
 | .ld t=>(zj fr st (.ld (.tmp t))).bind RV.of
 | .kA n t=>(zj fr st (.kA n (.tmp t))).bind RV.of
def LQ(fr:aM)(st:TS):List pA->Option (List RV)
 | []=>some []
 | r::rs=>match VJ fr st r,LQ fr st rs with
   | some x,some xs=>some (x::xs)
   | _,_=>none
def Fy:List RV->AV
 | [x]=> .r x
 | l=> .jX l
def VL(self:Self)(st:TS):Option (List SV):=match self with
 | none=>some []
 | some _=>match st.av[0]? with
   | some (_,_,cs)=>vu cs
   | none=>none
def P7 (res:List pA)(self:Self)(Q:AV->List SV->Prop):bq->aM->TS->Prop:=λx fr st=>match x with
 | .exit _=>False
 | _=>match LQ fr st res,VL self st with
   | some l,some a=>Q (Fy l) a
   | _,_=>False
def ce:Self->TS
 | none=>⟨0,[]⟩
 | some (e,a)=>⟨0,[(0,e,a.map .s)]⟩
variable {T:bZ} {X:cY} {Z:TP} {D:TD} {K0 K K' Fm:CH} {sp:Option Nat} {W0:Nat->Prop} {st aX vv bN:TS} {fr aj:aM} {aK:Fr} {E E' vw:TE}
theorem adl : ∀ {a:List AV} {vs:List ae},R2 (bX K E) a vs->∀t,bX K E (a.getD t .bad) (vs.getD t undef)
 | _,_, .nil,t=> .bad
 | _,_, .cons h _,0=>h
 | _,_, .cons _ h,t+1=>by simpa using adl h t
theorem TR.start{e:Option Nat}{hid W:Nat->Prop}{self:Self}{args:List AV}{vs:List ae}(h1 : ∀b,hid b->b<K.nx/\sp≠some b)(j : ∀b,W b->hid b)(h2 : ∀b,Z.N b->b<K.nx/\sp≠some b/\¬W b/\K.ob b=Z.M b)(h3:R2 (bX K (E0 sp hid)) args vs)(h4:De K (E0 sp hid) sp self)(h5:SJ Z K sp W self):TR Z K sp W K (ce self) (λt=>args.getD t .bad) (λt=>vs.getD t undef) (E0 sp hid):=by
 have c : ∀o b,(if o=0 then sp else none)=some b->o=0/\sp=some b:=λo b q=>by
  split at q;·rename_i e;exact⟨e,q⟩
  cases q
 have l : ∀b,sp=some b->∃e a os,self=some (e,a)/\b<K.nx/\K.ob b= .cells os e .ex/\R2 (eJ K (dE K (E0 sp hid))) a os:=λb hb=>by
  match self,h4 with
  | none,h4=>rw[show sp=none from h4] at hb;cases hb
  | some (e,a),⟨p,os,d,h,f,g⟩=>rw[d] at hb;cases hb;exact⟨e,a,os,rfl,h,f,g⟩
 refine⟨al _,λ_ _ _ _=>rfl,h2,λb hb=>⟨(h1 b hb).1,(λ_ q=>(by cases q)),λo q=>(h1 b hb).2 (c o b q).2⟩,⟨W,λb hb=>⟨j b hb, .inl hb⟩,by
  match self,h5 with
  | none,h5=>exact h5
  | some (e,a),h5=>exact h5⟩,(λ_ _ q=>(by cases q)),(λ_ _ _ q=>(by cases q)),(λ_ _ _ q=>(by cases q)),λo b q=> ?_,λo o' b q m=> ?_,λo v e cs q=> ?_,adl h3⟩
 ·obtain⟨rfl,k⟩:=c o b q;obtain⟨e,a,os,rfl,g1,g2,g3⟩:=l b k;exact⟨g1, .inr k,Nat.zero_lt_one⟩
 ·rw[(c o b q).1,(c o' b m).1]
 match self,h4,q with
 | none,_,q=>simp[ce] at q
 | some (e',a),⟨p,os,d,h,f,g⟩,q=>
   cases o with
   | zero=>
     cases q;exact⟨p,os,d,f,g.map λ_ _ q=> .s q⟩
   | succ o=>simp[ce] at q
theorem VN{a:AV}{v:ae}(h:bX K E a v){y:RV}(c:RV.of a=some y)(h1 : ∀b,dE K E b->dE K' E' b/\K'.ob b=K.ob b)(h2 : ∀t b,E.σ t=some b->dE K' E' b/\K'.ob b=K.ob b):qh K' E' y v:=by
 cases h with
 | r h=>exact acX h c h1 λt b _ q=>h2 t b q
 | _=>cases c
theorem adm(h:TR Z K0 sp W0 K st fr aK E)(h1 : ∀b,dE K E b->dE K E' b/\K.ob b=K.ob b)(h2 : ∀t b,E.σ t=some b->dE K E' b/\K.ob b=K.ob b) : ∀ {res:List pA} {l:List RV},LQ fr st res=some l->∃vs,bT aK K res=some vs/\R2 (qh K E') l vs
 | [],l,q=>by cases q;exact⟨[],rfl, .nil⟩
 | r::rs,l,q=>by
   simp only[LQ] at q;split at q
   ·rename_i x xs c d;cases q;obtain⟨vs,e,f⟩:=adm h h1 h2 d;have : ∃v,jc aK K r=some v/\qh K E' x v:=by
     cases r with
     | tmp t=>exact⟨_,rfl,VN (h.gx t) c h1 h2⟩
     | ld t=>
       simp only[VJ] at c;cases hl:zj fr st (.ld (.tmp t)) with
       | none=>rw[hl] at c;cases c
       | some a=>
         rw[hl] at c;obtain⟨v,g1,g2⟩:=PA h hl;exact⟨v,g1,VN g2 c h1 h2⟩
     | kA n t=>
       simp only[VJ] at c;cases hl:zj fr st (.kA n (.tmp t)) with
       | none=>rw[hl] at c;cases c
       | some a=>
         rw[hl] at c;obtain⟨v,g1,g2⟩:=PA h hl;exact⟨v,g1,VN g2 c h1 h2⟩
    obtain⟨v,g1,g2⟩:=this;exact⟨v::vs,by simp only[bT,g1,e], .cons g2 f⟩
   cases q
theorem alQ(U:Df T D){R:ae->Prop}{f:aU}{rf:xx}(he:T.ext f=false)(V:T.fn f=some rf){args:List AV}{self:Self}{Q:AV->List SV->Prop}(hk:l5 Z T X D R rf.body (λt=>args.getD t .bad) (ce self) (P7 rf.res self Q)):TC Z T X f args self Q R:=by
 intro K sp hid W vs h1 Y h2 h3 h4 h5;have t0:=TR.start (e:=none) h1 Y h2 h3 h4 h5;refine ajy he V ((VH U t0 hk).mono (λx qi K' ⟨fr',aX,E',t1,t2,t3⟩=> ?_) λ_ _ h=>h);have hx : ∃l c,LQ fr' aX rf.res=some l/\VL self aX=some c/\Q (Fy l) c:=by
  unfold P7 at t3;split at t3;·exact t3.elim
  split at t3;·rename_i l c A d;exact⟨l,c,A,d,t3⟩
  exact t3.elim
 obtain⟨l,c,A,d,G⟩:=hx;have w : ∀b,sp=some b->E'.ρ 0=some b/\b<K.nx:=λb hb=>by
  refine⟨t2.ej 0 b (by show(if 0=0 then sp else none)=some b;rw[iP rfl,hb]),?_⟩;match self,h4 with
  | none,h4=>rw[show sp=none from h4] at hb;cases hb
  | some (e,H),⟨p,os,g,j,I,k4⟩=>rw[g] at hb;cases hb;exact j
 have J : ∀o b,(E0 sp hid).ρ o=some b->sp=some b:=λo b q=>by
  have q:(if o=0 then sp else none)=some b:=q;split at q;·exact q
  cases q
 have f1 : ∀b,dE K' E' b->dE K' (E0 sp E'.hid) b/\K'.ob b=K'.ob b:=λb hb=>⟨⟨hb.1,hb.2.1,(λ_ q=>(by cases q)),λo q=>hb.2.2.2 0 (w b (J o b q)).1⟩,rfl⟩;have f2 : ∀t b,E'.σ t=some b->dE K' (E0 sp E'.hid) b/\K'.ob b=K'.ob b:=λt b hb=>by
  obtain⟨g,j,I⟩:=t1.sig t b hb;exact⟨⟨j,λhh=>(t1.hid b hh).2.1 t hb,(λ_ q=>(by cases q)),λo q=>t1.sr t 0 b hb (w b (J o b q)).1⟩,rfl⟩
 obtain⟨L,g1,g2⟩:=adm t1 f1 f2 A;have M:KI (bT qi K' rf.res) (λv K'=>K.nx<=K'.nx/\(∀b,b<K.nx->sp≠some b->¬W b->K'.ob b=K.ob b)/\∃mG W' a c,HW K K' sp hid W mG W'/\bX K' (E0 sp mG) a v/\a.clean/\De K' (E0 sp mG) sp (self.map λp=>(p.1,c))/\SJ Z K' sp W' (self.map λp=>(p.1,c))/\Q a c) K':=by
  rw[g1,CW];obtain⟨N,w1,z⟩:=t1.wr;have k : ∀b,hid b->E'.hid b:=λb hb=>t2.hid b hb;have m : ∀b,E'.hid b->b<K'.nx:=λb hb=>(t1.hid b hb).1;have n:bX K' (E0 sp E'.hid) (Fy l) (dV L):=by
   match l,L,g2 with
   | [],_, .nil=>exact .jX (vs:= []) .nil
   | [x],_, .cons h .nil=>exact .r h
   | x::y::l,_, .cons h (.cons h' t)=>exact .jX (.cons h (.cons h' t))
  have O:(Fy l).clean:=by
   unfold Fy;split<;>exact trivial
  match self,h4,d,t2 with
  | none,h4,_,_=>exact⟨t1.nx,t1.cP,E'.hid,λ_=>False,Fy l,c,⟨k,m,λ_ h=>h.elim⟩,n,O,h4,λ_ h=>h,G⟩
  | some (e,H),⟨p,os,g,j,I,k4⟩,d,t2=>
    obtain⟨v',cs',u⟩:=t2.P4 0 0 e (H.map .s) rfl;obtain⟨b,B,S,r2,r3⟩:=t1.av 0 v' e cs' u;rw[(w p g).1] at S;cases S;simp only[VL,u] at d;obtain⟨C,Vr⟩:=Vn d;refine⟨t1.nx,t1.cP,E'.hid,N,Fy l,c,⟨k,m,w1⟩,n,O,⟨p,B,g,cj j t1.nx,r2,Ly f1 r3 d λt b _ q=>f2 t b q⟩,?_,G⟩;show JR Z [(0,e,c.map .s)] K' sp N;rw[(w p g).1] at z;rw[g];match aL:aX.av,z,u with
    | (v2,e2',xJ)::r,z,u=>
      cases u;rcases z with ⟨F,a2⟩ | ⟨F,p',oW,a2,a3,a4,a5⟩
      ·exact .inl ⟨C.trans F,a2⟩
      exact .inr ⟨by rw[C];exact F,p',oW,a2,a3,by rw[a4,<-Vm d,fh],by rw[C,Vr];exact a5⟩
 cases x with
 | normal=>exact M
 | ret=>exact M
 | exit i=>unfold P7 at t3;exact t3.elim
theorem hO{P:Program}{L:List aU}{G:aU->List ae->Option ae}(a:Df (ba P L G) D){R:ae->Prop}{f:Nat}(he:L.elem f=false)(h:(nL P (λN ops=>kf P N ops) f).isSome=true){args:List AV}{self:Self}{Q:AV->List SV->Prop}(k:l5 Z (ba P L G) X D R (rF P f).body (λt=>args.getD t .bad) (ce self) (P7 (rF P f).res self Q)):TC Z (ba P L G) X f args self Q R:=by
 refine alQ a he ?_ k;unfold rF;show nL P (λN ops=>kf P N ops) f=some ((nL P (λN ops=>kf P N ops) f).getD ⟨0,[], .skip⟩);cases b:nL P (λN ops=>kf P N ops) f with
 | none=>rw[b] at h;cases h
 | some r=>rfl
def Self.open:Self->Bool
 | none=>true
 | some (_,a)=>(fp (a.map .s)).isEmpty
theorem adn{R:ae->Prop}{f:aU}{args:List AV}{self:Self}{Q:AV->List SV->Prop}(hs:self.open=true)(h : ∀(K:CH) (sp:Option Nat) (hid:Nat->Prop) (vs:List ae),(∀b,hid b->b<K.nx/\sp≠some b)->(∀b,Z.N b->b<K.nx/\sp≠some b/\K.ob b=Z.M b)->R2 (bX K (E0 sp hid)) args vs->De K (E0 sp hid) sp self->
 E7 T X f vs K (λv K'=>K.nx<=K'.nx/\(∀b,b<K.nx->sp≠some b->K'.ob b=K.ob b)/\∃a s',bX K' (E0 sp hid) a v/\a.clean/\De K' (E0 sp hid) sp (self.map λp=>(p.1,s'))/\fp (s'.map .s)= []/\Q a s') λv K'=>K.nx<=K'.nx/\(∀b,b<K.nx->sp≠some b->K'.ob b=K.ob b)/\R v):TC Z T X f args self Q R:=by
 intro K sp hid W vs h1 n h2 h3 h4 h5;refine(h K sp hid vs h1 (λb hb=>⟨(h2 b hb).1,(h2 b hb).2.1,(h2 b hb).2.2.2⟩) h3 h4).mono (λv K' ⟨c,d,a,s',g,j,k,l,m⟩=>⟨c,λb hb hp _=>d b hb hp,hid,λ_=>False,a,s',⟨λ_ q=>q,λb q=>cj (h1 b q).1 c,λ_ q=>q.elim⟩,g,j,k,?_,m⟩) λv K' ⟨c,d,g⟩=>⟨c,λb hb hp _=>d b hb hp,g⟩;match self with
 | none=>exactλ_ q=>q
 | some (e,o)=>exact .inl ⟨l,λ_ q=>q⟩
end
section
open Go Go.RowKit
variable {T:bZ} {X:cY} {Z:TP} {D:TD} {R:ae->Prop} {st bN:TS} {fr aj:aM}
def CV.mH:CV->Bool
 | .own _ _ _ _=>false
 | _=>true
def allI:List CV->Bool
 | []=>true
 | x::l=>x.mH&&allI l
def RV.mH:RV->Bool
 | .c x=>x.mH
 | .agg cs=>allI cs
def P8:List RV->Bool
 | []=>true
 | x::l=>x.mH&&P8 l
def AV.mH(k:Nat):AV->Bool
 | .r x=>x.mH
 | .ptr o _=>Nat.blt o k
 | .fT (some _) _ _=>false
 | .jX l=>P8 l
 | _=>true
theorem CV.LR{x:CV}(h:x.mH=true)(g:Nat->SA):x.act g=x:=by cases x<;>first | rfl | cases h
theorem CV.Fz{x:CV}(h:x.mH=true)(l:List Nat):x.cut l=x:=by cases x<;>first | rfl | cases h
theorem VO{f:CV->CV}(a : ∀x,x.mH=true->f x=x) : ∀ {cs:List CV},allI cs=true->cs.map f=cs
 | [],_=>rfl
 | x::cs,h=>by
   simp only[allI,fJ] at h;rw[dG,a x h.1,VO a h.2]
theorem RV.P9{x:RV}(h:x.mH=true):(∀g,x.act g=x)/\∀l,x.cut l=x:=by
 cases x with
 | c x=>exact⟨λg=>congrArg RV.c (CV.LR h g),λl=>congrArg RV.c (CV.Fz h l)⟩
 | agg cs=>exact⟨λg=>congrArg RV.agg (VO (λx hx=>CV.LR hx g) h),λl=>congrArg RV.agg (VO (λx hx=>CV.Fz hx l) h)⟩
theorem VP{f:RV->RV}(a : ∀x,x.mH=true->f x=x) : ∀ {cs:List RV},P8 cs=true->cs.map f=cs
 | [],_=>rfl
 | x::cs,h=>by
   simp only[P8,fJ] at h;rw[dG,a x h.1,VP a h.2]
theorem alR{a b:Nat}(h:Nat.blt a b=true):a<b:=by
 have:=Eb h;omega
theorem AV.LR{k:Nat}{a:AV}(h:a.mH k=true)(g:Nat->SA):a.act g=a:=by
 cases a with
 | r x=>exact congrArg AV.r ((RV.P9 h).1 g)
 | fT t g off=>cases t<;>first | rfl | cases h
 | jX l=>exact congrArg AV.jX (VP (λx hx=>(RV.P9 hx).1 g) h)
 | _=>rfl
theorem AV.Fz{k k':Nat}{a:AV}(h:a.mH k=true)(hk:k<=k')(l:List Nat):a.cut k' l=a:=by
 cases a with
 | r x=>exact congrArg AV.r ((RV.P9 h).2 l)
 | ptr o off=>
   have ho:=alR h;show LO o k' (.ptr o off) .bad=_;unfold LO;have:Nat.ble k' o=false:=by
    cases hb:Nat.ble k' o with
    | false=>rfl
    | true=>have:=Eb hb;omega
   rw[this]
 | fT t g off=>cases t<;>first | rfl | cases h
 | jX l'=>exact congrArg AV.jX (VP (λx hx=>(RV.P9 hx).2 l) h)
 | _=>rfl
theorem Qa{k t:Nat}{l:List Nat}(h:(fr t).mH k=true):Ik l fr t=fr t:=by
 rw[PD];exact AV.LR h _
theorem ado{k t:Nat}{o:Option (Nat×aI×Nat)}(h:(fr t).mH k=true):Py o fr t=fr t:=by
 cases o with
 | none=>rfl
 | some p=>obtain⟨a,b⟩:=p;exact AV.LR h _
theorem Qb{l:List Nat}:(zk l st).av.length=st.av.length:=by
 rw[PE];show(st.av.map _).length=_;rw[fh]
theorem adp{o:Option (Nat×aI×Nat)}:(Fl o st).av.length=st.av.length:=by
 cases o with
 | none=>rfl
 | some p=>obtain⟨a,b⟩:=p;show(st.av.map _).length=_;rw[fh]
def Kp (k:Nat)(fr:aM)(st:TS)(aj:aM)(bN:TS):Prop:=(∀t,(fr t).mH k=true->aj t=fr t)/\st.av.length<=bN.av.length
theorem alS{k:Nat}{x:qH}{a:AV}(h:xW fr st x=some (a,aj,bN)):Kp k fr st aj bN:=by
 cases x with
 | new e z=>
   simp only[xW] at h;cases hz:Fi z with
   | none=>rw[hz] at h;cases h
   | some cs=>
     rw[hz] at h;simp only at h;split at h;·cases h;exact⟨λ_ _=>rfl,Sm⟩
     cases h
 | box e x=>
   simp only[xW] at h;cases hz:(eC fr x).wM with
   | none=>rw[hz] at h;cases h
   | some cs=>
     rw[hz] at h;simp only at h;split at h;·cases h;exact⟨λ_ _=>rfl,Sm⟩
     cases h
 | AA e sz n z ps=>
   simp only[xW] at h;split at h
   ·split at h
    ·split at h;·cases h;exact⟨λ_ h=>Qa h,by show st.av.length<=(zk _ st).av.length;rw[Qb];exact al _⟩
     cases h
    cases h
   cases h
 | _=>cases h
theorem alT{k:Nat}{x:ja}{a:AV}(h:zl fr st x=some (a,aj,bN)):Kp k fr st aj bN:=by
 cases x with
 | st n x v=>
   simp only[zl] at h;split at h
   ·split at h
    ·split at h;·cases h;exact⟨λ_ _=>rfl,by show st.av.length<=(st.av.set _ _).length;rw[Jr];exact al _⟩
     cases h
    cases h
   cases h
 | app e sz bytes s x=>
   simp only[zl] at h;split at h
   ·split at h;·cases h;exact⟨λ_ h=>ado h,by show st.av.length<=(Fl _ st).av.length;rw[adp];exact al _⟩
    cases h
   cases h
 | _=>cases h
theorem adq{k0:Nat}{op:gu}{k:AV->aM->TS->Prop}(h:Bx Z T X D op fr st k R):Bx Z T X D op fr st (λa aj bN=>k a aj bN/\Kp k0 fr st aj bN) R:=by
 rw[Vx] at h⊢;have b:Kp k0 fr st fr st:=⟨λ_ _=>rfl,al _⟩;cases op with
 | p x=>
   have h:zp fr (λa=>k a fr st) x:=h;show zp fr (λa=>k a fr st/\Kp k0 fr st fr st) x;unfold zp at h⊢;split at h
   ·simp only at h⊢;split at h;·rename_i c d;obtain⟨h1,n,g,h2,h3,h4⟩:=h;exact⟨h1,n,g,h2,h3,h4,b⟩
    exact h.elim
   ·simp only at h⊢;split at h;·exactλq=>⟨h q,b⟩
    ·exactλq=>⟨h q,b⟩
    ·exactλq=>⟨h q,b⟩
    unfold uv at h⊢;split at h;·exact⟨h,b⟩
    exact h.elim
   unfold uv at h⊢;split at h;·exact⟨h,b⟩
   exact h.elim
 | l x=>
   simp only[Dh,uv] at h⊢;split at h;·exact⟨h,b⟩
   exact h.elim
 | a x=>
   have h:Bv fr st k x:=h;show Bv fr st (λa aj bN=>k a aj bN/\Kp k0 fr st aj bN) x;unfold Bv at h⊢;split at h
   ·simp only at h⊢;split at h
    ·split at h;·obtain⟨h1,h2⟩:=h;rw[PH] at h2⊢;exact⟨h1,h2,λ_ h=>Qa h,by show st.av.length<=(zk _ st).av.length;rw[Qb];exact al _⟩
     exact h.elim
    exact h.elim
   unfold Dg at h⊢;split at h;·rename_i a aj bN e;exact⟨h,alS e⟩
   exact h.elim
 | w x=>
   have h:Bw fr st k x:=h;show Bw fr st (λa aj bN=>k a aj bN/\Kp k0 fr st aj bN) x;unfold Bw at h⊢;split at h
   ·simp only at h⊢;split at h
    ·split at h;·obtain⟨h1,h2⟩:=h;rw[Vs] at h2⊢;exact⟨h1,h2,λ_ h=>ado h,by show st.av.length<=(Fl _ st).av.length;rw[adp];exact al _⟩
     exact h.elim
    exact h.elim
   unfold Dg at h⊢;split at h;·rename_i a aj bN e;exact⟨h,alT e⟩
   exact h.elim
 | call f args=>
   simp only[Dh,PK] at h⊢;split at h
   ·rename_i j;unfold LC at h⊢;split at h
    ·split at h;·exact⟨h,b⟩
     exact h.elim
    exact h.elim
   rw[Vk] at h⊢;unfold LD at h⊢;split at h;·exact h.elim
   split at h;·exact h.mono (λa s q=>⟨q,λ_ h=>Qa h,by show st.av.length<=(zk _ st).av.length;rw[Qb];exact al _⟩) λ_ h=>h
   split at h
   ·split at h;·exact h.mono (λa s q=>⟨q,λ_ h=>Qa h,by show st.av.length<=((zk _ st).av.set _ _).length;rw[Jr,Qb];exact al _⟩) λ_ h=>h
    exact h.elim
   exact h.elim
 | pv g args=>exact h.elim
def dI (af:List Item)(t:Nat):Bool:=match af with
 | []=>true
 | it::r=>match it.dst with
   | some d=> !(tT d t)&&dI r t
   | none=>dI r t
def ri:bH->Nat->Bool
 | .gW af,t=>dI af t
 | .lB d,t=>dI d.af t
 | .seq a b,t=>ri a t&&ri b t
 | .cond _ a b,t=>ri a t&&ri b t
 | .block _ c,t=>ri c t
 | .loop c,t=>ri c t
 | _,_=>true
theorem LU{a:AV}{t:Nat}{it:Item}{r:List Item}(hd:dI (it::r) t=true):rh fr it.dst a t=fr t/\dI r t=true:=by
 simp only[dI] at hd;split at hd;·rename_i d b;simp only[fJ,Bool.not_eq_true'] at hd;rw[b,LH];exact⟨iN (Ne.symm (agj hd.1)),hd.2⟩
 rename_i b;rw[b];exact⟨rfl,hd⟩
theorem LV{g:Option (Nat×Bool)}{y n a n':Prop}(h:By fr g y n)(b:y->a)(hn:n->n'):By fr g a n':=by
 unfold By at h⊢;split at h;·exact b h
 split at h
 ·unfold Bu at h⊢;split at h;·exact b h
  exact hn h
 ·exact hn h
 exact h.elim
def x5 (k:Nat)(W:Nat->Bool)(fr:aM)(st:TS)(aj:aM)(bN:TS):Prop:=(∀t,W t=true->(fr t).mH k=true->aj t=fr t)/\st.av.length<=bN.av.length
theorem x5.refl{k:Nat}{W:Nat->Bool}:x5 k W fr st fr st:=⟨λ_ _ _=>rfl,al _⟩
theorem x5.trans{k:Nat}{W W' a:Nat->Bool}{aS:aM}{b:TS}(h:x5 k W fr st aj bN)(g:x5 k W' aj bN aS b)(c : ∀t,a t=true->W t=true/\W' t=true):x5 k a fr st aS b:=⟨λt ht hi=>by
 have h1:=h.1 t (c t ht).1 hi;rw[g.1 t (c t ht).2 (by rw[h1];exact hi),h1],bW h.2 g.2⟩
theorem Kp.put{k:Nat}{it:Item}{r:List Item}{a:AV}(h:Kp k fr st aj bN):x5 k (λt=>dI (it::r) t) fr st (rh aj it.dst a) bN:=⟨λt ht hi=>by
 rw[(LU (fr:=aj) (a:=a) ht).1];exact h.1 t hi,h.2⟩
theorem Qc{op:gu}{k k':AV->aM->TS->Prop}(h:Bx Z T X D op fr st k R)(hk : ∀a f s,k a f s->k' a f s):Bx Z T X D op fr st k' R:=by
 rw[Vx] at h⊢
 cases op with
 | p x=>
   have h:zp fr (λa=>k a fr st) x:=h;show zp fr (λa=>k' a fr st) x;unfold zp at h⊢;split at h
   ·simp only at h⊢;split at h;·obtain⟨h1,n,g,h2,h3,h4⟩:=h;exact⟨h1,n,g,h2,h3,hk _ _ _ h4⟩
    exact h.elim
   ·simp only at h⊢;split at h;·exactλq=>hk _ _ _ (h q)
    ·exactλq=>hk _ _ _ (h q)
    ·exactλq=>hk _ _ _ (h q)
    unfold uv at h⊢;split at h;·exact hk _ _ _ h
    exact h.elim
   unfold uv at h⊢;split at h;·exact hk _ _ _ h
   exact h.elim
 | l x=>
   simp only[Dh,uv] at h⊢;split at h;·exact hk _ _ _ h
   exact h.elim
 | a x=>
   have h:Bv fr st k x:=h;show Bv fr st k' x;unfold Bv at h⊢;split at h
   ·split at h
    ·split at h;·obtain⟨h1,h2⟩:=h;rw[PH] at h2⊢;exact⟨h1,hk _ _ _ h2⟩
     exact h.elim
    exact h.elim
   unfold Dg at h⊢;split at h;·exact hk _ _ _ h
   exact h.elim
 | w x=>
   have h:Bw fr st k x:=h;show Bw fr st k' x;unfold Bw at h⊢;split at h
   ·split at h
    ·split at h;·obtain⟨h1,h2⟩:=h;rw[Vs] at h2⊢;exact⟨h1,hk _ _ _ h2⟩
     exact h.elim
    exact h.elim
   unfold Dg at h⊢;split at h;·exact hk _ _ _ h
   exact h.elim
 | call f args=>
   simp only[Dh,PK] at h⊢;split at h
   ·unfold LC at h⊢;split at h
    ·split at h;·exact hk _ _ _ h
     exact h.elim
    exact h.elim
   rw[Vk] at h⊢;unfold LD at h⊢;split at h;·exact h.elim
   split at h;·exact h.mono (λa s q=>hk _ _ _ q) λ_ h=>h
   split at h
   ·split at h;·exact h.mono (λa s q=>hk _ _ _ q) λ_ h=>h
    exact h.elim
   exact h.elim
 | pv g args=>exact h.elim
theorem Iy : ∀ {af:List Item} {fr:aM} {st:TS} {k k':aM->TS->Prop},Di Z T X D R af fr st k->(∀f s,k f s->k' f s)->Di Z T X D R af fr st k'
 | [],fr,st,k,k',h,hk=>hk _ _ h
 | it::r,fr,st,k,k',h,hk=>LV h (λh=>Qc h λa f s h=>Iy h hk) λh=>Iy h hk
theorem VT{k0:Nat} : ∀ {af:List Item} {fr:aM} {st:TS} {k:aM->TS->Prop},Di Z T X D R af fr st k->Di Z T X D R af fr st λf s=>k f s/\x5 k0 (dI af) fr st f s
 | [],fr,st,k,h=>⟨h,x5.refl⟩
 | it::r,fr,st,k,h=>by
   refine LV h (λh=> ?_) λh=> ?_
   ·refine Qc (adq (k0:=k0) h) λa f s ⟨h1,h2⟩=> ?_;refine Iy (VT h1) λb c ⟨g1,g2⟩=>⟨g1,(h2.put (it:=it) (r:=r) (a:=a)).trans g2 λt ht=>⟨ht,(LU (fr:=fr) (a:= .bad) ht).2⟩⟩
   refine Iy (VT h) λb c ⟨g1,g2⟩=>⟨g1,(Kp.put (it:=it) (r:=r) (a:= .skip) (k:=k0) (fr:=fr) (st:=st) ⟨λ_ _=>rfl,al _⟩).trans g2 λt ht=>⟨ht,(LU (fr:=fr) (a:= .bad) ht).2⟩⟩
theorem Iz : ∀ {af:List Item} {q:Option (List Item)} {fr:aM} {st:TS} {k k':aM->TS->List TS->List Rec->Prop},Dj Z T X D R q af fr st k->(∀f s l c,k f s l c->k' f s l c)->Dj Z T X D R q af fr st k'
 | [],q,fr,st,k,k',h,hk=>hk _ _ _ _ h
 | it::r,q,fr,st,k,k',h,hk=>LV h (λh=>Qc h λa f s h=>by
    rw[PS] at h⊢
    exact Iz h λ_ _ _ _ h=>hk _ _ _ _ h) λh=>Iz h λ_ _ _ _ h=>hk _ _ _ _ h
theorem VU{k0:Nat} : ∀ {af:List Item} {q:Option (List Item)} {fr:aM} {st:TS} {k:aM->TS->List TS->List Rec->Prop},Dj Z T X D R q af fr st k->Dj Z T X D R q af fr st λf s l c=>k f s l c/\x5 k0 (dI af) fr st f s
 | [],q,fr,st,k,h=>⟨h,x5.refl⟩
 | it::r,q,fr,st,k,h=>by
   refine LV h (λh=> ?_) λh=> ?_
   ·refine Qc (adq (k0:=k0) h) λa f s ⟨h1,h2⟩=> ?_;rw[PS] at h1⊢
    refine Iz (VU h1) λb d l c ⟨g1,g2⟩=>⟨g1,(h2.put (it:=it) (r:=r) (a:=a)).trans g2 λt ht=>⟨ht,(LU (fr:=fr) (a:= .bad) ht).2⟩⟩
   refine Iz (VU h) λb d l c ⟨g1,g2⟩=>⟨g1,(Kp.put (it:=it) (r:=r) (a:= .skip) (k:=k0) (fr:=fr) (st:=st) ⟨λ_ _=>rfl,al _⟩).trans g2 λt ht=>⟨ht,(LU (fr:=fr) (a:= .bad) ht).2⟩⟩
theorem Qd{S:List TS}{c:List Rec}{af:List Item}{k k':Prop}(hk:k->k') : ∀ {L:List (Item×Nat)},Dk fr S c af k L->Dk fr S c af k' L
 | [],h=>hk h
 | p::L,h=>by
   have h:Is fr S c af p (Dk fr S c af k L):=h;show Is fr S c af p (Dk fr S c af k' L);unfold Is at h⊢;split at h;·exact h.elim
   refine LV h (λh=> ?_) (Qd hk);split at h
   ·obtain⟨h1,h2⟩:=h;refine⟨h1,?_⟩;split at h2;·exact Qd hk h2
    exact h2.elim
   exact h.elim
theorem adr{a:AV}{y n b n':Prop}(h:Iw a y n)(c:y->b)(hn:n->n'):Iw a b n':=by
 unfold Iw at h⊢;split at h
 ·unfold Bu at h⊢;split at h;·exact c h
  exact hn h
 exact h.elim
theorem alU{k n:Nat}{I a:Nat->aM->TS->Prop}{Q b:bq->aM->TS->Prop}(d : ∀m f s,I m f s->a m f s)(c : ∀x f s,Q x f s->b x f s){x:bq}(h:Dl k I n Q x fr st):Dl k a n b x fr st:=by
 cases x with
 | normal=>obtain⟨m,l,h1,h2,h3⟩:=h;exact⟨m,l,h1,h2,d _ _ _ h3⟩
 | exit i=>exact c _ _ _ h
 | ret=>exact c _ _ _ h
theorem ads{i id:Nat}{a b a' c:Prop}(h:Ix i id a b)(ha:a->a')(hb:b->c):Ix i id a' c:=by
 unfold Ix at h⊢;split at h;·exact ha h
 exact hb h
theorem FA : ∀ {c:bH} {fr:aM} {st:TS} {Q j:bq->aM->TS->Prop},l5 Z T X D R c fr st Q->(∀x f s,Q x f s->j x f s)->l5 Z T X D R c fr st j:=by
 intro c;induction c with
 | skip=>intro fr st Q j h e;exact e _ _ _ h
 | gW af=>intro fr st Q j h e;exact Iy h λf s h=>e _ _ _ h
 | lB d=>intro fr st Q j h e;exact Iz h λf s l c h=>Qd (e _ _ _) h
 | seq a b k m=>
   intro fr st Q j h e;refine k h λx f s h=> ?_;cases x with
   | normal=>exact m h e
   | exit i=>exact e _ _ _ h
   | ret=>exact e _ _ _ h
 | cond c a b k m=>intro fr st Q j h e;exact adr h (λh=>k h e) λh=>m h e
 | block id c o=>
   intro fr st Q j h e;refine o h λx f s h=> ?_;cases x with
   | normal=>exact e _ _ _ h
   | exit i=>exact ads h (e _ _ _) (e _ _ _)
   | ret=>exact e _ _ _ h
 | loop c o=>
   intro fr st Q j h e;obtain⟨I,n,l,hl,p,hs⟩:=h;exact⟨I,n,l,hl,p,λn f s hi=>o (hs n f s hi) λx f s h=>alU (λ_ _ _ h=>h) e h⟩
 | exit id=>intro fr st Q j h e;exact e _ _ _ h
 | ret=>intro fr st Q j h e;exact e _ _ _ h
 | sa g key=>intro fr st Q j h e;exact h.elim
 | bad=>intro fr st Q j h e;exact h.elim
theorem alV{k0:Nat} : ∀ {c:bH} {fr:aM} {st:TS} {Q:bq->aM->TS->Prop},k0<=st.av.length->l5 Z T X D R c fr st Q->l5 Z T X D R c fr st λx f s=>Q x f s/\(∀t,ri c t=true->(fr t).mH k0=true->f t=fr t)/\k0<=s.av.length:=by
 intro c;induction c with
 | skip=>intro fr st Q hk h;exact⟨h,λ_ _ _=>rfl,hk⟩
 | gW af=>intro fr st Q hk h;exact Iy (VT (k0:=k0) h) λf s ⟨h,h1,h2⟩=>⟨h,h1,bW hk h2⟩
 | lB d=>intro fr st Q hk h;exact Iz (VU (k0:=k0) h) λf s l c ⟨h,h1,h2⟩=>Qd (λh=>⟨h,h1,bW hk h2⟩) h
 | seq a b j k=>
   intro fr st Q hk h;show l5 Z T X D R a fr st _;refine FA (j hk h) λx f s ⟨h,h1,h2⟩=> ?_;cases x with
   | normal=>
     refine FA (k h2 h) λx o r ⟨h,g1,g2⟩=>⟨h,λt ht hi=> ?_,g2⟩;simp only[ri,fJ] at ht;have e:=h1 t ht.1 hi;rw[g1 t ht.2 (by rw[e];exact hi),e]
   | exit i=>exact⟨h,λt ht hi=>h1 t (by simp only[ri,fJ] at ht;exact ht.1) hi,h2⟩
   | ret=>exact⟨h,λt ht hi=>h1 t (by simp only[ri,fJ] at ht;exact ht.1) hi,h2⟩
 | cond c a b j k=>
   intro fr st Q hk h;refine adr h (λh=>FA (j hk h) λx f s ⟨h,h1,h2⟩=>⟨h,λt ht hi=>h1 t ?_ hi,h2⟩) λh=>FA (k hk h) λx f s ⟨h,h1,h2⟩=>⟨h,λt ht hi=>h1 t ?_ hi,h2⟩;·simp only[ri,fJ] at ht;exact ht.1
   simp only[ri,fJ] at ht;exact ht.2
 | block id c p=>
   intro fr st Q hk h;show l5 Z T X D R c fr st _;refine FA (p hk h) λx f s ⟨h,h1,h2⟩=> ?_;cases x with
   | normal=>exact⟨h,h1,h2⟩
   | exit i=>exact ads h (λh=>⟨h,h1,h2⟩) λh=>⟨h,h1,h2⟩
   | ret=>exact⟨h,h1,h2⟩
 | loop c p=>
   intro fr st Q hk h;obtain⟨I,n,l,hl,u,hs⟩:=h;refine⟨λm f s=>I m f s/\(∀t,ri c t=true->(fr t).mH k0=true->f t=fr t)/\k0<=s.av.length,n,l,hl,⟨u,λt _ hi=>AV.Fz hi hk l,by show k0<=((st.av.take _).map _).length;rw[fh,ny];omega⟩,λm f s ⟨hi,ha,hb⟩=> ?_⟩;refine FA (p hb (hs m f s hi)) λx o r ⟨h,h1,h2⟩=> ?_;have q : ∀t,ri c t=true->(fr t).mH k0=true->o t=fr t:=λt ht hi=>by
    have e:=ha t ht hi;rw[h1 t ht (by rw[e];exact hi),e]
   cases x with
   | normal=>
     obtain⟨v,l,w,y,z⟩:=h;refine⟨v,l,w,y,z,λt ht hi=> ?_,?_⟩;·show(o t).cut _ l=fr t;rw[q t ht hi];exact AV.Fz hi hk l
     show k0<=((r.av.take _).map _).length;rw[fh,ny];omega
   | exit i=>exact⟨h,q,h2⟩
   | ret=>exact⟨h,q,h2⟩
 | exit id=>intro fr st Q hk h;exact⟨h,λ_ _ _=>rfl,hk⟩
 | ret=>intro fr st Q hk h;exact⟨h,λ_ _ _=>rfl,hk⟩
 | sa g key=>intro fr st Q hk h;exact h.elim
 | bad=>intro fr st Q hk h;exact h.elim
def Dm (c:bH)(k:Nat)(a f:aM):aM:=λt=>match ri c t&&(a t).mH k with
 | true=>a t
 | false=>f t
abbrev Qe(Z:TP)(T:bZ)(X:cY)(D:TD)(R:ae->Prop)(c:bH)(a:aM)(ce:TS)(Q:bq->aM->TS->Prop):Prop:=∃(I:Nat->aM->TS->Prop) (n:Nat) (l:List Nat),xZ l=true/\I n (a.cut ce.av.length l) (ce.cut ce.av.length l)/\∀n f s,I n f s->l5 Z T X D R c f s (Dl ce.av.length I n Q)
theorem VV{c:bH}{Q:bq->aM->TS->Prop}{a:aM}{ce:TS}(J:Nat->aM->TS->Prop)(n:Nat)(l:List Nat)(hl:xZ l=true)(d:J n (a.cut ce.av.length l) (ce.cut ce.av.length l))(hs : ∀m f s,J m f s->f=Dm c ce.av.length a f->l5 Z T X D R c f s (Dl ce.av.length J m Q)):Qe Z T X D R c a ce Q:=by
 refine⟨λm f s=>J m f s/\(∀t,ri c t=true->(a t).mH ce.av.length=true->f t=a t)/\ce.av.length<=s.av.length,n,l,hl,⟨d,λt _ hi=>AV.Fz hi (al _) l,by show ce.av.length<=((ce.av.take _).map _).length;rw[fh,ny];omega⟩,λm f s ⟨g,ha,hb⟩=> ?_⟩;have j:f=Dm c ce.av.length a f:=funext λt=>by
  unfold Dm;split;·rename_i e;simp only[fJ] at e;exact ha t e.1 e.2
  rfl
 refine FA (alV hb (hs m f s g j)) λx b k ⟨h,h1,h2⟩=> ?_;have o : ∀t,ri c t=true->(a t).mH ce.av.length=true->b t=a t:=λt ht hi=>by
  have e:=ha t ht hi;rw[h1 t ht (by rw[e];exact hi),e]
 cases x with
 | normal=>
   obtain⟨p,l,q,r,u⟩:=h;refine⟨p,l,q,r,u,λt ht hi=> ?_,?_⟩;·show(b t).cut _ l=a t;rw[o t ht hi];exact AV.Fz hi (al _) l
   show ce.av.length<=((k.av.take _).map _).length;rw[fh,ny];omega
 | exit i=>exact h
 | ret=>exact h
theorem tt{c:bH}{Q:bq->aM->TS->Prop}{a:aM}{ce:TS}(J:Nat->TS->Prop)(n:Nat)(l:List Nat)(hl:xZ l=true)(b:J n (ce.cut ce.av.length l))(hs : ∀m f s,J m s->l5 Z T X D R c (Dm c ce.av.length a f) s (Dl ce.av.length (λm _ s=>J m s) m Q)):Qe Z T X D R c a ce Q:=
 VV (λm _ s=>J m s) n l hl b λm f s d e=>by rw[e];exact hs m f s d
theorem Qf{c:bH}{Q:bq->aM->TS->Prop}{b:aM}{ce:TS}(d:Nat)(J:Nat->AV->TS->Prop)(n:Nat)(l:List Nat)(hl:xZ l=true)(g:J n ((b d).cut ce.av.length l) (ce.cut ce.av.length l))(hs : ∀m a f s,J m a s->l5 Z T X D R c (rh (Dm c ce.av.length b f) (some d) a) s (Dl ce.av.length (λm f s=>J m (f d) s) m Q)):Qe Z T X D R c b ce Q:=
 VV (λm f s=>J m (f d) s) n l hl g λm f s h j=>by
  have e:f=rh (Dm c ce.av.length b f) (some d) (f d):=funext λt=>by
   rw[LH];split;·rename_i e;rw[e]
   rw[<-j]
  rw[e];exact hs m (f d) f s h
theorem alW{c:bH}{Q:bq->aM->TS->Prop}{g:aM}{ce:TS}(d d2:Nat)(J:Nat->AV->AV->TS->Prop)(n:Nat)(l:List Nat)(hl:xZ l=true)(h:J n ((g d).cut ce.av.length l) ((g d2).cut ce.av.length l) (ce.cut ce.av.length l))(hs : ∀m a b f s,J m a b s->l5 Z T X D R c (rh (rh (Dm c ce.av.length g f) (some d2) b) (some d) a) s (Dl ce.av.length (λm f s=>J m (f d) (f d2) s) m Q)):Qe Z T X D R c g ce Q:=
 VV (λm f s=>J m (f d) (f d2) s) n l hl h λm f s j k=>by
  have e:f=rh (rh (Dm c ce.av.length g f) (some d2) (f d2)) (some d) (f d):=funext λt=>by
   rw[LH,LH];split;·rename_i e;rw[e]
   split;·rename_i e;rw[e]
   rw[<-k]
  rw[e];exact hs m (f d) (f d2) f s j
theorem o9{b:Bool}{a no:Prop}(h1:b=true->a)(h2:b=false->no):Bu b a no:=by
 cases b;·exact h2 rfl
 exact h1 rfl
end
section
def Gd (E:Nat->Prop)(P:List Nd->Nat->Prop):PR->Prop
 | none=>False
 | some (.error e)=>E e
 | some (.ok (l,j))=>P l j
theorem Gd.mono{E E':Nat->Prop}{P a:List Nd->Nat->Prop}{r:PR}(h:Gd E P r)(b : ∀e,E e->E' e)(c : ∀l j,P l j->a l j):Gd E' a r:=by
 match r,h with
 | some (.error e),h=>exact b e h
 | some (.ok (l,j)),h=>exact c l j h
theorem Qg{E:Nat->Prop}{P:List Nd->Nat->Prop}{r:PR}{k:List Nd->Nat->PR}:Gd E P (pb r k)↔Gd E (λl j=>Gd E P (k l j)) r:=by
 match r with
 | none=>exact dS
 | some (.error e)=>exact dS
 | some (.ok (l,j))=>exact dS
theorem LW{E:Nat->Prop}{P:List Nd->Nat->Prop}{r:PR}{k:Nd->Nat->PR}:Gd E P (bF r k)↔Gd E (λl j=>∃t,l= [t]/\Gd E P (k t j)) r:=by
 match r with
 | none=>exact dS
 | some (.error e)=>exact dS
 | some (.ok ([],j))=>simp[bF,pb,Gd]
 | some (.ok ([t],j))=>simp[bF,pb,Gd]
 | some (.ok (t::u::l,j))=>simp[bF,pb,Gd]
theorem FC{ts:List PT}{i:Nat}{s:List UInt8}(h:ap ts i s=true):i<ts.length:=by
 unfold ap at h;rcases yx i ts.length with g | g
 ·exact g
 have hk:(ay ts i).kind=0:=by
  unfold ay;rw[wW g];cases ts.getLast?<;>rfl
 rw[hk] at h;simp at h
theorem Bz{ts:List PT}{i:Nat}(h:(ay ts i).kind≠0):i<ts.length:=by
 rcases yx i ts.length with g | g
 ·exact g
 exfalso;apply h;unfold ay;rw[wW g];cases ts.getLast?<;>rfl
theorem VW{ts:List PT}{i:Nat}{s:List UInt8}(h:(ay ts i).kind≠if yC s=true then 8 else 9):ap ts i s=false:=by
 unfold ap;apply decide_eq_false;rintro⟨h1,_,h3⟩;apply h;cases hw:yC s with
 | true=>
   rw[hw] at h3;rw[iP rfl];exact of_decide_eq_true h3.symm
 | false=>
   rw[hw] at h3;rw[iN de];rcases h1 with h1 | h1
   ·exact absurd h1 (of_decide_eq_false h3.symm)
   exact h1
theorem alX{ts:List PT}{i:Nat}(h:4<=(ay ts i).kind/\(ay ts i).kind<=7):iX ts i=true:=by
 unfold iX;rw[decide_eq_true h];simp only[Bool.true_or]
theorem alY{ts:List PT}{i:Nat}(h : ¬(4<=(ay ts i).kind/\(ay ts i).kind<=7))(a:(ay ts i).kind≠8)(b:(ay ts i).kind≠9):iX ts i=false:=by
 unfold iX;rw[decide_eq_false h]
 repeat rw[VW (by split<;>assumption)]
 rfl
theorem alZ{ts:List PT}{i:Nat}(h:(ay ts i).kind=8):iX ts i=(ap ts i Ei||ap ts i uR||ap ts i GR||ap ts i GU||ap ts i GV):=by
 have hn : ∀s,yC s=false->ap ts i s=false:=λs hs=>VW (by rw[h,hs];decide);unfold iX;rw[decide_eq_false (by rw[h];decide),hn Ci rfl,hn Cj rfl,hn An rfl,hn Ej rfl,hn GQ rfl];simp only[Bool.false_or,Bool.or_false]
theorem al0{ts:List PT}{i:Nat}(h:(ay ts i).kind=9):iX ts i=(ap ts i Ci||ap ts i Cj||ap ts i An||ap ts i Ej||ap ts i GQ):=by
 have hn : ∀s,yC s=true->ap ts i s=false:=λs hs=>VW (by rw[h,hs];decide);unfold iX;rw[decide_eq_false (by rw[h];decide),hn Ei rfl,hn uR rfl,hn GR rfl,hn GU rfl,hn GV rfl];simp only[Bool.false_or]
theorem adt{ts:List PT}{s:List UInt8}{i:Nat}{k:Nat->PR}{E:Nat->Prop}{P:List Nd->Nat->Prop}(h1:E i)(h2:i<ts.length->Gd E P (k (i+1))):Gd E P (gV ts s i k):=by
 unfold gV;split;·rename_i h;exact h2 (FC h)
 exact h1
theorem adu{ts:List PT}{kd:Int}(a:kd≠0){i:Nat}{k:List UInt8->Nat->PR}{E:Nat->Prop}{P:List Nd->Nat->Prop}(h1:E i)(h2:i<ts.length->Gd E P (k (ay ts i).text (i+1))):Gd E P (mS ts kd i k):=by
 unfold mS;split;·rename_i h;exact h2 (Bz (by rw[h];exact a))
 exact h1
theorem adw{ts:List PT}{s:List UInt8}{i:Nat}{a b:PR}{E:Nat->Prop}{P:List Nd->Nat->Prop}(h1:i<ts.length->Gd E P a)(h2:Gd E P b):Gd E P (if ap ts i s=true then a else b):=by
 split;·rename_i h;exact h1 (FC h)
 exact h2
theorem adx{c:Prop}[Decidable c]{a b:PR}{E:Nat->Prop}{P:List Nd->Nat->Prop}(h1:c->Gd E P a)(h2 : ¬c->Gd E P b):Gd E P (if c then a else b):=by
 split;·rename_i h;exact h1 h
 rename_i h;exact h2 h
theorem al1{l:List Nd}{j:Nat}{E:Nat->Prop}{P:List Nd->Nat->Prop}(h:P l j):Gd E P (some (.ok (l,j))):=h
theorem al2{e:Nat}{E:Nat->Prop}{P:List Nd->Nat->Prop}(h:E e):Gd E P (some (.error e)):=h
theorem al3{t:Nd}{j:Nat}{E:Nat->Prop}{P:List Nd->Nat->Prop}(h:P [t] j):Gd E P (bR t j):=h
def NT.lU:NT->Nat
 | .atom=>1
 | .primary=>2
 | .rU=>3
 | .term=>4
 | .arith=>5
 | .compare=>6
 | .not=>7
 | .and=>8
 | .or=>9
 | .expr=>10
 | .exprs=>11
 | .one=>3
 | .places=>4
 | .value=>13
 | .plain=>14
 | .simple=>15
 | .block=>16
 | .stmt=>17
 | .maybe _ _ _=>12
 | .row _ _=>11
 | .index _=>11
 | .list _=>11
 | .yF _=>11
 | .yH _=>18
 | .ifs _=>11
 | .top _=>18
 | .sU _ _=>0
 | _=>11
def NT.min:NT->Nat
 | .params _ _ _ | .row _ _ | .vX _ _ | .Ao _ | .Ap _ | .cmpL _ _ | .yE _ | .vY _ | .xh _ | .clauses _ | .list _ | .yF _ | .yG _ _ | .placesL _ _ | .maybe _ _ _ | .mg _ _ | .pV _ | .sU _ _ | .top _=>0
 | .stmt=>2
 | _=>1
def NT.jN:NT->Prop
 | .mg _ acc=>acc≠ []
 | _=>True
def NT.acc:NT->Option Nat
 | .row _ acc=>some acc.length
 | .clauses acc=>some acc.length
 | .pV acc=>some acc.length
 | .top acc=>some acc.length
 | _=>none
def NT.post(a:NT)(i n:Nat)(l:List Nd)(j:Nat):Prop:=i+a.min<=j/\j<=n/\match a.acc with
 | some m=>2*l.length+i<=2*m+j+1/\m<=l.length
 | none=>l.length=1
theorem VY{l:List Nd}(h:l.length=1) : ∃t,l= [t]:=by
 match l,h with
 | [t],_=>exact⟨t,rfl⟩
theorem VZ{acc:List Nd}(h:acc≠ []) : ∃t,acc.getLast? = some t:=by
 cases a:acc.getLast? with
 | none=>exact absurd (List.getLast?_eq_none_iff.1 a) h
 | some t=>exact⟨t,rfl⟩
def BA (ts:List PT)(f:Nat):Prop:=∀(a:NT) (i:Nat),a.jN->i<=ts.length->ts.length*64+a.lU<f+i*64->Gd (λe=>i<=e/\e<=ts.length) (a.post i ts.length) (gr ts f a i)
theorem BA.one{ts:List PT}{f:Nat}(h:BA ts f){a:NT}{i:Nat}(hg:a.jN)(hi:i<=ts.length)(b:ts.length*64+a.lU<f+i*64){E:Nat->Prop}{P:List Nd->Nat->Prop}(c : ∀e,i<=e->e<=ts.length->E e){k:Nd->Nat->PR}(ha:a.acc=none)(d : ∀t j,i+a.min<=j->j<=ts.length->Gd E P (k t j)):Gd E P (bF (gr ts f a i) k):=by
 rw[LW];refine(h a i hg hi b).mono (λe h=>c e h.1 h.2) λl j h=> ?_;unfold NT.post at h;rw[ha] at h;obtain⟨h1,h2,h3⟩:=h;obtain⟨t,rfl⟩:=VY h3;exact⟨t,rfl,d t j h1 h2⟩
theorem BA.V0{ts:List PT}{f:Nat}(h:BA ts f){a:NT}{i:Nat}(hg:a.jN)(hi:i<=ts.length)(b:ts.length*64+a.lU<f+i*64){E:Nat->Prop}{P:List Nd->Nat->Prop}(c : ∀e,i<=e->e<=ts.length->E e){k:List Nd->Nat->PR}(ha:a.acc=some (a.acc.getD 0))(d : ∀l j,i<=j->j<=ts.length->2*l.length+i<=2*a.acc.getD 0+j+1->a.acc.getD 0<=l.length->Gd E P (k l j)):Gd E P (pb (gr ts f a i) k):=by
 rw[Qg];refine(h a i hg hi b).mono (λe h=>c e h.1 h.2) λl j h=> ?_;unfold NT.post at h;rw[ha] at h;obtain⟨h1,h2,h3,h4⟩:=h;exact d l j Om h2 h3 h4
theorem BA.AC{ts:List PT}{f:Nat}(h:BA ts f){a:NT}{i:Nat}(hg:a.jN)(hi:i<=ts.length)(b:ts.length*64+a.lU<f+i*64){E:Nat->Prop}{P:List Nd->Nat->Prop}(c : ∀e,i<=e->e<=ts.length->E e)(d : ∀l j,i+a.min<=j->j<=ts.length->(match a.acc with | some m=>2*l.length+i<=2*m+j+1/\m<=l.length | none=>l.length=1)->P l j):Gd E P (gr ts f a i):=by
 refine(h a i hg hi b).mono (λe h=>c e h.1 h.2) λl j h=> ?_;obtain⟨h1,h2,h3⟩:=h;exact d l j h1 h2 h3
def FD (ts:List PT)(i:Nat)(r:Except Nat (Nat×Nat)):Prop:=match r with
 | .error e=>i<=e/\e<=ts.length
 | .ok (op,j)=>(op=0/\j=i)\/(op≠0/\i<j/\j<=ts.length)
theorem al4{ts:List PT}{i k:Nat}{s:List UInt8}{a b:Except Nat (Nat×Nat)}(h1:k<ts.length->FD ts i a)(h2:FD ts i b):FD ts i (if ap ts k s=true then a else b):=by
 split;·rename_i h;exact h1 (FC h)
 exact h2
theorem al5{ts:List PT}{i op j:Nat}(a:op≠0)(h1:i<j)(h2:j<=ts.length):FD ts i (.ok (op,j)):=Or.inr ⟨a,h1,h2⟩
theorem al6{ts:List PT}{i:Nat}:FD ts i (.ok (0,i)):=Or.inl ⟨rfl,rfl⟩
theorem al7{ts:List PT}{i e:Nat}(h1:i<=e)(h2:e<=ts.length):FD ts i (.error e):=⟨h1,h2⟩
theorem V1{ts:List PT}{i:Nat}(hi:i<=ts.length):FD ts i (jk ts i):=by
 unfold jk;repeat' first | exact al6 | exact al5 de Om Om | exact al7 Om Om | refine al4 (λh=> ?_) ?_
theorem ady{ts:List PT}{i:Nat}(h : ¬j7 ts i=0):i<ts.length:=by
 unfold j7 at h;rcases yx i ts.length with g | g
 ·exact g
 exfalso;have hn : ∀s,ap ts i s=false:=λs=>by
  cases hs:ap ts i s with
  | true=>have:=FC hs;omega
  | false=>rfl
 simp[hn] at h
theorem al8{ts:List PT}{i:Nat}(hi:i<=ts.length){E:Nat->Prop}{P:List Nd->Nat->Prop}(a : ∀e,i<=e->e<=ts.length->E e){A:PR}{B:Nat->Nat->PR}(hA:Gd E P A)(b : ∀op j,i<j->j<=ts.length->Gd E P (B op j)):Gd E P (match jk ts i with | .error e=>some (.error e) | .ok (0,_)=>A | .ok (op+1,j)=>B op j):=by
 have ho:=V1 hi;match jk ts i,ho with
 | .error e,ho=>exact a e ho.1 ho.2
 | .ok (0,_),_=>exact hA
 | .ok (op+1,j),ho=>
   rcases ho with ⟨h,_⟩ | ⟨_,h1,h2⟩
   ·cases h
   exact b op j h1 h2
theorem al9{ts:List PT}{f:Nat}(b:BA ts f):BA ts (f+1):=by
 intro a i hg hi d;cases a;case' maybe k l c=>cases c
 case' mg l acc=>obtain⟨t,ht⟩:=VZ hg
 all_goals first | simp only[gr,ht] | simp only[gr,Bool.false_eq_true,iF,iT]
 case' cmpL n acc=>refine al8 hi (λe h1 h2=>⟨h1,h2⟩) ?_ λop j h1 h2=> ?_
 all_goals (repeat' first | (have g:=Bz (by rw[h];decide);clear h) | (have g:=Bz (i:=i) (ts:=ts) Om;clear h) | (have g:=ady h;clear h) | (with_reducible refine adw (λh=> ?_) ?_) | ((with_reducible refine adt ?_ ?_);exact⟨Om,Om⟩;intro h) | ((with_reducible refine adu ?_ ?_ ?_);decide;exact⟨Om,Om⟩;intro h) | ((with_reducible refine al2 ?_);exact⟨Om,Om⟩) | ((with_reducible refine al3 ?_);refine⟨?_,Om,?_⟩<;>(simp only[NT.min,NT.acc,cX,cw,cO]<;>omega)) | ((with_reducible refine al1 ?_);refine⟨?_,Om,?_⟩<;>(simp only[NT.min,NT.acc,cX,cw,cO]<;>omega)) | ((with_reducible refine b.one ?_ ?_ ?_ ?_ ?_ ?_);(first | exact D7 | simp[NT.jN]);omega;simp only[NT.lU] at d⊢;omega;intro e g5 g6;exact⟨Om,g6⟩;rfl;intro t j g1 g3;simp only[NT.min] at g1) | ((with_reducible refine b.V0 ?_ ?_ ?_ ?_ ?_ ?_);(first | exact D7 | simp[NT.jN]);omega;simp only[NT.lU] at d⊢;omega;intro e g5 g6;exact⟨Om,g6⟩;rfl;intro l j g1 g2 g3 g4;simp only[NT.acc,Option.getD_some,cX,cw,cO] at g3 g4) | ((with_reducible refine b.AC ?_ ?_ ?_ ?_ ?_);(first | exact D7 | simp[NT.jN]);omega;simp only[NT.lU] at d⊢;omega;intro e g5 g6;exact⟨Om,g6⟩;intro l j g1 g3 g4;simp only[NT.acc,cX,cw,cO] at g4;simp only[NT.min] at g1;refine⟨?_,Om,?_⟩<;>(simp only[NT.min,NT.acc,cX,cw,cO]<;>omega)) | (with_reducible refine adx (λh=> ?_) (λh=> ?_)))
theorem BB{ts:List PT} : ∀f,BA ts f
 | 0=>λa i _ hi h=>by omega
 | f+1=>al9 (BB f)
def lq (a b:PR):Prop:=∀r,a=some r->b=some r
theorem lq.refl{a:PR}:lq a a:=λ_ h=>h
theorem Qh{r a:PR}{k k':List Nd->Nat->PR}(h:lq r a)(hk : ∀l j,lq (k l j) (k' l j)):lq (pb r k) (pb a k'):=λx hx=>by
 match r,h,hx with
 | none,_,hx=>cases hx
 | some (.error e),h,hx=>rw[h _ rfl];exact hx
 | some (.ok (l,j)),h,hx=>rw[h _ rfl];exact hk l j x hx
theorem V2{r a:PR}{k k':Nd->Nat->PR}(h:lq r a)(hk : ∀t j,lq (k t j) (k' t j)):lq (bF r k) (bF a k'):=Qh h λl j=>by
 match l with
 | []=>exact lq.refl
 | [t]=>exact hk t j
 | _::_::_=>exact lq.refl
theorem V3{ts:List PT}{s:List UInt8}{i:Nat}{k k':Nat->PR}(hk : ∀j,lq (k j) (k' j)):lq (gV ts s i k) (gV ts s i k'):=by
 unfold gV;split;·exact hk _
 exact lq.refl
theorem V4{ts:List PT}{kd:Int}{i:Nat}{k k':List UInt8->Nat->PR}(hk : ∀s j,lq (k s j) (k' s j)):lq (mS ts kd i k) (mS ts kd i k'):=by
 unfold mS;split;·exact hk _ _
 exact lq.refl
theorem Qi{c:Prop}[Decidable c]{a b a' d:PR}(h1:lq a a')(h2:lq b d):lq (if c then a else b) (if c then a' else d):=by
 split;·exact h1
 exact h2
def V5 (ts:List PT)(f g:Nat):Prop:=∀a i,lq (gr ts f a i) (gr ts g a i)
theorem al'{ts:List PT}{f g:Nat}(c:V5 ts f g):V5 ts (f+1) (g+1):=by
 have c : ∀a i,lq (gr ts f a i) (gr ts g a i):=c;intro a i;cases a;case cmpL n b=>
  simp only[gr];split;all_goals repeat' first | (with_reducible exact lq.refl) | (with_reducible exact c _ _) | (with_reducible refine Qi ?_ ?_) | (with_reducible refine V3 λ_=> ?_) | (with_reducible refine V4 λ_ _=> ?_) | (with_reducible refine V2 (c _ _) λ_ _=> ?_) | (with_reducible refine Qh (c _ _) λ_ _=> ?_)
 case mg a b=>
  simp only[gr];cases b.getLast? with
  | none=>exact Qi lq.refl lq.refl
  | some t=>repeat' first | (with_reducible exact lq.refl) | (with_reducible exact c _ _) | (with_reducible refine Qi ?_ ?_) | (with_reducible refine V3 λ_=> ?_) | (with_reducible refine V4 λ_ _=> ?_) | (with_reducible refine V2 (c _ _) λ_ _=> ?_) | (with_reducible refine Qh (c _ _) λ_ _=> ?_)
 all_goals simp only[gr]
 all_goals (repeat' first | (with_reducible exact lq.refl) | (with_reducible exact c _ _) | (with_reducible refine Qi ?_ ?_) | (with_reducible refine V3 λ_=> ?_) | (with_reducible refine V4 λ_ _=> ?_) | (with_reducible refine V2 (c _ _) λ_ _=> ?_) | (with_reducible refine Qh (c _ _) λ_ _=> ?_))
theorem adz{ts:List PT} : ∀f,V5 ts f (f+1)
 | 0=>λa i r h=>by cases h
 | f+1=>al' (adz f)
theorem ama{ts:List PT}{f g:Nat}(h:f<=g){a:NT}{i:Nat}{r:Except Nat (List Nd×Nat)}(b:gr ts f a i=some r):gr ts g a i=some r:=by
 induction h with
 | refl=>exact b
 | step _ c=>exact adz _ a i r c
end
section
open Go Go.RowKit
set_option maxRecDepth 4000
def jS (t:PT):List ae:= [.int .i64 t.kind, .int .i64 t.line, .string ⟨⟨t.text⟩⟩]
def tu:uQ PT:=λ_ cs t=>cs=jS t
def BC (t:PT):cy:= .cells (jS t) 85 .ex
structure Sl where
 q:Option Addr
 n:Nat
 c:Nat
theorem Qj{K:CH}{q:Option Addr}{c:Nat}{ts:List PT}(h:gU 3 tu K q c ts){i:Nat}(hi:i<ts.length) : ∃l o os e kd,q=some ⟨l,o,none⟩/\K.ob l= .cells os e kd/\l<K.nx/\o+i*3+3<=os.length/\(os.drop (o+i*3)).take 3=jS ts[i]/\os[o+i*3+1]? = some (.int .i64 ts[i].line):=by
 rcases h with ⟨rfl,_⟩ | ⟨l,o,os,e,kd,rfl,h1,h2,h3,h4,h5,a⟩
 ·cases hi
 have g:_=_:=a i hi;refine⟨l,o,os,e,kd,rfl,h4,h1,Om,g,?_⟩;have:os[o+i*3+1]? = (jS ts[i])[1]? :=by rw[<-g,Af de,sP]
 rw[this];rfl
theorem pJ{K:CH}{o o':cy}:(K.new o).set K.nx o'=K.new o':=by
 unfold CH.set CH.new;congr 1
 funext k
 by_cases h:k=K.nx
 ·simp[h]
 simp[h]
abbrev pS(l:List UInt8):ByteArray:=⟨⟨l⟩⟩
theorem LX{l:List UInt8}{i:Nat}:(pS l)[i]? = l[i]? :=by
 show(if h:i<(pS l).size then some ((pS l)[i]'h) else none)=_;by_cases h:i<l.length
 ·have h':i<(pS l).size:=h;rw[dif_pos h',bM h];rfl
 have h' : ¬i<(pS l).size:=h;rw[dif_neg h',wW Om]
theorem IA{a b:List UInt8}:bV (binOp .eql 0 (.string (pS a)) (.string (pS b)))=some (.bool (decide (a=b))):=by
 have h:((pS a).toList==(pS b).toList)=decide (a=b):=by
  have h : ∀l:List UInt8,(pS l).toList=l:=λl=>by simp[ByteArray.toList_eq]
  rw[h,h];by_cases e:a=b
  ·simp[e]
  rw[decide_eq_false e];simpa using e
 simp only[binOp,Op.stringOp,bV,Pure.pure,h]
def BD (sl:Sl)(i:Nat):cy:= .cells [.slice sl.q sl.n sl.c, .int .i64 (i:Nat)] 114 .ex
structure BE(K:CH)(p:Nat)(sl:Sl)(ts:List PT)(i:Nat):Prop where
 ob:K.ob p=BD sl i
 pl:p<K.nx
 il:i<=ts.length
 n:sl.n=ts.length
 tk:gU 3 tu K sl.q sl.c ts
theorem BE.len{K:CH}{p:Nat}{sl:Sl}{ts:List PT}{i:Nat}(h:BE K p sl ts i):ts.length<=9223372036854775807:=by
 rcases h.tk with ⟨rfl,_⟩ | ⟨l,o,os,e,kd,_,_,h2,h3,_⟩
 ·simp
 rw[gZ] at h3;omega
theorem adA{K:CH}{p:Nat}{sl:Sl}{ts:List PT}{i:Nat}(h:BE K p sl ts i):aR (ba Tryz.prog LG GG) 70 [.pointer (some ⟨p,0,none⟩)] K λv K'=>v= .agg (jS (ay ts i)).toArray/\K'=K.new (BC (ay ts i)):=by
 have a:=h.ob;have j:=h.pl;have m:=h.len;have r:=h.il;unfold BD at a;rw[h.n] at a;refine js Rl Kr (aV ?_);by_cases hi:i<ts.length
 ·obtain⟨l,o,os,e,kd,b,g1,g2,g3,g4,g5⟩:=Qj h.tk hi;have hn:ay ts i=ts[i]:=by unfold ay;rw[bM hi]
  rw[hn];rw[b] at a;unfold jS at g4⊢;refine rn (gy @a @g1 @g3 @g4) ?_;all_goals exact pJ
 by_cases c:0<ts.length
 ·obtain⟨l,o,os,e,kd,b,g1,g2,g3,g4,g5⟩:=Qj h.tk (i:=ts.length-1) Om;have hn:ay ts i=⟨0,ts[ts.length-1].line,[]⟩:=by
   unfold ay;rw[wW Om,List.getLast?_eq_getElem?,bM Om]
  rw[hn];rw[b] at a;have d:((ts.length:Nat):Int)-1=((ts.length-1:Nat):Int):=by omega
  unfold jS;refine rn (iD @a @g1 @g3 @g5 @d) ?_;all_goals exact pJ
 have g:ts= []:=List.length_eq_zero_iff.1 Om;have hn:ay ts i=⟨0,0,[]⟩:=by subst g;rfl
 rw[hn];unfold jS;refine rn (an @a @c) ?_;all_goals exact pJ
theorem V6{K:CH}{p:Nat}{sl:Sl}{ts:List PT}{i:Nat}(h:BE K p sl ts i){Q:ae->CH->Prop}:aR (ba Tryz.prog LG GG) 70 [.pointer (some ⟨p,0,none⟩)] K Q↔Q (.agg (jS (ay ts i)).toArray) (K.new (BC (ay ts i))):=ve (adA h)
theorem amb(K:CH){c:UInt8}{s:List UInt8}:aR (ba Tryz.prog LG GG) 165 [.string ⟨⟨c::s⟩⟩] K λv K'=>v= .bool (yC (c::s))/\K'=K:=by
 have hg:((c::s)[0]?).map (λb=>Value.int .u8 (b.toNat:Int))=some (.int .u8 (c.toNat:Int)):=rfl;have hc:=c.toNat_lt;have e:yC (c::s)=decide ((65<=c.toNat/\c.toNat<=90)\/(97<=c.toNat/\c.toNat<=122)):=rfl;rw[e];obtain⟨n,hn⟩ : ∃n,c.toNat=n:=⟨_,rfl⟩;rw[hn] at hg hc⊢;refine js Rl Kr (aV ?_);by_cases h1:65<=n
 ·by_cases h2:n<=90
  ·rw[decide_eq_true Om];exact rz (gy @LX @hg @h1 @h2)
  by_cases h3:97<=n
  ·by_cases h4:n<=122
   ·rw[decide_eq_true Om];exact rz (rR @LX @hg @h1 @h2 @h3 @h4)
   rw[decide_eq_false Om];exact rz (rR @LX @hg @h1 @h2 @h3 @h4)
  rw[decide_eq_false Om];exact rz (iD @LX @hg @h1 @h2 @h3)
 rw[decide_eq_false Om];have h3 : ¬ 97<=n:=by omega
 exact rz (gy @LX @hg @h1 @h3)
theorem adB{K:CH}{c:UInt8}{s:List UInt8}{Q:ae->CH->Prop}:aR (ba Tryz.prog LG GG) 165 [.string ⟨⟨c::s⟩⟩] K Q↔Q (.bool (yC (c::s))) K:=ve (amb K)
theorem amc{K:CH}{p:Nat}{sl:Sl}{ts:List PT}{i:Nat}(h:BE K p sl ts i){b:UInt8}{s:List UInt8}:aR (ba Tryz.prog LG GG) 137 [.pointer (some ⟨p,0,none⟩), .string ⟨⟨b::s⟩⟩] K λv K'=>v= .bool (ap ts i (b::s))/\K'=(K.new (BC (ay ts i))).new (BC (ay ts i)):=by
 have l:=h.ob;have n:=h.pl;have a:=λQ=> @V6 K p sl ts i h Q;obtain⟨t,ht⟩ : ∃t,ay ts i=t:=⟨_,rfl⟩;unfold BD at l;rw[ht] at a;unfold ap;rw[ht];obtain⟨kd,ln,tx⟩:=t;obtain⟨G,m⟩ : ∃G,K.new (BC ⟨kd,ln,tx⟩)=G:=⟨_,rfl⟩;rw[m] at a⊢;unfold jS at a;have fin:G.new (.cells [.int .i64 kd, .int .i64 ln, .string ⟨⟨tx⟩⟩] 85 .ex)=G.new (BC ⟨kd,ln,tx⟩):=rfl;refine js Rl Kr (aV ?_);by_cases d:kd=8
 ·subst d;by_cases e:tx=b::s
  ·have hd:=decide_eq_true e;have hw:=λK Q=> @adB K b s Q;cases c:yC (b::s) with
   | true=>
     rw[c] at hw;rw[decide_eq_true ⟨.inl rfl,e,rfl⟩];repeat' (first | (simp (disch:=first | omega | (decide +kernel)) only[↓RD,RU,sq,oO,bS,↓aP,↓ez,↓aT,↓bf,cV,bK,fS,pop,aD,da,bD,bT,jc,dV,fj,isVal,bu,dp,ρ0,ρ1,ρ3,↓reduceIte,Nat.reduceEqDiff,Nat.reduceAdd,Int.reduceOfNat,reduceCtorEq,ρ5,ρ6,ρ7,ρ8,ρ17,ρ20,ρ21,ρ22,ρ23,Kd.cD,ρ25,ρ26,ρ28,a,pJ,IA,hw]) | ((with_reducible first|apply aF|apply aG|apply aH)<;>intro _))
     all_goals exact fin
   | false=>
     rw[c] at hw;rw[decide_eq_false Sm];repeat' (first | (simp (disch:=first | omega | (decide +kernel)) only[↓RD,RU,sq,oO,bS,↓aP,↓ez,↓aT,↓bf,cV,bK,fS,pop,aD,da,bD,bT,jc,dV,fj,isVal,bu,dp,ρ0,ρ1,↓reduceIte,Nat.reduceEqDiff,Nat.reduceAdd,Int.reduceOfNat,reduceCtorEq,ρ5,ρ6,ρ7,ρ8,ρ17,ρ20,ρ21,ρ22,ρ23,Kd.cD,ρ25,ρ26,ρ28,a,pJ,IA,hw]) | ((with_reducible first|apply aF|apply aG|apply aH)<;>intro _))
     all_goals exact fin
  have hd:=decide_eq_false e;rw[decide_eq_false (λg=>e g.2.1)];repeat' (first | (simp (disch:=first | omega | (decide +kernel)) only[↓RD,RU,sq,oO,bS,↓aP,↓ez,↓aT,↓bf,cV,bK,fS,pop,aD,da,bD,bT,jc,dV,fj,isVal,bu,dp,ρ0,ρ1,↓reduceIte,Nat.reduceEqDiff,Nat.reduceAdd,Int.reduceOfNat,reduceCtorEq,ρ5,ρ6,ρ7,ρ8,ρ17,ρ20,ρ21,ρ22,ρ23,Kd.cD,ρ25,ρ26,ρ28,a,pJ,IA]) | ((with_reducible first|apply aF|apply aG|apply aH)<;>intro _))
  all_goals exact fin
 by_cases j:kd=9
 ·subst j;by_cases e:tx=b::s
  ·have hd:=decide_eq_true e;have hw:=λK Q=> @adB K b s Q;cases c:yC (b::s) with
   | true=>
     rw[c] at hw;rw[decide_eq_false Sm];repeat' (first | (simp (disch:=first | omega | (decide +kernel)) only[↓RD,RU,sq,oO,bS,↓aP,↓ez,↓aT,↓bf,cV,bK,fS,pop,aD,da,bD,bT,jc,dV,fj,isVal,bu,dp,ρ0,ρ1,ρ2,↓reduceIte,Nat.reduceEqDiff,Nat.reduceAdd,Int.reduceOfNat,reduceCtorEq,ρ5,ρ6,ρ7,ρ8,ρ17,ρ20,ρ21,ρ22,ρ23,Kd.cD,ρ25,ρ26,ρ28,a,pJ,IA,hw]) | ((with_reducible first|apply aF|apply aG|apply aH)<;>intro _))
     all_goals exact fin
   | false=>
     rw[c] at hw;rw[decide_eq_true ⟨.inr rfl,e,Sm⟩];repeat' (first | (simp (disch:=first | omega | (decide +kernel)) only[↓RD,RU,sq,oO,bS,↓aP,↓ez,↓aT,↓bf,cV,bK,fS,pop,aD,da,bD,bT,jc,dV,fj,isVal,bu,dp,ρ0,ρ1,ρ3,↓reduceIte,Nat.reduceEqDiff,Nat.reduceAdd,Int.reduceOfNat,reduceCtorEq,ρ5,ρ6,ρ7,ρ8,ρ17,ρ20,ρ21,ρ22,ρ23,Kd.cD,ρ25,ρ26,ρ28,a,pJ,IA,hw]) | ((with_reducible first|apply aF|apply aG|apply aH)<;>intro _))
     all_goals exact fin
  have hd:=decide_eq_false e;rw[decide_eq_false (λg=>e g.2.1)];repeat' (first | (simp (disch:=first | omega | (decide +kernel)) only[↓RD,RU,sq,oO,bS,↓aP,↓ez,↓aT,↓bf,cV,bK,fS,pop,aD,da,bD,bT,jc,dV,fj,isVal,bu,dp,ρ0,ρ1,↓reduceIte,Nat.reduceEqDiff,Nat.reduceAdd,Int.reduceOfNat,reduceCtorEq,ρ5,ρ6,ρ7,ρ8,ρ17,ρ20,ρ21,ρ22,ρ23,Kd.cD,ρ25,ρ26,ρ28,a,pJ,IA]) | ((with_reducible first|apply aF|apply aG|apply aH)<;>intro _))
  all_goals exact fin
 rw[decide_eq_false (λg=>g.1.elim d j)];refine rn (gy @a @pJ @d @j) ?_;all_goals exact fin
theorem amd{K:CH}{p:Nat}{sl:Sl}{ts:List PT}{i:Nat}(h:BE K p sl ts i){k:Int}:aR (ba Tryz.prog LG GG) 140 [.pointer (some ⟨p,0,none⟩), .int .i64 k] K λv K'=>v= .bool (decide ((ay ts i).kind=k))/\K'=K.new (BC (ay ts i)):=by
 have b:=h.ob;have c:=h.pl;have a:=λQ=> @V6 K p sl ts i h Q;obtain⟨t,ht⟩ : ∃t,ay ts i=t:=⟨_,rfl⟩;unfold BD at b;rw[ht] at a⊢;obtain⟨kd,ln,tx⟩:=t;unfold jS at a;refine js Rl Kr (aV ?_);by_cases hk:kd=k
 ·rw[decide_eq_true hk];subst hk;exact rz (an @b @a);all_goals rfl
 rw[decide_eq_false hk];exact rz (gK @b @a @hk);all_goals rfl
theorem ame{K:CH}{k l:Int}{a:Option Addr}{n c:Nat}:aR (ba Tryz.prog LG GG) 69 [.int .i64 k, .int .i64 l, .slice a n c] K λv K'=>v= .agg #[.int .i64 k, .int .i64 l, .string ⟨⟨[]⟩⟩, .int .i64 0, .slice a n c]/\∃o,K'=K.new o:=by
 refine js Rl Kr (aV ?_);refine rn @pJ ?_;all_goals exact⟨_,rfl⟩
mutual
def dr:Nd->List SV
 | .mk k l x o ks=> [.sc (.int .i64 (k:Nat)), .sc (.int .i64 l), .sc (.string ⟨⟨x⟩⟩), .sc (.int .i64 (o:Nat)), .row 5 (cZ ks)]
def cZ:List Nd->List (List SV)
 | []=> []
 | n::ks=>dr n::cZ ks
end
theorem LY : ∀ {a b:List Nd},cZ (a++b)=cZ a++cZ b
 | [],b=>rfl
 | n::a,b=>by simp only[jU,cZ,LY]
theorem ql : ∀ {a:List Nd},(cZ a).length=a.length
 | []=>rfl
 | n::a=>by simp only[cZ,cw,ql]
theorem adC{t:Nd}:(dr t).length=5:=by cases t;rfl
theorem LZ : ∀ {a:List Nd} {i:Nat} {t:Nd},a[i]? = some t->(cZ a)[i]? = some (dr t)
 | [],i,t,h=>by simp at h
 | n::a,0,t,h=>by simp at h;subst h;rfl
 | n::a,i+1,t,h=>by simpa[cZ] using LZ (a:=a) (i:=i) (by simpa using h)
def ya (t:Nd):AV:= .r (.agg ((dr t).map .s))
def adD (t:PT):AV:= .r (.agg [cS (.int .i64 t.kind),cS (.int .i64 t.line),cS (.string ⟨⟨t.text⟩⟩)])
structure Qk(Z:TP)(sl:Sl)(ts:List PT):Prop where
 n:sl.n=ts.length
 q : ∀l o,sl.q=some ⟨l,o,none⟩->Z.N l
 tk : ∀K:CH,(∀b,Z.N b->b<K.nx/\K.ob b=Z.M b)->gU 3 tu K sl.q sl.c ts
theorem amf{K:CH}{E:TE}{t:PT}:bX K E (adD t) (.agg (jS t).toArray):= .r (.agg (vs:=jS t) (.cons (.s (.sc rfl)) (.cons (.s (.sc rfl)) (.cons (.s (.sc rfl)) .nil))))
theorem L7{K:CH}{E:TE}{v:ae}(h:bu v=true):bX K E (rS v) v:= .r (.c (.s (.sc h)))
theorem adE{K:CH}{E:TE} : ∀ {L:List ae} {vs:List ae},R2 (bX K E) (L.map rS) vs->vs=L
 | [],_, .nil=>rfl
 | v::L,_, .cons h t=>by rw[adE t,ut h rfl]
theorem amg{Z:TP}{T:bZ}{X:cY}{f:aU}{args:List AV}{e:aI}{s s':List SV}{Q:AV->List SV->Prop}{R:ae->Prop}(h:s=s')(g:TC Z T X f args (some (e,s')) Q R):TC Z T X f args (some (e,s)) Q R:=by rw[h];exact g
theorem adF{i n:Nat}(h:i<n)(hn:n<=4398046510976):(IntKind.wrap .i64 ((i:Int)+1))=((i+1:Nat):Int):=by
 rw[gY Om Om];omega
def gS (sl:Sl)(i:Nat):List SV:= [.sc (.slice sl.q sl.n sl.c), .sc (.int .i64 (i:Nat))]
abbrev jv(sl:Sl)(i:Nat):Self:=some (114,gS sl i)
theorem adG{K:CH}{E:TE}{sp:Option Nat}{sl:Sl}{i:Nat}(h:De K E sp (jv sl i)) : ∃p,sp=some p/\p<K.nx/\K.ob p=BD sl i:=by
 obtain⟨p,os,h1,h2,h3,h4⟩:=h;refine⟨p,h1,h2,?_⟩;rw[h3];cases h4 with
 | cons a h4=>cases h4 with
   | cons b h4=>cases h4;cases a;cases b;rfl
theorem adH{K:CH}{E:TE}{p:Nat}{sl:Sl}{i:Nat}(h:p<K.nx)(ho:K.ob p=BD sl i):De K E (some p) (jv sl i):=⟨p,_,rfl,h,ho, .cons (.sc rfl) (.cons (.sc rfl) .nil)⟩
theorem V7{Z:TP}{X:cY}{sl:Sl}{ts:List PT}(d:Qk Z sl ts){f:aU}{L:List ae}{i j:Nat}{a:AV}{V:ae}{Q:AV->List SV->Prop}{R:ae->Prop}(hi:i<=ts.length)(k : ∀K E,bX K E a V)(hc:a.clean)
 (h : ∀K p,BE K p sl ts i->aR (ba Tryz.prog LG GG) f (.pointer (some ⟨p,0,none⟩)::L) K λv K'=>v=V/\K.nx<=K'.nx/\(∀b,b<K.nx->b≠p->K'.ob b=K.ob b)/\K'.ob p=BD sl j) (m:Q a (gS sl j)):TC Z (ba Tryz.prog LG GG) X f (.ptr 0 0::L.map rS) (jv sl i) Q R:=by
 refine adn rfl λK sp hid vs h1 h2 h3 h4=> ?_;obtain⟨p,rfl,hp,ho⟩:=adG h4;have o:vs= .pointer (some ⟨p,0,none⟩)::L:=by
  cases h3 with
  | cons g1 g2=>
    obtain⟨l,c,q⟩:=g1.xU;have c:some p=some l:=c;cases c;rw[q,adE g2]
 subst o;left;refine(h K p ⟨ho,hp,hi,d.n,d.tk K λb hb=>⟨(h2 b hb).1,(h2 b hb).2.2⟩⟩).mono λv K' ⟨r,g,s,t⟩=> ?_;subst r;exact⟨g,λb hb hs=>s b hb λe=>hs (by rw[e]),a,gS sl j,k _ _,hc,adH (cj hp g) t,rfl,m⟩
structure dB(Z:TP)(X:cY)(W:Int->ae)(ts:List PT)(sl:Sl):Prop where
 V8:Qk Z sl ts
 fail : ∀(i:Nat) (Q:AV->List SV->Prop) (R:ae->Prop),i<=ts.length->R (W (ay ts i).line)->TC Z (ba Tryz.prog LG GG) X 139 [.ptr 0 0] (jv sl i) Q R
 len:ts.length<=4398046510976
def DT:TD:=⟨[69]⟩
theorem gC:Df (ba Tryz.prog LG GG) DT:=⟨λf b K k l a n c=>by
 have:f=69:=by
  simp only[DT,List.elem_cons,List.elem_nil] at b;split at b;·rename_i h;exact eq_of_beq h
  cases b
 subst this;exact ame⟩
section
variable {Z:TP} {X:cY} {W:Int->ae} {ts:List PT} {sl:Sl} {R:ae->Prop} {Q:AV->List SV->Prop} {E:Nat->Prop} {P:List Nd->Nat->Prop} {i:Nat}
theorem IB(C:dB Z X W ts sl)(hi:i<=ts.length)(a:Q (adD (ay ts i)) (gS sl i)):TC Z (ba Tryz.prog LG GG) X 70 [.ptr 0 0] (jv sl i) Q R:=
 V7 C.V8 (L:= []) hi (λ_ _=>amf) trivial (λK p h=>(adA h).mono λv K' ⟨c,d⟩=>by
  subst d;exact⟨c,mQ _,λb hb _=>bQ Om,(bQ (by have:=h.pl;omega)).trans h.ob⟩) a
theorem adI(C:dB Z X W ts sl){s:List UInt8}(hs:s≠ [])(hi:i<=ts.length)(c:Q (rS (.bool (ap ts i s))) (gS sl i)):TC Z (ba Tryz.prog LG GG) X 137 [.ptr 0 0,rS (.string ⟨⟨s⟩⟩)] (jv sl i) Q R:=by
 obtain⟨a,s,rfl⟩ : ∃a d,s=a::d:=by cases s;exact absurd rfl hs;exact⟨_,_,rfl⟩
 exact V7 C.V8 (L:= [.string ⟨⟨a::s⟩⟩]) hi (λ_ _=>L7 rfl) trivial (λK p h=>(amc h).mono λv K' ⟨e,f⟩=>by
  subst f;have:=h.pl;refine⟨e,by simp only[gJ];omega,λb hb _=> ?_,?_⟩;·rw[bQ (by simp only[gJ];omega),bQ Om]
  rw[bQ (by simp only[gJ];omega),bQ Om];exact h.ob) c
theorem amh(C:dB Z X W ts sl){k:Int}(hi:i<=ts.length)(a:Q (rS (.bool (decide ((ay ts i).kind=k)))) (gS sl i)):TC Z (ba Tryz.prog LG GG) X 140 [.ptr 0 0,rS (.int .i64 k)] (jv sl i) Q R:=
 V7 C.V8 (L:= [.int .i64 k]) hi (λ_ _=>L7 rfl) trivial (λK p h=>(amd h).mono λv K' ⟨c,d⟩=>by
  subst d;exact⟨c,mQ _,λb hb _=>bQ Om,(bQ (by have:=h.pl;omega)).trans h.ob⟩) a
end
def nZ (l:Int):ae:= .iface 116 (.agg #[.int .i64 l])
noncomputable def V9:Option Code->Array Oper
 | some (.region _ ops _)=>ops
 | _=> #[]
noncomputable def ni:Array Oper:=V9 (Tryz.f139).body
def pX:cY:=λf args H v H'=>f=139/\∃p sl ts i,args= [.pointer (some ⟨p,0,none⟩)]/\BE H p sl ts i/\v=nZ (ay ts i).line/\H'=H.new (BC (ay ts i))
noncomputable def L8:List Item:=(tg Tryz.prog 7 ni (ni.toList.take 4)).getD []
theorem ami:tg Tryz.prog 7 ni (ni.toList.take 4)=some L8:=by
 unfold L8;have h:(tg Tryz.prog 7 ni (ni.toList.take 4)).isSome=true:=by kernel_rfl
 cases a:tg Tryz.prog 7 ni (ni.toList.take 4) with
 | none=>rw[a] at h;cases h
 | some l=>rfl
theorem amj{H:CH}{p:Nat}{sl:Sl}{ts:List PT}{i:Nat}(h:BE H p sl ts i):pB (ba Tryz.prog LG GG) L8 (λt=> [Value.pointer (some ⟨p,0,none⟩)].getD t undef) H λaj H1=>aj 5= .agg #[.int .i64 (ay ts i).line]/\H1=H.new (BC (ay ts i)):=by
 have a:=λQ=> @V6 H p sl ts i h Q;unfold jS at a;conv in L8=>reduce
 exact rz @a;all_goals exact⟨rfl,rfl⟩
theorem amk{B:Nat}{f:aU}{args:List ae}{H:CH}{v:ae}{H':CH}(h:pX f args H v H'):CC Tryz.prog B f args H v H':=by
 obtain⟨rfl,p,sl,ts,i,rfl,o,rfl,rfl⟩:=h;refine⟨Kr,fun β w F q hv=> ?_⟩;obtain⟨n,aj,H1,r,h5,rfl⟩:=amj o;obtain⟨hl,ui⟩:=J' ami;have s:(Tryz.f139).body=some (.region 0 ni false):=by rfl
 refine callsIn_of_wp_marks Tryz.func139 s trivial ?_ rfl;have t:(Tryz.f139).ntmps=7:=by rfl
 have u:=Uk (N:=7) hv;rw[t];refine wpIn_region ?_;show wpOpsIn (Fn none) 0 Tryz.prog ni _ ([0,1,2,3]++ [4,5]) _ w;refine KT [4,5] [0,1,2,3] _ w ?_;refine J3 (uZ La n) [0,1,2,3] L8 β _ aj H _ _ w (by rw[hl];rfl) (λk h1 h2=> ?_) q u r fun β' w' a x y g z=> ?_
 ·have hk:k<(ni.toList.take 4).length:=by rw[<-hl];exact h1
  refine⟨(ni.toList.take 4)[k],?_,ui k h1 hk⟩;have G:k<4:=by simpa using h2
  obtain rfl | rfl | rfl | rfl:k=0\/k=1\/k=2\/k=3:=by omega
  all_goals rfl
 have b:a.tmps.getD 5 undef= .agg #[.int .i64 (ay ts i).line]:=by
  have:=g.2 5;rw[h5] at this;exact N8 rfl this
 have j:=g.1;show wpOpsIn (Fn none) 0 Tryz.prog ni _ [4,5] a w';have A:ni[4]? = some (ni[4]' de):=rfl;have c:ni[5]? = some (ni[5]' de):=rfl;simp only[wpOpsIn,A,c];rw[iP Rl];refine⟨λf _=>trivial,?_⟩;have d:((ni[4]' de).semAt (Fn none).round a.eval).run Tryz.prog w'= .ok (.value (nZ (ay ts i).line)) w':=by
  rw[show(Fn none).round=none from rfl,Oper.semAt_none];simp[execOp,ni,V9,Tryz.f139,Instr.makeInterface,Act.eval,b];rfl
 rw[d,Oper.uponIn_value];have e:(ni[4]' de).dst=some 6:=rfl;rw[e];have l:(a.put (some 6) (nZ (ay ts i).line)).tmps.getD 6 undef=nZ (ay ts i).line:=by
  show(a.tmps.setIfInBounds 6 _).getD 6 undef=_;rw[Array.getD_eq_getD_getElem?,Array.getElem?_setIfInBounds_self_of_lt Om];rfl
 have m:(a.put (some 6) (nZ (ay ts i).line)).defers= []:=z;generalize a.put (some 6) (nZ (ay ts i).line)=a2 at l m⊢;rw[iP Rl];refine⟨λf _=>trivial,?_⟩;have C:((ni[5]' de).semAt (Fn none).round a2.eval).run Tryz.prog w'= .halt (.panic (nZ (ay ts i).line)) w':=by
  rw[show(Fn none).round=none from rfl,Oper.semAt_none];simp[execOp,ni,V9,Tryz.f139,Instr.panic,Act.eval,l,nZ]
 rw[C,Oper.uponIn_panic];show LeavesInM _ _ _ _ _ _ a2.defers _ w';rw[m];exact⟨_,β',rfl, .iface _ (.agg rfl λi h1 h2=>by
  have:i=0:=by simpa using h1
  subst this;exact .int _ _),x,y⟩
theorem aml{Z:TP}{sl:Sl}{ts:List PT}(a:Qk Z sl ts)(hl:ts.length<=4398046510976):dB Z pX nZ ts sl:=⟨a,λi Q R hi d=>adn rfl λK sp hid vs h1 h2 h3 h4=>by
 obtain⟨p,rfl,hp,ho⟩:=adG h4;have e:vs= [.pointer (some ⟨p,0,none⟩)]:=by
  cases h3 with
  | cons g1 g2=>
    cases g2;obtain⟨l,c,f⟩:=g1.xU;have c:some p=some l:=c;cases c;rw[f]
 subst e;exact .inr ⟨0,_,_,⟨rfl,p,sl,ts,i,rfl,⟨ho,hp,hi,a.n,a.tk K λb hb=>⟨(h2 b hb).1,(h2 b hb).2.2⟩⟩,rfl,rfl⟩,mQ _,λb hb _=>bQ Om,d⟩,hl⟩
end
end Can
end Go.Proofs.YticlaccbodpkeaaGreatDoor
