/- Lex: one token; the indentation. Lex: what stands behind a row's end turns nothing in it. No program in sight. Lex: a row. Lex: the words; the program's Lex. Lex: plain laws of the rows. Lex: the program's Lex. Lex: how long the answer is; bytes; the document's Same; Lex as tokens that lie. Lex, plain: lines counted on; rows that are blank. Canonical runs: panics. Over any program. Canonical runs: regions in parts; operations that the canonical run has no words for, at their end. Over any program. Canonical runs: a function that defers a closure and is saved by it. Over any program. Runs over trees: rows as pure lists. Values, and what they stand for in a canonical memory. Over any program. Runs over trees: pure operations and reads. Over any program. Runs over trees: reads and writes. Over any program. Runs over trees: an operation. Over any program. -/
import Derived.Test.YtdfgkcoenagaaaaGreatYd
import Derived.Test.YtdfgkcoenagaaaaGreatYa
import Derived.RecoverIn
open Array renaming length_toList → Jj
open Bool renaming false_eq_true → aM
open Go renaming FuncId → bk, LeavesInM → AP, Operand → au, Program → aZ, TypeId → aH, Value → ae, World → ar
open Go.Fence renaming wide → gZ
open Go.Value renaming int → zk
open Go.World renaming putObj_heap_other → AN
open List renaming append_assoc → aG, append_nil → cp, cons_append → aS, dropWhile_cons → Jv, drop_drop → gA, drop_succ_cons → FJ, drop_zero → sg, flatMap_cons → zn, flatten_cons → uh, getD_eq_getElem?_getD → ud, getElem?_append_left → uc, getElem?_append_right → th, getElem?_cons_succ → FI, getElem?_cons_zero → Jn, getElem?_drop → se, getElem?_eq_getElem → dA, getElem?_map → ky, getElem?_reverse → Tw, getElem?_set_ne → FF, getElem?_set_self → Jg, getElem?_take_of_lt → AO, getElem_cons_zero → NA, getLast?_cons_cons → iu, length → lV, length_append → bW, length_cons → ay, length_drop → iE, length_map → lW, length_nil → aF, length_replicate → Ju, length_reverse → ug, length_set → Jw, length_singleton → Dd, length_take → nP, map_congr_left → vT, map_cons → dk, map_nil → lz, mem_append_left → vU, mem_append_right → AQ, mem_cons_of_mem → kw, mem_cons_self → np, mem_filterMap → Js, nil_append → a6, replicate → kR, size_toArray → Ny, sum_cons → qm, takeWhile_append_dropWhile → aco, take_append_drop → xu, take_append_of_le_length → Tp, take_of_length_le → qk, take_succ_cons → Jt
open Nat renaming add_assoc → jS, add_comm → CX, add_mul → oK, le_max_left → vR, le_max_right → vS, le_of_ble_eq_true → iY, le_refl → ag, le_succ → nq, le_trans → cM, lt_of_lt_of_le → ep, lt_succ_of_lt → FK, lt_succ_self → pw, mul_one → C7, zero_add → iX
open Option renaming map_eq_some_iff → jT, map_some → fm
open UInt8 renaming ofNat → al
set_option maxRecDepth 4000
set_option maxHeartbeats 2000000
set_option linter.unusedSimpArgs false
set_option linter.unusedVariables false
namespace Go.Proofs.YtdfgkcoenagaaaaGreat
namespace Can
section
open Go Go.RowKit
def P6(A K:CH)(p:Nat)(src:List UInt8)(s:RS)(vo:ae)(m:Nat)(r:Option (Nat×List UInt8×Nat)):Prop:=match r with
 | some (k,x,n)=>∃a,bH A K p src (jy { ax s n with dep:=ja s.dep k x } k s.line x) vo a m
 | none=>PS A K p src s vo m
theorem afJ{l:List UInt8}:iH l<=l.length:=by
 unfold iH;split;·rename_i g;have h1:=yE g.2;have:=uM (l:=l.drop 1);simp only[iE] at this;omega
 omega
theorem afK{l:List UInt8}:eR l<=l.length:=by
 unfold eR;have h1:=uM (l:=l.drop 1);have h2:=uM (l:=l.drop 2);simp only[iE] at h1 h2;split
 ·split;·rename_i g;have:=yE g;omega
  split;·rename_i g;have:=yE g.2;omega
  omega
 omega
theorem afL{l:List UInt8}:a8 l<=l.length:=by
 have h1:=uM (l:=l);have h2:=afJ (l:=l.drop (cq l));have h3:=afK (l:=l.drop (hC l));simp only[iE] at h2 h3;have h4:hC l=cq l+iH (l.drop (cq l)):=rfl;unfold a8;omega
theorem P7{d k:Nat}{x:List UInt8}(h:k≠9):ja d k x=d:=by
 unfold ja;rw[iN (λg=>h g.1),iN (λg=>h g.1)]
theorem P8{A K:CH}{p:Nat}{src:List UInt8}{s:RS}{vo vt:ae}{m:Nat}(h:bH A K p src s vo vt m)(hp:s.pos<src.length)(r:s.err=0)(hb:s.out.length+s.cP.length<1000000)(D:s.dep<100000) :
 bw (bj Tryz.prog LG GG) 32 [.pointer (some ⟨p,0,none⟩)] K λv K'=>P6 A K' p src s vo m (fp (src.drop s.pos)):=by
 have I:=h.sl;have i:=h.ob;have J:=h.pl;have hg:=KR hp;obtain⟨c,hc⟩ : ∃c,src[s.pos]=c:=⟨_,rfl⟩;have d:hd (src.drop s.pos)=c.toNat:=by rw[mz hp,hc]
 rw[hc] at hg;refine ij Rl Kr (br ?_);cases a:fJ c.toNat with
 | true=>
   have ht:fp (src.drop s.pos)=some (if (src.drop s.pos).take (nW ej (src.drop s.pos))∈jV then 8 else 4,(src.drop s.pos).take (nW ej (src.drop s.pos)),nW ej (src.drop s.pos)):=by
    unfold fp;rw[d,iP a]
   rw[ht];refine rn (zp @i @ia @hg @ik @a) ?_;refine(afm h hp hb).mono λt u ⟨j,h1⟩=> ?_;refine db ?_;all_goals exact⟨j,by rw[P7 (by split<;>decide)];exact h1⟩
 | false=>
   cases b:bA c.toNat with
   | true=>
     refine rn (xz @i @ia @hg @ik @a @jL @b) ?_;refine(afI h hp (by rw[d];exact b) hb).mono λt u ⟨j,h1⟩=> ?_;have w:dw (src.drop s.pos)≠9:=by unfold dw;split<;>decide
     cases o:bZ (src.drop s.pos) with
     | true=>
       have ht:fp (src.drop s.pos)=none:=by
        unfold fp;rw[d,iN (by simp[a]),iP b,iP o]
       rw[ht];unfold gJ at h1;rw[iP o,PN (show(ax s _).err=0 from r)] at h1;have G:0<a8 (src.drop s.pos):=by
        have:=vX (p:=bA) hp (by rw[d];exact b);unfold a8 hC cq;omega
       have y:s.pos+a8 (src.drop s.pos)<=src.length+4:=by
        have:=afL (l:=src.drop s.pos);simp at this;omega
       refine db ?_;all_goals exact⟨j,_,h1,rfl,rfl,rfl,rfl,by simp[jy,ax],by show s.pos<s.pos+a8 _;omega,y,rfl⟩
     | false=>
       have ht:fp (src.drop s.pos)=some (dw (src.drop s.pos),(src.drop s.pos).take (a8 (src.drop s.pos)),a8 (src.drop s.pos)):=by
        unfold fp;rw[d,iN (by simp[a]),iP b,iN (by simp[o])]
       rw[ht];unfold gJ at h1;rw[iN (by simp[o])] at h1;repeat' (first | (simp (disch:=first | omega | (decide +kernel)) only[↓RD,RU,ct]) | ((with_reducible first|apply bL|apply bM|apply bN)<;>intro _))
       all_goals exact⟨j,by rw[P7 w];exact h1⟩
   | false=>
     by_cases C:c.toNat=39\/c.toNat=34
     ·have ht:fp (src.drop s.pos)=(lX (hd (src.drop s.pos)) (src.drop (s.pos+1))).map λx=>(7,x.1,x.2+1):=by
       unfold fp;rw[d,iN (by simp[a]),iN (by simp[b]),iP C,gA]
      rw[ht];have fin : ∀K',PU A K' p src s vo m (lX (hd (src.drop s.pos)) (src.drop (s.pos+1)))->P6 A K' p src s vo m ((lX (hd (src.drop s.pos)) (src.drop (s.pos+1))).map λx=>(7,x.1,x.2+1)):=λK' g=>by
       cases hs:lX (hd (src.drop s.pos)) (src.drop (s.pos+1)) with
       | none=>rw[hs] at g;exact g
       | some x=>rw[hs] at g;obtain⟨H,g⟩:=g;exact⟨H,by rw[P7 de];exact g⟩
      have z:32<=hd (src.drop s.pos)/\hd (src.drop s.pos)≠92:=by rw[d];omega
      repeat' (first | (simp (disch:=first | omega | (decide +kernel)) only[↓RD,RU,↓cg,↓cU,↓dr,di,pop,bg,ρ0,ρ1,ρ4,↓reduceIte,Nat.reduceEqDiff,Int.reduceOfNat,reduceCtorEq,ρ5,ρ6,ρ28,ρ29,i,ia,hg,ik,a,jL,b]) | ((with_reducible first|apply bL|apply bM|apply bN)<;>intro _))
      all_goals
       refine(afr h hp r z hb).mono λt u h1=> ?_;refine db ?_;all_goals exact fin _ h1
     have ht:fp (src.drop s.pos)=(lB (src.drop s.pos)).map λn=>(9,(src.drop s.pos).take n,n):=by
      unfold fp;rw[d,iN (by simp[a]),iN (by simp[b]),iN C]
     rw[ht];refine rn (xz @i @ia @hg @ik @a @jL @b) ?_;all_goals
      refine(afG h hp r hb D).mono λt u h1=> ?_;refine db ?_;all_goals
       unfold PY at h1;cases hs:lB (src.drop s.pos) with
       | none=>rw[hs] at h1;exact h1
       | some x=>rw[hs] at h1;exact h1
theorem afM{A K:CH}{v:ae}{ns:List Nat}{n:Nat}(h:Eg A K v ns)(hA:aJ A K)(hl:ns.length<1000000){Q:ae->CH->Prop}(k : ∀v' K',Eg A K' v' (ns++ [n])->aJ A K'->K.nx<=K'.nx->(∀l,l<K.nx->(∀o n c,v≠ .slice (some ⟨l,o,none⟩) n c)->K'.ob l=K.ob l)->Q v' K') :
 G6 (qw 3 1 8 v [.int .i64 n] 1 K) Q:=by
 obtain⟨b,kd,c,os,rfl,h1,h2,h3,h4,h5,s,f,j⟩:=h;rw[Hc,h3,Hb,iN de,iP ⟨rfl,rfl,h4,Om,rfl,Om,by rw[oc];omega⟩,Ko];have a : ∀H:CH,H.nx=K.nx->(H.new (.cells (os.take (ns.length*1)++ [.int .i64 (n:Int)]) 3 .gr)).ob K.nx= .cells (os.take (ns.length*1)++ [.int .i64 (n:Int)]) 3 .gr:=λH m=>by rw[fW,iP m.symm]
 have q : ∀i,i<(ns++ [n]).length->(os.take (ns.length*1)++ [.int .i64 (n:Int)])[i]? = some (.int .i64 ((ns++ [n]).getD i 0:Nat)):=λi hi=>by
  simp only[bW,Dd] at hi;by_cases d:i<ns.length
  ·rw[uc Sq,List.getElem?_take,iP Om,j i d];simp[List.getD,uc d]
  have:i=ns.length:=by omega
  subst this;rw[th Sq];simp[List.getD,f]
 have e : ∀K':CH,K'.nx=K.nx+1->K'.ob K.nx= .cells (os.take (ns.length*1)++ [.int .i64 (n:Int)]) 3 .gr->Eg A K' (.slice (some ⟨K.nx,0,none⟩) (ns.length+1) (ns.length+1)) (ns++ [n]):=λK' t r=>
  ⟨K.nx, .gr,ns.length+1,_,s0,hA.nx,Om,r,rfl,s0,Om,Sq,q⟩
 unfold mE;split;·exact k _ _ (e _ rfl (a K rfl)) (hA.new _) (nq _) λl hl _=>by rw[fW,iN Om]
 refine k _ _ (e _ rfl (a (K.set b .dead) rfl)) ((hA.set h1 _).new _) (nq _) λl hl av=> ?_;rw[fW,iN (by show ¬l=K.nx;omega),hY,iN];rintro rfl;exact av _ _ _ rfl
theorem bH.XN{A K K':CH}{p:Nat}{src:List UInt8}{s:RS}{vo k vt:ae}{m:Nat}{ns:List Nat}(h:bH A K p src s vo vt m)(hb:s.out.length+ns.length<=1000000)(hx:aJ A K')(hn:K.nx<=K'.nx)(hg:Eg A K' k ns)(hk : ∀l,l<K.nx->(∀o n c,vo≠ .slice (some ⟨l,o,none⟩) n c)->K'.ob l=K.ob l) :
 bH A (K'.set p (.cells [.string (str src), .int .i64 s.pos, .int .i64 s.line, .int .i64 s.dep,k,vt, .map (some m), .int .i64 s.err, .int .i64 s.wh] 55 .ex)) p src { s with cP:=ns } k vt m/\K'.ob p=K.ob p:=by
 have q:=h.ob;obtain⟨b,kd,c,os,h1,h2,h3,h4,h5⟩:=h.cP;have av : ∀l,l≠b->∀o n c,vo≠ .slice (some ⟨l,o,none⟩) n c:=λl hl o n c hv=>by
  rw[h1] at hv;cases hv;exact hl rfl
 have w:p≠b:=λe=>by
  rw[<-e,q] at h4;have:=(dm.cells.inj h4).2.1;revert this;decide
 have r:m≠b:=λe=>by rw[<-e,h.mp] at h4;cases h4
 have hp:=(hk p h.pl (av p w)).trans q;have t:=(hk m h.ml (av m r)).trans h.mp;obtain⟨x,z,C,D,F,G,H,u,I⟩:=hg;have a:x≠p:=λe=>by
  rw[e,hp] at u;have:=(dm.cells.inj u).2.1;revert this;decide
 have J:m≠p:=λe=>by rw[e,hp] at t;cases t
 refine⟨⟨by rw[hY,iP rfl],ep h.pl hn,h.pa,⟨x,z,C,D,F,G,H,by rw[hY,iN a];exact u,I⟩,?_,by rw[hY,iN J];exact t,ep h.ml hn,h.ma,hx.set h.pa _,⟨h.bd.pos,h.bd.line,h.bd.dep,h.bd.err,h.bd.wh,hb⟩,h.sl⟩,hk p h.pl (av p w)⟩;rcases h.out with g | ⟨d,v,L,M,y,f,N⟩
 ·exact .inl g
 have i:d≠b:=λe=>by
  rw[e,h4] at f;have:=(dm.cells.inj f).2.1;revert this;decide
 have j:d≠p:=λe=>by
  rw[e,q] at f;have:=(dm.cells.inj f).2.1;revert this;decide
 exact .inr ⟨d,v,L,M,ep y hn,by rw[hY,iN j];exact(hk d y (av d i)).trans f,N⟩
theorem XO{n:Nat} : ∀ {st:List Nat},st.getLast? = some 0->∃k,(st.takeWhile λx=>decide (n<x)).length=k/\k<st.length/\(∀i,i<k->n<st.getD i 0)/\¬n<st.getD k 0/\(st.dropWhile λx=>decide (n<x))=st.drop k
 | [],h=>by cases h
 | a::r,h=>by
   by_cases ha:n<a
   ·cases r with
    | nil=>simp at h;omega
    | cons b r=>
      obtain⟨k,h1,h2,h3,h4,h5⟩:=XO (n:=n) (st:=b::r) (by simpa using h);refine⟨k+1,by rw[List.takeWhile_cons_of_pos (by simpa using ha)];simp[h1],by simp at h2⊢;omega,λi hi=> ?_,by simpa using h4,by rw[List.dropWhile_cons_of_pos (by simpa using ha),h5];rfl⟩;cases i with
      | zero=>exact ha
      | succ i=>simpa using h3 i Om
   exact⟨0,by rw[List.takeWhile_cons_of_neg (by simpa using ha)];rfl,s0,λi hi=>absurd hi Om,by simpa using ha,by rw[List.dropWhile_cons_of_neg (by simpa using ha)];rfl⟩
theorem afN{b n c j:Nat}(h2:j+1<=c):sm 1 (.slice (some ⟨b,0,none⟩) n c) ((0:Nat):Int) ((j:Nat)+1:Int) (c:Int) false=some (.slice (some ⟨b,0,none⟩) (j+1) c):=by
 unfold sm;simp only[aM,iF];rw[iP Om,iN Om];have a:(((j:Nat):Int)+1-((0:Nat):Int)).toNat=j+1:=by omega
 have d:((c:Int)-((0:Nat):Int)).toNat=c:=by omega
 rw[a,d];rfl
theorem afO{K:CH}{b o n c e:Nat}{os:List ae}{kd:Kd}(h:K.ob b= .cells os e kd):px K e (.slice (some ⟨b,o,none⟩) n c)=true:=by
 simp only[px,h];cases kd<;>simp
def uO (s:RS)(st:List Nat)(n:Nat):RS:=if (dZ s.line st n).2.headD 0=n then { s with out:=s.out++(dZ s.line st n).1,cP:=(dZ s.line st n).2.reverse } else { s with out:=s.out++(dZ s.line st n).1,cP:=(dZ s.line st n).2.reverse,err:=21,wh:=s.line }
theorem afP{A K:CH}{p:Nat}{src:List UInt8}{s:RS}{vo vt:ae}{m:Nat}(h:bH A K p src s vo vt m){st:List Nat}(t:s.cP=st.reverse)(hz:st.getLast? = some 0)(n:Nat)(hn:n<=100000)(h0:s.err=0)(hb:s.out.length+s.cP.length<400000) :
 bw (bj Tryz.prog LG GG) 31 [.pointer (some ⟨p,0,none⟩), .int .i64 n] K λv K'=>∃O gV,bH A K' p src (uO s st n) O gV m:=by
 have kT:=h.sl;have C:=h.ob;have eL:=h.pl;have du:=h.bd.line;have Q:s.cP.length=st.length:=by rw[t];simp
 have R:0<st.length:=by cases st with
  | nil=>cases hz
  | cons a r=>simp
 obtain⟨b,kd,c,os,D,o1,o2,S,o4,o5,o6,o7,o8⟩:=h.cP;have ek : ∀i,i<st.length->os[st.length-1-i]? = some (.int .i64 (st.getD i 0:Nat)):=λi hi=>by
  rw[o8 _ Om,t];congr 3
  simp only[ud];rw[Tw Om];congr 2;omega
 subst D;refine ij Rl Kr (br ?_);have U:=ek 0 R;have V:((s.cP.length:Nat):Int)-1=((st.length-1-0:Nat):Int):=by omega
 by_cases u:st.headD 0<n
 ·have Dk:st.getD 0 0<n:=by cases st with
   | nil=>exact u
   | cons a r=>exact u
  have x:dZ s.line st n=([⟨2,s.line,[]⟩],n::st):=by unfold dZ;rw[iP u]
  have y:aJ K (K.new (.cells [.int .i64 (n:Int)] 3 .ex)):=by(repeat (first | assumption | exact aJ.refl _ | (refine aJ.set ?_ Fo _) | (refine aJ.new ?_ _)))
  have Lg:=(h.mv y).cP;repeat' (first | (simp (disch:=first | omega | (decide +kernel)) only[↓D7,↓D8,↓G8,↓Kt,↓Ku,↓G9,↓G',↓D9,↓Kw,↓Kx,↓Ky,↓cg,↓cU,↓dr,fW,D6,Kq,↓DQ,di,rv,Pe,KB,na,pop,bg,fT,kz,isVal,Value.cells,dk,lz,fm,↓reduceIte,Nat.reduceEqDiff,Int.reduceOfNat,reduceCtorEq,Jn,FI,ay,aF,KF,Hh,PF,Jt,FJ,sg,cp,List.take_nil,List.drop_nil,Ny,List.toList_toArray,jY,Nat.reduceLeDiff,ag,BB,Pn,↓PD,Hf,iP,C7,iX,Int.toNat_natCast,and_true,C,S,V,U]) | ((with_reducible first|apply bL|apply bM|apply bN)<;>intro _))
  refine afM Lg (h.E.trans y) Om λO K2 W j2 j3 j4=> ?_;obtain⟨h2,e2⟩:=(h.mv y).XN Sq j2 j3 W j4;have fb:=e2.trans ((y.ob p eL).trans C);have Eh:=W;obtain⟨b2,yA,c2,yG,rfl,_⟩:=Eh;have Gk:(s.cP++ [n]).length=s.cP.length+1:=by simp
  rw[Gk] at h2;refine rn @fb ?_;refine(dF h2 2 s.line [] Sq).mono λv3 K3 ⟨BG,h3⟩=> ?_;refine db ?_;all_goals
   have w:uO s st n=jy { s with cP:=s.cP++ [n] } 2 s.line []:=by
    unfold uO;rw[x];show(if n=n then _ else _)=_;rw[iP rfl];simp only[List.reverse_cons,<-t];rfl
   exact⟨.slice (some ⟨b2,0,none⟩) (s.cP.length+1) c2,BG,by rw[w];exact h3⟩
 obtain⟨k,BD,Y,XR,Lh,G⟩:=XO (n:=n) hz;have x:dZ s.line st n=(kR k ⟨3,s.line,[]⟩,st.drop k):=by unfold dZ;rw[iN u,BD,G]
 have Dk : ¬st.getD 0 0<n:=by cases st with
  | nil=>exact absurd R s0
  | cons a r=>exactλg=>u (by simpa using g)
 have uP:k=0\/0<k:=by omega
 refine rn (jU @C @S @V @U) ?_;refine sE (λq fr H=>∃i o9,q=k-i/\i<=k/\fr 4= .int .i64 ((st.length-1-i:Nat):Int)/\bH A H p src { s with out:=s.out++kR i ⟨3,s.line,[]⟩ } (.slice (some ⟨b,0,none⟩) s.cP.length c) o9 m) (n:=k) ⟨0,vt,rfl,Om,by exact Ee,by simpa using h⟩ ?_;rintro q fr H ⟨i,o9,rfl,hi,f4,h1⟩ I;have z:=h1.ob;have zY:=h1.pl;obtain⟨b',uI,c',d,e',q1,q2,l,q4,q5,q6,q7,q8⟩:=h1.cP;cases e';have q7':s.cP.length<=d.length:=q7;have q5':s.cP.length<=c:=q5;have pL:b≠p:=λe=>by
  rw[e,z] at l;have:=(dm.cells.inj l).2.1;revert this;decide
 have J:d[st.length-1-i]? = some (.int .i64 (st.getD i 0:Nat)):=by
  rw[q8 _ (by show _<s.cP.length;omega)];show some (zk .i64 ((s.cP.getD (st.length-1-i) 0:Nat):Int))=_;rw[t];congr 3
  simp only[ud];rw[Tw Om];congr 2;omega
 by_cases j9:i<k
 ·have wy:=XR i j9;refine rn (zp @I @z @l @f4 @J) ?_;refine(dF h1 3 s.line [] Sq).mono λv2 K2 ⟨oV,h2⟩=> ?_;have GY:((st.length-1-i:Nat):Int)-1=((st.length-1-(i+1):Nat):Int):=by omega
  refine rn (an @f4 @GY) ?_;all_goals exact⟨_,Om,i+1,oV,rfl,Om,rfl,by
   have e:s.out++kR (i+1) (⟨3,s.line,[]⟩:c8)=(s.out++kR i ⟨3,s.line,[]⟩)++ [⟨3,s.line,[]⟩]:=by rw[List.replicate_succ',aG]
   rw[e];exact h2⟩
 have L:i=k:=by omega
 subst L;have Hx:= @afN b s.cP.length c (st.length-1-i) Om;have bK:=afO (o:=0) (n:=s.cP.length) (c:=c) l;have M:(st.drop i).reverse.length=st.length-1-i+1:=by simp;omega
 have N:Eg A H (.slice (some ⟨b,0,none⟩) (st.length-1-i+1) c) (st.drop i).reverse:=⟨b,uI,c,d,by rw[M],q1,q2,l,q4,Om,q6,Om,λj hj=>by
  rw[q8 j (by show j<s.cP.length;omega)];show some (zk .i64 ((s.cP.getD j 0:Nat):Int))=_;rw[t];congr 3
  simp only[ud];rw[Tw Om,Tw Sq,se];congr 2
  simp;omega⟩
 obtain⟨h2,_⟩:=h1.XN (ns:=(st.drop i).reverse) Sq h1.E (ag _) N (λ_ _ _=>rfl);have oX:(st.drop i).headD 0=st.getD i 0:=by
  rw[List.drop_eq_getElem_cons Y];simp[List.getD,dA Y]
 by_cases JZ:st.getD i 0=n
 ·have w:uO s st n= { s with out:=s.out++kR i ⟨3,s.line,[]⟩,cP:=(st.drop i).reverse }:=by
   unfold uO;rw[x];show(if (st.drop i).headD 0=n then _ else _)=_;rw[iP (by rw[oX];exact JZ)]
  rw[w];refine rn (zq @I @z @l @f4 @J @Hx @bK @pL) ?_;all_goals exact⟨_,_,h2⟩
 have w:uO s st n= { s with out:=s.out++kR i ⟨3,s.line,[]⟩,cP:=(st.drop i).reverse,err:=21,wh:=s.line }:=by
  unfold uO;rw[x];show(if (st.drop i).headD 0=n then _ else _)=_;rw[iN (by rw[oX];exact JZ)]
 rw[w];refine rn (zq @I @z @l @f4 @J @Hx @bK @pL) ?_;all_goals
  refine(KU h2 s.line 21 du de h0).mono λv3 K3 ⟨h3,_⟩=> ?_;refine db ?_;all_goals exact⟨_,_,h3⟩
end
section
def Nl (u:List UInt8):Prop:=u= []\/∃r,u=10::r
theorem Nl.hd{u:List UInt8}(h:Nl u):hd u=0\/hd u=10:=by
 rcases h with rfl | ⟨r,rfl⟩
 ·exact .inl rfl
 exact .inr rfl
theorem wz{t u:List UInt8}(h:Nl u):hd (t++u)=hd t\/(t= []/\hd (t++u)=10):=by
 cases t with
 | nil=>
   rcases h.hd with g | g
   ·exact .inl g
   exact .inr ⟨rfl,g⟩
 | cons c r=>exact .inl rfl
theorem uQ{α:Type}{p:Nat->α}{t u:List UInt8}(h:Nl u)(hp:p 10=p 0):p (hd (t++u))=p (hd t):=by
 rcases wz (t:=t) h with g | ⟨rfl,g⟩
 ·rw[g]
 rw[g,hp];rfl
theorem Hy{p:Nat->Bool}(hp:p 10=false) : ∀ {t u:List UInt8},Nl u->nW p (t++u)=nW p t
 | [],u,h=>by
   rcases h with rfl | ⟨r,rfl⟩
   ·rfl
   show nW p (10::r)=0;rw[nW,iN (by show ¬p 10=true;simp[hp])]
 | c::t,u,h=>by
   simp only[aS,nW];rw[Hy hp h]
theorem qy{t u:List UInt8}{j:Nat}(h:j<=t.length):(t++u).drop j=t.drop j++u:=List.drop_append_of_le_length h
theorem Hz{t u:List UInt8}(h:Nl u):cq (t++u)=cq t:=Hy de h
theorem Em{t:List UInt8}:cq t<=t.length:=tn
theorem HA{t:List UInt8}(h:hd t≠0):1<=t.length:=nR h
theorem Qa{t:List UInt8}{j:Nat}(h:bA (hd (t.drop j))=true):j+1<=t.length:=by
 have:hd (t.drop j)≠0:=λe=>by rw[e] at h;cases h
 have:=nR this;simp at this;omega
theorem XS{t u:List UInt8}(h:Nl u):iH (t++u)=iH t:=by
 unfold iH;by_cases c:hd t=46
 ·have hl:=HA (t:=t) Om;have a:hd (t++u)=46:=by
   rcases wz (t:=t) h with g | ⟨rfl,g⟩
   ·rw[g,c]
   cases c
  rw[qy hl,uQ (p:=bA) h de,Hz h,a,c]
 have a:hd (t++u)≠46:=by
  rcases wz (t:=t) h with g | ⟨rfl,g⟩
  ·rw[g];exact c
  rw[g];decide
 rw[iN (λg=>a g.1),iN (λg=>c g.1)]
theorem XT{t u:List UInt8}(h:Nl u):eR (t++u)=eR t:=by
 unfold eR;by_cases c:hd t=101
 ·have hl:=HA (t:=t) Om;have b:hd (t++u)=101:=by
   rcases wz (t:=t) h with g | ⟨rfl,g⟩
   ·rw[g,c]
   cases c
  rw[iP b,iP c,qy hl,uQ (p:=bA) h de,Hz h];have d:(hd (t.drop 1++u)=43\/hd (t.drop 1++u)=45)↔(hd (t.drop 1)=43\/hd (t.drop 1)=45):=by
   exact decide_eq_decide.1 (uQ (p:=λn=>decide (n=43\/n=45)) (t:=t.drop 1) h de)
  by_cases e:hd (t.drop 1)=43\/hd (t.drop 1)=45
  ·have f:2<=t.length:=by
    have:=HA (t:=t.drop 1) Om;simp at this;omega
   rw[qy f,uQ (p:=bA) h de,Hz h];simp only[d]
  by_cases a:bA (hd (t.drop 1))=true
  ·rw[iP a,iP a]
  rw[iN a,iN a,iN (λg=>e (d.1 g.1)),iN (λg=>e g.1)]
 have b:hd (t++u)≠101:=by
  rcases wz (t:=t) h with g | ⟨rfl,g⟩
  ·rw[g];exact c
  rw[g];decide
 rw[iN b,iN c]
theorem afT{l:List UInt8}:iH l<=l.length:=by
 unfold iH;split;·rename_i g;have h1:=Qa g.2;have:=Em (t:=l.drop 1);simp only[iE] at this;omega
 omega
theorem afU{l:List UInt8}:eR l<=l.length:=by
 unfold eR;have h1:=Em (t:=l.drop 1);have h2:=Em (t:=l.drop 2);simp only[iE] at h1 h2;split
 ·split;·rename_i g;have:=Qa g;omega
  split;·rename_i g;have:=Qa g.2;omega
  omega
 omega
theorem Qb{l:List UInt8}:hC l<=l.length:=by
 have h1:=Em (t:=l);have h2:=afT (l:=l.drop (cq l));simp only[iE] at h2;unfold hC;omega
theorem Qc{l:List UInt8}:a8 l<=l.length:=by
 have h1:=Qb (l:=l);have h3:=afU (l:=l.drop (hC l));simp only[iE] at h3;unfold a8;omega
theorem XU{t u:List UInt8}(h:Nl u):hC (t++u)=hC t:=by
 unfold hC;rw[Hz h,qy Em,XS h]
theorem XV{t u:List UInt8}(h:Nl u):a8 (t++u)=a8 t:=by
 unfold a8;rw[XU h,qy Qb,XT h]
theorem XW{t u:List UInt8}(h:Nl u):dw (t++u)=dw t:=by
 unfold dw;rw[Hz h,XU h,qy Em,qy Qb,XS h,XT h]
theorem afV{t u:List UInt8}(h:Nl u)(ht:0<t.length):bZ (t++u)=bZ t:=by
 unfold bZ;rw[XV h,XW h,qy Qc,uQ (p:=fJ) h de,uQ (p:=λn=>decide (n=46)) h de];have:hd (t++u)=hd t:=by
  rcases wz (t:=t) h with g | ⟨rfl,_⟩
  ·exact g
  simp at ht
 rw[this]
theorem afW{t u:List UInt8}(h:Nl u):ie (t++u)=ie t:=by
 unfold ie;by_cases c:hd t=120
 ·have hl:=HA (t:=t) Om;have b:hd (t++u)=120:=by
   rcases wz (t:=t) h with g | ⟨rfl,g⟩
   ·rw[g,c]
   cases c
  rw[iP b,iP c,qy hl,uQ (p:=mU) h de];by_cases a:mU (hd (t.drop 1))<16
  ·have d:2<=t.length:=by
    have:hd (t.drop 1)≠0:=λe=>by rw[e] at a;exact absurd a de
    have:=HA this;simp at this;omega
   rw[qy d,uQ (p:=mU) h de]
  rw[iN (λg=>a g.1),iN (λg=>a g.1)]
 have b:hd (t++u)≠120:=by
  rcases wz (t:=t) h with g | ⟨rfl,g⟩
  ·rw[g];exact c
  rw[g];decide
 rw[iN b,iN c,uQ (p:=FN) h de]
theorem XX{l:List UInt8}{b n:Nat}(h:ie l=some (b,n)):n<=l.length:=by
 unfold ie at h;split at h
 ·split at h
  ·rename_i g;cases h;have h2:hd (l.drop 2)≠0:=λe=>by have:=g.2;rw[e] at this;exact absurd this de
   have:=nR h2;simp at this;omega
  cases h
 split at h
 ·rename_i c g;cases h;have a:hd l≠0:=λe=>g (by rw[e];decide);exact nR a
 cases h
theorem Qd{q:Nat}(a:32<=q) : ∀ {f:Nat} {t u:List UInt8},Nl u->gM q f (t++u)=gM q f t
 | 0,_,_,_=>rfl
 | f+1,t,u,h=>by
   by_cases ht:t= []
   ·subst ht;have:hd u=0\/hd u=10:=h.hd;simp only[a6,gM];rw[iN Om,iP Om,iN (by show ¬(0=q);omega),iP (by show 0<32;decide)]
   have hl:1<=t.length:=by
    cases t with
    | nil=>exact absurd rfl ht
    | cons c r=>simp
   have he:hd (t++u)=hd t:=by
    rcases wz (t:=t) h with g | ⟨rfl,_⟩
    ·exact g
    exact absurd rfl ht
   simp only[gM];rw[he,qy hl,Qd a h,afW h];cases b:ie (t.drop 1) with
   | none=>rfl
   | some x=>
     have:=XX b;simp only[iE] at this;simp only;rw[qy Om,Qd a h]
theorem Qe{q:Nat} : ∀ {f g:Nat} {l:List UInt8},l.length<f->l.length<g->gM q f l=gM q g l
 | 0,_,_,h,_=>absurd h Om
 | _,0,_,_,h=>absurd h Om
 | f+1,g+1,l,d,hg=>by
   unfold gM;by_cases a:hd l=q
   ·rw[iP a,iP a]
   rw[iN a,iN a];by_cases b:hd l<32
   ·rw[iP b,iP b]
   rw[iN b,iN b];have hl:0<l.length:=nR Om;by_cases c:hd l=92
   ·rw[iN (by simpa using c),iN (by simpa using c)];cases ie (l.drop 1) with
    | none=>rfl
    | some x=>
      simp only;rw[Qe (f:=f) (g:=g) Sq Sq]
   rw[iP c,iP c,Qe (f:=f) (g:=g) Sq Sq]
theorem afX{q:Nat}(a:32<=q){t u:List UInt8}(h:Nl u):lX q (t++u)=lX q t:=by
 unfold lX;rw[Qd a h];exact Qe Sq Om
theorem Li{t u:List UInt8}{n:Nat}(h:n<=t.length):(t++u).take n=t.take n:=Tp h
theorem XY{t u:List UInt8}(h:Nl u){n:Nat}{S:List (List UInt8)}(b : ∀x∈S,x.length=n/\(10:UInt8)∉x):(t++u).take n∈S↔t.take n∈S:=by
 by_cases hl:n<=t.length
 ·rw[Li hl]
 have c:t.take n=t:=qk Om;constructor
 ·intro a;obtain⟨h1,h2⟩:=b _ a;rcases h with rfl | ⟨r,rfl⟩
  ·simp at h1;omega
  exact absurd (by
   rw[List.take_append,c];refine AQ _ ?_;obtain⟨k,hk⟩ : ∃k,n-t.length=k+1:=⟨n-t.length-1,Om⟩;rw[hk];simp) h2
 intro a;have:=(b _ a).1;simp at this;omega
theorem afY{t u:List UInt8}(h:Nl u):lB (t++u)=lB t:=by
 have h3 : ∀x∈S3,x.length=3/\(10:UInt8)∉x:=by decide
 have h2 : ∀x∈S2,x.length=2/\(10:UInt8)∉x:=by decide
 have h1:=uQ (p:=λn=>decide (n∈S1.map UInt8.toNat)) (t:=t) h de;have a:=decide_eq_decide.1 h1;unfold lB;simp only[XY h h3,XY h h2,a]
theorem XZ{l:List UInt8}{n:Nat}(h:lB l=some n):n<=l.length/\0<n:=by
 have h3 : ∀x∈S3,x.length=3:=by decide
 have h2 : ∀x∈S2,x.length=2:=by decide
 unfold lB at h;split at h;·rename_i g;cases h;have:=h3 _ g;simp at this;omega
 split at h;·rename_i g;cases h;have:=h2 _ g;simp at this;omega
 split at h
 ·rename_i g;cases h;have:hd l≠0:=λe=>by rw[e] at g;revert g;decide
  have:=nR this;omega
 cases h
theorem Qf{q:Nat} : ∀ {f:Nat} {l x:List UInt8} {n:Nat},32<=q->gM q f l=some (x,n)->n<=l.length
 | 0,_,_,_,_,h=>by cases h
 | f+1,l,x,n,d,h=>by
   simp only[gM] at h;split at h;·rename_i c;cases h;exact nR Om
   split at h;·cases h
   rename_i i j;have hl:0<l.length:=nR Om;split at h;·rw[jT] at h;obtain⟨⟨y,k⟩,h1,h2⟩:=h;cases h2;have:=Qf d h1;simp only[iE] at this;show k+1<=_;omega
   cases a:ie (l.drop 1) with
   | none=>rw[a] at h;cases h
   | some z=>
     obtain⟨b,e⟩:=z;rw[a] at h;simp only at h;rw[jT] at h;obtain⟨⟨y,k⟩,h1,h2⟩:=h;cases h2;have h3:=Qf d h1;have h4:=XX a;simp only[iE] at h3 h4;show k+(1+e)<=_;omega
theorem afZ{t u:List UInt8}(h:Nl u):nW ej (t++u)=nW ej t:=Hy de h
theorem Qg{t u:List UInt8}(h:Nl u)(ht:0<t.length):fp (t++u)=fp t:=by
 have he:hd (t++u)=hd t:=by
  rcases wz (t:=t) h with g | ⟨rfl,_⟩
  ·exact g
  simp at ht
 unfold fp;rw[he,afZ h,Li tn,afV h ht,XW h,XV h,Li Qc,afY h,qy ht];by_cases c:hd t=39\/hd t=34
 ·rw[iP c,iP c,afX Om h]
 rw[iN c,iN c];cases hs:lB t with
 | none=>rfl
 | some n=>
   simp only[fm];rw[Li (XZ hs).1]
theorem Lj{l:List UInt8}{k n:Nat}{x:List UInt8}(h:fp l=some (k,x,n)):0<n/\n<=l.length:=by
 unfold fp at h;split at h
 ·rename_i g;cases h;have hl:0<l.length:=nR λe=>by rw[e] at g;cases g
  have:=vX (p:=ej) (l:=l) (j:=0) hl (by simp[ej,g]);simp only[sg] at this;exact⟨Om,tn⟩
 split at h
 ·rename_i g;split at h;·cases h
  cases h;have hl:0<l.length:=nR λe=>by rw[e] at g;cases g
  have:=vX (p:=bA) (l:=l) (j:=0) hl (by simpa using g);simp only[sg] at this;refine⟨?_,Qc⟩;unfold a8 hC cq;omega
 split at h;·rename_i g;rw[jT] at h;obtain⟨⟨y,m⟩,h1,h2⟩:=h;cases h2;have hl:0<l.length:=nR Om;have:=Qf Om h1;simp only[iE] at this;show 0<m+1/\m+1<=_;omega
 rw[jT] at h;obtain⟨m,h1,h2⟩:=h;cases h2;have:=XZ h1;omega
theorem X0{t u:List UInt8}(h:Nl u):cr (t++u)=cr t:=by
 unfold cr;rw[Hy de h,qy tn,Hy (p:=λn=>decide (n≠10)) de h];have:=uQ (p:=λn=>decide (n=35)) (t:=t.drop (nW (λn=>decide (n=32)) t)) h de;simp only[decide_eq_decide.1 this]
theorem X1{t:List UInt8}:cr t<=t.length:=by
 have h1:=tn (p:=λn=>decide (n=32)) (l:=t);unfold cr;split;·have:=tn (p:=λn=>decide (n≠10)) (l:=t.drop (nW (λn=>decide (n=32)) t));simp only[iE] at this;omega
 exact h1
end
section
open Go Go.RowKit
theorem X2{d k:Nat}{x:List UInt8}:ja d k x<=d+1:=by
 unfold ja
 (repeat' split)<;>omega
theorem X3{line:Nat} : ∀ {f:Nat} {t:List UInt8} {d d':Nat} {x:List c8},jb line f t d=some (x,d')->x.length<=t.length/\d'<=d+t.length
 | 0,_,_,_,_,h=>by cases h
 | f+1,t,d,d',x,h=>by
   simp only[jb] at h;split at h;·cases h;simp
   rename_i hb;cases ht:fp (t.drop (cr t)) with
   | none=>rw[ht] at h;cases h
   | some z=>
     obtain⟨k,y,n⟩:=z;rw[ht] at h;simp only at h;rw[jT] at h;obtain⟨⟨xs,e⟩,h1,h2⟩:=h;cases h2;obtain⟨a,b⟩:=X3 h1;have c:=Lj ht;have i:= @X2 d k y;simp only[iE] at a b c;simp only[ay];omega
theorem X4{line n:Nat}{st:List Nat}:(dZ line st n).1.length+(dZ line st n).2.length<=st.length+2:=by
 unfold dZ;split;·simp;omega
 have h1:(st.takeWhile λx=>decide (n<x)).length+(st.dropWhile λx=>decide (n<x)).length=st.length:=by
  rw[<-bW,aco]
 simp only[Ju];omega
def Lk(A K:CH)(p:Nat)(src:List UInt8)(s:RS)(m:Nat)(t:List UInt8)(r:Except Nat (List c8×Nat×List Nat)):Prop:=match r with
 | .ok (x,d,aT)=>∃a b,bH A K p src { s with pos:=s.pos+t.length,dep:=d,cP:=aT.reverse,out:=s.out++x } a b m
 | .error e=>∃a b c,bH A K p src c a b m/\c.err=e/\c.wh=s.line
structure wB(s:RS)(t:List UInt8)(j f d:Nat)(ts:List c8):Prop where
 tk:jb s.line (t.length+1) t s.dep=(jb s.line f (t.drop j) d).map λy=>(ts++y.1,y.2)
 fu:t.length-j<f
 fl:f<=t.length+1
 jl:j<=t.length
 dl:d<=s.dep+j
 tl:ts.length<=j
def iB (s:RS)(ins:List c8)(a:List Nat)(j d:Nat)(ts:List c8):RS:= { s with pos:=s.pos+j,dep:=d,cP:=a,out:=s.out++ins++ts }
theorem wB.step{s:RS}{t:List UInt8}{j f d:Nat}{ts:List c8}(h:wB s t j f d ts)(b : ¬(t.drop j).length<=cr (t.drop j)){k n:Nat}{x:List UInt8}(ht:fp (t.drop (j+cr (t.drop j)))=some (k,x,n)) :
 ∃a,a<f/\wB s t (j+cr (t.drop j)+n) a (ja d k x) (ts++ [⟨k,s.line,x⟩]):=by
 obtain⟨a,rfl⟩ : ∃a,f=a+1:=⟨f-1,by have:=h.fu;omega⟩;have c:=Lj ht;simp only[iE] at c b;have i:=h.jl;have e:=h.fu;have l:=h.fl;have m:=h.dl;have o:=h.tl;have hd:= @X2 d k x;refine⟨a,pw _,⟨?_,Om,Om,Om,Om,Sq⟩⟩;rw[h.tk];simp only[jb];rw[iN Sq,gA,ht];simp only[gA,<-jS];cases jb s.line a (t.drop (j+cr (t.drop j)+n)) (ja d k x) with
 | none=>rfl
 | some y=>simp
theorem wB.bad{s:RS}{t:List UInt8}{j f d:Nat}{ts:List c8}(h:wB s t j f d ts)(b : ¬(t.drop j).length<=cr (t.drop j))(ht:fp (t.drop (j+cr (t.drop j)))=none):jb s.line (t.length+1) t s.dep=none:=by
 obtain⟨a,rfl⟩ : ∃a,f=a+1:=⟨f-1,by have:=h.fu;omega⟩;rw[h.tk];simp only[jb];rw[iN b,gA,ht];rfl
theorem wB.fin{s:RS}{t:List UInt8}{j f d:Nat}{ts:List c8}(h:wB s t j f d ts)(b:(t.drop j).length<=cr (t.drop j)):jb s.line (t.length+1) t s.dep=some (ts,d):=by
 obtain⟨a,rfl⟩ : ∃a,f=a+1:=⟨f-1,by have:=h.fu;omega⟩;rw[h.tk];simp only[jb];rw[iP b];simp
def jz (s:RS)(st:List Nat)(t:List UInt8):List c8:=if s.dep=0 then (dZ s.line st (cr t)).1 else []
def jA (s:RS)(st:List Nat)(t:List UInt8):List Nat:=if s.dep=0 then (dZ s.line st (cr t)).2 else st
theorem af0{s:RS}{ins:List c8}{b:List Nat}{j a n d:Nat}{ts:List c8}{k:Nat}{x:List UInt8}:jy { ax (iB s ins b (j+a) d ts) n with dep:=ja d k x } k s.line x=iB s ins b (j+a+n) (ja d k x) (ts++ [⟨k,s.line,x⟩]):=by
 simp only[jy,ax,iB,RS.mk.injEq,aG,and_true,true_and];omega
def X5 (A:CH)(p:Nat)(src:List UInt8)(s:RS)(m:Nat)(st:List Nat)(t:List UInt8)(n:Nat)(h:ae)(b:CH):Prop:=(n=t.length+3/\h= .bool false/\∃vo vt,bH A b p src s vo vt m)\/
    (¬t.length<=cr t/\¬(s.dep=0/\(dZ s.line st (cr t)).2.headD 0≠cr t)/\h= .bool true/\
      ((∃j f d ts c e,n=f+1/\wB s t j f d ts/\bH A b p src (iB s (jz s st t) (jA s st t).reverse j d ts) c e m)\/
       (∃a c e,n=0/\jb s.line (t.length+1) t s.dep=none/\bH A b p src a c e m/\a.err=20/\a.wh=s.line/\a.out.length+a.cP.length<400000/\a.line<=100000)))
theorem Qh{A K:CH}{p:Nat}{src:List UInt8}{s:RS}{m:Nat}{st:List Nat}{t:List UInt8}{j f d:Nat}{ts:List c8}{vo:ae}(av : ¬t.length<=cr t)(i : ¬(s.dep=0/\(dZ s.line st (cr t)).2.headD 0≠cr t))(a:wB s t j f d ts)(C:j+cr (t.drop j)<t.length)(q:s.line<=100000)(D:src.length<=20000)(hb:s.out.length+s.cP.length<200000)(r:(jz s st t).length+(jA s st t).length<=s.cP.length+2)(u:t.length<=20000)
 (h:P6 A K p src (iB s (jz s st t) (jA s st t).reverse (j+cr (t.drop j)) d ts) vo m (fp (t.drop (j+cr (t.drop j))))) : ∃n,n<f+1/\X5 A p src s m st t n (.bool true) K:=by
 have l : ¬(t.drop j).length<=cr (t.drop j):=by simp;omega
 have F:=a.tl;have G:=a.jl;cases b:fp (t.drop (j+cr (t.drop j))) with
 | none=>
   rw[b] at h;obtain⟨c,v,h1,h2,h3,h4,h5,w,H,I,y⟩:=h;refine⟨0,Om, .inr ⟨av,i,rfl, .inr ⟨v,vo,c,rfl,a.bad l b,h1,h2,h3,?_,by rw[y];exact q⟩⟩⟩;rw[h5];simp only[iB,bW,ug] at w⊢;omega
 | some z=>
   obtain⟨k,x,n⟩:=z;rw[b] at h;obtain⟨c,h1⟩:=h;obtain⟨o,J,e⟩:=a.step l b;have h2:bH A K p src (iB s (jz s st t) (jA s st t).reverse (j+cr (t.drop j)+n) (ja d k x) (ts++ [⟨k,s.line,x⟩])) vo c m:=by
    rw[<-af0];exact h1
   exact⟨o+1,Om, .inr ⟨av,i,rfl, .inl ⟨_,o,_,_,vo,c,rfl,e,h2⟩⟩⟩
theorem af2{A K:CH}{p:Nat}{src:List UInt8}{s:RS}{vo vt:ae}{m:Nat}(h:bH A K p src s vo vt m){st:List Nat}(V:s.cP=st.reverse)(hz:st.getLast? = some 0)(G:s.err=0){t u:List UInt8}(W:src.drop s.pos=t++u)(hu:Nl u)(l8 : ∀x∈t,x.toNat≠10)(JH:s.pos<=src.length)(hb:s.out.length+s.cP.length<200000)(mc:s.dep<50000) :
 bw (bj Tryz.prog LG GG) 18 [.pointer (some ⟨p,0,none⟩)] K λv K'=>Lk A K' p src s m t (gD s.line t s.dep st):=by
 have kT:=h.sl;have ap:=h.ob;have eL:=h.pl;have du:=h.bd.line;have J:src.length=s.pos+t.length+u.length:=by
  have:=congrArg lV W;simp at this;omega
 have L : ∀q,q<=t.length->src.drop (s.pos+q)=t.drop q++u:=λq i=>by rw[<-gA,W,qy i]
 have we : ∀q,q<t.length->∃c,src[s.pos+q]? = some c/\c.toNat≠10:=λq i=>by
  refine⟨t[q],?_,l8 _ (List.getElem_mem i)⟩;have:=congrArg (·[q]?) W;simp only[se] at this;rw[this,uc i,dA i]
 have gF:src.length<=s.pos+t.length\/src[s.pos+t.length]? = some 10:=by
  rcases hu with rfl | ⟨r,rfl⟩
  ·left;simp at J;omega
  right;have:=congrArg (·[t.length]?) W;simp only[se] at this;rw[this,th (ag _)];simp
 have iw:= @X4 s.line (cr t) st;have ao2:s.cP.length=st.length:=by rw[V];simp
 have af1:(jz s st t).length+(jA s st t).length<=st.length+2:=by
  unfold jz jA;split;·exact iw
  simp
 refine ij Rl Kr (br ?_);refine rn @ap ?_;refine sE (λn fr K1=>X5 A p src s m st t n (fr 4) K1) (n:=t.length+3) (.inl ⟨rfl,by repeat' (first | (simp (disch:=first | omega | (decide +kernel)) only[↓cg,↓reduceIte]) | ((with_reducible first|apply bL|apply bM|apply bN)<;>intro _)),vo,vt,h⟩) ?_;rintro n fr K1 hI b;obtain⟨v4,f4⟩ : ∃v,fr 4=v:=⟨_,rfl⟩;rw[f4] at hI;rcases hI with ⟨rfl,rfl,w,M,h1⟩ | ⟨av,bK,rfl,(⟨j,f,d,ts,w,M,rfl,N,h1⟩ | ⟨s',w,M,rfl,Hl,h1,Y,re,fC,iv⟩)⟩
 ·have I:=h1.ob;have zY:=h1.pl;repeat' (first | (simp (disch:=first | omega | (decide +kernel)) only[↓RD,RU,↓cg,↓cU,↓dr,di,pop,bg,ρ0,ρ1,↓reduceIte,reduceCtorEq,ρ5,ρ6,b,I,G]) | ((with_reducible first|apply bL|apply bM|apply bN)<;>intro _))
  refine(Xs h1 Om).mono λv2 K2 h2=> ?_;have ez:=L 0 Om;simp only[Nat.add_zero,sg] at ez;rw[ez,X0 hu] at h2;obtain⟨a,ha⟩ : ∃a,cr t=a:=⟨_,rfl⟩;have pM:=X1 (t:=t);rw[ha] at h2 pM;have l:=h2.ob;have zW:=h2.pl;have o:(ax s a).pos=s.pos+a:=rfl;have z:(ax s a).dep=s.dep:=rfl;by_cases O:t.length<=a
  ·have Qi:a=t.length:=by omega
   subst Qi;have H:gD s.line t s.dep st= .ok ([],s.dep,st):=by unfold gD;rw[iP Om]
   have C:Lk A K2 p src s m t (gD s.line t s.dep st):=by
    rw[H];refine⟨w,M,?_⟩;rw[<-V,cp];exact h2
   rcases gF with g | g
   ·repeat' (first | (simp (disch:=first | omega | (decide +kernel)) only[↓RD,RU,↓cg,↓cU,↓dr,di,pop,bg,ct,↓reduceIte,Nat.reduceEqDiff,reduceCtorEq,ρ5,ρ6,ρ28,b,l,o,z,cG,f4]) | ((with_reducible first|apply bL|apply bM|apply bN)<;>intro _))
    all_goals exact C
   repeat' (first | (simp (disch:=first | omega | (decide +kernel)) only[↓RD,RU,↓cg,↓cU,↓dr,di,pop,bg,ct,ρ4,↓reduceIte,Nat.reduceEqDiff,reduceCtorEq,ρ5,ρ6,ρ28,ρ29,b,l,o,z,cG,ia,g,f4]) | ((with_reducible first|apply bL|apply bM|apply bN)<;>intro _))
   all_goals exact C
  obtain⟨c,hc,Ll⟩:=we a Om;have Qj : ¬t.length<=cr t:=by rw[ha];exact O
  have X6:wB s t 0 (t.length+1) s.dep []:=⟨by
   simp only[sg,a6];cases jb s.line (t.length+1) t s.dep<;>rfl,Om,Om,Om,Om,s0⟩
  have X7:cr (t.drop 0)=a:=by simpa using ha
  have af3:((s.pos+a:Nat):Int)-(s.pos:Int)=(a:Int):=by omega
  by_cases y:s.dep=0
  ·refine rn (AX @b @l @o @cG @ia @hc @Ll @f4 @af3) ?_;refine(afP (s:=ax s a) h2 (st:=st) V hz a Om G (by show s.out.length+s.cP.length<_;omega)).mono λv3 K3 ⟨X8,Q,h3⟩=> ?_;have hei:jz s st t=(dZ s.line st a).1:=by unfold jz;rw[iP y,ha]
   have heo:jA s st t=(dZ s.line st a).2:=by unfold jA;rw[iP y,ha]
   by_cases Lm:(dZ s.line st a).2.headD 0=a
   ·have e:uO (ax s a) st a=iB s (jz s st t) (jA s st t).reverse a s.dep []:=by
     unfold uO;rw[iP (show(dZ (ax s a).line st a).2.headD 0=a from Lm),hei,heo];simp[iB,ax]
    rw[e] at h3;have fe:=h3.ob;have pO:=h3.pl;have iA:(iB s (jz s st t) (jA s st t).reverse a s.dep []).err=0:=G;refine rn (my @b @fe @iA) ?_;refine(P8 h3 (by show s.pos+a<_;omega) G (by simp only[iB,bW,ug,aF];omega) (by show s.dep<100000;omega)).mono λR D h5=> ?_;have S:src.drop (iB s (jz s st t) (jA s st t).reverse a s.dep []).pos=t.drop (a)++u:=L _ Om;rw[S,Qg hu Sq] at h5;refine db ?_;all_goals
     have i:=Qh (A:=A) (K:=D) (p:=p) (src:=src) (m:=m) (st:=st) (vo:=X8) Qj (λg=>g.2 (by rw[ha];exact Lm)) X6 (by rw[X7];omega) du kT hb Om Om (by rw[show 0+cr (t.drop 0)=a by omega];exact h5);obtain⟨q,yn,U⟩:=i;exact⟨q,Om,U⟩
   have e:uO (ax s a) st a= { ax s a with out:=s.out++(dZ s.line st a).1,cP:=(dZ s.line st a).2.reverse,err:=21,wh:=s.line }:=by
    unfold uO;rw[iN (show ¬(dZ (ax s a).line st a).2.headD 0=a from Lm)];rfl
   rw[e] at h3;have fe:=h3.ob;have pO:=h3.pl;have H:gD s.line t s.dep st= .error 21:=by
    unfold gD;rw[iN Qj,iP ⟨y,by rw[ha];exact Lm⟩]
   rw[H];refine rn (an @b @fe) ?_;all_goals exact⟨X8,Q,_,h3,rfl,rfl⟩
  have e:ax s a=iB s (jz s st t) (jA s st t).reverse a s.dep []:=by
   unfold jz jA;rw[iN y,iN y,<-V];simp[iB,ax]
  rw[e] at h2;refine rn (zq @b @l @o @cG @ia @hc @Ll @f4) ?_;refine(P8 h2 (by show s.pos+a<_;omega) G (by simp only[iB,bW,ug,aF];omega) (by show s.dep<100000;omega)).mono λR D h5=> ?_;have S:src.drop (iB s (jz s st t) (jA s st t).reverse a s.dep []).pos=t.drop (a)++u:=L _ Om;rw[S,Qg hu Sq] at h5;refine db ?_;all_goals
   have i:=Qh (A:=A) (K:=D) (p:=p) (src:=src) (m:=m) (st:=st) (vo:=w) Qj (λg=>y g.1) X6 (by rw[X7];omega) du kT hb Om Om (by rw[show 0+cr (t.drop 0)=a by omega];exact h5);obtain⟨q,yn,U⟩:=i;exact⟨q,Om,U⟩
 ·have I:=h1.ob;have zY:=h1.pl;have oY:(iB s (jz s st t) (jA s st t).reverse j d ts).err=0:=G;have um:=N.jl;have rA:=N.dl;have Bn:=N.tl;refine rn (my @b @I @oY) ?_;refine(Xs h1 (by show s.pos+j<=_;omega)).mono λv2 K2 h2=> ?_;have ez:src.drop (iB s (jz s st t) (jA s st t).reverse j d ts).pos=t.drop j++u:=L j um;rw[ez,X0 hu] at h2;obtain⟨a,ha⟩ : ∃a,cr (t.drop j)=a:=⟨_,rfl⟩;have pM:=X1 (t:=t.drop j);simp only[iE] at pM;rw[ha] at h2 pM;have e:ax (iB s (jz s st t) (jA s st t).reverse j d ts) a=iB s (jz s st t) (jA s st t).reverse (j+a) d ts:=by
   simp only[ax,iB,RS.mk.injEq,and_true,true_and];omega
  rw[e] at h2;have l:=h2.ob;have zW:=h2.pl;have o:(iB s (jz s st t) (jA s st t).reverse (j+a) d ts).pos=s.pos+(j+a):=rfl;have z:(iB s (jz s st t) (jA s st t).reverse (j+a) d ts).dep=d:=rfl;have Qk:(iB s (jz s st t) (jA s st t).reverse (j+a) d ts).line=s.line:=rfl;by_cases O:t.length<=j+a
  ·have Qi:j+a=t.length:=by omega
   have af4:=N.fin (by rw[ha];simp;omega);have H:gD s.line t s.dep st= .ok (jz s st t++ts++(if d=0 then [⟨1,s.line,[]⟩] else []),d,jA s st t):=by
    unfold gD;rw[iN av,iN bK,af4];rfl
   rw[H];rw[Qi] at h2 l o z Qk;by_cases y:d=0
   ·have C : ∀K3 Q,bH A K3 p src (jy (iB s (jz s st t) (jA s st t).reverse t.length d ts) 1 s.line []) w Q m->Lk A K3 p src s m t (.ok (jz s st t++ts++ [⟨1,s.line,[]⟩],d,jA s st t)):=λK3 Q g=>by
     refine⟨w,Q,?_⟩;have:(jy (iB s (jz s st t) (jA s st t).reverse t.length d ts) 1 s.line [])= { s with pos:=s.pos+t.length,dep:=d,cP:=(jA s st t).reverse,out:=s.out++(jz s st t++ts++ [⟨1,s.line,[]⟩]) }:=by simp[jy,iB]
     rw[<-this];exact g
    rw[iP y];rcases gF with g | g
    ·refine rn (xz @b @l @o @z @Qk @cG @f4) ?_;all_goals
      refine(dF h2 1 s.line [] (by simp only[iB,bW,ug,aF];omega)).mono λR D ⟨bJ,h5⟩=> ?_;repeat' (first | (simp (disch:=first | omega | (decide +kernel)) only[↓RD,RU,ct]) | ((with_reducible first|apply bL|apply bM|apply bN)<;>intro _))
      all_goals exact C _ _ h5
    repeat' (first | (simp (disch:=first | omega | (decide +kernel)) only[↓RD,RU,↓cg,↓cU,↓dr,di,pop,bg,ρ0,ρ1,ρ4,↓reduceIte,Nat.reduceEqDiff,reduceCtorEq,ρ5,ρ6,ρ28,ρ29,b,l,o,z,Qk,cG,ia,g,f4]) | ((with_reducible first|apply bL|apply bM|apply bN)<;>intro _))
    all_goals
     refine(dF h2 1 s.line [] (by simp only[iB,bW,ug,aF];omega)).mono λR D ⟨bJ,h5⟩=> ?_;refine db ?_;all_goals exact C _ _ h5
   rw[iN y,cp];have C:Lk A K2 p src s m t (.ok (jz s st t++ts,d,jA s st t)):=by
    refine⟨w,M,?_⟩;rw[<-aG];exact h2
   rcases gF with g | g
   ·repeat' (first | (simp (disch:=first | omega | (decide +kernel)) only[↓RD,RU,↓cg,↓cU,↓dr,di,pop,bg,ct,↓reduceIte,Nat.reduceEqDiff,reduceCtorEq,ρ5,ρ6,ρ28,b,l,o,z,cG]) | ((with_reducible first|apply bL|apply bM|apply bN)<;>intro _))
    all_goals exact C
   repeat' (first | (simp (disch:=first | omega | (decide +kernel)) only[↓RD,RU,↓cg,↓cU,↓dr,di,pop,bg,ct,ρ4,↓reduceIte,Nat.reduceEqDiff,reduceCtorEq,ρ5,ρ6,ρ28,ρ29,b,l,o,z,cG,ia,g]) | ((with_reducible first|apply bL|apply bM|apply bN)<;>intro _))
   all_goals exact C
  obtain⟨c,hc,Ll⟩:=we (j+a) Om;refine rn (zq @b @l @o @cG @ia @hc @Ll @f4) ?_;refine(P8 h2 (by show s.pos+(j+a)<_;omega) G (by simp only[iB,bW,ug,aF];omega) (by show d<100000;omega)).mono λR D h5=> ?_;have S:src.drop (iB s (jz s st t) (jA s st t).reverse (j+a) d ts).pos=t.drop (j+a)++u:=L _ Om;rw[S,Qg hu Sq] at h5;refine db ?_;all_goals
   have i:=Qh (A:=A) (K:=D) (p:=p) (src:=src) (m:=m) (st:=st) (vo:=w) av bK N (by rw[ha];omega) du kT hb Om Om (by rw[ha];exact h5);obtain⟨q,yn,U⟩:=i;exact⟨q,Om,U⟩
 have I:=h1.ob;have zY:=h1.pl;have H:gD s.line t s.dep st= .error 20:=by
  unfold gD;rw[iN av,iN bK,Hl]
 rw[H];by_cases y:s'.dep=0
 ·refine rn (jU @b @I @Y @f4) ?_;all_goals
   refine(dF h1 1 s'.line [] Om).mono λR D ⟨bJ,h5⟩=> ?_;refine db ?_;all_goals exact⟨w,bJ,_,h5,Y,re⟩
 refine rn (jU @b @I @Y @f4) ?_;all_goals exact⟨w,M,_,h1,Y,re⟩
def wE (ws:List (List UInt8)):Array MapEntry:=((ws.zipIdx).map λx=>({ key:= .string (str x.1),val:= .int .i64 1,born:=x.2 }:MapEntry)).toArray
theorem X9{l n:Nat}{k:List UInt8}{ws:List (List UInt8)}{H:CH}(h1:n=ws.length)(h2:ws.contains k=false):xU 1 l (.string ⟨⟨k⟩⟩) (.int .i64 1) H (.map (wE ws) n)=some (undef,H.set l (.map (wE (ws++ [k])) (n+1))):=by
 subst h1;have hk:k∉ws:=by simpa using h2
 have a:nT 1 (.string (str k)) (wE ws).toList 0=some none:=(zX (x:=k) (ws:=ws) (n:=0) (i:=0)).2 hk;have hp:(wE ws).push { key:= .string (str k),val:= .int .i64 1,born:=ws.length }=wE (ws++ [k]):=by
  apply Array.ext';simp[wE,List.zipIdx_append]
 simp only[xU,isKey,isVal,and_self,iT];rw[show(Value.string ⟨⟨k⟩⟩)= .string (str k) from rfl,a,<-hp]
theorem af5{l:Nat}{k:List UInt8}{H:CH}:xU 1 l (.string ⟨⟨k⟩⟩) (.int .i64 1) H (.map #[] 0)=some (undef,H.set l (.map (wE [k]) 1)):=X9 (ws:= []) rfl rfl
theorem af6(H:CH):bw (bj Tryz.prog LG GG) 17 [] H λv K=>v= .map (some H.nx)/\K.ob H.nx= .map zU 31/\K.nx=H.nx+1/\∀l,l<H.nx->K.ob l=H.ob l:=by
 refine ij Rl Kr (br ?_);repeat' (first | (simp (disch:=first | omega | (decide +kernel)) only[↓D7,↓D8,↓O9,↓G8,↓G9,↓G',↓D9,↓Ky,↓cg,↓jx,↓cU,↓dr,gC,AW,fW,hY,D6,Ko,Ks,↓DQ,↓OL,pop,cy,ct,jf,eV,↓reduceIte,Nat.reduceAdd,Int.reduceOfNat,aS,a6,iN,true_and,af5,X9,CH.set_set]) | ((with_reducible first|apply bL|apply bM|apply bN)<;>intro _))
 exact⟨rfl,λl hl=>by rw[iN Om]⟩
end
section
open Go Go.RowKit
theorem af7 : ∀ {l:List UInt8},eT l≠ []
 | []=>by simp[eT]
 | c::r=>by
   simp only[eT];split;·simp
   split<;>simp
theorem Eo{u:List UInt8}(hu:Nl u) : ∀ {t:List UInt8},(∀x∈t,x.toNat≠10)->eT (t++u)=t::(match u with | []=> [] | _::r=>eT r)
 | [],_=>by
   rcases hu with rfl | ⟨r,rfl⟩
   ·rfl
   simp only[a6,eT];rw[iP de]
 | c::t,h=>by
   simp only[aS,eT];rw[iN (h c s0),Eo hu (λx hx=>h x (by simp[hx]))]
def Ln (l:List UInt8):List UInt8:=l.takeWhile λx=>decide (x.toNat≠10)
def Lo (l:List UInt8):List UInt8:=l.dropWhile λx=>decide (x.toNat≠10)
theorem Ya{l:List UInt8}:l=Ln l++Lo l:=(aco).symm
theorem Yb : ∀ {l:List UInt8},∀x∈Ln l,x.toNat≠10
 | [],x,h=>by cases h
 | c::r,x,h=>by
   unfold Ln at h;rw[List.takeWhile_cons] at h;split at h
   ·rename_i hc;rcases List.mem_cons.1 h with rfl | h
    ·simpa using hc
    exact Yb x h
   cases h
theorem Yc : ∀ {l:List UInt8},Nl (Lo l)
 | []=> .inl rfl
 | c::r=>by
   unfold Lo;rw[Jv];split;·exact Yc
   rename_i hc;refine .inr ⟨r,?_⟩;have:c.toNat=10:=by simpa using hc
   rw[show c=10 from UInt8.toNat_inj.1 this]
theorem Yd{p:Nat->Bool}{a:Nat}(hp:p a=false) : ∀ {l:List Nat},l.getLast? = some a->(l.dropWhile p).getLast? = some a
 | [],h=>by cases h
 | [b],h=>by
   simp at h;subst h;simp[Jv,hp]
 | b::c::l,h=>by
   rw[Jv];split;·exact Yd hp (by simpa[iu] using h)
   exact h
theorem af8{line n:Nat}{st:List Nat}(h:st.getLast? = some 0):(dZ line st n).2.getLast? = some 0:=by
 unfold dZ;split
 ·cases st with
  | nil=>cases h
  | cons a st=>simpa[iu] using h
 exact Yd s0 h
theorem Ql{line d d':Nat}{t:List UInt8}{st aT:List Nat}{x:List c8}(h:gD line t d st= .ok (x,d',aT))(hz:st.getLast? = some 0):x.length+aT.length<=st.length+t.length+3/\d'<=d+t.length/\aT.getLast? = some 0:=by
 unfold gD at h;split at h;·cases h;refine⟨Sq,Om,hz⟩
 split at h;·cases h
 split at h;·cases h
 rename_i ts d1 ht;obtain⟨b,a⟩:=X3 ht;have c:= @X4 line (cr t) st;cases h;refine⟨?_,a,?_⟩
 ·simp only[bW];split<;>split<;>simp only[aF,ay]<;>omega
 split;·exact af8 hz
 exact hz
def uR (o:List c8):Except (Nat×Nat) (List c8×List Nat)->Except (Nat×Nat) (List c8×List Nat)
 | .ok y=> .ok (o++y.1,y.2)
 | .error e=> .error e
theorem Qm{a b:List c8}{r:Except (Nat×Nat) (List c8×List Nat)}:uR a (uR b r)=uR (a++b) r:=by
 cases r<;>simp[uR]
theorem yH{line d:Nat}{t:List UInt8}{ts:List (List UInt8)}{st:List Nat}:gE line (t::ts) d st=match gD line t d st with | .error e=> .error (line,e) | .ok (x,d',aT)=>uR x (gE (line+1) ts d' aT):=by
 simp only[gE];cases gD line t d st with
 | error e=>rfl
 | ok y=>
   obtain⟨x,d',aT⟩:=y;simp only;cases gE (line+1) ts d' aT<;>rfl
structure rG(src:List UInt8)(s:RS)(st:List Nat):Prop where
 op:s.cP=st.reverse
 z:st.getLast? = some 0
 e:s.err=0
 pl:s.pos<=src.length
 bo:s.out.length+s.cP.length<=s.pos+3*s.line+1
 bd:s.dep<=s.pos
 bl:s.line<=s.pos+1
 rows:gE 1 (eT src) 0 [0]=uR s.out (gE s.line (eT (src.drop s.pos)) s.dep st)
 rr:(eT src).length+1=s.line+(eT (src.drop s.pos)).length
theorem rG.init{src:List UInt8}:rG src ⟨0,1,0,[0],[],0,0⟩ [0]:=by
 refine⟨rfl,rfl,rfl,s0,s0,s0,s0,?_,by simp[CX]⟩;simp only[sg];cases gE 1 (eT src) 0 [0]<;>rfl
theorem rG.row{src:List UInt8}{s:RS}{st:List Nat}(h:rG src s st) : ∃t u,src.drop s.pos=t++u/\Nl u/\(∀x∈t,x.toNat≠10)/\src.length=s.pos+t.length+u.length:=
 ⟨Ln (src.drop s.pos),Lo (src.drop s.pos),Ya,Yc,Yb,by
   have h1:=congrArg lV (Ya (l:=src.drop s.pos));have h2:=h.pl;simp only[iE,bW] at h1;omega⟩
theorem rG.err{src:List UInt8}{s:RS}{st:List Nat}(h:rG src s st)(hl:src.length<=20000){t u:List UInt8}(a:src.drop s.pos=t++u)(hu:Nl u)(hn : ∀x∈t,x.toNat≠10){e:Nat}(b:gD s.line t s.dep st= .error e):gT src= .error (s.line,e):=by
 unfold gT;rw[iN Om,h.rows,a,Eo hu hn,yH,b];rfl
theorem rG.fin{src:List UInt8}{s:RS}{st:List Nat}(h:rG src s st)(hl:src.length<=20000){t:List UInt8}(a:src.drop s.pos=t++ [])(hn : ∀x∈t,x.toNat≠10){x:List c8}{d':Nat}{aT:List Nat}(b:gD s.line t s.dep st= .ok (x,d',aT)):gT src= .ok (s.out++x++tp s.line aT):=by
 have hc:=h.rr;rw[a,Eo (.inl rfl) hn] at hc;simp only[ay,aF] at hc;unfold gT;rw[iN Om,h.rows,a,Eo (.inl rfl) hn,yH,b,show(eT src).length=s.line by omega];simp[gE,uR]
theorem rG.step{src:List UInt8}{s:RS}{st:List Nat}(h:rG src s st){t r:List UInt8}(a:src.drop s.pos=t++10::r)(hn : ∀x∈t,x.toNat≠10)(b:src.length=s.pos+t.length+(r.length+1)){x:List c8}{d':Nat}{aT:List Nat}(c:gD s.line t s.dep st= .ok (x,d',aT)) :
 rG src { s with pos:=s.pos+t.length+1,line:=s.line+1,dep:=d',cP:=aT.reverse,out:=s.out++x } aT:=by
 obtain⟨j,k,d⟩:=Ql c h.z;have f:=congrArg lV h.op;have i:=h.bo;have l:=h.bd;have m:=h.bl;have hc:=h.rr;have hd:src.drop (s.pos+t.length+1)=r:=by
  rw[jS,<-gA,a];simp
 simp only[ug] at f;rw[a,Eo (.inr ⟨r,rfl⟩) hn] at hc;simp only[ay] at hc;refine⟨rfl,d,h.e,by show s.pos+t.length+1<=_;omega,by simp only[bW,ug];omega,by show d'<=s.pos+t.length+1;omega,by show s.line+1<=s.pos+t.length+1+1;omega,?_,?_⟩;·show _=uR (s.out++x) (gE (s.line+1) (eT (src.drop (s.pos+t.length+1))) d' aT);rw[hd,h.rows,a,Eo (.inr ⟨r,rfl⟩) hn,yH,c,<-Qm]
 show _=s.line+1+(eT (src.drop (s.pos+t.length+1))).length;rw[hd];omega
def mf (src:List UInt8):List Int:=src.map λc=>(c.toNat:Int)
def Qn (H:CH):ae->Option ae
 | .slice none 0 0=>some (.string .empty)
 | .slice (some ⟨l,o,none⟩) n _=>match H.ob l with
   | .cells cs _ _=>if o+n<=cs.length then (qX ((cs.drop o).take n)).map λbs=> .string ⟨bs.toArray⟩ else none
   | _=>none
 | .slice (some ⟨_,_,some _⟩) 0 _=>some (.string .empty)
 | _=>none
theorem af9{H:CH}{ev:au->ae}{x:au}:bg H ev (.b2s x)=Qn H (ev x):=rfl
theorem Ye : ∀ {src:List UInt8},qX (src.map λc=>zk .u8 (c.toNat:Int))=some src
 | []=>rfl
 | c::r=>by
   rw[dk];simp only[qX];rw[Ye];simp
theorem Yf{H:CH}{q:Option Addr}{c:Nat}{src:List UInt8}(h:gB 1 (nb .u8) H q c (mf src)):Qn H (.slice q src.length c)=some (.string (str src)):=by
 rcases h with ⟨h,rfl,rfl | rfl | rfl⟩ | ⟨l,o,os,e,kd,rfl,hl,hc,j,f,a,b⟩
 ·have:src= []:=by simpa[mf] using h
  subst this;rfl
 ·have:src= []:=by simpa[mf] using h
  subst this;rfl
 ·have:src= []:=by simpa[mf] using h
  subst this;rfl
 simp only[mf,lW,C7] at a b;simp only[Qn,f];rw[iP a];have:(os.drop o).take src.length=src.map λc=>zk .u8 (c.toNat:Int):=by
  apply List.ext_getElem;·simp;omega
  intro i h1 h2;have h3:=(b i (by simpa using h2)).1;simp only[lW] at h2;have d:((os.drop (o+i)).take 1)[0]? = some (.int .u8 (src[i].toNat:Int)):=by rw[h3];simp
  rw[AO Om,se,Nat.add_zero] at d;simp only[List.getElem_take,List.getElem_drop,List.getElem_map];exact(List.getElem?_eq_some_iff.1 d).2
 rw[this,Ye];rfl
end
section
open Go Go.RowKit
def Qo(H K:CH)(v:ae):Except (Nat×Nat) (List c8)->Prop
 | .ok ts=>∃vt,v= .tuple #[vt, .int .i64 0, .int .i64 0]/\nH H 65 3 zT K vt ts
 | .error y=>v= .tuple #[.slice none 0 0, .int .i64 y.1, .int .i64 y.2]
theorem Yg{line d e:Nat}{t:List UInt8}{st:List Nat}(h:gD line t d st= .error e):e=20\/e=21:=by
 unfold gD at h;split at h;·cases h
 split at h;·cases h;exact .inr rfl
 split at h;·cases h;exact .inl rfl
 cases h
def LxJ (H:CH)(p:Nat)(src:List UInt8)(m n:Nat)(K:CH):Prop:=∃s st vo vt,n=src.length+1-s.pos/\rG src s st/\bH H K p src s vo vt m
def LxE (H:CH)(p:Nat)(src:List UInt8)(m k:Nat)(s:RS)(vo:ae)(n:Nat)(v:ae)(K:CH):Prop:=∃i vt,n=k-i/\i<=k/\v= .int .i64 (i:Nat)/\bH H K p src { s with out:=s.out++kR i ⟨3,s.line,[]⟩ } vo vt m
theorem af'(H:CH){q:Option Addr}{c:Nat}{src:List UInt8}(h:gB 1 (nb .u8) H q c (mf src)) :
 bw (bj Tryz.prog LG GG) 10 [.slice q src.length c] H λv K=>aJ H K/\Qo H K v (gT src):=by
 refine ij Rl Kr (br ?_);by_cases hl:20000<src.length
 ·have e:gT src= .error (0,24):=by unfold gT;rw[iP hl]
  rw[e];refine db ?_;all_goals exact⟨aJ.refl _,rfl⟩
 have hb:=Yf h;repeat' (first | (simp (disch:=first | omega | (decide +kernel)) only[↓D7,↓D8,↓G8,↓Kt,↓Kv,↓G9,↓KG,↓Pu,cn,↓G',↓D9,↓Pa,↓cg,↓cU,↓dr,D6,↓DQ,↓OK,di,KB,pop,lz,↓reduceIte,Int.reduceOfNat,reduceCtorEq,Po]) | ((with_reducible first|apply bL|apply bM|apply bN)<;>intro _))
 refine(af6 H).mono λv1 m ⟨L,V,Er,W⟩=> ?_;subst L;have hx:aJ H m:=⟨Om,W⟩;have Y:=Yf (gB.iz (nb.iz _) hx h);repeat' (first | (simp (disch:=first | omega | (decide +kernel)) only[↓D7,↓O8,↓D8,↓Pp,↓Pq,↓KG,↓Pt,↓Pw,↓Px,Py,Pv,uG,uH,cn,↓D9,↓Kw,↓Kx,↓cg,↓cU,↓dr,gC,D6,Kq,di,pop,fT,kz,isVal,Value.cells,dk,lz,fm,↓reduceIte,Nat.reduceEqDiff,Nat.reduceAdd,reduceCtorEq,Jn,FI,ay,aF,KF,Pm,FJ,sg,aS,a6,cp,List.drop_nil,Ny,List.toList_toArray,jY,Nat.reduceLeDiff,ag,BB,C7,iX,and_true,af9,hb,Y]) | ((with_reducible first|apply bL|apply bM|apply bN)<;>intro _))
 obtain⟨p,hp⟩ : ∃p,m.nx+1=p:=⟨_,rfl⟩;refine sE (λn fr m=>LxJ H p src H.nx n m) (n:=src.length+1) ?_ ?_
 ·refine⟨⟨0,1,0,[0],[],0,0⟩,[0], .slice (some ⟨m.nx,0,none⟩) 1 1, .slice none 0 0,rfl,rG.init,?_⟩;have e1 : ¬m.nx=p:=by omega
  have e2 : ¬H.nx=p:=by omega
  have e3 : ¬H.nx=m.nx:=by omega
  refine⟨by simp only[fW,gC,hp,iP];rfl,by simp only[gC];omega,Om,⟨m.nx, .ex,1,[.int .i64 0],rfl,Om,by simp only[gC];omega,by simp only[fW,gC,hp,iN e1,iP],rfl,de,de,de,λi hi=> ?_⟩, .inl ⟨rfl,rfl⟩,by simp only[fW,gC,hp,iN e2,iN e3];exact V,by simp only[gC];omega,Om,(hx.new _).new _,⟨de,de,de,de,de,de⟩,Om⟩;have:i=0:=by simpa using hi
  subst this;rfl
 rintro n fr K2 ⟨⟨pos,line,dep,cP,out,err,wh⟩,st,vo,vt,rfl,j,h2⟩ w;obtain rfl:err=0:=j.e;obtain⟨t,u,C,hu,D,d⟩:=j.row;have hbo:out.length+cP.length<=pos+3*line+1:=j.bo;have nU:dep<=pos:=j.bd;have j8:line<=pos+1:=j.bl;have eL:pos<=src.length:=j.pl;have d:src.length=pos+t.length+u.length:=d;have bS:=congrArg lV j.op;have M:wh<=100000:=h2.bd.wh;simp only[ug] at bS;refine rn (an @w @hp) ?_;refine(af2 h2 j.op j.z rfl C hu D eL (by show out.length+cP.length<_;omega) (by show dep<_;omega)).mono λv3 K3 h3=> ?_;cases s:gD line t dep st with
 | error e=>
   have N:=j.err Om C hu D s;have he:=Yg s;simp only[s] at h3;obtain⟨O,G,R,h4,h5,o⟩:=h3;have o:R.wh=line:=o;rw[N];have I:=h4.ob;have kg:=h4.pl;refine rn (zp @w @hp @I @h5 @o) ?_;all_goals exact⟨h4.E,rfl⟩
 | ok y=>
   obtain⟨x,A,aT⟩:=y;simp only[s] at h3;obtain⟨O,G,h4⟩:=h3;have h4:bH H K3 p src ⟨pos+t.length,line,A,aT.reverse,out++x,0,wh⟩ O G H.nx:=h4;have I:=h4.ob;have kg:=h4.pl;obtain⟨g1,g2,g3⟩:=Ql s j.z;rcases hu with rfl | ⟨r,rfl⟩
   ·have N:gT src= .ok (out++x++tp line aT):=j.fin Om C D s;rw[N];have d:src.length=pos+t.length:=d;obtain⟨b,kd,cc,os,rfl,o2⟩:=h4.cP;have cx:0<aT.length:=by
     cases aT with
     | nil=>cases g3
     | cons a l=>simp
    repeat' (first | (simp (disch:=first | omega | (decide +kernel)) only[↓RD,RU,↓cg,↓cU,↓dr,pop,bg,↓reduceIte,Nat.reduceEqDiff,reduceCtorEq,ρ5,ρ6,ρ28,w,hp,I,cG,ug]) | ((with_reducible first|apply bL|apply bM|apply bN)<;>intro _))
    refine sE (λn fr m=>LxE H p src H.nx (aT.length-1) ⟨pos+t.length,line,A,aT.reverse,out++x,0,wh⟩ (.slice (some ⟨b,0,none⟩) aT.reverse.length cc) n (fr 60) m) (n:=aT.length-1) ⟨0,G,rfl,Om,by(repeat' (first | (simp (disch:=first | omega | (decide +kernel)) only[↓cg,↓reduceIte]) | ((with_reducible first|apply bL|apply bM|apply bN)<;>intro _));all_goals rfl),by simpa using h4⟩ ?_;rintro n aX K4 ⟨i,bJ,rfl,hi,f60,h5⟩ S;have uK:=h5.ob;have Ht:=h5.pl;repeat' (first | (simp (disch:=first | omega | (decide +kernel)) only[↓RD,RU,↓cg,↓cU,↓dr,pop,bg,ρ0,ρ1,↓reduceIte,Nat.reduceEqDiff,ρ5,ρ6,w,S,hp,uK,f60]) | ((with_reducible first|apply bL|apply bM|apply bN)<;>intro _))
    ·refine(dF h5 3 line [] (by simp only[bW,ug,Ju];omega)).mono λv6 U ⟨J,o⟩=> ?_;repeat' (first | (simp (disch:=first | omega | (decide +kernel)) only[↓RD,RU,↓cg,↓cU,↓dr,pop,↓reduceIte,Nat.reduceEqDiff,f60]) | ((with_reducible first|apply bL|apply bM|apply bN)<;>intro _))
     all_goals
      refine⟨aT.length-1-(i+1),Om,i+1,J,rfl,Om,by first | rfl | (skip;all_goals rfl),?_⟩;have e:out++x++kR (i+1) (⟨3,line,[]⟩:c8)=out++x++kR i ⟨3,line,[]⟩++ [⟨3,line,[]⟩]:=by rw[List.replicate_succ',aG];simp
      show bH H U p src ⟨pos+t.length,line,A,aT.reverse,out++x++kR (i+1) ⟨3,line,[]⟩,0,wh⟩ _ J H.nx;rw[e];exact o
    refine(dF h5 0 line [] (by simp only[bW,ug,Ju];omega)).mono λv6 U ⟨J,o⟩=> ?_;have Q:=o.ob;have ao3:=o.pl;refine rn (jU @w @S @hp @Q) ?_;all_goals
     have ei:i=aT.length-1:=by omega
     subst ei;refine⟨o.E,J,rfl,?_⟩;have e:out++x++tp line aT=out++x++kR (aT.length-1) ⟨3,line,[]⟩++ [⟨0,line,[]⟩]:=by unfold tp;rw[aG];simp
     rw[e];exact o.out
   have hS:rG src ⟨pos+t.length+1,line+1,A,aT.reverse,out++x,0,wh⟩ aT:=j.step C D d s;simp only[ay] at d;refine rn (jU @w @hp @I @cG) ?_;all_goals
    refine⟨src.length+1-(pos+t.length+1),Om,_,aT,O,G,rfl,hS,?_⟩;exact bH.set h4 (s':=⟨pos+t.length+1,line+1,A,aT.reverse,out++x,0,wh⟩) rfl rfl ⟨by show pos+t.length+1<=_;omega,by show line+1<=_;omega,by show A<=_;omega,by show 0<=_;omega,M,by simp only[bW,ug];omega⟩
theorem Qp : ∀ {ts:List (List UInt8)} {line d:Nat} {st aT:List Nat} {x:List c8},gE line ts d st= .ok (x,aT)->st.getLast? = some 0->x.length+aT.length<=st.length+(ts.map lV).sum+3*ts.length
 | [],line,d,st,aT,x,h,_=>by cases h;simp
 | t::ts,line,d,st,aT,x,h,hz=>by
   rw[yH] at h;cases c:gD line t d st with
   | error e=>rw[c] at h;cases h
   | ok y=>
     obtain⟨a,d1,aQ⟩:=y;rw[c] at h;simp only at h;cases hw:gE (line+1) ts d1 aQ with
     | error e=>rw[hw] at h;cases h
     | ok z=>
       obtain⟨b,i⟩:=z;rw[hw] at h;cases h;obtain⟨j,k,f⟩:=Ql c hz;have:=Qp hw f;simp only[bW,dk,qm,ay];omega
theorem HC : ∀ {src:List UInt8},((eT src).map lV).sum+(eT src).length=src.length+1
 | []=>rfl
 | c::r=>by
   have e:=HC (src:=r);simp only[eT];split;·simp only[dk,qm,ay,aF];omega
   split;·rename_i a b d;rw[d] at e;simp only[dk,qm,ay] at e⊢;omega
   rename_i d;exact absurd d af7
theorem Yh{src:List UInt8}{ts:List c8}(h:gT src= .ok ts):ts.length<=100000:=by
 unfold gT at h;split at h;·cases h
 cases a:gE 1 (eT src) 0 [0] with
 | error e=>rw[a] at h;cases h
 | ok y=>
   obtain⟨x,st⟩:=y;rw[a] at h;cases h;have h1:=Qp a rfl;have h2:=HC (src:=src);simp only[tp,bW,Ju,ay,aF] at h1⊢;omega
theorem agb{x:Int}(h:(Lit.int .u8 x).wf=true):((x.toNat.toUInt8).toNat:Int)=x:=by
 have:=bounds_u8 h;have h1:x.toNat.toUInt8.toNat=x.toNat % 256:=by simp
 omega
theorem agc{H:CH}{q:Option Addr}{c:Nat}{xs:List Int}(h:gB 1 (nb .u8) H q c xs) : ∃src,xs=mf src:=by
 refine⟨xs.map λx=>x.toNat.toUInt8,?_⟩;have hw : ∀x∈xs,(Lit.int .u8 x).wf=true:=by
  rcases h with ⟨rfl,_⟩ | ⟨l,o,os,e,kd,_,_,_,_,_,_,a⟩
  ·intro x hx;cases hx
  intro x hx;obtain⟨i,hi,rfl⟩:=List.getElem_of_mem hx;exact(a i hi).2
 clear h;induction xs with
 | nil=>rfl
 | cons x xs b=>
   simp only[mf,dk];rw[agb (hw x s0)];congr 1
   exact b λy d=>hw y (by simp[d])
theorem HD{src:List UInt8}:(mf src).length=src.length:=by simp[mf]
end
section
theorem agd{k:Nat}{r:List UInt8}(a:hd r≠32):nW (λn=>decide (n=32)) (kR k (al 32)++r)=k:=by
 induction k with
 | zero=>exact xC (.inr (by simpa using a))
 | succ k b=>
   rw[List.replicate_succ,aS];show(if decide ((al 32).toNat=32)=true then _ else _)=_;rw[iP de,b]
theorem age{line d:Nat}{t:List UInt8}{st:List Nat}(h:t.length<=cr t):gD line t d st= .ok ([],d,st):=by
 unfold gD;rw[iP h]
theorem agf{line d:Nat}{t:List UInt8}{ts:List (List UInt8)}{st:List Nat}(h:t.length<=cr t):gE line (t::ts) d st=gE (line+1) ts d st:=by
 have a : ∀r,uR [] r=r:=λr=>by cases r<;>rfl
 rw[yH,age h];exact a _
theorem agh : ∀ {src:List UInt8},eT src≠ []
 | []=>by simp[eT]
 | c::r=>by
   simp only[eT];split;·simp
   split<;>simp
theorem Yi{more:List UInt8} : ∀ {src:List UInt8},eT (src++al 10::more)=eT src++eT more
 | []=>by
   show(if (al 10).toNat=10 then _ else _)=_;rw[iP de];rfl
 | c::r=>by
   rw[aS];simp only[eT];rw[Yi (src:=r)];split;·rfl
   cases h:eT r with
   | nil=>exact absurd h agh
   | cons a b=>rfl
theorem Yj : ∀ {t:List UInt8},(∀x∈t,x.toNat≠10)->eT t= [t]
 | [],_=>rfl
 | c::r,h=>by
   simp only[eT];rw[iN (h c s0),Yj λx hx=>h x (by simp[hx])]
theorem Yk : ∀ {ts:List (List UInt8)} {line d:Nat} {st:List Nat} {e:Nat×Nat},gE line ts d st= .error e->line<=e.1/\(e.2=20\/e.2=21)
 | [],line,d,st,e,h=>by cases h
 | t::ts,line,d,st,e,h=>by
   rw[yH] at h;cases a:gD line t d st with
   | error e'=>rw[a] at h;cases h;exact⟨ag _,Yg a⟩
   | ok y=>
     obtain⟨x,b,aT⟩:=y;rw[a] at h;simp only at h;cases hs:gE (line+1) ts b aT with
     | error c=>
       rw[hs] at h;cases h;have:=Yk hs;omega
     | ok z=>rw[hs] at h;cases h
theorem Yl{src:List UInt8}{e:Nat×Nat}(hl:src.length<=20000)(h:gT src= .error e):1<=e.1/\(e.2=20\/e.2=21):=by
 unfold gT at h;rw[iN Om] at h;cases a:gE 1 (eT src) 0 [0] with
 | error e'=>rw[a] at h;cases h;exact Yk a
 | ok y=>rw[a] at h;cases h
end
section
open Go Go.RowKit
variable {P:aZ} {B:Nat}
abbrev ce:=bk->List ae->CH->ae->CH->Prop
inductive mK(T:cF)(PC:ce):bP->Fr->CH->ae->CH->Prop where
 | gG {A R:List Item} {k:Item} {f:bk} {args:List au} {fr aj:Fr} {H H1 H':CH} {v:ae} (hn : ∃n,c7 (da T n) A fr H=some (aj,H1)) (hw:ec aj k.guard=some true) (hk:k.op= .call f args) (hp:PC f (args.map (aO aj)) H1 v H'):mK T PC (.gG (A++k::R)) fr H v H'
 | lF {d:je} {A R:List Item} {k:Item} {f:bk} {args:List au} {fr aj:Fr} {H H1 H':CH} {v:ae} {Zl:List Item} (hi:d.af=A++k::R) (hd:d.wi=some Zl) (hA : ∀x∈A,oT x.op=true) (hn : ∃n,c7 (da T n) A fr H=some (aj,H1)) (hz : ∃n r,c7 (da T n) Zl aj H1=some r) (hw:ec aj k.guard=some true) (hk:k.op= .call f args) (hp:PC f (args.map (aO aj)) H1 v H'):mK T PC (.lF d) fr H v H'
 | seq1 {a b:bP} {fr:Fr} {H H':CH} {v:ae} (h:mK T PC a fr H v H'):mK T PC (.seq a b) fr H v H'
 | Ym {a b:bP} {fr aj:Fr} {H H1 H':CH} {v:ae} (hn : ∃n,bG (da T n) n a fr H=some (.normal,aj,H1)) (h:mK T PC b aj H1 v H'):mK T PC (.seq a b) fr H v H'
 | cond_t {c:au} {a b:bP} {fr:Fr} {H H':CH} {v:ae} (hc:aO fr c= .bool true) (h:mK T PC a fr H v H'):mK T PC (.cond c a b) fr H v H'
 | cond_f {c:au} {a b:bP} {fr:Fr} {H H':CH} {v:ae} (hc:aO fr c= .bool false) (h:mK T PC b fr H v H'):mK T PC (.cond c a b) fr H v H'
 | block {id:Nat} {c:bP} {fr:Fr} {H H':CH} {v:ae} (h:mK T PC c fr H v H'):mK T PC (.block id c) fr H v H'
 | Yn {c:bP} {fr:Fr} {H H':CH} {v:ae} (h:mK T PC c fr H v H'):mK T PC (.loop c) fr H v H'
 | Yo {c:bP} {fr aj:Fr} {H H1 H':CH} {v:ae} (hn : ∃n,bG (da T n) n c fr H=some (.normal,aj,H1)) (h:mK T PC (.loop c) aj H1 v H'):mK T PC (.loop c) fr H v H'
def Qq(T:cF)(PC:ce)(c:bP)(v:ae)(H':CH):Nat->Fr->CH->Prop
 | 0,fr,H=>mK T PC c fr H v H'
 | m+1,fr,H=>∃n aj H1,bG (da T n) n c fr H=some (.normal,aj,H1)/\Qq T PC c v H' m aj H1
theorem agi{T:cF}{PC:ce}{r:bP}{fr:Fr}{H H':CH}{v:ae}(h:mK T PC r fr H v H') : ∀c,r= .loop c->∃m,Qq T PC c v H' m fr H:=by
 induction h with
 | Yn h=>intro c e;cases e;exact⟨0,h⟩
 | Yo hn h a=>
   intro c e;cases e;obtain⟨m,b⟩:=a _ rfl;obtain⟨n,hn⟩:=hn;exact⟨m+1,n,_,_,hn,b⟩
 | _=>intro c e;cases e
theorem agj{it:Item}{A:List Item}{t:Nat}(h:t∈nc A):t∈nc (it::A):=by
 simp only[nc,Js] at h⊢;obtain⟨x,hx,hd⟩:=h;exact⟨x,kw _ hx,hd⟩
theorem agk{it:Item}{A:List Item}{t:Nat}(h:it.dst=some t):t∈nc (it::A):=by
 simp only[nc,Js];exact⟨it,np ..,h⟩
theorem agl{A R:List Item}{t:Nat}(h:t∈nc A):t∈nc (A++R):=by
 simp only[nc,Js] at h⊢;obtain⟨x,hx,hd⟩:=h;exact⟨x,vU _ hx,hd⟩
theorem agm{A:List Item}{t:Nat}(h:t∉nc A) : ∀x∈A,x.dst≠some t:=λx hx e=>h (by
 simp only[nc,Js];exact⟨x,hx,e⟩)
theorem Yp{h:Hd}(hh:HS P B h){ro:Option Nat}{N:Nat}{ops:Array Oper}{Q:Exit->Act->ar->Prop}{k:Item}{f:bk}{args:List au}{v:ae}{H':CH} : ∀(l:List Nat) (A R:List Item) (β:Nat->aB) (fr aj:Fr) (H H1:CH) (a:Act) (w:ar),
 (A++k::R).length=l.length->(∀j (h1:j<(A++k::R).length) (h2:j<l.length),∃o,ops[l[j]]? = some o/\uu P N ops o (A++k::R)[j])->aN P B β H w->FR β N fr a->c7 h A fr H=some (aj,H1)->ec aj k.guard=some true->k.op= .call f args->zE P B f (args.map (aO aj)) H1 v H'->
 (∀β' w' a' v',aN P B β' H' w'->bD β w β' w'->VR β' v v'->a'.defers=a.defers->(∀t,t∉nc A->VR β' (fr t) (a'.tmps.getD t undef))->Q (.panic [{ v:=v',recovered:=false }]) a' w')->wpOpsIn (Fn ro) 0 P ops Q l a w
 | [],A,R,β,fr,aj,H,H1,a,w,hl,_,_,_,_,_,_,_,_=>by simp at hl
 | i::l,[],R,β,fr,aj,H,H1,a,w,hl,z,C,n,d,hw,hk,hp,D=>by
   simp only[c7,Option.some.injEq,Prod.mk.injEq] at d;obtain⟨rfl,rfl⟩:=d;obtain⟨o,ho,c⟩:=z 0 s0 s0;simp only[a6,NA] at ho c;simp only[wpOpsIn,ho];rw[Bi c n hw];simp only[iT];refine⟨λf _=>trivial,?_⟩;rw[show(Fn ro).round=ro from rfl,Oper.semAt_eq ro _ _ c.nodefer];have F:=c.op;rw[hk] at F;generalize G:o.op=io at F;cases F with
   | @call f args ts he=>
     rw[he] at G;have hv : ∀x∈o.op.operands,VR β (aO fr x) (a.eval x):=λx hx=>zB n (c.bB x hx);have V:aW β (args.toList.map (aO fr)) (args.toList.map a.eval):=by
      refine⟨s0,λj u hu=> ?_⟩;rw[ky] at hu⊢
      cases hx:args.toList[j]? with
      | none=>rw[hx] at hu;cases hu
      | some x=>
        rw[hx] at hu;cases hu;exact⟨_,rfl,hv x (by rw[G];simp[Op.operands,Call.operands];exact .inr (by have:=List.mem_of_getElem? hx;simpa using this))⟩
     have W:(execOp a.eval o).run P w= .ok (.enter f (args.map a.eval)) w:=by
      simp only[execOp,G,resolve,Act.eval,Deferred.ofValue,Sem.run_bind,Sem.run_pure,Result.andThen_ok,invoke];rw[Bh hp.1];simp
     rw[W];refine⟨λh=>absurd h (by simp[Fn,gZ]),Gn ?_⟩;have:=hp.2 β w _ C V;have Y:(args.toList.map a.eval).toArray=args.map a.eval:=by apply Array.ext';simp
     rw[Y] at this;refine this.mono ?_;rintro e w' ⟨v',β',rfl,g1,g2,O⟩;exact D β' w' _ v' g2 O g1 rfl λt _=>(n.2 t).mono O.ext
 | i::l,it::A,R,β,fr,fr',H,H1,a,w,hl,z,C,n,d,I,hk,hp,D=>by
   obtain⟨o,ho,c⟩:=z 0 s0 s0;simp only[aS,NA] at ho c;have S : ∀(β1:Nat->aB) (aj:Fr) (s:CH) (y:Act) (q:ar),aN P B β1 s q->bD β w β1 q->FR β1 N aj y->y.defers=a.defers->(∀t,t∉nc (it::A)->aj t=fr t)->c7 h A aj s=some (fr',H1)->wpOpsIn (Fn ro) 0 P ops Q l y q:=by
    intro β1 aj s y q Ok JX nB fq BD Ol;refine Yp hh l A R β1 aj fr' s H1 y q (by simpa using hl) (λj h1 h2=> ?_) Ok nB Ol I hk hp fun β' w' a' v' J L M q4 q5=>D β' w' a' v' J (JX.trans L) M (q4.trans fq) λt ht=>by
     rw[<-BD t ht];exact q5 t λh=>ht (agj h)
    have:=z (j+1) (by simpa using h1) (by simpa using h2);simpa using this
   simp only[c7] at d;simp only[wpOpsIn,ho];cases m:cA h it fr H with
   | none=>rw[m] at d;cases d
   | some r=>
     obtain⟨aj,s⟩:=r;rw[m] at d;simp only at d;have U : ∀t,t∉nc (it::A)->aj t=fr t:=λt ht=>W8 m λe=>ht (agk e);cases hw:ec fr it.guard with
     | none=>simp[cA,hw] at m
     | some b=>
       rw[Bi c n hw];cases b with
       | true=>
         simp only[iT];simp only[cA,hw] at m;exact JT hh c C n hw m fun β1 q v1 J L M=>S β1 aj s _ q J L M (by cases o.dst<;>rfl) U d
       | false=>
         simp only[aM,iF];simp only[cA,hw,Option.some.injEq,Prod.mk.injEq] at m;obtain⟨rfl,rfl⟩:=m;refine⟨λ_ _=>trivial,S β _ _ _ w C (bD.refl β w) ?_ (by cases o.dst<;>rfl) U d⟩;rw[<-c.dst];exact n.put (λx hx=>c.lt x (by rw[<-c.dst];exact hx)) .skip
theorem Yr{T:cF}(J:uy P B T){PC:ce}(U : ∀f args H v H',PC f args H v H'->zE P B f args H v H'){ro:Option Nat}{N B1:Nat}{D0:List Deferred}{c:Code}{r:bP}(bK:jI P N c r) : ∀(β:Nat->aB) (fr:Fr) (H H':CH) (v:ae) (a:Act) (w:ar) (Q:Exit->Act->ar->Prop),
 aN P B β H w->FR β N fr a->DF β ro->DM D0 B1 β w a->B1<=w.heap.size->mK T PC r fr H v H'->
 (∀β' w' a' v',aN P B β' H' w'->bD β w β' w'->VR β' v v'->DM D0 B1 β' w' a'->(∀t,t∉pK r->VR β' (fr t) (a'.tmps.getD t undef))->Q (.panic [{ v:=v',recovered:=false }]) a' w')->c.wpIn (Fn ro) 0 P Q a w:=by
 induction bK with
 | bad=>intro β fr H H' v a w Q o i p q s b u;cases b
 | skip=>intro β fr H H' v a w Q o i p q s b u;cases b
 | label=>intro β fr H H' v a w Q o i p q s b u;cases b
 | exit=>intro β fr H H' v a w Q o i p q s b u;cases b
 | ret=>intro β fr H H' v a w Q o i p q s b u;cases b
 | rh hg hk=>intro β fr H H' v a w Q o i p q s b u;cases b
 | scope hc I=>
   intro β fr H H' v a w Q o i p q s b u;exact On (I β fr H H' v a w _ o i p q s b fun β' w' a' v' y x z C D=>⟨λl e=>(by cases e),u β' w' a' v' y x z C D⟩)
 | @gG id ops af hl hi=>
   intro β fr H H' v a w Q o i p q s b u;cases b with
   | @gG A R k f args _ aj _ H1 _ _ hn hw hk hp=>
     obtain⟨n,hn⟩:=hn;refine wpIn_region (Yp (sw J n) _ A R β fr aj H H1 a w (by simpa using hl) (λj h1 h2=> ?_) o i hn hw hk (U _ _ _ _ _ hp) fun β' w' a' v' y x z C D=>u β' w' a' v' y x z (q.kC x C) λt ht=>D t λh=>ht (agl h));have V:j<ops.size:=by omega
     exact⟨ops[j],by simp[V],hi j h1 V⟩
 | @lF id ops d hd=>
   intro β fr H H' v a w Q o i p q s b u;cases b with
   | @lF _ A R k f args _ aj _ H1 _ _ Zl rm hp hA hn hz hw hk L=>
     obtain⟨n,hn⟩:=hn;obtain⟨m,r,hz⟩:=hz;exact hd.2 Zl hp B _ ro β fr aj H H1 H' v A k R f args a w id Q (sw J (max n m)) o i rm hA hk (DP (pI (vR ..)) hn) ⟨r,DP (pI (vS ..)) hz⟩ hw (U _ _ _ _ _ L) fun β' w' a' v' y x z C D=>u β' w' a' v' y x z (q.kC x C) λt ht=>D t (agm ht)
 | @seq ca cb ra rb ha hb M O=>
   intro β fr H H' v a w Q o i p q s b u;cases b with
   | seq1 h=>exact wpIn_seq (M β fr H H' v a w _ o i p q s h fun β' w' a' v' y x z C D=>u β' w' a' v' y x z C λt ht=>D t λh=>ht (vU _ h))
   | @Ym _ _ _ aj _ H1 _ _ hn h=>
     obtain⟨n,hn⟩:=hn;refine wpIn_seq (DJ (sw J n) ha β fr aj H H1 a w .normal _ o i p q s hn fun β' w' a' y x z C=> ?_);exact O β' aj H1 H' v a' w' Q y z (p.kC x.ext) C (cM s x.size) h fun β2 w2 a2 v' p1 p2 p3 p4 p5=>u β2 w2 a2 v' p1 (x.trans p2) p3 p4 λt ht=>by
      rw[<-PA (t:=t) hn λh=>ht (vU _ h)];exact p5 t λh=>ht (AQ _ h)
 | @cond c ca cb ra rb hc ha hb M O=>
   intro β fr H H' v a w Q o i p q s b u;have hv:=zB i hc;cases b with
   | cond_t e h=>rw[e] at hv;exact wpIn_cond_true hv.xM (M β fr H H' v a w Q o i p q s h fun β' w' a' v' y x z C D=>u β' w' a' v' y x z C λt ht=>D t λh=>ht (vU _ h))
   | cond_f e h=>rw[e] at hv;exact wpIn_cond_false hv.xM (O β fr H H' v a w Q o i p q s h fun β' w' a' v' y x z C D=>u β' w' a' v' y x z C λt ht=>D t λh=>ht (AQ _ h))
 | @block id c rc hc I=>
   intro β fr H H' v a w Q o i p q s b u;cases b with
   | block h=>exact wpIn_block (I β fr H H' v a w _ o i p q s h u)
 | @loop c rc hc I=>
   intro β0 W H0 H' v a0 w0 Q Oo Bj p q s ur u;obtain⟨m0,mC⟩:=agi ur _ rfl;let F:Nat->Act->ar->Prop:=λm a w=>∃β fr H,aN P B β H w/\bD β0 w0 β w/\FR β N fr a/\DM D0 B1 β w a/\(∀t,t∉pK rc->fr t=W t)/\Qq T PC rc v H' m fr H
   classical
   refine wpIn_loop (λa w=>∃m,F m a w) (λa w=>if g : ∃m,F m a w then DG g else 0) ⟨m0,β0,W,H0,Oo,bD.refl β0 w0,Bj,q,λ_ _=>rfl,mC⟩ λa w S=> ?_;have Y:=UN S;rw[dif_pos S];generalize hm:DG S=m at Y;obtain⟨β,fr,H,o,G,i,hd,uP,b⟩:=Y;cases m with
   | zero=>exact I β fr H H' v a w _ o i (p.kC G.ext) hd (cM s G.size) b fun β' w' a' v' y x z C D=>u β' w' a' v' y (G.trans x) z C λt ht=>(by rw[<-uP t ht];exact D t ht)
   | succ m=>
     obtain⟨n,aj,H1,hn,b⟩:=b;refine DJ (sw J n) hc β fr aj H H1 a w .normal _ o i (p.kC G.ext) hd (cM s G.size) hn fun β' w' a' y x z C=> ?_;have nS:F m a' w':=⟨β',aj,H1,y,G.trans x,z,C,(λt ht=>(PA hn ht).trans (uP t ht)),b⟩;have hex : ∃m,F m a' w':=⟨m,nS⟩;refine⟨hex,?_⟩;rw[dif_pos hex];have:=UO hex nS;omega
theorem Yt{fn:Func}{tmps:Array ae}{R:Ending->ar->Prop}{B1:Nat}{β0 β:Nat->aB}{w0:ar}{H:CH}{v:ae} : ∀(ms:List Nat) (w:ar),aN P B β H w->bD β0 w0 β w->w0.heap.size<=B1->ms.Nodup->(∀D∈ms,B1<=D/\w.heap[D]? = some (.deferred (some [])))->
 (∀w',aN P B β H w'->bD β0 w0 β w'->R (.panicked [{ v:=v,recovered:=false }]) w')->AP gZ 0 P fn tmps R (ms.map JW) (.panicking [{ v:=v,recovered:=false }]) w
 | [],w,c,a,f,hn,d,e=>e w c a
 | D::ms,w,c,a,f,hn,d,e=>by
   obtain⟨h1,h2⟩:=d D (np ..);have n:=(Array.getElem?_eq_some_iff.1 h2).1;refine⟨s0, .inl ⟨D,w.putObj D (.deferred none),rfl,run_takeDeferred h2,?_⟩⟩;refine Yt ms _ (c.Ou (o':= .deferred none) h2 ⟨λ_ _ _=>by simp,λ_ _=>by simp,λ_=>by simp,λ_ _=>by simp,λ_ _ _ _=>by simp⟩) ?_ f (List.nodup_cons.1 hn).2 (λj i=> ?_) e
   ·exact⟨a.os,a.tape,a.output,by simpa using a.size,λb hb ho=>by
     obtain⟨k1,k⟩:=a.cX b hb ho;exact⟨(AN Om).trans k1,k⟩,a.ext⟩
   obtain⟨l,m⟩:=d j (kw _ i);refine⟨l,(AN ?_).trans m⟩;rintro rfl;exact(List.nodup_cons.1 hn).1 i
def BI (T:cF)(X:ce):Nat->ce
 | 0=>X
 | n+1=>λf args H v H'=>X f args H v H'\/(T.ext f=false/\∃rf,T.fn f=some rf/\mK T (BI T X n) rf.body (λt=>args.getD t undef) H v H')
theorem Qr{β:Nat->aB}{N:Nat}{args a:List ae}(c:aW β args a):FR β N (λt=>args.getD t undef) { tmps:=a.toArray++Array.replicate (N-a.toArray.size) undef,defers:= [] }:=by
 refine⟨Sq,λt=> ?_⟩;simp only[List.getD,Array.getD_eq_getD_getElem?];by_cases ht:t<a.length
 ·have b:t<args.length:=by have:=c.1;omega
  obtain⟨v',h1,h2⟩:=c.2 t args[t] (by simp[b]);rw[Array.getElem?_append_left (by simpa using ht)];simp only[List.getElem?_toArray,h1,Option.getD_some,dA b];exact h2
 have b:args.length<=t:=by have:=c.1;omega
 rw[List.getElem?_eq_none b];exact .undef _
theorem Yu{T:cF}(a:uy P B T){X:ce}(d : ∀f args H v H',X f args H v H'->zE P B f args H v H') : ∀n f args H v H',BI T X n f args H v H'->zE P B f args H v H'
 | 0=>d
 | n+1=>λf args H v H' h=>by
   have o:=Yu a d n;rcases h with h | ⟨_,rf,p,h⟩
   ·exact d _ _ _ _ _ h
   have e:=a.fn f rf p;obtain⟨fn,c,q,r,i,s,J⟩:=e.ok;refine⟨e.call,fun β w L t u=> ?_⟩;refine callsIn_of_wp_marks q r trivial ?_ rfl;have j:=Qr (N:=fn.ntmps) u;rw[i] at j;rw[i];refine Yr (ro:=none) (B1:=w.heap.size) (D0:= []) a o s β _ H H' v _ w _ t j (λb hb=>by cases hb) (DM.none rfl) (ag _) h fun β' w' k v' x y z A _=> ?_;obtain⟨ms,C,F,l⟩:=A;show AP gZ 0 P fn k.tmps _ k.defers (.panicking [{ v:=v',recovered:=false }]) w';rw[C,cp];exact Yt ms w' x y (ag _) F (λD m=>⟨(l D m).1,(l D m).2.1⟩) λM G I=>⟨v',β',rfl,z,G,I⟩
variable {T:cF} {X:ce}
def BJ (T:cF)(X:ce)(f:bk)(args:List ae)(H:CH)(Q R:ae->CH->Prop):Prop:=bw T f args H Q\/∃n v H',BI T X n f args H v H'/\R v H'
def Yv (T:cF)(X:ce)(fr:Fr)(H:CH)(o:fF)(Q R:ae->CH->Prop):Prop:=lH T fr H o Q\/∃f args,o= .call f args/\∃n v H',BI T X n f (args.map (aO fr)) H v H'/\R v H'
def mg (T:cF)(X:ce)(c:bP)(fr:Fr)(H:CH)(Q:bQ->Fr->CH->Prop)(R:ae->CH->Prop):Prop:=dx T c fr H Q\/∃n v H',mK T (BI T X n) c fr H v H'/\R v H'
def HE (T:cF)(X:ce)(n:Nat)(q:Option (List Item))(af:List Item)(fr:Fr)(H:CH)(v:ae)(H':CH):Prop:=∃A k a f args aj H1,af=A++k::a/\(∀Zl,q=some Zl->(∀x∈A,oT x.op=true)/\∃n r,c7 (da T n) Zl aj H1=some r)/\(∃m,c7 (da T m) A fr H=some (aj,H1))/\ec aj k.guard=some true/\k.op= .call f args/\BI T X n f (args.map (aO aj)) H1 v H'
def yI (T:cF)(X:ce)(af:List Item)(fr:Fr)(H:CH)(K:Fr->CH->Prop)(R:ae->CH->Prop):Prop:=nF T af fr H K\/∃n v H',HE T X n none af fr H v H'/\R v H'
theorem BJ.mono{f:bk}{args:List ae}{H:CH}{Q a R b:ae->CH->Prop}(h:BJ T X f args H Q R)(c : ∀v H',Q v H'->a v H')(d : ∀v H',R v H'->b v H'):BJ T X f args H a b:=by
 rcases h with h | ⟨n,v,H',h1,h2⟩
 ·exact .inl (h.mono c)
 exact .inr ⟨n,v,H',h1,d _ _ h2⟩
theorem mg.mono{c:bP}{fr:Fr}{H:CH}{Q a:bQ->Fr->CH->Prop}{R b:ae->CH->Prop}(h:mg T X c fr H Q R)(d : ∀x fr' H',Q x fr' H'->a x fr' H')(e : ∀v H',R v H'->b v H'):mg T X c fr H a b:=by
 rcases h with h | ⟨n,v,H',h1,h2⟩
 ·exact .inl (h.mono d)
 exact .inr ⟨n,v,H',h1,e _ _ h2⟩
theorem agn{f:bk}{rf:wk}(he:T.ext f=false)(a:T.fn f=some rf){args:List ae}{H:CH}{Q R:ae->CH->Prop}(h:mg T X rf.body (λt=>args.getD t undef) H (zQ rf.res Q) R):BJ T X f args H Q R:=by
 rcases h with h | ⟨n,v,H',h1,h2⟩
 ·exact .inl (Pd he a h)
 exact .inr ⟨n+1,v,H', .inr ⟨he,rf,a,h1⟩,h2⟩
theorem Lq{n m:Nat}{q:Option (List Item)}{it:Item}{r:List Item}{fr aj:Fr}{H H1 H':CH}{v:ae}(hs:cA (da T m) it fr H=some (aj,H1))(a : ∀Zl,q=some Zl->oT it.op=true)(h:HE T X n q r aj H1 v H'):HE T X n q (it::r) fr H v H':=by
 obtain⟨A,k,b,f,args,c,d,rfl,h2,⟨i,h3⟩,h4,h5,j⟩:=h;refine⟨it::A,k,b,f,args,c,d,rfl,λZl e=>⟨λx hx=> ?_,(h2 Zl e).2⟩,⟨max m i,?_⟩,h4,h5,j⟩
 ·rcases List.mem_cons.1 hx with rfl | hx
  ·exact a Zl e
  exact(h2 Zl e).1 x hx
 simp only[c7];rw[OF (pI (vR ..)) hs];exact DP (pI (vS ..)) h3
theorem Yw{n:Nat}{q:Option (List Item)}{it:Item}{r:List Item}{fr:Fr}{H H':CH}{v:ae}{f:bk}{args:List au}(hw:ec fr it.guard=some true)(hk:it.op= .call f args)(hz : ∀Zl,q=some Zl->∃n r,c7 (da T n) Zl fr H=some r)(h:BI T X n f (args.map (aO fr)) H v H'):HE T X n q (it::r) fr H v H':=
 ⟨[],it,r,f,args,fr,H,rfl,λZl e=>⟨λx hx=>(by cases hx),hz Zl e⟩,⟨0,rfl⟩,hw,hk,h⟩
theorem ago{it:Item}{r:List Item}{fr:Fr}{H:CH}{K:Fr->CH->Prop}{R:ae->CH->Prop}(hw:ec fr it.guard=some true)(h:Yv T X fr H it.op (λv a=>yI T X r (bE fr it.dst v) a K R) R):yI T X (it::r) fr H K R:=by
 rcases h with ⟨n,v,a,h1,h2⟩ | ⟨f,args,e,n,v,H',h1,h2⟩
 ·rcases h2 with h2 | ⟨m,u,H',h2,h3⟩
  ·left;rw[J8];simp only[hw];exact⟨n,v,a,h1,h2⟩
  exact .inr ⟨m,u,H',Lq (m:=n) (by simp only[cA,hw,h1];rfl) (λ_ e=>by cases e) h2,h3⟩
 exact .inr ⟨n,v,H',Yw hw e (λ_ e=>by cases e) h1,h2⟩
theorem agp{it:Item}{r:List Item}{fr:Fr}{H:CH}{K:Fr->CH->Prop}{R:ae->CH->Prop}(hw:ec fr it.guard=some false)(h:yI T X r (bE fr it.dst jH) H K R):yI T X (it::r) fr H K R:=by
 rcases h with h | ⟨n,v,H',h1,h2⟩
 ·left;rw[J8];simp only[hw];exact h
 exact .inr ⟨n,v,H',Lq (m:=0) (by simp only[cA,hw]) (λ_ e=>by cases e) h1,h2⟩
theorem agq{af:List Item}{fr:Fr}{H:CH}{Q:bQ->Fr->CH->Prop}{R:ae->CH->Prop}(h:yI T X af fr H (Q .normal) R):mg T X (.gG af) fr H Q R:=by
 rcases h with h | ⟨n,v,H',⟨A,k,b,f,args,aj,H1,rfl,_,h3,h4,h5,a⟩,h2⟩
 ·exact .inl (Vb.2 h)
 exact .inr ⟨n,v,H', .gG h3 h4 h5 a,h2⟩
theorem Qs{a b:bP}{fr:Fr}{H:CH}{Q:bQ->Fr->CH->Prop}{R:ae->CH->Prop}(h:mg T X a fr H (λx fr' H'=>match x with
 | .normal=>mg T X b fr' H' Q R
 | x=>Q x fr' H') R):mg T X (.seq a b) fr H Q R:=by
 rcases h with ⟨n,x,aj,H1,h1,h2⟩ | ⟨n,v,H',h1,h2⟩
 ·cases x with
  | normal=>
    rcases h2 with h2 | ⟨m,v,H',h2,h3⟩
    ·exact .inl (J'.2 ⟨n, .normal,aj,H1,h1,h2⟩)
    exact .inr ⟨m,v,H', .Ym ⟨n,h1⟩ h2,h3⟩
  | exit i=>exact .inl (J'.2 ⟨n, .exit i,aj,H1,h1,h2⟩)
  | ret=>exact .inl (J'.2 ⟨n, .ret,aj,H1,h1,h2⟩)
 exact .inr ⟨n,v,H', .seq1 h1,h2⟩
theorem agr{c:au}{a b:bP}{fr:Fr}{H:CH}{Q:bQ->Fr->CH->Prop}{R:ae->CH->Prop}(hc:aO fr c= .bool true)(h:mg T X a fr H Q R):mg T X (.cond c a b) fr H Q R:=by
 rcases h with h | ⟨n,v,H',h1,h2⟩
 ·left;rw[ON,hc];exact h
 exact .inr ⟨n,v,H', .cond_t hc h1,h2⟩
theorem ags{c:au}{a b:bP}{fr:Fr}{H:CH}{Q:bQ->Fr->CH->Prop}{R:ae->CH->Prop}(hc:aO fr c= .bool false)(h:mg T X b fr H Q R):mg T X (.cond c a b) fr H Q R:=by
 rcases h with h | ⟨n,v,H',h1,h2⟩
 ·left;rw[ON,hc];exact h
 exact .inr ⟨n,v,H', .cond_f hc h1,h2⟩
theorem agt{id:Nat}{c:bP}{fr:Fr}{H:CH}{Q:bQ->Fr->CH->Prop}{R:ae->CH->Prop}(h:mg T X c fr H (λx fr' H'=>match x with
 | .exit i=>if i=id then Q .normal fr' H' else Q (.exit i) fr' H'
 | x=>Q x fr' H') R):mg T X (.block id c) fr H Q R:=by
 rcases h with h | ⟨n,v,H',h1,h2⟩
 ·exact .inl (Vd.2 (h.mono λx fr' H' hx=>by cases x<;>exact hx))
 exact .inr ⟨n,v,H', .block h1,h2⟩
theorem agu{c:bP}{fr:Fr}{H:CH}{Q:bQ->Fr->CH->Prop}{R:ae->CH->Prop}(h:mg T X c fr H (λx fr' H'=>match x with
 | .normal=>mg T X (.loop c) fr' H' Q R
 | x=>Q x fr' H') R):mg T X (.loop c) fr H Q R:=by
 rcases h with ⟨n,x,aj,H1,h1,h2⟩ | ⟨n,v,H',h1,h2⟩
 ·cases x with
  | normal=>
    rcases h2 with h2 | ⟨m,v,H',h2,h3⟩
    ·exact .inl (Ka.2 ⟨n, .normal,aj,H1,h1,h2⟩)
    exact .inr ⟨m,v,H', .Yo ⟨n,h1⟩ h2,h3⟩
  | exit i=>exact .inl (Ka.2 ⟨n, .exit i,aj,H1,h1,h2⟩)
  | ret=>exact .inl (Ka.2 ⟨n, .ret,aj,H1,h1,h2⟩)
 exact .inr ⟨n,v,H', .Yn h1,h2⟩
theorem agv{c:bP}{Q:bQ->Fr->CH->Prop}{R:ae->CH->Prop}(I:Nat->Fr->CH->Prop)(step : ∀n fr H,I n fr H->mg T X c fr H (Ea I n Q) R) : ∀ {n:Nat} {fr:Fr} {H:CH},I n fr H->mg T X (.loop c) fr H Q R:=by
 intro n;induction n using Nat.strongRecOn with
 | _ n a=>
   intro fr H h;refine agu ((step n fr H h).mono (λx fr' H' hx=> ?_) λ_ _ h=>h);cases x with
   | normal=>obtain⟨m,b,hi⟩:=hx;exact a m b hi
   | exit i=>exact hx
   | ret=>exact hx
end
section
open Go Go.RowKit
variable {P:aZ} {B:Nat}
def Lr(K:Act->ar->Prop)(Q:Exit->Act->ar->Prop):Exit->Act->ar->Prop:=λe a w=>match e with
 | .normal=>K a w
 | e=>Q e a w
theorem agw{F:Fence}{n:Nat}{o:Oper}{a:Act}{next:Act->ar->Prop}{K:Act->ar->Prop}{Q:Exit->Act->ar->Prop}{r:Result Next}(h:o.uponIn F n P a next (Lr K Q) r):o.uponIn F n P a next Q r:=by
 cases r with
 | ok x w'=>
   cases x with
   | enter f args=>exact⟨h.1,h.2.mono λe b he=>by cases e<;>exact he⟩
   | round l f tmps bF bd=>exact⟨h.1,RoundIn.mono h.2 λe b he=>by cases e<;>exact he⟩
   | _=>exact h
 | halt x w'=>cases x<;>exact h
theorem HF{F:Fence}{n:Nat}{ops:Array Oper}{Q:Exit->Act->ar->Prop}(c:List Nat) : ∀(b:List Nat) (a:Act) (w:ar),wpOpsIn F n P ops (Lr (wpOpsIn F n P ops Q c) Q) b a w->wpOpsIn F n P ops Q (b++c) a w
 | [],a,w,h=>h
 | i::b,a,w,h=>by
   rw[aS];simp only[wpOpsIn] at h⊢
   cases ho:ops[i]? with
   | none=>rw[ho] at h;exact HF c b a w h
   | some o=>
     rw[ho] at h;simp only at h⊢;split;·rename_i hw;rw[iP hw] at h;exact⟨h.1,agw (Oper.wpIn_mono (λa w=>HF c b a w) h).2⟩
     rename_i hw;rw[iN hw] at h;exact⟨h.1,HF c b _ _ h.2⟩
end
section
open Go Go.RowKit
variable {P:aZ} {B:Nat} {T:cF} {X:ce}
def Es(P:aZ)(B:Nat)(f:bk)(args:List ae)(H:CH)(v:ae)(H':CH):Prop:=q9 P f=true/\∀β w (a:List ae),aN P B β H w->aW β args a->
 CallsIn gZ 0 P f a.toArray w λe w'=>∃v' β',e= .returned v'/\VR β' v v'/\aN P B β' H' w'/\bD β w β' w'
theorem Qt{fn:Func}{tmps:Array ae}{R:Ending->ar->Prop}{B1:Nat}{β0 β:Nat->aB}{w0:ar}{H:CH}{u:FrameMode}(hu:u≠ .run){D0:List Deferred} : ∀(ms:List Nat) (w:ar),aN P B β H w->bD β0 w0 β w->w0.heap.size<=B1->ms.Nodup->(∀D∈ms,B1<=D/\w.heap[D]? = some (.deferred (some [])))->
 (∀w',aN P B β H w'->bD β0 w0 β w'->AP gZ 0 P fn tmps R D0 u w')->AP gZ 0 P fn tmps R (ms.map JW++D0) u w
 | [],w,c,a,f,hn,d,e=>e w c a
 | D::ms,w,c,a,f,hn,d,e=>by
   obtain⟨h1,h2⟩:=d D (np ..);have n:=(Array.getElem?_eq_some_iff.1 h2).1;refine⟨hu, .inl ⟨D,w.putObj D (.deferred none),rfl,run_takeDeferred h2,?_⟩⟩;refine Qt hu ms _ (c.Ou (o':= .deferred none) h2 ⟨λ_ _ _=>by simp,λ_ _=>by simp,λ_=>by simp,λ_ _=>by simp,λ_ _ _ _=>by simp⟩) ?_ f (List.nodup_cons.1 hn).2 (λj i=> ?_) e
   ·exact⟨a.os,a.tape,a.output,by simpa using a.size,λb hb ho=>by
     obtain⟨k1,k⟩:=a.cX b hb ho;exact⟨(AN Om).trans k1,k⟩,a.ext⟩
   obtain⟨l,m⟩:=d j (kw _ i);refine⟨l,(AN ?_).trans m⟩;rintro rfl;exact(List.nodup_cons.1 hn).1 i
def Yx(P:aZ)(g:bk)(n:Nat):Prop:=∀(args:List ae) (w:ar),args.length=n->CallsDIn gZ 0 P g args.toArray .returning w λe a w'=>(∃x,e= .returned x)/\a= .returning/\w'=w
def Yy(P:aZ)(B:Nat)(g:bk)(G:List ae->ae->CH->CH->Prop):Prop:=∀β w (args a:List ae) (v v':ae) (H H':CH),aN P B β H w->aW β args a->VR β v v'->G args v H H'->
 CallsDIn gZ 0 P g a.toArray (.panicking [{ v:=v',recovered:=false }]) w λe b w'=>∃x β',e= .returned x/\b= .panicking [{ v:=v',recovered:=true }]/\aN P B β' H' w'/\bD β w β' w'
def BK (c:bP)(fr:Fr):Fr:=λt=>if (pK c).elem t then undef else fr t
theorem agx{β:Nat->aB}{c:bP}{fr:Fr}{a:Act}(h : ∀t,t∉pK c->VR β (fr t) (a.tmps.getD t undef)):FR β 0 (BK c fr) a:=by
 refine⟨Nat.zero_le _,λt=> ?_⟩;unfold BK;split;·exact .undef _
 rename_i ht;exact h t λb=>ht (List.elem_eq_true_of_mem b)
theorem Yz{h:Hd}(hh:HS P B h){ro:Option Nat}{N:Nat}{c:Code}{af:List Item}(b:jI P N c (.gG af)){β:Nat->aB}{fr fr':Fr}{H H':CH}{a:Act}{w:ar}{Q:Exit->Act->ar->Prop}
 (i:aN P B β H w) (k:FR β N fr a) (m:c7 h af fr H=some (fr',H')) (d : ∀β' w' a',aN P B β' H' w'->bD β w β' w'->FR β' N fr' a'->a'.defers=a.defers->Q .normal a' w'):c.wpIn (Fn ro) 0 P Q a w:=by
 generalize hg:bP.gG af=r at b;induction b generalizing Q with
 | @gG id ops n hl hi=>
   cases hg;refine wpIn_region (Gu hh _ af β fr fr' H H' a w (by simpa using hl) (λj h1 h2=> ?_) i k m d);have f:j<ops.size:=by omega
   exact⟨ops[j],by simp[f],hi j h1 f⟩
 | scope hc o=>exact On (o (fun β' w' a' p q s t=>⟨λl e=>(by cases e),d β' w' a' p q s t⟩) hg)
 | _=>cases hg
theorem YA{h:Hd}{n:Nat}{af:List Item}{fr fr':Fr}{H H':CH}(e:bG h n (.gG af) fr H=some (.normal,fr',H')):c7 h af fr H=some (fr',H'):=by
 simp only[bG] at e;cases a:c7 h af fr H with
 | none=>rw[a] at e;simp at e
 | some q=>rw[a] at e;simp at e;rw[<-e.1,<-e.2]
theorem agy(I : ∀B,uy P B T)(hX : ∀B f args H v H',X f args H v H'->zE P B f args H v H'){f g:bk}{rf:wk}{i0 i1:List Item}{rB:bP}(qV:J4 P f rf)(hrb:rf.body= .seq (.gG i0) (.seq (.gG i1) (.seq .bad rB))){c0 c1 cB:Code}{id d x1 x2 x3:Nat}{t1 t2:aH}{r s:String}{a1 a:Array Edge}
 (tA:(P.funcs[f]?).bind (·.body)=some (.seq c0 (.seq c1 (.seq (.region id #[{ dst:=some d,op:= .makeFunc (.func g) #[] #[.tmp x1, .tmp x2, .tmp x3],type:=t1,pos:=r,after:=a1,guard:=none },{ dst:=none,op:= .defer { callee:= .value (.tmp d),args:= #[],argTypes:= #[] },type:=t2,pos:=s,after:=a,guard:=none }] false) cB))))
 (hgc:q9 P g=true) (hd:d<rf.ntmps) {G:List ae->ae->CH->CH->Prop} (hgR:Yx P g 3) (hgP : ∀B,Yy P B g G) {args:List ae} {H:CH} {Q:ae->CH->Prop}
 (h:dx T (.gG i0) (λt=>args.getD t undef) H λx aj H1=>x= .normal/\dx T (.gG i1) aj H1 λx aX J=>x= .normal/\
   mg T X rB (bE aX (some d) undef) J (λx uw o=>(x= .normal\/x= .ret)/\∃vs,ct uw o rf.res=some vs/\Q (eV vs) o)
    λv o=>∃L,G [aX x1,aX x2,aX x3] v o L/\∃vs,ct (BK rB (bE aX (some d) undef)) L rf.res=some vs/\Q (eV vs) L) :
 ∃v H',Q v H'/\∀B,Es P B f args H v H':=by
 obtain⟨n0,_,aj,H1,e0,rfl,n1,_,aX,J,e1,rfl,h⟩:=h;obtain⟨fn,c,DN,hb,l8,A,sv⟩:=qV.ok;rw[DN] at tA;simp only[Option.bind_some] at tA;rw[hb] at tA;cases tA;rw[hrb] at A;cases A with
 | seq k0 A=>cases A with
   | seq k1 A=>cases A with
     | seq k2 k3=>
       have pre : ∀(B:Nat) (Qv:ae) (H':CH) (β:Nat->aB) (w:ar) (u:List ae),aN P B β H w->aW β args u->
        (∀β2 m a j k l,aN P B β2 J m->bD β w β2 m->FR β2 rf.ntmps (bE aX (some d) undef) a->a.defers= [{ target:= .fn (.func g) #[j,k,l],args:= #[] }]->aW β2 [aX x1,aX x2,aX x3] [j,k,l]->
          cB.wpIn gZ 0 P (bodyPostM gZ 0 P fn λe w'=>∃v' β',e= .returned v'/\VR β' Qv v'/\aN P B β' H' w'/\bD β w β' w') a m)->
        CallsIn gZ 0 P f u.toArray w λe w'=>∃v' β',e= .returned v'/\VR β' Qv v'/\aN P B β' H' w'/\bD β w β' w':=by
        intro B Qv H' β w u M O hK;refine callsIn_of_wp_marks DN hb trivial ?_ rfl;have hf:=Qr (N:=fn.ntmps) O;rw[l8] at hf⊢;refine wpIn_seq (Yz (ro:=none) (sw (I B) n0) k0 M hf (YA e0) fun β1 w1 a1 R C S U=> ?_);refine wpIn_seq (Yz (ro:=none) (sw (I B) n1) k1 R S (YA e1) fun β2 m a r s q V=> ?_);refine wpIn_seq (wpIn_region ?_);have nI : ∀(fn:Go.Fn) (first cap:Array ae) (w:ar),(Instr.makeFunc fn first cap).run P w= .ok (.func fn first cap) w:=λ_ _ _ _=>rfl;have hds:d<a.tmps.size:=ep hd q.1;simp[wpOpsIn,go_sem,Oper.wpIn,Oper.semAt,execOp,nI,hds];have PV:a.defers= []:=V.trans U;have hx:=hK β2 m { tmps:=a.tmps.setIfInBounds d (Value.func (Go.Fn.func g) #[] #[a.tmps.getD x1 undef,a.tmps.getD x2 undef,a.tmps.getD x3 undef]),defers:= { target:=Target.fn (Go.Fn.func g) #[a.tmps.getD x1 undef,a.tmps.getD x2 undef,a.tmps.getD x3 undef],args:= #[] }::a.defers } (a.tmps.getD x1 undef) (a.tmps.getD x2 undef) (a.tmps.getD x3 undef) r (C.trans s) (q.put (d:=some d) (λx hx=>by cases hx;exact hd) (.undef _)) (by rw[PV]) ⟨rfl,λi v hv=> ?_⟩;·simpa using hx
        match i,hv with
        | 0,hv=>cases hv;exact⟨_,rfl,q.2 x1⟩
        | 1,hv=>cases hv;exact⟨_,rfl,q.2 x2⟩
        | 2,hv=>cases hv;exact⟨_,rfl,q.2 x3⟩
        | n+3,hv=>cases hv
       have W : ∀(j k l:ae) (w:ar),(invoke (.fn (.func g) #[j,k,l]) #[]).run P w= .ok (.enter g [j,k,l].toArray) w:=λj k l w=>by
        simp only[invoke];rw[Bh hgc];simp
       rcases h with ⟨n,x,uw,o,e2,hx,vs,e3,hq⟩ | ⟨n,v,o,e2,L,hG,vs,e3,hq⟩
       ·refine⟨_,_,hq,λB=>⟨qV.call,fun β w u M O=>pre B _ _ β w u M O fun β2 m a j k l r s q V p5=> ?_⟩⟩;refine DJ (ro:=none) (B1:=m.heap.size) (D0:=a.defers) (sw (I B) n) k3 β2 _ uw J o a m x _ r q (λb hb=>by cases hb) (DM.none rfl) (ag _) e2 fun β3 Y F R C S U=> ?_;obtain⟨ms,m1,m2,m3⟩:=U;have tB:AP gZ 0 P fn F.tmps (λe w'=>∃v' β',e= .returned v'/\VR β' (eV vs) v'/\aN P B β' o w'/\bD β w β' w') F.defers .returning Y:=by
         rw[m1,V];refine Qt s0 ms Y R C (ag _) m2 (λD hD=>⟨(m3 D hD).1,(m3 D hD).2.1⟩) λw4 nv kS=> ?_;refine⟨s0, .inr ⟨by simp[gZ], .func g,#[j,k,l],g,_,rfl,W j k l w4,λ_ _=>trivial,?_⟩⟩;refine(hgR [j,k,l] w4 rfl).mono ?_;rintro e u' w' ⟨⟨y,rfl⟩,rfl,rfl⟩;obtain⟨v',r1,r2⟩:=Ot nv S sv e3;exact⟨v',r1,v',β3,rfl,r2,nv,s.trans kS⟩
        rcases hx with rfl | rfl
        ·exact tB
        exact tB
       refine⟨_,_,hq,λB=>⟨qV.call,fun β w u M O=>pre B _ _ β w u M O fun β2 m a j k l r s q V p5=> ?_⟩⟩;refine Yr (ro:=none) (B1:=m.heap.size) (D0:=a.defers) (I B) (Yu (I B) (hX B) n) k3 β2 _ J o v a m _ r q (λb hb=>by cases hb) (DM.none rfl) (ag _) e2 fun β3 Y F v3 R C S U q5=> ?_;obtain⟨ms,m1,m2,m3⟩:=U;show AP gZ 0 P fn F.tmps _ F.defers (.panicking [{ v:=v3,recovered:=false }]) Y;rw[m1,V];refine Qt s0 ms Y R C (ag _) m2 (λD hD=>⟨(m3 D hD).1,(m3 D hD).2.1⟩) λw4 nv kS=> ?_;refine⟨s0, .inr ⟨by simp[gZ], .func g,#[j,k,l],g,_,rfl,W j k l w4,λ_ _=>trivial,?_⟩⟩;refine(hgP B β3 w4 [aX x1,aX x2,aX x3] [j,k,l] v v3 o L nv ?_ S hG).mono ?_
       ·exact⟨p5.1,λi y hy=>by
         obtain⟨z,z1,z2⟩:=p5.2 i y hy;exact⟨z,z1,z2.mono C.ext⟩⟩
       rintro e u' w' ⟨y,β',rfl,rfl,YB,YC⟩;have hf5:FR β' 0 (BK rB (bE aX (some d) undef)) F:=agx λt ht=>(q5 t ht).mono YC.ext;obtain⟨v',r1,r2⟩:=Ot YB hf5 sv e3;exact⟨v',r1,v',β',rfl,r2,YB,s.trans (kS.trans YC)⟩
end
section
open Go Go.RowKit
inductive R2{α β:Type}(R:α->β->Prop):List α->List β->Prop where
 | nil:R2 R [] []
 | cons {x:α} {y:β} {xs:List α} {ys:List β} (h:R x y) (t:R2 R xs ys):R2 R (x::xs) (y::ys)
theorem R2.len{α β:Type}{R:α->β->Prop} : ∀ {xs:List α} {ys:List β},R2 R xs ys->ys.length=xs.length
 | _,_, .nil=>rfl
 | _,_, .cons _ t=>by simp[t.len]
theorem R2.get{α β:Type}{R:α->β->Prop} : ∀ {xs:List α} {ys:List β},R2 R xs ys->∀ {i:Nat} {x:α},xs[i]? = some x->∃y,ys[i]? = some y/\R x y
 | _,_, .nil,i,x,h=>by simp at h
 | _,_, .cons h t,0,x,e=>by simp at e;subst e;exact⟨_,rfl,h⟩
 | _,_, .cons h t,i+1,x,e=>by simpa using t.get (i:=i) (by simpa using e)
theorem R2.app{α β:Type}{R:α->β->Prop} : ∀ {xs a:List α} {ys b:List β},R2 R xs ys->R2 R a b->R2 R (xs++a) (ys++b)
 | _,_,_,_, .nil,g=>g
 | _,_,_,_, .cons h t,g=> .cons h (t.app g)
theorem R2.take{α β:Type}{R:α->β->Prop} : ∀ {xs:List α} {ys:List β} (n:Nat),R2 R xs ys->R2 R (xs.take n) (ys.take n)
 | _,_,n, .nil=>by simpa using .nil
 | _,_,0, .cons h t=>by simpa using .nil
 | _,_,n+1, .cons h t=>by simpa using .cons h (t.take n)
theorem R2.drop{α β:Type}{R:α->β->Prop} : ∀ {xs:List α} {ys:List β} (n:Nat),R2 R xs ys->R2 R (xs.drop n) (ys.drop n)
 | _,_,n, .nil=>by simpa using .nil
 | _,_,0, .cons h t=>by simpa using .cons h t
 | _,_,n+1, .cons h t=>by simpa using t.drop n
theorem R2.mono{α β:Type}{R a:α->β->Prop}(b : ∀x y,R x y->a x y) : ∀ {xs:List α} {ys:List β},R2 R xs ys->R2 a xs ys
 | _,_, .nil=> .nil
 | _,_, .cons h t=> .cons (b _ _ h) (t.mono b)
theorem R2.map{α β γ:Type}{R:α->β->Prop}{a:γ->β->Prop}{f:α->γ}(b : ∀x y,R x y->a (f x) y) : ∀ {xs:List α} {ys:List β},R2 R xs ys->R2 a (xs.map f) ys
 | _,_, .nil=> .nil
 | _,_, .cons h t=> .cons (b _ _ h) (t.map b)
inductive SV where
 | sc (v:ae)
 | row (sz:Nat) (gs:List (List SV))
 | lk (x:List UInt8)
 | sub (sz:Nat) (gs:List (List SV))
inductive CV where
 | s (x:SV)
 | own (t:Nat) (e:aH) (sz:Nat) (gs:List (List SV))
 | bad
inductive RV where
 | c (x:CV)
 | agg (cs:List CV)
inductive AV where
 | r (x:RV)
 | ptr (o off:Nat)
 | fi (t:Option Nat) (g:List SV) (off:Nat)
 | eE (l:List RV)
 | skip
 | bad
def yJ:aH:=26
def HG (e sz:Nat):Bool:= !(Nat.beq sz 5)||Nat.beq e yJ
theorem YE{e sz:Nat}(h:HG e sz=true):sz=5->e=yJ:=λh5=>by
 subst h5;exact Nat.eq_of_beq_eq_true h
mutual
inductive fL(K:CH)(A:Nat->Prop):SV->ae->Prop where
 | sc {v:ae} (h:cj v=true):fL K A (.sc v) v
 | og {sz:Nat}:fL K A (.row sz []) (.slice none 0 0)
 | row {b sz:Nat} {os:List ae} {e:aH} {kd:Kd} {gs:List (List SV)} (av:gs≠ []/\gs.length<=maxLen) (hb:A b) (ho:K.ob b= .cells os e kd) (hk:kd.eM=false) (hg : ∀g∈gs,g.length=sz) (hs:fj K A gs.flatten os) (ht:sz=5->e=yJ):fL K A (.row sz gs) (.slice (some ⟨b,0,none⟩) gs.length gs.length)
 | lk {x:List UInt8} {v:ae} (h:cj v=true):fL K A (.lk x) v
 | wD {sz c:Nat} {q:Option Addr}:fL K A (.sub sz []) (.slice q 0 c)
 | sub {b o c sz:Nat} {os:List ae} {e:aH} {kd:Kd} {gs:List (List SV)} (av:gs≠ []/\gs.length<=maxLen) (hb:A b) (ho:K.ob b= .cells os e kd) (hg : ∀g∈gs,g.length=sz) (hl:o+gs.length*sz<=os.length) (hs:fj K A gs.flatten ((os.drop o).take (gs.length*sz))) (ht:sz=5->e=yJ):fL K A (.sub sz gs) (.slice (some ⟨b,o,none⟩) gs.length c)
inductive fj(K:CH)(A:Nat->Prop):List SV->List ae->Prop where
 | nil:fj K A [] []
 | cons {x:SV} {v:ae} {xs:List SV} {vs:List ae} (h:fL K A x v) (t:fj K A xs vs):fj K A (x::xs) (v::vs)
end
theorem fL.mv{K K':CH}{A A':Nat->Prop}(hA : ∀b,A b->A' b/\K'.ob b=K.ob b){x:SV}{v:ae}(h:fL K A x v):fL K' A' x v:=
 fL.rec (motive_1:=λx v _=>fL K' A' x v) (motive_2:=λx v _=>fj K' A' x v) (λh=> .sc h) .og (λav hb ho hk hg _ ht a=> .row av (hA _ hb).1 ((hA _ hb).2.trans ho) hk hg a ht) (λh=> .lk h) .wD (λav hb ho hg hl _ ht a=> .sub av (hA _ hb).1 ((hA _ hb).2.trans ho) hg hl a ht) .nil (λ_ _ i1 i2=> .cons i1 i2) h
theorem fj.mv{K K':CH}{A A':Nat->Prop}(hA : ∀b,A b->A' b/\K'.ob b=K.ob b){x:List SV}{v:List ae}(h:fj K A x v):fj K' A' x v:=
 fj.rec (motive_1:=λx v _=>fL K' A' x v) (motive_2:=λx v _=>fj K' A' x v) (λh=> .sc h) .og (λav hb ho hk hg _ ht a=> .row av (hA _ hb).1 ((hA _ hb).2.trans ho) hk hg a ht) (λh=> .lk h) .wD (λav hb ho hg hl _ ht a=> .sub av (hA _ hb).1 ((hA _ hb).2.trans ho) hg hl a ht) .nil (λ_ _ i1 i2=> .cons i1 i2) h
theorem fj.r2{K:CH}{A:Nat->Prop} : ∀ {xs:List SV} {vs:List ae},fj K A xs vs->R2 (fL K A) xs vs
 | [],_,h=>by cases h;exact .nil
 | x::xs,_,h=>by
   cases h with
   | cons h t=>exact .cons h t.r2
theorem R2.HH{K:CH}{A:Nat->Prop} : ∀ {xs:List SV} {vs:List ae},R2 (fL K A) xs vs->fj K A xs vs
 | _,_, .nil=> .nil
 | _,_, .cons h t=> .cons h t.HH
abbrev pQ(sz:Nat)(gs:List (List SV)):SV:= .row sz gs
theorem fL.cell{K:CH}{A:Nat->Prop}{x:SV}{v:ae}(h:fL K A x v):cj v=true:=by
 cases h with
 | sc h=>exact h
 | og=>rfl
 | row=>rfl
 | lk h=>exact h
 | wD=>rfl
 | sub=>rfl
structure TE where
 σ:Nat->Option Nat
 ρ:Nat->Option Nat
 hid:Nat->Prop
def dv (K:CH)(E:TE)(b:Nat):Prop:=b<K.nx/\¬E.hid b/\(∀t,E.σ t≠some b)/\∀o,E.ρ o≠some b
inductive eO(K:CH)(E:TE):CV->ae->Prop where
 | s {x:SV} {v:ae} (h:fL K (dv K E) x v):eO K E (.s x) v
 | sG {t sz:Nat} {e:aH}:eO K E (.own t e sz []) (.slice none 0 0)
 | own {t b sz:Nat} {os:List ae} {e:aH} {kd:Kd} {gs:List (List SV)} (av:gs≠ []/\gs.length<=maxLen) (hb:E.σ t=some b) (ho:K.ob b= .cells os e kd) (hk:kd.eM=false) (hg : ∀g∈gs,g.length=sz) (hs:fj K (dv K E) gs.flatten os) (ht:sz=5->e=yJ):eO K E (.own t e sz gs) (.slice (some ⟨b,0,none⟩) gs.length gs.length)
 | bad {v:ae} (h:cj v=true):eO K E .bad v
theorem eO.cell{K:CH}{E:TE}{x:CV}{v:ae}(h:eO K E x v):cj v=true:=by
 cases h with
 | s h=>exact h.cell
 | sG=>rfl
 | own=>rfl
 | bad h=>exact h
inductive oh(K:CH)(E:TE):RV->ae->Prop where
 | c {x:CV} {v:ae} (h:eO K E x v):oh K E (.c x) v
 | agg {cs:List CV} {vs:List ae} (h:R2 (eO K E) cs vs):oh K E (.agg cs) (.agg vs.toArray)
inductive bX(K:CH)(E:TE):AV->ae->Prop where
 | r {x:RV} {v:ae} (h:oh K E x v):bX K E (.r x) v
 | ptr {o off l:Nat} (h:E.ρ o=some l):bX K E (.ptr o off) (.pointer (some ⟨l,off,none⟩))
 | fi {t:Option Nat} {g:List SV} {off b base:Nat} {os:List ae} {e:aH} {kd:Kd} (hb:match t with | none=>dv K E b | some t=>E.σ t=some b) (ho:K.ob b= .cells os e kd) (hl:base+g.length<=os.length) (hs:R2 (fL K (dv K E)) g ((os.drop base).take g.length)):bX K E (.fi t g off) (.pointer (some ⟨b,base+off,none⟩))
 | eE {l:List RV} {vs:List ae} (h:R2 (oh K E) l vs):bX K E (.eE l) (.tuple vs.toArray)
 | skip:bX K E .skip jH
 | bad {v:ae}:bX K E .bad v
inductive SA where
 | cX | fz | kill
def CV.act(g:Nat->SA):CV->CV
 | .own t e sz gs=>match g t with
   | .cX=> .own t e sz gs
   | .fz=> .s (pQ sz gs)
   | .kill=> .bad
 | x=>x
def RV.act(g:Nat->SA):RV->RV
 | .c x=> .c (x.act g)
 | .agg cs=> .agg (cs.map (CV.act g))
def AV.act(g:Nat->SA):AV->AV
 | .r x=> .r (x.act g)
 | .fi (some t) l off=>match g t with
   | .cX=> .fi (some t) l off
   | .fz=> .fi none l off
   | .kill=> .bad
 | .eE l=> .eE (l.map (RV.act g))
 | x=>x
structure Mv(K:CH)(E:TE)(g:Nat->SA)(K':CH)(E':TE):Prop where
 hU : ∀b,dv K E b->dv K' E' b/\K'.ob b=K.ob b
 cX : ∀t b,E.σ t=some b->g t= .cX->E'.σ t=some b/\K'.ob b=K.ob b
 fz : ∀t b,E.σ t=some b->g t= .fz->dv K' E' b/\K'.ob b=K.ob b
 ee : ∀o b,E.ρ o=some b->E'.ρ o=some b
variable {K K':CH} {E E':TE} {g:Nat->SA}
theorem eO.mv(m:Mv K E g K' E'){x:CV}{v:ae}(h:eO K E x v):eO K' E' (x.act g) v:=by
 cases h with
 | s h=>exact .s (h.mv m.hU)
 | @sG t sz e=>
   show eO K' E' (match g t with | .cX=> .own t e sz [] | .fz=> .s (pQ sz []) | .kill=> .bad) _;cases g t with
   | cX=>exact .sG
   | fz=>exact .s .og
   | kill=>exact .bad rfl
 | @own t b sz os e kd gs av hb ho hk hg hs ht=>
   show eO K' E' (match g t with | .cX=> .own t e sz gs | .fz=> .s (pQ sz gs) | .kill=> .bad) _;cases a:g t with
   | cX=>exact .own av (m.cX t b hb a).1 ((m.cX t b hb a).2.trans ho) hk hg (hs.mv m.hU) ht
   | fz=>exact .s (.row av (m.fz t b hb a).1 ((m.fz t b hb a).2.trans ho) hk hg (hs.mv m.hU) ht)
   | kill=>exact .bad rfl
 | bad h=>exact .bad h
theorem oh.mv(m:Mv K E g K' E'){x:RV}{v:ae}(h:oh K E x v):oh K' E' (x.act g) v:=by
 cases h with
 | c h=>exact .c (h.mv m)
 | agg h=>exact .agg (h.map λ_ _ q=>q.mv m)
theorem bX.mv(m:Mv K E g K' E'){x:AV}{v:ae}(h:bX K E x v):bX K' E' (x.act g) v:=by
 cases h with
 | r h=>exact .r (h.mv m)
 | ptr h=>exact .ptr (m.ee _ _ h)
 | @fi t l off b base os e kd hb ho hl hs=>
   cases t with
   | none=>exact .fi (t:=none) (m.hU b hb).1 ((m.hU b hb).2.trans ho) hl (hs.mono λ_ _ q=>q.mv m.hU)
   | some t=>
     show bX K' E' (match g t with | .cX=> .fi (some t) l off | .fz=> .fi none l off | .kill=> .bad) _;cases a:g t with
     | cX=>exact .fi (t:=some t) (m.cX t b hb a).1 ((m.cX t b hb a).2.trans ho) hl (hs.mono λ_ _ q=>q.mv m.hU)
     | fz=>exact .fi (t:=none) (m.fz t b hb a).1 ((m.fz t b hb a).2.trans ho) hl (hs.mono λ_ _ q=>q.mv m.hU)
     | kill=>exact .bad
 | eE h=>exact .eE (h.map λ_ _ q=>q.mv m)
 | skip=>exact .skip
 | bad=>exact .bad
structure TS where
 nt:Nat
 aw:List (Nat×aH×List CV)
abbrev aR:=Nat->AV
def TS.act(g:Nat->SA)(s:TS):TS:=⟨s.nt,s.aw.map λ(v,e,cs)=>(v,e,cs.map (CV.act g))⟩
def aR.act(g:Nat->SA)(fr:aR):aR:=λt=>(fr t).act g
structure TP where
 N:Nat->Prop
 M:Nat->dm
 J:List (List UInt8)->List ae->CH->Nat->(Nat->Prop)->Prop
 jm : ∀ {xs:List (List UInt8)} {vs:List ae} {K K':CH} {p:Nat} {W:Nat->Prop},J xs vs K p W->(∀b,W b->K'.ob b=K.ob b)->K.nx<=K'.nx->J xs vs K' p W
abbrev TP.plain(N:Nat->Prop)(M:Nat->dm):TP:=⟨N,M,λ_ _ _ _ _=>False,λh _ _=>h⟩
def eF:List CV->List (List UInt8)
 | []=> []
 | .s (.lk x)::r=>x::eF r
 | _::r=>eF r
def jM:List CV->List ae->List ae
 | .s (.lk _)::r,v::vs=>v::jM r vs
 | _::r,_::vs=>jM r vs
 | _,_=> []
def lkO (l:List (Nat×aH×List CV)):List (List UInt8):=match l with
 | []=> []
 | (_,_,cs)::_=>eF cs
def JR (Z:TP)(l:List (Nat×aH×List CV))(K:CH)(sp:Option Nat)(W:Nat->Prop):Prop:=match l with
 | []=>∀b,¬W b
 | (_,e,cs)::_=>(eF cs= []/\∀b,¬W b)\/(eF cs≠ []/\∃p os,sp=some p/\K.ob p= .cells os e .ex/\os.length=cs.length/\Z.J (eF cs) (jM cs os) K p W)
structure TR(Z:TP)(K0:CH)(sp:Option Nat)(W0:Nat->Prop)(K:CH)(st:TS)(fr:aR)(aP:Fr)(E:TE):Prop where
 nx:K0.nx<=K.nx
 cX : ∀b,b<K0.nx->sp≠some b->¬W0 b->K.ob b=K0.ob b
 rH : ∀b,Z.N b->b<K0.nx/\sp≠some b/\¬W0 b/\K.ob b=Z.M b
 hid : ∀b,E.hid b->b<K.nx/\(∀t,E.σ t≠some b)/\∀o,E.ρ o≠some b
 wr : ∃W:Nat->Prop,(∀b,W b->E.hid b/\(W0 b\/K0.nx<=b))/\JR Z st.aw K (E.ρ 0) W
 sig : ∀t b,E.σ t=some b->K0.nx<=b/\b<K.nx/\t<st.nt
 inj : ∀t t' b,E.σ t=some b->E.σ t'=some b->t=t'
 sr : ∀t o b,E.σ t=some b->E.ρ o≠some b
 ee : ∀o b,E.ρ o=some b->b<K.nx/\(K0.nx<=b\/sp=some b)/\o<st.aw.length
 pR : ∀o o' b,E.ρ o=some b->E.ρ o'=some b->o=o'
 aw : ∀o v e cs,st.aw[o]? = some (v,e,cs)->∃b os,E.ρ o=some b/\K.ob b= .cells os e .ex/\R2 (eO K E) cs os
 fG : ∀t,bX K E (fr t) (aP t)
end
section
open Go Go.RowKit
theorem agz{v:ae}(h:cj v=true):v.cells= #[v]:=by cases v<;>first | rfl | cases h
theorem agA{v:ae}(h:cj v=true):isVal v=true:=by cases v<;>first | rfl | cases h
abbrev cS(v:ae):CV:= .s (.sc v)
abbrev rS(v:ae):AV:= .r (.c (.s (.sc v)))
abbrev iS(n:Int):AV:= .r (.c (.s (.sc (.int .i64 n))))
def nzS:Nat:=5
def cN (v:ae):CV:=match v with
 | .slice none 0 0=> .s (.row nzS [])
 | v=> .s (.sc v)
def BL (z:List ae):Option (List CV):=if z.all cj=true then some (z.map cN) else none
def Et (v:ae):AV:=match v with
 | .agg cs=>match BL cs.toList with
   | some l=> .r (.agg l)
   | none=> .bad
 | v=>match cj v with
   | true=> .r (.c (cN v))
   | false=> .bad
theorem YF{K:CH}{E:TE}{v:ae}(h:cj v=true):eO K E (cN v) v:=by
 unfold cN;split;·exact .s .og
 exact .s (.sc h)
def AV.raw:AV->Option ae
 | .r (.c (.s (.sc v)))=>some v
 | _=>none
def dU (fr:aR):au->AV
 | .tmp t=>fr t
 | .const v=>Et v
 | _=> .bad
def AV.tG:AV->Option (List CV)
 | .r (.c x)=>some [x]
 | .r (.agg cs)=>some cs
 | _=>none
def AV.rowOf:AV->Option (Option Nat×Option Nat×List (List SV))
 | .r (.c (.s (.row sz gs)))=>some (none,some sz,gs)
 | .r (.c (.s (.sc (.slice none 0 0))))=>some (none,none,[])
 | .r (.c (.own t _ sz gs))=>some (some t,some sz,gs)
 | _=>none
def AV.Ls:AV->Option (Option Nat×Option Nat×List (List SV))
 | .r (.c (.s (.sub sz gs)))=>some (none,some sz,gs)
 | a=>a.rowOf
def Eu(sz:Nat):Option Nat->Prop
 | none=>True
 | some mV=>mV=sz
instance {sz:Nat} : ∀ {o:Option Nat},Decidable (Eu sz o)
 | none=>inferInstanceAs (Decidable True)
 | some mV=>inferInstanceAs (Decidable (mV=sz))
def lenOf:AV->Option Nat
 | .r (.c (.s (.row _ gs)))=>some gs.length
 | .r (.c (.own _ _ _ gs))=>some gs.length
 | .r (.c (.s (.sc (.slice _ n _))))=>some n
 | .r (.c (.s (.sub _ gs)))=>some gs.length
 | _=>none
def Lt:dM->Option (List au)
 | .bin _ x y=>some [x,y]
 | .A0 _ x y=>some [x,y]
 | .un _ x=>some [x]
 | .conv _ x=>some [x]
 | .Dm x=>some [x]
 | .Dn x i=>some [x,i]
 | .lens x=>some [x]
 | .mx _ x y=>some [x,y]
 | .A3 x lo hi=>some (x::(lo.toList++hi.toList))
 | _=>none
def rev (fr:aR)(x:au):ae:=((dU fr x).raw).getD undef
def HI:List CV->List (Nat×Nat×Option (List CV))->Option (List CV)
 | z,[]=>some z
 | z,(o,s,some cs)::r=>if cs.length=s/\o+s<=z.length then HI (z.take o++cs++z.drop (o+s)) r else none
 | _,_=>none
def pd (fr:aR):dM->Option AV
 | .tu x=>some (dU fr x)
 | .pick c a b=>match (dU fr c).raw with
   | some (.bool t)=>some (if t=true then dU fr a else dU fr b)
   | _=>none
 | .off x d=>match dU fr x with
   | .ptr o off=>some (.ptr o (off+d))
   | .fi t g off=>some (.fi t g (off+d))
   | _=>none
 | .A4 x=>match dU fr x with
   | .ptr o off=>some (.ptr o off)
   | .fi t g off=>some (.fi t g off)
   | _=>none
 | .jX x d n=>match dU fr x,n with
   | .r (.agg cs),none=>(cs[d]?).map λx=> .r (.c x)
   | .r (.agg cs),some m=>if d+m<=cs.length then some (.r (.agg ((cs.drop d).take m))) else none
   | _,_=>none
 | .len x=>(lenOf (dU fr x)).map λn=>iS n
 | .idx x i sz=>match (dU fr x).Ls,(dU fr i).raw with
   | some (t,z,gs),some (.int _ j)=>if Eu sz z/\0<=j then (gs[j.toNat]?).map λg=> .fi t g 0 else none
   | _,_=>none
 | .ext x i=>match dU fr x with
   | .eE l=>(l[i]?).map .r
   | _=>none
 | .xH z ps=>match BL z with
   | some z=>(HI z (ps.map λ(o,s,x)=>(o,s,(dU fr x).tG))).map λcs=> .r (.agg cs)
   | none=>none
 | x=>match Lt x with
   | some l=>if l.all (λy=>(dU fr y).raw.isSome)=true then (pop (rev fr) x).map Et else none
   | none=>none
variable {K K':CH} {E E':TE} {fr:aR} {aP:Fr}
theorem Qu : ∀ {z:List ae} {l:List CV},BL z=some l->R2 (eO K E) l z:=λ{z l} h=>by
 unfold BL at h;split at h
 ·rename_i ha;injection h with h
  subst h;induction z with
  | nil=>exact .nil
  | cons v z a=>
    rw[List.all_cons,Bool.and_eq_true] at ha;exact .cons (YF ha.1) (a ha.2)
 cases h
theorem YG{v:ae}:bX K E (Et v) v:=by
 unfold Et;split
 ·rename_i cs;split;·rename_i l hl;exact .r (.agg (vs:=cs.toList) (Qu hl))
  exact .bad
 split;·rename_i h;exact .r (.c (YF h))
 exact .bad
theorem pf{a:AV}{u v:ae}(h:bX K E a v)(b:a.raw=some u):v=u:=by
 unfold AV.raw at b;split at b
 ·cases b;cases h with
  | r h=>
    cases h with
    | c h=>
      cases h with
      | s h=>cases h with | sc h=>rfl
 cases b
theorem iM(a : ∀t,bX K E (fr t) (aP t))(x:au):bX K E (dU fr x) (aO aP x):=by
 cases x with
 | tmp t=>exact a t
 | const v=>exact YG
 | _=>exact .bad
theorem HJ{a:AV}{v:ae}(h:bX K E a v){l:List CV}(b:a.tG=some l):R2 (eO K E) l v.cells.toList/\isVal v=true:=by
 unfold AV.tG at b;split at b
 ·cases b;cases h with
  | r h=>cases h with
    | c h=>rw[agz h.cell];exact⟨.cons h .nil,agA h.cell⟩
 ·cases b;cases h with
  | r h=>cases h with
    | agg h=>exact⟨h,rfl⟩
 cases b
theorem bX.tH{o off:Nat}{v:ae}(h:bX K E (.ptr o off) v) : ∃l,E.ρ o=some l/\v= .pointer (some ⟨l,off,none⟩):=by
 cases h with
 | ptr h=>exact⟨_,h,rfl⟩
def Own (K:CH)(E:TE)(t:Option Nat)(b:Nat):Prop:=match t with
 | none=>dv K E b
 | some t=>E.σ t=some b
theorem bX.Lu{t:Option Nat}{g:List SV}{off:Nat}{v:ae}(h:bX K E (.fi t g off) v) : ∃b base os e kd,Own K E t b/\K.ob b= .cells os e kd/\base+g.length<=os.length/\R2 (fL K (dv K E)) g ((os.drop base).take g.length)/\v= .pointer (some ⟨b,base+off,none⟩):=by
 cases h with
 | fi hb ho hl hs=>exact⟨_,_,_,_,_,hb,ho,hl,hs,rfl⟩
theorem Lv{α:Type}{sz:Nat} : ∀ {gs:List (List α)},(∀g∈gs,g.length=sz)->∀ {j:Nat} {g:List α},gs[j]? = some g->(gs.flatten.drop (j*sz)).take g.length=g/\j*sz+g.length<=gs.flatten.length
 | [],_,j,g,h=>by simp at h
 | a::gs,hg,0,g,h=>by
   simp at h;subst h;simp
 | a::gs,hg,j+1,g,h=>by
   have ha:=hg a s0;have b:=Lv (gs:=gs) (λx hx=>hg x (by simp[hx])) (j:=j) (g:=g) (by simpa using h);have e:(j+1)*sz=a.length+j*sz:=by rw[ha,oK];omega
   have hd:(a++gs.flatten).drop (a.length+j*sz)=gs.flatten.drop (j*sz):=by rw[<-gA,List.drop_left]
   rw[uh,e,hd];exact⟨b.1,by rw[bW];omega⟩
theorem BM{α:Type}{sz:Nat} : ∀ {gs:List (List α)},(∀g∈gs,g.length=sz)->gs.flatten.length=gs.length*sz
 | [],_=>by simp
 | a::gs,hg=>by
   rw[uh,bW,BM λx hx=>hg x (by simp[hx]),hg a s0,ay,oK];omega
theorem BN{a:AV}{v:ae}(h:bX K E a v){t:Option Nat}{z:Option Nat}{gs:List (List SV)}(d:a.rowOf=some (t,z,gs)):(gs= []/\v= .slice none 0 0)\/(gs≠ []/\gs.length<=maxLen)/\∃sz b os e kd,z=some sz/\Own K E t b/\K.ob b= .cells os e kd/\kd.eM=false/\(∀g∈gs,g.length=sz)/\fj K (dv K E) gs.flatten os/\v= .slice (some ⟨b,0,none⟩) gs.length gs.length:=by
 unfold AV.rowOf at d;split at d
 ·cases d;cases h with
  | r h=>cases h with
    | c h=>cases h with
      | s h=>cases h with
        | og=>exact .inl ⟨rfl,rfl⟩
        | row av hb ho hk hg hs=>exact .inr ⟨av,_,_,_,_,_,rfl,hb,ho,hk,hg,hs,rfl⟩
 ·cases d;exact .inl ⟨rfl,pf h rfl⟩
 ·cases d;cases h with
  | r h=>cases h with
    | c h=>cases h with
      | sG=>exact .inl ⟨rfl,rfl⟩
      | own av hb ho hk hg hs=>exact .inr ⟨av,_,_,_,_,_,rfl,hb,ho,hk,hg,hs,rfl⟩
 cases d
theorem agB{a:AV}{v:ae}(h:bX K E a v){t:Option Nat}{z:Option Nat}{gs:List (List SV)}(d:a.Ls=some (t,z,gs))(av:gs≠ []) : ∃sz b o c os e kd,z=some sz/\Own K E t b/\K.ob b= .cells os e kd/\(∀g∈gs,g.length=sz)/\o+gs.length*sz<=os.length/\fj K (dv K E) gs.flatten ((os.drop o).take (gs.length*sz))/\v= .slice (some ⟨b,o,none⟩) gs.length c:=by
 unfold AV.Ls at d;split at d
 ·cases d;cases h with
  | r h=>cases h with
    | c h=>cases h with
      | s h=>cases h with
        | wD=>exact absurd rfl av
        | sub _ hb ho hg hl hs=>exact⟨_,_,_,_,_,_,_,rfl,hb,ho,hg,hl,hs,rfl⟩
 rcases BN h d with ⟨e,_⟩ | ⟨_,sz,b,os,e,kd,k1,j,k,q,f,i,m⟩
 ·exact absurd e av
 have hl:os.length=gs.length*sz:=by
  rw[i.r2.len];have : ∀l:List (List SV),(∀g∈l,g.length=sz)->l.flatten.length=l.length*sz:=λl=>by
   induction l with
   | nil=>intro _;simp
   | cons a l n=>
     intro hg;rw[uh,bW,n λx hx=>hg x (by simp[hx]),hg a s0,ay,oK];omega
  exact this gs f
 exact⟨sz,b,0,gs.length,os,e,kd,k1,j,k,f,Om,by rw[sg,qk Om];exact i,m⟩
theorem agC{a:AV}{v:ae}(h:bX K E a v){n:Nat}(b:lenOf a=some n) : ∃q c,v= .slice q n c:=by
 unfold lenOf at b;split at b
 ·rename_i sz gs;cases b;rcases BN (t:=none) (z:=some sz) (gs:=gs) h rfl with ⟨rfl,hv⟩ | ⟨_,_,_,_,_,_,_,_,_,_,_,_,hv⟩
  ·exact⟨_,_,hv⟩
  exact⟨_,_,hv⟩
 ·rename_i t e sz gs;cases b;rcases BN (t:=some t) (z:=some sz) (gs:=gs) h rfl with ⟨rfl,hv⟩ | ⟨_,_,_,_,_,_,_,_,_,_,_,_,hv⟩
  ·exact⟨_,_,hv⟩
  exact⟨_,_,hv⟩
 ·cases b;exact⟨_,_,pf h rfl⟩
 ·cases b;cases h with
  | r h=>cases h with
    | c h=>cases h with
      | s h=>cases h with
        | wD=>exact⟨_,_,rfl⟩
        | sub=>exact⟨_,_,rfl⟩
 cases b
theorem R2.set{α:Type}{R:α->ae->Prop}{xs us:List α}{ys vs:List ae}(h:R2 R xs ys)(g:R2 R us vs){o:Nat}:R2 R (xs.take o++us++xs.drop (o+us.length)) (setCells ys o vs):=by
 unfold setCells;rw[g.len];exact((h.take o).app g).app (h.drop _)
theorem YH : ∀ {ps:List (Nat×Nat×Option (List CV))} {qs:List (Nat×Nat×ae)} {z:List CV} {zs:List ae} {cs:List CV},R2 (eO K E) z zs->R2 (λ(p:Nat×Nat×Option (List CV)) (q:Nat×Nat×ae)=>p.1=q.1/\p.2.1=q.2.1/\∀l,p.2.2=some l->R2 (eO K E) l q.2.2.cells.toList/\isVal q.2.2=true) ps qs->HI z ps=some cs->∃vs,jY zs qs=some vs/\R2 (eO K E) cs vs
 | [],_,z,zs,cs,hz, .nil,h=>by
   cases h;exact⟨zs,rfl,hz⟩
 | (o,s,none)::ps,_,z,zs,cs,hz, .cons _ _,h=>by cases h
 | (o,s,some l)::ps,(o',j,v)::qs,z,zs,cs,hz, .cons ⟨b,c,d⟩ ht,h=>by
   cases b;cases c;obtain⟨a,e⟩:=d l rfl;simp only[HI] at h;split at h
   ·rename_i hc;have f:v.cells.size=s:=by rw[<-Jj,a.len];exact hc.1
    obtain⟨vs,k1,i⟩:=YH (zs:=setCells zs o v.cells.toList) (by have:=hz.set a (o:=o);rw[hc.1] at this;exact this) ht h;refine⟨vs,?_,i⟩;show(if isVal v=true/\v.cells.size=s/\o+s<=zs.length then jY (setCells zs o v.cells.toList) qs else none)=_;rw[iP ⟨e,f,by rw[hz.len];exact hc.2⟩];exact k1
   cases h
theorem agD{ev ev':au->ae}{x:dM}{l:List au}(h:Lt x=some l)(he : ∀y∈l,ev' y=ev y):pop ev' x=pop ev x:=by
 cases x<;>simp only[Lt,Option.some.injEq,reduceCtorEq] at h<;>subst h;case A3 x lo hi=>
  have hx:=he x s0;have hl : ∀d,eJ ev' d lo=eJ ev d lo:=λd=>by
   cases lo with
   | none=>rfl
   | some y=>simp only[eJ,he y s0]
  have hh : ∀d,eJ ev' d hi=eJ ev d hi:=λd=>by
   cases hi with
   | none=>rfl
   | some y=>simp only[eJ,he y s0]
  simp only[pop,hx,hl,hh]
 all_goals simp only[List.mem_cons,List.mem_singleton,List.not_mem_nil,or_false,forall_eq_or_imp,forall_eq] at he
 all_goals simp only[pop,he]
theorem agF(b : ∀t,bX K E (fr t) (aP t)){x:dM}{a:AV}(h:(match Lt x with | some l=>if l.all (λy=>(dU fr y).raw.isSome)=true then (pop (rev fr) x).map Et else none | none=>none)=some a) : ∃v,pop (aO aP) x=some v/\bX K E a v:=by
 split at h
 ·rename_i l hl;split at h
  ·rename_i ha;have he : ∀y∈l,aO aP y=rev fr y:=λy c=>by
    have:=List.all_eq_true.1 ha y c;obtain⟨u,hu⟩:=Option.isSome_iff_exists.1 this;rw[pf (iM b y) hu,rev,hu];rfl
   rw[<-agD hl he] at h;cases hp:pop (aO aP) x with
   | none=>rw[hp] at h;cases h
   | some v=>rw[hp] at h;cases h;exact⟨v,rfl,YG⟩
  cases h
 cases h
theorem YI(f : ∀t,bX K E (fr t) (aP t)){x:dM}{a:AV}(h:pd fr x=some a) : ∃v,pop (aO aP) x=some v/\bX K E a v:=by
 cases x with
 | tu x=>cases h;exact⟨_,rfl,iM f x⟩
 | pick c x y=>
   simp only[pd] at h;split at h
   ·rename_i t hc;cases h;have:=pf (iM f c) hc;refine⟨if t=true then aO aP x else aO aP y,by simp only[pop,this],?_⟩;cases t;·exact iM f y
    exact iM f x
   cases h
 | off x d=>
   simp only[pd] at h;have hx:=iM f x;split at h;·rename_i o off e;cases h;rw[e] at hx;obtain⟨l,hl,hv⟩:=hx.tH;exact⟨_,by simp only[pop,hv], .ptr hl⟩
   ·rename_i t g off e;cases h;rw[e] at hx;obtain⟨b,base,os,F,kd,hb,ho,hl,hs,hv⟩:=hx.Lu;exact⟨.pointer (some ⟨b,base+(off+d),none⟩),by simp only[pop,hv,jS], .fi hb ho hl hs⟩
   cases h
 | A4 x=>
   simp only[pd] at h;have hx:=iM f x;split at h;·rename_i o off e;cases h;rw[e] at hx;obtain⟨l,hl,hv⟩:=hx.tH;exact⟨_,by simp only[pop,hv], .ptr hl⟩
   ·rename_i t g off e;cases h;rw[e] at hx;obtain⟨b,base,os,F,kd,hb,ho,hl,hs,hv⟩:=hx.Lu;exact⟨_,by simp only[pop,hv], .fi hb ho hl hs⟩
   cases h
 | jX x d n=>
   simp only[pd] at h;have hx:=iM f x;split at h
   ·rename_i cs e;rw[e] at hx;cases hv:aO aP x with
    | _=>
      rw[hv] at hx;cases hx;rename_i hx;cases hx;try(
       rename_i vs u;cases hc:cs[d]? with
       | none=>rw[hc] at h;cases h
       | some y=>
         rw[hc] at h;cases h;obtain⟨v,h1,h2⟩:=u.get hc;exact⟨v,by simp only[pop,hv,uj,h1], .r (.c h2)⟩)
      try(rename_i w;cases w)
   ·rename_i cs m e;rw[e] at hx;split at h
    ·rename_i A;cases h;cases hv:aO aP x with
     | _=>
       rw[hv] at hx;cases hx;rename_i hx;cases hx;try(
        rename_i vs u;exact⟨_,by simp only[pop,hv,uj];rw[iP (by rw[u.len];exact A)], .r (.agg ((u.drop d).take m))⟩)
       try(rename_i w;cases w)
    cases h
   cases h
 | len x=>
   simp only[pd] at h;have hx:=iM f x;cases hl:lenOf (dU fr x) with
   | none=>rw[hl] at h;cases h
   | some n=>
     rw[hl] at h;cases h;obtain⟨q,c,hv⟩:=agC hx hl;exact⟨_,by simp only[pop,hv], .r (.c (.s (.sc rfl)))⟩
 | idx x i sz=>
   simp only[pd] at h;split at h
   ·rename_i t z gs k j H C;split at h
    ·rename_i hc;obtain⟨hz,I⟩:=hc;cases hg:gs[j.toNat]? with
     | none=>rw[hg] at h;cases h
     | some g=>
       rw[hg] at h;cases h;have hi:=pf (iM f i) C;have O:=(List.getElem?_eq_some_iff.1 hg).1;obtain⟨mV,b,o,c,os,F,kd,rfl,k1,D,G,Q,J,hv⟩:=agB (iM f x) H (λe=>by rw[e] at hg;simp at hg);cases hz;obtain⟨L,R⟩:=Lv G hg;refine⟨_,by simp only[pop,hv,hi];rw[iP ⟨I,Om⟩],?_⟩;have u:=((J.r2.drop (j.toNat*sz)).take g.length);rw[L] at u;have S:=BM G;have C:((((os.drop o).take (gs.length*sz)).drop (j.toNat*sz)).take g.length)=(os.drop (o+j.toNat*sz)).take g.length:=by
        rw[List.drop_take,List.take_take,gA,Nat.min_eq_left Om]
       rw[C] at u;exact .fi (base:=o+j.toNat*sz) (off:=0) k1 D Om u
    cases h
   cases h
 | ext x i=>
   simp only[pd] at h;have hx:=iM f x;split at h
   ·rename_i l e;rw[e] at hx;cases hc:l[i]? with
    | none=>rw[hc] at h;cases h
    | some y=>
      rw[hc] at h;cases h;cases hv:aO aP x with
      | _=>
        rw[hv] at hx;cases hx;try(
         rename_i vs u;obtain⟨v,h1,h2⟩:=u.get hc;exact⟨v,by simp only[pop,hv];simpa using h1, .r h2⟩)
   cases h
 | xH z ps=>
   simp only[pd] at h;split at h
   ·rename_i M hz;cases hb:HI M (ps.map λ(o,s,x)=>(o,s,(dU fr x).tG)) with
    | none=>rw[hb] at h;cases h
    | some cs=>
      rw[hb] at h;cases h;obtain⟨vs,k1,D⟩:=YH (K:=K) (E:=E) (qs:=ps.map λ(o,s,x)=>(o,s,aO aP x)) (Qu hz) (by
       clear hb;induction ps with
       | nil=>exact .nil
       | cons p ps N=>exact .cons ⟨rfl,rfl,λl hl=>HJ (iM f p.2.2) hl⟩ N) hb
      exact⟨_,by simp only[pop];rw[k1];rfl, .r (.agg D)⟩
   cases h
 | _=>exact agF f h
end
section
open Go Go.RowKit
def Qw (fr:aR):Option au->Option Nat
 | none=>some 0
 | some x=>match (dU fr x).raw with
   | some (.int .i64 n)=>if 0<=n then some n.toNat else none
   | _=>none
def wG (fr:aR)(st:TS):gU->Option AV
 | .ld x=>match dU fr x with
   | .ptr o off=>match st.aw[o]? with
     | some (_,_,cs)=>(cs[off]?).map λx=> .r (.c x)
     | none=>none
   | .fi _ g off=>(g[off]?).map λx=> .r (.c (.s x))
   | _=>none
 | .jZ n x=>match dU fr x with
   | .ptr o off=>match st.aw[o]? with
     | some (_,_,cs)=>if off+n<=cs.length then some (.r (.agg ((cs.drop off).take n))) else none
     | none=>none
   | .fi _ g off=>if off+n<=g.length then some (.r (.agg (((g.drop off).take n).map .s))) else none
   | _=>none
 | .pC e sz x lo hi none=>match dU fr x,Qw fr lo with
   | .r (.c (.s (.row z gs))),some n=>match hi with
     | none=>if z=sz/\sz=5/\e=yJ/\Nat.ble n gs.length=true then some (.r (.c (.s (.sub sz (gs.drop n))))) else none
     | some h=>match (dU fr h).raw with
       | some (.int .i64 m)=>if z=sz/\sz=5/\e=yJ/\0<=m/\Nat.ble n m.toNat=true/\Nat.ble m.toNat gs.length=true then some (.r (.c (.s (.sub sz ((gs.drop n).take (m.toNat-n)))))) else none
       | _=>none
   | _,_=>none
 | _=>none
def CV.eP:CV->List Nat
 | .own t _ _ _=> [t]
 | _=> []
def CV.fz:CV->Option SV
 | .s x=>some x
 | .own _ _ sz gs=>some (pQ sz gs)
 | .bad=>none
def sH:List CV->Option (List SV)
 | []=>some []
 | x::r=>match x.fz,sH r with
   | some y,some ys=>some (y::ys)
   | _,_=>none
def mL (l:List Nat):Nat->SA:=λt=>if t∈l then .fz else .cX
def kU(o:Option Nat):Nat->SA:=λt=>if o=some t then .kill else .cX
def Ew (l:List Nat)(fr:aR):aR:=match l with
 | []=>fr
 | l=>fr.act (mL l)
def wH (l:List Nat)(st:TS):TS:=match l with
 | []=>st
 | l=>st.act (mL l)
def Ey (sz:Nat):List (Option (List CV))->Option (List (List CV))
 | []=>some []
 | some cs::r=>if cs.length=sz then (Ey sz r).map (cs:: ·) else none
 | none::_=>none
def HK:List (List CV)->Option (List (List SV))
 | []=>some []
 | g::r=>match sH g,HK r with
   | some y,some ys=>some (y::ys)
   | _,_=>none
def uT (fr:aR)(st:TS):oO->Option (AV×aR×TS)
 | .new e z=>match BL z with
   | some cs=>if eF cs= [] then some (.ptr st.aw.length 0,fr,⟨st.nt,st.aw++ [(0,e,cs)]⟩) else none
   | none=>none
 | .box e x=>match (dU fr x).tG with
   | some cs=>if eF cs= [] then some (.ptr st.aw.length 0,fr,⟨st.nt,st.aw++ [(0,e,cs)]⟩) else none
   | none=>none
 | .xR e sz n z ps=>if ps.map (·.1)=List.range n/\0<n/\n*sz<=16777216/\n<=16777216/\HG e sz=true then
    match Ey sz (ps.map λp=>(dU fr p.2).tG) with
    | some gs=>match HK gs with
      | some hs=>some (.r (.c (.own st.nt e sz hs)),Ew (gs.flatten.flatMap CV.eP) fr,⟨st.nt+1,(wH (gs.flatten.flatMap CV.eP) st).aw⟩)
      | none=>none
    | none=>none
   else none
 | _=>none
def AV.Qx:AV->Option (Option (Nat×aH×Nat)×List (List SV))
 | .r (.c (.own t e sz gs))=>some (some (t,e,sz),gs)
 | .r (.c (.s (.row _ [])))=>some (none,[])
 | _=>none
def Qy(e sz:aH):Option (Nat×aH×Nat)->Prop
 | none=>True
 | some (_,e',mV)=>e'=e/\mV=sz
instance {e sz:aH} : ∀ {o:Option (Nat×aH×Nat)},Decidable (Qy e sz o)
 | none=>inferInstanceAs (Decidable True)
 | some (_,e',mV)=>inferInstanceAs (Decidable (e'=e/\mV=sz))
def Lw (o:Option (Nat×aH×Nat))(fr:aR):aR:=match o with
 | none=>fr
 | some (t,_)=>fr.act (kU (some t))
def BO (o:Option (Nat×aH×Nat))(st:TS):TS:=match o with
 | none=>st
 | some (t,_)=>st.act (kU (some t))
def wI (fr:aR)(st:TS):hO->Option (AV×aR×TS)
 | .st n x v=>match dU fr x,(dU fr v).tG with
   | .ptr o off,some a=>match st.aw[o]? with
     | some (mh,e,cs)=>if a.length=n/\off+n<=cs.length/\eF a= []/\eF ((cs.drop off).take a.length)= [] then some (.bad,fr,⟨st.nt,st.aw.set o (mh+1,e,cs.take off++a++cs.drop (off+a.length))⟩) else none
     | none=>none
   | _,_=>none
 | .app e sz bytes s x=>match (dU fr s).Qx,(dU fr x).rowOf with
   | some (o,gs),some (_,z,hs)=>if Qy e sz o/\Eu sz z/\(gs.length+hs.length)*bytes<=140737488355328/\gs.length+hs.length<=maxLen/\HG e sz=true then
      some (.r (.c (.own st.nt e sz (gs++hs))),Lw o fr,⟨st.nt+1,(BO o st).aw⟩) else none
   | _,_=>none
 | _=>none
structure fY(K:CH)(st:TS)(E:TE)(K':CH)(aT:TS)(E':TE):Prop where
 hid : ∀b,E.hid b->E'.hid b
 ee : ∀o b,E.ρ o=some b->E'.ρ o=some b
 mh : ∀o v e cs,st.aw[o]? = some (v,e,cs)->∃v' cs',aT.aw[o]? = some (v',e,cs')/\v<=v'/\(v'=v->∀b,E.ρ o=some b->K'.ob b=K.ob b)
variable {T:cF} {Z:TP} {K0 K K' BP:CH} {sp:Option Nat} {W0:Nat->Prop} {st aT sI:TS} {fr:aR} {aP:Fr} {E E' sJ:TE}
theorem fY.refl:fY K st E K st E:=⟨λ_ h=>h,λ_ _ h=>h,λo v e cs h=>⟨v,cs,h,ag _,λ_ _ _=>rfl⟩⟩
theorem fY.trans(h:fY K st E K' aT E')(g:fY K' aT E' BP sI sJ):fY K st E BP sI sJ:=⟨λb q=>g.hid b (h.hid b q),λo b q=>g.ee o b (h.ee o b q),λo v e cs q=>by
 obtain⟨a,c,k1,d,f⟩:=h.mh o v e cs q;obtain⟨i,j,k,l,m⟩:=g.mh o a e c k1;exact⟨i,j,k,cM d l,λe b hb=>(m Om b (h.ee o b hb)).trans (f Om b hb)⟩⟩
theorem agG{A:Nat->Prop}(a : ∀t,bX K E (fr t) (aP t)){lo:Option au}{n:Nat}(h:Qw fr lo=some n):eJ (aO aP) 0 lo=some (n:Int):=by
 unfold Qw at h;split at h;·cases h;rfl
 rename_i x;split at h
 ·rename_i m e;split at h;·rename_i b;cases h;have:=pf (iM a x) e;simp only[eJ,this];rw[Int.toNat_of_nonneg b]
  cases h
 cases h
theorem YJ{A:Nat->Prop}{gs:List (List SV)}{sz e:Nat}{v:ae}(h:fL K A (.row sz gs) v)(h5:sz=5)(he:e=yJ):px K e v=true:=by
 cases h with
 | og=>rfl
 | @row b _ os e' kd _ av hb ho hk hg hs ht=>
   have:=ht h5;subst this he;simp only[px,ho];cases kd with
   | ro=>cases hk
   | _=>exact beq_self_eq_true _
theorem YK{A:Nat->Prop}{gs:List (List SV)}{sz n m:Nat}{v:ae}(h:fL K A (.row sz gs) v)(h1:n<=m)(h2:m<=gs.length) : ∃w,sm sz v n m (v8 v) false=some w/\fL K A (.sub sz ((gs.drop n).take (m-n))) w:=by
 cases h with
 | og=>
   have:n=0/\m=0:=by simp at h2;omega
   obtain⟨f,o⟩:=this;subst f o;exact⟨.slice none 0 0,rfl, .wD⟩
 | @row b _ os e kd _ av hb ho hk hg hs ht=>
   have q:os.length=gs.length*sz:=by rw[hs.r2.len,BM hg]
   have j:(n:Int)<=m:=by omega
   have r:sm sz (.slice (some ⟨b,0,none⟩) gs.length gs.length) n m (v8 (.slice (some ⟨b,0,none⟩) gs.length gs.length)) false=if 0<=(n:Int)/\(n:Int)<=m/\(m:Int)<=(gs.length:Nat)/\((gs.length:Nat):Int)<=gs.length then (if (n:Int)=(gs.length:Nat) then some (.slice (some ⟨b,0+(n:Int).toNat*sz,none⟩) 0 0) else some (.slice (some ⟨b,0+(n:Int).toNat*sz,none⟩) ((m:Int)-n).toNat (((gs.length:Nat):Int)-n).toNat)) else none:=rfl
   rw[r,iP ⟨Om,j,Om,Int.le_refl _⟩];by_cases hn:n=gs.length
   ·have f:(gs.drop n).take (m-n)= []:=by rw[hn,List.drop_length,List.take_nil]
    rw[iP Om,f];exact⟨_,rfl, .wD⟩
   rw[iN Om];have f:((gs.drop n).take (m-n)).length=((m:Int)-n).toNat:=by rw[nP,iE];omega
   have s:Int.toNat (n:Int)=n:=by omega
   rw[s,iX];by_cases t:m=n
   ·subst t;rw[Nat.sub_self,List.take_zero];have u:((m:Int)-m).toNat=0:=by omega
    rw[u];exact⟨_,rfl, .wD⟩
   refine⟨_,rfl,?_⟩;rw[<-f];have d:((gs.drop n).take (m-n)).length=m-n:=by rw[nP,iE];omega
   have i:n*sz+(m-n)*sz<=gs.length*sz:=by rw[<-oK];exact Nat.mul_le_mul_right _ Om
   refine .sub ⟨λe=> ?_,by rw[d];have:=av.2;omega⟩ hb ho (λg y=>hg g (List.mem_of_mem_drop (List.mem_of_mem_take y))) (by rw[d,q];exact i) ?_ ht;·rw[e] at d;simp at d;omega
   have hd : ∀(l:List (List SV)) (n:Nat),(∀g∈l,g.length=sz)->(l.drop n).flatten=l.flatten.drop (n*sz):=λl=>by
    induction l with
    | nil=>intro n _;simp
    | cons a l k=>
      intro n hg;cases n with
      | zero=>simp
      | succ n=>
        rw[FJ,k n λg h=>hg g (by simp[h]),uh,oK,Nat.one_mul,CX,<-gA];congr 1
        have:=hg a s0;rw[<-this,List.drop_left]
   have ht : ∀(l:List (List SV)) (n:Nat),(∀g∈l,g.length=sz)->(l.take n).flatten=l.flatten.take (n*sz):=λl=>by
    induction l with
    | nil=>intro n _;simp
    | cons a l k=>
      intro n hg;cases n with
      | zero=>simp
      | succ n=>
        have:=hg a s0;rw[Jt,uh,k n λg h=>hg g (by simp[h]),uh,oK,Nat.one_mul,CX,<-this,List.take_append];congr 1
        ·rw[qk Om]
        congr 1;omega
   rw[d,ht _ _ λg h=>hg g (List.mem_of_mem_drop h),hd _ _ hg];exact((hs.r2.drop (n*sz)).take ((m-n)*sz)).HH
theorem Lx(h:TR Z K0 sp W0 K st fr aP E){x:gU}{a:AV}(hx:wG fr st x=some a) : ∃v,bg K (aO aP) x=some v/\bX K E a v:=by
 cases x with
 | ld x=>
   simp only[wG] at hx;have f:=iM h.fG x;split at hx
   ·rename_i o off e;rw[e] at f;obtain⟨l,hl,hv⟩:=f.tH;split at hx
    ·rename_i mh D cs ho;obtain⟨b,os,k1,F,u⟩:=h.aw o _ _ _ ho;rw[hl] at k1;cases k1;cases hc:cs[off]? with
     | none=>rw[hc] at hx;cases hx
     | some y=>
       rw[hc] at hx;cases hx;obtain⟨v,i,j⟩:=u.get hc;exact⟨v,by simp only[bg,hv,F,i], .r (.c j)⟩
    cases hx
   ·rename_i t g off e;rw[e] at f;obtain⟨b,base,os,D,kd,hb,ho,hl,hs,hv⟩:=f.Lu;cases hc:g[off]? with
    | none=>rw[hc] at hx;cases hx
    | some y=>
      rw[hc] at hx;cases hx;obtain⟨v,i,j⟩:=hs.get hc;have L:=(List.getElem?_eq_some_iff.1 hc).1;rw[AO L,se] at i;exact⟨v,by simp only[bg,hv,ho,i], .r (.c (.s j))⟩
   cases hx
 | jZ n x=>
   simp only[wG] at hx;have f:=iM h.fG x;split at hx
   ·rename_i o off e;rw[e] at f;obtain⟨l,hl,hv⟩:=f.tH;split at hx
    ·rename_i mh D cs ho;obtain⟨b,os,k1,F,u⟩:=h.aw o _ _ _ ho;rw[hl] at k1;cases k1;split at hx;·rename_i k;cases hx;exact⟨_,by simp only[bg,hv,F];rw[iP (by rw[u.len];exact k)], .r (.agg ((u.drop off).take n))⟩
     cases hx
    cases hx
   ·rename_i t g off e;rw[e] at f;obtain⟨b,base,os,D,kd,hb,ho,hl,hs,hv⟩:=f.Lu;split at hx
    ·rename_i k;cases hx;have q:=(hs.drop off).take n;have e:(((os.drop base).take g.length).drop off).take n=(os.drop (base+off)).take n:=by
      rw[List.drop_take,List.take_take,gA,Nat.min_eq_left Om]
     rw[e] at q;exact⟨_,by simp only[bg,hv,ho];rw[iP Om], .r (.agg (q.map λ_ _ q=> .s q))⟩
    cases hx
   cases hx
 | pC e sz x lo hi mx=>
   cases mx with
   | some=>cases hx
   | none=>
     simp only[wG] at hx;split at hx
     ·rename_i z gs n M N;have f:=iM h.fG x;rw[M] at f;have J:=agG (A:=λ_=>True) h.fG N;cases f with
      | r f=>cases f with
        | c f=>cases f with
          | s f=>
            obtain⟨v,hv⟩ : ∃v,aO aP x=v:=⟨_,rfl⟩;rw[hv] at f;have O:xI v=gs.length:=by cases f<;>rfl
            split at hx
            ·split at hx
             ·rename_i hc;obtain⟨rfl,h5,he,hc⟩:=hc;cases hx;have hn:=iY hc;have G:=YJ f h5 he;obtain⟨w,i,j⟩:=YK (n:=n) (m:=gs.length) f hn (ag _);rw[qk (by rw[iE];omega)] at j;refine⟨w,?_, .r (.c (.s j))⟩;show(match eJ (aO aP) 0 lo,eJ (aO aP) (xI (aO aP x)) none,eJ (aO aP) (v8 (aO aP x)) none with
               | some l,some h,some m=>if px K e (aO aP x)&&((none:Option au).isNone||(none:Option au).isSome) then sm z (aO aP x) l h m (none:Option au).isSome else none
               | _,_,_=>none)=some w
              rw[J,hv,O];show(if px K e v&&true then _ else _)=some w;rw[G];exact i
             cases hx
            rename_i C;split at hx
            ·rename_i m Q;split at hx
             ·rename_i hc;obtain⟨rfl,h5,he,R,H,I⟩:=hc;cases hx;have hh:=pf (iM h.fG C) Q;have G:=YJ f h5 he;obtain⟨w,i,j⟩:=YK (n:=n) (m:=m.toNat) f (iY H) (iY I);refine⟨w,?_, .r (.c (.s j))⟩;rw[Int.toNat_of_nonneg R] at i;show(match eJ (aO aP) 0 lo,eJ (aO aP) (xI (aO aP x)) (some C),eJ (aO aP) (v8 (aO aP x)) none with
               | some l,some h,some m=>if px K e (aO aP x)&&((none:Option au).isNone||(some C).isSome) then sm z (aO aP x) l h m (none:Option au).isSome else none
               | _,_,_=>none)=some w
              have hb : ∀d,eJ (aO aP) d (some C)=some m:=λd=>by simp only[eJ,hh]
              rw[J,hv,hb];show(if px K e v&&true then _ else _)=some w;rw[G];exact i
             cases hx
            cases hx
     cases hx
 | _=>cases hx
theorem CV.kV{x:CV}:x.act (λ_=> .cX)=x:=by cases x<;>rfl
theorem RV.kV{x:RV}:x.act (λ_=> .cX)=x:=by
 cases x with
 | c x=>exact congrArg RV.c CV.kV
 | agg cs=>exact congrArg RV.agg ((vT λx _=>CV.kV).trans (List.map_id' cs))
theorem AV.kV{x:AV}:x.act (λ_=> .cX)=x:=by
 cases x with
 | r x=>exact congrArg AV.r RV.kV
 | fi t g off=>cases t<;>rfl
 | eE l=>exact congrArg AV.eE ((vT λx _=>RV.kV).trans (List.map_id' l))
 | _=>rfl
theorem aR.kV{fr:aR}:fr.act (λ_=> .cX)=fr:=funext λt=>AV.kV
theorem TS.kV{st:TS}:(st.act (λ_=> .cX)).aw=st.aw:=by
 show st.aw.map _=_;refine(vT λx _=> ?_).trans (List.map_id' _);obtain⟨v,e,cs⟩:=x;show(v,e,cs.map (CV.act λ_=> .cX))=(v,e,cs);rw[(vT λx _=>CV.kV).trans (List.map_id' cs)]
theorem YL:mL []=λ_=> .cX:=by funext t;simp[mL]
theorem Ly{l:List Nat}:Ew l fr=fr.act (mL l):=by
 cases l with
 | nil=>rw[YL,aR.kV];rfl
 | cons=>rfl
theorem Lz{l:List Nat}:(wH l st).aw=(st.act (mL l)).aw:=by
 cases l with
 | nil=>rw[YL,TS.kV];rfl
 | cons=>rfl
theorem Ez : ∀ {a b:List CV},eF (a++b)=eF a++eF b
 | [],b=>rfl
 | x::a,b=>by
   have d:=Ez (a:=a) (b:=b);cases x with
   | s y=>cases y with
     | lk z=>show z::eF (a++b)=z::eF a++eF b;rw[d];rfl
     | sc v=>exact d
     | row sz gs=>exact d
     | sub sz gs=>exact d
   | own=>exact d
   | bad=>exact d
theorem BR{x:CV}{l:List CV}:eF (x::l)=eF [x]++eF l:=Ez (a:= [x]) (b:=l)
theorem YM{g:Nat->SA} : ∀ {cs:List CV},eF (cs.map (CV.act g))=eF cs
 | []=>rfl
 | x::cs=>by
   rw[dk,BR,BR (x:=x),YM];congr 1
   cases x with
   | s y=>rfl
   | bad=>rfl
   | own t e sz gs=>
     show eF [match g t with | .cX=>CV.own t e sz gs | .fz=> .s (pQ sz gs) | .kill=> .bad]= [];cases g t<;>rfl
theorem yK{x:CV}{v:ae}{l:List CV}{vs:List ae}:jM (x::l) (v::vs)=jM [x] [v]++jM l vs:=by
 cases x with
 | s y=>cases y<;>rfl
 | bad=>rfl
 | own=>rfl
theorem HL : ∀ {a b:List CV} {us vs:List ae},a.length=us.length->jM (a++b) (us++vs)=jM a us++jM b vs
 | [],b,[],vs,_=>by simp[jM]
 | x::a,b,u::us,vs,h=>by
   rw[aS,aS,yK,HL (by simpa using h),yK (l:=a),aG]
theorem Qz : ∀ {a:List CV} {us:List ae},eF a= []->jM a us= []
 | [],us,_=>by cases us<;>rfl
 | x::a,us,h=>by
   rw[BR] at h;obtain⟨h1,h2⟩:=List.append_eq_nil_iff.1 h;cases us with
   | nil=>cases x with
     | s y=>cases y<;>rfl
     | bad=>rfl
     | own=>rfl
   | cons u us=>
     rw[yK,Qz h2];cases x with
     | s y=>
       cases y with
       | lk x=>cases h1
       | _=>rfl
     | bad=>rfl
     | own=>rfl
theorem YN{g:Nat->SA} : ∀ {cs:List CV} {vs:List ae},jM (cs.map (CV.act g)) vs=jM cs vs
 | [],vs=>rfl
 | x::cs,[]=>by
   cases x with
   | s y=>cases y<;>rfl
   | bad=>rfl
   | own t e sz gs=>
     rw[dk];show jM ((match g t with | .cX=>CV.own t e sz gs | .fz=> .s (pQ sz gs) | .kill=> .bad)::_) []= [];cases g t<;>rfl
 | x::cs,v::vs=>by
   rw[dk,yK,yK (x:=x),YN];congr 1
   cases x with
   | s y=>rfl
   | bad=>rfl
   | own t e sz gs=>
     show jM [match g t with | .cX=>CV.own t e sz gs | .fz=> .s (pQ sz gs) | .kill=> .bad] [v]= [];cases g t<;>rfl
theorem agH{cs us:List CV}{off:Nat}(h1:eF us= [])(h2:eF ((cs.drop off).take us.length)= []):eF (cs.take off++us++cs.drop (off+us.length))=eF cs:=by
 have e:cs=cs.take off++((cs.drop off).take us.length++cs.drop (off+us.length)):=by
  rw[<-gA,xu,xu]
 rw[Ez,Ez,h1,cp];conv=>rhs;rw[e,Ez,Ez,h2,a6]
theorem agI{cs us:List CV}{os vs:List ae}{off:Nat}(h1:eF us= [])(h2:eF ((cs.drop off).take us.length)= [])(hl:cs.length=os.length)(hu:us.length=vs.length)(ho:off+us.length<=cs.length):jM (cs.take off++us++cs.drop (off+us.length)) (setCells os off vs)=jM cs os:=by
 have e : ∀ {α:Type} (cs:List α),cs=cs.take off++((cs.drop off).take us.length++cs.drop (off+us.length)):=λcs=>by
  rw[<-gA,xu,xu]
 have a:(cs.take off).length=(os.take off).length:=by simp[hl]
 have b:((cs.drop off).take us.length).length=((os.drop off).take us.length).length:=by simp[hl]
 unfold setCells;rw[HL (by rw[bW,bW,a,hu]),HL a,Qz h1,cp,<-hu];conv=>rhs;rw[e cs,e os,HL a,HL b,Qz h2,a6]
theorem JR.mv{l l':List (Nat×aH×List CV)}{W:Nat->Prop}(h:JR Z l K sp W)(hl:l'.length=l.length)(a : ∀v e cs,l[0]? = some (v,e,cs)->∃v' cs',l'[0]? = some (v',e,cs')/\eF cs'=eF cs/\cs'.length=cs.length/\(eF cs≠ []->∀p os,sp=some p->K.ob p= .cells os e .ex->∃os',K'.ob p= .cells os' e .ex/\os'.length=os.length/\jM cs' os'=jM cs os))(hw : ∀b,W b->K'.ob b=K.ob b)(hn:K.nx<=K'.nx):JR Z l' K' sp W:=by
 match l,l',h,hl,a with
 | [],[],h,_,_=>exact h
 | (v,e,cs)::r,(v',e',cs')::n,h,_,a=>
   obtain⟨o,q,d,c,f,i⟩:=a v e cs rfl;cases d;rcases h with ⟨h1,h2⟩ | ⟨h1,p,os,h2,h3,h4,h5⟩
   ·exact .inl ⟨c.trans h1,h2⟩
   obtain⟨os',j,k,m⟩:=i h1 p os h2 h3;refine .inr ⟨by rw[c];exact h1,p,os',h2,j,by rw[k,h4,f],?_⟩;rw[c,m];exact Z.jm h5 hw hn
theorem JR.act{l:List (Nat×aH×List CV)}{W:Nat->Prop}{g:Nat->SA}(h:JR Z l K sp W)(hp : ∀p,sp=some p->K'.ob p=K.ob p)(hw : ∀b,W b->K'.ob b=K.ob b)(hn:K.nx<=K'.nx):JR Z (l.map λ(v,e,cs)=>(v,e,cs.map (CV.act g))) K' sp W:=by
 refine h.mv (by rw[lW]) (λv e cs q=>⟨v,cs.map (CV.act g),by rw[ky,q];rfl,YM,by rw[lW],λ_ p os h1 h2=>⟨os,(hp p h1).trans h2,rfl,YN⟩⟩) hw hn
theorem TR.step(h:TR Z K0 sp W0 K st fr aP E){g:Nat->SA}(m:Mv K E g K' E'){BS:Nat}(i:K.nx<=K'.nx)(hk : ∀b,b<K.nx->(∀t,E.σ t≠some b)->K'.ob b=K.ob b)(r:E'.hid=E.hid)(k : ∀t b,E'.σ t=some b->K0.nx<=b/\b<K'.nx/\t<BS/\(∀o,E.ρ o≠some b)/\¬E.hid b)(l : ∀t t' b,E'.σ t=some b->E'.σ t'=some b->t=t')(f:E'.ρ=E.ρ):TR Z K0 sp W0 K' ⟨BS,(st.act g).aw⟩ (fr.act g) aP E':=by
 have d : ∀b,b<K0.nx->K'.ob b=K.ob b:=λb hb=>hk b (ep hb h.nx) λt ht=>by have:=(h.sig t b ht).1;omega
 refine⟨cM h.nx i,λb hb hp hw=>(d b hb).trans (h.cX b hb hp hw),λb hb=> ?_,λb hb=> ?_,?_,λt b q=> ?_,l,λt o b q=> ?_,λo b q=> ?_,λo o' b q j=> ?_,λo v e cs q=> ?_,λt=>(h.fG t).mv m⟩;·obtain⟨k1,a,c,u⟩:=h.rH b hb;exact⟨k1,a,c,(d b k1).trans u⟩
 ·rw[r] at hb;obtain⟨k1,a,c⟩:=h.hid b hb;exact⟨ep k1 i,λt q=>(k t b q).2.2.2.2 hb,λo q=>c o (by rwa [f] at q)⟩
 ·obtain⟨W,s,w⟩:=h.wr;refine⟨W,λb hb=>by rw[r];exact s b hb,?_⟩;rw[f];refine w.act (λp q=>hk p (h.ee 0 p q).1 λt j=>h.sr t 0 p j q) (λb hb=> ?_) i;obtain⟨k1,a,_⟩:=h.hid b (s b hb).1;exact hk b k1 a
 ·obtain⟨k1,a,c,_⟩:=k t b q;exact⟨k1,a,c⟩
 ·rw[f];exact(k t b q).2.2.2.1 o
 ·rw[f] at q;obtain⟨k1,a,c⟩:=h.ee o b q;exact⟨ep k1 i,a,by show o<(st.aw.map _).length;rw[lW];exact c⟩
 ·rw[f] at q j;exact h.pR o o' b q j
 have q:(st.aw.map λ(v,e,cs)=>(v,e,cs.map (CV.act g)))[o]? = some (v,e,cs):=q;rw[ky] at q;cases n:st.aw[o]? with
 | none=>rw[n] at q;cases q
 | some y=>
   rw[n] at q;obtain⟨x,z,A⟩:=y;cases q;obtain⟨b,os,k1,a,c⟩:=h.aw o _ _ _ n;refine⟨b,os,by rw[f];exact k1,(hk b (h.ee o b k1).1 λt ht=>h.sr t o b ht k1).trans a,c.map λ_ _ q=>q.mv m⟩
theorem fY.act{g:Nat->SA}(a:E'.hid=E.hid)(c:E'.ρ=E.ρ)(ho : ∀o b,E.ρ o=some b->K'.ob b=K.ob b){BS:Nat}:fY K st E K' ⟨BS,(st.act g).aw⟩ E':=⟨λb q=>(by rw[a];exact q),λo b h=>by rw[c];exact h,λo v e cs h=>⟨v,cs.map (CV.act g),by
 show(st.aw.map _)[o]? = _;rw[ky,h];rfl,ag _,λ_ b hb=>ho o b hb⟩⟩
theorem TR.fz(h:TR Z K0 sp W0 K st fr aP E)(l:List Nat) : ∃E',TR Z K0 sp W0 K ⟨st.nt,(st.act (mL l)).aw⟩ (fr.act (mL l)) aP E'/\Mv K E (mL l) K E'/\fY K st E K ⟨st.nt,(st.act (mL l)).aw⟩ E'/\E'=⟨λt=>if t∈l then none else E.σ t,E.ρ,E.hid⟩:=by
 have hs : ∀t b,(if t∈l then none else E.σ t)=some b->t∉l/\E.σ t=some b:=λt b q=>by
  split at q;·cases q
  rename_i hn;exact⟨hn,q⟩
 have m:Mv K E (mL l) K ⟨λt=>if t∈l then none else E.σ t,E.ρ,E.hid⟩:=by
  refine⟨λb hb=>⟨⟨hb.1,hb.2.1,λt q=>hb.2.2.1 t (hs t b q).2,hb.2.2.2⟩,rfl⟩,λt b q e=>⟨?_,rfl⟩,λt b q e=>⟨?_,rfl⟩,λo b q=>q⟩
  ·show(if t∈l then none else E.σ t)=some b;unfold mL at e;split at e;·cases e
   rename_i hn;rw[iN hn];exact q
  unfold mL at e;split at e;·rename_i hn;obtain⟨k1,c,f⟩:=h.sig t b q;refine⟨c,λhh=>(h.hid b hh).2.1 t q,λt' d=> ?_,λo=>h.sr t o b q⟩;obtain⟨i,a⟩:=hs t' b d;exact i (h.inj t t' b q a▸hn)
  cases e
 exact⟨_,h.step m (ag _) (λ_ _ _=>rfl) rfl (λt b q=>by
  obtain⟨i,a⟩:=hs t b q;obtain⟨k1,c,f⟩:=h.sig t b a;exact⟨k1,c,f,λo=>h.sr t o b a,λhh=>(h.hid b hh).2.1 t a⟩) (λt t' b q d=>h.inj t t' b (hs t b q).2 (hs t' b d).2) rfl,m,fY.act (E:=E) (E':=⟨λt=>if t∈l then none else E.σ t,E.ρ,E.hid⟩) rfl rfl (λ_ _ _=>rfl),rfl⟩
theorem TR.row(h:TR Z K0 sp W0 K st fr aP E){os:List ae}{e:aH}{kd:Kd}{sz:Nat}{gs:List (List SV)}(av:gs≠ []/\gs.length<=maxLen)(hk:kd.eM=false)(hg : ∀g∈gs,g.length=sz)(hs:fj K (dv K E) gs.flatten os)(j:sz=5->e=yJ) : ∃E',TR Z K0 sp W0 (K.new (.cells os e kd)) ⟨st.nt+1,st.aw⟩ fr aP E'/\fY K st E (K.new (.cells os e kd)) ⟨st.nt+1,st.aw⟩ E'/\bX (K.new (.cells os e kd)) E' (.r (.c (.own st.nt e sz gs))) (.slice (some ⟨K.nx,0,none⟩) gs.length gs.length):=by
 have k : ∀b,E.σ st.nt≠some b:=λb q=>by have:=(h.sig _ b q).2.2;omega
 have d : ∀b,b<K.nx->(K.new (.cells os e kd)).ob b=K.ob b:=λb hb=>kc Om;have f : ∀t b,(if t=st.nt then some K.nx else E.σ t)=some b->(t=st.nt/\b=K.nx)\/(t≠st.nt/\E.σ t=some b):=λt b q=>by
  split at q;·rename_i e;cases q;exact .inl ⟨e,rfl⟩
  rename_i e;exact .inr ⟨e,q⟩
 have m:Mv K E (λ_=> .cX) (K.new (.cells os e kd)) ⟨λt=>if t=st.nt then some K.nx else E.σ t,E.ρ,E.hid⟩:=by
  refine⟨λb hb=>⟨⟨FK hb.1,hb.2.1,λt q=> ?_,hb.2.2.2⟩,d b hb.1⟩,λt b q _=>⟨?_,d b (h.sig t b q).2.1⟩,(λ_ _ _ q=>(by cases q)),λo b q=>q⟩
  ·have:=hb.1;rcases f t b q with ⟨_,e⟩ | ⟨_,e⟩
   ·omega
   exact hb.2.2.1 t e
  show(if t=st.nt then some K.nx else E.σ t)=some b;rw[iN (λe=>k b (by rw[<-e];exact q))];exact q
 have ht:=h.step m (BS:=st.nt+1) (nq _) (λb hb _=>d b hb) rfl (λt b q=>by
  rcases f t b q with ⟨i,a⟩ | ⟨i,a⟩
  ·subst a;exact⟨h.nx,pw _,Om,λo q=>by have:=(h.ee o _ q).1;omega,λhh=>by have:=(h.hid _ hh).1;omega⟩
  ·obtain⟨k1,n,u⟩:=h.sig t b a;exact⟨k1,FK n,Om,λo=>h.sr t o b a,λhh=>(h.hid b hh).2.1 t a⟩) (λt t' b q s=>by
  rcases f t b q with ⟨i,a⟩ | ⟨i,a⟩<;>rcases f t' b s with ⟨f1,f2⟩ | ⟨f1,f2⟩
  ·omega
  ·have:=(h.sig t' b f2).2.1;omega
  ·have:=(h.sig t b a).2.1;omega
  exact h.inj t t' b a f2) rfl
 rw[aR.kV,TS.kV] at ht;refine⟨_,ht,?_, .r (.c (.own av (iP rfl) (Wd rfl) hk hg (hs.mv m.hU) j))⟩;have:=fY.act (K:=K) (st:=st) (E:=E) (K':=K.new (.cells os e kd)) (E':=⟨λt=>if t=st.nt then some K.nx else E.σ t,E.ρ,E.hid⟩) (g:=λ_=> .cX) (BS:=st.nt+1) rfl rfl λo b q=>d b (h.ee o b q).1;rwa [TS.kV] at this
theorem TR.kil(h:TR Z K0 sp W0 K st fr aP E)(t:Nat){o:dm} : ∃E',TR Z K0 sp W0 (match E.σ t with | some b=>K.set b o | none=>K) ⟨st.nt,(st.act (kU (some t))).aw⟩ (fr.act (kU (some t))) aP E'/\Mv K E (kU (some t)) (match E.σ t with | some b=>K.set b o | none=>K) E'/\fY K st E (match E.σ t with | some b=>K.set b o | none=>K) ⟨st.nt,(st.act (kU (some t))).aw⟩ E':=by
 obtain⟨K',d⟩ : ∃K',(match E.σ t with | some b=>K.set b o | none=>K)=K':=⟨_,rfl⟩;rw[d];have f:K'.nx=K.nx:=by rw[<-d];cases E.σ t<;>rfl
 have c : ∀b,E.σ t≠some b->K'.ob b=K.ob b:=λb hb=>by
  rw[<-d];cases he:E.σ t with
  | none=>rfl
  | some b'=>exact Pb (λe=>hb (by rw[he,e]))
 have hs : ∀t' b,(if t'=t then none else E.σ t')=some b->t'≠t/\E.σ t'=some b:=λt' b q=>by
  split at q;·cases q
  rename_i hn;exact⟨hn,q⟩
 have av : ∀t' b,t'≠t->E.σ t'=some b->E.σ t≠some b:=λt' b hn q a=>hn (h.inj t' t b q a);have m:Mv K E (kU (some t)) K' ⟨λt'=>if t'=t then none else E.σ t',E.ρ,E.hid⟩:=by
  refine⟨λb hb=>⟨⟨by rw[f];exact hb.1,hb.2.1,λt' q=>hb.2.2.1 t' (hs t' b q).2,hb.2.2.2⟩,c b (hb.2.2.1 t)⟩,λt' b q e=> ?_,λt' b q e=> ?_,λo b q=>q⟩
  ·unfold kU at e;split at e;·cases e
   rename_i hn;have hn:t'≠t:=λe=>hn (by rw[e]);exact⟨(iN hn).trans q,c b (av t' b hn q)⟩
  unfold kU at e;split at e<;>cases e
 refine⟨_,h.step m (by rw[f];exact ag _) (λb _ hb=>c b (hb t)) rfl (λt' b q=> ?_) (λt1 t2 b q a=>h.inj t1 t2 b (hs t1 b q).2 (hs t2 b a).2) rfl,m,fY.act (E:=E) (E':=⟨λt'=>if t'=t then none else E.σ t',E.ρ,E.hid⟩) rfl rfl λo b q=>c b λa=>h.sr t o b a q⟩;obtain⟨l,i⟩:=hs t' b q;obtain⟨k1,j,k⟩:=h.sig t' b i;exact⟨k1,by rw[f];exact j,k,λo=>h.sr t' o b i,λhh=>(h.hid b hh).2.1 t' i⟩
theorem TR.YO(h:TR Z K0 sp W0 K st fr aP E)(t:Nat) : ∃E',TR Z K0 sp W0 K ⟨st.nt,(st.act (kU (some t))).aw⟩ (fr.act (kU (some t))) aP E'/\Mv K E (kU (some t)) K E'/\fY K st E K ⟨st.nt,(st.act (kU (some t))).aw⟩ E'/\∀b,E.σ t=some b->K0.nx<=b/\b<K.nx/\(∀t,E'.σ t≠some b)/\∀o,E'.ρ o≠some b:=by
 have hs : ∀t' b,(if t'=t then none else E.σ t')=some b->t'≠t/\E.σ t'=some b:=λt' b q=>by
  split at q;·cases q
  rename_i hn;exact⟨hn,q⟩
 have m:Mv K E (kU (some t)) K ⟨λt'=>if t'=t then none else E.σ t',E.ρ,E.hid⟩:=by
  refine⟨λb hb=>⟨⟨hb.1,hb.2.1,λt' q=>hb.2.2.1 t' (hs t' b q).2,hb.2.2.2⟩,rfl⟩,λt' b q e=> ?_,λt' b q e=> ?_,λo b q=>q⟩
  ·unfold kU at e;split at e;·cases e
   rename_i hn;have hn:t'≠t:=λe=>hn (by rw[e]);exact⟨(iN hn).trans q,rfl⟩
  unfold kU at e;split at e<;>cases e
 refine⟨_,h.step m (ag _) (λb _ hb=>rfl) rfl (λt' b q=> ?_) (λt1 t2 b q a=>h.inj t1 t2 b (hs t1 b q).2 (hs t2 b a).2) rfl,m,fY.act (E:=E) (E':=⟨λt'=>if t'=t then none else E.σ t',E.ρ,E.hid⟩) rfl rfl λo b q=>rfl,λb q=>⟨(h.sig t b q).1,(h.sig t b q).2.1,λt' a=>(hs t' b a).1 (h.inj t' t b (hs t' b a).2 q),λo=>h.sr t o b q⟩⟩;obtain⟨i,c⟩:=hs t' b q;obtain⟨k1,d,f⟩:=h.sig t' b c;exact⟨k1,d,f,λo=>h.sr t' o b c,λhh=>(h.hid b hh).2.1 t' c⟩
theorem TR.obj(h:TR Z K0 sp W0 K st fr aP E){os:List ae}{e:aH}{cs:List CV}(hs:R2 (eO K E) cs os)(A:eF cs= []) : ∃E',TR Z K0 sp W0 (K.new (.cells os e .ex)) ⟨st.nt,st.aw++ [(0,e,cs)]⟩ fr aP E'/\fY K st E (K.new (.cells os e .ex)) ⟨st.nt,st.aw++ [(0,e,cs)]⟩ E'/\bX (K.new (.cells os e .ex)) E' (.ptr st.aw.length 0) (.pointer (some ⟨K.nx,0,none⟩)):=by
 have d : ∀b,b<K.nx->(K.new (.cells os e .ex)).ob b=K.ob b:=λb hb=>kc Om;have i : ∀o b,(if o=st.aw.length then some K.nx else E.ρ o)=some b->(o=st.aw.length/\b=K.nx)\/(o≠st.aw.length/\E.ρ o=some b):=λt b q=>by
  split at q;·rename_i e;cases q;exact .inl ⟨e,rfl⟩
  rename_i e;exact .inr ⟨e,q⟩
 have n : ∀o b,E.ρ o=some b->(if o=st.aw.length then some K.nx else E.ρ o)=some b:=λo b q=>by
  rw[iN (λe=>by have:=(h.ee o b q).2.2;omega)];exact q
 have m:Mv K E (λ_=> .cX) (K.new (.cells os e .ex)) ⟨E.σ,λo=>if o=st.aw.length then some K.nx else E.ρ o,E.hid⟩:=by
  refine⟨λb hb=>⟨⟨FK hb.1,hb.2.1,hb.2.2.1,λt q=> ?_⟩,d b hb.1⟩,λt b q _=>⟨q,d b (h.sig t b q).2.1⟩,(λ_ _ _ q=>(by cases q)),n⟩;have:=hb.1;rcases i t b q with ⟨_,e⟩ | ⟨_,e⟩
  ·omega
  exact hb.2.2.2 t e
 have C : ∀ {x v},bX K E x v->bX (K.new (.cells os e .ex)) ⟨E.σ,λo=>if o=st.aw.length then some K.nx else E.ρ o,E.hid⟩ x v:=λq=>by
  have:=q.mv m;rwa [AV.kV] at this
 have y : ∀x v,eO K E x v->eO (K.new (.cells os e .ex)) ⟨E.σ,λo=>if o=st.aw.length then some K.nx else E.ρ o,E.hid⟩ x v:=λx v q=>by
  have:=q.mv m;rwa [CV.kV] at this
 refine⟨⟨E.σ,λo=>if o=st.aw.length then some K.nx else E.ρ o,E.hid⟩,⟨Nat.le_succ_of_le h.nx,λb hb hp hw=> ?_,λb hb=> ?_,λb hb=> ?_,?_,λt b q=> ?_,h.inj,λt o b q s=> ?_,λo b q=> ?_,λo o' b q s=> ?_,λo v e' cs' q=> ?_,λt=>C (h.fG t)⟩,⟨λ_ q=>q,n,λo v e' cs' q=> ?_⟩, .ptr (iP rfl)⟩;·have:=h.nx;exact(d b Om).trans (h.cX b hb hp hw)
 ·obtain⟨k1,a,f,D⟩:=h.rH b hb;have:=h.nx;exact⟨k1,a,f,(d b Om).trans D⟩
 ·obtain⟨k1,a,f⟩:=h.hid b hb;refine⟨FK k1,a,λo q=> ?_⟩;rcases i o b q with ⟨_,e⟩ | ⟨_,e⟩
  ·omega
  exact f o e
 ·obtain⟨W,z,j⟩:=h.wr;refine⟨W,z,?_⟩;have u:st.aw≠ []->(if 0=st.aw.length then some K.nx else E.ρ 0)=E.ρ 0:=λav=>iN λe=>av (List.length_eq_zero_iff.1 e.symm);show JR Z (st.aw++ [(0,e,cs)]) _ (if 0=st.aw.length then some K.nx else E.ρ 0) W;match hl:st.aw,j,u with
  | [],j,_=>exact .inl ⟨A,j⟩
  | (v,e',cs')::r,j,u=>
    rw[u s0];refine JR.mv (l:=(v,e',cs')::r) (l':=(v,e',cs')::r) j rfl (λv e cs q=>⟨v,cs,q,rfl,rfl,λ_ p os h1 h2=>⟨os,(d p (h.ee 0 p h1).1).trans h2,rfl,rfl⟩⟩) (λb hb=>d b (h.hid b (z b hb).1).1) (nq _)
 ·obtain⟨k1,a,f⟩:=h.sig t b q;exact⟨k1,FK a,f⟩
 ·rcases i o b s with ⟨k,c⟩ | ⟨k,c⟩
  ·have:=(h.sig t b q).2.1;omega
  exact h.sr t o b q c
 ·show b<K.nx+1/\_/\o<(st.aw++ [(0,e,cs)]).length;rw[bW,Dd];rcases i o b q with ⟨k,c⟩ | ⟨k,c⟩
  ·have:=h.nx;exact⟨Om, .inl Om,Om⟩
  obtain⟨k1,a,f⟩:=h.ee o b c;exact⟨Om,a,Om⟩
 ·rcases i o b q with ⟨k,c⟩ | ⟨k,c⟩<;>rcases i o' b s with ⟨f1,f2⟩ | ⟨f1,f2⟩
  ·omega
  ·have:=(h.ee o' b f2).1;omega
  ·have:=(h.ee o b c).1;omega
  exact h.pR o o' b c f2
 ·have q:(st.aw++ [(0,e,cs)])[o]? = some (v,e',cs'):=q;rw[List.getElem?_append] at q;split at q;·obtain⟨b,w,k1,a,f⟩:=h.aw o v e' cs' q;exact⟨b,w,n o b k1,(d b (h.ee o b k1).1).trans a,f.mono y⟩
  rename_i F;have ho:o=st.aw.length:=by
   have:=(List.getElem?_eq_some_iff.1 q).1;simp at this;omega
  subst ho;simp at q;obtain⟨rfl,rfl,rfl⟩:=q;exact⟨K.nx,os,iP rfl,Wd rfl,hs.mono y⟩
 refine⟨v,cs',?_,ag _,λ_ b hb=>d b (h.ee o b hb).1⟩;show(st.aw++ [(0,e,cs)])[o]? = _;rw[uc (List.getElem?_eq_some_iff.1 q).1];exact q
theorem TR.sto(h:TR Z K0 sp W0 K st fr aP E){o b v:Nat}{e:aH}{cs us:List CV}{os:List ae}(c:E.ρ o=some b)(ho:st.aw[o]? = some (v,e,cs))(hs:R2 (eO K E) us os)(k:eF us=eF cs/\us.length=cs.length/\(eF cs≠ []->∀f,K.ob b= .cells f e .ex->os.length=f.length/\jM us os=jM cs f)):TR Z K0 sp W0 (K.set b (.cells os e .ex)) ⟨st.nt,st.aw.set o (v+1,e,us)⟩ fr aP E/\fY K st E (K.set b (.cells os e .ex)) ⟨st.nt,st.aw.set o (v+1,e,us)⟩ E:=by
 have d : ∀l,l≠b->(K.set b (.cells os e .ex)).ob l=K.ob l:=λl hl=>Pb hl;have m:Mv K E (λ_=> .cX) (K.set b (.cells os e .ex)) E:=by
  refine⟨λl hl=>⟨hl,d l λe=>hl.2.2.2 o (e▸c)⟩,λt l q _=>⟨q,d l λe=>h.sr t o l q (e▸c)⟩,(λ_ _ _ q=>(by cases q)),λ_ _ q=>q⟩
 have w : ∀ {x v},bX K E x v->bX (K.set b (.cells os e .ex)) E x v:=λq=>by
  have:=q.mv m;rwa [AV.kV] at this
 have s : ∀x v,eO K E x v->eO (K.set b (.cells os e .ex)) E x v:=λx v q=>by
  have:=q.mv m;rwa [CV.kV] at this
 obtain⟨G,r2,n⟩:=h.ee o b c;refine⟨⟨h.nx,λl hl hp hw=> ?_,λl hl=> ?_,h.hid,?_,h.sig,h.inj,h.sr,λo' l q=> ?_,h.pR,λo' v' e' cs' q=> ?_,λt=>w (h.fG t)⟩,⟨λ_ q=>q,λ_ _ q=>q,λo' v' e' cs' q=> ?_⟩⟩
 ·refine(d l λe=> ?_).trans (h.cX l hl hp hw);subst e;rcases r2 with r2 | r2
  ·omega
  exact hp r2
 ·obtain⟨k1,i,j,y⟩:=h.rH l hl;refine⟨k1,i,j,(d l λe=> ?_).trans y⟩;subst e;rcases r2 with r2 | r2
  ·omega
  exact i r2
 ·obtain⟨W,u,z⟩:=h.wr;refine⟨W,u,JR.mv z (by show(st.aw.set o _).length=_;rw[Jw]) (λv' e' cs' q=> ?_) (λl hl=>d l λe=>(h.hid l (u l hl).1).2.2 o (e▸c)) (ag _)⟩;show ∃H A,(st.aw.set o (v+1,e,us))[0]? = _/\_;by_cases a:o=0
  ·subst a;rw[ho] at q;cases q;refine⟨v+1,us,Jg n,k.1,k.2.1,λav p f h1 h2=> ?_⟩;have C:p=b:=by rw[c] at h1;cases h1;rfl
   subst C;obtain⟨D,F⟩:=k.2.2 av f h2;exact⟨os,We,D,F⟩
  refine⟨v',cs',(FF a).trans q,rfl,rfl,λ_ p f h1 h2=>⟨f,(d p λe=>a ?_).trans h2,rfl,rfl⟩⟩;exact h.pR o 0 b c (e▸h1)
 ·obtain⟨k1,i,j⟩:=h.ee o' l q;exact⟨k1,i,by show o'<(st.aw.set o _).length;rw[Jw];exact j⟩
 ·have q:(st.aw.set o (v+1,e,us))[o']? = some (v',e',cs'):=q;by_cases a:o=o'
  ·subst a;rw[Jg n] at q;cases q;exact⟨b,os,c,We,hs.mono s⟩
  rw[FF a] at q;obtain⟨l,r,k1,i,j⟩:=h.aw o' v' e' cs' q;exact⟨l,r,k1,(d l λe=>a (h.pR o o' b c (e▸k1))).trans i,j.mono s⟩
 by_cases a:o=o'
 ·subst a;rw[ho] at q;cases q;exact⟨v+1,us,Jg n,nq _,λe=>by omega⟩
 refine⟨v',cs',(FF a).trans q,ag _,λ_ l hl=>d l λe=>a (h.pR o o' b c (e▸hl))⟩
end
section
open Go Go.RowKit
variable {T:cF} {Z:TP} {K0 K K' BP:CH} {sp:Option Nat} {W0:Nat->Prop} {st aT sI aQ:TS} {fr aj:aR} {aP:Fr} {E E' sJ:TE}
theorem fj.app{A:Nat->Prop}{xs ys:List SV}{vs us:List ae}(h:fj K A xs vs)(g:fj K A ys us):fj K A (xs++ys) (vs++us):=(h.r2.app g.r2).HH
theorem agK{a:AV}{v:ae}(h:bX K E a v){t:Option Nat}{z:Option Nat}{hs:List (List SV)}(f:a.rowOf=some (t,z,hs)){sz:Nat}(hz:Eu sz z) : ∃xs,pD K sz v=some (xs,hs.length)/\fj K (dv K E) hs.flatten xs/\(∀g∈hs,g.length=sz):=by
 rcases BN h f with ⟨rfl,rfl⟩ | ⟨av,mV,b,os,k,kd,rfl,k1,i,l,c,d,rfl⟩
 ·exact⟨[],rfl, .nil,(λ_ q=>(by cases q))⟩
 cases hz;refine⟨os,?_,d,c⟩;have hl:os.length=hs.length*sz:=by rw[d.r2.len,BM c]
 have j:hs.length≠0:=λe=>av.1 (List.length_eq_zero_iff.1 e);simp only[pD,j,iF,i];rw[iP Om,sg,qk Om]
theorem YP{A:Nat->Prop} : ∀ {xs:List SV} {vs:List ae},R2 (fL K A) xs vs->vs.all cj=true
 | _,_, .nil=>rfl
 | _,_, .cons h t=>by rw[List.all_cons,fL.cell h,YP t];rfl
theorem fj.cells{A:Nat->Prop}{xs:List SV}{vs:List ae}(h:fj K A xs vs):vs.all cj=true:=YP h.r2
theorem agM.cells{xs:List CV}{vs:List ae}(h:R2 (eO K E) xs vs):vs.all cj=true:=by
 induction h with
 | nil=>rfl
 | cons h t a=>rw[List.all_cons,h.cell,a];rfl
theorem TR.ren(h:TR Z K0 sp W0 K st fr aP E)(t:Nat) : ∃E',TR Z K0 sp W0 K ⟨st.nt+1,(st.act (kU (some t))).aw⟩ (fr.act (kU (some t))) aP E'/\fY K st E K ⟨st.nt+1,(st.act (kU (some t))).aw⟩ E'/\(∀b,dv K E b->dv K E' b)/\E'.σ st.nt=E.σ t:=by
 have i : ∀b,E.σ st.nt≠some b:=λb q=>by have:=(h.sig _ b q).2.2;omega
 have hs : ∀t' b,(if t'=st.nt then E.σ t else if t'=t then none else E.σ t')=some b->(t'=st.nt/\E.σ t=some b)\/(t'≠st.nt/\t'≠t/\E.σ t'=some b):=λt' b q=>by
  split at q;·rename_i e;exact .inl ⟨e,q⟩
  rename_i e;split at q;·cases q
  rename_i e';exact .inr ⟨e,e',q⟩
 have d : ∀b,dv K E b->dv K ⟨λt'=>if t'=st.nt then E.σ t else if t'=t then none else E.σ t',E.ρ,E.hid⟩ b:=λb hb=>⟨hb.1,hb.2.1,λt' q=>by
  rcases hs t' b q with ⟨_,e⟩ | ⟨_,_,e⟩
  ·exact hb.2.2.1 t e
  exact hb.2.2.1 t' e,hb.2.2.2⟩
 have m:Mv K E (kU (some t)) K ⟨λt'=>if t'=st.nt then E.σ t else if t'=t then none else E.σ t',E.ρ,E.hid⟩:=by
  refine⟨λb hb=>⟨d b hb,rfl⟩,λt' b q e=> ?_,λt' b q e=> ?_,λo b q=>q⟩
  ·unfold kU at e;split at e;·cases e
   rename_i hn;have hn:t'≠t:=λe=>hn (by rw[e]);refine⟨?_,rfl⟩;show(if t'=st.nt then E.σ t else if t'=t then none else E.σ t')=some b;rw[iN (λe=>i b (by rw[<-e];exact q)),iN hn];exact q
  unfold kU at e;split at e<;>cases e
 refine⟨_,h.step m (ag _) (λb _ hb=>rfl) rfl (λt' b q=> ?_) (λt1 t2 b q j=> ?_) rfl,fY.act (E:=E) (E':=⟨λt'=>if t'=st.nt then E.σ t else if t'=t then none else E.σ t',E.ρ,E.hid⟩) rfl rfl λo b q=>rfl,d,iP rfl⟩
 ·rcases hs t' b q with ⟨a,e⟩ | ⟨a,_,e⟩
  ·obtain⟨k1,c,k⟩:=h.sig t b e;exact⟨k1,c,Om,λo=>h.sr t o b e,λhh=>(h.hid b hh).2.1 t e⟩
  obtain⟨k1,c,k⟩:=h.sig t' b e;exact⟨k1,c,Om,λo=>h.sr t' o b e,λhh=>(h.hid b hh).2.1 t' e⟩
 rcases hs t1 b q with ⟨a,e⟩ | ⟨a,l,e⟩<;>rcases hs t2 b j with ⟨f1,f⟩ | ⟨f1,f2,f⟩
 ·omega
 ·exact absurd (h.inj t2 t b f e) f2
 ·exact absurd (h.inj t1 t b e f) l
 exact h.inj t1 t2 b e f
theorem agN(h:TR Z K0 sp W0 K st fr aP E){e sz bytes:Nat}{s x:au}{a:AV}(ht:wI fr st (.app e sz bytes s x)=some (a,aj,aQ)) : ∃v i d,cy K (aO aP) (.app e sz bytes s x)=some (v,i)/\TR Z K0 sp W0 i aQ aj aP d/\bX i d a v/\fY K st E i aQ d:=by
 simp only[wI] at ht;split at ht
 ·rename_i o gs tq z hs u U;split at ht
  ·rename_i hc;obtain⟨V,W,H,D,Y⟩:=hc;have w:=YE Y;cases ht;obtain⟨xs,l,F,I⟩:=agK (iM h.fG x) U W;have J:=F.cells;have j:=iM h.fG s;have Bp:o=none->gs= []->aO aP s= .slice none 0 0->∃v i d,cy K (aO aP) (.app e sz bytes s x)=some (v,i)/\TR Z K0 sp W0 i ⟨st.nt+1,(BO o st).aw⟩ (Lw o fr) aP d/\bX i d (.r (.c (.own st.nt e sz (gs++hs)))) v/\fY K st E i ⟨st.nt+1,(BO o st).aw⟩ d:=λho hg hv=>by
    subst ho;subst hg;rw[a6];have hh:hs.length*bytes<=140737488355328/\hs.length<=maxLen:=by simpa using And.intro H D
    by_cases f:hs.length=0
    ·have:hs= []:=List.length_eq_zero_iff.1 f;subst this;refine⟨.slice none 0 0,K,E,by simp only[cy,l,hv];rfl,⟨h.nx,h.cX,h.rH,h.hid,h.wr,λt b q=> ?_,h.inj,h.sr,h.ee,h.pR,h.aw,h.fG⟩, .r (.c .sG),λ_ h=>h,λ_ _ h=>h,λo v e cs h=>⟨v,cs,h,ag _,λ_ _ _=>rfl⟩⟩;obtain⟨k1,k,n⟩:=h.sig t b q;exact⟨k1,k,FK n⟩
    obtain⟨d,t1,t2,t3⟩:=h.row (e:=e) (kd:= .gr) (sz:=sz) (gs:=hs) (os:=xs) ⟨λe=>f (by rw[e];rfl),hh.2⟩ rfl I F w;exact⟨_,_,d,by simp only[cy,l,hv,f,iF];rw[iP ⟨J,hh.1,hh.2⟩],t1,t3,t2⟩
   unfold AV.Qx at u;split at u
   ·rename_i t e' mV gs' G;cases u;obtain⟨rfl,rfl⟩:=V;rcases BN (t:=some t) j (by rw[G];rfl) with ⟨rfl,hv⟩ | ⟨av,sz2,b,os,y,kd,L,k1,k,n,M,N,hv⟩
    ·
     rw[a6];obtain⟨O,t1,m,t2⟩:=h.YO t;by_cases f:hs.length=0
     ·have:hs= []:=List.length_eq_zero_iff.1 f;subst this;refine⟨.slice none 0 0,K,O,by simp only[cy,l,hv];rfl,⟨t1.nx,t1.cX,t1.rH,t1.hid,t1.wr,λt b q=> ?_,t1.inj,t1.sr,t1.ee,t1.pR,t1.aw,t1.fG⟩, .r (.c .sG),t2.1.1,t2.1.2,t2.1.3⟩;obtain⟨k1,k,n⟩:=t1.sig t b q;exact⟨k1,k,FK n⟩
     have hh:hs.length*bytes<=140737488355328/\hs.length<=maxLen:=by simpa using And.intro H D
     obtain⟨d,A,s2,C⟩:=t1.row (e:=e') (kd:= .gr) (sz:=mV) (gs:=hs) (os:=xs) ⟨λe=>f (by rw[e];rfl),hh.2⟩ rfl I (F.mv m.hU) w;exact⟨_,_,d,by simp only[cy,l,hv,f,iF];rw[iP ⟨J,hh.1,hh.2⟩],A,C,t2.1.trans s2⟩
    have BT:y=e':=by
     rw[G] at j;cases j with
     | r j=>cases j with
       | c j=>
         rw[hv] at j;cases j with
         | own av hb ho hk hg hs=>
           have k1:E.σ t=some b:=k1;rw[k] at ho;cases ho;rfl
    subst BT;cases L;have k1:E.σ t=some b:=k1;have hl:os.length=gs.length*mV:=by rw[N.r2.len,BM M]
    by_cases f:hs.length=0
    ·have:hs= []:=List.length_eq_zero_iff.1 f;subst this;obtain⟨d,t1,t2,t3,t4⟩:=h.ren t;refine⟨.slice (some ⟨b,0,none⟩) gs.length gs.length,K,d,by simp only[cy,l,hv,k];rfl,t1,?_,t2⟩;rw[cp];exact .r (.c (.own av (t4.trans k1) k n M (N.mv λb hb=>⟨t3 b hb,rfl⟩) w))
    have hx:cy K (aO aP) (.app y mV bytes s x)=some (.slice (some ⟨K.nx,0,none⟩) (gs.length+hs.length) (gs.length+hs.length),mE (kd.kA&&decide (gs.length<gs.length+hs.length)) K b (.cells (os++xs) y .gr)):=by
     simp only[cy,l,hv,k,f,iF];rw[iP ⟨trivial,trivial,n,Om,J,H,D⟩,qk Om]
    rw[<-bW] at hx;have Q:fj K (dv K E) (gs++hs).flatten (os++xs):=by rw[List.flatten_append];exact N.app F
    have R : ∀g∈gs++hs,g.length=mV:=λg hg=>(List.mem_append.1 hg).elim (M g) (I g);have S:gs++hs≠ []/\(gs++hs).length<=maxLen:=⟨λe=>av.1 (List.append_eq_nil_iff.1 e).1,by rw[bW];exact D⟩;unfold mE at hx;split at hx;·obtain⟨O,t1,m,t2⟩:=h.YO t;obtain⟨d,A,s2,C⟩:=t1.row (e:=y) (kd:= .gr) S rfl R (Q.mv m.hU) w;exact⟨_,_,d,hx,A,C,t2.1.trans s2⟩
    obtain⟨O,t1,m,t2⟩:=h.kil t (o:= .dead);rw[k1] at t1 m t2;obtain⟨d,A,s2,C⟩:=t1.row (e:=y) (kd:= .gr) S rfl R (Q.mv m.hU) w;exact⟨_,_,d,hx,A,C,t2.trans s2⟩
   ·rename_i G;cases u;rcases BN (t:=none) (gs:= []) j (by rw[G];rfl) with ⟨_,hv⟩ | ⟨av,_⟩
    ·exact Bp rfl rfl hv
    exact absurd rfl av.1
   cases u
  cases ht
 cases ht
theorem YS{sz:Nat} : ∀ {l:List (Option (List CV))} {gs:List (List CV)},Ey sz l=some gs->l=gs.map some/\∀g∈gs,g.length=sz
 | [],gs,h=>by cases h;exact⟨rfl,(λ_ q=>(by cases q))⟩
 | none::r,gs,h=>by cases h
 | some cs::r,gs,h=>by
   simp only[Ey] at h;split at h
   ·rename_i hc;cases a:Ey sz r with
    | none=>rw[a] at h;cases h
    | some b=>
      rw[a] at h;cases h;obtain⟨d,e⟩:=YS a;refine⟨by rw[d];rfl,λg hg=> ?_⟩;rcases List.mem_cons.1 hg with rfl | hg
      ·exact hc
      exact e g hg
   cases h
theorem YT{x:CV}{v:ae}(h:eO K E x v){y:SV}(hy:x.fz=some y){K':CH}{A:Nat->Prop}(h1 : ∀b,dv K E b->A b/\K'.ob b=K.ob b)(h2 : ∀t b,t∈x.eP->E.σ t=some b->A b/\K'.ob b=K.ob b):fL K' A y v:=by
 cases h with
 | s h=>cases hy;exact h.mv h1
 | sG=>cases hy;exact .og
 | own av hb ho hk hg hs ht=>
   cases hy;obtain⟨a,c⟩:=h2 _ _ (List.mem_singleton.2 rfl) hb;exact .row av a (c.trans ho) hk hg (hs.mv h1) ht
 | bad=>cases hy
theorem HO{K':CH}{A:Nat->Prop}(h1 : ∀b,dv K E b->A b/\K'.ob b=K.ob b) : ∀ {xs:List CV} {vs:List ae} {ys:List SV},R2 (eO K E) xs vs->sH xs=some ys->(∀t b,t∈xs.flatMap CV.eP->E.σ t=some b->A b/\K'.ob b=K.ob b)->R2 (fL K' A) ys vs
 | _,_,ys, .nil,h,_=>by cases h;exact .nil
 | x::xs,_,ys, .cons hx ht,h,h2=>by
   simp only[sH] at h;split at h;·rename_i y d a c;cases h;exact .cons (YT hx a h1 λt b q=>h2 t b (by rw[zn];exact vU _ q)) (HO h1 ht c λt b q=>h2 t b (by rw[zn];exact AQ _ q))
   cases h
theorem YU{K':CH}{A:Nat->Prop}(h1 : ∀b,dv K E b->A b/\K'.ob b=K.ob b) : ∀ {gs:List (List CV)} {hs:List (List SV)} {vs:List ae},R2 (eO K E) gs.flatten vs->HK gs=some hs->(∀t b,t∈gs.flatten.flatMap CV.eP->E.σ t=some b->A b/\K'.ob b=K.ob b)->R2 (fL K' A) hs.flatten vs/\hs.length=gs.length/\∀sz,(∀g∈gs,g.length=sz)->∀g∈hs,g.length=sz
 | [],hs,vs,a,h,_=>by
   cases h;exact⟨(by cases a;exact .nil),rfl,λ_ _ _ q=>(by cases q)⟩
 | g::gs,hs,vs,a,h,h2=>by
   simp only[HK] at h;split at h
   ·rename_i y ys i j;cases h;rw[uh] at a h2;have d:=a.take g.length;have r2:=a.drop g.length;rw[List.take_left] at d;rw[List.drop_left] at r2;have k1:=HO h1 d i λt b q=>h2 t b (by rw[List.flatMap_append];exact vU _ q);obtain⟨k,l,m⟩:=YU h1 r2 j λt b q=>h2 t b (by rw[List.flatMap_append];exact AQ _ q);have e:y.length=g.length:=by rw[<-k1.len,d.len]
    refine⟨?_,by simp[l],λsz f x hx=> ?_⟩;·rw[uh,<-xu g.length vs];exact k1.app k
    rcases List.mem_cons.1 hx with rfl | hx
    ·rw[e];exact f g s0
    exact m sz (λg hg=>f g (by simp[hg])) x hx
   cases h
theorem YV{sz:Nat}{ev:au->ae} : ∀ {ps:List (Nat×au)} {k:Nat} {z:List ae},ps.map (·.1)=List.range' k ps.length->z.length=(k+ps.length)*sz->(∀p∈ps,isVal (ev p.2)=true/\(ev p.2).cells.size=sz)->jY z (ps.map λ(i,x)=>(i*sz,sz,ev x))=some (z.take (k*sz)++ps.flatMap λp=>(ev p.2).cells.toList)
 | [],k,z,_,hz,_=>by
   rw[qk (by simpa using Nat.le_of_eq hz)];simp[jY]
 | (i,x)::ps,k,z,hi,hz,hv=>by
   rw[dk,ay,List.range'_succ] at hi;injection hi with uA c
   have uA:i=k:=uA;subst uA;obtain⟨h1,h2⟩:=hv (i,x) s0;have a:i*sz+sz<=z.length:=by
    rw[hz,ay,show i+(ps.length+1)=(i+1)+ps.length from by omega,oK (i+1),oK i];omega
   have b:((ev x).cells.toList).length=sz:=by rw[Jj];exact h2
   have d:=YV (sz:=sz) (ev:=ev) (ps:=ps) (k:=i+1) (z:=setCells z (i*sz) (ev x).cells.toList) c (by rw[JD Om,hz,ay,show i+(ps.length+1)=(i+1)+ps.length from by omega]) λp hp=>hv p (by simp[hp]);show(if isVal (ev x)=true/\(ev x).cells.size=sz/\i*sz+sz<=z.length then jY (setCells z (i*sz) (ev x).cells.toList) _ else none)=_;rw[iP ⟨h1,h2,a⟩,d];congr 1
   rw[zn,<-aG];congr 1
   unfold setCells;rw[Tp (by rw[bW,nP,b,oK];omega),qk (by rw[bW,nP,b,oK];omega)]
theorem agP{z:List ae}{n:Nat}:(mD z n).length=n:=by simp[mD]
theorem agQ(h:TR Z K0 sp W0 K st fr aP E){x:oO}{a:AV}(ht:uT fr st x=some (a,aj,aQ)) : ∃cs e k mk d,fT (aO aP) x=some (cs,e,k,mk)/\TR Z K0 sp W0 (K.new (.cells cs e k)) aQ aj aP d/\bX (K.new (.cells cs e k)) d a (kz mk K.nx)/\fY K st E (K.new (.cells cs e k)) aQ d:=by
 cases x with
 | new e z=>
   simp only[uT] at ht;cases hz:BL z with
   | none=>rw[hz] at ht;cases ht
   | some cs=>
     rw[hz] at ht;simp only at ht;split at ht;·rename_i q;cases ht;obtain⟨d,t1,t2,t3⟩:=h.obj (e:=e) (Qu hz) q;exact⟨_,_,_,_,d,rfl,t1,t3,t2⟩
     cases ht
 | box e x=>
   simp only[uT] at ht;cases hz:(dU fr x).tG with
   | none=>rw[hz] at ht;cases ht
   | some cs=>
     rw[hz] at ht;simp only at ht;split at ht;·rename_i q;cases ht;obtain⟨l,o⟩:=HJ (iM h.fG x) hz;obtain⟨d,t1,t2,t3⟩:=h.obj (e:=e) l q;exact⟨_,_,_, .ptr,d,by simp only[fT];rw[iP o],t1,t3,t2⟩
     cases ht
 | xR e sz n z ps=>
   simp only[uT] at ht;split at ht
   ·rename_i hc;obtain⟨r,G,u,v,H⟩:=hc;split at ht
    ·rename_i gs w;split at ht
     ·rename_i hs y;cases ht;obtain⟨i,s⟩:=YS w;have hn:ps.length=n:=by have:=congrArg lV r;simpa using this
      subst hn;have C : ∀p∈ps,∃g∈gs,(dU fr p.2).tG=some g:=λp hp=>by
       have:(dU fr p.2).tG∈gs.map some:=by rw[<-i];exact List.mem_map_of_mem hp
       obtain⟨g,k1,j⟩:=List.mem_map.1 this;exact⟨g,k1,j.symm⟩
      have D : ∀p∈ps,isVal (aO aP p.2)=true/\(aO aP p.2).cells.size=sz:=λp hp=>by
       obtain⟨g,k1,j⟩:=C p hp;obtain⟨l,o⟩:=HJ (iM h.fG p.2) j;exact⟨o,by rw[<-Jj,l.len];exact s g k1⟩
      have hb:=YV (ev:=aO aP) (k:=0) (z:=mD z (ps.length*sz)) (by rw[r,List.range_eq_range']) (by rw[agP,iX]) D;rw[Nat.zero_mul,List.take_zero,a6] at hb;have I:R2 (eO K E) gs.flatten (ps.flatMap λp=>(aO aP p.2).cells.toList):=by
       clear hb D C w y r G u v;induction ps generalizing gs with
       | nil=>
         cases gs with
         | nil=>exact .nil
         | cons=>simp at i
       | cons p ps J=>
         cases gs with
         | nil=>simp at i
         | cons g gs=>
           rw[dk,dk] at i;injection i with L M
           rw[uh,zn];exact(HJ (iM h.fG p.2) L).1.app (J gs M λg hg=>s g (by simp[hg]))
      obtain⟨d,t1,m,t2,t3⟩:=h.fz (gs.flatten.flatMap CV.eP);obtain⟨k1,j,N⟩:=YU (K':=K) (A:=dv K d) m.hU I y λt b l o=>m.fz t b o (by unfold mL;rw[iP l]);have av:hs≠ []:=λe=>by
       have:gs.length=0:=by rw[<-j,e];rfl
       have h3:=congrArg lV i;simp at h3;omega
      have f:hs.length=ps.length:=by
       have h3:=congrArg lV i;rw[j];simpa using h3.symm
      obtain⟨O,Q,s2,F⟩:=t1.row (e:=e) (kd:= .ex) (sz:=sz) (gs:=hs) ⟨av,by rw[f,oc];omega⟩ rfl (N sz s) k1.HH (YE H);rw[f] at F;rw[Ly,Lz];exact⟨_,e, .ex, .sl ps.length ps.length,O,by simp only[fT];rw[iP ⟨u,v⟩,hb];rfl,Q,F,t2.trans s2⟩
     cases ht
    cases ht
   cases ht
 | _=>cases ht
theorem agR(h:TR Z K0 sp W0 K st fr aP E){x:hO}{a:AV}(ht:wI fr st x=some (a,aj,aQ)) : ∃v d i,cy K (aO aP) x=some (v,d)/\TR Z K0 sp W0 d aQ aj aP i/\bX d i a v/\fY K st E d aQ i:=by
 cases x with
 | app e sz bytes s x=>exact agN h ht
 | st n x v=>
   simp only[wI] at ht;split at ht
   ·rename_i o off C t u;split at ht
    ·rename_i mh e cs ho;split at ht
     ·rename_i hc;cases ht;have j:=iM h.fG x;rw[t] at j;obtain⟨l,hl,hv⟩:=j.tH;obtain⟨c,w⟩:=HJ (iM h.fG v) u;obtain⟨b,os,k1,k,f⟩:=h.aw o _ _ _ ho;rw[hl] at k1;cases k1;obtain⟨y,z,m,q⟩:=hc;obtain⟨t1,t2⟩:=h.sto hl ho (f.set c (o:=off)) ⟨agH m q,(by simp only[bW,nP,iE];omega),λ_ D r=>by
       rw[k] at r;cases r;exact⟨JD (by rw[c.len,f.len];omega),agI m q f.len.symm c.len.symm Om⟩⟩
      refine⟨undef,_,E,?_,t1, .bad,t2⟩;have A:(aO aP v).cells.size=n:=by rw[<-Jj,c.len];exact y
      simp only[cy,hv,k];rw[iP ⟨rfl,w,A,by rw[f.len];exact z,agM.cells c⟩]
     cases ht
    cases ht
   cases ht
 | _=>cases ht
end
end Can
end Go.Proofs.YtdfgkcoenagaaaaGreat
