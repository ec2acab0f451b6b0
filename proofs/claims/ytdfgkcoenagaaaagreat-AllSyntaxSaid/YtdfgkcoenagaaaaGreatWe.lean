/- Lex: one token; the indentation. Lex: what stands behind a row's end turns nothing in it. No program in sight. Lex: a row. Lex: the words; the program's Lex. Lex: plain laws of the rows. Lex: the program's Lex. Lex: how long the answer is; bytes; the document's Same; Lex as tokens that lie. Lex, plain: lines counted on; rows that are blank. Canonical runs: panics. Over any program. Canonical runs: regions in parts; operations that the canonical run has no words for, at their end. Over any program. Canonical runs: a function that defers a closure and is saved by it. Over any program. Runs over trees: rows as pure lists. Values, and what they stand for in a canonical memory. Over any program. Runs over trees: pure operations and reads. Over any program. Runs over trees: reads and writes. Over any program. Runs over trees: an operation. Over any program. -/
import Derived.Test.YtdfgkcoenagaaaaGreatWd
import Derived.Test.YtdfgkcoenagaaaaGreatWa
import Derived.RecoverIn
open Array renaming length_toList → Jo
open Bool renaming false_eq_true → aM
open Go renaming FuncId → bk, LeavesInM → AU, Operand → au, Program → aZ, TypeId → aH, Value → ae, World → ar
open Go.Fence renaming wide → gZ
open Go.Value renaming int → zo
open Go.World renaming putObj_heap_other → AS
open List renaming append_assoc → aG, append_nil → cn, cons_append → aS, dropWhile_cons → JA, drop_drop → gE, drop_succ_cons → FP, drop_zero → sn, flatMap_cons → zr, flatten_cons → um, getD_eq_getElem?_getD → uj, getElem?_append_left → ui, getElem?_append_right → tu, getElem?_cons_succ → FO, getElem?_cons_zero → Jt, getElem?_drop → sk, getElem?_eq_getElem → dx, getElem?_map → kF, getElem?_reverse → T6, getElem?_set_ne → FL, getElem?_set_self → Jl, getElem?_take_of_lt → AT, getElem_cons_zero → NL, getLast?_cons_cons → iu, length → l7, length_append → bW, length_cons → ay, length_drop → iH, length_map → kZ, length_nil → aF, length_replicate → Jz, length_reverse → ul, length_set → JB, length_singleton → Di, length_take → nU, map_congr_left → vX, map_cons → dq, map_nil → lF, mem_append_left → vY, mem_append_right → AW, mem_cons_of_mem → kD, mem_cons_self → ny, mem_filterMap → Jx, nil_append → a6, replicate → kY, size_toArray → NJ, sum_cons → qu, takeWhile_append_dropWhile → ac1, take_append_drop → xy, take_append_of_le_length → TY, take_of_length_le → qq, take_succ_cons → Jy
open Nat renaming add_assoc → jW, add_comm → C4, add_mul → oU, le_max_left → vV, le_max_right → vW, le_of_ble_eq_true → ja, le_refl → ag, le_succ → nz, le_trans → cM, lt_of_lt_of_le → ek, lt_succ_of_lt → FQ, lt_succ_self → nX, mul_one → Dc, zero_add → iZ
open Option renaming map_eq_some_iff → jX, map_some → fo
open UInt8 renaming ofNat → al
set_option maxRecDepth 4000
set_option maxHeartbeats 2000000
set_option linter.unusedSimpArgs false
set_option linter.unusedVariables false
namespace Go.Proofs.YtdfgkcoenagaaaaGreat
namespace Can
section
open Go Go.RowKit
def Qh(A K:CH)(p:Nat)(src:List UInt8)(s:RS)(vo:ae)(m:Nat)(r:Option (Nat×List UInt8×Nat)):Prop:=match r with
 | some (k,x,n)=>∃a,bH A K p src (jA { ax s n with dep:=jd s.dep k x } k s.line x) vo a m
 | none=>P7 A K p src s vo m
theorem agl{l:List UInt8}:iJ l<=l.length:=by
 unfold iJ;split;·rename_i g;have h1:=yI g.2;have:=uR (l:=l.drop 1);simp only[iH] at this;omega
 omega
theorem agm{l:List UInt8}:eR l<=l.length:=by
 unfold eR;have h1:=uR (l:=l.drop 1);have h2:=uR (l:=l.drop 2);simp only[iH] at h1 h2;split
 ·split;·rename_i g;have:=yI g;omega
  split;·rename_i g;have:=yI g.2;omega
  omega
 omega
theorem agn{l:List UInt8}:a8 l<=l.length:=by
 have h1:=uR (l:=l);have h2:=agl (l:=l.drop (cp l));have h3:=agm (l:=l.drop (hC l));simp only[iH] at h2 h3;have h4:hC l=cp l+iJ (l.drop (cp l)):=rfl;unfold a8;omega
theorem Qi{d k:Nat}{x:List UInt8}(h:k≠9):jd d k x=d:=by
 unfold jd;rw[iN (λg=>h g.1),iN (λg=>h g.1)]
theorem Qj{A K:CH}{p:Nat}{src:List UInt8}{s:RS}{vo vt:ae}{m:Nat}(h:bH A K p src s vo vt m)(hp:s.pos<src.length)(r:s.err=0)(hb:s.out.length+s.cP.length<1000000)(D:s.dep<100000) :
 bw (bj Tryz.prog LG GG) 32 [.pointer (some ⟨p,0,none⟩)] K λv K'=>Qh A K' p src s vo m (fq (src.drop s.pos)):=by
 have I:=h.sl;have i:=h.ob;have J:=h.pl;have hg:=KX hp;obtain⟨c,hc⟩ : ∃c,src[s.pos]=c:=⟨_,rfl⟩;have d:hd (src.drop s.pos)=c.toNat:=by rw[mB hp,hc]
 rw[hc] at hg;refine ij Rl Kr (bq ?_);cases a:fK c.toNat with
 | true=>
   have ht:fq (src.drop s.pos)=some (if (src.drop s.pos).take (nW en (src.drop s.pos))∈jY then 8 else 4,(src.drop s.pos).take (nW en (src.drop s.pos)),nW en (src.drop s.pos)):=by
    unfold fq;rw[d,iP a]
   rw[ht];refine rn (zu @i @ia @hg @ik @a) ?_;refine(afY h hp hb).mono λt u ⟨j,h1⟩=> ?_;refine dh ?_;all_goals exact⟨j,by rw[Qi (by split<;>decide)];exact h1⟩
 | false=>
   cases b:bA c.toNat with
   | true=>
     refine rn (xC @i @ia @hg @ik @a @jO @b) ?_;refine(agk h hp (by rw[d];exact b) hb).mono λt u ⟨j,h1⟩=> ?_;have w:dy (src.drop s.pos)≠9:=by unfold dy;split<;>decide
     cases o:bZ (src.drop s.pos) with
     | true=>
       have ht:fq (src.drop s.pos)=none:=by
        unfold fq;rw[d,iN (by simp[a]),iP b,iP o]
       rw[ht];unfold gL at h1;rw[iP o,P3 (show(ax s _).err=0 from r)] at h1;have G:0<a8 (src.drop s.pos):=by
        have:=v8 (p:=bA) hp (by rw[d];exact b);unfold a8 hC cp;omega
       have y:s.pos+a8 (src.drop s.pos)<=src.length+4:=by
        have:=agn (l:=src.drop s.pos);simp at this;omega
       refine dh ?_;all_goals exact⟨j,_,h1,rfl,rfl,rfl,rfl,by simp[jA,ax],by show s.pos<s.pos+a8 _;omega,y,rfl⟩
     | false=>
       have ht:fq (src.drop s.pos)=some (dy (src.drop s.pos),(src.drop s.pos).take (a8 (src.drop s.pos)),a8 (src.drop s.pos)):=by
        unfold fq;rw[d,iN (by simp[a]),iP b,iN (by simp[o])]
       rw[ht];unfold gL at h1;rw[iN (by simp[o])] at h1;repeat' (first | (simp (disch:=first | omega | (decide +kernel)) only[↓RD,RU,ct]) | ((with_reducible first|apply bL|apply bM|apply bN)<;>intro _))
       all_goals exact⟨j,by rw[Qi w];exact h1⟩
   | false=>
     by_cases C:c.toNat=39\/c.toNat=34
     ·have ht:fq (src.drop s.pos)=(l8 (hd (src.drop s.pos)) (src.drop (s.pos+1))).map λx=>(7,x.1,x.2+1):=by
       unfold fq;rw[d,iN (by simp[a]),iN (by simp[b]),iP C,gE]
      rw[ht];have fin : ∀K',P8 A K' p src s vo m (l8 (hd (src.drop s.pos)) (src.drop (s.pos+1)))->Qh A K' p src s vo m ((l8 (hd (src.drop s.pos)) (src.drop (s.pos+1))).map λx=>(7,x.1,x.2+1)):=λK' g=>by
       cases hs:l8 (hd (src.drop s.pos)) (src.drop (s.pos+1)) with
       | none=>rw[hs] at g;exact g
       | some x=>rw[hs] at g;obtain⟨H,g⟩:=g;exact⟨H,by rw[Qi de];exact g⟩
      have z:32<=hd (src.drop s.pos)/\hd (src.drop s.pos)≠92:=by rw[d];omega
      repeat' (first | (simp (disch:=first | omega | (decide +kernel)) only[↓RD,RU,↓cm,↓cV,↓du,dk,pop,bg,ρ0,ρ1,ρ4,↓reduceIte,Nat.reduceEqDiff,Int.reduceOfNat,reduceCtorEq,ρ5,ρ6,ρ28,ρ29,i,ia,hg,ik,a,jO,b]) | ((with_reducible first|apply bL|apply bM|apply bN)<;>intro _))
      all_goals
       refine(af3 h hp r z hb).mono λt u h1=> ?_;refine dh ?_;all_goals exact fin _ h1
     have ht:fq (src.drop s.pos)=(lH (src.drop s.pos)).map λn=>(9,(src.drop s.pos).take n,n):=by
      unfold fq;rw[d,iN (by simp[a]),iN (by simp[b]),iN C]
     rw[ht];refine rn (xC @i @ia @hg @ik @a @jO @b) ?_;all_goals
      refine(agi h hp r hb D).mono λt u h1=> ?_;refine dh ?_;all_goals
       unfold Qb at h1;cases hs:lH (src.drop s.pos) with
       | none=>rw[hs] at h1;exact h1
       | some x=>rw[hs] at h1;exact h1
theorem ago{A K:CH}{v:ae}{ns:List Nat}{n:Nat}(h:El A K v ns)(hA:aI A K)(hl:ns.length<1000000){Q:ae->CH->Prop}(k : ∀v' K',El A K' v' (ns++ [n])->aI A K'->K.nx<=K'.nx->(∀l,l<K.nx->(∀o n c,v≠ .slice (some ⟨l,o,none⟩) n c)->K'.ob l=K.ob l)->Q v' K') :
 G' (qC 3 1 8 v [.int .i64 n] 1 K) Q:=by
 obtain⟨b,kd,c,os,rfl,h1,h2,h3,h4,h5,s,f,j⟩:=h;rw[Hj,h3,Hi,iN de,iP ⟨rfl,rfl,h4,Om,rfl,Om,by rw[nM];omega⟩,Kw];have a : ∀H:CH,H.nx=K.nx->(H.new (.cells (os.take (ns.length*1)++ [.int .i64 (n:Int)]) 3 .gr)).ob K.nx= .cells (os.take (ns.length*1)++ [.int .i64 (n:Int)]) 3 .gr:=λH m=>by rw[fZ,iP m.symm]
 have q : ∀i,i<(ns++ [n]).length->(os.take (ns.length*1)++ [.int .i64 (n:Int)])[i]? = some (.int .i64 ((ns++ [n]).getD i 0:Nat)):=λi hi=>by
  simp only[bW,Di] at hi;by_cases d:i<ns.length
  ·rw[ui Sq,List.getElem?_take,iP Om,j i d];simp[List.getD,ui d]
  have:i=ns.length:=by omega
  subst this;rw[tu Sq];simp[List.getD,f]
 have e : ∀K':CH,K'.nx=K.nx+1->K'.ob K.nx= .cells (os.take (ns.length*1)++ [.int .i64 (n:Int)]) 3 .gr->El A K' (.slice (some ⟨K.nx,0,none⟩) (ns.length+1) (ns.length+1)) (ns++ [n]):=λK' t r=>
  ⟨K.nx, .gr,ns.length+1,_,s0,hA.nx,Om,r,rfl,s0,Om,Sq,q⟩
 unfold mG;split;·exact k _ _ (e _ rfl (a K rfl)) (hA.new _) (nz _) λl hl _=>by rw[fZ,iN Om]
 refine k _ _ (e _ rfl (a (K.set b .dead) rfl)) ((hA.set h1 _).new _) (nz _) λl hl av=> ?_;rw[fZ,iN (by show ¬l=K.nx;omega),iA,iN];rintro rfl;exact av _ _ _ rfl
theorem bH.Yc{A K K':CH}{p:Nat}{src:List UInt8}{s:RS}{vo k vt:ae}{m:Nat}{ns:List Nat}(h:bH A K p src s vo vt m)(hb:s.out.length+ns.length<=1000000)(hx:aI A K')(hn:K.nx<=K'.nx)(hg:El A K' k ns)(hk : ∀l,l<K.nx->(∀o n c,vo≠ .slice (some ⟨l,o,none⟩) n c)->K'.ob l=K.ob l) :
 bH A (K'.set p (.cells [.string (str src), .int .i64 s.pos, .int .i64 s.line, .int .i64 s.dep,k,vt, .map (some m), .int .i64 s.err, .int .i64 s.wh] 55 .ex)) p src { s with cP:=ns } k vt m/\K'.ob p=K.ob p:=by
 have q:=h.ob;obtain⟨b,kd,c,os,h1,h2,h3,h4,h5⟩:=h.cP;have av : ∀l,l≠b->∀o n c,vo≠ .slice (some ⟨l,o,none⟩) n c:=λl hl o n c hv=>by
  rw[h1] at hv;cases hv;exact hl rfl
 have w:p≠b:=λe=>by
  rw[<-e,q] at h4;have:=(dr.cells.inj h4).2.1;revert this;decide
 have r:m≠b:=λe=>by rw[<-e,h.mp] at h4;cases h4
 have hp:=(hk p h.pl (av p w)).trans q;have t:=(hk m h.ml (av m r)).trans h.mp;obtain⟨x,z,C,D,F,G,H,u,I⟩:=hg;have a:x≠p:=λe=>by
  rw[e,hp] at u;have:=(dr.cells.inj u).2.1;revert this;decide
 have J:m≠p:=λe=>by rw[e,hp] at t;cases t
 refine⟨⟨by rw[iA,iP rfl],ek h.pl hn,h.pa,⟨x,z,C,D,F,G,H,by rw[iA,iN a];exact u,I⟩,?_,by rw[iA,iN J];exact t,ek h.ml hn,h.ma,hx.set h.pa _,⟨h.bd.pos,h.bd.line,h.bd.dep,h.bd.err,h.bd.wh,hb⟩,h.sl⟩,hk p h.pl (av p w)⟩;rcases h.out with g | ⟨d,v,L,M,y,f,N⟩
 ·exact .inl g
 have i:d≠b:=λe=>by
  rw[e,h4] at f;have:=(dr.cells.inj f).2.1;revert this;decide
 have j:d≠p:=λe=>by
  rw[e,q] at f;have:=(dr.cells.inj f).2.1;revert this;decide
 exact .inr ⟨d,v,L,M,ek y hn,by rw[iA,iN j];exact(hk d y (av d i)).trans f,N⟩
theorem Yd{n:Nat} : ∀ {st:List Nat},st.getLast? = some 0->∃k,(st.takeWhile λx=>decide (n<x)).length=k/\k<st.length/\(∀i,i<k->n<st.getD i 0)/\¬n<st.getD k 0/\(st.dropWhile λx=>decide (n<x))=st.drop k
 | [],h=>by cases h
 | a::r,h=>by
   by_cases ha:n<a
   ·cases r with
    | nil=>simp at h;omega
    | cons b r=>
      obtain⟨k,h1,h2,h3,h4,h5⟩:=Yd (n:=n) (st:=b::r) (by simpa using h);refine⟨k+1,by rw[List.takeWhile_cons_of_pos (by simpa using ha)];simp[h1],by simp at h2⊢;omega,λi hi=> ?_,by simpa using h4,by rw[List.dropWhile_cons_of_pos (by simpa using ha),h5];rfl⟩;cases i with
      | zero=>exact ha
      | succ i=>simpa using h3 i Om
   exact⟨0,by rw[List.takeWhile_cons_of_neg (by simpa using ha)];rfl,s0,λi hi=>absurd hi Om,by simpa using ha,by rw[List.dropWhile_cons_of_neg (by simpa using ha)];rfl⟩
theorem agp{b n c j:Nat}(h2:j+1<=c):sA 1 (.slice (some ⟨b,0,none⟩) n c) ((0:Nat):Int) ((j:Nat)+1:Int) (c:Int) false=some (.slice (some ⟨b,0,none⟩) (j+1) c):=by
 unfold sA;simp only[aM,iF];rw[iP Om,iN Om];have a:(((j:Nat):Int)+1-((0:Nat):Int)).toNat=j+1:=by omega
 have d:((c:Int)-((0:Nat):Int)).toNat=c:=by omega
 rw[a,d];rfl
theorem agq{K:CH}{b o n c e:Nat}{os:List ae}{kd:Kd}(h:K.ob b= .cells os e kd):pF K e (.slice (some ⟨b,o,none⟩) n c)=true:=by
 simp only[pF,h];cases kd<;>simp
def uT (s:RS)(st:List Nat)(n:Nat):RS:=if (dZ s.line st n).2.headD 0=n then { s with out:=s.out++(dZ s.line st n).1,cP:=(dZ s.line st n).2.reverse } else { s with out:=s.out++(dZ s.line st n).1,cP:=(dZ s.line st n).2.reverse,err:=21,wh:=s.line }
theorem agr{A K:CH}{p:Nat}{src:List UInt8}{s:RS}{vo vt:ae}{m:Nat}(h:bH A K p src s vo vt m){st:List Nat}(t:s.cP=st.reverse)(hz:st.getLast? = some 0)(n:Nat)(hn:n<=100000)(h0:s.err=0)(hb:s.out.length+s.cP.length<400000) :
 bw (bj Tryz.prog LG GG) 31 [.pointer (some ⟨p,0,none⟩), .int .i64 n] K λv K'=>∃N gV,bH A K' p src (uT s st n) N gV m:=by
 have kK:=h.sl;have C:=h.ob;have eL:=h.pl;have dm:=h.bd.line;have O:s.cP.length=st.length:=by rw[t];simp
 have Q:0<st.length:=by cases st with
  | nil=>cases hz
  | cons a r=>simp
 obtain⟨b,kd,c,os,D,o1,o2,R,o4,o5,o6,o7,o8⟩:=h.cP;have eo : ∀i,i<st.length->os[st.length-1-i]? = some (.int .i64 (st.getD i 0:Nat)):=λi hi=>by
  rw[o8 _ Om,t];congr 3
  simp only[uj];rw[T6 Om];congr 2;omega
 subst D;refine ij Rl Kr (bq ?_);have S:=eo 0 Q;have U:((s.cP.length:Nat):Int)-1=((st.length-1-0:Nat):Int):=by omega
 by_cases u:st.headD 0<n
 ·have Dr:st.getD 0 0<n:=by cases st with
   | nil=>exact u
   | cons a r=>exact u
  have x:dZ s.line st n=([⟨2,s.line,[]⟩],n::st):=by unfold dZ;rw[iP u]
  have y:aI K (K.new (.cells [.int .i64 (n:Int)] 3 .ex)):=by(repeat (first | assumption | exact aI.refl _ | (refine aI.set ?_ Fo _) | (refine aI.new ?_ _)))
  have Lm:=(h.mv y).cP;repeat' (first | (simp (disch:=first | omega | (decide +kernel)) only[↓Ed,↓Ee,↓Hb,↓Kz,↓KA,↓Hc,↓Hf,↓Ef,↓KC,↓KD,↓KE,↓cm,↓cV,↓du,fZ,Ec,Kx,↓DY,dk,rI,Ps,KH,nh,pop,bg,fV,kH,isVal,Value.cells,dq,lF,fo,↓reduceIte,Nat.reduceEqDiff,Int.reduceOfNat,reduceCtorEq,Jt,FO,ay,aF,KL,Hl,PQ,Jy,FP,sn,cn,List.take_nil,List.drop_nil,NJ,List.toList_toArray,j8,Nat.reduceLeDiff,ag,BG,PA,↓PO,Hk,iP,Dc,iZ,Int.toNat_natCast,and_true,C,R,U,S]) | ((with_reducible first|apply bL|apply bM|apply bN)<;>intro _))
  refine ago Lm (h.E.trans y) Om λN K2 V j2 j3 j4=> ?_;obtain⟨h2,e2⟩:=(h.mv y).Yc Sq j2 j3 V j4;have fe:=e2.trans ((y.ob p eL).trans C);have Em:=V;obtain⟨b2,yE,c2,Aa,rfl,_⟩:=Em;have Gr:(s.cP++ [n]).length=s.cP.length+1:=by simp
  rw[Gr] at h2;refine rn @fe ?_;refine(dG h2 2 s.line [] Sq).mono λv3 K3 ⟨BL,h3⟩=> ?_;refine dh ?_;all_goals
   have w:uT s st n=jA { s with cP:=s.cP++ [n] } 2 s.line []:=by
    unfold uT;rw[x];show(if n=n then _ else _)=_;rw[iP rfl];simp only[List.reverse_cons,<-t];rfl
   exact⟨.slice (some ⟨b2,0,none⟩) (s.cP.length+1) c2,BL,by rw[w];exact h3⟩
 obtain⟨k,BI,W,Yg,Ln,G⟩:=Yd (n:=n) hz;have x:dZ s.line st n=(kY k ⟨3,s.line,[]⟩,st.drop k):=by unfold dZ;rw[iN u,BI,G]
 have Dr : ¬st.getD 0 0<n:=by cases st with
  | nil=>exact absurd Q s0
  | cons a r=>exactλg=>u (by simpa using g)
 have uU:k=0\/0<k:=by omega
 refine rn (jI @C @R @U @S) ?_;refine sM (λq fr H=>∃i Y,q=k-i/\i<=k/\fr 4= .int .i64 ((st.length-1-i:Nat):Int)/\bH A H p src { s with out:=s.out++kY i ⟨3,s.line,[]⟩ } (.slice (some ⟨b,0,none⟩) s.cP.length c) Y m) (n:=k) ⟨0,vt,rfl,Om,by exact Ek,by simpa using h⟩ ?_;rintro q fr H ⟨i,Y,rfl,hi,f4,h1⟩ I;have z:=h1.ob;have z0:=h1.pl;obtain⟨b',uO,c',d,e',q1,q2,l,q4,q5,q6,q7,q8⟩:=h1.cP;cases e';have q7':s.cP.length<=d.length:=q7;have q5':s.cP.length<=c:=q5;have pR:b≠p:=λe=>by
  rw[e,z] at l;have:=(dr.cells.inj l).2.1;revert this;decide
 have J:d[st.length-1-i]? = some (.int .i64 (st.getD i 0:Nat)):=by
  rw[q8 _ (by show _<s.cP.length;omega)];show some (zo .i64 ((s.cP.getD (st.length-1-i) 0:Nat):Int))=_;rw[t];congr 3
  simp only[uj];rw[T6 Om];congr 2;omega
 by_cases kg:i<k
 ·have wG:=Yg i kg;refine rn (zu @I @z @l @f4 @J) ?_;refine(dG h1 3 s.line [] Sq).mono λv2 K2 ⟨pd,h2⟩=> ?_;have G4:((st.length-1-i:Nat):Int)-1=((st.length-1-(i+1):Nat):Int):=by omega
  refine rn (an @f4 @G4) ?_;all_goals exact⟨_,Om,i+1,pd,rfl,Om,rfl,by
   have e:s.out++kY (i+1) (⟨3,s.line,[]⟩:da)=(s.out++kY i ⟨3,s.line,[]⟩)++ [⟨3,s.line,[]⟩]:=by rw[List.replicate_succ',aG]
   rw[e];exact h2⟩
 have L:i=k:=by omega
 subst L;have HC:= @agp b s.cP.length c (st.length-1-i) Om;have bK:=agq (o:=0) (n:=s.cP.length) (c:=c) l;have Yh:(st.drop i).reverse.length=st.length-1-i+1:=by simp;omega
 have M:El A H (.slice (some ⟨b,0,none⟩) (st.length-1-i+1) c) (st.drop i).reverse:=⟨b,uO,c,d,by rw[Yh],q1,q2,l,q4,Om,q6,Om,λj hj=>by
  rw[q8 j (by show j<s.cP.length;omega)];show some (zo .i64 ((s.cP.getD j 0:Nat):Int))=_;rw[t];congr 3
  simp only[uj];rw[T6 Om,T6 Sq,sk];congr 2
  simp;omega⟩
 obtain⟨h2,_⟩:=h1.Yc (ns:=(st.drop i).reverse) Sq h1.E (ag _) M (λ_ _ _=>rfl);have pg:(st.drop i).headD 0=st.getD i 0:=by
  rw[List.drop_eq_getElem_cons W];simp[List.getD,dx W]
 by_cases J4:st.getD i 0=n
 ·have w:uT s st n= { s with out:=s.out++kY i ⟨3,s.line,[]⟩,cP:=(st.drop i).reverse }:=by
   unfold uT;rw[x];show(if (st.drop i).headD 0=n then _ else _)=_;rw[iP (by rw[pg];exact J4)]
  rw[w];refine rn (zv @I @z @l @f4 @J @HC @bK @pR) ?_;all_goals exact⟨_,_,h2⟩
 have w:uT s st n= { s with out:=s.out++kY i ⟨3,s.line,[]⟩,cP:=(st.drop i).reverse,err:=21,wh:=s.line }:=by
  unfold uT;rw[x];show(if (st.drop i).headD 0=n then _ else _)=_;rw[iN (by rw[pg];exact J4)]
 rw[w];refine rn (zv @I @z @l @f4 @J @HC @bK @pR) ?_;all_goals
  refine(La h2 s.line 21 dm de h0).mono λv3 K3 ⟨h3,_⟩=> ?_;refine dh ?_;all_goals exact⟨_,_,h3⟩
end
section
def Nl (u:List UInt8):Prop:=u= []\/∃r,u=10::r
theorem Nl.hd{u:List UInt8}(h:Nl u):hd u=0\/hd u=10:=by
 rcases h with rfl | ⟨r,rfl⟩
 ·exact .inl rfl
 exact .inr rfl
theorem wH{t u:List UInt8}(h:Nl u):hd (t++u)=hd t\/(t= []/\hd (t++u)=10):=by
 cases t with
 | nil=>
   rcases h.hd with g | g
   ·exact .inl g
   exact .inr ⟨rfl,g⟩
 | cons c r=>exact .inl rfl
theorem uV{α:Type}{p:Nat->α}{t u:List UInt8}(h:Nl u)(hp:p 10=p 0):p (hd (t++u))=p (hd t):=by
 rcases wH (t:=t) h with g | ⟨rfl,g⟩
 ·rw[g]
 rw[g,hp];rfl
theorem HD{p:Nat->Bool}(hp:p 10=false) : ∀ {t u:List UInt8},Nl u->nW p (t++u)=nW p t
 | [],u,h=>by
   rcases h with rfl | ⟨r,rfl⟩
   ·rfl
   show nW p (10::r)=0;rw[nW,iN (by show ¬p 10=true;simp[hp])]
 | c::t,u,h=>by
   simp only[aS,nW];rw[HD hp h]
theorem qF{t u:List UInt8}{j:Nat}(h:j<=t.length):(t++u).drop j=t.drop j++u:=List.drop_append_of_le_length h
theorem HE{t u:List UInt8}(h:Nl u):cp (t++u)=cp t:=HD de h
theorem Et{t:List UInt8}:cp t<=t.length:=tA
theorem HF{t:List UInt8}(h:hd t≠0):1<=t.length:=nY h
theorem Ql{t:List UInt8}{j:Nat}(h:bA (hd (t.drop j))=true):j+1<=t.length:=by
 have:hd (t.drop j)≠0:=λe=>by rw[e] at h;cases h
 have:=nY this;simp at this;omega
theorem Yi{t u:List UInt8}(h:Nl u):iJ (t++u)=iJ t:=by
 unfold iJ;by_cases c:hd t=46
 ·have hl:=HF (t:=t) Om;have a:hd (t++u)=46:=by
   rcases wH (t:=t) h with g | ⟨rfl,g⟩
   ·rw[g,c]
   cases c
  rw[qF hl,uV (p:=bA) h de,HE h,a,c]
 have a:hd (t++u)≠46:=by
  rcases wH (t:=t) h with g | ⟨rfl,g⟩
  ·rw[g];exact c
  rw[g];decide
 rw[iN (λg=>a g.1),iN (λg=>c g.1)]
theorem Yj{t u:List UInt8}(h:Nl u):eR (t++u)=eR t:=by
 unfold eR;by_cases c:hd t=101
 ·have hl:=HF (t:=t) Om;have b:hd (t++u)=101:=by
   rcases wH (t:=t) h with g | ⟨rfl,g⟩
   ·rw[g,c]
   cases c
  rw[iP b,iP c,qF hl,uV (p:=bA) h de,HE h];have d:(hd (t.drop 1++u)=43\/hd (t.drop 1++u)=45)↔(hd (t.drop 1)=43\/hd (t.drop 1)=45):=by
   exact decide_eq_decide.1 (uV (p:=λn=>decide (n=43\/n=45)) (t:=t.drop 1) h de)
  by_cases e:hd (t.drop 1)=43\/hd (t.drop 1)=45
  ·have f:2<=t.length:=by
    have:=HF (t:=t.drop 1) Om;simp at this;omega
   rw[qF f,uV (p:=bA) h de,HE h];simp only[d]
  by_cases a:bA (hd (t.drop 1))=true
  ·rw[iP a,iP a]
  rw[iN a,iN a,iN (λg=>e (d.1 g.1)),iN (λg=>e g.1)]
 have b:hd (t++u)≠101:=by
  rcases wH (t:=t) h with g | ⟨rfl,g⟩
  ·rw[g];exact c
  rw[g];decide
 rw[iN b,iN c]
theorem agu{l:List UInt8}:iJ l<=l.length:=by
 unfold iJ;split;·rename_i g;have h1:=Ql g.2;have:=Et (t:=l.drop 1);simp only[iH] at this;omega
 omega
theorem agv{l:List UInt8}:eR l<=l.length:=by
 unfold eR;have h1:=Et (t:=l.drop 1);have h2:=Et (t:=l.drop 2);simp only[iH] at h1 h2;split
 ·split;·rename_i g;have:=Ql g;omega
  split;·rename_i g;have:=Ql g.2;omega
  omega
 omega
theorem Qm{l:List UInt8}:hC l<=l.length:=by
 have h1:=Et (t:=l);have h2:=agu (l:=l.drop (cp l));simp only[iH] at h2;unfold hC;omega
theorem Qn{l:List UInt8}:a8 l<=l.length:=by
 have h1:=Qm (l:=l);have h3:=agv (l:=l.drop (hC l));simp only[iH] at h3;unfold a8;omega
theorem Yk{t u:List UInt8}(h:Nl u):hC (t++u)=hC t:=by
 unfold hC;rw[HE h,qF Et,Yi h]
theorem Yl{t u:List UInt8}(h:Nl u):a8 (t++u)=a8 t:=by
 unfold a8;rw[Yk h,qF Qm,Yj h]
theorem Ym{t u:List UInt8}(h:Nl u):dy (t++u)=dy t:=by
 unfold dy;rw[HE h,Yk h,qF Et,qF Qm,Yi h,Yj h]
theorem agw{t u:List UInt8}(h:Nl u)(ht:0<t.length):bZ (t++u)=bZ t:=by
 unfold bZ;rw[Yl h,Ym h,qF Qn,uV (p:=fK) h de,uV (p:=λn=>decide (n=46)) h de];have:hd (t++u)=hd t:=by
  rcases wH (t:=t) h with g | ⟨rfl,_⟩
  ·exact g
  simp at ht
 rw[this]
theorem agx{t u:List UInt8}(h:Nl u):ie (t++u)=ie t:=by
 unfold ie;by_cases c:hd t=120
 ·have hl:=HF (t:=t) Om;have b:hd (t++u)=120:=by
   rcases wH (t:=t) h with g | ⟨rfl,g⟩
   ·rw[g,c]
   cases c
  rw[iP b,iP c,qF hl,uV (p:=mZ) h de];by_cases a:mZ (hd (t.drop 1))<16
  ·have d:2<=t.length:=by
    have:hd (t.drop 1)≠0:=λe=>by rw[e] at a;exact absurd a de
    have:=HF this;simp at this;omega
   rw[qF d,uV (p:=mZ) h de]
  rw[iN (λg=>a g.1),iN (λg=>a g.1)]
 have b:hd (t++u)≠120:=by
  rcases wH (t:=t) h with g | ⟨rfl,g⟩
  ·rw[g];exact c
  rw[g];decide
 rw[iN b,iN c,uV (p:=FU) h de]
theorem Yn{l:List UInt8}{b n:Nat}(h:ie l=some (b,n)):n<=l.length:=by
 unfold ie at h;split at h
 ·split at h
  ·rename_i g;cases h;have h2:hd (l.drop 2)≠0:=λe=>by have:=g.2;rw[e] at this;exact absurd this de
   have:=nY h2;simp at this;omega
  cases h
 split at h
 ·rename_i c g;cases h;have a:hd l≠0:=λe=>g (by rw[e];decide);exact nY a
 cases h
theorem Qo{q:Nat}(a:32<=q) : ∀ {f:Nat} {t u:List UInt8},Nl u->gO q f (t++u)=gO q f t
 | 0,_,_,_=>rfl
 | f+1,t,u,h=>by
   by_cases ht:t= []
   ·subst ht;have:hd u=0\/hd u=10:=h.hd;simp only[a6,gO];rw[iN Om,iP Om,iN (by show ¬(0=q);omega),iP (by show 0<32;decide)]
   have hl:1<=t.length:=by
    cases t with
    | nil=>exact absurd rfl ht
    | cons c r=>simp
   have he:hd (t++u)=hd t:=by
    rcases wH (t:=t) h with g | ⟨rfl,_⟩
    ·exact g
    exact absurd rfl ht
   simp only[gO];rw[he,qF hl,Qo a h,agx h];cases b:ie (t.drop 1) with
   | none=>rfl
   | some x=>
     have:=Yn b;simp only[iH] at this;simp only;rw[qF Om,Qo a h]
theorem Qp{q:Nat} : ∀ {f g:Nat} {l:List UInt8},l.length<f->l.length<g->gO q f l=gO q g l
 | 0,_,_,h,_=>absurd h Om
 | _,0,_,_,h=>absurd h Om
 | f+1,g+1,l,d,hg=>by
   unfold gO;by_cases a:hd l=q
   ·rw[iP a,iP a]
   rw[iN a,iN a];by_cases b:hd l<32
   ·rw[iP b,iP b]
   rw[iN b,iN b];have hl:0<l.length:=nY Om;by_cases c:hd l=92
   ·rw[iN (by simpa using c),iN (by simpa using c)];cases ie (l.drop 1) with
    | none=>rfl
    | some x=>
      simp only;rw[Qp (f:=f) (g:=g) Sq Sq]
   rw[iP c,iP c,Qp (f:=f) (g:=g) Sq Sq]
theorem agy{q:Nat}(a:32<=q){t u:List UInt8}(h:Nl u):l8 q (t++u)=l8 q t:=by
 unfold l8;rw[Qo a h];exact Qp Sq Om
theorem Lo{t u:List UInt8}{n:Nat}(h:n<=t.length):(t++u).take n=t.take n:=TY h
theorem Yo{t u:List UInt8}(h:Nl u){n:Nat}{S:List (List UInt8)}(b : ∀x∈S,x.length=n/\(10:UInt8)∉x):(t++u).take n∈S↔t.take n∈S:=by
 by_cases hl:n<=t.length
 ·rw[Lo hl]
 have c:t.take n=t:=qq Om;constructor
 ·intro a;obtain⟨h1,h2⟩:=b _ a;rcases h with rfl | ⟨r,rfl⟩
  ·simp at h1;omega
  exact absurd (by
   rw[List.take_append,c];refine AW _ ?_;obtain⟨k,hk⟩ : ∃k,n-t.length=k+1:=⟨n-t.length-1,Om⟩;rw[hk];simp) h2
 intro a;have:=(b _ a).1;simp at this;omega
theorem agz{t u:List UInt8}(h:Nl u):lH (t++u)=lH t:=by
 have h3 : ∀x∈S3,x.length=3/\(10:UInt8)∉x:=by decide
 have h2 : ∀x∈S2,x.length=2/\(10:UInt8)∉x:=by decide
 have h1:=uV (p:=λn=>decide (n∈S1.map UInt8.toNat)) (t:=t) h de;have a:=decide_eq_decide.1 h1;unfold lH;simp only[Yo h h3,Yo h h2,a]
theorem Yp{l:List UInt8}{n:Nat}(h:lH l=some n):n<=l.length/\0<n:=by
 have h3 : ∀x∈S3,x.length=3:=by decide
 have h2 : ∀x∈S2,x.length=2:=by decide
 unfold lH at h;split at h;·rename_i g;cases h;have:=h3 _ g;simp at this;omega
 split at h;·rename_i g;cases h;have:=h2 _ g;simp at this;omega
 split at h
 ·rename_i g;cases h;have:hd l≠0:=λe=>by rw[e] at g;revert g;decide
  have:=nY this;omega
 cases h
theorem Qq{q:Nat} : ∀ {f:Nat} {l x:List UInt8} {n:Nat},32<=q->gO q f l=some (x,n)->n<=l.length
 | 0,_,_,_,_,h=>by cases h
 | f+1,l,x,n,d,h=>by
   simp only[gO] at h;split at h;·rename_i c;cases h;exact nY Om
   split at h;·cases h
   rename_i i j;have hl:0<l.length:=nY Om;split at h;·rw[jX] at h;obtain⟨⟨y,k⟩,h1,h2⟩:=h;cases h2;have:=Qq d h1;simp only[iH] at this;show k+1<=_;omega
   cases a:ie (l.drop 1) with
   | none=>rw[a] at h;cases h
   | some z=>
     obtain⟨b,e⟩:=z;rw[a] at h;simp only at h;rw[jX] at h;obtain⟨⟨y,k⟩,h1,h2⟩:=h;cases h2;have h3:=Qq d h1;have h4:=Yn a;simp only[iH] at h3 h4;show k+(1+e)<=_;omega
theorem agA{t u:List UInt8}(h:Nl u):nW en (t++u)=nW en t:=HD de h
theorem Qr{t u:List UInt8}(h:Nl u)(ht:0<t.length):fq (t++u)=fq t:=by
 have he:hd (t++u)=hd t:=by
  rcases wH (t:=t) h with g | ⟨rfl,_⟩
  ·exact g
  simp at ht
 unfold fq;rw[he,agA h,Lo tA,agw h ht,Ym h,Yl h,Lo Qn,agz h,qF ht];by_cases c:hd t=39\/hd t=34
 ·rw[iP c,iP c,agy Om h]
 rw[iN c,iN c];cases hs:lH t with
 | none=>rfl
 | some n=>
   simp only[fo];rw[Lo (Yp hs).1]
theorem Lp{l:List UInt8}{k n:Nat}{x:List UInt8}(h:fq l=some (k,x,n)):0<n/\n<=l.length:=by
 unfold fq at h;split at h
 ·rename_i g;cases h;have hl:0<l.length:=nY λe=>by rw[e] at g;cases g
  have:=v8 (p:=en) (l:=l) (j:=0) hl (by simp[en,g]);simp only[sn] at this;exact⟨Om,tA⟩
 split at h
 ·rename_i g;split at h;·cases h
  cases h;have hl:0<l.length:=nY λe=>by rw[e] at g;cases g
  have:=v8 (p:=bA) (l:=l) (j:=0) hl (by simpa using g);simp only[sn] at this;refine⟨?_,Qn⟩;unfold a8 hC cp;omega
 split at h;·rename_i g;rw[jX] at h;obtain⟨⟨y,m⟩,h1,h2⟩:=h;cases h2;have hl:0<l.length:=nY Om;have:=Qq Om h1;simp only[iH] at this;show 0<m+1/\m+1<=_;omega
 rw[jX] at h;obtain⟨m,h1,h2⟩:=h;cases h2;have:=Yp h1;omega
theorem Yq{t u:List UInt8}(h:Nl u):cq (t++u)=cq t:=by
 unfold cq;rw[HD de h,qF tA,HD (p:=λn=>decide (n≠10)) de h];have:=uV (p:=λn=>decide (n=35)) (t:=t.drop (nW (λn=>decide (n=32)) t)) h de;simp only[decide_eq_decide.1 this]
theorem Yr{t:List UInt8}:cq t<=t.length:=by
 have h1:=tA (p:=λn=>decide (n=32)) (l:=t);unfold cq;split;·have:=tA (p:=λn=>decide (n≠10)) (l:=t.drop (nW (λn=>decide (n=32)) t));simp only[iH] at this;omega
 exact h1
end
section
open Go Go.RowKit
theorem Ys{d k:Nat}{x:List UInt8}:jd d k x<=d+1:=by
 unfold jd
 (repeat' split)<;>omega
theorem Yt{line:Nat} : ∀ {f:Nat} {t:List UInt8} {d d':Nat} {x:List da},je line f t d=some (x,d')->x.length<=t.length/\d'<=d+t.length
 | 0,_,_,_,_,h=>by cases h
 | f+1,t,d,d',x,h=>by
   simp only[je] at h;split at h;·cases h;simp
   rename_i hb;cases ht:fq (t.drop (cq t)) with
   | none=>rw[ht] at h;cases h
   | some z=>
     obtain⟨k,y,n⟩:=z;rw[ht] at h;simp only at h;rw[jX] at h;obtain⟨⟨xs,e⟩,h1,h2⟩:=h;cases h2;obtain⟨a,b⟩:=Yt h1;have c:=Lp ht;have i:= @Ys d k y;simp only[iH] at a b c;simp only[ay];omega
theorem Yu{line n:Nat}{st:List Nat}:(dZ line st n).1.length+(dZ line st n).2.length<=st.length+2:=by
 unfold dZ;split;·simp;omega
 have h1:(st.takeWhile λx=>decide (n<x)).length+(st.dropWhile λx=>decide (n<x)).length=st.length:=by
  rw[<-bW,ac1]
 simp only[Jz];omega
def Lq(A K:CH)(p:Nat)(src:List UInt8)(s:RS)(m:Nat)(t:List UInt8)(r:Except Nat (List da×Nat×List Nat)):Prop:=match r with
 | .ok (x,d,aT)=>∃a b,bH A K p src { s with pos:=s.pos+t.length,dep:=d,cP:=aT.reverse,out:=s.out++x } a b m
 | .error e=>∃a b c,bH A K p src c a b m/\c.err=e/\c.wh=s.line
structure wI(s:RS)(t:List UInt8)(j f d:Nat)(ts:List da):Prop where
 tk:je s.line (t.length+1) t s.dep=(je s.line f (t.drop j) d).map λy=>(ts++y.1,y.2)
 fu:t.length-j<f
 fl:f<=t.length+1
 jl:j<=t.length
 dl:d<=s.dep+j
 tl:ts.length<=j
def iC (s:RS)(ins:List da)(a:List Nat)(j d:Nat)(ts:List da):RS:= { s with pos:=s.pos+j,dep:=d,cP:=a,out:=s.out++ins++ts }
theorem wI.step{s:RS}{t:List UInt8}{j f d:Nat}{ts:List da}(h:wI s t j f d ts)(b : ¬(t.drop j).length<=cq (t.drop j)){k n:Nat}{x:List UInt8}(ht:fq (t.drop (j+cq (t.drop j)))=some (k,x,n)) :
 ∃a,a<f/\wI s t (j+cq (t.drop j)+n) a (jd d k x) (ts++ [⟨k,s.line,x⟩]):=by
 obtain⟨a,rfl⟩ : ∃a,f=a+1:=⟨f-1,by have:=h.fu;omega⟩;have c:=Lp ht;simp only[iH] at c b;have i:=h.jl;have e:=h.fu;have l:=h.fl;have m:=h.dl;have o:=h.tl;have hd:= @Ys d k x;refine⟨a,nX _,⟨?_,Om,Om,Om,Om,Sq⟩⟩;rw[h.tk];simp only[je];rw[iN Sq,gE,ht];simp only[gE,<-jW];cases je s.line a (t.drop (j+cq (t.drop j)+n)) (jd d k x) with
 | none=>rfl
 | some y=>simp
theorem wI.bad{s:RS}{t:List UInt8}{j f d:Nat}{ts:List da}(h:wI s t j f d ts)(b : ¬(t.drop j).length<=cq (t.drop j))(ht:fq (t.drop (j+cq (t.drop j)))=none):je s.line (t.length+1) t s.dep=none:=by
 obtain⟨a,rfl⟩ : ∃a,f=a+1:=⟨f-1,by have:=h.fu;omega⟩;rw[h.tk];simp only[je];rw[iN b,gE,ht];rfl
theorem wI.fin{s:RS}{t:List UInt8}{j f d:Nat}{ts:List da}(h:wI s t j f d ts)(b:(t.drop j).length<=cq (t.drop j)):je s.line (t.length+1) t s.dep=some (ts,d):=by
 obtain⟨a,rfl⟩ : ∃a,f=a+1:=⟨f-1,by have:=h.fu;omega⟩;rw[h.tk];simp only[je];rw[iP b];simp
def jB (s:RS)(st:List Nat)(t:List UInt8):List da:=if s.dep=0 then (dZ s.line st (cq t)).1 else []
def jC (s:RS)(st:List Nat)(t:List UInt8):List Nat:=if s.dep=0 then (dZ s.line st (cq t)).2 else st
theorem agB{s:RS}{ins:List da}{b:List Nat}{j a n d:Nat}{ts:List da}{k:Nat}{x:List UInt8}:jA { ax (iC s ins b (j+a) d ts) n with dep:=jd d k x } k s.line x=iC s ins b (j+a+n) (jd d k x) (ts++ [⟨k,s.line,x⟩]):=by
 simp only[jA,ax,iC,RS.mk.injEq,aG,and_true,true_and];omega
def Yv (A:CH)(p:Nat)(src:List UInt8)(s:RS)(m:Nat)(st:List Nat)(t:List UInt8)(n:Nat)(h:ae)(b:CH):Prop:=(n=t.length+3/\h= .bool false/\∃vo vt,bH A b p src s vo vt m)\/
    (¬t.length<=cq t/\¬(s.dep=0/\(dZ s.line st (cq t)).2.headD 0≠cq t)/\h= .bool true/\
      ((∃j f d ts c e,n=f+1/\wI s t j f d ts/\bH A b p src (iC s (jB s st t) (jC s st t).reverse j d ts) c e m)\/
       (∃a c e,n=0/\je s.line (t.length+1) t s.dep=none/\bH A b p src a c e m/\a.err=20/\a.wh=s.line/\a.out.length+a.cP.length<400000/\a.line<=100000)))
theorem Qs{A K:CH}{p:Nat}{src:List UInt8}{s:RS}{m:Nat}{st:List Nat}{t:List UInt8}{j f d:Nat}{ts:List da}{vo:ae}(av : ¬t.length<=cq t)(i : ¬(s.dep=0/\(dZ s.line st (cq t)).2.headD 0≠cq t))(a:wI s t j f d ts)(C:j+cq (t.drop j)<t.length)(q:s.line<=100000)(D:src.length<=20000)(hb:s.out.length+s.cP.length<200000)(r:(jB s st t).length+(jC s st t).length<=s.cP.length+2)(u:t.length<=20000)
 (h:Qh A K p src (iC s (jB s st t) (jC s st t).reverse (j+cq (t.drop j)) d ts) vo m (fq (t.drop (j+cq (t.drop j))))) : ∃n,n<f+1/\Yv A p src s m st t n (.bool true) K:=by
 have l : ¬(t.drop j).length<=cq (t.drop j):=by simp;omega
 have F:=a.tl;have G:=a.jl;cases b:fq (t.drop (j+cq (t.drop j))) with
 | none=>
   rw[b] at h;obtain⟨c,v,h1,h2,h3,h4,h5,w,H,I,y⟩:=h;refine⟨0,Om, .inr ⟨av,i,rfl, .inr ⟨v,vo,c,rfl,a.bad l b,h1,h2,h3,?_,by rw[y];exact q⟩⟩⟩;rw[h5];simp only[iC,bW,ul] at w⊢;omega
 | some z=>
   obtain⟨k,x,n⟩:=z;rw[b] at h;obtain⟨c,h1⟩:=h;obtain⟨o,J,e⟩:=a.step l b;have h2:bH A K p src (iC s (jB s st t) (jC s st t).reverse (j+cq (t.drop j)+n) (jd d k x) (ts++ [⟨k,s.line,x⟩])) vo c m:=by
    rw[<-agB];exact h1
   exact⟨o+1,Om, .inr ⟨av,i,rfl, .inl ⟨_,o,_,_,vo,c,rfl,e,h2⟩⟩⟩
theorem agD{A K:CH}{p:Nat}{src:List UInt8}{s:RS}{vo vt:ae}{m:Nat}(h:bH A K p src s vo vt m){st:List Nat}(V:s.cP=st.reverse)(hz:st.getLast? = some 0)(G:s.err=0){t u:List UInt8}(W:src.drop s.pos=t++u)(hu:Nl u)(mc : ∀x∈t,x.toNat≠10)(JM:s.pos<=src.length)(hb:s.out.length+s.cP.length<200000)(mg:s.dep<50000) :
 bw (bj Tryz.prog LG GG) 18 [.pointer (some ⟨p,0,none⟩)] K λv K'=>Lq A K' p src s m t (gF s.line t s.dep st):=by
 have kK:=h.sl;have ap:=h.ob;have eL:=h.pl;have dm:=h.bd.line;have J:src.length=s.pos+t.length+u.length:=by
  have:=congrArg l7 W;simp at this;omega
 have L : ∀q,q<=t.length->src.drop (s.pos+q)=t.drop q++u:=λq i=>by rw[<-gE,W,qF i]
 have wk : ∀q,q<t.length->∃c,src[s.pos+q]? = some c/\c.toNat≠10:=λq i=>by
  refine⟨t[q],?_,mc _ (List.getElem_mem i)⟩;have:=congrArg (·[q]?) W;simp only[sk] at this;rw[this,ui i,dx i]
 have gH:src.length<=s.pos+t.length\/src[s.pos+t.length]? = some 10:=by
  rcases hu with rfl | ⟨r,rfl⟩
  ·left;simp at J;omega
  right;have:=congrArg (·[t.length]?) W;simp only[sk] at this;rw[this,tu (ag _)];simp
 have iz:= @Yu s.line (cq t) st;have apw:s.cP.length=st.length:=by rw[V];simp
 have agC:(jB s st t).length+(jC s st t).length<=st.length+2:=by
  unfold jB jC;split;·exact iz
  simp
 refine ij Rl Kr (bq ?_);refine rn @ap ?_;refine sM (λn fr K1=>Yv A p src s m st t n (fr 4) K1) (n:=t.length+3) (.inl ⟨rfl,by repeat' (first | (simp (disch:=first | omega | (decide +kernel)) only[↓cm,↓reduceIte]) | ((with_reducible first|apply bL|apply bM|apply bN)<;>intro _)),vo,vt,h⟩) ?_;rintro n fr K1 hI b;obtain⟨v4,f4⟩ : ∃v,fr 4=v:=⟨_,rfl⟩;rw[f4] at hI;rcases hI with ⟨rfl,rfl,w,M,h1⟩ | ⟨av,bK,rfl,(⟨j,f,d,ts,w,M,rfl,N,h1⟩ | ⟨s',w,M,rfl,Hq,h1,Y,ru,fD,iv⟩)⟩
 ·have I:=h1.ob;have z0:=h1.pl;repeat' (first | (simp (disch:=first | omega | (decide +kernel)) only[↓RD,RU,↓cm,↓cV,↓du,dk,pop,bg,ρ0,ρ1,↓reduceIte,reduceCtorEq,ρ5,ρ6,b,I,G]) | ((with_reducible first|apply bL|apply bM|apply bN)<;>intro _))
  refine(XT h1 Om).mono λv2 K2 h2=> ?_;have ez:=L 0 Om;simp only[Nat.add_zero,sn] at ez;rw[ez,Yq hu] at h2;obtain⟨a,ha⟩ : ∃a,cq t=a:=⟨_,rfl⟩;have pT:=Yr (t:=t);rw[ha] at h2 pT;have l:=h2.ob;have zY:=h2.pl;have o:(ax s a).pos=s.pos+a:=rfl;have z:(ax s a).dep=s.dep:=rfl;by_cases O:t.length<=a
  ·have Qt:a=t.length:=by omega
   subst Qt;have H:gF s.line t s.dep st= .ok ([],s.dep,st):=by unfold gF;rw[iP Om]
   have C:Lq A K2 p src s m t (gF s.line t s.dep st):=by
    rw[H];refine⟨w,M,?_⟩;rw[<-V,cn];exact h2
   rcases gH with g | g
   ·repeat' (first | (simp (disch:=first | omega | (decide +kernel)) only[↓RD,RU,↓cm,↓cV,↓du,dk,pop,bg,ct,↓reduceIte,Nat.reduceEqDiff,reduceCtorEq,ρ5,ρ6,ρ28,b,l,o,z,cG,f4]) | ((with_reducible first|apply bL|apply bM|apply bN)<;>intro _))
    all_goals exact C
   repeat' (first | (simp (disch:=first | omega | (decide +kernel)) only[↓RD,RU,↓cm,↓cV,↓du,dk,pop,bg,ct,ρ4,↓reduceIte,Nat.reduceEqDiff,reduceCtorEq,ρ5,ρ6,ρ28,ρ29,b,l,o,z,cG,ia,g,f4]) | ((with_reducible first|apply bL|apply bM|apply bN)<;>intro _))
   all_goals exact C
  obtain⟨c,hc,Lr⟩:=wk a Om;have Qu : ¬t.length<=cq t:=by rw[ha];exact O
  have Yw:wI s t 0 (t.length+1) s.dep []:=⟨by
   simp only[sn,a6];cases je s.line (t.length+1) t s.dep<;>rfl,Om,Om,Om,Om,s0⟩
  have Yx:cq (t.drop 0)=a:=by simpa using ha
  have agF:((s.pos+a:Nat):Int)-(s.pos:Int)=(a:Int):=by omega
  by_cases y:s.dep=0
  ·refine rn (A3 @b @l @o @cG @ia @hc @Lr @f4 @agF) ?_;refine(agr (s:=ax s a) h2 (st:=st) V hz a Om G (by show s.out.length+s.cP.length<_;omega)).mono λv3 K3 ⟨Yy,Q,h3⟩=> ?_;have hei:jB s st t=(dZ s.line st a).1:=by unfold jB;rw[iP y,ha]
   have heo:jC s st t=(dZ s.line st a).2:=by unfold jC;rw[iP y,ha]
   by_cases Ls:(dZ s.line st a).2.headD 0=a
   ·have e:uT (ax s a) st a=iC s (jB s st t) (jC s st t).reverse a s.dep []:=by
     unfold uT;rw[iP (show(dZ (ax s a).line st a).2.headD 0=a from Ls),hei,heo];simp[iC,ax]
    rw[e] at h3;have fg:=h3.ob;have pV:=h3.pl;have iB:(iC s (jB s st t) (jC s st t).reverse a s.dep []).err=0:=G;refine rn (mY @b @fg @iB) ?_;refine(Qj h3 (by show s.pos+a<_;omega) G (by simp only[iC,bW,ul,aF];omega) (by show s.dep<100000;omega)).mono λR D h5=> ?_;have S:src.drop (iC s (jB s st t) (jC s st t).reverse a s.dep []).pos=t.drop (a)++u:=L _ Om;rw[S,Qr hu Sq] at h5;refine dh ?_;all_goals
     have i:=Qs (A:=A) (K:=D) (p:=p) (src:=src) (m:=m) (st:=st) (vo:=Yy) Qu (λg=>g.2 (by rw[ha];exact Ls)) Yw (by rw[Yx];omega) dm kK hb Om Om (by rw[show 0+cq (t.drop 0)=a by omega];exact h5);obtain⟨q,yq,U⟩:=i;exact⟨q,Om,U⟩
   have e:uT (ax s a) st a= { ax s a with out:=s.out++(dZ s.line st a).1,cP:=(dZ s.line st a).2.reverse,err:=21,wh:=s.line }:=by
    unfold uT;rw[iN (show ¬(dZ (ax s a).line st a).2.headD 0=a from Ls)];rfl
   rw[e] at h3;have fg:=h3.ob;have pV:=h3.pl;have H:gF s.line t s.dep st= .error 21:=by
    unfold gF;rw[iN Qu,iP ⟨y,by rw[ha];exact Ls⟩]
   rw[H];refine rn (an @b @fg) ?_;all_goals exact⟨Yy,Q,_,h3,rfl,rfl⟩
  have e:ax s a=iC s (jB s st t) (jC s st t).reverse a s.dep []:=by
   unfold jB jC;rw[iN y,iN y,<-V];simp[iC,ax]
  rw[e] at h2;refine rn (zv @b @l @o @cG @ia @hc @Lr @f4) ?_;refine(Qj h2 (by show s.pos+a<_;omega) G (by simp only[iC,bW,ul,aF];omega) (by show s.dep<100000;omega)).mono λR D h5=> ?_;have S:src.drop (iC s (jB s st t) (jC s st t).reverse a s.dep []).pos=t.drop (a)++u:=L _ Om;rw[S,Qr hu Sq] at h5;refine dh ?_;all_goals
   have i:=Qs (A:=A) (K:=D) (p:=p) (src:=src) (m:=m) (st:=st) (vo:=w) Qu (λg=>y g.1) Yw (by rw[Yx];omega) dm kK hb Om Om (by rw[show 0+cq (t.drop 0)=a by omega];exact h5);obtain⟨q,yq,U⟩:=i;exact⟨q,Om,U⟩
 ·have I:=h1.ob;have z0:=h1.pl;have ph:(iC s (jB s st t) (jC s st t).reverse j d ts).err=0:=G;have uu:=N.jl;have rK:=N.dl;have Br:=N.tl;refine rn (mY @b @I @ph) ?_;refine(XT h1 (by show s.pos+j<=_;omega)).mono λv2 K2 h2=> ?_;have ez:src.drop (iC s (jB s st t) (jC s st t).reverse j d ts).pos=t.drop j++u:=L j uu;rw[ez,Yq hu] at h2;obtain⟨a,ha⟩ : ∃a,cq (t.drop j)=a:=⟨_,rfl⟩;have pT:=Yr (t:=t.drop j);simp only[iH] at pT;rw[ha] at h2 pT;have e:ax (iC s (jB s st t) (jC s st t).reverse j d ts) a=iC s (jB s st t) (jC s st t).reverse (j+a) d ts:=by
   simp only[ax,iC,RS.mk.injEq,and_true,true_and];omega
  rw[e] at h2;have l:=h2.ob;have zY:=h2.pl;have o:(iC s (jB s st t) (jC s st t).reverse (j+a) d ts).pos=s.pos+(j+a):=rfl;have z:(iC s (jB s st t) (jC s st t).reverse (j+a) d ts).dep=d:=rfl;have Qw:(iC s (jB s st t) (jC s st t).reverse (j+a) d ts).line=s.line:=rfl;by_cases O:t.length<=j+a
  ·have Qt:j+a=t.length:=by omega
   have agG:=N.fin (by rw[ha];simp;omega);have H:gF s.line t s.dep st= .ok (jB s st t++ts++(if d=0 then [⟨1,s.line,[]⟩] else []),d,jC s st t):=by
    unfold gF;rw[iN av,iN bK,agG];rfl
   rw[H];rw[Qt] at h2 l o z Qw;by_cases y:d=0
   ·have C : ∀K3 Q,bH A K3 p src (jA (iC s (jB s st t) (jC s st t).reverse t.length d ts) 1 s.line []) w Q m->Lq A K3 p src s m t (.ok (jB s st t++ts++ [⟨1,s.line,[]⟩],d,jC s st t)):=λK3 Q g=>by
     refine⟨w,Q,?_⟩;have:(jA (iC s (jB s st t) (jC s st t).reverse t.length d ts) 1 s.line [])= { s with pos:=s.pos+t.length,dep:=d,cP:=(jC s st t).reverse,out:=s.out++(jB s st t++ts++ [⟨1,s.line,[]⟩]) }:=by simp[jA,iC]
     rw[<-this];exact g
    rw[iP y];rcases gH with g | g
    ·refine rn (xC @b @l @o @z @Qw @cG @f4) ?_;all_goals
      refine(dG h2 1 s.line [] (by simp only[iC,bW,ul,aF];omega)).mono λR D ⟨bJ,h5⟩=> ?_;repeat' (first | (simp (disch:=first | omega | (decide +kernel)) only[↓RD,RU,ct]) | ((with_reducible first|apply bL|apply bM|apply bN)<;>intro _))
      all_goals exact C _ _ h5
    repeat' (first | (simp (disch:=first | omega | (decide +kernel)) only[↓RD,RU,↓cm,↓cV,↓du,dk,pop,bg,ρ0,ρ1,ρ4,↓reduceIte,Nat.reduceEqDiff,reduceCtorEq,ρ5,ρ6,ρ28,ρ29,b,l,o,z,Qw,cG,ia,g,f4]) | ((with_reducible first|apply bL|apply bM|apply bN)<;>intro _))
    all_goals
     refine(dG h2 1 s.line [] (by simp only[iC,bW,ul,aF];omega)).mono λR D ⟨bJ,h5⟩=> ?_;refine dh ?_;all_goals exact C _ _ h5
   rw[iN y,cn];have C:Lq A K2 p src s m t (.ok (jB s st t++ts,d,jC s st t)):=by
    refine⟨w,M,?_⟩;rw[<-aG];exact h2
   rcases gH with g | g
   ·repeat' (first | (simp (disch:=first | omega | (decide +kernel)) only[↓RD,RU,↓cm,↓cV,↓du,dk,pop,bg,ct,↓reduceIte,Nat.reduceEqDiff,reduceCtorEq,ρ5,ρ6,ρ28,b,l,o,z,cG]) | ((with_reducible first|apply bL|apply bM|apply bN)<;>intro _))
    all_goals exact C
   repeat' (first | (simp (disch:=first | omega | (decide +kernel)) only[↓RD,RU,↓cm,↓cV,↓du,dk,pop,bg,ct,ρ4,↓reduceIte,Nat.reduceEqDiff,reduceCtorEq,ρ5,ρ6,ρ28,ρ29,b,l,o,z,cG,ia,g]) | ((with_reducible first|apply bL|apply bM|apply bN)<;>intro _))
   all_goals exact C
  obtain⟨c,hc,Lr⟩:=wk (j+a) Om;refine rn (zv @b @l @o @cG @ia @hc @Lr @f4) ?_;refine(Qj h2 (by show s.pos+(j+a)<_;omega) G (by simp only[iC,bW,ul,aF];omega) (by show d<100000;omega)).mono λR D h5=> ?_;have S:src.drop (iC s (jB s st t) (jC s st t).reverse (j+a) d ts).pos=t.drop (j+a)++u:=L _ Om;rw[S,Qr hu Sq] at h5;refine dh ?_;all_goals
   have i:=Qs (A:=A) (K:=D) (p:=p) (src:=src) (m:=m) (st:=st) (vo:=w) av bK N (by rw[ha];omega) dm kK hb Om Om (by rw[ha];exact h5);obtain⟨q,yq,U⟩:=i;exact⟨q,Om,U⟩
 have I:=h1.ob;have z0:=h1.pl;have H:gF s.line t s.dep st= .error 20:=by
  unfold gF;rw[iN av,iN bK,Hq]
 rw[H];by_cases y:s'.dep=0
 ·refine rn (jI @b @I @Y @f4) ?_;all_goals
   refine(dG h1 1 s'.line [] Om).mono λR D ⟨bJ,h5⟩=> ?_;refine dh ?_;all_goals exact⟨w,bJ,_,h5,Y,ru⟩
 refine rn (jI @b @I @Y @f4) ?_;all_goals exact⟨w,M,_,h1,Y,ru⟩
def wE (ws:List (List UInt8)):Array MapEntry:=((ws.zipIdx).map λx=>({ key:= .string (str x.1),val:= .int .i64 1,born:=x.2 }:MapEntry)).toArray
theorem Yz{l n:Nat}{k:List UInt8}{ws:List (List UInt8)}{H:CH}(h1:n=ws.length)(h2:ws.contains k=false):xY 1 l (.string ⟨⟨k⟩⟩) (.int .i64 1) H (.map (wE ws) n)=some (undef,H.set l (.map (wE (ws++ [k])) (n+1))):=by
 subst h1;have hk:k∉ws:=by simpa using h2
 have a:oc 1 (.string (str k)) (wE ws).toList 0=some none:=(zZ (x:=k) (ws:=ws) (n:=0) (i:=0)).2 hk;have hp:(wE ws).push { key:= .string (str k),val:= .int .i64 1,born:=ws.length }=wE (ws++ [k]):=by
  apply Array.ext';simp[wE,List.zipIdx_append]
 simp only[xY,isKey,isVal,and_self,iT];rw[show(Value.string ⟨⟨k⟩⟩)= .string (str k) from rfl,a,<-hp]
theorem agH{l:Nat}{k:List UInt8}{H:CH}:xY 1 l (.string ⟨⟨k⟩⟩) (.int .i64 1) H (.map #[] 0)=some (undef,H.set l (.map (wE [k]) 1)):=Yz (ws:= []) rfl rfl
theorem agI(H:CH):bw (bj Tryz.prog LG GG) 17 [] H λv K=>v= .map (some H.nx)/\K.ob H.nx= .map zW 31/\K.nx=H.nx+1/\∀l,l<H.nx->K.ob l=H.ob l:=by
 refine ij Rl Kr (bq ?_);repeat' (first | (simp (disch:=first | omega | (decide +kernel)) only[↓Ed,↓Ee,↓Pm,↓Hb,↓Hc,↓Hf,↓Ef,↓KE,↓cm,↓kj,↓cV,↓du,gN,Dn,fZ,iA,Ec,Kw,Ky,↓DY,↓OW,pop,cy,ct,ji,eV,↓reduceIte,Nat.reduceAdd,Int.reduceOfNat,aS,a6,iN,true_and,agH,Yz,CH.set_set]) | ((with_reducible first|apply bL|apply bM|apply bN)<;>intro _))
 exact⟨rfl,λl hl=>by rw[iN Om]⟩
end
section
open Go Go.RowKit
theorem agJ : ∀ {l:List UInt8},eT l≠ []
 | []=>by simp[eT]
 | c::r=>by
   simp only[eT];split;·simp
   split<;>simp
theorem Ew{u:List UInt8}(hu:Nl u) : ∀ {t:List UInt8},(∀x∈t,x.toNat≠10)->eT (t++u)=t::(match u with | []=> [] | _::r=>eT r)
 | [],_=>by
   rcases hu with rfl | ⟨r,rfl⟩
   ·rfl
   simp only[a6,eT];rw[iP de]
 | c::t,h=>by
   simp only[aS,eT];rw[iN (h c s0),Ew hu (λx hx=>h x (by simp[hx]))]
def Lt (l:List UInt8):List UInt8:=l.takeWhile λx=>decide (x.toNat≠10)
def Lu (l:List UInt8):List UInt8:=l.dropWhile λx=>decide (x.toNat≠10)
theorem YA{l:List UInt8}:l=Lt l++Lu l:=(ac1).symm
theorem YB : ∀ {l:List UInt8},∀x∈Lt l,x.toNat≠10
 | [],x,h=>by cases h
 | c::r,x,h=>by
   unfold Lt at h;rw[List.takeWhile_cons] at h;split at h
   ·rename_i hc;rcases List.mem_cons.1 h with rfl | h
    ·simpa using hc
    exact YB x h
   cases h
theorem YC : ∀ {l:List UInt8},Nl (Lu l)
 | []=> .inl rfl
 | c::r=>by
   unfold Lu;rw[JA];split;·exact YC
   rename_i hc;refine .inr ⟨r,?_⟩;have:c.toNat=10:=by simpa using hc
   rw[show c=10 from UInt8.toNat_inj.1 this]
theorem YE{p:Nat->Bool}{a:Nat}(hp:p a=false) : ∀ {l:List Nat},l.getLast? = some a->(l.dropWhile p).getLast? = some a
 | [],h=>by cases h
 | [b],h=>by
   simp at h;subst h;simp[JA,hp]
 | b::c::l,h=>by
   rw[JA];split;·exact YE hp (by simpa[iu] using h)
   exact h
theorem agK{line n:Nat}{st:List Nat}(h:st.getLast? = some 0):(dZ line st n).2.getLast? = some 0:=by
 unfold dZ;split
 ·cases st with
  | nil=>cases h
  | cons a st=>simpa[iu] using h
 exact YE s0 h
theorem Qx{line d d':Nat}{t:List UInt8}{st aT:List Nat}{x:List da}(h:gF line t d st= .ok (x,d',aT))(hz:st.getLast? = some 0):x.length+aT.length<=st.length+t.length+3/\d'<=d+t.length/\aT.getLast? = some 0:=by
 unfold gF at h;split at h;·cases h;refine⟨Sq,Om,hz⟩
 split at h;·cases h
 split at h;·cases h
 rename_i ts d1 ht;obtain⟨b,a⟩:=Yt ht;have c:= @Yu line (cq t) st;cases h;refine⟨?_,a,?_⟩
 ·simp only[bW];split<;>split<;>simp only[aF,ay]<;>omega
 split;·exact agK hz
 exact hz
def uW (o:List da):Except (Nat×Nat) (List da×List Nat)->Except (Nat×Nat) (List da×List Nat)
 | .ok y=> .ok (o++y.1,y.2)
 | .error e=> .error e
theorem Qy{a b:List da}{r:Except (Nat×Nat) (List da×List Nat)}:uW a (uW b r)=uW (a++b) r:=by
 cases r<;>simp[uW]
theorem yK{line d:Nat}{t:List UInt8}{ts:List (List UInt8)}{st:List Nat}:gG line (t::ts) d st=match gF line t d st with | .error e=> .error (line,e) | .ok (x,d',aT)=>uW x (gG (line+1) ts d' aT):=by
 simp only[gG];cases gF line t d st with
 | error e=>rfl
 | ok y=>
   obtain⟨x,d',aT⟩:=y;simp only;cases gG (line+1) ts d' aT<;>rfl
structure rN(src:List UInt8)(s:RS)(st:List Nat):Prop where
 op:s.cP=st.reverse
 z:st.getLast? = some 0
 e:s.err=0
 pl:s.pos<=src.length
 bo:s.out.length+s.cP.length<=s.pos+3*s.line+1
 bd:s.dep<=s.pos
 bl:s.line<=s.pos+1
 rows:gG 1 (eT src) 0 [0]=uW s.out (gG s.line (eT (src.drop s.pos)) s.dep st)
 rG:(eT src).length+1=s.line+(eT (src.drop s.pos)).length
theorem rN.init{src:List UInt8}:rN src ⟨0,1,0,[0],[],0,0⟩ [0]:=by
 refine⟨rfl,rfl,rfl,s0,s0,s0,s0,?_,by simp[C4]⟩;simp only[sn];cases gG 1 (eT src) 0 [0]<;>rfl
theorem rN.row{src:List UInt8}{s:RS}{st:List Nat}(h:rN src s st) : ∃t u,src.drop s.pos=t++u/\Nl u/\(∀x∈t,x.toNat≠10)/\src.length=s.pos+t.length+u.length:=
 ⟨Lt (src.drop s.pos),Lu (src.drop s.pos),YA,YC,YB,by
   have h1:=congrArg l7 (YA (l:=src.drop s.pos));have h2:=h.pl;simp only[iH,bW] at h1;omega⟩
theorem rN.err{src:List UInt8}{s:RS}{st:List Nat}(h:rN src s st)(hl:src.length<=20000){t u:List UInt8}(a:src.drop s.pos=t++u)(hu:Nl u)(hn : ∀x∈t,x.toNat≠10){e:Nat}(b:gF s.line t s.dep st= .error e):gv src= .error (s.line,e):=by
 unfold gv;rw[iN Om,h.rows,a,Ew hu hn,yK,b];rfl
theorem rN.fin{src:List UInt8}{s:RS}{st:List Nat}(h:rN src s st)(hl:src.length<=20000){t:List UInt8}(a:src.drop s.pos=t++ [])(hn : ∀x∈t,x.toNat≠10){x:List da}{d':Nat}{aT:List Nat}(b:gF s.line t s.dep st= .ok (x,d',aT)):gv src= .ok (s.out++x++tB s.line aT):=by
 have hc:=h.rG;rw[a,Ew (.inl rfl) hn] at hc;simp only[ay,aF] at hc;unfold gv;rw[iN Om,h.rows,a,Ew (.inl rfl) hn,yK,b,show(eT src).length=s.line by omega];simp[gG,uW]
theorem rN.step{src:List UInt8}{s:RS}{st:List Nat}(h:rN src s st){t r:List UInt8}(a:src.drop s.pos=t++10::r)(hn : ∀x∈t,x.toNat≠10)(b:src.length=s.pos+t.length+(r.length+1)){x:List da}{d':Nat}{aT:List Nat}(c:gF s.line t s.dep st= .ok (x,d',aT)) :
 rN src { s with pos:=s.pos+t.length+1,line:=s.line+1,dep:=d',cP:=aT.reverse,out:=s.out++x } aT:=by
 obtain⟨j,k,d⟩:=Qx c h.z;have f:=congrArg l7 h.op;have i:=h.bo;have l:=h.bd;have m:=h.bl;have hc:=h.rG;have hd:src.drop (s.pos+t.length+1)=r:=by
  rw[jW,<-gE,a];simp
 simp only[ul] at f;rw[a,Ew (.inr ⟨r,rfl⟩) hn] at hc;simp only[ay] at hc;refine⟨rfl,d,h.e,by show s.pos+t.length+1<=_;omega,by simp only[bW,ul];omega,by show d'<=s.pos+t.length+1;omega,by show s.line+1<=s.pos+t.length+1+1;omega,?_,?_⟩;·show _=uW (s.out++x) (gG (s.line+1) (eT (src.drop (s.pos+t.length+1))) d' aT);rw[hd,h.rows,a,Ew (.inr ⟨r,rfl⟩) hn,yK,c,<-Qy]
 show _=s.line+1+(eT (src.drop (s.pos+t.length+1))).length;rw[hd];omega
def mh (src:List UInt8):List Int:=src.map λc=>(c.toNat:Int)
def Qz (H:CH):ae->Option ae
 | .slice none 0 0=>some (.string .empty)
 | .slice (some ⟨l,o,none⟩) n _=>match H.ob l with
   | .cells cs _ _=>if o+n<=cs.length then (rm ((cs.drop o).take n)).map λbs=> .string ⟨bs.toArray⟩ else none
   | _=>none
 | .slice (some ⟨_,_,some _⟩) 0 _=>some (.string .empty)
 | _=>none
theorem agM{H:CH}{ev:au->ae}{x:au}:bg H ev (.b2s x)=Qz H (ev x):=rfl
theorem YF : ∀ {src:List UInt8},rm (src.map λc=>zo .u8 (c.toNat:Int))=some src
 | []=>rfl
 | c::r=>by
   rw[dq];simp only[rm];rw[YF];simp
theorem YG{H:CH}{q:Option Addr}{c:Nat}{src:List UInt8}(h:fU 1 (mM .u8) H q c (mh src)):Qz H (.slice q src.length c)=some (.string (str src)):=by
 rcases h with ⟨h,rfl,rfl | rfl | rfl⟩ | ⟨l,o,os,e,kd,rfl,hl,hc,j,f,a,b⟩
 ·have:src= []:=by simpa[mh] using h
  subst this;rfl
 ·have:src= []:=by simpa[mh] using h
  subst this;rfl
 ·have:src= []:=by simpa[mh] using h
  subst this;rfl
 simp only[mh,kZ,Dc] at a b;simp only[Qz,f];rw[iP a];have:(os.drop o).take src.length=src.map λc=>zo .u8 (c.toNat:Int):=by
  apply List.ext_getElem;·simp;omega
  intro i h1 h2;have h3:=(b i (by simpa using h2)).1;simp only[kZ] at h2;have d:((os.drop (o+i)).take 1)[0]? = some (.int .u8 (src[i].toNat:Int)):=by rw[h3];simp
  rw[AT Om,sk,Nat.add_zero] at d;simp only[List.getElem_take,List.getElem_drop,List.getElem_map];exact(List.getElem?_eq_some_iff.1 d).2
 rw[this,YF];rfl
end
section
open Go Go.RowKit
def QA(H K:CH)(v:ae):Except (Nat×Nat) (List da)->Prop
 | .ok ts=>∃vt,v= .tuple #[vt, .int .i64 0, .int .i64 0]/\nN H 65 3 zV K vt ts
 | .error y=>v= .tuple #[.slice none 0 0, .int .i64 y.1, .int .i64 y.2]
theorem YH{line d e:Nat}{t:List UInt8}{st:List Nat}(h:gF line t d st= .error e):e=20\/e=21:=by
 unfold gF at h;split at h;·cases h
 split at h;·cases h;exact .inr rfl
 split at h;·cases h;exact .inl rfl
 cases h
def LxJ (H:CH)(p:Nat)(src:List UInt8)(m n:Nat)(K:CH):Prop:=∃s st vo vt,n=src.length+1-s.pos/\rN src s st/\bH H K p src s vo vt m
def LxE (H:CH)(p:Nat)(src:List UInt8)(m k:Nat)(s:RS)(vo:ae)(n:Nat)(v:ae)(K:CH):Prop:=∃i vt,n=k-i/\i<=k/\v= .int .i64 (i:Nat)/\bH H K p src { s with out:=s.out++kY i ⟨3,s.line,[]⟩ } vo vt m
theorem agN(H:CH){q:Option Addr}{c:Nat}{src:List UInt8}(h:fU 1 (mM .u8) H q c (mh src)) :
 bw (bj Tryz.prog LG GG) 10 [.slice q src.length c] H λv K=>aI H K/\QA H K v (gv src):=by
 refine ij Rl Kr (bq ?_);by_cases hl:20000<src.length
 ·have e:gv src= .error (0,24):=by unfold gv;rw[iP hl]
  rw[e];refine dh ?_;all_goals exact⟨aI.refl _,rfl⟩
 have hb:=YG h;repeat' (first | (simp (disch:=first | omega | (decide +kernel)) only[↓Ed,↓Ee,↓Hb,↓Kz,↓KB,↓Hc,↓KM,↓PH,ck,↓Hf,↓Ef,↓Po,↓cm,↓cV,↓du,Ec,↓DY,↓OV,dk,KH,pop,lF,↓reduceIte,Int.reduceOfNat,reduceCtorEq,PB]) | ((with_reducible first|apply bL|apply bM|apply bN)<;>intro _))
 refine(agI H).mono λv1 m ⟨L,V,HH,W⟩=> ?_;subst L;have hx:aI H m:=⟨Om,W⟩;have Y:=YG (fU.hY (mM.hY _) hx h);repeat' (first | (simp (disch:=first | omega | (decide +kernel)) only[↓Ed,↓Pk,↓Ee,↓PD,↓PE,↓KM,↓PG,↓PJ,↓PK,PL,PI,uK,uM,ck,↓Ef,↓KC,↓KD,↓cm,↓cV,↓du,gN,Ec,Kx,dk,pop,fV,kH,isVal,Value.cells,dq,lF,fo,↓reduceIte,Nat.reduceEqDiff,Nat.reduceAdd,reduceCtorEq,Jt,FO,ay,aF,KL,Py,FP,sn,aS,a6,cn,List.drop_nil,NJ,List.toList_toArray,j8,Nat.reduceLeDiff,ag,BG,Dc,iZ,and_true,agM,hb,Y]) | ((with_reducible first|apply bL|apply bM|apply bN)<;>intro _))
 obtain⟨p,hp⟩ : ∃p,m.nx+1=p:=⟨_,rfl⟩;refine sM (λn fr m=>LxJ H p src H.nx n m) (n:=src.length+1) ?_ ?_
 ·refine⟨⟨0,1,0,[0],[],0,0⟩,[0], .slice (some ⟨m.nx,0,none⟩) 1 1, .slice none 0 0,rfl,rN.init,?_⟩;have e1 : ¬m.nx=p:=by omega
  have e2 : ¬H.nx=p:=by omega
  have e3 : ¬H.nx=m.nx:=by omega
  refine⟨by simp only[fZ,gN,hp,iP];rfl,by simp only[gN];omega,Om,⟨m.nx, .ex,1,[.int .i64 0],rfl,Om,by simp only[gN];omega,by simp only[fZ,gN,hp,iN e1,iP],rfl,de,de,de,λi hi=> ?_⟩, .inl ⟨rfl,rfl⟩,by simp only[fZ,gN,hp,iN e2,iN e3];exact V,by simp only[gN];omega,Om,(hx.new _).new _,⟨de,de,de,de,de,de⟩,Om⟩;have:i=0:=by simpa using hi
  subst this;rfl
 rintro n fr K2 ⟨⟨pos,line,dep,cP,out,err,wh⟩,st,vo,vt,rfl,j,h2⟩ w;obtain rfl:err=0:=j.e;obtain⟨t,u,C,hu,D,d⟩:=j.row;have hbo:out.length+cP.length<=pos+3*line+1:=j.bo;have od:dep<=pos:=j.bd;have kf:line<=pos+1:=j.bl;have eL:pos<=src.length:=j.pl;have d:src.length=pos+t.length+u.length:=d;have bR:=congrArg l7 j.op;have M:wh<=100000:=h2.bd.wh;simp only[ul] at bR;refine rn (an @w @hp) ?_;refine(agD h2 j.op j.z rfl C hu D eL (by show out.length+cP.length<_;omega) (by show dep<_;omega)).mono λv3 K3 h3=> ?_;cases s:gF line t dep st with
 | error e=>
   have N:=j.err Om C hu D s;have he:=YH s;simp only[s] at h3;obtain⟨O,G,R,h4,h5,o⟩:=h3;have o:R.wh=line:=o;rw[N];have I:=h4.ob;have kq:=h4.pl;refine rn (zu @w @hp @I @h5 @o) ?_;all_goals exact⟨h4.E,rfl⟩
 | ok y=>
   obtain⟨x,A,aT⟩:=y;simp only[s] at h3;obtain⟨O,G,h4⟩:=h3;have h4:bH H K3 p src ⟨pos+t.length,line,A,aT.reverse,out++x,0,wh⟩ O G H.nx:=h4;have I:=h4.ob;have kq:=h4.pl;obtain⟨g1,g2,g3⟩:=Qx s j.z;rcases hu with rfl | ⟨r,rfl⟩
   ·have N:gv src= .ok (out++x++tB line aT):=j.fin Om C D s;rw[N];have d:src.length=pos+t.length:=d;obtain⟨b,kd,cc,os,rfl,o2⟩:=h4.cP;have cx:0<aT.length:=by
     cases aT with
     | nil=>cases g3
     | cons a l=>simp
    repeat' (first | (simp (disch:=first | omega | (decide +kernel)) only[↓RD,RU,↓cm,↓cV,↓du,pop,bg,↓reduceIte,Nat.reduceEqDiff,reduceCtorEq,ρ5,ρ6,ρ28,w,hp,I,cG,ul]) | ((with_reducible first|apply bL|apply bM|apply bN)<;>intro _))
    refine sM (λn fr m=>LxE H p src H.nx (aT.length-1) ⟨pos+t.length,line,A,aT.reverse,out++x,0,wh⟩ (.slice (some ⟨b,0,none⟩) aT.reverse.length cc) n (fr 60) m) (n:=aT.length-1) ⟨0,G,rfl,Om,by(repeat' (first | (simp (disch:=first | omega | (decide +kernel)) only[↓cm,↓reduceIte]) | ((with_reducible first|apply bL|apply bM|apply bN)<;>intro _));all_goals rfl),by simpa using h4⟩ ?_;rintro n aX K4 ⟨i,bJ,rfl,hi,f60,h5⟩ S;have uQ:=h5.ob;have Hy:=h5.pl;repeat' (first | (simp (disch:=first | omega | (decide +kernel)) only[↓RD,RU,↓cm,↓cV,↓du,pop,bg,ρ0,ρ1,↓reduceIte,Nat.reduceEqDiff,ρ5,ρ6,w,S,hp,uQ,f60]) | ((with_reducible first|apply bL|apply bM|apply bN)<;>intro _))
    ·refine(dG h5 3 line [] (by simp only[bW,ul,Jz];omega)).mono λv6 U ⟨J,o⟩=> ?_;repeat' (first | (simp (disch:=first | omega | (decide +kernel)) only[↓RD,RU,↓cm,↓cV,↓du,pop,↓reduceIte,Nat.reduceEqDiff,f60]) | ((with_reducible first|apply bL|apply bM|apply bN)<;>intro _))
     all_goals
      refine⟨aT.length-1-(i+1),Om,i+1,J,rfl,Om,by first | rfl | (skip;all_goals rfl),?_⟩;have e:out++x++kY (i+1) (⟨3,line,[]⟩:da)=out++x++kY i ⟨3,line,[]⟩++ [⟨3,line,[]⟩]:=by rw[List.replicate_succ',aG];simp
      show bH H U p src ⟨pos+t.length,line,A,aT.reverse,out++x++kY (i+1) ⟨3,line,[]⟩,0,wh⟩ _ J H.nx;rw[e];exact o
    refine(dG h5 0 line [] (by simp only[bW,ul,Jz];omega)).mono λv6 U ⟨J,o⟩=> ?_;have Q:=o.ob;have apx:=o.pl;refine rn (jI @w @S @hp @Q) ?_;all_goals
     have ei:i=aT.length-1:=by omega
     subst ei;refine⟨o.E,J,rfl,?_⟩;have e:out++x++tB line aT=out++x++kY (aT.length-1) ⟨3,line,[]⟩++ [⟨0,line,[]⟩]:=by unfold tB;rw[aG];simp
     rw[e];exact o.out
   have hS:rN src ⟨pos+t.length+1,line+1,A,aT.reverse,out++x,0,wh⟩ aT:=j.step C D d s;simp only[ay] at d;refine rn (jI @w @hp @I @cG) ?_;all_goals
    refine⟨src.length+1-(pos+t.length+1),Om,_,aT,O,G,rfl,hS,?_⟩;exact bH.set h4 (s':=⟨pos+t.length+1,line+1,A,aT.reverse,out++x,0,wh⟩) rfl rfl ⟨by show pos+t.length+1<=_;omega,by show line+1<=_;omega,by show A<=_;omega,by show 0<=_;omega,M,by simp only[bW,ul];omega⟩
theorem QB : ∀ {ts:List (List UInt8)} {line d:Nat} {st aT:List Nat} {x:List da},gG line ts d st= .ok (x,aT)->st.getLast? = some 0->x.length+aT.length<=st.length+(ts.map l7).sum+3*ts.length
 | [],line,d,st,aT,x,h,_=>by cases h;simp
 | t::ts,line,d,st,aT,x,h,hz=>by
   rw[yK] at h;cases c:gF line t d st with
   | error e=>rw[c] at h;cases h
   | ok y=>
     obtain⟨a,d1,aQ⟩:=y;rw[c] at h;simp only at h;cases hw:gG (line+1) ts d1 aQ with
     | error e=>rw[hw] at h;cases h
     | ok z=>
       obtain⟨b,i⟩:=z;rw[hw] at h;cases h;obtain⟨j,k,f⟩:=Qx c hz;have:=QB hw f;simp only[bW,dq,qu,ay];omega
theorem HI : ∀ {src:List UInt8},((eT src).map l7).sum+(eT src).length=src.length+1
 | []=>rfl
 | c::r=>by
   have e:=HI (src:=r);simp only[eT];split;·simp only[dq,qu,ay,aF];omega
   split;·rename_i a b d;rw[d] at e;simp only[dq,qu,ay] at e⊢;omega
   rename_i d;exact absurd d agJ
theorem YI{src:List UInt8}{ts:List da}(h:gv src= .ok ts):ts.length<=100000:=by
 unfold gv at h;split at h;·cases h
 cases a:gG 1 (eT src) 0 [0] with
 | error e=>rw[a] at h;cases h
 | ok y=>
   obtain⟨x,st⟩:=y;rw[a] at h;cases h;have h1:=QB a rfl;have h2:=HI (src:=src);simp only[tB,bW,Jz,ay,aF] at h1⊢;omega
theorem agP{x:Int}(h:(Lit.int .u8 x).wf=true):((x.toNat.toUInt8).toNat:Int)=x:=by
 have:=bounds_u8 h;have h1:x.toNat.toUInt8.toNat=x.toNat % 256:=by simp
 omega
theorem agQ{H:CH}{q:Option Addr}{c:Nat}{xs:List Int}(h:fU 1 (mM .u8) H q c xs) : ∃src,xs=mh src:=by
 refine⟨xs.map λx=>x.toNat.toUInt8,?_⟩;have hw : ∀x∈xs,(Lit.int .u8 x).wf=true:=by
  rcases h with ⟨rfl,_⟩ | ⟨l,o,os,e,kd,_,_,_,_,_,_,a⟩
  ·intro x hx;cases hx
  intro x hx;obtain⟨i,hi,rfl⟩:=List.getElem_of_mem hx;exact(a i hi).2
 clear h;induction xs with
 | nil=>rfl
 | cons x xs b=>
   simp only[mh,dq];rw[agP (hw x s0)];congr 1
   exact b λy d=>hw y (by simp[d])
theorem HJ{src:List UInt8}:(mh src).length=src.length:=by simp[mh]
end
section
theorem agR{k:Nat}{r:List UInt8}(a:hd r≠32):nW (λn=>decide (n=32)) (kY k (al 32)++r)=k:=by
 induction k with
 | zero=>exact xG (.inr (by simpa using a))
 | succ k b=>
   rw[List.replicate_succ,aS];show(if decide ((al 32).toNat=32)=true then _ else _)=_;rw[iP de,b]
theorem agS{line d:Nat}{t:List UInt8}{st:List Nat}(h:t.length<=cq t):gF line t d st= .ok ([],d,st):=by
 unfold gF;rw[iP h]
theorem agT{line d:Nat}{t:List UInt8}{ts:List (List UInt8)}{st:List Nat}(h:t.length<=cq t):gG line (t::ts) d st=gG (line+1) ts d st:=by
 have a : ∀r,uW [] r=r:=λr=>by cases r<;>rfl
 rw[yK,agS h];exact a _
theorem agU : ∀ {src:List UInt8},eT src≠ []
 | []=>by simp[eT]
 | c::r=>by
   simp only[eT];split;·simp
   split<;>simp
theorem YJ{more:List UInt8} : ∀ {src:List UInt8},eT (src++al 10::more)=eT src++eT more
 | []=>by
   show(if (al 10).toNat=10 then _ else _)=_;rw[iP de];rfl
 | c::r=>by
   rw[aS];simp only[eT];rw[YJ (src:=r)];split;·rfl
   cases h:eT r with
   | nil=>exact absurd h agU
   | cons a b=>rfl
theorem YK : ∀ {t:List UInt8},(∀x∈t,x.toNat≠10)->eT t= [t]
 | [],_=>rfl
 | c::r,h=>by
   simp only[eT];rw[iN (h c s0),YK λx hx=>h x (by simp[hx])]
theorem YL : ∀ {ts:List (List UInt8)} {line d:Nat} {st:List Nat} {e:Nat×Nat},gG line ts d st= .error e->line<=e.1/\(e.2=20\/e.2=21)
 | [],line,d,st,e,h=>by cases h
 | t::ts,line,d,st,e,h=>by
   rw[yK] at h;cases a:gF line t d st with
   | error e'=>rw[a] at h;cases h;exact⟨ag _,YH a⟩
   | ok y=>
     obtain⟨x,b,aT⟩:=y;rw[a] at h;simp only at h;cases hs:gG (line+1) ts b aT with
     | error c=>
       rw[hs] at h;cases h;have:=YL hs;omega
     | ok z=>rw[hs] at h;cases h
theorem Lw{src:List UInt8}{e:Nat×Nat}(hl:src.length<=20000)(h:gv src= .error e):1<=e.1/\(e.2=20\/e.2=21):=by
 unfold gv at h;rw[iN Om] at h;cases a:gG 1 (eT src) 0 [0] with
 | error e'=>rw[a] at h;cases h;exact YL a
 | ok y=>rw[a] at h;cases h
end
section
open Go Go.RowKit
variable {P:aZ} {B:Nat}
abbrev ce:=bk->List ae->CH->ae->CH->Prop
inductive mN(T:cF)(PC:ce):bU->Fr->CH->ae->CH->Prop where
 | gI {A R:List Item} {k:Item} {f:bk} {args:List au} {fr aj:Fr} {H H1 H':CH} {v:ae} (hn : ∃n,c9 (dg T n) A fr H=some (aj,H1)) (hw:ec aj k.guard=some true) (hk:k.op= .call f args) (hp:PC f (args.map (aO aj)) H1 v H'):mN T PC (.gI (A++k::R)) fr H v H'
 | lL {d:jf} {A R:List Item} {k:Item} {f:bk} {args:List au} {fr aj:Fr} {H H1 H':CH} {v:ae} {Zl:List Item} (hi:d.af=A++k::R) (hd:d.wm=some Zl) (hA : ∀x∈A,o9 x.op=true) (hn : ∃n,c9 (dg T n) A fr H=some (aj,H1)) (hz : ∃n r,c9 (dg T n) Zl aj H1=some r) (hw:ec aj k.guard=some true) (hk:k.op= .call f args) (hp:PC f (args.map (aO aj)) H1 v H'):mN T PC (.lL d) fr H v H'
 | seq1 {a b:bU} {fr:Fr} {H H':CH} {v:ae} (h:mN T PC a fr H v H'):mN T PC (.seq a b) fr H v H'
 | YM {a b:bU} {fr aj:Fr} {H H1 H':CH} {v:ae} (hn : ∃n,bG (dg T n) n a fr H=some (.normal,aj,H1)) (h:mN T PC b aj H1 v H'):mN T PC (.seq a b) fr H v H'
 | cond_t {c:au} {a b:bU} {fr:Fr} {H H':CH} {v:ae} (hc:aO fr c= .bool true) (h:mN T PC a fr H v H'):mN T PC (.cond c a b) fr H v H'
 | cond_f {c:au} {a b:bU} {fr:Fr} {H H':CH} {v:ae} (hc:aO fr c= .bool false) (h:mN T PC b fr H v H'):mN T PC (.cond c a b) fr H v H'
 | block {id:Nat} {c:bU} {fr:Fr} {H H':CH} {v:ae} (h:mN T PC c fr H v H'):mN T PC (.block id c) fr H v H'
 | YN {c:bU} {fr:Fr} {H H':CH} {v:ae} (h:mN T PC c fr H v H'):mN T PC (.loop c) fr H v H'
 | YO {c:bU} {fr aj:Fr} {H H1 H':CH} {v:ae} (hn : ∃n,bG (dg T n) n c fr H=some (.normal,aj,H1)) (h:mN T PC (.loop c) aj H1 v H'):mN T PC (.loop c) fr H v H'
def QC(T:cF)(PC:ce)(c:bU)(v:ae)(H':CH):Nat->Fr->CH->Prop
 | 0,fr,H=>mN T PC c fr H v H'
 | m+1,fr,H=>∃n aj H1,bG (dg T n) n c fr H=some (.normal,aj,H1)/\QC T PC c v H' m aj H1
theorem agV{T:cF}{PC:ce}{r:bU}{fr:Fr}{H H':CH}{v:ae}(h:mN T PC r fr H v H') : ∀c,r= .loop c->∃m,QC T PC c v H' m fr H:=by
 induction h with
 | YN h=>intro c e;cases e;exact⟨0,h⟩
 | YO hn h a=>
   intro c e;cases e;obtain⟨m,b⟩:=a _ rfl;obtain⟨n,hn⟩:=hn;exact⟨m+1,n,_,_,hn,b⟩
 | _=>intro c e;cases e
theorem agW{it:Item}{A:List Item}{t:Nat}(h:t∈ni A):t∈ni (it::A):=by
 simp only[ni,Jx] at h⊢;obtain⟨x,hx,hd⟩:=h;exact⟨x,kD _ hx,hd⟩
theorem agX{it:Item}{A:List Item}{t:Nat}(h:it.dst=some t):t∈ni (it::A):=by
 simp only[ni,Jx];exact⟨it,ny ..,h⟩
theorem agY{A R:List Item}{t:Nat}(h:t∈ni A):t∈ni (A++R):=by
 simp only[ni,Jx] at h⊢;obtain⟨x,hx,hd⟩:=h;exact⟨x,vY _ hx,hd⟩
theorem agZ{A:List Item}{t:Nat}(h:t∉ni A) : ∀x∈A,x.dst≠some t:=λx hx e=>h (by
 simp only[ni,Jx];exact⟨x,hx,e⟩)
theorem YP{h:Hd}(hh:HS P B h){ro:Option Nat}{N:Nat}{ops:Array Oper}{Q:Exit->Act->ar->Prop}{k:Item}{f:bk}{args:List au}{v:ae}{H':CH} : ∀(l:List Nat) (A R:List Item) (β:Nat->aC) (fr aj:Fr) (H H1:CH) (a:Act) (w:ar),
 (A++k::R).length=l.length->(∀j (h1:j<(A++k::R).length) (h2:j<l.length),∃o,ops[l[j]]? = some o/\uz P N ops o (A++k::R)[j])->aN P B β H w->FR β N fr a->c9 h A fr H=some (aj,H1)->ec aj k.guard=some true->k.op= .call f args->zI P B f (args.map (aO aj)) H1 v H'->
 (∀β' w' a' v',aN P B β' H' w'->bD β w β' w'->VR β' v v'->a'.defers=a.defers->(∀t,t∉ni A->VR β' (fr t) (a'.tmps.getD t undef))->Q (.panic [{ v:=v',recovered:=false }]) a' w')->wpOpsIn (Fn ro) 0 P ops Q l a w
 | [],A,R,β,fr,aj,H,H1,a,w,hl,_,_,_,_,_,_,_,_=>by simp at hl
 | i::l,[],R,β,fr,aj,H,H1,a,w,hl,z,C,n,d,hw,hk,hp,D=>by
   simp only[c9,Option.some.injEq,Prod.mk.injEq] at d;obtain⟨rfl,rfl⟩:=d;obtain⟨o,ho,c⟩:=z 0 s0 s0;simp only[a6,NL] at ho c;simp only[wpOpsIn,ho];rw[Bn c n hw];simp only[iT];refine⟨λf _=>trivial,?_⟩;rw[show(Fn ro).round=ro from rfl,Oper.semAt_eq ro _ _ c.nodefer];have F:=c.op;rw[hk] at F;generalize G:o.op=io at F;cases F with
   | @call f args ts he=>
     rw[he] at G;have hv : ∀x∈o.op.operands,VR β (aO fr x) (a.eval x):=λx hx=>zF n (c.bB x hx);have V:aW β (args.toList.map (aO fr)) (args.toList.map a.eval):=by
      refine⟨s0,λj u hu=> ?_⟩;rw[kF] at hu⊢
      cases hx:args.toList[j]? with
      | none=>rw[hx] at hu;cases hu
      | some x=>
        rw[hx] at hu;cases hu;exact⟨_,rfl,hv x (by rw[G];simp[Op.operands,Call.operands];exact .inr (by have:=List.mem_of_getElem? hx;simpa using this))⟩
     have W:(execOp a.eval o).run P w= .ok (.enter f (args.map a.eval)) w:=by
      simp only[execOp,G,resolve,Act.eval,Deferred.ofValue,Sem.run_bind,Sem.run_pure,Result.andThen_ok,invoke];rw[Bm hp.1];simp
     rw[W];refine⟨λh=>absurd h (by simp[Fn,gZ]),Gu ?_⟩;have:=hp.2 β w _ C V;have Y:(args.toList.map a.eval).toArray=args.map a.eval:=by apply Array.ext';simp
     rw[Y] at this;refine this.mono ?_;rintro e w' ⟨v',β',rfl,g1,g2,O⟩;exact D β' w' _ v' g2 O g1 rfl λt _=>(n.2 t).mono O.ext
 | i::l,it::A,R,β,fr,fr',H,H1,a,w,hl,z,C,n,d,I,hk,hp,D=>by
   obtain⟨o,ho,c⟩:=z 0 s0 s0;simp only[aS,NL] at ho c;have S : ∀(β1:Nat->aC) (aj:Fr) (s:CH) (y:Act) (q:ar),aN P B β1 s q->bD β w β1 q->FR β1 N aj y->y.defers=a.defers->(∀t,t∉ni (it::A)->aj t=fr t)->c9 h A aj s=some (fr',H1)->wpOpsIn (Fn ro) 0 P ops Q l y q:=by
    intro β1 aj s y q Oz J2 nI ft BI OA;refine YP hh l A R β1 aj fr' s H1 y q (by simpa using hl) (λj h1 h2=> ?_) Oz nI OA I hk hp fun β' w' a' v' J L M q4 q5=>D β' w' a' v' J (J2.trans L) M (q4.trans ft) λt ht=>by
     rw[<-BI t ht];exact q5 t λh=>ht (agW h)
    have:=z (j+1) (by simpa using h1) (by simpa using h2);simpa using this
   simp only[c9] at d;simp only[wpOpsIn,ho];cases m:cA h it fr H with
   | none=>rw[m] at d;cases d
   | some r=>
     obtain⟨aj,s⟩:=r;rw[m] at d;simp only at d;have U : ∀t,t∉ni (it::A)->aj t=fr t:=λt ht=>Xx m λe=>ht (agX e);cases hw:ec fr it.guard with
     | none=>simp[cA,hw] at m
     | some b=>
       rw[Bn c n hw];cases b with
       | true=>
         simp only[iT];simp only[cA,hw] at m;exact JY hh c C n hw m fun β1 q v1 J L M=>S β1 aj s _ q J L M (by cases o.dst<;>rfl) U d
       | false=>
         simp only[aM,iF];simp only[cA,hw,Option.some.injEq,Prod.mk.injEq] at m;obtain⟨rfl,rfl⟩:=m;refine⟨λ_ _=>trivial,S β _ _ _ w C (bD.refl β w) ?_ (by cases o.dst<;>rfl) U d⟩;rw[<-c.dst];exact n.put (λx hx=>c.lt x (by rw[<-c.dst];exact hx)) .skip
theorem YR{T:cF}(J:uD P B T){PC:ce}(U : ∀f args H v H',PC f args H v H'->zI P B f args H v H'){ro:Option Nat}{N B1:Nat}{D0:List Deferred}{c:Code}{r:bU}(bK:jL P N c r) : ∀(β:Nat->aC) (fr:Fr) (H H':CH) (v:ae) (a:Act) (w:ar) (Q:Exit->Act->ar->Prop),
 aN P B β H w->FR β N fr a->DL β ro->DM D0 B1 β w a->B1<=w.heap.size->mN T PC r fr H v H'->
 (∀β' w' a' v',aN P B β' H' w'->bD β w β' w'->VR β' v v'->DM D0 B1 β' w' a'->(∀t,t∉pQ r->VR β' (fr t) (a'.tmps.getD t undef))->Q (.panic [{ v:=v',recovered:=false }]) a' w')->c.wpIn (Fn ro) 0 P Q a w:=by
 induction bK with
 | bad=>intro β fr H H' v a w Q o i p q s b u;cases b
 | skip=>intro β fr H H' v a w Q o i p q s b u;cases b
 | label=>intro β fr H H' v a w Q o i p q s b u;cases b
 | exit=>intro β fr H H' v a w Q o i p q s b u;cases b
 | ret=>intro β fr H H' v a w Q o i p q s b u;cases b
 | rv hg hk=>intro β fr H H' v a w Q o i p q s b u;cases b
 | scope hc I=>
   intro β fr H H' v a w Q o i p q s b u;exact OB (I β fr H H' v a w _ o i p q s b fun β' w' a' v' y x z C D=>⟨λl e=>(by cases e),u β' w' a' v' y x z C D⟩)
 | @gI id ops af hl hi=>
   intro β fr H H' v a w Q o i p q s b u;cases b with
   | @gI A R k f args _ aj _ H1 _ _ hn hw hk hp=>
     obtain⟨n,hn⟩:=hn;refine wpIn_region (YP (sG J n) _ A R β fr aj H H1 a w (by simpa using hl) (λj h1 h2=> ?_) o i hn hw hk (U _ _ _ _ _ hp) fun β' w' a' v' y x z C D=>u β' w' a' v' y x z (q.kJ x C) λt ht=>D t λh=>ht (agY h));have V:j<ops.size:=by omega
     exact⟨ops[j],by simp[V],hi j h1 V⟩
 | @lL id ops d hd=>
   intro β fr H H' v a w Q o i p q s b u;cases b with
   | @lL _ A R k f args _ aj _ H1 _ _ Zl rC hp hA hn hz hw hk L=>
     obtain⟨n,hn⟩:=hn;obtain⟨m,r,hz⟩:=hz;exact hd.2 Zl hp B _ ro β fr aj H H1 H' v A k R f args a w id Q (sG J (max n m)) o i rC hA hk (DX (pN (vV ..)) hn) ⟨r,DX (pN (vW ..)) hz⟩ hw (U _ _ _ _ _ L) fun β' w' a' v' y x z C D=>u β' w' a' v' y x z (q.kJ x C) λt ht=>D t (agZ ht)
 | @seq ca cb ra rb ha hb M O=>
   intro β fr H H' v a w Q o i p q s b u;cases b with
   | seq1 h=>exact wpIn_seq (M β fr H H' v a w _ o i p q s h fun β' w' a' v' y x z C D=>u β' w' a' v' y x z C λt ht=>D t λh=>ht (vY _ h))
   | @YM _ _ _ aj _ H1 _ _ hn h=>
     obtain⟨n,hn⟩:=hn;refine wpIn_seq (DQ (sG J n) ha β fr aj H H1 a w .normal _ o i p q s hn fun β' w' a' y x z C=> ?_);exact O β' aj H1 H' v a' w' Q y z (p.kJ x.ext) C (cM s x.size) h fun β2 w2 a2 v' p1 p2 p3 p4 p5=>u β2 w2 a2 v' p1 (x.trans p2) p3 p4 λt ht=>by
      rw[<-PM (t:=t) hn λh=>ht (vY _ h)];exact p5 t λh=>ht (AW _ h)
 | @cond c ca cb ra rb hc ha hb M O=>
   intro β fr H H' v a w Q o i p q s b u;have hv:=zF i hc;cases b with
   | cond_t e h=>rw[e] at hv;exact wpIn_cond_true hv.xQ (M β fr H H' v a w Q o i p q s h fun β' w' a' v' y x z C D=>u β' w' a' v' y x z C λt ht=>D t λh=>ht (vY _ h))
   | cond_f e h=>rw[e] at hv;exact wpIn_cond_false hv.xQ (O β fr H H' v a w Q o i p q s h fun β' w' a' v' y x z C D=>u β' w' a' v' y x z C λt ht=>D t λh=>ht (AW _ h))
 | @block id c rc hc I=>
   intro β fr H H' v a w Q o i p q s b u;cases b with
   | block h=>exact wpIn_block (I β fr H H' v a w _ o i p q s h u)
 | @loop c rc hc I=>
   intro β0 W H0 H' v a0 w0 Q OC Bo p q s ux u;obtain⟨m0,mE⟩:=agV ux _ rfl;let F:Nat->Act->ar->Prop:=λm a w=>∃β fr H,aN P B β H w/\bD β0 w0 β w/\FR β N fr a/\DM D0 B1 β w a/\(∀t,t∉pQ rc->fr t=W t)/\QC T PC rc v H' m fr H
   classical
   refine wpIn_loop (λa w=>∃m,F m a w) (λa w=>if g : ∃m,F m a w then DN g else 0) ⟨m0,β0,W,H0,OC,bD.refl β0 w0,Bo,q,λ_ _=>rfl,mE⟩ λa w S=> ?_;have Y:=Va S;rw[dif_pos S];generalize hm:DN S=m at Y;obtain⟨β,fr,H,o,G,i,hd,uU,b⟩:=Y;cases m with
   | zero=>exact I β fr H H' v a w _ o i (p.kJ G.ext) hd (cM s G.size) b fun β' w' a' v' y x z C D=>u β' w' a' v' y (G.trans x) z C λt ht=>(by rw[<-uU t ht];exact D t ht)
   | succ m=>
     obtain⟨n,aj,H1,hn,b⟩:=b;refine DQ (sG J n) hc β fr aj H H1 a w .normal _ o i (p.kJ G.ext) hd (cM s G.size) hn fun β' w' a' y x z C=> ?_;have nZ:F m a' w':=⟨β',aj,H1,y,G.trans x,z,C,(λt ht=>(PM hn ht).trans (uU t ht)),b⟩;have hex : ∃m,F m a' w':=⟨m,nZ⟩;refine⟨hex,?_⟩;rw[dif_pos hex];have:=Vb hex nZ;omega
theorem YT{fn:Func}{tmps:Array ae}{R:Ending->ar->Prop}{B1:Nat}{β0 β:Nat->aC}{w0:ar}{H:CH}{v:ae} : ∀(ms:List Nat) (w:ar),aN P B β H w->bD β0 w0 β w->w0.heap.size<=B1->ms.Nodup->(∀D∈ms,B1<=D/\w.heap[D]? = some (.deferred (some [])))->
 (∀w',aN P B β H w'->bD β0 w0 β w'->R (.panicked [{ v:=v,recovered:=false }]) w')->AU gZ 0 P fn tmps R (ms.map J1) (.panicking [{ v:=v,recovered:=false }]) w
 | [],w,c,a,f,hn,d,e=>e w c a
 | D::ms,w,c,a,f,hn,d,e=>by
   obtain⟨h1,h2⟩:=d D (ny ..);have n:=(Array.getElem?_eq_some_iff.1 h2).1;refine⟨s0, .inl ⟨D,w.putObj D (.deferred none),rfl,run_takeDeferred h2,?_⟩⟩;refine YT ms _ (c.OF (o':= .deferred none) h2 ⟨λ_ _ _=>by simp,λ_ _=>by simp,λ_=>by simp,λ_ _=>by simp,λ_ _ _ _=>by simp⟩) ?_ f (List.nodup_cons.1 hn).2 (λj i=> ?_) e
   ·exact⟨a.os,a.tape,a.output,by simpa using a.size,λb hb ho=>by
     obtain⟨k1,k⟩:=a.cY b hb ho;exact⟨(AS Om).trans k1,k⟩,a.ext⟩
   obtain⟨l,m⟩:=d j (kD _ i);refine⟨l,(AS ?_).trans m⟩;rintro rfl;exact(List.nodup_cons.1 hn).1 i
def BN (T:cF)(X:ce):Nat->ce
 | 0=>X
 | n+1=>λf args H v H'=>X f args H v H'\/(T.ext f=false/\∃rf,T.fn f=some rf/\mN T (BN T X n) rf.body (λt=>args.getD t undef) H v H')
theorem QD{β:Nat->aC}{N:Nat}{args a:List ae}(c:aW β args a):FR β N (λt=>args.getD t undef) { tmps:=a.toArray++Array.replicate (N-a.toArray.size) undef,defers:= [] }:=by
 refine⟨Sq,λt=> ?_⟩;simp only[List.getD,Array.getD_eq_getD_getElem?];by_cases ht:t<a.length
 ·have b:t<args.length:=by have:=c.1;omega
  obtain⟨v',h1,h2⟩:=c.2 t args[t] (by simp[b]);rw[Array.getElem?_append_left (by simpa using ht)];simp only[List.getElem?_toArray,h1,Option.getD_some,dx b];exact h2
 have b:args.length<=t:=by have:=c.1;omega
 rw[List.getElem?_eq_none b];exact .undef _
theorem YU{T:cF}(a:uD P B T){X:ce}(d : ∀f args H v H',X f args H v H'->zI P B f args H v H') : ∀n f args H v H',BN T X n f args H v H'->zI P B f args H v H'
 | 0=>d
 | n+1=>λf args H v H' h=>by
   have o:=YU a d n;rcases h with h | ⟨_,rf,p,h⟩
   ·exact d _ _ _ _ _ h
   have e:=a.fn f rf p;obtain⟨fn,c,q,r,i,s,J⟩:=e.ok;refine⟨e.call,fun β w L t u=> ?_⟩;refine callsIn_of_wp_marks q r trivial ?_ rfl;have j:=QD (N:=fn.ntmps) u;rw[i] at j;rw[i];refine YR (ro:=none) (B1:=w.heap.size) (D0:= []) a o s β _ H H' v _ w _ t j (λb hb=>by cases hb) (DM.none rfl) (ag _) h fun β' w' k v' x y z A _=> ?_;obtain⟨ms,C,F,l⟩:=A;show AU gZ 0 P fn k.tmps _ k.defers (.panicking [{ v:=v',recovered:=false }]) w';rw[C,cn];exact YT ms w' x y (ag _) F (λD m=>⟨(l D m).1,(l D m).2.1⟩) λM G I=>⟨v',β',rfl,z,G,I⟩
variable {T:cF} {X:ce}
def BO (T:cF)(X:ce)(f:bk)(args:List ae)(H:CH)(Q R:ae->CH->Prop):Prop:=bw T f args H Q\/∃n v H',BN T X n f args H v H'/\R v H'
def YV (T:cF)(X:ce)(fr:Fr)(H:CH)(o:fG)(Q R:ae->CH->Prop):Prop:=lN T fr H o Q\/∃f args,o= .call f args/\∃n v H',BN T X n f (args.map (aO fr)) H v H'/\R v H'
def mi (T:cF)(X:ce)(c:bU)(fr:Fr)(H:CH)(Q:bP->Fr->CH->Prop)(R:ae->CH->Prop):Prop:=dB T c fr H Q\/∃n v H',mN T (BN T X n) c fr H v H'/\R v H'
def HK (T:cF)(X:ce)(n:Nat)(q:Option (List Item))(af:List Item)(fr:Fr)(H:CH)(v:ae)(H':CH):Prop:=∃A k a f args aj H1,af=A++k::a/\(∀Zl,q=some Zl->(∀x∈A,o9 x.op=true)/\∃n r,c9 (dg T n) Zl aj H1=some r)/\(∃m,c9 (dg T m) A fr H=some (aj,H1))/\ec aj k.guard=some true/\k.op= .call f args/\BN T X n f (args.map (aO aj)) H1 v H'
def yL (T:cF)(X:ce)(af:List Item)(fr:Fr)(H:CH)(K:Fr->CH->Prop)(R:ae->CH->Prop):Prop:=nK T af fr H K\/∃n v H',HK T X n none af fr H v H'/\R v H'
theorem BO.mono{f:bk}{args:List ae}{H:CH}{Q a R b:ae->CH->Prop}(h:BO T X f args H Q R)(c : ∀v H',Q v H'->a v H')(d : ∀v H',R v H'->b v H'):BO T X f args H a b:=by
 rcases h with h | ⟨n,v,H',h1,h2⟩
 ·exact .inl (h.mono c)
 exact .inr ⟨n,v,H',h1,d _ _ h2⟩
theorem mi.mono{c:bU}{fr:Fr}{H:CH}{Q a:bP->Fr->CH->Prop}{R b:ae->CH->Prop}(h:mi T X c fr H Q R)(d : ∀x fr' H',Q x fr' H'->a x fr' H')(e : ∀v H',R v H'->b v H'):mi T X c fr H a b:=by
 rcases h with h | ⟨n,v,H',h1,h2⟩
 ·exact .inl (h.mono d)
 exact .inr ⟨n,v,H',h1,e _ _ h2⟩
theorem ag0{f:bk}{rf:wq}(he:T.ext f=false)(a:T.fn f=some rf){args:List ae}{H:CH}{Q R:ae->CH->Prop}(h:mi T X rf.body (λt=>args.getD t undef) H (BD rf.res Q) R):BO T X f args H Q R:=by
 rcases h with h | ⟨n,v,H',h1,h2⟩
 ·exact .inl (Pq he a h)
 exact .inr ⟨n+1,v,H', .inr ⟨he,rf,a,h1⟩,h2⟩
theorem Lx{n m:Nat}{q:Option (List Item)}{it:Item}{r:List Item}{fr aj:Fr}{H H1 H':CH}{v:ae}(hs:cA (dg T m) it fr H=some (aj,H1))(a : ∀Zl,q=some Zl->o9 it.op=true)(h:HK T X n q r aj H1 v H'):HK T X n q (it::r) fr H v H':=by
 obtain⟨A,k,b,f,args,c,d,rfl,h2,⟨i,h3⟩,h4,h5,j⟩:=h;refine⟨it::A,k,b,f,args,c,d,rfl,λZl e=>⟨λx hx=> ?_,(h2 Zl e).2⟩,⟨max m i,?_⟩,h4,h5,j⟩
 ·rcases List.mem_cons.1 hx with rfl | hx
  ·exact a Zl e
  exact(h2 Zl e).1 x hx
 simp only[c9];rw[OQ (pN (vV ..)) hs];exact DX (pN (vW ..)) h3
theorem YW{n:Nat}{q:Option (List Item)}{it:Item}{r:List Item}{fr:Fr}{H H':CH}{v:ae}{f:bk}{args:List au}(hw:ec fr it.guard=some true)(hk:it.op= .call f args)(hz : ∀Zl,q=some Zl->∃n r,c9 (dg T n) Zl fr H=some r)(h:BN T X n f (args.map (aO fr)) H v H'):HK T X n q (it::r) fr H v H':=
 ⟨[],it,r,f,args,fr,H,rfl,λZl e=>⟨λx hx=>(by cases hx),hz Zl e⟩,⟨0,rfl⟩,hw,hk,h⟩
theorem ag1{it:Item}{r:List Item}{fr:Fr}{H:CH}{K:Fr->CH->Prop}{R:ae->CH->Prop}(hw:ec fr it.guard=some true)(h:YV T X fr H it.op (λv a=>yL T X r (bE fr it.dst v) a K R) R):yL T X (it::r) fr H K R:=by
 rcases h with ⟨n,v,a,h1,h2⟩ | ⟨f,args,e,n,v,H',h1,h2⟩
 ·rcases h2 with h2 | ⟨m,u,H',h2,h3⟩
  ·left;rw[Kc];simp only[hw];exact⟨n,v,a,h1,h2⟩
  exact .inr ⟨m,u,H',Lx (m:=n) (by simp only[cA,hw,h1];rfl) (λ_ e=>by cases e) h2,h3⟩
 exact .inr ⟨n,v,H',YW hw e (λ_ e=>by cases e) h1,h2⟩
theorem ag2{it:Item}{r:List Item}{fr:Fr}{H:CH}{K:Fr->CH->Prop}{R:ae->CH->Prop}(hw:ec fr it.guard=some false)(h:yL T X r (bE fr it.dst jK) H K R):yL T X (it::r) fr H K R:=by
 rcases h with h | ⟨n,v,H',h1,h2⟩
 ·left;rw[Kc];simp only[hw];exact h
 exact .inr ⟨n,v,H',Lx (m:=0) (by simp only[cA,hw]) (λ_ e=>by cases e) h1,h2⟩
theorem ag3{af:List Item}{fr:Fr}{H:CH}{Q:bP->Fr->CH->Prop}{R:ae->CH->Prop}(h:yL T X af fr H (Q .normal) R):mi T X (.gI af) fr H Q R:=by
 rcases h with h | ⟨n,v,H',⟨A,k,b,f,args,aj,H1,rfl,_,h3,h4,h5,a⟩,h2⟩
 ·exact .inl (Vz.2 h)
 exact .inr ⟨n,v,H', .gI h3 h4 h5 a,h2⟩
theorem QE{a b:bU}{fr:Fr}{H:CH}{Q:bP->Fr->CH->Prop}{R:ae->CH->Prop}(h:mi T X a fr H (λx fr' H'=>match x with
 | .normal=>mi T X b fr' H' Q R
 | x=>Q x fr' H') R):mi T X (.seq a b) fr H Q R:=by
 rcases h with ⟨n,x,aj,H1,h1,h2⟩ | ⟨n,v,H',h1,h2⟩
 ·cases x with
  | normal=>
    rcases h2 with h2 | ⟨m,v,H',h2,h3⟩
    ·exact .inl (Kf.2 ⟨n, .normal,aj,H1,h1,h2⟩)
    exact .inr ⟨m,v,H', .YM ⟨n,h1⟩ h2,h3⟩
  | exit i=>exact .inl (Kf.2 ⟨n, .exit i,aj,H1,h1,h2⟩)
  | ret=>exact .inl (Kf.2 ⟨n, .ret,aj,H1,h1,h2⟩)
 exact .inr ⟨n,v,H', .seq1 h1,h2⟩
theorem ag4{c:au}{a b:bU}{fr:Fr}{H:CH}{Q:bP->Fr->CH->Prop}{R:ae->CH->Prop}(hc:aO fr c= .bool true)(h:mi T X a fr H Q R):mi T X (.cond c a b) fr H Q R:=by
 rcases h with h | ⟨n,v,H',h1,h2⟩
 ·left;rw[OY,hc];exact h
 exact .inr ⟨n,v,H', .cond_t hc h1,h2⟩
theorem ag5{c:au}{a b:bU}{fr:Fr}{H:CH}{Q:bP->Fr->CH->Prop}{R:ae->CH->Prop}(hc:aO fr c= .bool false)(h:mi T X b fr H Q R):mi T X (.cond c a b) fr H Q R:=by
 rcases h with h | ⟨n,v,H',h1,h2⟩
 ·left;rw[OY,hc];exact h
 exact .inr ⟨n,v,H', .cond_f hc h1,h2⟩
theorem ag6{id:Nat}{c:bU}{fr:Fr}{H:CH}{Q:bP->Fr->CH->Prop}{R:ae->CH->Prop}(h:mi T X c fr H (λx fr' H'=>match x with
 | .exit i=>if i=id then Q .normal fr' H' else Q (.exit i) fr' H'
 | x=>Q x fr' H') R):mi T X (.block id c) fr H Q R:=by
 rcases h with h | ⟨n,v,H',h1,h2⟩
 ·exact .inl (VB.2 (h.mono λx fr' H' hx=>by cases x<;>exact hx))
 exact .inr ⟨n,v,H', .block h1,h2⟩
theorem ag7{c:bU}{fr:Fr}{H:CH}{Q:bP->Fr->CH->Prop}{R:ae->CH->Prop}(h:mi T X c fr H (λx fr' H'=>match x with
 | .normal=>mi T X (.loop c) fr' H' Q R
 | x=>Q x fr' H') R):mi T X (.loop c) fr H Q R:=by
 rcases h with ⟨n,x,aj,H1,h1,h2⟩ | ⟨n,v,H',h1,h2⟩
 ·cases x with
  | normal=>
    rcases h2 with h2 | ⟨m,v,H',h2,h3⟩
    ·exact .inl (Kg.2 ⟨n, .normal,aj,H1,h1,h2⟩)
    exact .inr ⟨m,v,H', .YO ⟨n,h1⟩ h2,h3⟩
  | exit i=>exact .inl (Kg.2 ⟨n, .exit i,aj,H1,h1,h2⟩)
  | ret=>exact .inl (Kg.2 ⟨n, .ret,aj,H1,h1,h2⟩)
 exact .inr ⟨n,v,H', .YN h1,h2⟩
theorem ag8{c:bU}{Q:bP->Fr->CH->Prop}{R:ae->CH->Prop}(I:Nat->Fr->CH->Prop)(step : ∀n fr H,I n fr H->mi T X c fr H (Eg I n Q) R) : ∀ {n:Nat} {fr:Fr} {H:CH},I n fr H->mi T X (.loop c) fr H Q R:=by
 intro n;induction n using Nat.strongRecOn with
 | _ n a=>
   intro fr H h;refine ag7 ((step n fr H h).mono (λx fr' H' hx=> ?_) λ_ _ h=>h);cases x with
   | normal=>obtain⟨m,b,hi⟩:=hx;exact a m b hi
   | exit i=>exact hx
   | ret=>exact hx
end
section
open Go Go.RowKit
variable {P:aZ} {B:Nat}
def Ly(K:Act->ar->Prop)(Q:Exit->Act->ar->Prop):Exit->Act->ar->Prop:=λe a w=>match e with
 | .normal=>K a w
 | e=>Q e a w
theorem ag9{F:Fence}{n:Nat}{o:Oper}{a:Act}{next:Act->ar->Prop}{K:Act->ar->Prop}{Q:Exit->Act->ar->Prop}{r:Result Next}(h:o.uponIn F n P a next (Ly K Q) r):o.uponIn F n P a next Q r:=by
 cases r with
 | ok x w'=>
   cases x with
   | enter f args=>exact⟨h.1,h.2.mono λe b he=>by cases e<;>exact he⟩
   | round l f tmps bF bd=>exact⟨h.1,RoundIn.mono h.2 λe b he=>by cases e<;>exact he⟩
   | _=>exact h
 | halt x w'=>cases x<;>exact h
theorem HL{F:Fence}{n:Nat}{ops:Array Oper}{Q:Exit->Act->ar->Prop}(c:List Nat) : ∀(b:List Nat) (a:Act) (w:ar),wpOpsIn F n P ops (Ly (wpOpsIn F n P ops Q c) Q) b a w->wpOpsIn F n P ops Q (b++c) a w
 | [],a,w,h=>h
 | i::b,a,w,h=>by
   rw[aS];simp only[wpOpsIn] at h⊢
   cases ho:ops[i]? with
   | none=>rw[ho] at h;exact HL c b a w h
   | some o=>
     rw[ho] at h;simp only at h⊢;split;·rename_i hw;rw[iP hw] at h;exact⟨h.1,ag9 (Oper.wpIn_mono (λa w=>HL c b a w) h).2⟩
     rename_i hw;rw[iN hw] at h;exact⟨h.1,HL c b _ _ h.2⟩
end
section
open Go Go.RowKit
variable {P:aZ} {B:Nat} {T:cF} {X:ce}
def Ey(P:aZ)(B:Nat)(f:bk)(args:List ae)(H:CH)(v:ae)(H':CH):Prop:=rr P f=true/\∀β w (a:List ae),aN P B β H w->aW β args a->
 CallsIn gZ 0 P f a.toArray w λe w'=>∃v' β',e= .returned v'/\VR β' v v'/\aN P B β' H' w'/\bD β w β' w'
theorem QF{fn:Func}{tmps:Array ae}{R:Ending->ar->Prop}{B1:Nat}{β0 β:Nat->aC}{w0:ar}{H:CH}{u:FrameMode}(hu:u≠ .run){D0:List Deferred} : ∀(ms:List Nat) (w:ar),aN P B β H w->bD β0 w0 β w->w0.heap.size<=B1->ms.Nodup->(∀D∈ms,B1<=D/\w.heap[D]? = some (.deferred (some [])))->
 (∀w',aN P B β H w'->bD β0 w0 β w'->AU gZ 0 P fn tmps R D0 u w')->AU gZ 0 P fn tmps R (ms.map J1++D0) u w
 | [],w,c,a,f,hn,d,e=>e w c a
 | D::ms,w,c,a,f,hn,d,e=>by
   obtain⟨h1,h2⟩:=d D (ny ..);have n:=(Array.getElem?_eq_some_iff.1 h2).1;refine⟨hu, .inl ⟨D,w.putObj D (.deferred none),rfl,run_takeDeferred h2,?_⟩⟩;refine QF hu ms _ (c.OF (o':= .deferred none) h2 ⟨λ_ _ _=>by simp,λ_ _=>by simp,λ_=>by simp,λ_ _=>by simp,λ_ _ _ _=>by simp⟩) ?_ f (List.nodup_cons.1 hn).2 (λj i=> ?_) e
   ·exact⟨a.os,a.tape,a.output,by simpa using a.size,λb hb ho=>by
     obtain⟨k1,k⟩:=a.cY b hb ho;exact⟨(AS Om).trans k1,k⟩,a.ext⟩
   obtain⟨l,m⟩:=d j (kD _ i);refine⟨l,(AS ?_).trans m⟩;rintro rfl;exact(List.nodup_cons.1 hn).1 i
def YX(P:aZ)(g:bk)(n:Nat):Prop:=∀(args:List ae) (w:ar),args.length=n->CallsDIn gZ 0 P g args.toArray .returning w λe a w'=>(∃x,e= .returned x)/\a= .returning/\w'=w
def YY(P:aZ)(B:Nat)(g:bk)(G:List ae->ae->CH->CH->Prop):Prop:=∀β w (args a:List ae) (v v':ae) (H H':CH),aN P B β H w->aW β args a->VR β v v'->G args v H H'->
 CallsDIn gZ 0 P g a.toArray (.panicking [{ v:=v',recovered:=false }]) w λe b w'=>∃x β',e= .returned x/\b= .panicking [{ v:=v',recovered:=true }]/\aN P B β' H' w'/\bD β w β' w'
def BP (c:bU)(fr:Fr):Fr:=λt=>if (pQ c).elem t then undef else fr t
theorem ag'{β:Nat->aC}{c:bU}{fr:Fr}{a:Act}(h : ∀t,t∉pQ c->VR β (fr t) (a.tmps.getD t undef)):FR β 0 (BP c fr) a:=by
 refine⟨Nat.zero_le _,λt=> ?_⟩;unfold BP;split;·exact .undef _
 rename_i ht;exact h t λb=>ht (List.elem_eq_true_of_mem b)
theorem YZ{h:Hd}(hh:HS P B h){ro:Option Nat}{N:Nat}{c:Code}{af:List Item}(b:jL P N c (.gI af)){β:Nat->aC}{fr fr':Fr}{H H':CH}{a:Act}{w:ar}{Q:Exit->Act->ar->Prop}
 (i:aN P B β H w) (k:FR β N fr a) (m:c9 h af fr H=some (fr',H')) (d : ∀β' w' a',aN P B β' H' w'->bD β w β' w'->FR β' N fr' a'->a'.defers=a.defers->Q .normal a' w'):c.wpIn (Fn ro) 0 P Q a w:=by
 generalize hg:bU.gI af=r at b;induction b generalizing Q with
 | @gI id ops n hl hi=>
   cases hg;refine wpIn_region (GA hh _ af β fr fr' H H' a w (by simpa using hl) (λj h1 h2=> ?_) i k m d);have f:j<ops.size:=by omega
   exact⟨ops[j],by simp[f],hi j h1 f⟩
 | scope hc o=>exact OB (o (fun β' w' a' p q s t=>⟨λl e=>(by cases e),d β' w' a' p q s t⟩) hg)
 | _=>cases hg
theorem Y0{h:Hd}{n:Nat}{af:List Item}{fr fr':Fr}{H H':CH}(e:bG h n (.gI af) fr H=some (.normal,fr',H')):c9 h af fr H=some (fr',H'):=by
 simp only[bG] at e;cases a:c9 h af fr H with
 | none=>rw[a] at e;simp at e
 | some q=>rw[a] at e;simp at e;rw[<-e.1,<-e.2]
theorem aha(I : ∀B,uD P B T)(hX : ∀B f args H v H',X f args H v H'->zI P B f args H v H'){f g:bk}{rf:wq}{i0 i1:List Item}{rB:bU}(ri:J9 P f rf)(hrb:rf.body= .seq (.gI i0) (.seq (.gI i1) (.seq .bad rB))){c0 c1 cB:Code}{id d x1 x2 x3:Nat}{t1 t2:aH}{r s:String}{a1 a:Array Edge}
 (tG:(P.funcs[f]?).bind (·.body)=some (.seq c0 (.seq c1 (.seq (.region id #[{ dst:=some d,op:= .makeFunc (.func g) #[] #[.tmp x1, .tmp x2, .tmp x3],type:=t1,pos:=r,after:=a1,guard:=none },{ dst:=none,op:= .defer { callee:= .value (.tmp d),args:= #[],argTypes:= #[] },type:=t2,pos:=s,after:=a,guard:=none }] false) cB))))
 (hgc:rr P g=true) (hd:d<rf.ntmps) {G:List ae->ae->CH->CH->Prop} (hgR:YX P g 3) (hgP : ∀B,YY P B g G) {args:List ae} {H:CH} {Q:ae->CH->Prop}
 (h:dB T (.gI i0) (λt=>args.getD t undef) H λx aj H1=>x= .normal/\dB T (.gI i1) aj H1 λx aX J=>x= .normal/\
   mi T X rB (bE aX (some d) undef) J (λx uB o=>(x= .normal\/x= .ret)/\∃vs,ct uB o rf.res=some vs/\Q (eV vs) o)
    λv o=>∃L,G [aX x1,aX x2,aX x3] v o L/\∃vs,ct (BP rB (bE aX (some d) undef)) L rf.res=some vs/\Q (eV vs) L) :
 ∃v H',Q v H'/\∀B,Ey P B f args H v H':=by
 obtain⟨n0,_,aj,H1,e0,rfl,n1,_,aX,J,e1,rfl,h⟩:=h;obtain⟨fn,c,DV,hb,mc,A,sF⟩:=ri.ok;rw[DV] at tG;simp only[Option.bind_some] at tG;rw[hb] at tG;cases tG;rw[hrb] at A;cases A with
 | seq k0 A=>cases A with
   | seq k1 A=>cases A with
     | seq k2 k3=>
       have pre : ∀(B:Nat) (Qv:ae) (H':CH) (β:Nat->aC) (w:ar) (u:List ae),aN P B β H w->aW β args u->
        (∀β2 m a j k l,aN P B β2 J m->bD β w β2 m->FR β2 rf.ntmps (bE aX (some d) undef) a->a.defers= [{ target:= .fn (.func g) #[j,k,l],args:= #[] }]->aW β2 [aX x1,aX x2,aX x3] [j,k,l]->
          cB.wpIn gZ 0 P (bodyPostM gZ 0 P fn λe w'=>∃v' β',e= .returned v'/\VR β' Qv v'/\aN P B β' H' w'/\bD β w β' w') a m)->
        CallsIn gZ 0 P f u.toArray w λe w'=>∃v' β',e= .returned v'/\VR β' Qv v'/\aN P B β' H' w'/\bD β w β' w':=by
        intro B Qv H' β w u M O hK;refine callsIn_of_wp_marks DV hb trivial ?_ rfl;have hf:=QD (N:=fn.ntmps) O;rw[mc] at hf⊢;refine wpIn_seq (YZ (ro:=none) (sG (I B) n0) k0 M hf (Y0 e0) fun β1 w1 a1 R C S U=> ?_);refine wpIn_seq (YZ (ro:=none) (sG (I B) n1) k1 R S (Y0 e1) fun β2 m a r s q V=> ?_);refine wpIn_seq (wpIn_region ?_);have nO : ∀(fn:Go.Fn) (first cap:Array ae) (w:ar),(Instr.makeFunc fn first cap).run P w= .ok (.func fn first cap) w:=λ_ _ _ _=>rfl;have hds:d<a.tmps.size:=ek hd q.1;simp[wpOpsIn,go_sem,Oper.wpIn,Oper.semAt,execOp,nO,hds];have P9:a.defers= []:=V.trans U;have hx:=hK β2 m { tmps:=a.tmps.setIfInBounds d (Value.func (Go.Fn.func g) #[] #[a.tmps.getD x1 undef,a.tmps.getD x2 undef,a.tmps.getD x3 undef]),defers:= { target:=Target.fn (Go.Fn.func g) #[a.tmps.getD x1 undef,a.tmps.getD x2 undef,a.tmps.getD x3 undef],args:= #[] }::a.defers } (a.tmps.getD x1 undef) (a.tmps.getD x2 undef) (a.tmps.getD x3 undef) r (C.trans s) (q.put (d:=some d) (λx hx=>by cases hx;exact hd) (.undef _)) (by rw[P9]) ⟨rfl,λi v hv=> ?_⟩;·simpa using hx
        match i,hv with
        | 0,hv=>cases hv;exact⟨_,rfl,q.2 x1⟩
        | 1,hv=>cases hv;exact⟨_,rfl,q.2 x2⟩
        | 2,hv=>cases hv;exact⟨_,rfl,q.2 x3⟩
        | n+3,hv=>cases hv
       have W : ∀(j k l:ae) (w:ar),(invoke (.fn (.func g) #[j,k,l]) #[]).run P w= .ok (.enter g [j,k,l].toArray) w:=λj k l w=>by
        simp only[invoke];rw[Bm hgc];simp
       rcases h with ⟨n,x,uB,o,e2,hx,vs,e3,hq⟩ | ⟨n,v,o,e2,L,hG,vs,e3,hq⟩
       ·refine⟨_,_,hq,λB=>⟨ri.call,fun β w u M O=>pre B _ _ β w u M O fun β2 m a j k l r s q V p5=> ?_⟩⟩;refine DQ (ro:=none) (B1:=m.heap.size) (D0:=a.defers) (sG (I B) n) k3 β2 _ uB J o a m x _ r q (λb hb=>by cases hb) (DM.none rfl) (ag _) e2 fun β3 Y F R C S U=> ?_;obtain⟨ms,m1,m2,m3⟩:=U;have tH:AU gZ 0 P fn F.tmps (λe w'=>∃v' β',e= .returned v'/\VR β' (eV vs) v'/\aN P B β' o w'/\bD β w β' w') F.defers .returning Y:=by
         rw[m1,V];refine QF s0 ms Y R C (ag _) m2 (λD hD=>⟨(m3 D hD).1,(m3 D hD).2.1⟩) λw4 nF lf=> ?_;refine⟨s0, .inr ⟨by simp[gZ], .func g,#[j,k,l],g,_,rfl,W j k l w4,λ_ _=>trivial,?_⟩⟩;refine(hgR [j,k,l] w4 rfl).mono ?_;rintro e u' w' ⟨⟨y,rfl⟩,rfl,rfl⟩;obtain⟨v',r1,r2⟩:=OE nF S sF e3;exact⟨v',r1,v',β3,rfl,r2,nF,s.trans lf⟩
        rcases hx with rfl | rfl
        ·exact tH
        exact tH
       refine⟨_,_,hq,λB=>⟨ri.call,fun β w u M O=>pre B _ _ β w u M O fun β2 m a j k l r s q V p5=> ?_⟩⟩;refine YR (ro:=none) (B1:=m.heap.size) (D0:=a.defers) (I B) (YU (I B) (hX B) n) k3 β2 _ J o v a m _ r q (λb hb=>by cases hb) (DM.none rfl) (ag _) e2 fun β3 Y F v3 R C S U q5=> ?_;obtain⟨ms,m1,m2,m3⟩:=U;show AU gZ 0 P fn F.tmps _ F.defers (.panicking [{ v:=v3,recovered:=false }]) Y;rw[m1,V];refine QF s0 ms Y R C (ag _) m2 (λD hD=>⟨(m3 D hD).1,(m3 D hD).2.1⟩) λw4 nF lf=> ?_;refine⟨s0, .inr ⟨by simp[gZ], .func g,#[j,k,l],g,_,rfl,W j k l w4,λ_ _=>trivial,?_⟩⟩;refine(hgP B β3 w4 [aX x1,aX x2,aX x3] [j,k,l] v v3 o L nF ?_ S hG).mono ?_
       ·exact⟨p5.1,λi y hy=>by
         obtain⟨z,z1,z2⟩:=p5.2 i y hy;exact⟨z,z1,z2.mono C.ext⟩⟩
       rintro e u' w' ⟨y,β',rfl,rfl,Y1,Y2⟩;have hf5:FR β' 0 (BP rB (bE aX (some d) undef)) F:=ag' λt ht=>(q5 t ht).mono Y2.ext;obtain⟨v',r1,r2⟩:=OE Y1 hf5 sF e3;exact⟨v',r1,v',β',rfl,r2,Y1,s.trans (lf.trans Y2)⟩
end
section
open Go Go.RowKit
inductive R2{α β:Type}(R:α->β->Prop):List α->List β->Prop where
 | nil:R2 R [] []
 | cons {x:α} {y:β} {xs:List α} {ys:List β} (h:R x y) (t:R2 R xs ys):R2 R (x::xs) (y::ys)
theorem R2.len{α β:Type}{R:α->β->Prop} : ∀ {xs:List α} {ys:List β},R2 R xs ys->ys.length=xs.length
 | _,_, .nil=>rfl
 | _,_, .cons _ t=>by simp[t.len]
theorem R2.get{α β:Type}{R:α->β->Prop} : ∀ {xs:List α} {ys:List β},R2 R xs ys->∀ {i:Nat} {x:α},xs[i]? = some x->∃y,ys[i]? = some y/\R x y
 | _,_, .nil,i,x,h=>by simp at h
 | _,_, .cons h t,0,x,e=>by simp at e;subst e;exact⟨_,rfl,h⟩
 | _,_, .cons h t,i+1,x,e=>by simpa using t.get (i:=i) (by simpa using e)
theorem R2.app{α β:Type}{R:α->β->Prop} : ∀ {xs a:List α} {ys b:List β},R2 R xs ys->R2 R a b->R2 R (xs++a) (ys++b)
 | _,_,_,_, .nil,g=>g
 | _,_,_,_, .cons h t,g=> .cons h (t.app g)
theorem R2.take{α β:Type}{R:α->β->Prop} : ∀ {xs:List α} {ys:List β} (n:Nat),R2 R xs ys->R2 R (xs.take n) (ys.take n)
 | _,_,n, .nil=>by simpa using .nil
 | _,_,0, .cons h t=>by simpa using .nil
 | _,_,n+1, .cons h t=>by simpa using .cons h (t.take n)
theorem R2.drop{α β:Type}{R:α->β->Prop} : ∀ {xs:List α} {ys:List β} (n:Nat),R2 R xs ys->R2 R (xs.drop n) (ys.drop n)
 | _,_,n, .nil=>by simpa using .nil
 | _,_,0, .cons h t=>by simpa using .cons h t
 | _,_,n+1, .cons h t=>by simpa using t.drop n
theorem R2.mono{α β:Type}{R a:α->β->Prop}(b : ∀x y,R x y->a x y) : ∀ {xs:List α} {ys:List β},R2 R xs ys->R2 a xs ys
 | _,_, .nil=> .nil
 | _,_, .cons h t=> .cons (b _ _ h) (t.mono b)
theorem R2.map{α β γ:Type}{R:α->β->Prop}{a:γ->β->Prop}{f:α->γ}(b : ∀x y,R x y->a (f x) y) : ∀ {xs:List α} {ys:List β},R2 R xs ys->R2 a (xs.map f) ys
 | _,_, .nil=> .nil
 | _,_, .cons h t=> .cons (b _ _ h) (t.map b)
inductive SV where
 | sc (v:ae)
 | row (sz:Nat) (gs:List (List SV))
 | lk (x:List UInt8)
 | sub (sz:Nat) (gs:List (List SV))
inductive CV where
 | s (x:SV)
 | own (t:Nat) (e:aH) (sz:Nat) (gs:List (List SV))
 | bad
inductive RV where
 | c (x:CV)
 | agg (cs:List CV)
inductive AV where
 | r (x:RV)
 | ptr (o off:Nat)
 | fj (t:Option Nat) (g:List SV) (off:Nat)
 | eF (l:List RV)
 | skip
 | bad
def yN:aH:=26
def HM (e sz:Nat):Bool:= !(Nat.beq sz 5)||Nat.beq e yN
theorem Y3{e sz:Nat}(h:HM e sz=true):sz=5->e=yN:=λh5=>by
 subst h5;exact Nat.eq_of_beq_eq_true h
mutual
inductive fM(K:CH)(A:Nat->Prop):SV->ae->Prop where
 | sc {v:ae} (h:ci v=true):fM K A (.sc v) v
 | ot {sz:Nat}:fM K A (.row sz []) (.slice none 0 0)
 | row {b sz:Nat} {os:List ae} {e:aH} {kd:Kd} {gs:List (List SV)} (av:gs≠ []/\gs.length<=maxLen) (hb:A b) (ho:K.ob b= .cells os e kd) (hk:kd.eM=false) (hg : ∀g∈gs,g.length=sz) (hs:fk K A gs.flatten os) (ht:sz=5->e=yN):fM K A (.row sz gs) (.slice (some ⟨b,0,none⟩) gs.length gs.length)
 | lk {x:List UInt8} {v:ae} (h:ci v=true):fM K A (.lk x) v
 | wL {sz c:Nat} {q:Option Addr}:fM K A (.sub sz []) (.slice q 0 c)
 | sub {b o c sz:Nat} {os:List ae} {e:aH} {kd:Kd} {gs:List (List SV)} (av:gs≠ []/\gs.length<=maxLen) (hb:A b) (ho:K.ob b= .cells os e kd) (hg : ∀g∈gs,g.length=sz) (hl:o+gs.length*sz<=os.length) (hs:fk K A gs.flatten ((os.drop o).take (gs.length*sz))) (ht:sz=5->e=yN):fM K A (.sub sz gs) (.slice (some ⟨b,o,none⟩) gs.length c)
inductive fk(K:CH)(A:Nat->Prop):List SV->List ae->Prop where
 | nil:fk K A [] []
 | cons {x:SV} {v:ae} {xs:List SV} {vs:List ae} (h:fM K A x v) (t:fk K A xs vs):fk K A (x::xs) (v::vs)
end
theorem fM.mv{K K':CH}{A A':Nat->Prop}(hA : ∀b,A b->A' b/\K'.ob b=K.ob b){x:SV}{v:ae}(h:fM K A x v):fM K' A' x v:=
 fM.rec (motive_1:=λx v _=>fM K' A' x v) (motive_2:=λx v _=>fk K' A' x v) (λh=> .sc h) .ot (λav hb ho hk hg _ ht a=> .row av (hA _ hb).1 ((hA _ hb).2.trans ho) hk hg a ht) (λh=> .lk h) .wL (λav hb ho hg hl _ ht a=> .sub av (hA _ hb).1 ((hA _ hb).2.trans ho) hg hl a ht) .nil (λ_ _ i1 i2=> .cons i1 i2) h
theorem fk.mv{K K':CH}{A A':Nat->Prop}(hA : ∀b,A b->A' b/\K'.ob b=K.ob b){x:List SV}{v:List ae}(h:fk K A x v):fk K' A' x v:=
 fk.rec (motive_1:=λx v _=>fM K' A' x v) (motive_2:=λx v _=>fk K' A' x v) (λh=> .sc h) .ot (λav hb ho hk hg _ ht a=> .row av (hA _ hb).1 ((hA _ hb).2.trans ho) hk hg a ht) (λh=> .lk h) .wL (λav hb ho hg hl _ ht a=> .sub av (hA _ hb).1 ((hA _ hb).2.trans ho) hg hl a ht) .nil (λ_ _ i1 i2=> .cons i1 i2) h
theorem fk.r2{K:CH}{A:Nat->Prop} : ∀ {xs:List SV} {vs:List ae},fk K A xs vs->R2 (fM K A) xs vs
 | [],_,h=>by cases h;exact .nil
 | x::xs,_,h=>by
   cases h with
   | cons h t=>exact .cons h t.r2
theorem R2.HN{K:CH}{A:Nat->Prop} : ∀ {xs:List SV} {vs:List ae},R2 (fM K A) xs vs->fk K A xs vs
 | _,_, .nil=> .nil
 | _,_, .cons h t=> .cons h t.HN
abbrev pW(sz:Nat)(gs:List (List SV)):SV:= .row sz gs
theorem fM.cell{K:CH}{A:Nat->Prop}{x:SV}{v:ae}(h:fM K A x v):ci v=true:=by
 cases h with
 | sc h=>exact h
 | ot=>rfl
 | row=>rfl
 | lk h=>exact h
 | wL=>rfl
 | sub=>rfl
structure TE where
 σ:Nat->Option Nat
 ρ:Nat->Option Nat
 hid:Nat->Prop
def dw (K:CH)(E:TE)(b:Nat):Prop:=b<K.nx/\¬E.hid b/\(∀t,E.σ t≠some b)/\∀o,E.ρ o≠some b
inductive eO(K:CH)(E:TE):CV->ae->Prop where
 | s {x:SV} {v:ae} (h:fM K (dw K E) x v):eO K E (.s x) v
 | sO {t sz:Nat} {e:aH}:eO K E (.own t e sz []) (.slice none 0 0)
 | own {t b sz:Nat} {os:List ae} {e:aH} {kd:Kd} {gs:List (List SV)} (av:gs≠ []/\gs.length<=maxLen) (hb:E.σ t=some b) (ho:K.ob b= .cells os e kd) (hk:kd.eM=false) (hg : ∀g∈gs,g.length=sz) (hs:fk K (dw K E) gs.flatten os) (ht:sz=5->e=yN):eO K E (.own t e sz gs) (.slice (some ⟨b,0,none⟩) gs.length gs.length)
 | bad {v:ae} (h:ci v=true):eO K E .bad v
theorem eO.cell{K:CH}{E:TE}{x:CV}{v:ae}(h:eO K E x v):ci v=true:=by
 cases h with
 | s h=>exact h.cell
 | sO=>rfl
 | own=>rfl
 | bad h=>exact h
inductive ou(K:CH)(E:TE):RV->ae->Prop where
 | c {x:CV} {v:ae} (h:eO K E x v):ou K E (.c x) v
 | agg {cs:List CV} {vs:List ae} (h:R2 (eO K E) cs vs):ou K E (.agg cs) (.agg vs.toArray)
inductive bX(K:CH)(E:TE):AV->ae->Prop where
 | r {x:RV} {v:ae} (h:ou K E x v):bX K E (.r x) v
 | ptr {o off l:Nat} (h:E.ρ o=some l):bX K E (.ptr o off) (.pointer (some ⟨l,off,none⟩))
 | fj {t:Option Nat} {g:List SV} {off b base:Nat} {os:List ae} {e:aH} {kd:Kd} (hb:match t with | none=>dw K E b | some t=>E.σ t=some b) (ho:K.ob b= .cells os e kd) (hl:base+g.length<=os.length) (hs:R2 (fM K (dw K E)) g ((os.drop base).take g.length)):bX K E (.fj t g off) (.pointer (some ⟨b,base+off,none⟩))
 | eF {l:List RV} {vs:List ae} (h:R2 (ou K E) l vs):bX K E (.eF l) (.tuple vs.toArray)
 | skip:bX K E .skip jK
 | bad {v:ae}:bX K E .bad v
inductive SA where
 | cY | fz | kill
def CV.act(g:Nat->SA):CV->CV
 | .own t e sz gs=>match g t with
   | .cY=> .own t e sz gs
   | .fz=> .s (pW sz gs)
   | .kill=> .bad
 | x=>x
def RV.act(g:Nat->SA):RV->RV
 | .c x=> .c (x.act g)
 | .agg cs=> .agg (cs.map (CV.act g))
def AV.act(g:Nat->SA):AV->AV
 | .r x=> .r (x.act g)
 | .fj (some t) l off=>match g t with
   | .cY=> .fj (some t) l off
   | .fz=> .fj none l off
   | .kill=> .bad
 | .eF l=> .eF (l.map (RV.act g))
 | x=>x
structure Mv(K:CH)(E:TE)(g:Nat->SA)(K':CH)(E':TE):Prop where
 hU : ∀b,dw K E b->dw K' E' b/\K'.ob b=K.ob b
 cY : ∀t b,E.σ t=some b->g t= .cY->E'.σ t=some b/\K'.ob b=K.ob b
 fz : ∀t b,E.σ t=some b->g t= .fz->dw K' E' b/\K'.ob b=K.ob b
 ee : ∀o b,E.ρ o=some b->E'.ρ o=some b
variable {K K':CH} {E E':TE} {g:Nat->SA}
theorem eO.mv(m:Mv K E g K' E'){x:CV}{v:ae}(h:eO K E x v):eO K' E' (x.act g) v:=by
 cases h with
 | s h=>exact .s (h.mv m.hU)
 | @sO t sz e=>
   show eO K' E' (match g t with | .cY=> .own t e sz [] | .fz=> .s (pW sz []) | .kill=> .bad) _;cases g t with
   | cY=>exact .sO
   | fz=>exact .s .ot
   | kill=>exact .bad rfl
 | @own t b sz os e kd gs av hb ho hk hg hs ht=>
   show eO K' E' (match g t with | .cY=> .own t e sz gs | .fz=> .s (pW sz gs) | .kill=> .bad) _;cases a:g t with
   | cY=>exact .own av (m.cY t b hb a).1 ((m.cY t b hb a).2.trans ho) hk hg (hs.mv m.hU) ht
   | fz=>exact .s (.row av (m.fz t b hb a).1 ((m.fz t b hb a).2.trans ho) hk hg (hs.mv m.hU) ht)
   | kill=>exact .bad rfl
 | bad h=>exact .bad h
theorem ou.mv(m:Mv K E g K' E'){x:RV}{v:ae}(h:ou K E x v):ou K' E' (x.act g) v:=by
 cases h with
 | c h=>exact .c (h.mv m)
 | agg h=>exact .agg (h.map λ_ _ q=>q.mv m)
theorem bX.mv(m:Mv K E g K' E'){x:AV}{v:ae}(h:bX K E x v):bX K' E' (x.act g) v:=by
 cases h with
 | r h=>exact .r (h.mv m)
 | ptr h=>exact .ptr (m.ee _ _ h)
 | @fj t l off b base os e kd hb ho hl hs=>
   cases t with
   | none=>exact .fj (t:=none) (m.hU b hb).1 ((m.hU b hb).2.trans ho) hl (hs.mono λ_ _ q=>q.mv m.hU)
   | some t=>
     show bX K' E' (match g t with | .cY=> .fj (some t) l off | .fz=> .fj none l off | .kill=> .bad) _;cases a:g t with
     | cY=>exact .fj (t:=some t) (m.cY t b hb a).1 ((m.cY t b hb a).2.trans ho) hl (hs.mono λ_ _ q=>q.mv m.hU)
     | fz=>exact .fj (t:=none) (m.fz t b hb a).1 ((m.fz t b hb a).2.trans ho) hl (hs.mono λ_ _ q=>q.mv m.hU)
     | kill=>exact .bad
 | eF h=>exact .eF (h.map λ_ _ q=>q.mv m)
 | skip=>exact .skip
 | bad=>exact .bad
structure TS where
 nt:Nat
 aw:List (Nat×aH×List CV)
abbrev aR:=Nat->AV
def TS.act(g:Nat->SA)(s:TS):TS:=⟨s.nt,s.aw.map λ(v,e,cs)=>(v,e,cs.map (CV.act g))⟩
def aR.act(g:Nat->SA)(fr:aR):aR:=λt=>(fr t).act g
structure TP where
 N:Nat->Prop
 M:Nat->dr
 J:List (List UInt8)->List ae->CH->Nat->(Nat->Prop)->Prop
 jm : ∀ {xs:List (List UInt8)} {vs:List ae} {K K':CH} {p:Nat} {W:Nat->Prop},J xs vs K p W->(∀b,W b->K'.ob b=K.ob b)->K.nx<=K'.nx->J xs vs K' p W
abbrev TP.plain(N:Nat->Prop)(M:Nat->dr):TP:=⟨N,M,λ_ _ _ _ _=>False,λh _ _=>h⟩
def eG:List CV->List (List UInt8)
 | []=> []
 | .s (.lk x)::r=>x::eG r
 | _::r=>eG r
def jP:List CV->List ae->List ae
 | .s (.lk _)::r,v::vs=>v::jP r vs
 | _::r,_::vs=>jP r vs
 | _,_=> []
def lkO (l:List (Nat×aH×List CV)):List (List UInt8):=match l with
 | []=> []
 | (_,_,cs)::_=>eG cs
def JR (Z:TP)(l:List (Nat×aH×List CV))(K:CH)(sp:Option Nat)(W:Nat->Prop):Prop:=match l with
 | []=>∀b,¬W b
 | (_,e,cs)::_=>(eG cs= []/\∀b,¬W b)\/(eG cs≠ []/\∃p os,sp=some p/\K.ob p= .cells os e .ex/\os.length=cs.length/\Z.J (eG cs) (jP cs os) K p W)
structure TR(Z:TP)(K0:CH)(sp:Option Nat)(W0:Nat->Prop)(K:CH)(st:TS)(fr:aR)(aP:Fr)(E:TE):Prop where
 nx:K0.nx<=K.nx
 cY : ∀b,b<K0.nx->sp≠some b->¬W0 b->K.ob b=K0.ob b
 rO : ∀b,Z.N b->b<K0.nx/\sp≠some b/\¬W0 b/\K.ob b=Z.M b
 hid : ∀b,E.hid b->b<K.nx/\(∀t,E.σ t≠some b)/\∀o,E.ρ o≠some b
 wr : ∃W:Nat->Prop,(∀b,W b->E.hid b/\(W0 b\/K0.nx<=b))/\JR Z st.aw K (E.ρ 0) W
 sig : ∀t b,E.σ t=some b->K0.nx<=b/\b<K.nx/\t<st.nt
 inj : ∀t t' b,E.σ t=some b->E.σ t'=some b->t=t'
 sr : ∀t o b,E.σ t=some b->E.ρ o≠some b
 ee : ∀o b,E.ρ o=some b->b<K.nx/\(K0.nx<=b\/sp=some b)/\o<st.aw.length
 pY : ∀o o' b,E.ρ o=some b->E.ρ o'=some b->o=o'
 aw : ∀o v e cs,st.aw[o]? = some (v,e,cs)->∃b os,E.ρ o=some b/\K.ob b= .cells os e .ex/\R2 (eO K E) cs os
 fH : ∀t,bX K E (fr t) (aP t)
end
section
open Go Go.RowKit
theorem ahb{v:ae}(h:ci v=true):v.cells= #[v]:=by cases v<;>first | rfl | cases h
theorem ahc{v:ae}(h:ci v=true):isVal v=true:=by cases v<;>first | rfl | cases h
abbrev cS(v:ae):CV:= .s (.sc v)
abbrev rS(v:ae):AV:= .r (.c (.s (.sc v)))
abbrev iS(n:Int):AV:= .r (.c (.s (.sc (.int .i64 n))))
def nzS:Nat:=5
def cN (v:ae):CV:=match v with
 | .slice none 0 0=> .s (.row nzS [])
 | v=> .s (.sc v)
def BQ (z:List ae):Option (List CV):=if z.all ci=true then some (z.map cN) else none
def Ez (v:ae):AV:=match v with
 | .agg cs=>match BQ cs.toList with
   | some l=> .r (.agg l)
   | none=> .bad
 | v=>match ci v with
   | true=> .r (.c (cN v))
   | false=> .bad
theorem Y4{K:CH}{E:TE}{v:ae}(h:ci v=true):eO K E (cN v) v:=by
 unfold cN;split;·exact .s .ot
 exact .s (.sc h)
def AV.raw:AV->Option ae
 | .r (.c (.s (.sc v)))=>some v
 | _=>none
def dV (fr:aR):au->AV
 | .tmp t=>fr t
 | .const v=>Ez v
 | _=> .bad
def AV.tM:AV->Option (List CV)
 | .r (.c x)=>some [x]
 | .r (.agg cs)=>some cs
 | _=>none
def AV.rowOf:AV->Option (Option Nat×Option Nat×List (List SV))
 | .r (.c (.s (.row sz gs)))=>some (none,some sz,gs)
 | .r (.c (.s (.sc (.slice none 0 0))))=>some (none,none,[])
 | .r (.c (.own t _ sz gs))=>some (some t,some sz,gs)
 | _=>none
def AV.Lz:AV->Option (Option Nat×Option Nat×List (List SV))
 | .r (.c (.s (.sub sz gs)))=>some (none,some sz,gs)
 | a=>a.rowOf
def EA(sz:Nat):Option Nat->Prop
 | none=>True
 | some m5=>m5=sz
instance {sz:Nat} : ∀ {o:Option Nat},Decidable (EA sz o)
 | none=>inferInstanceAs (Decidable True)
 | some m5=>inferInstanceAs (Decidable (m5=sz))
def lenOf:AV->Option Nat
 | .r (.c (.s (.row _ gs)))=>some gs.length
 | .r (.c (.own _ _ _ gs))=>some gs.length
 | .r (.c (.s (.sc (.slice _ n _))))=>some n
 | .r (.c (.s (.sub _ gs)))=>some gs.length
 | _=>none
def LA:dN->Option (List au)
 | .bin _ x y=>some [x,y]
 | .A6 _ x y=>some [x,y]
 | .un _ x=>some [x]
 | .conv _ x=>some [x]
 | .Dt x=>some [x]
 | .Du x i=>some [x,i]
 | .lens x=>some [x]
 | .mx _ x y=>some [x,y]
 | .A7 x lo hi=>some (x::(lo.toList++hi.toList))
 | _=>none
def rev (fr:aR)(x:au):ae:=((dV fr x).raw).getD undef
def HO:List CV->List (Nat×Nat×Option (List CV))->Option (List CV)
 | z,[]=>some z
 | z,(o,s,some cs)::r=>if cs.length=s/\o+s<=z.length then HO (z.take o++cs++z.drop (o+s)) r else none
 | _,_=>none
def pm (fr:aR):dN->Option AV
 | .tD x=>some (dV fr x)
 | .pick c a b=>match (dV fr c).raw with
   | some (.bool t)=>some (if t=true then dV fr a else dV fr b)
   | _=>none
 | .off x d=>match dV fr x with
   | .ptr o off=>some (.ptr o (off+d))
   | .fj t g off=>some (.fj t g (off+d))
   | _=>none
 | .A8 x=>match dV fr x with
   | .ptr o off=>some (.ptr o off)
   | .fj t g off=>some (.fj t g off)
   | _=>none
 | .j0 x d n=>match dV fr x,n with
   | .r (.agg cs),none=>(cs[d]?).map λx=> .r (.c x)
   | .r (.agg cs),some m=>if d+m<=cs.length then some (.r (.agg ((cs.drop d).take m))) else none
   | _,_=>none
 | .len x=>(lenOf (dV fr x)).map λn=>iS n
 | .idx x i sz=>match (dV fr x).Lz,(dV fr i).raw with
   | some (t,z,gs),some (.int _ j)=>if EA sz z/\0<=j then (gs[j.toNat]?).map λg=> .fj t g 0 else none
   | _,_=>none
 | .ext x i=>match dV fr x with
   | .eF l=>(l[i]?).map .r
   | _=>none
 | .xL z ps=>match BQ z with
   | some z=>(HO z (ps.map λ(o,s,x)=>(o,s,(dV fr x).tM))).map λcs=> .r (.agg cs)
   | none=>none
 | x=>match LA x with
   | some l=>if l.all (λy=>(dV fr y).raw.isSome)=true then (pop (rev fr) x).map Ez else none
   | none=>none
variable {K K':CH} {E E':TE} {fr:aR} {aP:Fr}
theorem QG : ∀ {z:List ae} {l:List CV},BQ z=some l->R2 (eO K E) l z:=λ{z l} h=>by
 unfold BQ at h;split at h
 ·rename_i ha;injection h with h
  subst h;induction z with
  | nil=>exact .nil
  | cons v z a=>
    rw[List.all_cons,Bool.and_eq_true] at ha;exact .cons (Y4 ha.1) (a ha.2)
 cases h
theorem Y5{v:ae}:bX K E (Ez v) v:=by
 unfold Ez;split
 ·rename_i cs;split;·rename_i l hl;exact .r (.agg (vs:=cs.toList) (QG hl))
  exact .bad
 split;·rename_i h;exact .r (.c (Y4 h))
 exact .bad
theorem ox{a:AV}{u v:ae}(h:bX K E a v)(b:a.raw=some u):v=u:=by
 unfold AV.raw at b;split at b
 ·cases b;cases h with
  | r h=>
    cases h with
    | c h=>
      cases h with
      | s h=>cases h with | sc h=>rfl
 cases b
theorem iQ(a : ∀t,bX K E (fr t) (aP t))(x:au):bX K E (dV fr x) (aO aP x):=by
 cases x with
 | tmp t=>exact a t
 | const v=>exact Y5
 | _=>exact .bad
theorem HP{a:AV}{v:ae}(h:bX K E a v){l:List CV}(b:a.tM=some l):R2 (eO K E) l v.cells.toList/\isVal v=true:=by
 unfold AV.tM at b;split at b
 ·cases b;cases h with
  | r h=>cases h with
    | c h=>rw[ahb h.cell];exact⟨.cons h .nil,ahc h.cell⟩
 ·cases b;cases h with
  | r h=>cases h with
    | agg h=>exact⟨h,rfl⟩
 cases b
theorem bX.tN{o off:Nat}{v:ae}(h:bX K E (.ptr o off) v) : ∃l,E.ρ o=some l/\v= .pointer (some ⟨l,off,none⟩):=by
 cases h with
 | ptr h=>exact⟨_,h,rfl⟩
def Own (K:CH)(E:TE)(t:Option Nat)(b:Nat):Prop:=match t with
 | none=>dw K E b
 | some t=>E.σ t=some b
theorem bX.LB{t:Option Nat}{g:List SV}{off:Nat}{v:ae}(h:bX K E (.fj t g off) v) : ∃b base os e kd,Own K E t b/\K.ob b= .cells os e kd/\base+g.length<=os.length/\R2 (fM K (dw K E)) g ((os.drop base).take g.length)/\v= .pointer (some ⟨b,base+off,none⟩):=by
 cases h with
 | fj hb ho hl hs=>exact⟨_,_,_,_,_,hb,ho,hl,hs,rfl⟩
theorem LC{α:Type}{sz:Nat} : ∀ {gs:List (List α)},(∀g∈gs,g.length=sz)->∀ {j:Nat} {g:List α},gs[j]? = some g->(gs.flatten.drop (j*sz)).take g.length=g/\j*sz+g.length<=gs.flatten.length
 | [],_,j,g,h=>by simp at h
 | a::gs,hg,0,g,h=>by
   simp at h;subst h;simp
 | a::gs,hg,j+1,g,h=>by
   have ha:=hg a s0;have b:=LC (gs:=gs) (λx hx=>hg x (by simp[hx])) (j:=j) (g:=g) (by simpa using h);have e:(j+1)*sz=a.length+j*sz:=by rw[ha,oU];omega
   have hd:(a++gs.flatten).drop (a.length+j*sz)=gs.flatten.drop (j*sz):=by rw[<-gE,List.drop_left]
   rw[um,e,hd];exact⟨b.1,by rw[bW];omega⟩
theorem BR{α:Type}{sz:Nat} : ∀ {gs:List (List α)},(∀g∈gs,g.length=sz)->gs.flatten.length=gs.length*sz
 | [],_=>by simp
 | a::gs,hg=>by
   rw[um,bW,BR λx hx=>hg x (by simp[hx]),hg a s0,ay,oU];omega
theorem BS{a:AV}{v:ae}(h:bX K E a v){t:Option Nat}{z:Option Nat}{gs:List (List SV)}(d:a.rowOf=some (t,z,gs)):(gs= []/\v= .slice none 0 0)\/(gs≠ []/\gs.length<=maxLen)/\∃sz b os e kd,z=some sz/\Own K E t b/\K.ob b= .cells os e kd/\kd.eM=false/\(∀g∈gs,g.length=sz)/\fk K (dw K E) gs.flatten os/\v= .slice (some ⟨b,0,none⟩) gs.length gs.length:=by
 unfold AV.rowOf at d;split at d
 ·cases d;cases h with
  | r h=>cases h with
    | c h=>cases h with
      | s h=>cases h with
        | ot=>exact .inl ⟨rfl,rfl⟩
        | row av hb ho hk hg hs=>exact .inr ⟨av,_,_,_,_,_,rfl,hb,ho,hk,hg,hs,rfl⟩
 ·cases d;exact .inl ⟨rfl,ox h rfl⟩
 ·cases d;cases h with
  | r h=>cases h with
    | c h=>cases h with
      | sO=>exact .inl ⟨rfl,rfl⟩
      | own av hb ho hk hg hs=>exact .inr ⟨av,_,_,_,_,_,rfl,hb,ho,hk,hg,hs,rfl⟩
 cases d
theorem ahd{a:AV}{v:ae}(h:bX K E a v){t:Option Nat}{z:Option Nat}{gs:List (List SV)}(d:a.Lz=some (t,z,gs))(av:gs≠ []) : ∃sz b o c os e kd,z=some sz/\Own K E t b/\K.ob b= .cells os e kd/\(∀g∈gs,g.length=sz)/\o+gs.length*sz<=os.length/\fk K (dw K E) gs.flatten ((os.drop o).take (gs.length*sz))/\v= .slice (some ⟨b,o,none⟩) gs.length c:=by
 unfold AV.Lz at d;split at d
 ·cases d;cases h with
  | r h=>cases h with
    | c h=>cases h with
      | s h=>cases h with
        | wL=>exact absurd rfl av
        | sub _ hb ho hg hl hs=>exact⟨_,_,_,_,_,_,_,rfl,hb,ho,hg,hl,hs,rfl⟩
 rcases BS h d with ⟨e,_⟩ | ⟨_,sz,b,os,e,kd,k1,j,k,q,f,i,m⟩
 ·exact absurd e av
 have hl:os.length=gs.length*sz:=by
  rw[i.r2.len];have : ∀l:List (List SV),(∀g∈l,g.length=sz)->l.flatten.length=l.length*sz:=λl=>by
   induction l with
   | nil=>intro _;simp
   | cons a l n=>
     intro hg;rw[um,bW,n λx hx=>hg x (by simp[hx]),hg a s0,ay,oU];omega
  exact this gs f
 exact⟨sz,b,0,gs.length,os,e,kd,k1,j,k,f,Om,by rw[sn,qq Om];exact i,m⟩
theorem ahe{a:AV}{v:ae}(h:bX K E a v){n:Nat}(b:lenOf a=some n) : ∃q c,v= .slice q n c:=by
 unfold lenOf at b;split at b
 ·rename_i sz gs;cases b;rcases BS (t:=none) (z:=some sz) (gs:=gs) h rfl with ⟨rfl,hv⟩ | ⟨_,_,_,_,_,_,_,_,_,_,_,_,hv⟩
  ·exact⟨_,_,hv⟩
  exact⟨_,_,hv⟩
 ·rename_i t e sz gs;cases b;rcases BS (t:=some t) (z:=some sz) (gs:=gs) h rfl with ⟨rfl,hv⟩ | ⟨_,_,_,_,_,_,_,_,_,_,_,_,hv⟩
  ·exact⟨_,_,hv⟩
  exact⟨_,_,hv⟩
 ·cases b;exact⟨_,_,ox h rfl⟩
 ·cases b;cases h with
  | r h=>cases h with
    | c h=>cases h with
      | s h=>cases h with
        | wL=>exact⟨_,_,rfl⟩
        | sub=>exact⟨_,_,rfl⟩
 cases b
theorem R2.set{α:Type}{R:α->ae->Prop}{xs us:List α}{ys vs:List ae}(h:R2 R xs ys)(g:R2 R us vs){o:Nat}:R2 R (xs.take o++us++xs.drop (o+us.length)) (setCells ys o vs):=by
 unfold setCells;rw[g.len];exact((h.take o).app g).app (h.drop _)
theorem Y6 : ∀ {ps:List (Nat×Nat×Option (List CV))} {qs:List (Nat×Nat×ae)} {z:List CV} {zs:List ae} {cs:List CV},R2 (eO K E) z zs->R2 (λ(p:Nat×Nat×Option (List CV)) (q:Nat×Nat×ae)=>p.1=q.1/\p.2.1=q.2.1/\∀l,p.2.2=some l->R2 (eO K E) l q.2.2.cells.toList/\isVal q.2.2=true) ps qs->HO z ps=some cs->∃vs,j8 zs qs=some vs/\R2 (eO K E) cs vs
 | [],_,z,zs,cs,hz, .nil,h=>by
   cases h;exact⟨zs,rfl,hz⟩
 | (o,s,none)::ps,_,z,zs,cs,hz, .cons _ _,h=>by cases h
 | (o,s,some l)::ps,(o',j,v)::qs,z,zs,cs,hz, .cons ⟨b,c,d⟩ ht,h=>by
   cases b;cases c;obtain⟨a,e⟩:=d l rfl;simp only[HO] at h;split at h
   ·rename_i hc;have f:v.cells.size=s:=by rw[<-Jo,a.len];exact hc.1
    obtain⟨vs,k1,i⟩:=Y6 (zs:=setCells zs o v.cells.toList) (by have:=hz.set a (o:=o);rw[hc.1] at this;exact this) ht h;refine⟨vs,?_,i⟩;show(if isVal v=true/\v.cells.size=s/\o+s<=zs.length then j8 (setCells zs o v.cells.toList) qs else none)=_;rw[iP ⟨e,f,by rw[hz.len];exact hc.2⟩];exact k1
   cases h
theorem ahf{ev ev':au->ae}{x:dN}{l:List au}(h:LA x=some l)(he : ∀y∈l,ev' y=ev y):pop ev' x=pop ev x:=by
 cases x<;>simp only[LA,Option.some.injEq,reduceCtorEq] at h<;>subst h;case A7 x lo hi=>
  have hx:=he x s0;have hl : ∀d,eJ ev' d lo=eJ ev d lo:=λd=>by
   cases lo with
   | none=>rfl
   | some y=>simp only[eJ,he y s0]
  have hh : ∀d,eJ ev' d hi=eJ ev d hi:=λd=>by
   cases hi with
   | none=>rfl
   | some y=>simp only[eJ,he y s0]
  simp only[pop,hx,hl,hh]
 all_goals simp only[List.mem_cons,List.mem_singleton,List.not_mem_nil,or_false,forall_eq_or_imp,forall_eq] at he
 all_goals simp only[pop,he]
theorem ahg(b : ∀t,bX K E (fr t) (aP t)){x:dN}{a:AV}(h:(match LA x with | some l=>if l.all (λy=>(dV fr y).raw.isSome)=true then (pop (rev fr) x).map Ez else none | none=>none)=some a) : ∃v,pop (aO aP) x=some v/\bX K E a v:=by
 split at h
 ·rename_i l hl;split at h
  ·rename_i ha;have he : ∀y∈l,aO aP y=rev fr y:=λy c=>by
    have:=List.all_eq_true.1 ha y c;obtain⟨u,hu⟩:=Option.isSome_iff_exists.1 this;rw[ox (iQ b y) hu,rev,hu];rfl
   rw[<-ahf hl he] at h;cases hp:pop (aO aP) x with
   | none=>rw[hp] at h;cases h
   | some v=>rw[hp] at h;cases h;exact⟨v,rfl,Y5⟩
  cases h
 cases h
theorem Y7(f : ∀t,bX K E (fr t) (aP t)){x:dN}{a:AV}(h:pm fr x=some a) : ∃v,pop (aO aP) x=some v/\bX K E a v:=by
 cases x with
 | tD x=>cases h;exact⟨_,rfl,iQ f x⟩
 | pick c x y=>
   simp only[pm] at h;split at h
   ·rename_i t hc;cases h;have:=ox (iQ f c) hc;refine⟨if t=true then aO aP x else aO aP y,by simp only[pop,this],?_⟩;cases t;·exact iQ f y
    exact iQ f x
   cases h
 | off x d=>
   simp only[pm] at h;have hx:=iQ f x;split at h;·rename_i o off e;cases h;rw[e] at hx;obtain⟨l,hl,hv⟩:=hx.tN;exact⟨_,by simp only[pop,hv], .ptr hl⟩
   ·rename_i t g off e;cases h;rw[e] at hx;obtain⟨b,base,os,F,kd,hb,ho,hl,hs,hv⟩:=hx.LB;exact⟨.pointer (some ⟨b,base+(off+d),none⟩),by simp only[pop,hv,jW], .fj hb ho hl hs⟩
   cases h
 | A8 x=>
   simp only[pm] at h;have hx:=iQ f x;split at h;·rename_i o off e;cases h;rw[e] at hx;obtain⟨l,hl,hv⟩:=hx.tN;exact⟨_,by simp only[pop,hv], .ptr hl⟩
   ·rename_i t g off e;cases h;rw[e] at hx;obtain⟨b,base,os,F,kd,hb,ho,hl,hs,hv⟩:=hx.LB;exact⟨_,by simp only[pop,hv], .fj hb ho hl hs⟩
   cases h
 | j0 x d n=>
   simp only[pm] at h;have hx:=iQ f x;split at h
   ·rename_i cs e;rw[e] at hx;cases hv:aO aP x with
    | _=>
      rw[hv] at hx;cases hx;rename_i hx;cases hx;try(
       rename_i vs u;cases hc:cs[d]? with
       | none=>rw[hc] at h;cases h
       | some y=>
         rw[hc] at h;cases h;obtain⟨v,h1,h2⟩:=u.get hc;exact⟨v,by simp only[pop,hv,uq,h1], .r (.c h2)⟩)
      try(rename_i w;cases w)
   ·rename_i cs m e;rw[e] at hx;split at h
    ·rename_i A;cases h;cases hv:aO aP x with
     | _=>
       rw[hv] at hx;cases hx;rename_i hx;cases hx;try(
        rename_i vs u;exact⟨_,by simp only[pop,hv,uq];rw[iP (by rw[u.len];exact A)], .r (.agg ((u.drop d).take m))⟩)
       try(rename_i w;cases w)
    cases h
   cases h
 | len x=>
   simp only[pm] at h;have hx:=iQ f x;cases hl:lenOf (dV fr x) with
   | none=>rw[hl] at h;cases h
   | some n=>
     rw[hl] at h;cases h;obtain⟨q,c,hv⟩:=ahe hx hl;exact⟨_,by simp only[pop,hv], .r (.c (.s (.sc rfl)))⟩
 | idx x i sz=>
   simp only[pm] at h;split at h
   ·rename_i t z gs k j H C;split at h
    ·rename_i hc;obtain⟨hz,I⟩:=hc;cases hg:gs[j.toNat]? with
     | none=>rw[hg] at h;cases h
     | some g=>
       rw[hg] at h;cases h;have hi:=ox (iQ f i) C;have O:=(List.getElem?_eq_some_iff.1 hg).1;obtain⟨m5,b,o,c,os,F,kd,rfl,k1,D,G,Q,J,hv⟩:=ahd (iQ f x) H (λe=>by rw[e] at hg;simp at hg);cases hz;obtain⟨L,R⟩:=LC G hg;refine⟨_,by simp only[pop,hv,hi];rw[iP ⟨I,Om⟩],?_⟩;have u:=((J.r2.drop (j.toNat*sz)).take g.length);rw[L] at u;have S:=BR G;have C:((((os.drop o).take (gs.length*sz)).drop (j.toNat*sz)).take g.length)=(os.drop (o+j.toNat*sz)).take g.length:=by
        rw[List.drop_take,List.take_take,gE,Nat.min_eq_left Om]
       rw[C] at u;exact .fj (base:=o+j.toNat*sz) (off:=0) k1 D Om u
    cases h
   cases h
 | ext x i=>
   simp only[pm] at h;have hx:=iQ f x;split at h
   ·rename_i l e;rw[e] at hx;cases hc:l[i]? with
    | none=>rw[hc] at h;cases h
    | some y=>
      rw[hc] at h;cases h;cases hv:aO aP x with
      | _=>
        rw[hv] at hx;cases hx;try(
         rename_i vs u;obtain⟨v,h1,h2⟩:=u.get hc;exact⟨v,by simp only[pop,hv];simpa using h1, .r h2⟩)
   cases h
 | xL z ps=>
   simp only[pm] at h;split at h
   ·rename_i M hz;cases hb:HO M (ps.map λ(o,s,x)=>(o,s,(dV fr x).tM)) with
    | none=>rw[hb] at h;cases h
    | some cs=>
      rw[hb] at h;cases h;obtain⟨vs,k1,D⟩:=Y6 (K:=K) (E:=E) (qs:=ps.map λ(o,s,x)=>(o,s,aO aP x)) (QG hz) (by
       clear hb;induction ps with
       | nil=>exact .nil
       | cons p ps N=>exact .cons ⟨rfl,rfl,λl hl=>HP (iQ f p.2.2) hl⟩ N) hb
      exact⟨_,by simp only[pop];rw[k1];rfl, .r (.agg D)⟩
   cases h
 | _=>exact ahg f h
end
section
open Go Go.RowKit
def QH (fr:aR):Option au->Option Nat
 | none=>some 0
 | some x=>match (dV fr x).raw with
   | some (.int .i64 n)=>if 0<=n then some n.toNat else none
   | _=>none
def wM (fr:aR)(st:TS):gU->Option AV
 | .ld x=>match dV fr x with
   | .ptr o off=>match st.aw[o]? with
     | some (_,_,cs)=>(cs[off]?).map λx=> .r (.c x)
     | none=>none
   | .fj _ g off=>(g[off]?).map λx=> .r (.c (.s x))
   | _=>none
 | .j9 n x=>match dV fr x with
   | .ptr o off=>match st.aw[o]? with
     | some (_,_,cs)=>if off+n<=cs.length then some (.r (.agg ((cs.drop off).take n))) else none
     | none=>none
   | .fj _ g off=>if off+n<=g.length then some (.r (.agg (((g.drop off).take n).map .s))) else none
   | _=>none
 | .pI e sz x lo hi none=>match dV fr x,QH fr lo with
   | .r (.c (.s (.row z gs))),some n=>match hi with
     | none=>if z=sz/\sz=5/\e=yN/\Nat.ble n gs.length=true then some (.r (.c (.s (.sub sz (gs.drop n))))) else none
     | some h=>match (dV fr h).raw with
       | some (.int .i64 m)=>if z=sz/\sz=5/\e=yN/\0<=m/\Nat.ble n m.toNat=true/\Nat.ble m.toNat gs.length=true then some (.r (.c (.s (.sub sz ((gs.drop n).take (m.toNat-n)))))) else none
       | _=>none
   | _,_=>none
 | _=>none
def CV.eP:CV->List Nat
 | .own t _ _ _=> [t]
 | _=> []
def CV.fz:CV->Option SV
 | .s x=>some x
 | .own _ _ sz gs=>some (pW sz gs)
 | .bad=>none
def sP:List CV->Option (List SV)
 | []=>some []
 | x::r=>match x.fz,sP r with
   | some y,some ys=>some (y::ys)
   | _,_=>none
def mO (l:List Nat):Nat->SA:=λt=>if t∈l then .fz else .cY
def lg(o:Option Nat):Nat->SA:=λt=>if o=some t then .kill else .cY
def EB (l:List Nat)(fr:aR):aR:=match l with
 | []=>fr
 | l=>fr.act (mO l)
def wO (l:List Nat)(st:TS):TS:=match l with
 | []=>st
 | l=>st.act (mO l)
def EC (sz:Nat):List (Option (List CV))->Option (List (List CV))
 | []=>some []
 | some cs::r=>if cs.length=sz then (EC sz r).map (cs:: ·) else none
 | none::_=>none
def HQ:List (List CV)->Option (List (List SV))
 | []=>some []
 | g::r=>match sP g,HQ r with
   | some y,some ys=>some (y::ys)
   | _,_=>none
def uX (fr:aR)(st:TS):oX->Option (AV×aR×TS)
 | .new e z=>match BQ z with
   | some cs=>if eG cs= [] then some (.ptr st.aw.length 0,fr,⟨st.nt,st.aw++ [(0,e,cs)]⟩) else none
   | none=>none
 | .box e x=>match (dV fr x).tM with
   | some cs=>if eG cs= [] then some (.ptr st.aw.length 0,fr,⟨st.nt,st.aw++ [(0,e,cs)]⟩) else none
   | none=>none
 | .xW e sz n z ps=>if ps.map (·.1)=List.range n/\0<n/\n*sz<=16777216/\n<=16777216/\HM e sz=true then
    match EC sz (ps.map λp=>(dV fr p.2).tM) with
    | some gs=>match HQ gs with
      | some hs=>some (.r (.c (.own st.nt e sz hs)),EB (gs.flatten.flatMap CV.eP) fr,⟨st.nt+1,(wO (gs.flatten.flatMap CV.eP) st).aw⟩)
      | none=>none
    | none=>none
   else none
 | _=>none
def AV.QI:AV->Option (Option (Nat×aH×Nat)×List (List SV))
 | .r (.c (.own t e sz gs))=>some (some (t,e,sz),gs)
 | .r (.c (.s (.row _ [])))=>some (none,[])
 | _=>none
def QJ(e sz:aH):Option (Nat×aH×Nat)->Prop
 | none=>True
 | some (_,e',m5)=>e'=e/\m5=sz
instance {e sz:aH} : ∀ {o:Option (Nat×aH×Nat)},Decidable (QJ e sz o)
 | none=>inferInstanceAs (Decidable True)
 | some (_,e',m5)=>inferInstanceAs (Decidable (e'=e/\m5=sz))
def LD (o:Option (Nat×aH×Nat))(fr:aR):aR:=match o with
 | none=>fr
 | some (t,_)=>fr.act (lg (some t))
def BT (o:Option (Nat×aH×Nat))(st:TS):TS:=match o with
 | none=>st
 | some (t,_)=>st.act (lg (some t))
def wQ (fr:aR)(st:TS):hO->Option (AV×aR×TS)
 | .st n x v=>match dV fr x,(dV fr v).tM with
   | .ptr o off,some a=>match st.aw[o]? with
     | some (mj,e,cs)=>if a.length=n/\off+n<=cs.length/\eG a= []/\eG ((cs.drop off).take a.length)= [] then some (.bad,fr,⟨st.nt,st.aw.set o (mj+1,e,cs.take off++a++cs.drop (off+a.length))⟩) else none
     | none=>none
   | _,_=>none
 | .app e sz bytes s x=>match (dV fr s).QI,(dV fr x).rowOf with
   | some (o,gs),some (_,z,hs)=>if QJ e sz o/\EA sz z/\(gs.length+hs.length)*bytes<=140737488355328/\gs.length+hs.length<=maxLen/\HM e sz=true then
      some (.r (.c (.own st.nt e sz (gs++hs))),LD o fr,⟨st.nt+1,(BT o st).aw⟩) else none
   | _,_=>none
 | _=>none
structure gg(K:CH)(st:TS)(E:TE)(K':CH)(aT:TS)(E':TE):Prop where
 hid : ∀b,E.hid b->E'.hid b
 ee : ∀o b,E.ρ o=some b->E'.ρ o=some b
 mj : ∀o v e cs,st.aw[o]? = some (v,e,cs)->∃v' cs',aT.aw[o]? = some (v',e,cs')/\v<=v'/\(v'=v->∀b,E.ρ o=some b->K'.ob b=K.ob b)
variable {T:cF} {Z:TP} {K0 K K' BU:CH} {sp:Option Nat} {W0:Nat->Prop} {st aT sQ:TS} {fr:aR} {aP:Fr} {E E' sR:TE}
theorem gg.refl:gg K st E K st E:=⟨λ_ h=>h,λ_ _ h=>h,λo v e cs h=>⟨v,cs,h,ag _,λ_ _ _=>rfl⟩⟩
theorem gg.trans(h:gg K st E K' aT E')(g:gg K' aT E' BU sQ sR):gg K st E BU sQ sR:=⟨λb q=>g.hid b (h.hid b q),λo b q=>g.ee o b (h.ee o b q),λo v e cs q=>by
 obtain⟨a,c,k1,d,f⟩:=h.mj o v e cs q;obtain⟨i,j,k,l,m⟩:=g.mj o a e c k1;exact⟨i,j,k,cM d l,λe b hb=>(m Om b (h.ee o b hb)).trans (f Om b hb)⟩⟩
theorem ahh{A:Nat->Prop}(a : ∀t,bX K E (fr t) (aP t)){lo:Option au}{n:Nat}(h:QH fr lo=some n):eJ (aO aP) 0 lo=some (n:Int):=by
 unfold QH at h;split at h;·cases h;rfl
 rename_i x;split at h
 ·rename_i m e;split at h;·rename_i b;cases h;have:=ox (iQ a x) e;simp only[eJ,this];rw[Int.toNat_of_nonneg b]
  cases h
 cases h
theorem Y8{A:Nat->Prop}{gs:List (List SV)}{sz e:Nat}{v:ae}(h:fM K A (.row sz gs) v)(h5:sz=5)(he:e=yN):pF K e v=true:=by
 cases h with
 | ot=>rfl
 | @row b _ os e' kd _ av hb ho hk hg hs ht=>
   have:=ht h5;subst this he;simp only[pF,ho];cases kd with
   | ro=>cases hk
   | _=>exact beq_self_eq_true _
theorem Y9{A:Nat->Prop}{gs:List (List SV)}{sz n m:Nat}{v:ae}(h:fM K A (.row sz gs) v)(h1:n<=m)(h2:m<=gs.length) : ∃w,sA sz v n m (wi v) false=some w/\fM K A (.sub sz ((gs.drop n).take (m-n))) w:=by
 cases h with
 | ot=>
   have:n=0/\m=0:=by simp at h2;omega
   obtain⟨f,o⟩:=this;subst f o;exact⟨.slice none 0 0,rfl, .wL⟩
 | @row b _ os e kd _ av hb ho hk hg hs ht=>
   have q:os.length=gs.length*sz:=by rw[hs.r2.len,BR hg]
   have j:(n:Int)<=m:=by omega
   have r:sA sz (.slice (some ⟨b,0,none⟩) gs.length gs.length) n m (wi (.slice (some ⟨b,0,none⟩) gs.length gs.length)) false=if 0<=(n:Int)/\(n:Int)<=m/\(m:Int)<=(gs.length:Nat)/\((gs.length:Nat):Int)<=gs.length then (if (n:Int)=(gs.length:Nat) then some (.slice (some ⟨b,0+(n:Int).toNat*sz,none⟩) 0 0) else some (.slice (some ⟨b,0+(n:Int).toNat*sz,none⟩) ((m:Int)-n).toNat (((gs.length:Nat):Int)-n).toNat)) else none:=rfl
   rw[r,iP ⟨Om,j,Om,Int.le_refl _⟩];by_cases hn:n=gs.length
   ·have f:(gs.drop n).take (m-n)= []:=by rw[hn,List.drop_length,List.take_nil]
    rw[iP Om,f];exact⟨_,rfl, .wL⟩
   rw[iN Om];have f:((gs.drop n).take (m-n)).length=((m:Int)-n).toNat:=by rw[nU,iH];omega
   have s:Int.toNat (n:Int)=n:=by omega
   rw[s,iZ];by_cases t:m=n
   ·subst t;rw[Nat.sub_self,List.take_zero];have u:((m:Int)-m).toNat=0:=by omega
    rw[u];exact⟨_,rfl, .wL⟩
   refine⟨_,rfl,?_⟩;rw[<-f];have d:((gs.drop n).take (m-n)).length=m-n:=by rw[nU,iH];omega
   have i:n*sz+(m-n)*sz<=gs.length*sz:=by rw[<-oU];exact Nat.mul_le_mul_right _ Om
   refine .sub ⟨λe=> ?_,by rw[d];have:=av.2;omega⟩ hb ho (λg y=>hg g (List.mem_of_mem_drop (List.mem_of_mem_take y))) (by rw[d,q];exact i) ?_ ht;·rw[e] at d;simp at d;omega
   have hd : ∀(l:List (List SV)) (n:Nat),(∀g∈l,g.length=sz)->(l.drop n).flatten=l.flatten.drop (n*sz):=λl=>by
    induction l with
    | nil=>intro n _;simp
    | cons a l k=>
      intro n hg;cases n with
      | zero=>simp
      | succ n=>
        rw[FP,k n λg h=>hg g (by simp[h]),um,oU,Nat.one_mul,C4,<-gE];congr 1
        have:=hg a s0;rw[<-this,List.drop_left]
   have ht : ∀(l:List (List SV)) (n:Nat),(∀g∈l,g.length=sz)->(l.take n).flatten=l.flatten.take (n*sz):=λl=>by
    induction l with
    | nil=>intro n _;simp
    | cons a l k=>
      intro n hg;cases n with
      | zero=>simp
      | succ n=>
        have:=hg a s0;rw[Jy,um,k n λg h=>hg g (by simp[h]),um,oU,Nat.one_mul,C4,<-this,List.take_append];congr 1
        ·rw[qq Om]
        congr 1;omega
   rw[d,ht _ _ λg h=>hg g (List.mem_of_mem_drop h),hd _ _ hg];exact((hs.r2.drop (n*sz)).take ((m-n)*sz)).HN
theorem LF(h:TR Z K0 sp W0 K st fr aP E){x:gU}{a:AV}(hx:wM fr st x=some a) : ∃v,bg K (aO aP) x=some v/\bX K E a v:=by
 cases x with
 | ld x=>
   simp only[wM] at hx;have f:=iQ h.fH x;split at hx
   ·rename_i o off e;rw[e] at f;obtain⟨l,hl,hv⟩:=f.tN;split at hx
    ·rename_i mj D cs ho;obtain⟨b,os,k1,F,u⟩:=h.aw o _ _ _ ho;rw[hl] at k1;cases k1;cases hc:cs[off]? with
     | none=>rw[hc] at hx;cases hx
     | some y=>
       rw[hc] at hx;cases hx;obtain⟨v,i,j⟩:=u.get hc;exact⟨v,by simp only[bg,hv,F,i], .r (.c j)⟩
    cases hx
   ·rename_i t g off e;rw[e] at f;obtain⟨b,base,os,D,kd,hb,ho,hl,hs,hv⟩:=f.LB;cases hc:g[off]? with
    | none=>rw[hc] at hx;cases hx
    | some y=>
      rw[hc] at hx;cases hx;obtain⟨v,i,j⟩:=hs.get hc;have L:=(List.getElem?_eq_some_iff.1 hc).1;rw[AT L,sk] at i;exact⟨v,by simp only[bg,hv,ho,i], .r (.c (.s j))⟩
   cases hx
 | j9 n x=>
   simp only[wM] at hx;have f:=iQ h.fH x;split at hx
   ·rename_i o off e;rw[e] at f;obtain⟨l,hl,hv⟩:=f.tN;split at hx
    ·rename_i mj D cs ho;obtain⟨b,os,k1,F,u⟩:=h.aw o _ _ _ ho;rw[hl] at k1;cases k1;split at hx;·rename_i k;cases hx;exact⟨_,by simp only[bg,hv,F];rw[iP (by rw[u.len];exact k)], .r (.agg ((u.drop off).take n))⟩
     cases hx
    cases hx
   ·rename_i t g off e;rw[e] at f;obtain⟨b,base,os,D,kd,hb,ho,hl,hs,hv⟩:=f.LB;split at hx
    ·rename_i k;cases hx;have q:=(hs.drop off).take n;have e:(((os.drop base).take g.length).drop off).take n=(os.drop (base+off)).take n:=by
      rw[List.drop_take,List.take_take,gE,Nat.min_eq_left Om]
     rw[e] at q;exact⟨_,by simp only[bg,hv,ho];rw[iP Om], .r (.agg (q.map λ_ _ q=> .s q))⟩
    cases hx
   cases hx
 | pI e sz x lo hi mx=>
   cases mx with
   | some=>cases hx
   | none=>
     simp only[wM] at hx;split at hx
     ·rename_i z gs n M N;have f:=iQ h.fH x;rw[M] at f;have J:=ahh (A:=λ_=>True) h.fH N;cases f with
      | r f=>cases f with
        | c f=>cases f with
          | s f=>
            obtain⟨v,hv⟩ : ∃v,aO aP x=v:=⟨_,rfl⟩;rw[hv] at f;have O:xM v=gs.length:=by cases f<;>rfl
            split at hx
            ·split at hx
             ·rename_i hc;obtain⟨rfl,h5,he,hc⟩:=hc;cases hx;have hn:=ja hc;have G:=Y8 f h5 he;obtain⟨w,i,j⟩:=Y9 (n:=n) (m:=gs.length) f hn (ag _);rw[qq (by rw[iH];omega)] at j;refine⟨w,?_, .r (.c (.s j))⟩;show(match eJ (aO aP) 0 lo,eJ (aO aP) (xM (aO aP x)) none,eJ (aO aP) (wi (aO aP x)) none with
               | some l,some h,some m=>if pF K e (aO aP x)&&((none:Option au).isNone||(none:Option au).isSome) then sA z (aO aP x) l h m (none:Option au).isSome else none
               | _,_,_=>none)=some w
              rw[J,hv,O];show(if pF K e v&&true then _ else _)=some w;rw[G];exact i
             cases hx
            rename_i C;split at hx
            ·rename_i m Q;split at hx
             ·rename_i hc;obtain⟨rfl,h5,he,R,H,I⟩:=hc;cases hx;have hh:=ox (iQ h.fH C) Q;have G:=Y8 f h5 he;obtain⟨w,i,j⟩:=Y9 (n:=n) (m:=m.toNat) f (ja H) (ja I);refine⟨w,?_, .r (.c (.s j))⟩;rw[Int.toNat_of_nonneg R] at i;show(match eJ (aO aP) 0 lo,eJ (aO aP) (xM (aO aP x)) (some C),eJ (aO aP) (wi (aO aP x)) none with
               | some l,some h,some m=>if pF K e (aO aP x)&&((none:Option au).isNone||(some C).isSome) then sA z (aO aP x) l h m (none:Option au).isSome else none
               | _,_,_=>none)=some w
              have hb : ∀d,eJ (aO aP) d (some C)=some m:=λd=>by simp only[eJ,hh]
              rw[J,hv,hb];show(if pF K e v&&true then _ else _)=some w;rw[G];exact i
             cases hx
            cases hx
     cases hx
 | _=>cases hx
theorem CV.lh{x:CV}:x.act (λ_=> .cY)=x:=by cases x<;>rfl
theorem RV.lh{x:RV}:x.act (λ_=> .cY)=x:=by
 cases x with
 | c x=>exact congrArg RV.c CV.lh
 | agg cs=>exact congrArg RV.agg ((vX λx _=>CV.lh).trans (List.map_id' cs))
theorem AV.lh{x:AV}:x.act (λ_=> .cY)=x:=by
 cases x with
 | r x=>exact congrArg AV.r RV.lh
 | fj t g off=>cases t<;>rfl
 | eF l=>exact congrArg AV.eF ((vX λx _=>RV.lh).trans (List.map_id' l))
 | _=>rfl
theorem aR.lh{fr:aR}:fr.act (λ_=> .cY)=fr:=funext λt=>AV.lh
theorem TS.lh{st:TS}:(st.act (λ_=> .cY)).aw=st.aw:=by
 show st.aw.map _=_;refine(vX λx _=> ?_).trans (List.map_id' _);obtain⟨v,e,cs⟩:=x;show(v,e,cs.map (CV.act λ_=> .cY))=(v,e,cs);rw[(vX λx _=>CV.lh).trans (List.map_id' cs)]
theorem Za:mO []=λ_=> .cY:=by funext t;simp[mO]
theorem LH{l:List Nat}:EB l fr=fr.act (mO l):=by
 cases l with
 | nil=>rw[Za,aR.lh];rfl
 | cons=>rfl
theorem LI{l:List Nat}:(wO l st).aw=(st.act (mO l)).aw:=by
 cases l with
 | nil=>rw[Za,TS.lh];rfl
 | cons=>rfl
theorem ED : ∀ {a b:List CV},eG (a++b)=eG a++eG b
 | [],b=>rfl
 | x::a,b=>by
   have d:=ED (a:=a) (b:=b);cases x with
   | s y=>cases y with
     | lk z=>show z::eG (a++b)=z::eG a++eG b;rw[d];rfl
     | sc v=>exact d
     | row sz gs=>exact d
     | sub sz gs=>exact d
   | own=>exact d
   | bad=>exact d
theorem BW{x:CV}{l:List CV}:eG (x::l)=eG [x]++eG l:=ED (a:= [x]) (b:=l)
theorem Zb{g:Nat->SA} : ∀ {cs:List CV},eG (cs.map (CV.act g))=eG cs
 | []=>rfl
 | x::cs=>by
   rw[dq,BW,BW (x:=x),Zb];congr 1
   cases x with
   | s y=>rfl
   | bad=>rfl
   | own t e sz gs=>
     show eG [match g t with | .cY=>CV.own t e sz gs | .fz=> .s (pW sz gs) | .kill=> .bad]= [];cases g t<;>rfl
theorem yO{x:CV}{v:ae}{l:List CV}{vs:List ae}:jP (x::l) (v::vs)=jP [x] [v]++jP l vs:=by
 cases x with
 | s y=>cases y<;>rfl
 | bad=>rfl
 | own=>rfl
theorem HR : ∀ {a b:List CV} {us vs:List ae},a.length=us.length->jP (a++b) (us++vs)=jP a us++jP b vs
 | [],b,[],vs,_=>by simp[jP]
 | x::a,b,u::us,vs,h=>by
   rw[aS,aS,yO,HR (by simpa using h),yO (l:=a),aG]
theorem QK : ∀ {a:List CV} {us:List ae},eG a= []->jP a us= []
 | [],us,_=>by cases us<;>rfl
 | x::a,us,h=>by
   rw[BW] at h;obtain⟨h1,h2⟩:=List.append_eq_nil_iff.1 h;cases us with
   | nil=>cases x with
     | s y=>cases y<;>rfl
     | bad=>rfl
     | own=>rfl
   | cons u us=>
     rw[yO,QK h2];cases x with
     | s y=>
       cases y with
       | lk x=>cases h1
       | _=>rfl
     | bad=>rfl
     | own=>rfl
theorem Zc{g:Nat->SA} : ∀ {cs:List CV} {vs:List ae},jP (cs.map (CV.act g)) vs=jP cs vs
 | [],vs=>rfl
 | x::cs,[]=>by
   cases x with
   | s y=>cases y<;>rfl
   | bad=>rfl
   | own t e sz gs=>
     rw[dq];show jP ((match g t with | .cY=>CV.own t e sz gs | .fz=> .s (pW sz gs) | .kill=> .bad)::_) []= [];cases g t<;>rfl
 | x::cs,v::vs=>by
   rw[dq,yO,yO (x:=x),Zc];congr 1
   cases x with
   | s y=>rfl
   | bad=>rfl
   | own t e sz gs=>
     show jP [match g t with | .cY=>CV.own t e sz gs | .fz=> .s (pW sz gs) | .kill=> .bad] [v]= [];cases g t<;>rfl
theorem ahi{cs us:List CV}{off:Nat}(h1:eG us= [])(h2:eG ((cs.drop off).take us.length)= []):eG (cs.take off++us++cs.drop (off+us.length))=eG cs:=by
 have e:cs=cs.take off++((cs.drop off).take us.length++cs.drop (off+us.length)):=by
  rw[<-gE,xy,xy]
 rw[ED,ED,h1,cn];conv=>rhs;rw[e,ED,ED,h2,a6]
theorem ahj{cs us:List CV}{os vs:List ae}{off:Nat}(h1:eG us= [])(h2:eG ((cs.drop off).take us.length)= [])(hl:cs.length=os.length)(hu:us.length=vs.length)(ho:off+us.length<=cs.length):jP (cs.take off++us++cs.drop (off+us.length)) (setCells os off vs)=jP cs os:=by
 have e : ∀ {α:Type} (cs:List α),cs=cs.take off++((cs.drop off).take us.length++cs.drop (off+us.length)):=λcs=>by
  rw[<-gE,xy,xy]
 have a:(cs.take off).length=(os.take off).length:=by simp[hl]
 have b:((cs.drop off).take us.length).length=((os.drop off).take us.length).length:=by simp[hl]
 unfold setCells;rw[HR (by rw[bW,bW,a,hu]),HR a,QK h1,cn,<-hu];conv=>rhs;rw[e cs,e os,HR a,HR b,QK h2,a6]
theorem JR.mv{l l':List (Nat×aH×List CV)}{W:Nat->Prop}(h:JR Z l K sp W)(hl:l'.length=l.length)(a : ∀v e cs,l[0]? = some (v,e,cs)->∃v' cs',l'[0]? = some (v',e,cs')/\eG cs'=eG cs/\cs'.length=cs.length/\(eG cs≠ []->∀p os,sp=some p->K.ob p= .cells os e .ex->∃os',K'.ob p= .cells os' e .ex/\os'.length=os.length/\jP cs' os'=jP cs os))(hw : ∀b,W b->K'.ob b=K.ob b)(hn:K.nx<=K'.nx):JR Z l' K' sp W:=by
 match l,l',h,hl,a with
 | [],[],h,_,_=>exact h
 | (v,e,cs)::r,(v',e',cs')::n,h,_,a=>
   obtain⟨o,q,d,c,f,i⟩:=a v e cs rfl;cases d;rcases h with ⟨h1,h2⟩ | ⟨h1,p,os,h2,h3,h4,h5⟩
   ·exact .inl ⟨c.trans h1,h2⟩
   obtain⟨os',j,k,m⟩:=i h1 p os h2 h3;refine .inr ⟨by rw[c];exact h1,p,os',h2,j,by rw[k,h4,f],?_⟩;rw[c,m];exact Z.jm h5 hw hn
theorem JR.act{l:List (Nat×aH×List CV)}{W:Nat->Prop}{g:Nat->SA}(h:JR Z l K sp W)(hp : ∀p,sp=some p->K'.ob p=K.ob p)(hw : ∀b,W b->K'.ob b=K.ob b)(hn:K.nx<=K'.nx):JR Z (l.map λ(v,e,cs)=>(v,e,cs.map (CV.act g))) K' sp W:=by
 refine h.mv (by rw[kZ]) (λv e cs q=>⟨v,cs.map (CV.act g),by rw[kF,q];rfl,Zb,by rw[kZ],λ_ p os h1 h2=>⟨os,(hp p h1).trans h2,rfl,Zc⟩⟩) hw hn
theorem TR.step(h:TR Z K0 sp W0 K st fr aP E){g:Nat->SA}(m:Mv K E g K' E'){BX:Nat}(i:K.nx<=K'.nx)(hk : ∀b,b<K.nx->(∀t,E.σ t≠some b)->K'.ob b=K.ob b)(r:E'.hid=E.hid)(k : ∀t b,E'.σ t=some b->K0.nx<=b/\b<K'.nx/\t<BX/\(∀o,E.ρ o≠some b)/\¬E.hid b)(l : ∀t t' b,E'.σ t=some b->E'.σ t'=some b->t=t')(f:E'.ρ=E.ρ):TR Z K0 sp W0 K' ⟨BX,(st.act g).aw⟩ (fr.act g) aP E':=by
 have d : ∀b,b<K0.nx->K'.ob b=K.ob b:=λb hb=>hk b (ek hb h.nx) λt ht=>by have:=(h.sig t b ht).1;omega
 refine⟨cM h.nx i,λb hb hp hw=>(d b hb).trans (h.cY b hb hp hw),λb hb=> ?_,λb hb=> ?_,?_,λt b q=> ?_,l,λt o b q=> ?_,λo b q=> ?_,λo o' b q j=> ?_,λo v e cs q=> ?_,λt=>(h.fH t).mv m⟩;·obtain⟨k1,a,c,u⟩:=h.rO b hb;exact⟨k1,a,c,(d b k1).trans u⟩
 ·rw[r] at hb;obtain⟨k1,a,c⟩:=h.hid b hb;exact⟨ek k1 i,λt q=>(k t b q).2.2.2.2 hb,λo q=>c o (by rwa [f] at q)⟩
 ·obtain⟨W,s,w⟩:=h.wr;refine⟨W,λb hb=>by rw[r];exact s b hb,?_⟩;rw[f];refine w.act (λp q=>hk p (h.ee 0 p q).1 λt j=>h.sr t 0 p j q) (λb hb=> ?_) i;obtain⟨k1,a,_⟩:=h.hid b (s b hb).1;exact hk b k1 a
 ·obtain⟨k1,a,c,_⟩:=k t b q;exact⟨k1,a,c⟩
 ·rw[f];exact(k t b q).2.2.2.1 o
 ·rw[f] at q;obtain⟨k1,a,c⟩:=h.ee o b q;exact⟨ek k1 i,a,by show o<(st.aw.map _).length;rw[kZ];exact c⟩
 ·rw[f] at q j;exact h.pY o o' b q j
 have q:(st.aw.map λ(v,e,cs)=>(v,e,cs.map (CV.act g)))[o]? = some (v,e,cs):=q;rw[kF] at q;cases n:st.aw[o]? with
 | none=>rw[n] at q;cases q
 | some y=>
   rw[n] at q;obtain⟨x,z,A⟩:=y;cases q;obtain⟨b,os,k1,a,c⟩:=h.aw o _ _ _ n;refine⟨b,os,by rw[f];exact k1,(hk b (h.ee o b k1).1 λt ht=>h.sr t o b ht k1).trans a,c.map λ_ _ q=>q.mv m⟩
theorem gg.act{g:Nat->SA}(a:E'.hid=E.hid)(c:E'.ρ=E.ρ)(ho : ∀o b,E.ρ o=some b->K'.ob b=K.ob b){BX:Nat}:gg K st E K' ⟨BX,(st.act g).aw⟩ E':=⟨λb q=>(by rw[a];exact q),λo b h=>by rw[c];exact h,λo v e cs h=>⟨v,cs.map (CV.act g),by
 show(st.aw.map _)[o]? = _;rw[kF,h];rfl,ag _,λ_ b hb=>ho o b hb⟩⟩
theorem TR.fz(h:TR Z K0 sp W0 K st fr aP E)(l:List Nat) : ∃E',TR Z K0 sp W0 K ⟨st.nt,(st.act (mO l)).aw⟩ (fr.act (mO l)) aP E'/\Mv K E (mO l) K E'/\gg K st E K ⟨st.nt,(st.act (mO l)).aw⟩ E'/\E'=⟨λt=>if t∈l then none else E.σ t,E.ρ,E.hid⟩:=by
 have hs : ∀t b,(if t∈l then none else E.σ t)=some b->t∉l/\E.σ t=some b:=λt b q=>by
  split at q;·cases q
  rename_i hn;exact⟨hn,q⟩
 have m:Mv K E (mO l) K ⟨λt=>if t∈l then none else E.σ t,E.ρ,E.hid⟩:=by
  refine⟨λb hb=>⟨⟨hb.1,hb.2.1,λt q=>hb.2.2.1 t (hs t b q).2,hb.2.2.2⟩,rfl⟩,λt b q e=>⟨?_,rfl⟩,λt b q e=>⟨?_,rfl⟩,λo b q=>q⟩
  ·show(if t∈l then none else E.σ t)=some b;unfold mO at e;split at e;·cases e
   rename_i hn;rw[iN hn];exact q
  unfold mO at e;split at e;·rename_i hn;obtain⟨k1,c,f⟩:=h.sig t b q;refine⟨c,λhh=>(h.hid b hh).2.1 t q,λt' d=> ?_,λo=>h.sr t o b q⟩;obtain⟨i,a⟩:=hs t' b d;exact i (h.inj t t' b q a▸hn)
  cases e
 exact⟨_,h.step m (ag _) (λ_ _ _=>rfl) rfl (λt b q=>by
  obtain⟨i,a⟩:=hs t b q;obtain⟨k1,c,f⟩:=h.sig t b a;exact⟨k1,c,f,λo=>h.sr t o b a,λhh=>(h.hid b hh).2.1 t a⟩) (λt t' b q d=>h.inj t t' b (hs t b q).2 (hs t' b d).2) rfl,m,gg.act (E:=E) (E':=⟨λt=>if t∈l then none else E.σ t,E.ρ,E.hid⟩) rfl rfl (λ_ _ _=>rfl),rfl⟩
theorem TR.row(h:TR Z K0 sp W0 K st fr aP E){os:List ae}{e:aH}{kd:Kd}{sz:Nat}{gs:List (List SV)}(av:gs≠ []/\gs.length<=maxLen)(hk:kd.eM=false)(hg : ∀g∈gs,g.length=sz)(hs:fk K (dw K E) gs.flatten os)(j:sz=5->e=yN) : ∃E',TR Z K0 sp W0 (K.new (.cells os e kd)) ⟨st.nt+1,st.aw⟩ fr aP E'/\gg K st E (K.new (.cells os e kd)) ⟨st.nt+1,st.aw⟩ E'/\bX (K.new (.cells os e kd)) E' (.r (.c (.own st.nt e sz gs))) (.slice (some ⟨K.nx,0,none⟩) gs.length gs.length):=by
 have k : ∀b,E.σ st.nt≠some b:=λb q=>by have:=(h.sig _ b q).2.2;omega
 have d : ∀b,b<K.nx->(K.new (.cells os e kd)).ob b=K.ob b:=λb hb=>kN Om;have f : ∀t b,(if t=st.nt then some K.nx else E.σ t)=some b->(t=st.nt/\b=K.nx)\/(t≠st.nt/\E.σ t=some b):=λt b q=>by
  split at q;·rename_i e;cases q;exact .inl ⟨e,rfl⟩
  rename_i e;exact .inr ⟨e,q⟩
 have m:Mv K E (λ_=> .cY) (K.new (.cells os e kd)) ⟨λt=>if t=st.nt then some K.nx else E.σ t,E.ρ,E.hid⟩:=by
  refine⟨λb hb=>⟨⟨FQ hb.1,hb.2.1,λt q=> ?_,hb.2.2.2⟩,d b hb.1⟩,λt b q _=>⟨?_,d b (h.sig t b q).2.1⟩,(λ_ _ _ q=>(by cases q)),λo b q=>q⟩
  ·have:=hb.1;rcases f t b q with ⟨_,e⟩ | ⟨_,e⟩
   ·omega
   exact hb.2.2.1 t e
  show(if t=st.nt then some K.nx else E.σ t)=some b;rw[iN (λe=>k b (by rw[<-e];exact q))];exact q
 have ht:=h.step m (BX:=st.nt+1) (nz _) (λb hb _=>d b hb) rfl (λt b q=>by
  rcases f t b q with ⟨i,a⟩ | ⟨i,a⟩
  ·subst a;exact⟨h.nx,nX _,Om,λo q=>by have:=(h.ee o _ q).1;omega,λhh=>by have:=(h.hid _ hh).1;omega⟩
  ·obtain⟨k1,n,u⟩:=h.sig t b a;exact⟨k1,FQ n,Om,λo=>h.sr t o b a,λhh=>(h.hid b hh).2.1 t a⟩) (λt t' b q s=>by
  rcases f t b q with ⟨i,a⟩ | ⟨i,a⟩<;>rcases f t' b s with ⟨f1,f2⟩ | ⟨f1,f2⟩
  ·omega
  ·have:=(h.sig t' b f2).2.1;omega
  ·have:=(h.sig t b a).2.1;omega
  exact h.inj t t' b a f2) rfl
 rw[aR.lh,TS.lh] at ht;refine⟨_,ht,?_, .r (.c (.own av (iP rfl) (WC rfl) hk hg (hs.mv m.hU) j))⟩;have:=gg.act (K:=K) (st:=st) (E:=E) (K':=K.new (.cells os e kd)) (E':=⟨λt=>if t=st.nt then some K.nx else E.σ t,E.ρ,E.hid⟩) (g:=λ_=> .cY) (BX:=st.nt+1) rfl rfl λo b q=>d b (h.ee o b q).1;rwa [TS.lh] at this
theorem TR.kil(h:TR Z K0 sp W0 K st fr aP E)(t:Nat){o:dr} : ∃E',TR Z K0 sp W0 (match E.σ t with | some b=>K.set b o | none=>K) ⟨st.nt,(st.act (lg (some t))).aw⟩ (fr.act (lg (some t))) aP E'/\Mv K E (lg (some t)) (match E.σ t with | some b=>K.set b o | none=>K) E'/\gg K st E (match E.σ t with | some b=>K.set b o | none=>K) ⟨st.nt,(st.act (lg (some t))).aw⟩ E':=by
 obtain⟨K',d⟩ : ∃K',(match E.σ t with | some b=>K.set b o | none=>K)=K':=⟨_,rfl⟩;rw[d];have f:K'.nx=K.nx:=by rw[<-d];cases E.σ t<;>rfl
 have c : ∀b,E.σ t≠some b->K'.ob b=K.ob b:=λb hb=>by
  rw[<-d];cases he:E.σ t with
  | none=>rfl
  | some b'=>exact Pp (λe=>hb (by rw[he,e]))
 have hs : ∀t' b,(if t'=t then none else E.σ t')=some b->t'≠t/\E.σ t'=some b:=λt' b q=>by
  split at q;·cases q
  rename_i hn;exact⟨hn,q⟩
 have av : ∀t' b,t'≠t->E.σ t'=some b->E.σ t≠some b:=λt' b hn q a=>hn (h.inj t' t b q a);have m:Mv K E (lg (some t)) K' ⟨λt'=>if t'=t then none else E.σ t',E.ρ,E.hid⟩:=by
  refine⟨λb hb=>⟨⟨by rw[f];exact hb.1,hb.2.1,λt' q=>hb.2.2.1 t' (hs t' b q).2,hb.2.2.2⟩,c b (hb.2.2.1 t)⟩,λt' b q e=> ?_,λt' b q e=> ?_,λo b q=>q⟩
  ·unfold lg at e;split at e;·cases e
   rename_i hn;have hn:t'≠t:=λe=>hn (by rw[e]);exact⟨(iN hn).trans q,c b (av t' b hn q)⟩
  unfold lg at e;split at e<;>cases e
 refine⟨_,h.step m (by rw[f];exact ag _) (λb _ hb=>c b (hb t)) rfl (λt' b q=> ?_) (λt1 t2 b q a=>h.inj t1 t2 b (hs t1 b q).2 (hs t2 b a).2) rfl,m,gg.act (E:=E) (E':=⟨λt'=>if t'=t then none else E.σ t',E.ρ,E.hid⟩) rfl rfl λo b q=>c b λa=>h.sr t o b a q⟩;obtain⟨l,i⟩:=hs t' b q;obtain⟨k1,j,k⟩:=h.sig t' b i;exact⟨k1,by rw[f];exact j,k,λo=>h.sr t' o b i,λhh=>(h.hid b hh).2.1 t' i⟩
theorem TR.Zd(h:TR Z K0 sp W0 K st fr aP E)(t:Nat) : ∃E',TR Z K0 sp W0 K ⟨st.nt,(st.act (lg (some t))).aw⟩ (fr.act (lg (some t))) aP E'/\Mv K E (lg (some t)) K E'/\gg K st E K ⟨st.nt,(st.act (lg (some t))).aw⟩ E'/\∀b,E.σ t=some b->K0.nx<=b/\b<K.nx/\(∀t,E'.σ t≠some b)/\∀o,E'.ρ o≠some b:=by
 have hs : ∀t' b,(if t'=t then none else E.σ t')=some b->t'≠t/\E.σ t'=some b:=λt' b q=>by
  split at q;·cases q
  rename_i hn;exact⟨hn,q⟩
 have m:Mv K E (lg (some t)) K ⟨λt'=>if t'=t then none else E.σ t',E.ρ,E.hid⟩:=by
  refine⟨λb hb=>⟨⟨hb.1,hb.2.1,λt' q=>hb.2.2.1 t' (hs t' b q).2,hb.2.2.2⟩,rfl⟩,λt' b q e=> ?_,λt' b q e=> ?_,λo b q=>q⟩
  ·unfold lg at e;split at e;·cases e
   rename_i hn;have hn:t'≠t:=λe=>hn (by rw[e]);exact⟨(iN hn).trans q,rfl⟩
  unfold lg at e;split at e<;>cases e
 refine⟨_,h.step m (ag _) (λb _ hb=>rfl) rfl (λt' b q=> ?_) (λt1 t2 b q a=>h.inj t1 t2 b (hs t1 b q).2 (hs t2 b a).2) rfl,m,gg.act (E:=E) (E':=⟨λt'=>if t'=t then none else E.σ t',E.ρ,E.hid⟩) rfl rfl λo b q=>rfl,λb q=>⟨(h.sig t b q).1,(h.sig t b q).2.1,λt' a=>(hs t' b a).1 (h.inj t' t b (hs t' b a).2 q),λo=>h.sr t o b q⟩⟩;obtain⟨i,c⟩:=hs t' b q;obtain⟨k1,d,f⟩:=h.sig t' b c;exact⟨k1,d,f,λo=>h.sr t' o b c,λhh=>(h.hid b hh).2.1 t' c⟩
theorem TR.obj(h:TR Z K0 sp W0 K st fr aP E){os:List ae}{e:aH}{cs:List CV}(hs:R2 (eO K E) cs os)(A:eG cs= []) : ∃E',TR Z K0 sp W0 (K.new (.cells os e .ex)) ⟨st.nt,st.aw++ [(0,e,cs)]⟩ fr aP E'/\gg K st E (K.new (.cells os e .ex)) ⟨st.nt,st.aw++ [(0,e,cs)]⟩ E'/\bX (K.new (.cells os e .ex)) E' (.ptr st.aw.length 0) (.pointer (some ⟨K.nx,0,none⟩)):=by
 have d : ∀b,b<K.nx->(K.new (.cells os e .ex)).ob b=K.ob b:=λb hb=>kN Om;have i : ∀o b,(if o=st.aw.length then some K.nx else E.ρ o)=some b->(o=st.aw.length/\b=K.nx)\/(o≠st.aw.length/\E.ρ o=some b):=λt b q=>by
  split at q;·rename_i e;cases q;exact .inl ⟨e,rfl⟩
  rename_i e;exact .inr ⟨e,q⟩
 have n : ∀o b,E.ρ o=some b->(if o=st.aw.length then some K.nx else E.ρ o)=some b:=λo b q=>by
  rw[iN (λe=>by have:=(h.ee o b q).2.2;omega)];exact q
 have m:Mv K E (λ_=> .cY) (K.new (.cells os e .ex)) ⟨E.σ,λo=>if o=st.aw.length then some K.nx else E.ρ o,E.hid⟩:=by
  refine⟨λb hb=>⟨⟨FQ hb.1,hb.2.1,hb.2.2.1,λt q=> ?_⟩,d b hb.1⟩,λt b q _=>⟨q,d b (h.sig t b q).2.1⟩,(λ_ _ _ q=>(by cases q)),n⟩;have:=hb.1;rcases i t b q with ⟨_,e⟩ | ⟨_,e⟩
  ·omega
  exact hb.2.2.2 t e
 have C : ∀ {x v},bX K E x v->bX (K.new (.cells os e .ex)) ⟨E.σ,λo=>if o=st.aw.length then some K.nx else E.ρ o,E.hid⟩ x v:=λq=>by
  have:=q.mv m;rwa [AV.lh] at this
 have y : ∀x v,eO K E x v->eO (K.new (.cells os e .ex)) ⟨E.σ,λo=>if o=st.aw.length then some K.nx else E.ρ o,E.hid⟩ x v:=λx v q=>by
  have:=q.mv m;rwa [CV.lh] at this
 refine⟨⟨E.σ,λo=>if o=st.aw.length then some K.nx else E.ρ o,E.hid⟩,⟨Nat.le_succ_of_le h.nx,λb hb hp hw=> ?_,λb hb=> ?_,λb hb=> ?_,?_,λt b q=> ?_,h.inj,λt o b q s=> ?_,λo b q=> ?_,λo o' b q s=> ?_,λo v e' cs' q=> ?_,λt=>C (h.fH t)⟩,⟨λ_ q=>q,n,λo v e' cs' q=> ?_⟩, .ptr (iP rfl)⟩;·have:=h.nx;exact(d b Om).trans (h.cY b hb hp hw)
 ·obtain⟨k1,a,f,D⟩:=h.rO b hb;have:=h.nx;exact⟨k1,a,f,(d b Om).trans D⟩
 ·obtain⟨k1,a,f⟩:=h.hid b hb;refine⟨FQ k1,a,λo q=> ?_⟩;rcases i o b q with ⟨_,e⟩ | ⟨_,e⟩
  ·omega
  exact f o e
 ·obtain⟨W,z,j⟩:=h.wr;refine⟨W,z,?_⟩;have u:st.aw≠ []->(if 0=st.aw.length then some K.nx else E.ρ 0)=E.ρ 0:=λav=>iN λe=>av (List.length_eq_zero_iff.1 e.symm);show JR Z (st.aw++ [(0,e,cs)]) _ (if 0=st.aw.length then some K.nx else E.ρ 0) W;match hl:st.aw,j,u with
  | [],j,_=>exact .inl ⟨A,j⟩
  | (v,e',cs')::r,j,u=>
    rw[u s0];refine JR.mv (l:=(v,e',cs')::r) (l':=(v,e',cs')::r) j rfl (λv e cs q=>⟨v,cs,q,rfl,rfl,λ_ p os h1 h2=>⟨os,(d p (h.ee 0 p h1).1).trans h2,rfl,rfl⟩⟩) (λb hb=>d b (h.hid b (z b hb).1).1) (nz _)
 ·obtain⟨k1,a,f⟩:=h.sig t b q;exact⟨k1,FQ a,f⟩
 ·rcases i o b s with ⟨k,c⟩ | ⟨k,c⟩
  ·have:=(h.sig t b q).2.1;omega
  exact h.sr t o b q c
 ·show b<K.nx+1/\_/\o<(st.aw++ [(0,e,cs)]).length;rw[bW,Di];rcases i o b q with ⟨k,c⟩ | ⟨k,c⟩
  ·have:=h.nx;exact⟨Om, .inl Om,Om⟩
  obtain⟨k1,a,f⟩:=h.ee o b c;exact⟨Om,a,Om⟩
 ·rcases i o b q with ⟨k,c⟩ | ⟨k,c⟩<;>rcases i o' b s with ⟨f1,f2⟩ | ⟨f1,f2⟩
  ·omega
  ·have:=(h.ee o' b f2).1;omega
  ·have:=(h.ee o b c).1;omega
  exact h.pY o o' b c f2
 ·have q:(st.aw++ [(0,e,cs)])[o]? = some (v,e',cs'):=q;rw[List.getElem?_append] at q;split at q;·obtain⟨b,w,k1,a,f⟩:=h.aw o v e' cs' q;exact⟨b,w,n o b k1,(d b (h.ee o b k1).1).trans a,f.mono y⟩
  rename_i F;have ho:o=st.aw.length:=by
   have:=(List.getElem?_eq_some_iff.1 q).1;simp at this;omega
  subst ho;simp at q;obtain⟨rfl,rfl,rfl⟩:=q;exact⟨K.nx,os,iP rfl,WC rfl,hs.mono y⟩
 refine⟨v,cs',?_,ag _,λ_ b hb=>d b (h.ee o b hb).1⟩;show(st.aw++ [(0,e,cs)])[o]? = _;rw[ui (List.getElem?_eq_some_iff.1 q).1];exact q
theorem TR.sto(h:TR Z K0 sp W0 K st fr aP E){o b v:Nat}{e:aH}{cs us:List CV}{os:List ae}(c:E.ρ o=some b)(ho:st.aw[o]? = some (v,e,cs))(hs:R2 (eO K E) us os)(k:eG us=eG cs/\us.length=cs.length/\(eG cs≠ []->∀f,K.ob b= .cells f e .ex->os.length=f.length/\jP us os=jP cs f)):TR Z K0 sp W0 (K.set b (.cells os e .ex)) ⟨st.nt,st.aw.set o (v+1,e,us)⟩ fr aP E/\gg K st E (K.set b (.cells os e .ex)) ⟨st.nt,st.aw.set o (v+1,e,us)⟩ E:=by
 have d : ∀l,l≠b->(K.set b (.cells os e .ex)).ob l=K.ob l:=λl hl=>Pp hl;have m:Mv K E (λ_=> .cY) (K.set b (.cells os e .ex)) E:=by
  refine⟨λl hl=>⟨hl,d l λe=>hl.2.2.2 o (e▸c)⟩,λt l q _=>⟨q,d l λe=>h.sr t o l q (e▸c)⟩,(λ_ _ _ q=>(by cases q)),λ_ _ q=>q⟩
 have w : ∀ {x v},bX K E x v->bX (K.set b (.cells os e .ex)) E x v:=λq=>by
  have:=q.mv m;rwa [AV.lh] at this
 have s : ∀x v,eO K E x v->eO (K.set b (.cells os e .ex)) E x v:=λx v q=>by
  have:=q.mv m;rwa [CV.lh] at this
 obtain⟨G,r2,n⟩:=h.ee o b c;refine⟨⟨h.nx,λl hl hp hw=> ?_,λl hl=> ?_,h.hid,?_,h.sig,h.inj,h.sr,λo' l q=> ?_,h.pY,λo' v' e' cs' q=> ?_,λt=>w (h.fH t)⟩,⟨λ_ q=>q,λ_ _ q=>q,λo' v' e' cs' q=> ?_⟩⟩
 ·refine(d l λe=> ?_).trans (h.cY l hl hp hw);subst e;rcases r2 with r2 | r2
  ·omega
  exact hp r2
 ·obtain⟨k1,i,j,y⟩:=h.rO l hl;refine⟨k1,i,j,(d l λe=> ?_).trans y⟩;subst e;rcases r2 with r2 | r2
  ·omega
  exact i r2
 ·obtain⟨W,u,z⟩:=h.wr;refine⟨W,u,JR.mv z (by show(st.aw.set o _).length=_;rw[JB]) (λv' e' cs' q=> ?_) (λl hl=>d l λe=>(h.hid l (u l hl).1).2.2 o (e▸c)) (ag _)⟩;show ∃H A,(st.aw.set o (v+1,e,us))[0]? = _/\_;by_cases a:o=0
  ·subst a;rw[ho] at q;cases q;refine⟨v+1,us,Jl n,k.1,k.2.1,λav p f h1 h2=> ?_⟩;have C:p=b:=by rw[c] at h1;cases h1;rfl
   subst C;obtain⟨D,F⟩:=k.2.2 av f h2;exact⟨os,WD,D,F⟩
  refine⟨v',cs',(FL a).trans q,rfl,rfl,λ_ p f h1 h2=>⟨f,(d p λe=>a ?_).trans h2,rfl,rfl⟩⟩;exact h.pY o 0 b c (e▸h1)
 ·obtain⟨k1,i,j⟩:=h.ee o' l q;exact⟨k1,i,by show o'<(st.aw.set o _).length;rw[JB];exact j⟩
 ·have q:(st.aw.set o (v+1,e,us))[o']? = some (v',e',cs'):=q;by_cases a:o=o'
  ·subst a;rw[Jl n] at q;cases q;exact⟨b,os,c,WD,hs.mono s⟩
  rw[FL a] at q;obtain⟨l,r,k1,i,j⟩:=h.aw o' v' e' cs' q;exact⟨l,r,k1,(d l λe=>a (h.pY o o' b c (e▸k1))).trans i,j.mono s⟩
 by_cases a:o=o'
 ·subst a;rw[ho] at q;cases q;exact⟨v+1,us,Jl n,nz _,λe=>by omega⟩
 refine⟨v',cs',(FL a).trans q,ag _,λ_ l hl=>d l λe=>a (h.pY o o' b c (e▸hl))⟩
end
section
open Go Go.RowKit
variable {T:cF} {Z:TP} {K0 K K' BU:CH} {sp:Option Nat} {W0:Nat->Prop} {st aT sQ aQ:TS} {fr aj:aR} {aP:Fr} {E E' sR:TE}
theorem fk.app{A:Nat->Prop}{xs ys:List SV}{vs us:List ae}(h:fk K A xs vs)(g:fk K A ys us):fk K A (xs++ys) (vs++us):=(h.r2.app g.r2).HN
theorem ahl{a:AV}{v:ae}(h:bX K E a v){t:Option Nat}{z:Option Nat}{hs:List (List SV)}(f:a.rowOf=some (t,z,hs)){sz:Nat}(hz:EA sz z) : ∃xs,pJ K sz v=some (xs,hs.length)/\fk K (dw K E) hs.flatten xs/\(∀g∈hs,g.length=sz):=by
 rcases BS h f with ⟨rfl,rfl⟩ | ⟨av,m5,b,os,k,kd,rfl,k1,i,l,c,d,rfl⟩
 ·exact⟨[],rfl, .nil,(λ_ q=>(by cases q))⟩
 cases hz;refine⟨os,?_,d,c⟩;have hl:os.length=hs.length*sz:=by rw[d.r2.len,BR c]
 have j:hs.length≠0:=λe=>av.1 (List.length_eq_zero_iff.1 e);simp only[pJ,j,iF,i];rw[iP Om,sn,qq Om]
theorem Ze{A:Nat->Prop} : ∀ {xs:List SV} {vs:List ae},R2 (fM K A) xs vs->vs.all ci=true
 | _,_, .nil=>rfl
 | _,_, .cons h t=>by rw[List.all_cons,fM.cell h,Ze t];rfl
theorem fk.cells{A:Nat->Prop}{xs:List SV}{vs:List ae}(h:fk K A xs vs):vs.all ci=true:=Ze h.r2
theorem ahm.cells{xs:List CV}{vs:List ae}(h:R2 (eO K E) xs vs):vs.all ci=true:=by
 induction h with
 | nil=>rfl
 | cons h t a=>rw[List.all_cons,h.cell,a];rfl
theorem TR.ren(h:TR Z K0 sp W0 K st fr aP E)(t:Nat) : ∃E',TR Z K0 sp W0 K ⟨st.nt+1,(st.act (lg (some t))).aw⟩ (fr.act (lg (some t))) aP E'/\gg K st E K ⟨st.nt+1,(st.act (lg (some t))).aw⟩ E'/\(∀b,dw K E b->dw K E' b)/\E'.σ st.nt=E.σ t:=by
 have i : ∀b,E.σ st.nt≠some b:=λb q=>by have:=(h.sig _ b q).2.2;omega
 have hs : ∀t' b,(if t'=st.nt then E.σ t else if t'=t then none else E.σ t')=some b->(t'=st.nt/\E.σ t=some b)\/(t'≠st.nt/\t'≠t/\E.σ t'=some b):=λt' b q=>by
  split at q;·rename_i e;exact .inl ⟨e,q⟩
  rename_i e;split at q;·cases q
  rename_i e';exact .inr ⟨e,e',q⟩
 have d : ∀b,dw K E b->dw K ⟨λt'=>if t'=st.nt then E.σ t else if t'=t then none else E.σ t',E.ρ,E.hid⟩ b:=λb hb=>⟨hb.1,hb.2.1,λt' q=>by
  rcases hs t' b q with ⟨_,e⟩ | ⟨_,_,e⟩
  ·exact hb.2.2.1 t e
  exact hb.2.2.1 t' e,hb.2.2.2⟩
 have m:Mv K E (lg (some t)) K ⟨λt'=>if t'=st.nt then E.σ t else if t'=t then none else E.σ t',E.ρ,E.hid⟩:=by
  refine⟨λb hb=>⟨d b hb,rfl⟩,λt' b q e=> ?_,λt' b q e=> ?_,λo b q=>q⟩
  ·unfold lg at e;split at e;·cases e
   rename_i hn;have hn:t'≠t:=λe=>hn (by rw[e]);refine⟨?_,rfl⟩;show(if t'=st.nt then E.σ t else if t'=t then none else E.σ t')=some b;rw[iN (λe=>i b (by rw[<-e];exact q)),iN hn];exact q
  unfold lg at e;split at e<;>cases e
 refine⟨_,h.step m (ag _) (λb _ hb=>rfl) rfl (λt' b q=> ?_) (λt1 t2 b q j=> ?_) rfl,gg.act (E:=E) (E':=⟨λt'=>if t'=st.nt then E.σ t else if t'=t then none else E.σ t',E.ρ,E.hid⟩) rfl rfl λo b q=>rfl,d,iP rfl⟩
 ·rcases hs t' b q with ⟨a,e⟩ | ⟨a,_,e⟩
  ·obtain⟨k1,c,k⟩:=h.sig t b e;exact⟨k1,c,Om,λo=>h.sr t o b e,λhh=>(h.hid b hh).2.1 t e⟩
  obtain⟨k1,c,k⟩:=h.sig t' b e;exact⟨k1,c,Om,λo=>h.sr t' o b e,λhh=>(h.hid b hh).2.1 t' e⟩
 rcases hs t1 b q with ⟨a,e⟩ | ⟨a,l,e⟩<;>rcases hs t2 b j with ⟨f1,f⟩ | ⟨f1,f2,f⟩
 ·omega
 ·exact absurd (h.inj t2 t b f e) f2
 ·exact absurd (h.inj t1 t b e f) l
 exact h.inj t1 t2 b e f
theorem ahn(h:TR Z K0 sp W0 K st fr aP E){e sz bytes:Nat}{s x:au}{a:AV}(ht:wQ fr st (.app e sz bytes s x)=some (a,aj,aQ)) : ∃v i d,cy K (aO aP) (.app e sz bytes s x)=some (v,i)/\TR Z K0 sp W0 i aQ aj aP d/\bX i d a v/\gg K st E i aQ d:=by
 simp only[wQ] at ht;split at ht
 ·rename_i o gs tq z hs u U;split at ht
  ·rename_i hc;obtain⟨V,W,H,D,Y⟩:=hc;have w:=Y3 Y;cases ht;obtain⟨xs,l,F,I⟩:=ahl (iQ h.fH x) U W;have J:=F.cells;have j:=iQ h.fH s;have Bt:o=none->gs= []->aO aP s= .slice none 0 0->∃v i d,cy K (aO aP) (.app e sz bytes s x)=some (v,i)/\TR Z K0 sp W0 i ⟨st.nt+1,(BT o st).aw⟩ (LD o fr) aP d/\bX i d (.r (.c (.own st.nt e sz (gs++hs)))) v/\gg K st E i ⟨st.nt+1,(BT o st).aw⟩ d:=λho hg hv=>by
    subst ho;subst hg;rw[a6];have hh:hs.length*bytes<=140737488355328/\hs.length<=maxLen:=by simpa using And.intro H D
    by_cases f:hs.length=0
    ·have:hs= []:=List.length_eq_zero_iff.1 f;subst this;refine⟨.slice none 0 0,K,E,by simp only[cy,l,hv];rfl,⟨h.nx,h.cY,h.rO,h.hid,h.wr,λt b q=> ?_,h.inj,h.sr,h.ee,h.pY,h.aw,h.fH⟩, .r (.c .sO),λ_ h=>h,λ_ _ h=>h,λo v e cs h=>⟨v,cs,h,ag _,λ_ _ _=>rfl⟩⟩;obtain⟨k1,k,n⟩:=h.sig t b q;exact⟨k1,k,FQ n⟩
    obtain⟨d,t1,t2,t3⟩:=h.row (e:=e) (kd:= .gr) (sz:=sz) (gs:=hs) (os:=xs) ⟨λe=>f (by rw[e];rfl),hh.2⟩ rfl I F w;exact⟨_,_,d,by simp only[cy,l,hv,f,iF];rw[iP ⟨J,hh.1,hh.2⟩],t1,t3,t2⟩
   unfold AV.QI at u;split at u
   ·rename_i t e' m5 gs' G;cases u;obtain⟨rfl,rfl⟩:=V;rcases BS (t:=some t) j (by rw[G];rfl) with ⟨rfl,hv⟩ | ⟨av,sz2,b,os,y,kd,L,k1,k,n,M,N,hv⟩
    ·
     rw[a6];obtain⟨O,t1,m,t2⟩:=h.Zd t;by_cases f:hs.length=0
     ·have:hs= []:=List.length_eq_zero_iff.1 f;subst this;refine⟨.slice none 0 0,K,O,by simp only[cy,l,hv];rfl,⟨t1.nx,t1.cY,t1.rO,t1.hid,t1.wr,λt b q=> ?_,t1.inj,t1.sr,t1.ee,t1.pY,t1.aw,t1.fH⟩, .r (.c .sO),t2.1.1,t2.1.2,t2.1.3⟩;obtain⟨k1,k,n⟩:=t1.sig t b q;exact⟨k1,k,FQ n⟩
     have hh:hs.length*bytes<=140737488355328/\hs.length<=maxLen:=by simpa using And.intro H D
     obtain⟨d,A,s2,C⟩:=t1.row (e:=e') (kd:= .gr) (sz:=m5) (gs:=hs) (os:=xs) ⟨λe=>f (by rw[e];rfl),hh.2⟩ rfl I (F.mv m.hU) w;exact⟨_,_,d,by simp only[cy,l,hv,f,iF];rw[iP ⟨J,hh.1,hh.2⟩],A,C,t2.1.trans s2⟩
    have BY:y=e':=by
     rw[G] at j;cases j with
     | r j=>cases j with
       | c j=>
         rw[hv] at j;cases j with
         | own av hb ho hk hg hs=>
           have k1:E.σ t=some b:=k1;rw[k] at ho;cases ho;rfl
    subst BY;cases L;have k1:E.σ t=some b:=k1;have hl:os.length=gs.length*m5:=by rw[N.r2.len,BR M]
    by_cases f:hs.length=0
    ·have:hs= []:=List.length_eq_zero_iff.1 f;subst this;obtain⟨d,t1,t2,t3,t4⟩:=h.ren t;refine⟨.slice (some ⟨b,0,none⟩) gs.length gs.length,K,d,by simp only[cy,l,hv,k];rfl,t1,?_,t2⟩;rw[cn];exact .r (.c (.own av (t4.trans k1) k n M (N.mv λb hb=>⟨t3 b hb,rfl⟩) w))
    have hx:cy K (aO aP) (.app y m5 bytes s x)=some (.slice (some ⟨K.nx,0,none⟩) (gs.length+hs.length) (gs.length+hs.length),mG (kd.kI&&decide (gs.length<gs.length+hs.length)) K b (.cells (os++xs) y .gr)):=by
     simp only[cy,l,hv,k,f,iF];rw[iP ⟨trivial,trivial,n,Om,J,H,D⟩,qq Om]
    rw[<-bW] at hx;have Q:fk K (dw K E) (gs++hs).flatten (os++xs):=by rw[List.flatten_append];exact N.app F
    have R : ∀g∈gs++hs,g.length=m5:=λg hg=>(List.mem_append.1 hg).elim (M g) (I g);have S:gs++hs≠ []/\(gs++hs).length<=maxLen:=⟨λe=>av.1 (List.append_eq_nil_iff.1 e).1,by rw[bW];exact D⟩;unfold mG at hx;split at hx;·obtain⟨O,t1,m,t2⟩:=h.Zd t;obtain⟨d,A,s2,C⟩:=t1.row (e:=y) (kd:= .gr) S rfl R (Q.mv m.hU) w;exact⟨_,_,d,hx,A,C,t2.1.trans s2⟩
    obtain⟨O,t1,m,t2⟩:=h.kil t (o:= .dead);rw[k1] at t1 m t2;obtain⟨d,A,s2,C⟩:=t1.row (e:=y) (kd:= .gr) S rfl R (Q.mv m.hU) w;exact⟨_,_,d,hx,A,C,t2.trans s2⟩
   ·rename_i G;cases u;rcases BS (t:=none) (gs:= []) j (by rw[G];rfl) with ⟨_,hv⟩ | ⟨av,_⟩
    ·exact Bt rfl rfl hv
    exact absurd rfl av.1
   cases u
  cases ht
 cases ht
theorem Zh{sz:Nat} : ∀ {l:List (Option (List CV))} {gs:List (List CV)},EC sz l=some gs->l=gs.map some/\∀g∈gs,g.length=sz
 | [],gs,h=>by cases h;exact⟨rfl,(λ_ q=>(by cases q))⟩
 | none::r,gs,h=>by cases h
 | some cs::r,gs,h=>by
   simp only[EC] at h;split at h
   ·rename_i hc;cases a:EC sz r with
    | none=>rw[a] at h;cases h
    | some b=>
      rw[a] at h;cases h;obtain⟨d,e⟩:=Zh a;refine⟨by rw[d];rfl,λg hg=> ?_⟩;rcases List.mem_cons.1 hg with rfl | hg
      ·exact hc
      exact e g hg
   cases h
theorem Zi{x:CV}{v:ae}(h:eO K E x v){y:SV}(hy:x.fz=some y){K':CH}{A:Nat->Prop}(h1 : ∀b,dw K E b->A b/\K'.ob b=K.ob b)(h2 : ∀t b,t∈x.eP->E.σ t=some b->A b/\K'.ob b=K.ob b):fM K' A y v:=by
 cases h with
 | s h=>cases hy;exact h.mv h1
 | sO=>cases hy;exact .ot
 | own av hb ho hk hg hs ht=>
   cases hy;obtain⟨a,c⟩:=h2 _ _ (List.mem_singleton.2 rfl) hb;exact .row av a (c.trans ho) hk hg (hs.mv h1) ht
 | bad=>cases hy
theorem HV{K':CH}{A:Nat->Prop}(h1 : ∀b,dw K E b->A b/\K'.ob b=K.ob b) : ∀ {xs:List CV} {vs:List ae} {ys:List SV},R2 (eO K E) xs vs->sP xs=some ys->(∀t b,t∈xs.flatMap CV.eP->E.σ t=some b->A b/\K'.ob b=K.ob b)->R2 (fM K' A) ys vs
 | _,_,ys, .nil,h,_=>by cases h;exact .nil
 | x::xs,_,ys, .cons hx ht,h,h2=>by
   simp only[sP] at h;split at h;·rename_i y d a c;cases h;exact .cons (Zi hx a h1 λt b q=>h2 t b (by rw[zr];exact vY _ q)) (HV h1 ht c λt b q=>h2 t b (by rw[zr];exact AW _ q))
   cases h
theorem Zj{K':CH}{A:Nat->Prop}(h1 : ∀b,dw K E b->A b/\K'.ob b=K.ob b) : ∀ {gs:List (List CV)} {hs:List (List SV)} {vs:List ae},R2 (eO K E) gs.flatten vs->HQ gs=some hs->(∀t b,t∈gs.flatten.flatMap CV.eP->E.σ t=some b->A b/\K'.ob b=K.ob b)->R2 (fM K' A) hs.flatten vs/\hs.length=gs.length/\∀sz,(∀g∈gs,g.length=sz)->∀g∈hs,g.length=sz
 | [],hs,vs,a,h,_=>by
   cases h;exact⟨(by cases a;exact .nil),rfl,λ_ _ _ q=>(by cases q)⟩
 | g::gs,hs,vs,a,h,h2=>by
   simp only[HQ] at h;split at h
   ·rename_i y ys i j;cases h;rw[um] at a h2;have d:=a.take g.length;have r2:=a.drop g.length;rw[List.take_left] at d;rw[List.drop_left] at r2;have k1:=HV h1 d i λt b q=>h2 t b (by rw[List.flatMap_append];exact vY _ q);obtain⟨k,l,m⟩:=Zj h1 r2 j λt b q=>h2 t b (by rw[List.flatMap_append];exact AW _ q);have e:y.length=g.length:=by rw[<-k1.len,d.len]
    refine⟨?_,by simp[l],λsz f x hx=> ?_⟩;·rw[um,<-xy g.length vs];exact k1.app k
    rcases List.mem_cons.1 hx with rfl | hx
    ·rw[e];exact f g s0
    exact m sz (λg hg=>f g (by simp[hg])) x hx
   cases h
theorem Zk{sz:Nat}{ev:au->ae} : ∀ {ps:List (Nat×au)} {k:Nat} {z:List ae},ps.map (·.1)=List.range' k ps.length->z.length=(k+ps.length)*sz->(∀p∈ps,isVal (ev p.2)=true/\(ev p.2).cells.size=sz)->j8 z (ps.map λ(i,x)=>(i*sz,sz,ev x))=some (z.take (k*sz)++ps.flatMap λp=>(ev p.2).cells.toList)
 | [],k,z,_,hz,_=>by
   rw[qq (by simpa using Nat.le_of_eq hz)];simp[j8]
 | (i,x)::ps,k,z,hi,hz,hv=>by
   rw[dq,ay,List.range'_succ] at hi;injection hi with uF c
   have uF:i=k:=uF;subst uF;obtain⟨h1,h2⟩:=hv (i,x) s0;have a:i*sz+sz<=z.length:=by
    rw[hz,ay,show i+(ps.length+1)=(i+1)+ps.length from by omega,oU (i+1),oU i];omega
   have b:((ev x).cells.toList).length=sz:=by rw[Jo];exact h2
   have d:=Zk (sz:=sz) (ev:=ev) (ps:=ps) (k:=i+1) (z:=setCells z (i*sz) (ev x).cells.toList) c (by rw[JI Om,hz,ay,show i+(ps.length+1)=(i+1)+ps.length from by omega]) λp hp=>hv p (by simp[hp]);show(if isVal (ev x)=true/\(ev x).cells.size=sz/\i*sz+sz<=z.length then j8 (setCells z (i*sz) (ev x).cells.toList) _ else none)=_;rw[iP ⟨h1,h2,a⟩,d];congr 1
   rw[zr,<-aG];congr 1
   unfold setCells;rw[TY (by rw[bW,nU,b,oU];omega),qq (by rw[bW,nU,b,oU];omega)]
theorem ahp{z:List ae}{n:Nat}:(mF z n).length=n:=by simp[mF]
theorem ahq(h:TR Z K0 sp W0 K st fr aP E){x:oX}{a:AV}(ht:uX fr st x=some (a,aj,aQ)) : ∃cs e k mk d,fV (aO aP) x=some (cs,e,k,mk)/\TR Z K0 sp W0 (K.new (.cells cs e k)) aQ aj aP d/\bX (K.new (.cells cs e k)) d a (kH mk K.nx)/\gg K st E (K.new (.cells cs e k)) aQ d:=by
 cases x with
 | new e z=>
   simp only[uX] at ht;cases hz:BQ z with
   | none=>rw[hz] at ht;cases ht
   | some cs=>
     rw[hz] at ht;simp only at ht;split at ht;·rename_i q;cases ht;obtain⟨d,t1,t2,t3⟩:=h.obj (e:=e) (QG hz) q;exact⟨_,_,_,_,d,rfl,t1,t3,t2⟩
     cases ht
 | box e x=>
   simp only[uX] at ht;cases hz:(dV fr x).tM with
   | none=>rw[hz] at ht;cases ht
   | some cs=>
     rw[hz] at ht;simp only at ht;split at ht;·rename_i q;cases ht;obtain⟨l,o⟩:=HP (iQ h.fH x) hz;obtain⟨d,t1,t2,t3⟩:=h.obj (e:=e) l q;exact⟨_,_,_, .ptr,d,by simp only[fV];rw[iP o],t1,t3,t2⟩
     cases ht
 | xW e sz n z ps=>
   simp only[uX] at ht;split at ht
   ·rename_i hc;obtain⟨r,G,u,v,H⟩:=hc;split at ht
    ·rename_i gs w;split at ht
     ·rename_i hs y;cases ht;obtain⟨i,s⟩:=Zh w;have hn:ps.length=n:=by have:=congrArg l7 r;simpa using this
      subst hn;have C : ∀p∈ps,∃g∈gs,(dV fr p.2).tM=some g:=λp hp=>by
       have:(dV fr p.2).tM∈gs.map some:=by rw[<-i];exact List.mem_map_of_mem hp
       obtain⟨g,k1,j⟩:=List.mem_map.1 this;exact⟨g,k1,j.symm⟩
      have D : ∀p∈ps,isVal (aO aP p.2)=true/\(aO aP p.2).cells.size=sz:=λp hp=>by
       obtain⟨g,k1,j⟩:=C p hp;obtain⟨l,o⟩:=HP (iQ h.fH p.2) j;exact⟨o,by rw[<-Jo,l.len];exact s g k1⟩
      have hb:=Zk (ev:=aO aP) (k:=0) (z:=mF z (ps.length*sz)) (by rw[r,List.range_eq_range']) (by rw[ahp,iZ]) D;rw[Nat.zero_mul,List.take_zero,a6] at hb;have I:R2 (eO K E) gs.flatten (ps.flatMap λp=>(aO aP p.2).cells.toList):=by
       clear hb D C w y r G u v;induction ps generalizing gs with
       | nil=>
         cases gs with
         | nil=>exact .nil
         | cons=>simp at i
       | cons p ps J=>
         cases gs with
         | nil=>simp at i
         | cons g gs=>
           rw[dq,dq] at i;injection i with L M
           rw[um,zr];exact(HP (iQ h.fH p.2) L).1.app (J gs M λg hg=>s g (by simp[hg]))
      obtain⟨d,t1,m,t2,t3⟩:=h.fz (gs.flatten.flatMap CV.eP);obtain⟨k1,j,N⟩:=Zj (K':=K) (A:=dw K d) m.hU I y λt b l o=>m.fz t b o (by unfold mO;rw[iP l]);have av:hs≠ []:=λe=>by
       have:gs.length=0:=by rw[<-j,e];rfl
       have h3:=congrArg l7 i;simp at h3;omega
      have f:hs.length=ps.length:=by
       have h3:=congrArg l7 i;rw[j];simpa using h3.symm
      obtain⟨O,Q,s2,F⟩:=t1.row (e:=e) (kd:= .ex) (sz:=sz) (gs:=hs) ⟨av,by rw[f,nM];omega⟩ rfl (N sz s) k1.HN (Y3 H);rw[f] at F;rw[LH,LI];exact⟨_,e, .ex, .sl ps.length ps.length,O,by simp only[fV];rw[iP ⟨u,v⟩,hb];rfl,Q,F,t2.trans s2⟩
     cases ht
    cases ht
   cases ht
 | _=>cases ht
theorem ahr(h:TR Z K0 sp W0 K st fr aP E){x:hO}{a:AV}(ht:wQ fr st x=some (a,aj,aQ)) : ∃v d i,cy K (aO aP) x=some (v,d)/\TR Z K0 sp W0 d aQ aj aP i/\bX d i a v/\gg K st E d aQ i:=by
 cases x with
 | app e sz bytes s x=>exact ahn h ht
 | st n x v=>
   simp only[wQ] at ht;split at ht
   ·rename_i o off C t u;split at ht
    ·rename_i mj e cs ho;split at ht
     ·rename_i hc;cases ht;have j:=iQ h.fH x;rw[t] at j;obtain⟨l,hl,hv⟩:=j.tN;obtain⟨c,w⟩:=HP (iQ h.fH v) u;obtain⟨b,os,k1,k,f⟩:=h.aw o _ _ _ ho;rw[hl] at k1;cases k1;obtain⟨y,z,m,q⟩:=hc;obtain⟨t1,t2⟩:=h.sto hl ho (f.set c (o:=off)) ⟨ahi m q,(by simp only[bW,nU,iH];omega),λ_ D r=>by
       rw[k] at r;cases r;exact⟨JI (by rw[c.len,f.len];omega),ahj m q f.len.symm c.len.symm Om⟩⟩
      refine⟨undef,_,E,?_,t1, .bad,t2⟩;have A:(aO aP v).cells.size=n:=by rw[<-Jo,c.len];exact y
      simp only[cy,hv,k];rw[iP ⟨rfl,w,A,by rw[f.len];exact z,ahm.cells c⟩]
     cases ht
    cases ht
   cases ht
 | _=>cases ht
end
end Can
end Go.Proofs.YtdfgkcoenagaaaaGreat
