/- Scope, Check: what a closure may do; kid; visit. Scope, Check: visit, the walk. Scope, Check: maps of names; what is known of functions, in the memory. Scope, Check: collect's first closure: the functions, as they come. Scope, Check: collect's second closure: what nodes say of their function. Scope, Check: bind's closure; places with any closure. Scope, Check: bind's closure: one name more. Scope, Check: bind; collect's third closure. Scope, Check: collect. Scope, Check: round, member, wrong. Scope, Check: wrong. Scope, Check: its closure; need, the closure of frees. -/
import Derived.Test.YticlaccbodpkeaaGreatDoorUa
import Derived.Test.YticlaccbodpkeaaGreatDoorUg
open Bool renaming and_true → pL
open Go renaming FuncId → aS, MapEntry → qp, Value → ae
open Go.Value renaming cells → ci
open Iff renaming rfl → eM
open Int renaming add_zero → sD, toNat_natCast → fJ, zero_add → Cb
open List renaming all_cons → qw, all_nil → uB, append_assoc → oY, append_nil → gY, cons_append → gZ, drop_eq_getElem_cons → mz, drop_length → yu, drop_nil → tz, drop_succ_cons → kc, drop_zero → gI, ext_getElem? → DV, filter_cons → Oa, foldl_append → N9, foldl_cons → Gj, getElem?_append_left → qo, getElem?_append_right → su, getElem?_cons_succ → e9, getElem?_cons_zero → eZ, getElem?_eq_getElem → cj, getElem?_map → ka, getElem?_modify → xh, getElem_mem → Gr, getElem_of_mem → Gm, length_append → cG, length_cons → bN, length_filter_le → Sz, length_map → eR, length_nil → bZ, length_take → kW, map_append → zY, map_cons → c8, map_nil → iw, mem_of_getElem? → fD, mem_singleton → nh, nil_append → ju, size_toArray → jt, take → DX, take_length → ng, take_nil → tB, take_of_length_le → ux, take_succ_cons → qx, take_succ_eq_append_getElem → pJ, take_zero → vU, toList_toArray → jS
open Nat renaming add_zero → mA, le_add_right → N8, le_refl → ai, le_trans → cy, lt_of_lt_of_le → cQ, lt_succ_self → fN, mul_one → fp, not_lt_zero → fW, sub_self → Gq, zero_add → ba, zero_le → bR, zero_mul → xf
open Ne renaming symm → uz
open Option renaming map_some → dC
open SizeOf renaming sizeOf → fc
set_option maxHeartbeats 4000000
set_option linter.unusedSimpArgs false
set_option linter.unusedVariables false
namespace Go.Proofs.YticlaccbodpkeaaGreatDoor
namespace Can
section
open Go Go.RowKit
set_option maxRecDepth 4000
theorem aez{T:cw}{a b d t:bQ}{fr:Fr}{H:CH}{Q:bp->Fr->CH->Prop}(M:bp->Fr->CH->Prop)(h1:dh T (.seq a (.seq b d)) fr H M)(h2 : ∀x fr' H',M x fr' H'->CI T t Q x fr' H'):dh T (.seq a (.seq b (.seq d t))) fr H Q:=by
 rw[dx] at h1⊢
 refine h1.mono λx fr' H' h=> ?_;cases x with
 | normal=>
   rw[cE] at h⊢;exact QU M h h2
 | ret=>exact h2 .ret fr' H' h
 | exit i=>exact h2 (.exit i) fr' H' h
theorem aoJ{T:cw}{a b d e t:bQ}{fr:Fr}{H:CH}{Q:bp->Fr->CH->Prop}(M:bp->Fr->CH->Prop)(h1:dh T (.seq a (.seq b (.seq d e))) fr H M)(h2 : ∀x fr' H',M x fr' H'->CI T t Q x fr' H'):dh T (.seq a (.seq b (.seq d (.seq e t)))) fr H Q:=by
 rw[dx] at h1⊢
 refine h1.mono λx fr' H' h=> ?_;cases x with
 | normal=>
   rw[cE] at h⊢;exact aez M h h2
 | ret=>exact h2 .ret fr' H' h
 | exit i=>exact h2 (.exit i) fr' H' h
theorem Fz{K:CH}{A:Nat->Prop}{n t:Nd}{os:List ae}{i:Nat}(h:bK K A (cF n) os)(hA : ∀b,A b->b<K.nx)(hi:n.kids[i]? = some t):aQ gH 28 [.agg os.toArray, .int .i64 (i:Nat)] K λv K'=>∃os',v= .agg os'.toArray/\ag K K'/\bK K A (cF t) os':=by
 obtain⟨k,l,x,o,ks⟩:=n;obtain⟨q,rfl,d⟩:=iq h;obtain⟨u,e,w,y,g⟩:=lr d;cases e;have hi:ks[i]? = some t:=hi;obtain⟨z,_⟩:=List.getElem?_eq_some_iff.1 hi;obtain⟨b,cs,e,kd,rfl,j,m,B,C,h5,hs⟩:=g i t hi;have hb:=hA b j;obtain⟨os',a⟩ : ∃os',(cs.drop (i*5)).take 5=os':=⟨_,rfl⟩;rw[a] at hs;obtain⟨k',l',x',o',D,E,G,c⟩:=BA hs;have r:os'.length=5:=by rw[c];rfl
 have s:os'.all a8=true:=by rw[c];rfl
 refine dq Rl Kr (aK ?_);refine rn (jL @m @a @r @s @ba) ?_;refine⟨os',by rw[ux Om],by(repeat (first | assumption | exact ag.refl _ | (refine ag.set ?_ Fo _) | (refine ag.new ?_ _))),hs⟩
def qU (h:Wh):List ae:= [.int .i64 (h.f:Nat), .bool h.lp, .bool h.hd, .bool h.mb]
structure VX(X W W':Nat->Prop)(K K':CH):Prop where
 nx:K.nx<=K'.nx
 ob : ∀b,b<K.nx->¬W b->¬X b->K'.ob b=K.ob b
 w : ∀b,W' b->W b\/K.nx<=b
theorem VX.trans{X W a c:Nat->Prop}{K d e:CH}(h:VX X W a K d)(g:VX X a c d e):VX X W c K e:=
 ⟨cy h.nx g.nx,λb hb hw hx=>(g.ob b (cQ hb h.nx) (λh1=>(h.w b h1).elim hw λh2=>by omega) hx).trans (h.ob b hb hw hx),λb hb=>(g.w b hb).elim (h.w b) λh1=> .inr (cy h.nx h1)⟩
theorem VX.ext{X W:Nat->Prop}{K K':CH}(h:ag K K'):VX X W W K K':=⟨h.nx,λb hb _ _=>h.ob b hb,λb hb=> .inl hb⟩
theorem VX.set{X W a:Nat->Prop}{K c:CH}(h:VX X W a K c){p:Nat}(hp:K.nx<=p\/X p)(o:dD):VX X W a K (c.set p o):=
 ⟨h.nx,λb hb hw hx=>(cO (λe=>by subst e;rcases hp with h | h;exact absurd hb Om;exact hx h)).trans (h.ob b hb hw hx),h.w⟩
theorem VX.up{X Y W a:Nat->Prop}{K c:CH}(h:VX X W a K c)(hx : ∀b,X b->Y b):VX Y W a K c:=⟨h.nx,λb hb hw d=>h.ob b hb hw λh=>d (hx b h),h.w⟩
abbrev nU:Nat->Prop:=λ_=>False
abbrev JT:=List Ev->CH->(Nat->Prop)->Prop
structure zz(J:JT):Prop where
 st : ∀pre K K' W,J pre K W->K.nx<=K'.nx->(∀b,W b->K'.ob b=K.ob b)->J pre K' W
 lt : ∀pre K W,J pre K W->∀b,W b->b<K.nx
theorem zz.hx{J:JT}(a:zz J){pre:List Ev}{K K':CH}{W:Nat->Prop}(h:J pre K W)(hx:ag K K'):J pre K' W:=a.st pre K K' W h hx.nx λb hb=>hx.ob b (a.lt pre K W h b hb)
theorem zz.set{J:JT}(a:zz J){pre:List Ev}{K:CH}{W:Nat->Prop}(h:J pre K W){p:Nat}(hp : ¬W p)(o:dD):J pre (K.set p o) W:=a.st pre K _ W h (ai _) λb hb=>cO λe=>hp (e▸hb)
def Dr(fs:aS)(cap:List ae)(E:List Ev)(J:JT):Prop:=∀(pre:List Ev) (e:Ev) (rest:List Ev) (K:CH) (W A:Nat->Prop) (os:List ae),pre++e::rest=E->J pre K W->bK K A (cF e.1) os->(∀b,A b->b<K.nx/\¬W b)->aQ gH fs (.agg os.toArray:: .agg (qU e.2).toArray::cap) K λ_ K'=>∃W',J (pre++ [e]) K' W'/\VX nU W W' K K'
structure VK(fs:aS)(cap:List ae)(bs bc bw:Nat)(K:CH)(W:Nat->Prop)(c:Nat):Prop where
 s : ∃e,K.ob bs= .cells [.func (.func fs) #[] cap.toArray] e .ex
 w : ∃e,K.ob bw= .cells [.func (.func 58) #[] #[pN bs,pN bc,pN bw]] e .ex
 c:K.ob bc= .cells [.int .i64 (c:Nat)] 3 .ex
 lt:bs<K.nx/\bw<K.nx/\bc<K.nx
 nw : ¬W bs/\¬W bw/\¬W bc
theorem VK.ex{fs:aS}{cap:List ae}{bs bc bw:Nat}{K K':CH}{W W':Nat->Prop}{c c':Nat}(h:VK fs cap bs bc bw K W c)(hx:VX (· = bc) W W' K K')(hc:K'.ob bc= .cells [.int .i64 (c':Nat)] 3 .ex):VK fs cap bs bc bw K' W' c':=by
 obtain⟨a,h1⟩:=h.s;obtain⟨b,h2⟩:=h.w;obtain⟨d,f,l3⟩:=h.lt;obtain⟨n1,n2,n3⟩:=h.nw;have hn:=hx.nx;have d1:bs≠bc:=λe=>by rw[e,h.c] at h1;cases h1
 have d2:bw≠bc:=λe=>by rw[e,h.c] at h2;cases h2
 exact⟨⟨a,(hx.ob _ d n1 d1).trans h1⟩,⟨b,(hx.ob _ f n2 d2).trans h2⟩,hc,⟨Om,Om,Om⟩,⟨λw=>(hx.w _ w).elim n1 λh=>by omega,λw=>(hx.w _ w).elim n2 λh=>by omega,λw=>(hx.w _ w).elim n3 λh=>by omega⟩⟩
theorem VK.hx{fs:aS}{cap:List ae}{bs bc bw:Nat}{K K':CH}{W:Nat->Prop}{c:Nat}(h:VK fs cap bs bc bw K W c)(hx:ag K K'):VK fs cap bs bc bw K' W c:=h.ex (.ext hx) ((hx.ob _ h.lt.2.2).trans h.c)
def VQ (J:JT)(bc:Nat)(pre:List Ev)(W:Nat->Prop)(K:CH)(r:List Ev×Nat)(K':CH):Prop:=∃W',J (pre++r.1) K' W'/\VX (· = bc) W W' K K'/\K'.ob bc= .cells [.int .i64 (r.2:Nat)] 3 .ex
def Xk(fs:aS)(cap:List ae)(E:List Ev)(J:JT)(bs bc bw N:Nat):Prop:=∀(t:Nd),eX t<=N->nS t->∀(pre:List Ev) (c:Nat) (h:Wh) (K:CH) (W A:Nat->Prop) (os:List ae),bK K A (cF t) os->(∀b,A b->b<K.nx/\¬W b/\b≠bc)->VK fs cap bs bc bw K W c->J pre K W->(∃rest,pre++(bu c h t).1++rest=E)->c+cu t<=2305843009213693952->aQ gH 58 [.agg os.toArray, .agg (qU h).toArray,pN bs,pN bc,pN bw] K λ_ K'=>VQ J bc pre W K (bu c h t) K'
abbrev MR(h:Wh):dD:= .cells [.int .i64 (h.f:Nat), .bool h.lp, .bool h.hd, .bool h.mb] 69 .ex
abbrev Xl(t:Nd)(q:Option Addr):dD:= .cells [.int .i64 (t.kind:Nat), .int .i64 t.line, .string (tx t.text), .int .i64 (t.op:Nat), .slice q t.kids.length t.kids.length] 26 .ex
def VM (J:JT)(bs bc bw:Nat)(pre:List Ev)(c:Nat)(h:Wh)(K:CH)(W:Nat->Prop)(t:Nd)(q:Option Addr)(x:bp)(fr:Fr)(H:CH):Prop:=
 (x= .normal/\fr 2=pN bs/\fr 3=pN bc/\fr 4=pN bw/\fr 5=pN K.nx/\fr 6=pN (K.nx+1)/\t.kind≠9/\∃a,J (pre++ [(t,h)]) H a/\VX (· = bc) W a K H/\K.nx+2<=H.nx/\(∀b,a b->W b\/K.nx+2<=b)/\H.ob bc= .cells [.int .i64 ((if t.kind=8\/t.kind=50 then c+1 else c:Nat):Int)] 3 .ex/\H.ob K.nx=Xl t q/\H.ob (K.nx+1)=MR (uh t.kind (c+1) h))
 \/(x= .ret/\AS [] (λ_ K'=>VQ J bc pre W K (bu c h t) K') x fr H)
def VkJ (J:JT)(bc C:Nat)(pre:List Ev)(c:Nat)(h:Wh)(K:CH)(W:Nat->Prop)(ks:List Nd)(n:Nat)(v:ae)(b:CH):Prop:=∃(i a:Nat) (es:List Ev) (d:Nat->Prop),n=ks.length-i/\i<=ks.length/\v= .int .i64 (i:Nat)/\J (pre++es) b d/\VX (· = bc) W d K b/\b.ob bc= .cells [.int .i64 (a:Nat)] 3 .ex/\a+aZ (ks.drop i)<=C/\pE c h ks=(es++(pE a h (ks.drop i)).1,(pE a h (ks.drop i)).2)
def VcJ (J:JT)(bc C:Nat)(pre:List Ev)(c:Nat)(h:Wh)(K:CH)(W:Nat->Prop)(ks:List Nd)(n:Nat)(v:ae)(b:CH):Prop:=∃(i a:Nat) (es:List Ev) (d:Nat->Prop),n=ks.length-i/\i<=ks.length/\v= .int .i64 (i:Nat)/\J (pre++es) b d/\VX (· = bc) W d K b/\b.ob bc= .cells [.int .i64 (a:Nat)] 3 .ex/\a+aZ (ks.drop i)<=C/\iO c h ks=(es++(iO a h (ks.drop i)).1,(iO a h (ks.drop i)).2)
theorem IF{c k:Nat}{h:Wh}{l:Int}{x:Bs}{o:Nat}{ks:List Nd}(hk:k≠9):bu c h (.mk k l x o ks)=((.mk k l x o ks,h)::(pE (if k=8\/k=50 then c+1 else c) (uh k (c+1) h) ks).1,(pE (if k=8\/k=50 then c+1 else c) (uh k (c+1) h) ks).2):=by
 by_cases hh : ∃a bk bl bx bo bs,ks= [a, .mk bk bl bx bo bs]
 ·obtain⟨a,bk,bl,bx,bo,bs,rfl⟩:=hh;rw[bu,iN hk]
 rw[bu,iN hk];exactλa bk bl bx bo bs e=>hh ⟨a,bk,bl,bx,bo,bs,e⟩
theorem FA{c:Nat}{h:Wh}{l:Int}{x:Bs}{o:Nat}{a:Nd}{bk:Nat}{bl:Int}{bx:Bs}{bo:Nat}{bs:List Nd}:bu c h (.mk 9 l x o [a, .mk bk bl bx bo bs])=((.mk 9 l x o [a, .mk bk bl bx bo bs],h)::((bu c h.no a).1++(iO (bu c h.no a).2 h.no bs).1),(iO (bu c h.no a).2 h.no bs).2):=by
 rw[bu,iP rfl]
theorem IG{c:Nat}{h:Wh}{n:Nd}{ks:List Nd}:pE c h (n::ks)=((bu c h n).1++(pE (bu c h n).2 h ks).1,(pE (bu c h n).2 h ks).2):=by rw[pE]
theorem MS{c:Nat}{h:Wh}:pE c h []=([],c):=by rw[pE]
theorem Rc{c:Nat}{h:Wh}:iO c h []=([],c):=by rw[iO]
theorem Rd{c:Nat}{h:Wh}{l:Int}{x:Bs}{o:Nat}{p v:Nd}{r ms:List Nd}:iO c h (.mk 3 l x o (p::v::r)::ms)=((.mk 3 l x o (p::v::r),h.me)::((bu c h v).1++(iO (bu c h v).2 h ms).1),(iO (bu c h v).2 h ms).2):=by rw[iO,iP rfl]
theorem Re{c:Nat}{h:Wh}{n:Nd}{ms:List Nd}(hn : ¬(n.kind=3/\2<=n.kids.length)):iO c h (n::ms)=((bu c h.me n).1++(iO (bu c h.me n).2 h ms).1,(iO (bu c h.me n).2 h ms).2):=by
 obtain⟨k,l,x,o,ks⟩:=n;match ks with
 | []=>rw[iO];exactλk l x o p v r e=>by cases e
 | [p]=>rw[iO];exactλk l x o p v r e=>by cases e
 | p::v::r=>
   have hk : ¬k=3:=λe=>hn ⟨e,by show 2<=r.length+1+1;omega⟩;rw[iO,iN hk]
theorem aoK(N:Nat):(∀(t:Nd) (c:Nat) (h:Wh),fc t<N->c<=(bu c h t).2/\(bu c h t).2<=c+cu t)/\(∀(ks:List Nd) (c:Nat) (h:Wh),fc ks<N->c<=(pE c h ks).2/\(pE c h ks).2<=c+aZ ks)/\(∀(ks:List Nd) (c:Nat) (h:Wh),fc ks<N->c<=(iO c h ks).2/\(iO c h ks).2<=c+aZ ks):=by
 induction N with
 | zero=>exact⟨λ_ _ _ h=>absurd h (fW _),λ_ _ _ h=>absurd h (fW _),λ_ _ _ h=>absurd h (fW _)⟩
 | succ N d=>
   obtain⟨i1,i2,i3⟩:=d;refine⟨λt c h b=> ?_,λks c h b=> ?_,λks c h b=> ?_⟩
   ·obtain⟨k,l,x,o,ks⟩:=t;by_cases hk:k=9
    ·subst hk;by_cases hh : ∃a bk bl bx bo bs,ks= [a, .mk bk bl bx bo bs]
     ·obtain⟨a,bk,bl,bx,bo,bs,rfl⟩:=hh;rw[FA];simp at b;have h1:=i1 a c h.no Om;have h2:=i3 bs (bu c h.no a).2 h.no Om;simp only[cu,aZ];omega
     rw[bu,iP rfl];·exact⟨ai _,N8 _ _⟩
     exactλa bk bl bx bo bs e=>hh ⟨a,bk,bl,bx,bo,bs,e⟩
    rw[IF hk];simp at b;have h1:=i2 ks (if k=8\/k=50 then c+1 else c) (uh k (c+1) h) Om;rw[cu];revert h1
    split<;>(intro h1;show _<=_/\_<=_;omega)
   ·cases ks with
    | nil=>rw[MS];exact⟨ai _,N8 _ _⟩
    | cons n ks=>
      simp at b;rw[IG,aZ];have h1:=i1 n c h Om;have h2:=i2 ks (bu c h n).2 h Om;show _<=_/\_<=_;omega
   cases ks with
   | nil=>rw[Rc];exact⟨ai _,N8 _ _⟩
   | cons n ms=>
     simp at b;rw[aZ];by_cases hn:n.kind=3/\2<=n.kids.length
     ·obtain⟨k,l,x,o,ks⟩:=n;obtain⟨rfl,h2⟩:k=3/\2<=ks.length:=hn;match ks,h2 with
      | p::v::r,_=>
        simp at b;rw[Rd];have h1:=i1 v c h Om;have h2:=i3 ms (bu c h v).2 h Om;simp only[cu,aZ];omega
     rw[Re hn];have h1:=i1 n c h.me Om;have h2:=i3 ms (bu c h.me n).2 h Om;show _<=_/\_<=_;omega
theorem zA(t:Nd)(c:Nat)(h:Wh):c<=(bu c h t).2/\(bu c h t).2<=c+cu t:=(aoK (fc t+1)).1 t c h (fN _)
theorem aoL(t:Nd)(c:Nat)(h:Wh) : ∃tl,(bu c h t).1=(t,h)::tl:=by
 obtain⟨k,l,x,o,ks⟩:=t;by_cases hk:k=9
 ·subst hk;by_cases hh : ∃a bk bl bx bo bs,ks= [a, .mk bk bl bx bo bs]
  ·obtain⟨a,bk,bl,bx,bo,bs,rfl⟩:=hh;rw[FA];exact⟨_,rfl⟩
  rw[bu,iP rfl];·exact⟨_,rfl⟩
  exactλa bk bl bx bo bs e=>hh ⟨a,bk,bl,bx,bo,bs,e⟩
 rw[IF hk];exact⟨_,rfl⟩
theorem aoM{fs:aS}{cap:List ae}{E:List Ev}{J:JT}{bs bc bw N:Nat}(D:zz J)(FC:Dr fs cap E J)(ih:Xk fs cap E J bs bc bw N):Xk fs cap E J bs bc bw (N+1):=by
 rintro⟨tk,ln,x,o,ks⟩ hN dw pre c h K W A os hs hA hV hj hG hC;obtain⟨q,rfl,dJ⟩:=iq hs;obtain⟨q',e,cW,lV,fq⟩:=lr dJ;cases e;rw[gE] at cW;have qV:=D.lt pre K W hj;obtain⟨l1,l2,l3⟩:=hV.lt;obtain⟨n1,n2,n3⟩:=hV.nw;have e0:ag K ((K.new (Xl (.mk tk ln x o ks) q)).new (MR h)):=((ag.refl K).new _).new _;have hV0:=hV.hx e0;obtain⟨ebs,ax⟩:=hV.s;obtain⟨ebw,obw⟩:=hV.w;have eN:c+(aZ ks+1)<=2305843009213693952:=hC;unfold qU;refine dq Rl Kr (aK ?_);refine aoJ (VM J bs bc bw pre c h K W (.mk tk ln x o ks) q) ?_ ?_
 ·obtain⟨T,hE0⟩:=hG;obtain⟨tl0,aoN⟩:=aoL (.mk tk ln x o ks) c h;have eC:=FC pre (.mk tk ln x o ks,h) (tl0++T) ((K.new (Xl (.mk tk ln x o ks) q)).new (MR h)) W A _ (by rw[<-hE0,aoN];simp) (D.hx hj e0) (hs.mv λb hb=>⟨hb,e0.ob b (hA b hb).1⟩) (λb hb=>⟨by have:=(hA b hb).1;show b<K.nx+1+1;omega,(hA b hb).2.1⟩);unfold qU at eC;refine rn @ax ?_;refine eC.mono λv M ⟨j,cU,Y⟩=> ?_;have eY:K.nx+1+1<=M.nx:=Y.nx;have C:M.ob K.nx= .cells [.int .i64 (tk:Nat), .int .i64 ln, .string (tx x), .int .i64 (o:Nat), .slice q ks.length ks.length] 26 .ex:=(Y.ob K.nx (by show K.nx<K.nx+1+1;omega) (λw=>by have:=qV _ w;omega) id).trans ((bL (by show K.nx≠K.nx+1;omega)).trans iu);have G:M.ob (K.nx+1)= .cells [.int .i64 (h.f:Nat), .bool h.lp, .bool h.hd, .bool h.mb] 69 .ex:=(Y.ob (K.nx+1) (by show K.nx+1<K.nx+1+1;omega) (λw=>by have:=qV _ w;omega) id).trans (iu (K:=K.new _));have BJ:VX (· = bc) W j K M:=(VX.ext e0).trans (Y.up λ_ h=>h.elim);have V : ∀b,j b->W b\/K.nx+2<=b:=Y.w;have Z:M.ob bc= .cells [.int .i64 (c:Nat)] 3 .ex:=(Y.ob bc hV0.lt.2.2 n3 id).trans hV0.c;have X : ∀b,j b->b≠K.nx/\b≠K.nx+1/\b≠bc:=λb hb=>by
   rcases V b hb with h | h
   ·have:=qV b h;exact⟨Om,Om,λe=>n3 (e▸h)⟩
   exact⟨Om,Om,Om⟩
  have y:K.nx≠bc:=by omega
  have t:K.nx+1≠bc:=by omega
  by_cases qc:tk=9
  ·subst qc;obtain⟨a,bk,bl,bx,bo,ms,rfl⟩ : ∃a bk bl bx bo ms,ks= [a, .mk bk bl bx bo ms]:=by
    have h2:ks.length=2:=dw.1.1 (.inl rfl);match ks,h2 with
    | [a, .mk bk bl bx bo ms],_=>exact⟨a,bk,bl,bx,bo,ms,rfl⟩
   have hE:pre++(bu c h (.mk 9 ln x o [a, .mk bk bl bx bo ms])).1++T=E:=hE0;rw[FA] at hE;obtain⟨O,FD⟩ : ∃O,M.set (K.nx+1) (.cells [.int .i64 (h.f:Nat), .bool h.lp, .bool h.hd, .bool false] 69 .ex)=O:=⟨_,rfl⟩;have hna:O.nx=M.nx:=by rw[<-FD];rfl
   have hja:J (pre++ [(.mk 9 ln x o [a, .mk bk bl bx bo ms],h)]) O j:=FD▸D.set cU (λw=>(X _ w).2.1 rfl) _;have Xm:VX (· = bc) W j K O:=FD▸BJ.set (.inl Om) _;have oa1:O.ob K.nx= .cells [.int .i64 ((9:Nat):Int), .int .i64 ln, .string (tx x), .int .i64 (o:Nat), .slice q [a,Nd.mk bk bl bx bo ms].length [a,Nd.mk bk bl bx bo ms].length] 26 .ex:=by rw[<-FD,cO Om];exact C
   have Xn:O.ob (K.nx+1)= .cells [.int .i64 (h.f:Nat), .bool h.lp, .bool h.hd, .bool false] 69 .ex:=by rw[<-FD,br,iP rfl]
   have oac:O.ob bc= .cells [.int .i64 (c:Nat)] 3 .ex:=by rw[<-FD,cO Om];exact Z
   have hVa:VK fs cap bs bc bw O j c:=hV.ex Xm oac;have aoO : ∀b,A b->O.ob b=K.ob b:=λb hb=>Xm.ob b (hA b hb).1 (hA b hb).2.1 (hA b hb).2.2;have hAW : ∀b,A b->¬j b:=λb hb w=>(V b w).elim (hA b hb).2.1 λg=>by have:=(hA b hb).1;omega
   have Xo:=Fz (K:=O) (A:=A) (i:=0) (hs.mv λb hb=>⟨hb,aoO b hb⟩) (λb hb=>by have:=(hA b hb).1;omega) rfl;have aco:c+(cu a+(aZ ms+1)+1)<=2305843009213693952:=by simp only[cu,aZ] at eN;omega
   refine rn (an @C @G) ?_;rw[FD];refine Xo.mono λv2 K2 ⟨l9,e2,bJ,iL⟩=> ?_;subst e2;have j0:=bJ.nx;have Xp:=hVa.hx bJ;obtain⟨ew2,qX⟩:=Xp.w;obtain⟨ew1,vG⟩:=hVa.w;have s7:=(bJ.ob K.nx Om).trans oa1;have IB:=(bJ.ob (K.nx+1) Om).trans Xn;have nV:=Xm.trans (VX.ext bJ);have Ha:=ih a (by simp only[eX,gk] at hN;omega) dw.2.1 (pre++ [(.mk 9 ln x o [a, .mk bk bl bx bo ms],h)]) c h.no K2 j A l9 (iL.mv λb hb=>⟨hb,bJ.ob b (by have:=(hA b hb).1;omega)⟩) (λb hb=>⟨by have:=(hA b hb).1;omega,hAW b hb,(hA b hb).2.2⟩) Xp (D.hx hja bJ) ⟨(iO (bu c h.no a).2 h.no ms).1++T,by rw[<-hE];simp⟩ Om;unfold qU at Ha;refine rn (jz @qX @vG @IB @Xn) ?_;refine Ha.mono λv3 K3 ⟨W3,hj3,ti,IH⟩=> ?_;have pC:=ti.nx;have Rf : ∀b,W3 b->W b\/K.nx+2<=b:=λb hb=>(ti.w b hb).elim (V b) λg=> .inr Om;have hV3:=Xp.ex ti IH;obtain⟨ew3,Ds⟩:=hV3.w;have qY:K3.ob K.nx= .cells [.int .i64 ((9:Nat):Int), .int .i64 ln, .string (tx x), .int .i64 (o:Nat), .slice q [a,Nd.mk bk bl bx bo ms].length [a,Nd.mk bk bl bx bo ms].length] 26 .ex:=(ti.ob K.nx Om (λw=>(X _ w).1 rfl) y).trans s7;have zC:K3.ob (K.nx+1)= .cells [.int .i64 (h.f:Nat), .bool h.lp, .bool h.hd, .bool false] 69 .ex:=(ti.ob (K.nx+1) Om (λw=>(X _ w).2.1 rfl) t).trans IB;have MT:=nV.trans ti;have FE : ∀b,A b->K3.ob b=K.ob b:=λb hb=>MT.ob b (hA b hb).1 (hA b hb).2.1 (hA b hb).2.2;have Xq:=Fz (K:=K3) (A:=A) (i:=1) (hs.mv λb hb=>⟨hb,FE b hb⟩) (λb hb=>by have:=(hA b hb).1;omega) rfl;refine rn (o8 @qX @vG @IB @Xn @qY @zC) ?_;refine Xq.mono λv4 K4 ⟨Me,e4,ep,vB⟩=> ?_;subst e4;obtain⟨q4,rfl,Xr⟩:=iq vB;obtain⟨_,e5,Xs,_,Xt⟩:=lr Xr;cases e5;rw[gE] at Xs;have Br:=ep.nx;have OK:=zA a c h.no;refine aM ?_;refine ef (λn fr d=>VcJ J bc 2305843009213693952 (pre++ [(.mk 9 ln x o [a, .mk bk bl bx bo ms],h)]++(bu c h.no a).1) (bu c h.no a).2 h.no K4 W3 ms n (fr 44) d) (n:=ms.length) ⟨0,(bu c h.no a).2,[],W3,rfl,bR _,by(refine aM ?_;all_goals rfl),by rw[gY];exact D.hx hj3 ep, .ext (ag.refl _),(ep.ob bc Om).trans IH,by rw[gI];omega,rfl⟩ ?_;rintro n rI d ⟨i,c5,es,P,rfl,hi,f44,Dt,I,zr,mj,z⟩ Q;have rU:=I.nx;have zD:=(MT.trans (VX.ext ep)).trans I;have hW5 : ∀b,P b->W b\/K.nx+2<=b:=λb hb=>(I.w b hb).elim (Rf b) λg=> .inr Om
   have Rg : ∀b,P b->b≠K.nx/\b≠K.nx+1/\b≠bc/\b<d.nx:=λb hb=>by
    have aU:=D.lt _ _ _ Dt b hb;rcases hW5 b hb with h | h
    ·have:=qV b h;exact⟨Om,Om,λe=>n3 (e▸h),aU⟩
    exact⟨Om,Om,Om,aU⟩
   have hq3 : ∀b,W3 b->b≠K.nx/\b≠K.nx+1:=λb hb=>by
    rcases Rf b hb with h | h
    ·have:=qV b h;exact⟨Om,Om⟩
    exact⟨Om,Om⟩
   have BL : ∀b,A b->d.ob b=K.ob b:=λb hb=>zD.ob b (hA b hb).1 (hA b hb).2.1 (hA b hb).2.2;have Du:VK fs cap bs bc bw d P c5:=(hV3.hx ep).ex I zr;obtain⟨ew5,si⟩:=Du.w;obtain⟨es5,WQ⟩:=Du.s;obtain⟨l51,l52,l53⟩:=Du.lt;have MU:d.ob (K.nx+1)= .cells [.int .i64 (h.f:Nat), .bool h.lp, .bool h.hd, .bool false] 69 .ex:=(I.ob (K.nx+1) Om (λw=>(hq3 _ w).2 rfl) t).trans ((ep.ob _ Om).trans zC);by_cases L:i<ms.length
   ·obtain⟨m,hm⟩ : ∃m,ms[i]? = some m:=⟨_,cj L⟩;obtain⟨b,cs,e,kd,fM,hb,ob,eg,pO,aoP,aW⟩:=Xt i m hm;subst fM;have aW:bK K3 A (cF m) (DX 5 (List.drop (i*5) cs)):=aW;have jr:=(BL b hb).trans ((FE b hb).symm.trans ob);have fL:=fD hm;have jH:ms.drop i=m::ms.drop (i+1):=by
     obtain⟨_,e⟩:=List.getElem?_eq_some_iff.1 hm;rw[mz L,e]
    have QP:cu m+aZ (ms.drop (i+1))=aZ (ms.drop i):=by rw[jH];rfl
    have BM:nS m:=MP dw.2.2.1.2 fL;have zE:bK K A (cF m) (DX 5 (List.drop (i*5) cs)):=aW.mv λb hb=>⟨hb,(FE b hb).symm⟩;have FF:eX m<=N:=by
     have:=BE fL;simp only[eX,gk] at hN;omega
    obtain⟨mk,ml,mx,u,cI⟩:=m;obtain⟨mq,dt,zF⟩:=iq zE;rw[dt] at aW zE;have Dv:pre++ [(.mk 9 ln x o [a, .mk bk bl bx bo ms],h)]++(bu c h.no a).1++es++(iO c5 h.no (ms.drop i)).1++T=E:=by rw[<-hE,z];simp
    obtain⟨B,U⟩ : ∃B,(((d.new (.cells [.int .i64 0, .int .i64 0, .string ⟨⟨[]⟩⟩, .int .i64 0, .slice none 0 0] 26 .ex)).set d.nx (.cells [.int .i64 (mk:Nat), .int .i64 ml, .string (tx mx), .int .i64 (u:Nat), .slice mq cI.length cI.length] 26 .ex)).new (.cells [.int .i64 0, .bool false, .bool false, .bool false] 69 .ex)).set (d.nx+1) (.cells [.int .i64 (h.f:Nat), .bool h.lp, .bool h.hd, .bool true] 69 .ex)=B:=⟨_,rfl⟩;have R:ag d B:=by rw[<-U];exact((((ag.refl d).new _).set (ai _) _).new _).set Om _
    have BN:B.nx=d.nx+2:=by rw[<-U];rfl
    have Dw:B.ob d.nx= .cells [.int .i64 (mk:Nat), .int .i64 ml, .string (tx mx), .int .i64 (u:Nat), .slice mq cI.length cI.length] 26 .ex:=by
     rw[<-U,cO Om,bL (by show d.nx≠d.nx+1;omega),br,iP rfl]
    have FG:=Du.hx R;have odb:=(R.ob (K.nx+1) Om).trans MU;have Rh:=D.hx Dt R;have S : ∀b,A b->b<B.nx/\¬P b/\b≠bc:=λb hb=>⟨by have:=(hA b hb).1;omega,λw=>(hW5 b w).elim (hA b hb).2.1 λg=>by have:=(hA b hb).1;omega,(hA b hb).2.2⟩;have Xu : ∀b,A b->B.ob b=K.ob b:=λb hb=>(R.ob b (by have:=(hA b hb).1;omega)).trans (BL b hb);by_cases h3:mk=3
    ·subst h3;obtain⟨p,v,r,rfl⟩ : ∃p v r,cI=p::v::r:=by
      have h2:2<=cI.length:=BM.1.2 rfl;match cI,h2 with
      | p::v::r,_=>exact⟨p,v,r,rfl⟩
     rw[jH,Rd] at Dv z;have aeA:=FC _ (.mk 3 ml mx u (p::v::r),h.no.me) ((bu c5 h.no v).1++((iO (bu c5 h.no v).2 h.no (ms.drop (i+1))).1++T)) B P A _ (by simpa using Dv) Rh (zE.mv λb hb=>⟨hb,Xu b hb⟩) (λb hb=>⟨(S b hb).1,(S b hb).2.1⟩);unfold qU at aeA;refine rn (qz @Q @f44 @jr @dt @WQ @si @MU @ba) ?_;simp only[bN] at U Dw;rw[U];refine aeA.mono λv6 K6 ⟨W6,hj6,pF⟩=> ?_;have hn6:=pF.nx;have hV6:VK fs cap bs bc bw K6 W6 c5:=FG.ex (pF.up λ_ g=>g.elim) ((pF.ob bc FG.lt.2.2 FG.nw.2.2 id).trans FG.c);have ob6:=(pF.ob d.nx Om (λw=>by have:=(Rg _ w).2.2.2;omega) id).trans Dw;have Xv:=(pF.ob (K.nx+1) Om (λw=>(Rg _ w).2.1 rfl) id).trans odb;have aoQ : ∀b,A b->K6.ob b=K.ob b:=λb hb=>(pF.ob b (S b hb).1 (S b hb).2.1 id).trans (Xu b hb);obtain⟨ew6,yd⟩:=hV6.w;have Xw:=Fz (K:=K6) (A:=A) (i:=1) (zE.mv λb hb=>⟨hb,aoQ b hb⟩) (λb hb=>by have:=(S b hb).1;omega) rfl;refine rn (an @Q @ob6) ?_;refine Xw.mono λv7 K7 ⟨Xx,e7,kA,Xy⟩=> ?_;subst e7;have hn7:=kA.nx;have hV7:=hV6.hx kA;obtain⟨ew7,ye⟩:=hV7.w;have od7:=(kA.ob (K.nx+1) Om).trans Xv;have J':cu v+aZ (ms.drop (i+1))+cu p+aZ r+1<=aZ (ms.drop i):=by simp only[cu,aZ] at QP;omega
     have rv:=ih v (by simp only[eX,gk] at FF;omega) BM.2.2.1 _ c5 h.no K7 W6 A Xx (Xy.mv λb hb=>⟨hb,kA.ob b (by have:=(S b hb).1;omega)⟩) (λb hb=>⟨by have:=(S b hb).1;omega,λw=>(pF.w b w).elim (S b hb).2.1 λg=>by have:=(S b hb).1;omega,(S b hb).2.2⟩) hV7 (D.hx hj6 kA) ⟨(iO (bu c5 h.no v).2 h.no (ms.drop (i+1))).1++T,by simpa using Dv⟩ Om;unfold qU at rv;refine rn (jL @Q @yd @ye @Xv @od7) ?_;refine rv.mono λv8 K8 ⟨W8,MV,BO,wU⟩=> ?_;have uc:=zA v c5 h.no;refine rn (o8 @Q @f44 @yd @ye @Xv @od7) ?_;refine⟨ms.length-(i+1),Om,i+1,(bu c5 h.no v).2,es++((.mk 3 ml mx u (p::v::r),h.no.me)::(bu c5 h.no v).1),W8,rfl,L,rfl,?_,(((I.trans (VX.ext R)).trans (pF.up λ_ g=>g.elim)).trans (VX.ext kA)).trans BO,wU,Om,?_⟩;·simpa using MV
     rw[z];simp
    have mh : ¬((Nd.mk mk ml mx u cI).kind=3/\2<=(Nd.mk mk ml mx u cI).kids.length):=λe=>h3 e.1;rw[jH,Re mh] at Dv z;have zG:=ih (.mk mk ml mx u cI) FF BM _ c5 h.no.me B P A _ (zE.mv λb hb=>⟨hb,Xu b hb⟩) S FG Rh ⟨(iO (bu c5 h.no.me (.mk mk ml mx u cI)).2 h.no (ms.drop (i+1))).1++T,by simpa using Dv⟩ Om;unfold qU at zG;refine rn (qz @Q @f44 @jr @dt @WQ @si @MU @ba) ?_;rw[U];refine zG.mono λv8 K8 ⟨W8,MV,BO,wU⟩=> ?_;have uc:=zA (.mk mk ml mx u cI) c5 h.no.me;refine rn (an @Q @f44) ?_;refine⟨ms.length-(i+1),Om,i+1,(bu c5 h.no.me (.mk mk ml mx u cI)).2,es++(bu c5 h.no.me (.mk mk ml mx u cI)).1,W8,rfl,L,rfl,?_,(I.trans (VX.ext R)).trans BO,wU,Om,?_⟩;·simpa using MV
    rw[z];simp
   have L:i=ms.length:=by omega
   subst L;rw[yu,Rc,gY] at z;refine rn (an @Q @f44) ?_;refine .inr ⟨rfl,?_⟩;refine aM ?_;refine⟨P,?_,zD,?_⟩
   ·rw[FA,z];simpa using Dt
   rw[FA,z];exact zr
  by_cases h8:tk=8\/tk=50
  ·rcases h8 with rfl | rfl
   all_goals
    refine rn (jL @C @G @Z @y @t) ?_;refine .inl ⟨rfl,by(exact aV;all_goals rfl),by(exact aV;all_goals rfl),by(exact aV;all_goals rfl),by(exact aV;all_goals rfl),by(exact aV;all_goals rfl),(λe=>(by cases e)),j,D.st _ M _ j cU (ai _) (λb hb=>by have:=X b hb;(repeat rw[cO Om])),?_,eY,V,?_,?_,?_⟩;·repeat (first | exact BJ | refine VX.set ?_ (by first | exact .inr rfl | (left;omega)) _)
    ·refine rn (an @y @t) ?_;all_goals rfl
    ·refine rn (gS @C @y @t) ?_;all_goals rfl
    refine rn (an @y @t) ?_;all_goals rfl
  have WI : ∀b1 b2,decide (tk=6\/tk=7)=b1->decide (tk=21)=b2->uh tk (c+1) h=⟨h.f,b1||h.lp,b2||h.hd,false⟩:=λb1 b2 g1 g2=>by
   unfold uh;rw[iN h8,g1,g2]
  by_cases h6:tk=6\/tk=7
  ·rcases h6 with rfl | rfl
   all_goals
    refine rn (jL @C @G @Z @y @t) ?_;refine .inl ⟨rfl,by(exact aV;all_goals rfl),by(exact aV;all_goals rfl),by(exact aV;all_goals rfl),by(exact aV;all_goals rfl),by(exact aV;all_goals rfl),(λe=>(by cases e)),j,D.st _ M _ j cU (ai _) (λb hb=>by have:=X b hb;(repeat rw[cO Om])),?_,eY,V,?_,?_,?_⟩;·repeat (first | exact BJ | refine VX.set ?_ (by first | exact .inr rfl | (left;omega)) _)
    ·refine rn (gS @Z @y @t) ?_;all_goals rfl
    ·refine rn (gS @C @y @t) ?_;all_goals rfl
    refine rn (an @y @t) ?_;all_goals rfl
  by_cases Ii:tk=21
  ·subst Ii;refine rn (jL @C @G @Z @y @t) ?_;refine .inl ⟨rfl,by(exact aV;all_goals rfl),by(exact aV;all_goals rfl),by(exact aV;all_goals rfl),by(exact aV;all_goals rfl),by(exact aV;all_goals rfl),(λe=>(by cases e)),j,D.st _ M _ j cU (ai _) (λb hb=>by have:=X b hb;(repeat rw[cO Om])),?_,eY,V,?_,?_,?_⟩;·repeat (first | exact BJ | refine VX.set ?_ (by first | exact .inr rfl | (left;omega)) _)
   ·refine rn (gS @Z @y @t) ?_;all_goals rfl
   ·refine rn (gS @C @y @t) ?_;all_goals rfl
   refine rn (an @y @t) ?_;all_goals rfl
  refine rn (jL @C @G @Z @y @t) ?_;refine .inl ⟨rfl,by(exact aV;all_goals rfl),by(exact aV;all_goals rfl),by(exact aV;all_goals rfl),by(exact aV;all_goals rfl),by(exact aV;all_goals rfl),qc,j,D.st _ M _ j cU (ai _) (λb hb=>by have:=X b hb;(repeat rw[cO Om])),?_,eY,V,?_,?_,?_⟩;·repeat (first | exact BJ | refine VX.set ?_ (by first | exact .inr rfl | (left;omega)) _)
  ·show _=dD.cells [.int .i64 ((if tk=8\/tk=50 then c+1 else c:Nat):Int)] 3 .ex;rw[iN h8];exact rz (gS @Z @y @t)
  ·refine rn (gS @C @y @t) ?_;all_goals rfl
  show _=MR (uh tk (c+1) h);rw[WI false false (decide_eq_false h6) (decide_eq_false Ii)];exact rz (an @y @t);all_goals rfl
 rintro x1 fr H (⟨rfl,f2,f3,f4,f5,f6,qc,j,cU,Y,eY,V,qY,C,G⟩ | ⟨rfl,g⟩);case inr=>exact g
 have qc:tk≠9:=qc;have C:H.ob K.nx= .cells [.int .i64 (tk:Nat), .int .i64 ln, .string (tx x), .int .i64 (o:Nat), .slice q ks.length ks.length] 26 .ex:=C;obtain⟨h',hh'⟩ : ∃h',uh tk (c+1) h=h':=⟨_,rfl⟩;obtain⟨c',Eb⟩ : ∃c',(if tk=8\/tk=50 then c+1 else c)=c':=⟨_,rfl⟩;have qY:H.ob bc= .cells [.int .i64 ((if tk=8\/tk=50 then c+1 else c:Nat):Int)] 3 .ex:=qY;have G:H.ob (K.nx+1)=MR (uh tk (c+1) h):=G;have hvn:=IF (c:=c) (h:=h) (l:=ln) (x:=x) (o:=o) (ks:=ks) qc;rw[Eb,hh'] at hvn;rw[Eb] at qY;rw[hh'] at G;have G:H.ob (K.nx+1)= .cells [.int .i64 (h'.f:Nat), .bool h'.lp, .bool h'.hd, .bool h'.mb] 69 .ex:=G;have yK:c'+aZ ks<=2305843009213693952:=by rw[<-Eb];split<;>omega
 obtain⟨T,hE⟩:=hG;rw[hvn] at hE⊢;rw[cE];refine rn (o8 @f2 @f3 @f4 @f5 @f6 @C) ?_;refine ef (λn fr d=>VkJ J bc 2305843009213693952 (pre++ [(.mk tk ln x o ks,h)]) c' h' H j ks n (fr 70) d) (n:=ks.length) ⟨0,c',[],j,rfl,bR _,by(refine aM ?_;all_goals rfl),by rw[gY];exact cU, .ext (ag.refl _),qY,yK,rfl⟩ ?_;rintro n rI d ⟨i,c5,es,P,rfl,hi,f70,Dt,I,zr,mj,z⟩ Q;have rU:=I.nx;have zD:=Y.trans I;have t:K.nx+1≠bc:=by omega
 have X : ∀b,j b->b≠K.nx+1:=λb hb=>by
  rcases V b hb with h | h
  ·have:=qV b h;omega
  omega
 have Du:VK fs cap bs bc bw d P c5:=hV.ex zD zr;obtain⟨ew5,si⟩:=Du.w;obtain⟨l51,l52,l53⟩:=Du.lt;have BL : ∀b,A b->d.ob b=K.ob b:=λb hb=>zD.ob b (hA b hb).1 (hA b hb).2.1 (hA b hb).2.2;have MU:=(I.ob (K.nx+1) Om (λw=>X _ w rfl) t).trans G;by_cases L:i<ks.length
 ·obtain⟨m,hm⟩ : ∃m,ks[i]? = some m:=⟨_,cj L⟩;obtain⟨b,cs,e,kd,fM,hb,ob,eg,pO,aoP,aW⟩:=fq i m hm;have jr:=(BL b hb).trans ob;have fL:=fD hm;have jH:ks.drop i=m::ks.drop (i+1):=by
   obtain⟨_,e⟩:=List.getElem?_eq_some_iff.1 hm;rw[mz L,e]
  have QP:cu m+aZ (ks.drop (i+1))=aZ (ks.drop i):=by rw[jH];rfl
  have BM:nS m:=MP dw.2 fL;have FF:eX m<=N:=by
   have:=BE fL;simp only[eX] at hN;omega
  have Dv:pre++ [(.mk tk ln x o ks,h)]++es++(pE c5 h' (ks.drop i)).1++T=E:=by rw[<-hE,z];simp
  rw[jH,IG] at Dv z;obtain⟨mk,ml,mx,u,cI⟩:=m;obtain⟨mq,dt,zF⟩:=iq aW;rw[dt] at aW;obtain⟨B,U⟩ : ∃B,(d.new (.cells [.int .i64 0, .int .i64 0, .string ⟨⟨[]⟩⟩, .int .i64 0, .slice none 0 0] 26 .ex)).set d.nx (.cells [.int .i64 (mk:Nat), .int .i64 ml, .string (tx mx), .int .i64 (u:Nat), .slice mq cI.length cI.length] 26 .ex)=B:=⟨_,rfl⟩;have R:ag d B:=U▸((ag.refl d).new _).set (ai _) _;have BN:B.nx=d.nx+1:=by rw[<-U];rfl
  have FG:=Du.hx R;have Rh:=D.hx Dt R;have zG:=ih (.mk mk ml mx u cI) FF BM _ c5 h' B P A _ (aW.mv λb hb=>⟨hb,(R.ob b (by have:=(hA b hb).1;omega)).trans (BL b hb)⟩) (λb hb=>⟨by have:=(hA b hb).1;omega,λw=>(zD.w b w).elim (hA b hb).2.1 λg=>by have:=(hA b hb).1;omega,(hA b hb).2.2⟩) FG Rh ⟨(pE (bu c5 h' (.mk mk ml mx u cI)).2 h' (ks.drop (i+1))).1++T,by simpa using Dv⟩ Om;unfold qU at zG;refine rn (Ce @Q @f4 @f6 @f70 @fM @jr @dt @si @MU @ba) ?_;rw[U];refine zG.mono λv8 K8 ⟨W8,MV,BO,wU⟩=> ?_;have uc:=zA (.mk mk ml mx u cI) c5 h';refine rn (an @Q @f70) ?_;refine⟨ks.length-(i+1),Om,i+1,(bu c5 h' (.mk mk ml mx u cI)).2,es++(bu c5 h' (.mk mk ml mx u cI)).1,W8,rfl,L,rfl,?_,(I.trans (VX.ext R)).trans BO,wU,Om,?_⟩;·simpa using MV
  rw[z];simp
 have L:i=ks.length:=by omega
 subst L;rw[yu,MS,gY] at z;refine rn (an @Q @f70) ?_;refine⟨P,?_,zD,?_⟩
 ·rw[z];simpa using Dt
 rw[z];exact zr
theorem aeB{fs:aS}{cap:List ae}{E:List Ev}{J:JT}{bs bc bw:Nat}(a:zz J)(b:Dr fs cap E J) : ∀N,Xk fs cap E J bs bc bw N
 | 0=>λt h=>by cases t;simp[eX] at h
 | N+1=>aoM a b (aeB a b N)
abbrev gL:Wh:=⟨0,false,false,false⟩
theorem aeC{fs:aS}{cap:List ae}{E:List Ev}{J:JT}(a:zz J)(l:Dr fs cap E J){t:Nd}(hh:eX t<=1000)(m:nS t)(hz:cu t<=2305843009213693952){pre:List Ev}(n : ∃rest,pre++(bu 0 gL t).1++rest=E){K:CH}{W A:Nat->Prop}{os:List ae}(hs:bK K A (cF t) os)(hA : ∀b,A b->b<K.nx/\¬W b)(i:J pre K W):aQ gH 32 [.agg os.toArray, .func (.func fs) #[] cap.toArray] K λ_ K'=>∃W',J (pre++(bu 0 gL t).1) K' W'/\VX nU W W' K K':=by
 obtain⟨nt,j⟩:=qN hs;have o:os.length=5:=by rw[j];rfl
 have r:os.all a8=true:=by rw[j];rfl
 have s:DX 5 os=os:=ux Om;have c:=a.lt pre K W i;refine dq Rl Kr (aK ?_);refine rn (gS @o @r @s) ?_;refine(aeB (bs:=K.nx+1) (bc:=K.nx+1+1) (bw:=K.nx+1+1+1) a l 1000 t hh m pre 0 gL _ W A os (hs.mv λb hb=>⟨hb,by have:=(hA b hb).1;exact aV⟩) (λb hb=>⟨cQ (hA b hb).1 Fo,(hA b hb).2,by have:=(hA b hb).1;omega⟩) ⟨⟨_,by(refine aM ?_;all_goals rfl)⟩,⟨_,by(refine aM ?_;all_goals rfl)⟩,by(refine aM ?_;all_goals rfl),⟨Fo,Fo,Fo⟩,λw=>by have:=c _ w;omega,λw=>by have:=c _ w;omega,λw=>by have:=c _ w;omega⟩ (a.hx i (by(repeat (first | assumption | exact ag.refl _ | (refine ag.set ?_ Fo _) | (refine ag.new ?_ _))))) n Om).mono λv z ⟨u,d,x,_⟩=> ?_;refine aM ?_;have y:ag K ((((((K.new (.cells os 26 .ex)).new (.cells [.func (.func fs) #[] cap.toArray] 71 .ex)).new (.cells [.int .i64 0] 3 .ex)).set (K.nx+1+1) (.cells [.int .i64 0] 3 .ex)).new (.cells [.nilFunc] 71 .ex)).set (K.nx+1+1+1) (.cells [.func (.func 58) #[] #[pN (K.nx+1),pN (K.nx+1+1),pN (K.nx+1+1+1)]] 71 .ex)):=by(repeat (first | assumption | exact ag.refl _ | (refine ag.set ?_ Fo _) | (refine ag.new ?_ _)))
 have g:=(VX.ext (X:=(· = K.nx+1+1)) (W:=W) y).trans x;exact⟨u,d,⟨g.nx,λb hb hw _=>g.ob b hb hw Om,g.w⟩⟩
def uk (s:Bs):List (Bs×Int)->Nat->Option (Nat×Int)
 | [],_=>none
 | p::L,j=>if s=p.1 then some (j,p.2) else uk s L (j+1)
def zH (L:List (Bs×Int))(s:Bs):Int:=((uk s L 0).map Prod.snd).getD 0
def MW (l:List qp)(L:List (Bs×Int)):Prop:=l.map (λe=>(e.key,e.val))=L.map λp=>(Value.string (tx p.1),Value.int .i64 p.2)
theorem Xz{s:Bs} : ∀ {l:List qp} {L:List (Bs×Int)} {j:Nat},MW l L->uM 1 (.string (tx s)) l j=some ((uk s L j).map λq=>(q.1, .int .i64 q.2))
 | [],[],j,_=>rfl
 | [],p::L,j,h=>by cases h
 | e::l,[],j,h=>by cases h
 | e::l,p::L,j,h=>by
   simp only[MW,c8,List.cons.injEq,Prod.mk.injEq] at h;obtain⟨⟨h1,h2⟩,h3⟩:=h;have hs:Ee 1 (.string (tx s)) e.key=some (decide (s=p.1)):=by
    rw[h1];have a:(tx s==tx p.1)=((⟨s⟩:Array UInt8)==⟨p.1⟩):=rfl;show some (tx s==tx p.1)=_;rw[a];by_cases e:s=p.1
    ·rw[e];simp
    have:(⟨s⟩:Array UInt8)≠⟨p.1⟩:=λh=>e (congrArg Array.toList h);rw[decide_eq_false e];simp[this,e]
   rw[uM,hs,uk];by_cases hp:s=p.1
   ·simp only[hp,decide_true,iT,dC];rw[h2]
   simp only[decide_eq_false hp,iN hp];exact Xz h3
theorem XA{s:Bs} : ∀ {L:List (Bs×Int)} {j:Nat},((uk s L j).map Prod.snd).getD 0=zH L s
 | [],_=>rfl
 | p::L,j=>by
   unfold zH;simp only[uk];by_cases h:s=p.1
   ·simp only[iP h];rfl
   simp only[iN h];exact XA.trans XA.symm
theorem FH{p:Bs×Int}{L:List (Bs×Int)}{y:Bs}:zH (p::L) y=if y=p.1 then p.2 else zH L y:=by
 show((uk y (p::L) 0).map Prod.snd).getD 0=_;rw[uk];by_cases h:y=p.1
 ·simp[h]
 simp only[iN h];exact XA
theorem aeD{s:Bs}{n:Int} : ∀ {L:List (Bs×Int)} {j:Nat},uk s L j=none->∀y,zH (L++ [(s,n)]) y=if y=s then n else zH L y
 | [],_,_,y=>by
   rw[ju,FH]
 | p::L,j,h,y=>by
   rw[uk] at h;split at h;·cases h
   rename_i hp;rw[gZ,FH,FH,aeD h y];by_cases h1:y=p.1
   ·have:y≠s:=λe=>hp (e▸h1);rw[iP h1,iN this,iP h1]
   rw[iN h1,iN h1]
theorem aeE{s:Bs}{n:Int} : ∀ {L:List (Bs×Int)} {j i:Nat} {v:Int},uk s L j=some (i,v)->j<=i/\i-j<L.length/\∀y,zH (L.modify (i-j) λ_=>(s,n)) y=if y=s then n else zH L y
 | [],_,_,_,h=>by cases h
 | p::L,j,i,v,h=>by
   rw[uk] at h;split at h
   ·rename_i hp;cases h;refine⟨ai _,Sm,λy=> ?_⟩;rw[Gq,List.modify_zero_cons,FH,FH];by_cases h1:y=s
    ·rw[iP h1,iP h1]
    rw[iN h1,iN h1,iN (λe=>h1 (e.trans hp.symm))]
   rename_i hp;obtain⟨h1,h2,h3⟩:=aeE h;refine⟨Om,Sq,λy=> ?_⟩;have e:i-j=(i-(j+1))+1:=by omega
   rw[e,List.modify_succ_cons,FH,FH,h3 y];by_cases h4:y=p.1
   ·have:y≠s:=λe=>hp (e▸h4);rw[iP h4,iN this,iP h4]
   rw[iN h4,iN h4]
def gM (K:CH)(m:Nat)(ρ:Bs->Int):Prop:=∃(es:Array qp) (c:Nat) (L:List (Bs×Int)),K.ob m= .map es c/\MW es.toList L/\∀y,zH L y=ρ y
theorem gM.nil{K:CH}{m:Nat}(h:K.ob m= .map #[] 0):gM K m λ_=>0:=⟨#[],0,[],h,rfl,λ_=>rfl⟩
theorem gM.ext{K K':CH}{m:Nat}{ρ:Bs->Int}(h:gM K m ρ)(e:K'.ob m=K.ob m):gM K' m ρ:=by
 obtain⟨es,c,L,h1,h2,h3⟩:=h;exact⟨es,c,L,e.trans h1,h2,h3⟩
theorem gM.lk{K:CH}{m:Nat}{ρ:Bs->Int}(h:gM K m ρ)(s:Bs):uO 1 (.int .i64 0) false (.string (tx s)) (K.ob m)=some (.int .i64 (ρ s)):=by
 obtain⟨es,c,L,h1,h2,h3⟩:=h;rw[h1];show uN _ _ (uM 1 (.string (tx s)) es.toList 0)=_;rw[Xz h2,<-h3 s];unfold zH;cases uk s L 0<;>rfl
theorem gM.up{K:CH}{m:Nat}{ρ:Bs->Int}(h:gM K m ρ)(s:Bs)(n:Int) : ∃o,(∀H:CH,yD 1 m (.string (tx s)) (.int .i64 n) H (K.ob m)=some (undef,H.set m o))/\∀K':CH,K'.ob m=o->gM K' m λy=>if y=s then n else ρ y:=by
 obtain⟨es,c,L,h1,h2,h3⟩:=h;rw[h1];have e : ∀H:CH,yD 1 m (.string (tx s)) (.int .i64 n) H (.map es c)=(match uM 1 (.string (tx s)) es.toList 0 with
  | some (some (i,_))=>some (undef,H.set m (.map (es.modify i λe=> { e with key:= .string (tx s),val:= .int .i64 n }) c))
  | some none=>some (undef,H.set m (.map (es.push { key:= .string (tx s),val:= .int .i64 n,born:=c }) (c+1)))
  | none=>none):=by
  intro H;have hc:isKey 1 (.string (tx s))=true/\isVal (.int .i64 n)=true:=⟨rfl,rfl⟩;simp only[yD];rw[iP hc];cases uM 1 (.string (tx s)) es.toList 0 with
  | none=>rfl
  | some o=>cases o<;>rfl
 simp only[e,Xz h2];cases a:uk s L 0 with
 | none=>
   refine⟨_,λ_=>rfl,λK' e=>⟨_,_,L++ [(s,n)],e,?_,λy=> ?_⟩⟩;·unfold MW at h2⊢;simp[h2]
   rw[aeD a y,h3 y]
 | some q=>
   obtain⟨i,v⟩:=q;obtain⟨_,g2,g3⟩:=aeE (n:=n) a;rw[Nat.sub_zero] at g2 g3;refine⟨_,λ_=>rfl,λK' e=>⟨_,_,L.modify i λ_=>(s,n),e,?_,λy=> ?_⟩⟩
   ·unfold MW at h2⊢;rw[Array.toList_modify];have hl:es.toList.length=L.length:=by have:=congrArg List.length h2;simpa using this
    apply DV;intro j;have b:=congrArg (λl=>l[j]?) h2;simp only[ka] at b⊢;simp only[xh];by_cases d:i=j
    ·subst d;have Cx:i<es.toList.length:=by omega
     simp only[iP rfl];rw[cj Cx,cj g2];rfl
    simp only[iN d];simpa using b
   rw[g3 y,h3 y]
abbrev Ow:=Nat->Option (Nat×Nat)
def mf (L:List Bs):Bs->Int:=λy=>if y∈L then 1 else 0
def iQ (K:CH)(ow:Ow)(a:Nat×Nat)(v:ae)(xs:List Bs):Prop:=(xs= []/\v= .slice none 0 0)\/∃r kd,v= .slice (some ⟨r,0,none⟩) xs.length xs.length/\ow r=some a/\r<K.nx/\K.ob r= .cells (xs.flatMap fU) 9 kd/\kd.bY=false
def ul (mp:Bool)(K:CH)(ow:Ow)(a:Nat×Nat)(v:ae)(L:List Bs):Prop:=if mp=true then ∃m,v= .map (some m)/\ow m=some a/\m<K.nx/\gM K m (mf L) else v= .map none
structure pG(ow cf:Ow)(K K':CH):Prop where
 nx:K.nx<=K'.nx
 ow : ∀b,b<K.nx->cf b=ow b
theorem pG.refl{ow:Ow}{K K':CH}(h:K.nx<=K'.nx):pG ow ow K K':=⟨h,λ_ _=>rfl⟩
theorem iQ.mv{K K':CH}{ow cf:Ow}{a:Nat×Nat}{v:ae}{xs:List Bs}(h:iQ K ow a v xs)(hx:pG ow cf K K')(ho : ∀b,b<K.nx->ow b=some a->K'.ob b=K.ob b):iQ K' cf a v xs:=by
 rcases h with h | ⟨r,kd,h1,h2,h3,h4,h5⟩
 ·exact .inl h
 exact .inr ⟨r,kd,h1,(hx.ow r h3).trans h2,cQ h3 hx.nx,(ho r h3 h2).trans h4,h5⟩
theorem ul.mv{mp:Bool}{K K':CH}{ow cf:Ow}{a:Nat×Nat}{v:ae}{L:List Bs}(h:ul mp K ow a v L)(hx:pG ow cf K K')(ho : ∀b,b<K.nx->ow b=some a->K'.ob b=K.ob b):ul mp K' cf a v L:=by
 unfold ul at h⊢;split at h;·rename_i c;rw[iP c];obtain⟨m,h1,h2,h3,h4⟩:=h;exact⟨m,h1,(hx.ow m h3).trans h2,cQ h3 hx.nx,h4.ext (ho m h3 h2)⟩
 rename_i c;rw[iN c];exact h
def um (n:Nat):CH:= { nx:=n,ob:=λ_=> .dead }
theorem iQ.gr{K:CH}{ow:Ow}{a:Nat×Nat}{v:ae}{xs:List Bs}(h:iQ K ow a v xs):Dq (um 0) K v xs:=by
 rcases h with ⟨h1,h2⟩ | ⟨r,kd,h1,h2,h3,h4,h5⟩
 ·exact .inl ⟨h1,h2⟩
 exact .inr ⟨r,kd,h1,bR _,h3,h4,h5⟩
theorem iQ.off{K:CH}{ow:Ow}{a:Nat×Nat}{v:ae}{xs:List Bs}(h:iQ K ow a v xs){b:Nat}(hb:ow b≠some a):ir v b:=λo n c e=>by
 rcases h with ⟨_,h2⟩ | ⟨r,kd,h1,h2,h3,h4,h5⟩
 ·rw[h2] at e;cases e
 rw[h1] at e;cases e;exact hb h2
structure Ri(mp:Bool)(K:CH)(ow:Ow)(i:Nat)(F:al)(vp vl vc vf m1 m2 m3:ae):Prop where
 p:iQ K ow (i,1) vp F.ps
 l:iQ K ow (i,2) vl F.ls
 c:iQ K ow (i,3) vc F.cs
 f:iQ K ow (i,4) vf F.fs
 b:ul mp K ow (i,5) m1 (F.ps++F.ls)
 g:ul mp K ow (i,6) m2 F.g
 o:ul mp K ow (i,7) m3 F.o
def FI (mp:Bool)(K:CH)(ow:Ow)(i b:Nat)(F:al):Prop:=ow b=some (i,0)/\b<K.nx/\∃vp vl vc vf m1 m2 m3,K.ob b= .cells [.string (tx F.nm), .int .i64 F.par,vp,vl,vc,vf, .bool F.gen,m1,m2,m3] 75 .ex/\Ri mp K ow i F vp vl vc vf m1 m2 m3
theorem Ri.mv{mp:Bool}{K K':CH}{ow cf:Ow}{i:Nat}{F:al}{vp vl vc vf m1 m2 m3:ae}(h:Ri mp K ow i F vp vl vc vf m1 m2 m3)(hx:pG ow cf K K')(ho : ∀b j,b<K.nx->ow b=some (i,j)->1<=j/\j<=7->K'.ob b=K.ob b):Ri mp K' cf i F vp vl vc vf m1 m2 m3:=
 ⟨h.p.mv hx λb h1 h2=>ho b _ h1 h2 de,h.l.mv hx λb h1 h2=>ho b _ h1 h2 de,h.c.mv hx λb h1 h2=>ho b _ h1 h2 de,h.f.mv hx λb h1 h2=>ho b _ h1 h2 de,h.b.mv hx λb h1 h2=>ho b _ h1 h2 de,h.g.mv hx λb h1 h2=>ho b _ h1 h2 de,h.o.mv hx λb h1 h2=>ho b _ h1 h2 de⟩
theorem FI.mv{mp:Bool}{K K':CH}{ow cf:Ow}{i b:Nat}{F:al}(h:FI mp K ow i b F)(hx:pG ow cf K K')(ho : ∀b j,b<K.nx->ow b=some (i,j)->j<=7->K'.ob b=K.ob b):FI mp K' cf i b F:=by
 obtain⟨h1,h2,vp,vl,vc,vf,m1,m2,m3,h3,h4⟩:=h;exact⟨(hx.ow b h2).trans h1,cQ h2 hx.nx,vp,vl,vc,vf,m1,m2,m3,(ho b 0 h2 h1 de).trans h3,h4.mv hx λb j g1 g2 g3=>ho b j g1 g2 g3.2⟩
structure XB(mp:Bool)(K:CH)(ow:Ow)(fns:List al)(bs:List Nat):Prop where
 len:bs.length=fns.length
 get : ∀i F b,fns[i]? = some F->bs[i]? = some b->FI mp K ow i b F
def jR (mp:Bool)(K:CH)(ow:Ow)(v:ae)(fns:List al)(bs:List Nat):Prop:=∃q kd,v= .slice (some ⟨q,0,none⟩) bs.length bs.length/\ow q=some (0,9)/\q<K.nx/\K.ob q= .cells (bs.flatMap λb=> [pN b]) 73 kd/\kd.bY=false/\XB mp K ow fns bs
theorem jR.mv{mp:Bool}{K K':CH}{ow cf:Ow}{v:ae}{fns:List al}{bs:List Nat}(h:jR mp K ow v fns bs)(hx:pG ow cf K K')(ho : ∀b,b<K.nx->ow b≠none->K'.ob b=K.ob b):jR mp K' cf v fns bs:=by
 obtain⟨q,kd,h1,h2,h3,h4,h5,a⟩:=h;exact⟨q,kd,h1,(hx.ow q h3).trans h2,cQ h3 hx.nx,(ho q h3 (by rw[h2];simp)).trans h4,h5,a.len,λi F b g1 g2=>(a.get i F b g1 g2).mv hx λb j c d _=>ho b c (by rw[d];simp)⟩
theorem Dx{L:List Bs}{s:Bs}:(λy=>if y=s then 1 else mf L y)=mf (L++ [s]):=by
 funext y
 unfold mf;by_cases h:y=s
 ·simp[h]
 by_cases h2:y∈L<;>simp[h,h2]
theorem BP{fns:List al}{i:Nat}{u:al->al}:(fo fns i u).length=fns.length:=List.length_modify ..
theorem jR.dE{mp:Bool}{K K':CH}{ow cf:Ow}{v:ae}{fns:List al}{bs:List Nat}{i b:Nat}{F:al}{u:al->al}(h:jR mp K ow v fns bs)(e:fns[i]? = some F)(hb:bs[i]? = some b)(hx:pG ow cf K K')(ho : ∀x c j,x<K.nx->ow x=some (c,j)->(c≠i\/7<j)->K'.ob x=K.ob x)(hn:FI mp K' cf i b (u F)):jR mp K' cf v (fo fns i u) bs:=by
 obtain⟨q,kd,h1,h2,h3,h4,h5,d⟩:=h;refine⟨q,kd,h1,(hx.ow q h3).trans h2,cQ h3 hx.nx,(ho q 0 9 h3 h2 (.inr de)).trans h4,h5,by rw[BP];exact d.len,λi2 a f g1 g2=> ?_⟩;unfold fo at g1;rw[xh] at g1;by_cases hi:i=i2
 ·subst hi;rw[e] at g1;rw[hb] at g2;cases g2;have g1:u F=a:=by simpa using g1
  rw[<-g1];exact hn
 simp only[iN hi] at g1;have g1:fns[i2]? = some a:=by simpa using g1
 exact(d.get i2 a f g1 g2).mv hx λx j g k _=>ho x i2 j g k (.inl (uz hi))
def JF (mp:Bool)(p:Nat)(X:List Ev->List al):JT:=λpre K W=>∃(ow:Ow) (v:ae) (bs:List Nat),(∀b,W b↔ow b≠none)/\(∀b,ow b≠none->b<K.nx)/\ow p=some (0,8)/\K.ob p= .cells [v] 65 .ex/\jR mp K ow v (X pre) bs
theorem JF.ok{mp:Bool}{p:Nat}{X:List Ev->List al}:zz (JF mp p X) where
 st:=λpre K K' W ⟨ow,v,bs,h1,h2,h3,h4,h5⟩ hn hx=>⟨ow,v,bs,h1,λb hb=>cQ (h2 b hb) hn,h3,(hx p ((h1 p).2 (by rw[h3];simp))).trans h4,h5.mv (.refl hn) λb _ hb=>hx b ((h1 b).2 hb)⟩
 lt:=λpre K W ⟨ow,v,bs,h1,h2,_⟩ b hb=>h2 b ((h1 b).1 hb)
theorem XC(pre:List Ev)(e:Ev):kT (pre++ [e])=kT pre++if tf e.1=true then [MQ e] else []:=by
 unfold kT;rw[List.filter_append,zY,gZ];by_cases h:tf e.1=true
 ·rw[iP h];simp[Oa,h]
 rw[iN h];simp[Oa,h]
theorem MX{T:cw}{f:aS}{args:List ae}{Q:ae->CH->Prop}{a:CH}(M:CH->Prop)(b:M a)(h : ∀K,M K->aQ T f args K Q):aQ T f args a Q:=h a b
def CpJ (K0:CH)(b:Nat)(nm:Bs)(par:Int)(ps:List Nd)(n:Nat)(v:ae)(a:CH):Prop:=∃(i:Nat) (vp:ae),n=ps.length-i/\i<=ps.length/\v= .int .i64 (i:Nat)/\dr b K0 a/\a.ob b= .cells [.string (tx nm), .int .i64 par,vp, .slice none 0 0, .slice none 0 0, .slice none 0 0, .bool false, .map none, .map none, .map none] 75 .ex/\Dq K0 a vp ((ps.take i).map Nd.text)
theorem aoR{p B:Nat}{E:List Ev}(hB:B+16<=4398046511104)(hE:E.length<=1099511627776)(hK : ∀e∈E,jI B e.1):Dr 54 [pN p] E (JF false p kT):=by
 rintro pre ⟨⟨k,l,x,o,ks⟩,h⟩ rest K W A os vH V hs hA;have X:=V;obtain⟨ow,v,bs,O,Y,t,bC,q,kd,rfl,Z,uo,iG,eg,u⟩:=V;obtain⟨nq,rfl,dJ⟩:=iq hs;have gy:p<K.nx:=Y p (by rw[t];simp);have fO:bs.length<=1099511627777:=by
  rw[u.len];unfold kT;rw[bN,eR];have h1:=Sz (λe:Ev=>tf e.1) pre;have h2:pre.length<=E.length:=by rw[<-vH];simp
  omega
 unfold qU;have arS : ∀b,K.nx<=b->¬W b:=λb hb w=>by have:=Y b ((O b).1 w);omega
 by_cases D:tf (.mk k l x o ks)=true
 ·have Ct:k=8\/k=50:=of_decide_eq_true D;have e0:ag K ((K.new (.cells [.int .i64 (k:Nat), .int .i64 l, .string (tx x), .int .i64 (o:Nat), .slice nq ks.length ks.length] 26 .ex)).new (.cells [.int .i64 (h.f:Nat), .bool h.lp, .bool h.hd, .bool h.mb] 69 .ex)):=((ag.refl K).new _).new _;obtain⟨pk,pl,px,po,d,z⟩ : ∃pk pl px po d,cV ks= .mk pk pl px po d:=by cases cV ks;exact⟨_,_,_,_,_,rfl⟩
  have arT:2*d.length<=B+16:=by
   have hke:jI B (Nd.mk k l x o ks):=hK (.mk k l x o ks,h) (by rw[<-vH];simp);cases ks with
   | nil=>simp[cV] at z;obtain⟨_,_,_,_,rfl⟩:=z;simp
   | cons p r=>simp only[cV] at z;subst z;exact hke.2.1.1
  have xX:MQ (.mk k l x o ks,h)=⟨if k=8 then x else [108,97,109,98,100,97],h.f,d.map Nd.text,[],[],[],false,[],[]⟩:=by
   show(⟨if k=8 then x else [108,97,109,98,100,97],h.f,(cV ks).kids.map Nd.text,[],[],[],false,[],[]⟩:al)=_;rw[z];rfl
  obtain⟨nm,pR⟩ : ∃nm,(if k=8 then x else [108,97,109,98,100,97]:Bs)=nm:=⟨_,rfl⟩;rw[pR] at xX;rcases Ct with rfl | rfl
  all_goals
   refine dq Rl Kr (aK ?_);repeat' (first | (simp (disch:=first | omega | (decide +kernel)) only[↓RD,RU,↓aH,↓dA,↓aL,↓bf,jK,bS,br,cZ,eT,pop,aD,cq,bq,db,isVal,a8,ci,ρ0,ρ1,ρ4,↓reduceIte,Nat.reduceEqDiff,Nat.reduceAdd,Int.reduceOfNat,reduceCtorEq,ρ5,ρ6,ρ7,ρ8,ρ15,ρ17,ρ18,ρ19,ρ20,ρ22,ρ23,Kd.bY,ρ25,ρ26,dv,Nat.reduceLeDiff,ρ28]) | ((with_reducible first|apply aE|apply aF|apply aG)<;>intro _))
   refine MX (λG=>ag K G/\G.nx=K.nx+3/\G.ob (K.nx+2)= .cells [.string (tx nm), .int .i64 (h.f:Nat), .slice none 0 0, .slice none 0 0, .slice none 0 0, .slice none 0 0, .bool false, .map none, .map none, .map none] 75 .ex) ⟨by(repeat (first | assumption | exact ag.refl _ | (refine ag.set ?_ Fo _) | (refine ag.new ?_ _))),rfl,?_⟩ ?_
   ·rw[<-pR];repeat' (first | (simp (disch:=first | omega | (decide +kernel)) only[jK,bS,br,↓reduceIte,Nat.reduceEqDiff]) | ((with_reducible first|apply aE|apply aF|apply aG)<;>intro _))
    all_goals rfl
   rintro G ⟨dQ,BN,XD⟩;refine(Mx (A:=A) (hs.mv λb hb=>⟨hb,dQ.ob b (hA b hb).1⟩) (λb hb=>by have:=(hA b hb).1;omega)).mono λv2 H ⟨l9,I,P,Q⟩=> ?_;subst I;have Q:bK G A (cF (cV ks)) l9:=Q;rw[z] at Q;obtain⟨q2,rfl,WS⟩:=iq Q;obtain⟨_,e5,MY,_,QS⟩:=lr WS;cases e5;rw[gE] at MY;have j0:=P.nx;have zI:=dQ.trans P;repeat' (first | (simp (disch:=first | omega | (decide +kernel)) only[↓RD,RU,↓aH,↓aL,↓bf,pop,↓reduceIte,ρ5,ρ6,vZ]) | ((with_reducible first|apply aE|apply aF|apply aG)<;>intro _))
   refine ef (λn fr a=>CpJ H (K.nx+2) nm (h.f:Nat) d n (fr 34) a) (n:=d.length) ⟨0,_,rfl,bR _,by(repeat' (first | (simp (disch:=first | omega | (decide +kernel)) only[↓aH,↓reduceIte]) | ((with_reducible first|apply aE|apply aF|apply aG)<;>intro _));all_goals rfl),dr.refl _,(P.ob _ Om).trans XD,eV.nil⟩ ?_;rintro n fr a ⟨i,vp,rfl,hi,f34,C,XE,J⟩ R;have eY:=C.nx;by_cases L:i<d.length
   ·obtain⟨m,hm⟩ : ∃m,d[i]? = some m:=⟨_,cj L⟩;obtain⟨b,cs,e,S,fM,hb,ob,yf,pO,mj,aW⟩:=QS i m hm;subst fM;have Fs:=(hA b hb).1;have jr:=(C.ob b Om Om).trans ((P.ob b Om).trans ob);obtain⟨mk,ml,mx,mo,cI⟩:=m;obtain⟨mq,dt,zF⟩:=iq aW;repeat' (first | (simp (disch:=first | omega | (decide +kernel)) only[↓RD,RU,↓aH,↓dA,↓aL,jK,kf,bS,br,pop,aD,cq,bq,db,isVal,a8,ci,ρ0,ρ1,ρ4,↓reduceIte,Nat.reduceEqDiff,Nat.reduceAdd,reduceCtorEq,ρ5,ρ6,ρ7,ρ8,kQ,ρ15,ρ17,ρ18,ρ21,ρ22,ρ23,Kd.bY,ρ25,ρ26,dv,Nat.reduceLeDiff,tR,kO,ρ28,ρ29,R,f34,jr,dt,XE]) | ((with_reducible first|apply aE|apply aF|apply aG)<;>intro _))
    have M:ag a (((a.new (.cells [.int .i64 0, .int .i64 0, .string ⟨⟨[]⟩⟩, .int .i64 0, .slice none 0 0] 26 .ex)).set a.nx (.cells [.int .i64 (mk:Nat), .int .i64 ml, .string (tx mx), .int .i64 (mo:Nat), .slice mq cI.length cI.length] 26 .ex)).new (.cells [.string (tx mx)] 9 .ex)):=by(repeat (first | assumption | exact ag.refl _ | (refine ag.set ?_ Fo _) | (refine ag.new ?_ _)))
    refine aoH (y:=mx) (J.ext M) (by show H.nx<=a.nx+1+1;omega) (by rw[eR,kW];omega) rfl λv' K3 h1 h2=> ?_;have fF:GS a K3 vp v':=(GS.ext M).trans h2;have pC:=fF.nx;have of3:=(fF.ob (K.nx+2) Om (J.aey Om)).trans XE;obtain⟨vq',cq',ev',_⟩:=(h1.nl (by rw[cG,eR,kW];simp;omega)).len;subst ev';repeat' (first | (simp (disch:=first | omega | (decide +kernel)) only[↓RD,RU,↓aH,↓dA,↓aL,↓bf,pop,bq,isVal,a8,ci,↓reduceIte,Nat.reduceEqDiff,Nat.reduceAdd,ρ7,ρ8,ρ17,ρ18,ρ19,ρ20,ρ22,ρ23,Kd.bY,ρ25,ρ26,Nat.reduceLeDiff,ρ28,R,f34,of3]) | ((with_reducible first|apply aE|apply aF|apply aG)<;>intro _))
    refine⟨d.length-(i+1),Om,i+1,_,rfl,L,rfl,⟨by show H.nx<=K3.nx;omega,λb hb hc=>(cO hc).trans ((fF.ob b Om (J.aey hb)).trans (C.ob b hb hc))⟩,by(repeat' (first | (simp (disch:=first | omega | (decide +kernel)) only[br,↓reduceIte]) | ((with_reducible first|apply aE|apply aF|apply aG)<;>intro _));all_goals rfl),?_⟩;have et:(d.take (i+1)).map Nd.text=(d.take i).map Nd.text++ [mx]:=by
     obtain⟨_,e⟩:=List.getElem?_eq_some_iff.1 hm;rw[pJ L,e,zY];rfl
    rw[et];rw[cG,eR] at h1;refine eV.nx (K:=K3) h1 (ai _) ?_;intro b g1 g2 _;exact cO Om
   have L:i=d.length:=by omega
   subst L;rw[ng] at J;have QE:=(C.ob p Om Om).trans ((zI.ob p gy).trans bC);have oq1:=(C.ob q Om Om).trans ((zI.ob q uo).trans iG);have N : ∀b,b<K.nx->a.ob b=K.ob b:=λb hb=>(C.ob b Om Om).trans (zI.ob b hb);repeat' (first | (simp (disch:=first | omega | (decide +kernel)) only[↓dx,↓cE,↓KM,↓KN,↓KP,↓ez,↓fj,↓oJ,↓c9,↓da,↓cM,↓dL,↓kj,↓iB,↓aH,↓aL,bS,cL,ki,↓di,↓Kj,cZ,eT,mO,pop,aD,cq,db,isVal,ci,c8,iw,dC,↓reduceIte,Nat.reduceEqDiff,reduceCtorEq,eZ,bN,bZ,jD,kQ,pu,qx,kc,gI,gY,tB,tz,jt,jS,dv,Nat.reduceLeDiff,ai,tR,oK,↓mP,kO,fp,ba,and_true,R,f34,QE]) | ((with_reducible first|apply aE|apply aF|apply aG)<;>intro _))
   refine Di (A:=um 0) (bytes:=8) (f:=λb=> [pN b]) (y:=K.nx+2) (xs:=bs) (λ_=>⟨rfl,rfl⟩) (.inr ⟨q,kd,rfl,bR _,by show q<a.nx+1;omega,(bL Om).trans oq1,eg⟩) Om Om rfl λs k1 k2 k3=> ?_;have k2:s.nx=a.nx+1+1:=k2;have T : ∀b,b<a.nx->b≠q->s.ob b=a.ob b:=λb hb hc=>(k3 b (by show b<a.nx+1;omega) λo n c e=>by cases e;exact hc rfl).trans (bL Om);have hpq:p≠q:=λe=>by rw[e,Z] at t;cases t
   have op5:=(T p Om hpq).trans QE;repeat' (first | (simp (disch:=first | omega | (decide +kernel)) only[↓RD,RU,↓aH,↓aL,jK,cZ,eT,bq,cY,isVal,a8,ci,↓reduceIte,Nat.reduceEqDiff,ρ7,ρ8,ρ17,ρ21,ρ22,ρ23,Kd.bY,ρ25,ρ26,R,op5]) | ((with_reducible first|apply aE|apply aF|apply aG)<;>intro _))
   obtain⟨r,yH,Dz,MZ⟩ : ∃r,H.nx<=r/\r<=a.nx/\((d.map Nd.text= []/\vp= .slice none 0 0)\/∃kd,vp= .slice (some ⟨r,0,none⟩) (d.map Nd.text).length (d.map Nd.text).length/\r<a.nx/\a.ob r= .cells ((d.map Nd.text).flatMap fU) 9 kd/\kd.bY=false):=by
    rcases J with g | ⟨r,S,g1,g2,g3,g4,g5⟩
    ·exact⟨H.nx,ai _,eY, .inl g⟩
    exact⟨r,g2,Nat.le_of_lt g3, .inr ⟨S,g1,g3,g4,g5⟩⟩
   let cf:Ow:=λb=>if b=K.nx+2 then some (bs.length,0) else if b=r then some (bs.length,1) else if b=a.nx+1 then some (0,9) else ow b
   have hK6 : ∀o,(s.set p o).nx=s.nx:=λ_=>rfl;have iD : ∀o,pG ow cf K (s.set p o):=λo=>⟨by show K.nx<=s.nx;omega,λb hb=>by
    show(if b=K.nx+2 then _ else if b=r then _ else if b=a.nx+1 then _ else ow b)=ow b;rw[iN Om,iN Om,iN Om]⟩
   have kU : ∀o b,b<K.nx->b≠p->b≠q->(s.set p o).ob b=K.ob b:=λo b hb h1 h2=>(cO h1).trans ((T b Om h2).trans (N b hb));have Ej : ∀b j i,j<=7->ow b=some (i,j)->b≠p/\b≠q:=λb j i V e=>⟨λI=>by rw[I,t] at e;cases e;omega,λI=>by rw[I,Z] at e;cases e;omega⟩;refine⟨λb=>cf b≠none,⟨cf,_,bs++ [K.nx+2],λb=>eM,λb hb=> ?_,?_,by rw[br,iP rfl],?_⟩,?_⟩
   ·have hb:(if b=K.nx+2 then some (bs.length,0) else if b=r then some (bs.length,1) else if b=a.nx+1 then some (0,9) else ow b)≠none:=hb;show b<s.nx;by_cases h1:b=K.nx+2
    ·omega
    rw[iN h1] at hb;by_cases h2:b=r
    ·omega
    rw[iN h2] at hb;by_cases h3:b=a.nx+1
    ·omega
    rw[iN h3] at hb;have:=Y b hb;omega
   ·exact((iD .dead).ow p gy).trans t
   ·refine⟨a.nx+1, .gr,Sm,?_,by show a.nx+1<s.nx;omega,(cO Om).trans k1,rfl,⟨?_,?_⟩⟩;·show(if a.nx+1=K.nx+2 then _ else if a.nx+1=r then _ else if a.nx+1=a.nx+1 then some (0,9) else _)=_;rw[iN Om,iN Om,iP rfl]
    ·rw[XC,iP D];simp[u.len]
    rw[XC,iP D,xX];intro i F b U hb;by_cases Kv:i<bs.length
    ·rw[qo Kv] at hb;rw[qo (by rw[<-u.len];exact Kv)] at U;refine(u.get i F b U hb).mv (iD _) λb2 j g1 g2 g3=> ?_;obtain⟨n1,n2⟩:=Ej b2 j i g3 g2;exact kU _ b2 g1 n1 n2
    have Kw:i<(bs++ [K.nx+2]).length:=(List.getElem?_eq_some_iff.1 hb).1;have hi:i=bs.length:=by simp at Kw;omega
    subst hi;rw[su (ai _),Gq] at hb;rw[su (by rw[u.len];exact ai _),u.len,Gq] at U;cases hb;cases U;have Dw:=(T (K.nx+2) Om Om).trans XE;refine⟨by show(if K.nx+2=K.nx+2 then _ else _)=_;rw[iP rfl],by show K.nx+2<s.nx;omega,vp,_,_,_,_,_,_,(cO Om).trans Dw,⟨?_, .inl ⟨rfl,rfl⟩, .inl ⟨rfl,rfl⟩, .inl ⟨rfl,rfl⟩,rfl,rfl,rfl⟩⟩;rcases MZ with g | ⟨S,g1,g2,g3,g4⟩
    ·exact .inl g
    refine .inr ⟨r,S,g1,?_,by show r<s.nx;omega,(cO Om).trans ((T r g2 Om).trans g3),g4⟩;show(if r=K.nx+2 then _ else if r=r then some (bs.length,1) else _)=_;rw[iN Om,iP rfl]
   refine⟨by show K.nx<=s.nx;omega,λb hb hw _=>kU _ b hb (λe=>hw ((O b).2 (by rw[e,t];simp))) (λe=>hw ((O b).2 (by rw[e,Z];simp))),λb hb=> ?_⟩;by_cases Fs:b<K.nx
   ·exact .inl ((O b).2 (by rw[<-(iD .dead).ow b Fs];exact hb))
   exact .inr Om
 have Ct : ¬(k=8\/k=50):=λe=>D (decide_eq_true e);refine dq Rl Kr (aK ?_);repeat' (first | (simp (disch:=first | omega | (decide +kernel)) only[↓RD,RU,↓aH,↓aL,↓bf,jK,bS,cZ,eT,pop,aD,cq,cY,db,isVal,ci,↓reduceIte,Nat.reduceEqDiff,Int.reduceOfNat,reduceCtorEq,ρ5,ρ26,ρ28]) | ((with_reducible first|apply aE|apply aF|apply aG)<;>intro _))
 have e0:ag K ((K.new (.cells [.int .i64 (k:Nat), .int .i64 l, .string (tx x), .int .i64 (o:Nat), .slice nq ks.length ks.length] 26 .ex)).new (.cells [.int .i64 (h.f:Nat), .bool h.lp, .bool h.hd, .bool h.mb] 69 .ex)):=((ag.refl K).new _).new _;refine⟨W,?_,VX.ext e0⟩;have:=JF.ok.hx X e0;obtain⟨ow,v,bs,g1,g2,g3,g4,g5⟩:=this;refine⟨ow,v,bs,g1,g2,g3,g4,?_⟩;rw[XC,iN D,gY];exact g5
theorem aoS(fns:List al)(pre:List Ev)(e:Ev):ui fns (pre++ [e])=fo (ui fns pre) e.2.f (Dn e):=by
 unfold ui;rw[N9];rfl
theorem M7(fns:List al) : ∀pre:List Ev,(ui fns pre).length=fns.length:=by
 intro pre;unfold ui;induction pre generalizing fns with
 | nil=>rfl
 | cons e pre a=>rw[Gj,a,BP]
theorem aoT(fns:List al)(pre:List Ev)(e:Ev):vE fns (pre++ [e])=fo (vE fns pre) e.2.f (tg e):=by
 unfold vE;rw[N9];rfl
theorem Rj(fns:List al) : ∀pre:List Ev,(vE fns pre).length=fns.length:=by
 intro pre;unfold vE;induction pre generalizing fns with
 | nil=>rfl
 | cons e pre a=>rw[Gj,a,BP]
theorem zJ{bs:List Nat}{i b:Nat}(h:bs[i]? = some b):(bs.flatMap λb=> [pN b])[i]? = some (pN b)/\i<(bs.flatMap λb=> [pN b]).length:=by
 have e:(bs.flatMap λb=> [pN b])=bs.map pN:=by
  rw[List.flatMap_def];clear h;induction bs with
  | nil=>rfl
  | cons a r c=>rw[c8,List.flatten_cons,c];rfl
 rw[e,ka,h];obtain⟨hi,_⟩:=List.getElem?_eq_some_iff.1 h;exact⟨rfl,by rw[eR];exact hi⟩
def CsJ (K0:CH)(a:Nat)(LL:List Bs)(ks:List Nd)(n:Nat)(v:ae)(b:CH):Prop:=∃i:Nat,n=ks.length-i/\i<=ks.length/\v= .int .i64 (i:Nat)/\dr a K0 b/\gM b a (mf (LL++(ks.take i).map Nd.text))
def CnJ (K0:CH)(ks:List Nd)(n:Nat)(v:ae)(a:CH):Prop:=∃i:Nat,n=ks.length-i/\i<=ks.length/\v= .int .i64 (i:Nat)/\ag K0 a
theorem wV{K:CH}{ow:Ow}{a:Nat×Nat}{v:ae}{L:List Bs}(h:ul true K ow a v L) : ∃m,v= .map (some m)/\ow m=some a/\m<K.nx/\gM K m (mf L):=by
 unfold ul at h;rw[iP rfl] at h;exact h
theorem II{K:CH}{ow:Ow}{a:Nat×Nat}{m:Nat}{L:List Bs}(h1:ow m=some a)(h2:m<K.nx)(h3:gM K m (mf L)):ul true K ow a (.map (some m)) L:=by
 unfold ul;rw[iP rfl];exact⟨m,rfl,h1,h2,h3⟩
theorem aoU{p:Nat}{E:List Ev}{R:List al}(hf : ∀e∈E,e.2.f<R.length):Dr 55 [pN p] E (JF true p (ui R)):=by
 rintro pre ⟨⟨k,l,x,o,ks⟩,h⟩ rest K W A os vH hj hs hA;obtain⟨ow,v,bs,O,aU,iv,bC,j7⟩:=hj;have wW:=j7;obtain⟨q,kd,rfl,oV,uo,iG,eg,fi⟩:=j7;obtain⟨nq,rfl,dJ⟩:=iq hs;obtain⟨_,e5,cW,lV,fq⟩:=lr dJ;cases e5;rw[gE] at cW;have gy:p<K.nx:=aU p (by rw[iv];simp);have gF:h.f<R.length:=hf (.mk k l x o ks,h) (by rw[<-vH];simp);obtain⟨F,hF⟩ : ∃F,(ui R pre)[h.f]? = some F:=⟨_,cj (by rw[M7];exact gF)⟩;obtain⟨b,hb⟩ : ∃b,bs[h.f]? = some b:=⟨_,cj (by rw[fi.len,M7];exact gF)⟩;obtain⟨ak,gR,vp,vl,vc,vf,m1,m2,m3,dX,H⟩:=fi.get h.f F b hF hb;obtain⟨r,rfl,P,j0,S⟩:=wV H.g;obtain⟨s,rfl,Q,pC,T⟩:=wV H.o;obtain⟨js,IJ⟩:=zJ hb;have fO:h.f<bs.length:=by rw[fi.len,M7];exact gF
 have yw : ∀x i j,ow x=some (i,j)->(i≠h.f\/j≠0)->x≠b:=λx i j e hn U=>by rw[U,ak] at e;simp only[Option.some.injEq,Prod.mk.injEq] at e;omega
 have V : ∀x i j,ow x=some (i,j)->(i≠h.f\/j≠6)->x≠r:=λx i j e hn U=>by rw[U,P] at e;simp only[Option.some.injEq,Prod.mk.injEq] at e;omega
 have X : ∀x i j,ow x=some (i,j)->(i≠h.f\/j≠7)->x≠s:=λx i j e hn U=>by rw[U,Q] at e;simp only[Option.some.injEq,Prod.mk.injEq] at e;omega
 have Y:r≠b:=yw r _ _ P (.inr de);have Z:s≠b:=yw s _ _ Q (.inr de);have CR:p≠b:=yw p _ _ iv (.inr de);have e0:ag K ((K.new (.cells [.int .i64 (k:Nat), .int .i64 l, .string (tx x), .int .i64 (o:Nat), .slice nq ks.length ks.length] 26 .ex)).new (.cells [.int .i64 (h.f:Nat), .bool h.lp, .bool h.hd, .bool h.mb] 69 .ex)):=((ag.refl K).new _).new _;have Cr : ∀(d:CH) (gg oo:List Bs) (gn:Bool),K.nx<=d.nx->(∀y,y<K.nx->y≠r->y≠s->d.ob y=K.ob y)->gM d r (mf gg)->gM d s (mf oo)->Dn (.mk k l x o ks,h) F= { F with g:=gg,o:=oo,gen:=gn }->
  ∃W',JF true p (ui R) (pre++ [(.mk k l x o ks,h)]) (d.set b (.cells [.string (tx F.nm), .int .i64 F.par,vp,vl,vc,vf, .bool gn,m1, .map (some r), .map (some s)] 75 .ex)) W'/\VX nU W W' K (d.set b (.cells [.string (tx F.nm), .int .i64 F.par,vp,vl,vc,vf, .bool gn,m1, .map (some r), .map (some s)] 75 .ex)):=by
  intro d gg oo gn w jY wg yi aoV;have I : ∀y i j,y<K.nx->ow y=some (i,j)->(i≠h.f\/(j≠0/\j≠6/\j≠7))->(d.set b (.cells [.string (tx F.nm), .int .i64 F.par,vp,vl,vc,vf, .bool gn,m1, .map (some r), .map (some s)] 75 .ex)).ob y=K.ob y:=λy i j g1 g2 g3=>(cO (yw y i j g2 Om)).trans (jY y g1 (V y i j g2 Om) (X y i j g2 Om));refine⟨W,⟨ow,_,bs,O,λy J=>cQ (aU y J) w,iv,(I p _ _ gy iv (.inr de)).trans bC,?_⟩,⟨w,λy g1 g2 _=> ?_,λ_ g=> .inl g⟩⟩
  ·rw[aoS];refine wW.dE hF hb (.refl w) (λy i j g1 g2 g3=>I y i j g1 g2 (by have g3:i≠h.f\/7<j:=g3;omega)) ?_;rw[aoV];refine⟨ak,by show b<d.nx;omega,vp,vl,vc,vf,m1,_,_,by rw[br,iP rfl],?_⟩;refine⟨H.p.mv (.refl w) λy g1 g2=>I y _ _ g1 g2 (.inr de),H.l.mv (.refl w) λy g1 g2=>I y _ _ g1 g2 (.inr de),H.c.mv (.refl w) λy g1 g2=>I y _ _ g1 g2 (.inr de),H.f.mv (.refl w) λy g1 g2=>I y _ _ g1 g2 (.inr de),H.b.mv (.refl w) λy g1 g2=>I y _ _ g1 g2 (.inr de),?_,?_⟩;·exact II P (by show r<d.nx;omega) (wg.ext (cO Y))
   exact II Q (by show s<d.nx;omega) (yi.ext (cO Z))
  have IK:W b:=(O b).2 (by rw[ak];simp);have Io:W r:=(O _).2 (by rw[P];simp);have Rf:W s:=(O _).2 (by rw[Q];simp);exact(cO λe=>g2 (by rw[e];exact IK)).trans (jY y g1 (λe=>g2 (by rw[e];exact Io)) λe=>g2 (by rw[e];exact Rf))
 unfold qU;by_cases hk:k=17
 ·subst hk;refine dq Rl Kr (aK ?_);refine rn (jz @bC @iG @js @fO) ?_;refine ef (λn fr d=>CsJ ((K.new (.cells [.int .i64 ((17:Nat):Int), .int .i64 l, .string (tx x), .int .i64 (o:Nat), .slice nq ks.length ks.length] 26 .ex)).new (.cells [.int .i64 (h.f:Nat), .bool h.lp, .bool h.hd, .bool h.mb] 69 .ex)) r F.g ks n (fr 16) d) (n:=ks.length) ⟨0,rfl,bR _,by(refine aM ?_;all_goals rfl),dr.refl _,by rw[vU,iw,gY];exact S.ext (e0.ob _ Om)⟩ ?_;rintro n fr d ⟨i,rfl,hi,f16,u,L⟩ z;have w:K.nx+1+1<=d.nx:=u.nx;have a : ∀y,y<K.nx->y≠r->d.ob y=K.ob y:=λy J hc=>(u.ob y (by show y<K.nx+1+1;omega) hc).trans (e0.ob y J);have B:=(a b gR (uz Y)).trans dX;have C:=(u.ob K.nx (by show K.nx<K.nx+1+1;omega) Om).trans ((bL (by show K.nx≠K.nx+1;omega)).trans iu);by_cases t:i<ks.length
  ·obtain⟨m,M⟩ : ∃m,ks[i]? = some m:=⟨_,cj t⟩;obtain⟨D,cs,e,mU,G,N,ob,yf,pO,mj,aW⟩:=fq i m M;have aoW:W r:=(O _).2 (by rw[P];simp);have jr:=(a D (hA D N).1 (λe=>(hA D N).2 (e▸aoW))).trans ob;obtain⟨mk,ml,mx,mo,cI⟩:=m;obtain⟨mq,dt,zF⟩:=iq aW;obtain⟨oo,oW,nX⟩:=L.up mx 1;have xX:r<d.nx:=by omega
   repeat' (first | (simp (disch:=first | omega | (decide +kernel)) only[↓dx,↓jN,↓cE,↓pU,↓pW,↓ez,↓kM,↓fj,↓fZ,↓c9,↓da,↓cM,↓dL,↓kj,↓iB,↓aH,↓dA,↓aL,↓bf,bS,br,cL,lj,ki,↓di,↓jW,gh,tQ,mO,eU,pop,aD,cq,bq,db,isVal,a8,ci,↓reduceIte,Nat.reduceEqDiff,Nat.reduceAdd,eZ,e9,bN,bZ,jD,kc,gY,tz,qw,uB,pL,Kd.bY,jt,jS,ai,gi,iP,iN,ba,mA,fJ,and_true,z,f16,G,jr,dt,B,C,oW,ba]) | ((with_reducible first|apply aE|apply aF|apply aG)<;>intro _))
   refine⟨ks.length-(i+1),Om,i+1,rfl,t,rfl,?_,?_⟩;·rw[<-G];exact((u.new _).set (.inl (by show K.nx+1+1<=d.nx;omega)) _).set (.inr rfl) _
   have et:F.g++(ks.take (i+1)).map Nd.text=(F.g++(ks.take i).map Nd.text)++ [mx]:=by
    obtain⟨_,e⟩:=List.getElem?_eq_some_iff.1 M;rw[pJ t,e,zY,oY];rfl
   rw[et,<-Dx];exact nX _ (by rw[br,iP rfl])
  have t:i=ks.length:=by omega
  subst t;rw[ng] at L;have nY:F.gen=true\/F.gen=false:=by cases F.gen<;>simp
  rcases nY with nY | nY
  all_goals
   refine rn (jL @z @f16 @B @C @nY) ?_;exact Cr d _ _ _ Om (λy h1 h2 h3=>a y h1 h2) L (T.ext (a s pC (V s _ _ Q (.inr de)))) (by simp[Dn,Nd.kind,Nd.kids,nY])
 by_cases iA:k=18
 ·subst iA;refine dq Rl Kr (aK ?_);refine rn (jz @bC @iG @js @fO) ?_;refine ef (λn fr d=>CsJ ((K.new (.cells [.int .i64 ((18:Nat):Int), .int .i64 l, .string (tx x), .int .i64 (o:Nat), .slice nq ks.length ks.length] 26 .ex)).new (.cells [.int .i64 (h.f:Nat), .bool h.lp, .bool h.hd, .bool h.mb] 69 .ex)) s F.o ks n (fr 16) d) (n:=ks.length) ⟨0,rfl,bR _,by(refine aM ?_;all_goals rfl),dr.refl _,by rw[vU,iw,gY];exact T.ext (e0.ob _ Om)⟩ ?_;rintro n fr d ⟨i,rfl,hi,f16,u,L⟩ z;have w:K.nx+1+1<=d.nx:=u.nx;have a : ∀y,y<K.nx->y≠s->d.ob y=K.ob y:=λy J hc=>(u.ob y (by show y<K.nx+1+1;omega) hc).trans (e0.ob y J);have B:=(a b gR (uz Z)).trans dX;have C:=(u.ob K.nx (by show K.nx<K.nx+1+1;omega) Om).trans ((bL (by show K.nx≠K.nx+1;omega)).trans iu);by_cases t:i<ks.length
  ·obtain⟨m,M⟩ : ∃m,ks[i]? = some m:=⟨_,cj t⟩;obtain⟨D,cs,e,mU,G,N,ob,yf,pO,mj,aW⟩:=fq i m M;have aoX:W s:=(O _).2 (by rw[Q];simp);have jr:=(a D (hA D N).1 (λe=>(hA D N).2 (e▸aoX))).trans ob;obtain⟨mk,ml,mx,mo,cI⟩:=m;obtain⟨mq,dt,zF⟩:=iq aW;obtain⟨oo,oW,nX⟩:=L.up mx 1;have xX:s<d.nx:=by omega
   repeat' (first | (simp (disch:=first | omega | (decide +kernel)) only[↓dx,↓jN,↓cE,↓pU,↓pW,↓ez,↓kM,↓fj,↓fZ,↓oJ,↓c9,↓da,↓cM,↓dL,↓kj,↓iB,↓aH,↓dA,↓aL,↓bf,bS,br,cL,lj,ki,↓di,↓jW,gh,tQ,mO,eU,pop,aD,cq,bq,db,isVal,a8,ci,↓reduceIte,Nat.reduceEqDiff,Nat.reduceAdd,eZ,e9,bN,bZ,jD,kc,gY,tz,qw,uB,pL,Kd.bY,jt,jS,ai,gi,oK,iP,iN,ba,mA,fJ,and_true,z,f16,G,jr,dt,B,C,oW,ba]) | ((with_reducible first|apply aE|apply aF|apply aG)<;>intro _))
   refine⟨ks.length-(i+1),Om,i+1,rfl,t,rfl,?_,?_⟩;·rw[<-G];exact((u.new _).set (.inl (by show K.nx+1+1<=d.nx;omega)) _).set (.inr rfl) _
   have et:F.o++(ks.take (i+1)).map Nd.text=(F.o++(ks.take i).map Nd.text)++ [mx]:=by
    obtain⟨_,e⟩:=List.getElem?_eq_some_iff.1 M;rw[pJ t,e,zY,oY];rfl
   rw[et,<-Dx];exact nX _ (by rw[br,iP rfl])
  have t:i=ks.length:=by omega
  subst t;rw[ng] at L;have nY:F.gen=true\/F.gen=false:=by cases F.gen<;>simp
  rcases nY with nY | nY
  all_goals
   refine rn (jL @z @f16 @B @C @nY) ?_;exact Cr d _ _ _ Om (λy h1 h2 h3=>a y h1 h3) (S.ext (a r j0 (X r _ _ P (.inr de)))) L (by simp[Dn,Nd.kind,Nd.kids,nY])
 refine dq Rl Kr (aK ?_);refine rn (jz @bC @iG @js @fO) ?_;refine ef (λn fr d=>CnJ ((K.new (.cells [.int .i64 (k:Nat), .int .i64 l, .string (tx x), .int .i64 (o:Nat), .slice nq ks.length ks.length] 26 .ex)).new (.cells [.int .i64 (h.f:Nat), .bool h.lp, .bool h.hd, .bool h.mb] 69 .ex)) ks n (fr 16) d) (n:=ks.length) ⟨0,rfl,bR _,by(refine aM ?_;all_goals rfl),ag.refl _⟩ ?_;rintro n fr d ⟨i,rfl,hi,f16,u⟩ z;have w:K.nx+1+1<=d.nx:=u.nx;have a : ∀y,y<K.nx->d.ob y=K.ob y:=λy J=>(u.ob y (by show y<K.nx+1+1;omega)).trans (e0.ob y J);have B:=(a b gR).trans dX;have C:=(u.ob K.nx (by show K.nx<K.nx+1+1;omega)).trans ((bL (by show K.nx≠K.nx+1;omega)).trans iu);by_cases t:i<ks.length
 ·obtain⟨m,M⟩ : ∃m,ks[i]? = some m:=⟨_,cj t⟩;obtain⟨D,cs,e,mU,G,N,ob,yf,pO,mj,aW⟩:=fq i m M;have jr:=(a D (hA D N).1).trans ob;obtain⟨mk,ml,mx,mo,cI⟩:=m;obtain⟨mq,dt,zF⟩:=iq aW;refine rn (qz @z @f16 @G @jr @dt @B @C @ba) ?_;refine⟨ks.length-(i+1),Om,i+1,rfl,t,rfl,?_⟩;rw[<-G];exact(u.new _).set (by show K.nx+1+1<=d.nx;omega) _
 have t:i=ks.length:=by omega
 subst t;have nY:F.gen=true\/F.gen=false:=by cases F.gen<;>simp
 rcases nY with nY | nY
 ·refine rn (jL @z @f16 @B @C @nY) ?_;exact Cr d _ _ _ Om (λy h1 _ _=>a y h1) (S.ext (a r j0)) (T.ext (a s pC)) (by simp[Dn,Nd.kind,Nd.kids,nY,hk,iA])
 by_cases Iw:k=60
 ·subst Iw;refine rn (jL @z @f16 @B @C @nY) ?_;exact Cr d _ _ _ Om (λy h1 _ _=>a y h1) (S.ext (a r j0)) (T.ext (a s pC)) (by simp[Dn,Nd.kind,Nd.kids,nY])
 refine rn (jL @z @f16 @B @C @nY) ?_;exact Cr d _ _ _ Om (λy h1 _ _=>a y h1) (S.ext (a r j0)) (T.ext (a s pC)) (by simp[Dn,Nd.kind,Nd.kids,nY,hk,iA,Iw])
theorem aoY{K:CH}{q:Option Addr}{c:Nat}{src:List UInt8}(h:ig 1 (pY .u8) K q c (l6 src))(t:src.length<=9223372036854775807):aQ gH 128 [.slice q src.length c, .int .u8 46] K λr K'=>K'=K/\∃z:Int,r= .int .i64 z/\(0<=z↔(46:UInt8)∈src):=by
 refine dq Rl Kr (aK ?_);refine aM ?_;refine ef (λm fr d=>∃i:Nat,m=src.length-i/\i<=src.length/\fr 8= .int .i64 (i:Nat)/\d=K/\∀j (a:j<src.length),j<i->src[j]≠46) (n:=src.length) ⟨0,rfl,Om,by(refine aM ?_;all_goals rfl),rfl,λj _ h=>absurd h Om⟩ ?_;rintro m fr d ⟨i,rfl,hi,f8,rfl,hn⟩ s;by_cases b:i<src.length
 ·obtain⟨l,o,os,e,kd,rfl,h4,h5,g⟩ : ∃l o os e kd,q=some ⟨l,o,none⟩/\d.ob l= .cells os e kd/\o+src.length<=os.length/\os[o+i]? = some (.int .u8 (src[i].toNat:Nat)):=by
   rcases h with ⟨h,_⟩ | ⟨l,o,os,e,kd,rfl,h1,h2,h3,h4,h5,u⟩
   ·rw[<-CQ,h] at b;cases b
   rw[CQ] at h5;have g:=(u i (by rw[CQ];exact b)).1;rw[fp,mz Om] at g;simp only[qx,vU,List.cons.injEq,and_true] at g;refine⟨l,o,os,e,kd,rfl,h4,Om,?_⟩;rw[cj Om,g];simp[l6]
  by_cases he:src[i]=46
  ·have hv:(src[i].toNat:Int)=46:=by rw[he];rfl
   rw[hv] at g;refine rn (jz @s @f8 @h4 @g) ?_;exact⟨_,rfl,⟨λ_=>he▸Gr b,λ_=>by omega⟩⟩
  have hv:(src[i].toNat:Int)≠46:=λe=>he (by
   apply UInt8.toNat.inj;have:src[i].toNat=46:=by omega
   rw[this];rfl)
  refine rn (jL @s @f8 @h4 @g @hv) ?_;all_goals exact⟨src.length-(i+1),Om,i+1,rfl,Om,rfl,λj a v=>by
   by_cases e:j=i
   ·subst e;exact he
   exact hn j a Om⟩
 refine rn (an @s @f8) ?_;refine⟨_,rfl,⟨λh=>absurd h de,λt=> ?_⟩⟩;obtain⟨j,a,e⟩:=Gm t;exact absurd e (hn j a Om)
theorem aoZ{K:CH}{q:Option Addr}{c:Nat}{src:List UInt8}(h:ig 1 (pY .u8) K q c (l6 src))(b:src.length<=9223372036854775807):aQ gH 95 [.slice q src.length c, .int .u8 46] K λr K'=>K'=K/\r= .bool (decide ((46:UInt8)∈src)):=by
 refine dq Rl Kr (aK ?_);refine aM ?_;refine(aoY h b).mono λr K' ⟨e,z,d,hz⟩=> ?_;subst d;rw[e];by_cases hp:(46:UInt8)∈src
 ·have a:=hz.2 hp;rw[decide_eq_true hp];exact rz @a
 have a : ¬ 0<=z:=λg=>hp (hz.1 g);rw[decide_eq_false hp];exact rz @a
structure Rk{α:Type}(P:Nat->α->CH->(Nat->Prop)->Prop):Prop where
 st : ∀r a K K' W,P r a K W->K.nx<=K'.nx->(∀b,W b->K'.ob b=K.ob b)->P r a K' W
 lt : ∀r a K W,P r a K W->∀b,W b->b<K.nx
theorem Rk.hx{α:Type}{P:Nat->α->CH->(Nat->Prop)->Prop}(c:Rk P){r:Nat}{a:α}{K K':CH}{W:Nat->Prop}(h:P r a K W)(hx:ag K K'):P r a K' W:=c.st r a K K' W h hx.nx λb hb=>hx.ob b (c.lt r a K W h b hb)
def aeJ{α:Type}(b:aS)(cap:List ae)(P:Nat->α->CH->(Nat->Prop)->Prop)(step:α->Bs->α):Prop:=∀(r:Nat) (a:α) (s:Bs) (K:CH) (W:Nat->Prop),P (r+1) a K W->s.length<=2199023255552->aQ gH b (.string (tx s)::cap) K λ_ K'=>∃W',P r (step a s) K' W'/\VX nU W W' K K'
def PgJ {α:Type}(P:Nat->α->CH->(Nat->Prop)->Prop)(step:α->Bs->α)(r:Nat)(a:α)(K:CH)(W:Nat->Prop)(ks:List Nd)(n:Nat)(v:ae)(b:CH):Prop:=∃(i:Nat) (c:Nat->Prop),n=ks.length-i/\i<=ks.length/\v= .int .i64 (i:Nat)/\P ((eP (ks.drop i)).length+r) ((eP (ks.take i)).foldl step a) b c/\VX nU W c K b
theorem aeK{α:Type}{B:aS}{cap:List ae}{P:Nat->α->CH->(Nat->Prop)->Prop}{step:α->Bs->α}(l:Rk P)(he:aeJ B cap P step) : ∀(N:Nat) (t:Nd),eX t<=N->qS 2199023255552 t->∀(K:CH) (W A:Nat->Prop) (os:List ae) (r:Nat) (a:α),bK K A (cF t) os->(∀b,A b->b<K.nx/\¬W b)->P ((fG t).length+r) a K W->aQ gH 48 [.agg os.toArray, .func (.func B) #[] cap.toArray] K λ_ K'=>∃W',P r ((fG t).foldl step a) K' W'/\VX nU W W' K K':=by
 intro N;induction N with
 | zero=>intro t h;cases t;simp[eX] at h
 | succ N O=>
 rintro⟨tk,tl,x,o,ks⟩ Q hT K W A os r a hs hA hp;obtain⟨q,rfl,R⟩:=iq hs;obtain⟨q',e,S,lV,T⟩:=lr R;cases e;rw[gE] at S;have d:ag K (K.new (.cells [.int .i64 (tk:Nat), .int .i64 tl, .string (tx x), .int .i64 (o:Nat), .slice q ks.length ks.length] 26 .ex)):=(ag.refl K).new _;have qV:=l.lt _ a K W hp;by_cases C:tk=36
 ·subst C;refine dq Rl Kr (aK ?_);refine aM ?_;rw[fG,iP rfl] at hp;have hp:P (r+1) a K W:=by rw[Nat.add_comm];exact hp
  refine(he r a x _ W (l.hx hp d) hT.1).mono λv K' ⟨W',h1,h2⟩=> ?_;refine aM ?_;rw[fG,iP rfl];exact⟨W',h1,(VX.ext d).trans h2⟩
 by_cases h5:tk=52\/tk=51
 ·rcases h5 with rfl | rfl
  all_goals
   rw[fG,iN de,iP de] at hp⊢;refine dq Rl Kr (aK ?_);refine aM ?_;refine ef (λn fr c=>PgJ P step r a (K.new _) W ks n (fr 20) c) (n:=ks.length) ⟨0,W,rfl,bR _,by(refine aM ?_;all_goals rfl),l.hx hp d, .ext (ag.refl _)⟩ ?_;rintro n fr c ⟨i,D,rfl,hi,f20,m,s⟩ u;have eY:K.nx+1<=c.nx:=s.nx;have y:=(VX.ext d).trans s;by_cases j:i<ks.length
   ·obtain⟨t,ht⟩ : ∃t,ks[i]? = some t:=⟨_,cj j⟩;obtain⟨b,cs,e,kd,U,hb,ob,eg,dw,mj,E⟩:=T i t ht;subst U;have G : ∀b,A b->c.ob b=K.ob b:=λb hb=>y.ob b (hA b hb).1 (hA b hb).2 id;have V:=(G b hb).trans ob;obtain⟨k',l',x',o',H,I,J,L⟩:=BA E;have X:eP (ks.take (i+1))=eP (ks.take i)++fG t:=by
     obtain⟨_,e⟩:=List.getElem?_eq_some_iff.1 ht;rw[pJ j,e,Mz];simp[eP]
    have z:ag c (c.new (.cells [.int .i64 k', .int .i64 l', .string x', .int .i64 o', .slice H I J] 26 .ex)):=(ag.refl c).new _;have Y:(eP (ks.drop i)).length=(fG t).length+(eP (ks.drop (i+1))).length:=by
     obtain⟨_,e⟩:=List.getElem?_eq_some_iff.1 ht;rw[mz j,e,eP,cG]
    rw[Y,Nat.add_assoc] at m;have M:=O t (cy (BE (fD ht)) (by simp only[eX] at Q;omega)) (Q6 hT.2 (fD ht)) (c.new (.cells [.int .i64 k', .int .i64 l', .string x', .int .i64 o', .slice H I J] 26 .ex)) D A _ _ _ (E.mv λb hb=>⟨hb,(z.ob b (by have:=(hA b hb).1;omega)).trans (G b hb)⟩) (λb hb=>⟨by have:=(hA b hb).1;show b<c.nx+1;omega,λw=>(y.w b w).elim (hA b hb).2 λg=>by have:=(hA b hb).1;omega⟩) (l.hx m z);rw[L] at M;refine rn (o8 @u @f20 @V @L @ba @oQ) ?_;refine M.mono λv K2 ⟨Z,jx,nV⟩=> ?_;refine rn (an @u @f20) ?_;exact⟨ks.length-(i+1),Om,i+1,Z,rfl,j,rfl,by rw[X,N9];exact jx,(s.trans (VX.ext z)).trans nV⟩
   have j:i=ks.length:=by omega
   subst j;rw[ng,yu,eP,bZ,ba] at m;refine rn (an @u @f20) ?_;exact⟨D,m,y⟩
 refine dq Rl Kr (aK ?_);refine aM ?_;rw[fG,iN C,iN h5] at hp⊢;rw[bZ,ba] at hp;exact⟨W,l.hx hp d,VX.ext d⟩
theorem nZ{L:List Bs}{s:Bs}(h:s∈L):mf L s=1:=iP h
theorem n7{L:List Bs}{s:Bs}(h:s∉L):mf L s=0:=iN h
def PB (p i b bg bh:Nat)(h:Wh)(fns:List al):Nat->al->CH->(Nat->Prop)->Prop:=λr F K W=>F.ls.length+r<=1099511627776/\∃(ow:Ow) (v:ae) (bs:List Nat),(∀b,W b↔ow b≠none)/\(∀b,ow b≠none->b<K.nx)/\ow p=some (0,8)/\K.ob p= .cells [v] 65 .ex/\jR true K ow v (fo fns i λ_=>F) bs/\bs[i]? = some b/\ow bg=some (0,10)/\K.ob bg= .cells [pN b] 73 .ex/\ow bh=some (0,11)/\K.ob bh= .cells [.int .i64 (h.f:Nat), .bool h.lp, .bool h.hd, .bool h.mb] 69 .ex
theorem PB.ok{p i b bg bh:Nat}{h:Wh}{fns:List al}:Rk (PB p i b bg bh h fns) where
 st:=λr F K K' W ⟨d,ow,v,bs,h1,h2,h3,h4,h5,e,a,f,c,g⟩ hn hx=>⟨d,ow,v,bs,h1,λb hb=>cQ (h2 b hb) hn,h3,(hx p ((h1 p).2 (by rw[h3];simp))).trans h4,h5.mv (.refl hn) λb _ hb=>hx b ((h1 b).2 hb),e,a,(hx bg ((h1 bg).2 (by rw[a];simp))).trans f,c,(hx bh ((h1 bh).2 (by rw[c];simp))).trans g⟩
 lt:=λr F K W ⟨_,ow,v,bs,h1,h2,_⟩ b hb=>h2 b ((h1 b).1 hb)
def M8 (i:Nat)(F:al)(s:Bs):Prop:=s= []\/s∈F.ps\/s∈F.ls\/s∈F.g\/s∈F.o\/(i=0/\(46:UInt8)∉s)
def BoM (K:CH)(i:Nat)(F:al)(s:Bs)(bg bh:Nat)(x:bp)(fr:Fr)(H:CH):Prop:=ag K H/\((x= .normal/\fr 0= .string (tx s)/\fr 1=pN bg/\fr 2=pN bh/\¬M8 i F s)\/(x= .ret/\M8 i F s))
theorem XF{fns:List al}{i:Nat}{F:al}{u:al->al}:fo (fo fns i λ_=>F) i u=fo fns i λ_=>u F:=by
 unfold fo;apply DV;intro j;simp only[xh];by_cases h:i=j
 ·simp only[iP h];cases fns[j]?<;>rfl
 simp only[iN h];cases fns[j]?<;>rfl
theorem XG{fns:List al}{i:Nat}{F:al}(hi:i<fns.length):(fo fns i λ_=>F)[i]? = some F:=by
 unfold fo;rw[xh,cj hi];simp
theorem ao0{p i b bg bh:Nat}{h:Wh}{fns:List al}(hi:i<fns.length)(xT:h.f=i):aeJ 94 [pN bg,pN bh] (PB p i b bg bh h fns) (yc i):=by
 rintro r F s K W ⟨An,ow,v,bs,hW,T,U,bC,j7,Cp,M,C,Rm,Rn⟩ rJ;have wW:=j7;obtain⟨q,kd,rfl,oV,uo,iG,eg,fi⟩:=j7;obtain⟨N,gR,vp,vl,vc,vf,m1,m2,m3,G,E⟩:=fi.get i F b (XG hi) Cp;obtain⟨m,rfl,O,eY,wS⟩:=wV E.b;obtain⟨mu,rfl,kK,j0,nP⟩:=wV E.g;obtain⟨mw,rfl,rG,pC,zK⟩:=wV E.o;have tU:=T bg (by rw[M];simp);have V:=T bh (by rw[Rm];simp);have w:=EO (a:=s) (b:= []);have I:=wS.lk s;have D:=nP.lk s;have t:=zK.lk s;refine dq Rl Kr (aK ?_);refine aoG (BoM K i F s bg bh) ?_ ?_
 ·by_cases X:s= []
  ·rw[decide_eq_true X] at w;have w:bP (binOp .eql 0 (.string (tx s)) (.string ⟨⟨[]⟩⟩))=some (.bool true):=w;refine rn @w ?_;exact⟨ag.refl _, .inr ⟨rfl, .inl X⟩⟩
  rw[decide_eq_false X] at w;have w:bP (binOp .eql 0 (.string (tx s)) (.string ⟨⟨[]⟩⟩))=some (.bool false):=w;by_cases hp:s∈F.ps++F.ls
  ·rw[nZ hp] at I;have z:M8 i F s:=(List.mem_append.1 hp).elim (λh=> .inr (.inl h)) λh=> .inr (.inr (.inl h));by_cases hg:s∈F.g
   ·rw[nZ hg] at D;by_cases ho:s∈F.o
    ·rw[nZ ho] at t;repeat' (first | (simp (disch:=first | omega | (decide +kernel)) only[↓dx,↓cE,↓kM,↓fj,↓fZ,↓c9,↓nI,↓nJ,↓rL,↓AT,↓da,↓cM,↓dL,↓aH,↓aL,↓bf,cL,↓di,↓oD,cZ,eT,gh,jg,eU,pop,aD,↓reduceIte,Nat.reduceEqDiff,Int.reduceOfNat,reduceCtorEq,eZ,e9,Int.reduceAdd,gi,ba,w,C,G,I,D,t]) | ((with_reducible first|apply aE|apply aF|apply aG)<;>intro _))
     exact⟨ag.refl _, .inr ⟨rfl,z⟩⟩
    rw[n7 ho] at t;repeat' (first | (simp (disch:=first | omega | (decide +kernel)) only[↓dx,↓cE,↓kM,↓fj,↓fZ,↓c9,↓nI,↓nJ,↓rL,↓AT,↓da,↓cM,↓dL,↓aH,↓aL,↓bf,cL,↓di,↓oD,cZ,eT,gh,jg,eU,pop,aD,↓reduceIte,Nat.reduceEqDiff,Int.reduceOfNat,reduceCtorEq,eZ,e9,Int.reduceAdd,sD,gi,ba,w,C,G,I,D,t]) | ((with_reducible first|apply aE|apply aF|apply aG)<;>intro _))
    exact⟨ag.refl _, .inr ⟨rfl,z⟩⟩
   rw[n7 hg] at D;by_cases ho:s∈F.o
   ·rw[nZ ho] at t;repeat' (first | (simp (disch:=first | omega | (decide +kernel)) only[↓dx,↓cE,↓kM,↓fj,↓fZ,↓c9,↓nI,↓nJ,↓rL,↓AT,↓da,↓cM,↓dL,↓aH,↓aL,↓bf,cL,↓di,↓oD,cZ,eT,gh,jg,eU,pop,aD,↓reduceIte,Nat.reduceEqDiff,Int.reduceOfNat,reduceCtorEq,eZ,e9,Int.reduceAdd,sD,gi,ba,w,C,G,I,D,t]) | ((with_reducible first|apply aE|apply aF|apply aG)<;>intro _))
    exact⟨ag.refl _, .inr ⟨rfl,z⟩⟩
   rw[n7 ho] at t;repeat' (first | (simp (disch:=first | omega | (decide +kernel)) only[↓dx,↓cE,↓kM,↓fj,↓fZ,↓c9,↓nI,↓nJ,↓rL,↓AT,↓da,↓cM,↓dL,↓aH,↓aL,↓bf,cL,↓di,↓oD,cZ,eT,gh,jg,eU,pop,aD,↓reduceIte,Nat.reduceEqDiff,Int.reduceOfNat,reduceCtorEq,eZ,e9,sD,gi,ba,w,C,G,I,D,t]) | ((with_reducible first|apply aE|apply aF|apply aG)<;>intro _))
   exact⟨ag.refl _, .inr ⟨rfl,z⟩⟩
  rw[n7 hp] at I;have IL:s∉F.ps/\s∉F.ls:=⟨λh=>hp (List.mem_append.2 (.inl h)),λh=>hp (List.mem_append.2 (.inr h))⟩;by_cases hg:s∈F.g
  ·rw[nZ hg] at D;have z:M8 i F s:= .inr (.inr (.inr (.inl hg)));by_cases ho:s∈F.o
   ·rw[nZ ho] at t;repeat' (first | (simp (disch:=first | omega | (decide +kernel)) only[↓dx,↓cE,↓kM,↓fj,↓fZ,↓c9,↓nI,↓nJ,↓rL,↓AT,↓da,↓cM,↓dL,↓aH,↓aL,↓bf,cL,↓di,↓oD,cZ,eT,gh,jg,eU,pop,aD,↓reduceIte,Nat.reduceEqDiff,Int.reduceOfNat,reduceCtorEq,eZ,e9,Int.reduceAdd,Cb,gi,ba,w,C,G,I,D,t]) | ((with_reducible first|apply aE|apply aF|apply aG)<;>intro _))
    exact⟨ag.refl _, .inr ⟨rfl,z⟩⟩
   rw[n7 ho] at t;repeat' (first | (simp (disch:=first | omega | (decide +kernel)) only[↓dx,↓cE,↓kM,↓fj,↓fZ,↓c9,↓nI,↓nJ,↓rL,↓AT,↓da,↓cM,↓dL,↓aH,↓aL,↓bf,cL,↓di,↓oD,cZ,eT,gh,jg,eU,pop,aD,↓reduceIte,Nat.reduceEqDiff,Int.reduceOfNat,reduceCtorEq,eZ,e9,Cb,sD,gi,ba,w,C,G,I,D,t]) | ((with_reducible first|apply aE|apply aF|apply aG)<;>intro _))
   exact⟨ag.refl _, .inr ⟨rfl,z⟩⟩
  rw[n7 hg] at D;by_cases ho:s∈F.o
  ·rw[nZ ho] at t;have z:M8 i F s:= .inr (.inr (.inr (.inr (.inl ho))));repeat' (first | (simp (disch:=first | omega | (decide +kernel)) only[↓dx,↓cE,↓kM,↓fj,↓fZ,↓c9,↓nI,↓nJ,↓rL,↓AT,↓da,↓cM,↓dL,↓aH,↓aL,↓bf,cL,↓di,↓oD,cZ,eT,gh,jg,eU,pop,aD,↓reduceIte,Nat.reduceEqDiff,Int.reduceOfNat,reduceCtorEq,eZ,e9,Cb,sD,gi,ba,w,C,G,I,D,t]) | ((with_reducible first|apply aE|apply aF|apply aG)<;>intro _))
   exact⟨ag.refl _, .inr ⟨rfl,z⟩⟩
  rw[n7 ho] at t;by_cases h0:i=0
  ·have wu:(h.f:Int)=0:=by omega
   have eN:(tx s).size<=9223372036854775807:=by show s.length<=_;omega
   have pf:ag K (K.new (.cells (s.map λb=> .int .u8 b.toNat) 5 .gr)):=(ag.refl K).new _;have hsa:ig 1 (pY .u8) (K.new (.cells (s.map λb=> .int .u8 b.toNat) 5 .gr)) (some ⟨K.nx,0,none⟩) s.length (l6 s):=by
    refine .inr ⟨K.nx,0,_,_,_,rfl,fN _,by rw[CQ];exact ai _,by rw[gE];omega,iu,by rw[CQ];simp,λj hj=> ?_⟩;rw[CQ] at hj;rw[ba,fp,mz (by simpa using hj)];refine⟨by simp[l6],?_⟩;have arU:=s[j].toNat_lt;simp[l6,Lit.wf,IntKind.min,IntKind.max,IntKind.signed,IntKind.bits];omega
   repeat' (first | (simp (disch:=first | omega | (decide +kernel)) only[↓dx,↓kM,↓c9,↓nI,↓Ue,↓nJ,↓da,↓cM,↓dL,↓iB,↓KO,↓aH,↓aL,↓bf,cL,lj,cZ,eT,gh,tQ,jg,eU,pop,aD,bq,c8,iw,↓reduceIte,Nat.reduceEqDiff,Int.reduceOfNat,reduceCtorEq,eZ,e9,sD,gE,gi,oK,ba,mA,w,C,Rn,G,I,D,t,wu,eN]) | ((with_reducible first|apply aE|apply aF|apply aG)<;>intro _))
   refine(aoZ hsa Om).mono λr K' ⟨eK,er⟩=> ?_;subst er;rw[eK];by_cases js:(46:UInt8)∈s
   ·rw[decide_eq_true js];refine aM ?_;refine⟨pf, .inl ⟨rfl,by(exact aV;all_goals rfl),by(exact aV;all_goals rfl),by(exact aV;all_goals rfl),λz=> ?_⟩⟩;rcases z with h | h | h | h | h | h
    ·exact X h
    ·exact IL.1 h
    ·exact IL.2 h
    ·exact hg h
    ·exact ho h
    exact h.2 js
   rw[decide_eq_false js];refine aM ?_;exact⟨pf, .inr ⟨rfl, .inr (.inr (.inr (.inr (.inr ⟨h0,js⟩))))⟩⟩
  have wu:(h.f:Int)≠0:=by omega
  repeat' (first | (simp (disch:=first | omega | (decide +kernel)) only[↓dx,↓cE,↓kM,↓fj,↓oJ,↓c9,↓nI,↓nJ,↓Uf,↓da,↓cM,↓dL,↓aH,↓aL,↓bf,cL,↓di,↓jW,cZ,eT,gh,tQ,jg,eU,pop,aD,↓reduceIte,Nat.reduceEqDiff,Int.reduceOfNat,reduceCtorEq,eZ,e9,sD,oK,ba,mA,w,C,Rn,G,I,D,t,wu]) | ((with_reducible first|apply aE|apply aF|apply aG)<;>intro _))
  refine⟨ag.refl _, .inl ⟨rfl,by(exact aV;all_goals rfl),by(exact aV;all_goals rfl),by(exact aV;all_goals rfl),λz=> ?_⟩⟩;rcases z with h | h | h | h | h | h
  ·exact X h
  ·exact IL.1 h
  ·exact IL.2 h
  ·exact hg h
  ·exact ho h
  exact h0 h.1
 rintro x1 fr H ⟨hx,⟨rfl,f0,f1,f2,mh⟩ | ⟨rfl,z⟩⟩
 ·have wz:yc i F s= { F with ls:=F.ls++ [s] }:=iN mh;obtain⟨oo,oW,nX⟩:=wS.up s 1;have hnH:=hx.nx;have omm:=hx.ob m eY;rw[<-omm] at oW;have Y:=(hx.ob bg tU).trans C;have BQ:=(hx.ob b gR).trans G;rw[cE,wz];have Z:bg≠m:=λe=>by rw[e,O] at M;simp at M
  have ao1:b≠m:=λe=>by rw[e,O] at N;simp at N
  have ao2:b≠bg:=λe=>by rw[e,M] at N;simp at N
  have aeM : ∀x d,x<K.nx->ow x=some d->d≠(i,2)->ir vl x:=λx d _ e aB o n c B=>by
   rcases E.l with ⟨_,g⟩ | ⟨r',mT,g,g1,g2,_⟩
   ·rw[g] at B;cases B
   rw[g] at B;cases B;rw[g1] at e;cases e;exact aB rfl
  repeat' (first | (simp (disch:=first | omega | (decide +kernel)) only[↓dx,↓cE,↓ez,↓c9,↓CL,↓CM,↓Pb,nK,bT,↓da,↓cM,↓dL,↓kj,↓iB,↓aH,↓dA,↓aL,↓bf,kf,bS,br,cL,lj,ki,↓di,pop,aD,cq,bq,db,isVal,ci,c8,iw,dC,↓reduceIte,Nat.reduceEqDiff,Int.reduceOfNat,reduceCtorEq,eZ,e9,bN,bZ,jD,kQ,pu,qx,kc,gI,gY,tB,tz,jt,jS,dv,Nat.reduceLeDiff,ai,tR,↓mP,kO,fp,ba,mA,and_true,f0,f1,Y,BQ,oW,Z,ao1]) | ((with_reducible first|apply aE|apply aF|apply aG)<;>intro _))
  have aeN:eV (um 0) 9 1 fU ((H.set m oo).new (.cells [.string (tx s)] 9 .ex)) vl F.ls:=by
   refine eV.nx E.l.gr (by show K.nx<=H.nx+1;omega) λy g1 g2 ⟨n',c',B⟩=> ?_;have ry:ow y=some (i,2):=by
    rcases E.l with ⟨_,g⟩ | ⟨r',mT,g,g1,g2,_⟩
    ·rw[g] at B;cases B
    rw[g] at B;cases B;exact g1
   have M9:y≠m:=λe=>by rw[e,O] at ry;simp at ry
   rw[bL (by show y≠H.nx;omega),cO M9];exact hx.ob y g2
  refine Di (A:=um 0) (bytes:=16) (f:=fU) (y:=s) BI aeN Om Om rfl λK3 k1 k2 k3=> ?_;have k2:K3.nx=H.nx+1+1:=k2;have Dy : ∀y d,y<K.nx->ow y=some d->d≠(i,2)->d≠(i,5)->K3.ob y=K.ob y:=λy d hy e h1 h2=>by
   have M9:y≠m:=λe2=>by rw[e2,O] at e;cases e;exact h2 rfl
   rw[k3 y (by show y<H.nx+1;omega) (aeM y d hy e h1),bL (by show y≠H.nx;omega),cO M9];exact hx.ob y hy
  have ao3:=(Dy bg _ tU M Sm Sm).trans C;have XH:=(Dy b _ gR N Sm Sm).trans G;repeat' (first | (simp (disch:=first | omega | (decide +kernel)) only[↓O5,↓CL,↓KT,↓CM,↓KU,↓KW,↓KX,KY,KV,qG,nK,bT,↓cM,↓dL,↓iB,↓aH,↓dA,↓aL,jK,kf,br,cL,lj,EJ,pop,aD,bq,cY,isVal,a8,ci,↓reduceIte,Nat.reduceEqDiff,Nat.reduceAdd,eZ,e9,bN,bZ,jD,rM,kc,gI,gZ,ju,qw,uB,pL,Kd.bY,jt,jS,Nat.reduceLeDiff,ba,mA,and_true,f1,Y,ao3,XH,Z]) | ((with_reducible first|apply aE|apply aF|apply aG)<;>intro _))
  obtain⟨P,Q⟩ : ∃P,P=K3.set b (.cells [.string (tx F.nm), .int .i64 F.par,vp, .slice (some ⟨H.nx+1,0,none⟩) (F.ls.length+1) (F.ls.length+1),vc,vf, .bool F.gen, .map (some m), .map (some mu), .map (some mw)] 75 .ex):=⟨_,rfl⟩;rw[<-Q];have Br:P.nx=H.nx+1+1:=by rw[Q];exact k2
  have aeO : ∀y d,ow y=some d->d≠(i,0)->y≠b:=λy d e aB e2=>by rw[e2,N] at e;cases e;exact aB rfl
  have L : ∀y d,y<K.nx->ow y=some d->d≠(i,0)->d≠(i,2)->d≠(i,5)->P.ob y=K.ob y:=λy d hy e h0 h1 h2=>by
   rw[Q,cO (aeO y d e h0)];exact Dy y d hy e h1 h2
  let cf:Ow:=λx=>if x=H.nx+1 then some (i,2) else ow x
  have J:pG ow cf K P:=⟨Om,λx hx=>by
   show(if x=H.nx+1 then _ else ow x)=ow x;rw[iN Om]⟩
  have R:m≠b:=aeO m _ O Sm;have om4:P.ob m=oo:=by
   rw[Q,cO R,k3 m (by show m<H.nx+1;omega) (aeM m _ eY O Sm),bL (by show m≠H.nx;omega),br,iP rfl]
  refine⟨λx=>cf x≠none,⟨Sq,cf,_,bs,λx=>eM,λx hx=> ?_,(J.ow p (T p (by rw[U];simp))).trans U,(L p _ (T p (by rw[U];simp)) U Sm Sm Sm).trans bC,?_,Cp,(J.ow bg tU).trans M,(L bg _ tU M Sm Sm Sm).trans C,(J.ow bh V).trans Rm,(L bh _ V Rm Sm Sm Sm).trans Rn⟩,⟨Om,λy g1 g2 _=> ?_,λy g=> ?_⟩⟩
  ·have hx:(if x=H.nx+1 then some (i,2) else ow x)≠none:=hx;by_cases h1:x=H.nx+1
   ·omega
   rw[iN h1] at hx;have:=T x hx;omega
  ·rw[<-XF (F:=F) (u:=λ_=> { F with ls:=F.ls++ [s] })];refine wW.dE (XG hi) Cp J (λy i' j g1 g2 g3=>L y (i',j) g1 g2 Sq Sq Sq) ?_;refine⟨(J.ow b gR).trans N,Om,vp,_,vc,vf,_,_,_,by rw[Q,br,iP rfl],?_⟩;refine⟨E.p.mv J λy g1 g2=>L y _ g1 g2 Sm Sm Sm, .inr ⟨H.nx+1, .gr,Sm,?_,Om,?_,rfl⟩,E.c.mv J λy g1 g2=>L y _ g1 g2 Sm Sm Sm,E.f.mv J λy g1 g2=>L y _ g1 g2 Sm Sm Sm,II ((J.ow m eY).trans O) Om ?_,E.g.mv J λy g1 g2=>L y _ g1 g2 Sm Sm Sm,E.o.mv J λy g1 g2=>L y _ g1 g2 Sm Sm Sm⟩;·show(if H.nx+1=H.nx+1 then _ else _)=_;rw[iP rfl]
   ·rw[Q,cO Om];exact k1
   show gM P m (mf (F.ps++(F.ls++ [s])));rw[<-oY,<-Dx];exact nX P om4
  ·by_cases S:ow y=none
   ·have hyb:y≠b:=λe=>by rw[e,N] at S;cases S
    have M9:y≠m:=λe=>by rw[e,O] at S;cases S
    have EX:ir vl y:=λo n c B=>by
     rcases E.l with ⟨_,g⟩ | ⟨r',mT,g,g1,_⟩
     ·rw[g] at B;cases B
     rw[g] at B;cases B;rw[g1] at S;cases S
    rw[Q,cO hyb,k3 y (by show y<H.nx+1;omega) EX,bL (by show y≠H.nx;omega),cO M9];exact hx.ob y g1
   exact absurd ((hW y).2 S) g2
  have g:(if y=H.nx+1 then some (i,2) else ow y)≠none:=g;by_cases h1:y=H.nx+1
  ·exact .inr Om
  rw[iN h1] at g;exact .inl ((hW y).2 g)
 have wz:yc i F s=F:=iP z;rw[wz];refine aM ?_;exact⟨W,PB.ok.hx (r:=r) ⟨Om,ow,_,bs,hW,T,U,bC,wW,Cp,M,C,Rm,Rn⟩ hx,VX.ext hx⟩
def JS (p i b:Nat)(fns:List al)(K:CH)(W:Nat->Prop):Prop:=∃(ow:Ow) (v:ae) (bs:List Nat),(∀b,W b↔ow b≠none)/\(∀b,ow b≠none->b<K.nx)/\ow p=some (0,8)/\K.ob p= .cells [v] 65 .ex/\jR true K ow v fns bs/\bs[i]? = some b
theorem Ro{fns:List al}{i:Nat}{F:al}(h:fns[i]? = some F):(fo fns i λ_=>F)=fns:=by
 unfold fo;apply DV;intro j;rw[xh];by_cases a:i=j
 ·subst a;rw[h];simp
 simp only[iN a];cases fns[j]?<;>rfl
theorem Na{fns:List al}{i:Nat}{F:al}{u:al->al}(h:fns[i]? = some F):fo fns i u=fo fns i λ_=>u F:=by
 conv=>lhs;rw[<-Ro h]
 exact XF
def BiJ (p i b bg bh:Nat)(h:Wh)(fns:List al)(F:al)(K:CH)(W:Nat->Prop)(ks:List Nd)(n:Nat)(v:ae)(a:CH):Prop:=∃(j:Nat) (c:Nat->Prop),n=ks.length-j/\j<=ks.length/\v= .int .i64 (j:Nat)/\PB p i b bg bh h fns (eP (ks.drop j)).length ((eP (ks.take j)).foldl (yc i) F) a c/\VX nU W c K a
theorem ao4{p i b:Nat}{fns:List al}{t:Nd}{h:Wh}{F:al}(P:h.f=i)(hF:fns[i]? = some F)(An:F.ls.length+(kz (t,h)).length<=1099511627776)(hT:qS 2199023255552 t){K:CH}{W A:Nat->Prop}{os:List ae}(hs:bK K A (cF t) os)(hA : ∀b,A b->b<K.nx/\¬W b)(hj:JS p i b fns K W):aQ gH 57 [.agg os.toArray, .agg (qU h).toArray,pN b] K λ_ K'=>∃W',JS p i b (fo fns i (tg (t,h))) K' W'/\VX nU W W' K K':=by
 obtain⟨k,l,x,o,ks⟩:=t;obtain⟨q,rfl,dJ⟩:=iq hs;obtain⟨q',e,cW,lV,fq⟩:=lr dJ;cases e;rw[gE] at cW;have hi:i<fns.length:=(List.getElem?_eq_some_iff.1 hF).1;obtain⟨ow,v,bs,hW,aU,iv,bC,j7,Cp⟩:=hj;obtain⟨K0,d⟩ : ∃K0,K0=((K.new (.cells [.int .i64 (k:Nat), .int .i64 l, .string (tx x), .int .i64 (o:Nat), .slice q ks.length ks.length] 26 .ex)).new (.cells [.int .i64 (h.f:Nat), .bool h.lp, .bool h.hd, .bool h.mb] 69 .ex)).new (.cells [pN b] 73 .ex):=⟨_,rfl⟩;have E:ag K K0:=by rw[d];exact(((ag.refl K).new _).new _).new _
 have sJ:K0.nx=K.nx+3:=by rw[d];rfl
 have Y:K0.ob K.nx= .cells [.int .i64 (k:Nat), .int .i64 l, .string (tx x), .int .i64 (o:Nat), .slice q ks.length ks.length] 26 .ex:=by
  rw[d,bL (by show K.nx≠K.nx+1+1;omega),bL (by show K.nx≠K.nx+1;omega),iu]
 have Q:K0.ob (K.nx+1)= .cells [.int .i64 (h.f:Nat), .bool h.lp, .bool h.hd, .bool h.mb] 69 .ex:=by
  rw[d,bL (by show K.nx+1≠K.nx+1+1;omega)];exact iu (K:=K.new _)
 have og0:K0.ob (K.nx+2)= .cells [pN b] 73 .ex:=by
  rw[d];exact iu (K:=(K.new _).new _)
 let FK:Ow:=λy=>if y=K.nx+2 then some (0,10) else if y=K.nx+1 then some (0,11) else ow y
 let W0:Nat->Prop:=λy=>FK y≠none
 have ie:pG ow FK K K0:=⟨E.nx,λy a=>by
  show(if y=K.nx+2 then _ else if y=K.nx+1 then _ else ow y)=ow y;rw[iN Om,iN Om]⟩
 have gy:p<K.nx:=aU p (by rw[iv];simp);have B:PB p i b (K.nx+2) (K.nx+1) h fns (kz (.mk k l x o ks,h)).length F K0 W0:=by
  refine⟨An,FK,v,bs,λy=>eM,λy a=> ?_,(ie.ow p gy).trans iv,(E.ob p gy).trans bC,?_,Cp,iP rfl,og0,?_,Q⟩
  ·have a:(if y=K.nx+2 then some (0,10) else if y=K.nx+1 then some (0,11) else ow y)≠none:=a;by_cases h1:y=K.nx+2
   ·omega
   rw[iN h1] at a;by_cases h2:y=K.nx+1
   ·omega
   rw[iN h2] at a;have:=aU y a;omega
  ·rw[Ro hF];exact j7.mv ie λy a _=>E.ob y a
  show(if K.nx+1=K.nx+2 then _ else if K.nx+1=K.nx+1 then some (0,11) else _)=_;rw[iN Om,iP rfl]
 have Rp:VX nU W W0 K K0:=⟨E.nx,λy a _ _=>E.ob y a,λy a=>by
  by_cases hyK:y<K.nx
  ·refine .inl ((hW y).2 ?_);rw[<-ie.ow y hyK];exact a
  exact .inr Om⟩
 have C : ∀y,A y->y<K0.nx/\¬W0 y:=λy a=>⟨by have:=(hA y a).1;omega,λw=>(Rp.w y w).elim (hA y a).2 λg=>by have:=(hA y a).1;omega⟩;have R : ¬W0 K.nx:=λw=>by
  have w:(if K.nx=K.nx+2 then some (0,10) else if K.nx=K.nx+1 then some (0,11) else ow K.nx)≠none:=w;rw[iN Om,iN Om] at w;have:=aU K.nx w;omega
 have he:=ao0 (p:=p) (b:=b) (bg:=K.nx+2) (bh:=K.nx+1) hi P;have J : ∀(r:Nat) (F':al) (c:CH) (L:Nat->Prop),PB p i b (K.nx+2) (K.nx+1) h fns r F' c L->VX nU W0 L K0 c->F'=tg (.mk k l x o ks,h) F->∃W',JS p i b (fo fns i (tg (.mk k l x o ks,h))) c W'/\VX nU W W' K c:=by
  rintro r F' c L ⟨_,vG,Z,XI,g1,g2,g3,g4,g5,g6,_⟩ eD rfl;exact⟨L,⟨vG,Z,XI,g1,g2,g3,g4,by rw[Na hF];exact g5,g6⟩,Rp.trans eD⟩
 have mi : ∀s:Bs,kz (.mk k l x o ks,h)= [s]->s.length<=2199023255552->aQ gH 94 [.string (tx s),pN (K.nx+2),pN (K.nx+1)] K0 λ_ K'=>∃W',JS p i b (fo fns i (tg (.mk k l x o ks,h))) K' W'/\VX nU W W' K K':=λs hb rJ=>by
  rw[hb] at B;refine(he 0 F s K0 W0 B rJ).mono λZ c ⟨L,FL,eD⟩=>J 0 _ c L FL eD ?_;unfold tg;rw[hb];show _= [s].foldl (yc h.f) F;rw[P];rfl
 unfold qU;have xr:x.length<=2199023255552:=hT.1;have rT:kz (.mk k l x o ks,h)= []->∃W',JS p i b (fo fns i (tg (.mk k l x o ks,h))) K0 W'/\VX nU W W' K K0:=λe=>J _ F K0 W0 B (.ext (ag.refl _)) (by unfold tg;rw[e];rfl);have ya:=Mx (K:=K0) (A:=A) (hs.mv λy a=>⟨a,E.ob y (hA y a).1⟩) (λy a=>(C y a).1);by_cases h8:k=8
 ·subst h8;cases z:h.mb
  ·rw[z] at d;refine dq Rl Kr (aK ?_);refine rn @z ?_;rw[<-d];refine(mi x (by simp[kz,Nd.kind,Nd.text,z]) xr).mono λv c h1=> ?_;refine aM ?_;exact h1
  rw[z] at d;refine dq Rl Kr (aK ?_);refine rn @z ?_;rw[<-d];exact rT (by simp[kz,Nd.kind,Nd.text,z])
 by_cases h9:k=9\/k=16\/k=21
 ·rcases h9 with rfl | rfl | rfl
  all_goals
   refine dq Rl Kr (aK ?_);refine aM ?_;rw[<-d];refine(mi x (by simp[kz,Nd.kind,Nd.text]) xr).mono λv c h1=> ?_;refine aM ?_;exact h1
 by_cases h4:k=4\/k=7\/k=58
 ·have G:kz (.mk k l x o ks,h)=fG (cV ks):=by
   rcases h4 with rfl | rfl | rfl<;>simp[kz,Nd.kind,Nd.kids]
  have hTk:qS 2199023255552 (cV ks):=by
   cases ks with
   | nil=>exact⟨bR _,trivial⟩
   | cons n r=>exact hT.2.1
  rw[G] at B;have rH : ∀(c:CH) (D:List ae),ag K0 c->bK K0 A (cF (cV ks)) D->aQ gH 48 [.agg D.toArray, .func (.func 94) #[] #[pN (K.nx+2),pN (K.nx+1)]] c λ_ K'=>∃W',JS p i b (fo fns i (tg (.mk k l x o ks,h))) K' W'/\VX nU W W' K K':=λc D u H=>by
   refine(aeK (cap:= [pN (K.nx+2),pN (K.nx+1)]) PB.ok he (eX (cV ks)) (cV ks) (ai _) hTk c W0 A D 0 F (H.mv λy a=>⟨a,u.ob y (C y a).1⟩) (λy a=>⟨cQ (C y a).1 u.nx,(C y a).2⟩) (PB.ok.hx B u)).mono λv2 K2 ⟨W2,Fp,nV⟩=> ?_;refine J 0 _ K2 W2 Fp ((VX.ext u).trans nV) ?_;unfold tg;rw[G];show _=(fG (cV ks)).foldl (yc h.f) F;rw[P]
  rcases h4 with rfl | rfl | rfl
  all_goals
   refine dq Rl Kr (aK ?_);refine aM ?_;rw[<-d];refine ya.mono λZ c ⟨D,e1,u,H⟩=> ?_;subst e1;refine aM ?_;refine(rH c D u H).mono λv2 K2 h2=> ?_;refine aM ?_;exact h2
 by_cases Ih:k=19
 ·subst Ih;refine dq Rl Kr (aK ?_);refine aM ?_;rw[<-d];refine ya.mono λZ c ⟨D,e1,u,H⟩=> ?_;subst e1;have H:bK K0 A (cF (cV ks)) D:=H;have eY:=u.nx;have jd:=(u.ob K.nx Om).trans Y;cases ks with
  | nil=>
    obtain⟨q1,rfl,_⟩:=iq (show bK K0 A (cF (.mk 0 0 [] 0 [])) D from H);refine aM ?_;refine(λh1=> ?_) (J _ F c W0 (PB.ok.hx B u) (.ext u) (by unfold tg;simp[kz,Nd.kind,Nd.kids,cV]));exact h1
  | cons m r=>
    obtain⟨mk,ml,mx,mo,cI⟩:=m;obtain⟨q1,rfl,_⟩:=iq (show bK K0 A (cF (.mk mk ml mx mo cI)) D from H);obtain⟨M,cs,e,mU,fM,kB,ob,yf,pO,mj,aW⟩:=fq 0 _ rfl;obtain⟨mq,dt,_⟩:=iq aW;obtain⟨_,_,g2,_,_⟩:=aex dt;have jr:=(u.ob M (C M kB).1).trans ((E.ob M (hA M kB).1).trans ob);by_cases lu:mk=36
    ·subst lu;have G:kz (.mk 19 l x o (.mk 36 ml mx mo cI::r),h)= [mx]:=by simp[kz,Nd.kind,Nd.kids,cV,Nd.text]
     rw[G] at B;refine rn (o8 @jd @fM @jr @g2 @ba @xf) ?_;refine(he 0 F mx c W0 (PB.ok.hx B u) hT.2.1.1).mono λv2 K2 ⟨W2,Fp,nV⟩=> ?_;refine aM ?_;refine J 0 _ K2 W2 Fp ((VX.ext u).trans nV) ?_;unfold tg;rw[G];show _= [mx].foldl (yc h.f) F;rw[P];rfl
    refine rn @jd ?_;refine(λh1=> ?_) (J _ F c W0 (PB.ok.hx B u) (.ext u) (by unfold tg;simp[kz,Nd.kind,Nd.kids,cV,lu]));exact h1
 by_cases h3:k=3
 ·subst h3;cases z:h.mb
  ·have G:kz (.mk 3 l x o ks,h)=eP ks.dropLast:=by simp[kz,Nd.kind,Nd.kids,z]
   rw[G] at B;rw[z] at d Q;refine dq Rl Kr (aK ?_);refine rn @z ?_;rw[<-d];refine ef (λn fr c=>BiJ p i b (K.nx+2) (K.nx+1) h fns F K0 W0 ks.dropLast n (fr 7) c) (n:=ks.dropLast.length) ⟨0,W0,rfl,bR _,by(refine aM ?_;all_goals rfl),B, .ext (ag.refl _)⟩ ?_;rintro n rI S ⟨j,W5,rfl,hj,f7,T,N⟩ O;have rU:=N.nx;have Rq:=(N.ob K.nx Om R id).trans Y;have U:S.ob (K.nx+1)= .cells [.int .i64 (h.f:Nat), .bool h.lp, .bool h.hd, .bool false] 69 .ex:=by
    obtain⟨_,_,_,_,_,_,_,_,_,_,_,_,_,g⟩:=T;rw[z] at g;exact g
   by_cases I:j<ks.dropLast.length
   ·have V:j+1<ks.length:=by rw[List.length_dropLast] at I;omega
    obtain⟨t,ht⟩ : ∃t,ks[j]? = some t:=⟨_,cj Om⟩;have X:ks.dropLast[j]? = some t:=by rw[List.getElem?_dropLast,iP Om];exact ht
    obtain⟨M,cs,e,mU,fM,kB,ob,yf,pO,mj,aW⟩:=fq j t ht;subst fM;have tT : ∀y,A y->S.ob y=K.ob y:=λy a=>(N.ob y (C y a).1 (C y a).2 id).trans (E.ob y (hA y a).1);have jr:=(tT M kB).trans ob;obtain⟨k',l',x',o',wa,wn,wc,dt⟩:=BA aW;have ao5:eP (ks.dropLast.take (j+1))=eP (ks.dropLast.take j)++fG t:=by
     obtain⟨_,e⟩:=List.getElem?_eq_some_iff.1 X;rw[pJ I,e,Mz];simp[eP]
    have jH:(eP (ks.dropLast.drop j)).length=(fG t).length+(eP (ks.dropLast.drop (j+1))).length:=by
     obtain⟨_,e⟩:=List.getElem?_eq_some_iff.1 X;rw[mz I,e,eP,cG]
    rw[jH] at T;have iZ:=aeK (cap:= [pN (K.nx+2),pN (K.nx+1)]) PB.ok he (eX t) t (ai _) (Q6 hT.2 (fD ht)) S W5 A _ _ _ (aW.mv λy a=>⟨a,tT y a⟩) (λy a=>⟨cQ (C y a).1 rU,λw=>(N.w y w).elim (C y a).2 λg=>by have:=(C y a).1;omega⟩) T;rw[dt] at iZ;refine rn (qz @O @f7 @Rq @U @jr @dt @V @ba) ?_;refine iZ.mono λv6 K6 ⟨W6,hP6,pF⟩=> ?_;refine rn (an @O @f7) ?_;exact⟨ks.dropLast.length-(j+1),Om,j+1,W6,rfl,I,rfl,by rw[ao5,N9];exact hP6,N.trans pF⟩
   have I:j=ks.dropLast.length:=by omega
   have arV:j=ks.length-1:=by rw[List.length_dropLast] at I;exact I
   have V : ¬(j:Int)+1<(ks.length:Int):=by omega
   rw[I,ng,yu,eP,bZ] at T;refine rn (jz @O @f7 @Rq @U) ?_;refine J 0 _ S W5 T N ?_;unfold tg;rw[G];show _=(eP ks.dropLast).foldl (yc h.f) F;rw[P]
  rw[z] at d Q;refine dq Rl Kr (aK ?_);refine rn @z ?_;rw[<-d];refine ef (λn fr c=>n=0/\fr 7= .int .i64 0/\c=K0) (n:=0) ⟨rfl,by(exact aV;all_goals rfl),rfl⟩ ?_;rintro n rI S ⟨rfl,f7,rfl⟩ O;have S8:=rT (by simp[kz,Nd.kind,Nd.kids,z]);by_cases V:(0:Int)+1<(ks.length:Int)
  ·refine rn (jL @O @f7 @Y @Q @V) ?_;exact S8
  refine rn (jL @O @f7 @Y @Q @V) ?_;exact S8
 refine dq Rl Kr (aK ?_);refine aM ?_;rw[<-d];exact rT (by simp[kz,Nd.kind,h3,h4,Ih,h8,h9])
theorem ao6{p:Nat}{E:List Ev}{d:List al}(z : ∀e∈E,e.2.f<d.length)(hb : ∀pre e rest F,pre++e::rest=E->(vE d pre)[e.2.f]? = some F->F.ls.length+(kz e).length<=1099511627776)(hT : ∀e∈E,qS 2199023255552 e.1):Dr 56 [pN p] E (JF true p (vE d)):=by
 rintro pre ⟨t,h⟩ rest K W A os j B hs hA;obtain⟨ow,v,bs,C,l,m,n,o⟩:=B;have D:=o;obtain⟨q,kd,rfl,R,S,G,T,r⟩:=o;have s:(t,h)∈E:=by rw[<-j];simp
 have H:p<K.nx:=l p (by rw[m];simp);have g:h.f<d.length:=z (t,h) s;obtain⟨F,u⟩ : ∃F,(vE d pre)[h.f]? = some F:=⟨_,cj (by rw[Rj];exact g)⟩;obtain⟨b,w⟩ : ∃b,bs[h.f]? = some b:=⟨_,cj (by rw[r.len,Rj];exact g)⟩;obtain⟨I,U⟩:=zJ w;have J:h.f<bs.length:=by rw[r.len,Rj];exact g
 have L:=hb pre (t,h) rest F j u;have M:=hT (t,h) s;obtain⟨nt,rfl⟩:=qN hs;have c:ag K ((K.new (.cells (eB nt) 26 .ex)).new (.cells [.int .i64 (h.f:Nat), .bool h.lp, .bool h.hd, .bool h.mb] 69 .ex)):=((ag.refl K).new _).new _;have x:=ao4 (p:=p) (i:=h.f) (b:=b) (h:=h) rfl u L M (K:=(K.new (.cells (eB nt) 26 .ex)).new (.cells [.int .i64 (h.f:Nat), .bool h.lp, .bool h.hd, .bool h.mb] 69 .ex)) (W:=W) (A:=A) (hs.mv λy a=>⟨a,c.ob y (hA y a).1⟩) (λy a=>⟨cQ (hA y a).1 c.nx,(hA y a).2⟩) ⟨ow,_,bs,C,λy a=>cQ (l y a) c.nx,m,(c.ob p H).trans n,D.mv (.refl c.nx) λy a _=>c.ob y a,w⟩;unfold qU eB at x⊢;refine dq Rl Kr (aK ?_);refine rn (jz @n @G @I @J) ?_;refine x.mono λV X ⟨N,⟨O,v2,P,g1,g2,g3,g4,g5,_⟩,Q⟩=> ?_;refine aM ?_;exact⟨N,⟨O,v2,P,g1,g2,g3,g4,by rw[aoT];exact g5⟩,(VX.ext c).trans Q⟩
def ao7 (K:CH)(ow:Ow)(fns:List al)(bs:List Nat)(n:Nat):Prop:=∀j F b,fns[j]? = some F->bs[j]? = some b->FI (decide (j<n)) K ow j b F
def CmJ (K0:CH)(p q:Nat)(kd:Kd)(fns:List al)(bs:List Nat)(n:Nat)(v:ae)(a:CH):Prop:=∃(i:Nat) (ow:Ow),n=bs.length-i/\i<=bs.length/\v= .int .i64 (i:Nat)/\ag K0 a/\(∀y,ow y≠none->K0.nx+1<=y/\y<a.nx)/\ow p=some (0,8)/\a.ob p= .cells [.slice (some ⟨q,0,none⟩) bs.length bs.length] 65 .ex/\ow q=some (0,9)/\a.ob q= .cells (bs.flatMap λb=> [pN b]) 73 kd/\ao7 a ow fns bs i
def CqJ (K0:CH)(a:Nat)(ps:List Bs)(n:Nat)(v:ae)(b:CH):Prop:=∃i:Nat,n=ps.length-i/\i<=ps.length/\v= .int .i64 (i:Nat)/\dr a K0 b/\gM b a (mf (ps.take i))
theorem aeP{K:CH}{ow:Ow}{a:Nat×Nat}{v:ae}{xs:List Bs}(h:iQ K ow a v xs){i:Nat}(hi:i<xs.length) : ∃r kd,v= .slice (some ⟨r,0,none⟩) xs.length xs.length/\ow r=some a/\r<K.nx/\K.ob r= .cells (xs.flatMap fU) 9 kd/\(xs.flatMap fU)[i]? = some (.string (tx xs[i]))/\i<(xs.flatMap fU).length:=by
 rcases h with ⟨rfl,_⟩ | ⟨r,kd,h1,h2,h3,h4,h5⟩
 ·cases hi
 refine⟨r,kd,h1,h2,h3,h4,?_,?_⟩;·rw[zy,ka,cj hi];rfl
 rw[zy,eR];exact hi
theorem zN{K:CH}{ow:Ow}{b:Nat×Nat}{v:ae}{xs:List Bs}(h:iQ K ow b v xs) : ∃a,v= .slice a xs.length xs.length:=by
 rcases h with ⟨rfl,h⟩ | ⟨r,kd,h1,_⟩
 ·exact⟨none,h⟩
 exact⟨_,h1⟩
theorem ao8{t:Nd}{B:Nat}{E:List Ev}(hE:(bu 0 gL t).1=E)(hh:eX t<=1000)(dw:nS t)(hz:cu t<=2305843009213693952)(hB:B+16<=4398046511104)(hEl:E.length<=1099511627776)(hK : ∀e∈E,jI B e.1)(hf : ∀e∈E,e.2.f<(kT E).length)(jM : ∀F∈kT E,F.ps.length<=4398046511104)(hb : ∀pre e rest F,pre++e::rest=E->(vE (ui (kT E) E) pre)[e.2.f]? = some F->F.ls.length+(kz e).length<=1099511627776)(hT : ∀e∈E,qS 2199023255552 e.1){K:CH}{A:Nat->Prop}{os:List ae}(hs:bK K A (cF t) os)(hA : ∀b,A b->b<K.nx):aQ gH 31 [.agg os.toArray] K λv K'=>ag K K'/\∃(ow:Ow) (bs:List Nat),(∀y,ow y≠none->K.nx<=y/\y<K'.nx)/\jR true K' ow v (jp E) bs:=by
 obtain⟨nt,rfl⟩:=qN hs;have lV : ∀F∈kT E,F.ls= []/\F.g= []/\F.o= []:=λF hF=>by
  unfold kT at hF;rcases List.mem_cons.1 hF with rfl | hF
  ·exact⟨rfl,rfl,rfl⟩
  obtain⟨e,_,rfl⟩:=List.mem_map.1 hF;exact⟨rfl,rfl,rfl⟩
 have FM : ∀(fs:aS) (J:JT) (H:CH) (R:Nat->Prop),zz J->Dr fs [pN (K.nx+3)] E J->ag K H->(∀y,R y->K.nx<=y)->J [] H R->aQ gH 32 [.agg (eB nt).toArray, .func (.func fs) #[] #[pN (K.nx+3)]] H λ_ K'=>∃W',J E K' W'/\VX nU R W' H K':=λfs J H R hJ eC hx hw hj=>by
  refine(aeC (cap:= [pN (K.nx+3)]) hJ eC hh dw hz (pre:= []) ⟨[],by rw[hE];simp⟩ (A:=A) (hs.mv λy d=>⟨d,hx.ob y (hA y d)⟩) (λy d=>⟨cQ (hA y d) hx.nx,λw=>by have:=hw y w;have:=hA y d;omega⟩) hj).mono λv K' ⟨W',h1,h2⟩=>⟨W',?_,h2⟩;rw[hE] at h1;exact h1
 unfold eB at FM⊢;refine dq Rl Kr (aK ?_);refine aM ?_;refine MX (λm=>ag K m/\m.nx=K.nx+4/\m.ob K.nx= .cells (eB nt) 26 .ex/\m.ob (K.nx+1)= .cells [.string (tx sg.nm), .int .i64 (-1), .slice none 0 0, .slice none 0 0, .slice none 0 0, .slice none 0 0, .bool false, .map none, .map none, .map none] 75 .ex/\m.ob (K.nx+2)= .cells [pN (K.nx+1)] 73 .ex/\m.ob (K.nx+3)= .cells [.slice (some ⟨K.nx+2,0,none⟩) 1 1] 65 .ex) ⟨by(repeat (first | assumption | exact ag.refl _ | (refine ag.set ?_ Fo _) | (refine ag.new ?_ _))),rfl,by(refine aM ?_;all_goals rfl),by(refine aM ?_;all_goals rfl),by(exact aV;all_goals rfl),by(exact aV;all_goals rfl)⟩ ?_;rintro m ⟨dQ,BN,Dw,XD,obq,XJ⟩;let FK:Ow:=λy=>if y=K.nx+1 then some (0,0) else if y=K.nx+2 then some (0,9) else if y=K.nx+3 then some (0,8) else none
 have S : ∀y,FK y≠none->K.nx+1<=y/\y<m.nx:=λy d=>by
  have d:(if y=K.nx+1 then some (0,0) else if y=K.nx+2 then some (0,9) else if y=K.nx+3 then some ((0,8):Nat×Nat) else none)≠none:=d;by_cases h1:y=K.nx+1
  ·omega
  rw[iN h1] at d;by_cases h2:y=K.nx+2
  ·omega
  rw[iN h2] at d;by_cases h3:y=K.nx+3
  ·omega
  rw[iN h3] at d;exact absurd rfl d
 have Aw:JF false (K.nx+3) kT [] m (λy=>FK y≠none):=by
  refine⟨FK,_,[K.nx+1],λy=>eM,λy d=>(S y d).2,?_,XJ,⟨K.nx+2, .ex,rfl,?_,Om,obq,rfl,⟨rfl,?_⟩⟩⟩;·show(if K.nx+3=K.nx+1 then _ else if K.nx+3=K.nx+2 then _ else if K.nx+3=K.nx+3 then some (0,8) else none)=_;rw[iN Om,iN Om,iP rfl]
  ·show(if K.nx+2=K.nx+1 then _ else if K.nx+2=K.nx+2 then some (0,9) else _)=_;rw[iN Om,iP rfl]
  intro i F b hF hb;cases i with
  | succ i=>simp at hb
  | zero=>
    cases hb;have hF:some sg=some F:=hF;cases hF;refine⟨by show(if K.nx+1=K.nx+1 then _ else _)=_;rw[iP rfl],Om,_,_,_,_,_,_,_,XD,⟨.inl ⟨rfl,rfl⟩, .inl ⟨rfl,rfl⟩, .inl ⟨rfl,rfl⟩, .inl ⟨rfl,rfl⟩,rfl,rfl,rfl⟩⟩
 refine(FM _ _ m _ JF.ok (aoR hB hEl hK) dQ (λy d=>by have:=(S y d).1;omega) Aw).mono λv1 H ⟨R,⟨vG,v2,bs,g1,g2,g3,g4,g5⟩,eD⟩=> ?_;have eY:=eD.nx;have ao9 : ∀y,vG y≠none->K.nx+1<=y:=λy d=>(eD.w y ((g1 y).2 d)).elim (λh=>(S y h).1) λh=>by omega
 have bH:ag K H:=⟨Om,λy d=>(eD.ob y Om (λw=>by have:=(S y w).1;omega) id).trans (dQ.ob y d)⟩;have jd:=(eD.ob K.nx Om (λw=>by have:=(S _ w).1;omega) id).trans Dw;obtain⟨q,kd,rfl,oV,uo,iG,eg,fi⟩:=g5;have fO:bs.length<=1099511627777:=by
  rw[fi.len];unfold kT;rw[bN,eR];have h1:=Sz (λe:Ev=>tf e.1) E;omega
 refine rn @g4 ?_;refine ef (λn fr a=>CmJ K (K.nx+3) q kd (kT E) bs n (fr 17) a/\a.ob K.nx= .cells (eB nt) 26 .ex/\∀y,vG y≠none->True) (n:=bs.length) ⟨⟨0,vG,rfl,bR _,by(refine aM ?_;all_goals rfl),bH,λy d=>⟨ao9 y d,g2 y d⟩,g3,g4,oV,iG,λj F b h1 h2=> ?_⟩,jd,λ_ _=>trivial⟩ ?_;·have:decide (j<0)=false:=decide_eq_false Om;rw[this];exact fi.get j F b h1 h2
 rintro n tK a ⟨⟨i,ow,rfl,hi,f17,fF,x,T,bC,I,XK,hM⟩,DA,_⟩ U;have pC:=fF.nx;by_cases V:i<bs.length
 ·obtain⟨b,Fq⟩ : ∃b,bs[i]? = some b:=⟨_,cj V⟩;obtain⟨F,hF⟩ : ∃F,(kT E)[i]? = some F:=⟨_,cj (by rw[<-fi.len];exact V)⟩;obtain⟨js,IJ⟩:=zJ Fq;have W:=fD hF;obtain⟨n1,n2,n3⟩:=lV F W;have ao':=jM F W;have Kz:=hM i F b hF Fq;have hdi:decide (i<i)=false:=decide_eq_false Om;rw[hdi] at Kz;obtain⟨L,gR,vp,vl,vc,vf,m1,m2,m3,dX,z⟩:=Kz;obtain rfl:m1= .map none:=z.b;obtain rfl:m2= .map none:=z.g;obtain rfl:m3= .map none:=z.o;obtain⟨pa,hvp⟩:=zN z.p;obtain⟨C,M⟩ : ∃C,C=(((a.new (.map #[] 0)).new (.map #[] 0)).new (.map #[] 0)).set b (.cells [.string (tx F.nm), .int .i64 F.par,vp,vl,vc,vf, .bool F.gen, .map (some a.nx), .map (some (a.nx+1)), .map (some (a.nx+2))] 75 .ex):=⟨_,rfl⟩;subst hvp;refine rn (jL @U @f17 @XK @js @dX) ?_;rw[<-M];have dt:C.nx=a.nx+3:=by rw[M];rfl
  have ao2:b<a.nx:=gR;have ocb:C.ob b= .cells [.string (tx F.nm), .int .i64 F.par, .slice pa F.ps.length F.ps.length,vl,vc,vf, .bool F.gen, .map (some a.nx), .map (some (a.nx+1)), .map (some (a.nx+2))] 75 .ex:=by rw[M,br,iP rfl]
  have qY:C.ob a.nx= .map #[] 0:=by
   rw[M,cO Om,bL (by show a.nx≠a.nx+1+1;omega),bL (by show a.nx≠a.nx+1;omega),iu]
  have zC:C.ob (a.nx+1)= .map #[] 0:=by
   rw[M,cO Om,bL (by show a.nx+1≠a.nx+1+1;omega)];exact iu (K:=a.new _)
  have IH:C.ob (a.nx+2)= .map #[] 0:=by
   rw[M,cO Om];exact iu (K:=(a.new _).new _)
  have X : ∀y,y<a.nx->y≠b->C.ob y=a.ob y:=λy d hc=>by
   rw[M,cO hc,bL (by show y≠a.nx+1+1;omega),bL (by show y≠a.nx+1;omega),bL Om]
  refine ef (λn fr Y=>CqJ C a.nx F.ps n (fr 39) Y) (n:=F.ps.length) ⟨0,rfl,bR _,by(refine aM ?_;all_goals rfl),dr.refl _,by rw[vU];exact gM.nil qY⟩ ?_;rintro n yL Y ⟨j,rfl,hj,f39,N,pv⟩ nO;have Br:=N.nx;have Z:=(N.ob b Om Om).trans ocb;by_cases O:j<F.ps.length
  ·obtain⟨r,kr,e1,P,e3,e4,e5,e6⟩:=aeP z.p O;have e1:pa=some ⟨r,0,none⟩:=by cases e1;rfl
   subst e1;have IN:r≠b:=λe=>by rw[e,L] at P;simp at P
   have or4:=(N.ob r Om Om).trans ((X r e3 IN).trans e4);obtain⟨oo,oW,nX⟩:=pv.up F.ps[j] 1;repeat' (first | (simp (disch:=first | omega | (decide +kernel)) only[↓dx,↓jN,↓cE,↓pU,↓pW,↓ez,↓fj,↓fZ,↓c9,↓da,↓cM,↓dL,↓iB,↓aH,↓dA,↓aL,↓bf,cL,lj,↓di,↓jW,gh,mO,eU,pop,aD,bq,↓reduceIte,Nat.reduceEqDiff,eZ,e9,gi,iP,fp,ba,fJ,nO,f39,Z,or4,e5,oW,ba]) | ((with_reducible first|apply aE|apply aF|apply aG)<;>intro _))
   refine⟨F.ps.length-(j+1),Om,j+1,rfl,O,rfl,N.set (.inr rfl) _,?_⟩;rw[pJ O,<-Dx];exact nX _ (by rw[br,iP rfl])
  have O:j=F.ps.length:=by omega
  subst O;rw[ng] at pv;refine rn (jz @nO @U @f17 @f39) ?_;have Q : ∀y,y<a.nx->y≠b->Y.ob y=a.ob y:=λy d hc=>(N.ob y Om Om).trans (X y d hc);let cf:Ow:=λy=>if y=a.nx then some (i,5) else if y=a.nx+1 then some (i,6) else if y=a.nx+2 then some (i,7) else ow y
  have G:pG ow cf a Y:=⟨Om,λy d=>by
   show(if y=a.nx then _ else if y=a.nx+1 then _ else if y=a.nx+2 then _ else ow y)=ow y;rw[iN Om,iN Om,iN Om]⟩
  have y5:=(x (K.nx+3) (by rw[T];simp)).2;have aeR:=(x q (by rw[I];simp)).2;have CR:K.nx+3≠b:=λe=>by rw[e,L] at T;simp at T
  have hqb:q≠b:=λe=>by rw[e,L] at I;simp at I
  have Fs:=(x b (by rw[L];simp)).1;have apa:b≠K.nx:=by omega
  refine⟨bs.length-(i+1),Om,⟨i+1,cf,rfl,V,rfl,⟨Om,λy d=>(Q y Om Om).trans (fF.ob y d)⟩,λy d=> ?_,(G.ow _ y5).trans T,(Q _ y5 CR).trans bC,(G.ow _ aeR).trans I,(Q _ aeR hqb).trans XK,λs F2 b2 h1 h2=> ?_⟩,(Q _ Om (uz apa)).trans DA,λ_ _=>trivial⟩
  ·have d:(if y=a.nx then some (i,5) else if y=a.nx+1 then some (i,6) else if y=a.nx+2 then some (i,7) else ow y)≠none:=d;by_cases h1:y=a.nx
   ·omega
   rw[iN h1] at d;by_cases h2:y=a.nx+1
   ·omega
   rw[iN h2] at d;by_cases h3:y=a.nx+2
   ·omega
   rw[iN h3] at d;have:=x y d;omega
  by_cases mM:s=i
  ·subst mM;rw[hF] at h1;rw[Fq] at h2;cases h1;cases h2;have:decide (s<s+1)=true:=decide_eq_true Om;rw[this];have mV : ∀y jj,y<a.nx->ow y=some (s,jj)->jj≠0->Y.ob y=a.ob y:=λy jj d e aB=>Q y d λP=>by rw[P,L] at e;cases e;exact aB rfl
   refine⟨(G.ow b gR).trans L,Om,_,vl,vc,vf,_,_,_,Z,⟨z.p.mv G λy D u=>mV y _ D u de,z.l.mv G λy D u=>mV y _ D u de,z.c.mv G λy D u=>mV y _ D u de,z.f.mv G λy D u=>mV y _ D u de,?_,?_,?_⟩⟩;·rw[n1,gY];exact II (iP rfl) Om pv
   ·rw[n2];refine II ?_ Om ((gM.nil zC).ext (N.ob _ Om Om));show(if a.nx+1=a.nx then _ else if a.nx+1=a.nx+1 then some (s,6) else _)=_;rw[iN Om,iP rfl]
   rw[n3];refine II ?_ Om ((gM.nil IH).ext (N.ob _ Om Om));show(if a.nx+2=a.nx then _ else if a.nx+2=a.nx+1 then _ else if a.nx+2=a.nx+2 then some (s,7) else _)=_;rw[iN Om,iN Om,iP rfl]
  have:decide (s<i+1)=decide (s<i):=by
   by_cases h:s<i
   ·rw[decide_eq_true h,decide_eq_true Om]
   rw[decide_eq_false h,decide_eq_false Om]
  rw[this];exact(hM s F2 b2 h1 h2).mv G λy jj D u _=>Q y D λP=>by rw[P,L] at u;cases u;exact mM rfl
 have V:i=bs.length:=by omega
 subst V;repeat' (first | (simp (disch:=first | omega | (decide +kernel)) only[↓RD,RU,↓aH,↓aL,pop,aD,ρ0,ρ1,↓reduceIte,Nat.reduceEqDiff,Nat.reduceAdd,ρ7,ρ8,ρ15,ρ18,U,f17,DA,eB]) | ((with_reducible first|apply aE|apply aF|apply aG)<;>intro _))
 have iH:XB true a ow (kT E) bs:=⟨fi.len,λj F b h1 h2=>by
  have O:j<bs.length:=(List.getElem?_eq_some_iff.1 h2).1;have:=hM j F b h1 h2;rw[decide_eq_true O] at this;exact this⟩
 have hjB:JF true (K.nx+3) (ui (kT E)) [] a (λy=>ow y≠none):=⟨ow,_,bs,λy=>eM,λy d=>(x y d).2,T,bC,⟨q,kd,rfl,I,(x q (by rw[I];simp)).2,XK,eg,iH⟩⟩;refine(FM _ _ a _ JF.ok (aoU hf) fF (λy d=>by have:=(x y d).1;omega) hjB).mono λv5 K5 ⟨W5,Dt,fI⟩=> ?_;have rU:=fI.nx;have XL : ∀y,ow y≠none->K.nx+1<=y:=λy d=>(x y d).1;have hqK:=x q (by rw[I];simp);have Rq:=(fI.ob K.nx Om (λw=>by have:=XL _ w;omega) id).trans DA;have mn:ag K K5:=⟨Om,λy d=>(fI.ob y Om (λw=>by have:=XL y w;omega) id).trans (fF.ob y d)⟩;have XM : ∀y,W5 y->K.nx+1<=y:=λy d=>(fI.w y d).elim (XL y) λh=>by omega
 have hjC:JF true (K.nx+3) (vE (ui (kT E) E)) [] K5 W5:=Dt;repeat' (first | (simp (disch:=first | omega | (decide +kernel)) only[↓RD,RU,↓aH,↓aL,pop,aD,ρ0,ρ1,↓reduceIte,Nat.reduceEqDiff,Nat.reduceAdd,ρ7,ρ8,ρ15,ρ18,U,Rq,eB]) | ((with_reducible first|apply aE|apply aF|apply aG)<;>intro _))
 refine(FM _ _ K5 _ JF.ok (ao6 (λe he=>by rw[M7];exact hf e he) hb hT) mn (λy d=>by have:=XM y d;omega) hjC).mono λv6 K6 ⟨W6,⟨yd,v7,bs6,q1,q2,q3,q4,q5⟩,pF⟩=> ?_;have hn6:=pF.nx;refine rn (an @U @q4) ?_;refine⟨⟨Om,λy d=>(pF.ob y Om (λw=>by have:=XM y w;omega) id).trans (mn.ob y d)⟩,yd,bs6,λy d=>⟨?_,q2 y d⟩,q5⟩;exact(pF.w y ((q1 y).2 d)).elim (λh=>by have:=XM y h;omega) λh=>by omega
def Ng(fns:List al):Prop:=∀(i:Nat) (F:al),fns[i]? = some F-> -1<=F.par/\F.par<(i:Int)
theorem FP{K:CH}{ow:Ow}{fns:List al}{bs:List Nat}(h:XB true K ow fns bs){i:Nat}(hi:i<fns.length) : ∃F b,fns[i]? = some F/\bs[i]? = some b/\ow b=some (i,0)/\b<K.nx/\∃vp vl vc vf m1 m2 m3,K.ob b= .cells [.string (tx F.nm), .int .i64 F.par,vp,vl,vc,vf, .bool F.gen, .map (some m1), .map (some m2), .map (some m3)] 75 .ex/\iQ K ow (i,1) vp F.ps/\iQ K ow (i,2) vl F.ls/\iQ K ow (i,3) vc F.cs/\iQ K ow (i,4) vf F.fs/\gM K m1 (mf (F.ps++F.ls))/\gM K m2 (mf F.g)/\gM K m3 (mf F.o)/\m1<K.nx/\m2<K.nx/\m3<K.nx/\ow m1=some (i,5)/\ow m2=some (i,6)/\ow m3=some (i,7):=by
 obtain⟨F,d⟩ : ∃F,fns[i]? = some F:=⟨_,cj hi⟩;obtain⟨b,hb⟩ : ∃b,bs[i]? = some b:=⟨_,cj (by rw[h.len];exact hi)⟩;obtain⟨h1,h2,vp,vl,vc,vf,m1,m2,m3,h3,a⟩:=h.get i F b d hb;obtain⟨e,rfl,j,k,m⟩:=wV a.b;obtain⟨n,rfl,q,r,s⟩:=wV a.g;obtain⟨t,rfl,o3,l3,u⟩:=wV a.o;exact⟨F,b,d,hb,h1,h2,vp,vl,vc,vf,e,n,t,h3,a.p,a.l,a.c,a.f,m,s,u,k,r,l3,j,q,o3⟩
def RoJ (fns:List al)(s:Bs)(least:Int)(r:Bool)(K:CH)(n:Nat)(v:ae)(a:CH):Prop:=∃(m:Nat) (g:Int),n=(g+1).toNat/\v= .int .i64 g/\ -1<=g/\g<(m:Int)/\g<(fns.length:Int)/\a=K/\Do fns s least m g=r
theorem aeS{K:CH}{ow:Ow}{v:ae}{fns:List al}{bs:List Nat}(L:jR true K ow v fns bs)(C:Ng fns)(Y:fns.length<=4611686018427387904){f:Nat}(D:f<fns.length)(s:Bs){least:Nat}(M:least<=1):aQ gH 60 [v, .int .i64 (f:Nat), .string (tx s), .int .i64 (least:Nat)] K λr K'=>K'=K/\r= .bool (mZ fns f s least):=by
 obtain⟨q,kd,rfl,Z,uo,l,eg,o⟩:=L;obtain⟨F,b,E,hb,ak,gR,vp,vl,vc,vf,m1,m2,m3,N,_⟩:=FP o D;obtain⟨O,IJ⟩:=zJ hb;have gF:f<bs.length:=by rw[o.len];exact D
 have x:=C f F E;have P:mZ fns f s least=Do fns s least fns.length F.par:=by unfold mZ;rw[E]
 rw[P];refine dq Rl Kr (aK ?_);refine rn (gS @l @O @N) ?_;refine ef (λn fr H=>RoJ fns s least (Do fns s least fns.length F.par) K n (fr 9) H) (n:=(F.par+1).toNat) ⟨fns.length,F.par,rfl,by(exact aV;all_goals rfl),x.1,Om,Om,rfl,rfl⟩ ?_;rintro n fr H ⟨m,g,rfl,f9,wg,Ov,Q,rfl,a⟩ t;by_cases I:g<(least:Int)
 ·have R:Do fns s least fns.length F.par=false:=by
   rw[<-a];cases m with
   | zero=>rfl
   | succ m=>rw[Do,iP I]
  rw[R];exact rz (an @t @f9)
 obtain⟨d,rfl⟩ : ∃d:Nat,g=d:=⟨g.toNat,Om⟩;obtain⟨y,rfl⟩ : ∃y,m=y+1:=⟨m-1,Om⟩;obtain⟨G,c,J,hc,S,T,wp,wl,wc,wf,k1,k2,k3,z,_,_,_,_,U,V,_⟩:=FP o (i:=d) Om;obtain⟨A,W⟩:=zJ hc;have X:d<bs.length:=by rw[o.len];omega
 have j:=U.lk s;have u:=V.lk s;have B:=C d G J;rw[Do,iN I,fJ,J] at a;simp only at a;by_cases w:G.binds s
 ·rw[iP w] at a;have:s∈G.ps++G.ls:=List.mem_append.2 w;rw[nZ this] at j;rw[<-a];repeat' (first | (simp (disch:=first | omega | (decide +kernel)) only[↓dx,↓jN,↓cE,↓Hp,↓Hq,↓Hs,↓O6,↓ez,↓fj,↓fZ,↓c9,↓da,↓cM,↓dL,↓aH,↓aL,↓bf,cL,EJ,↓di,↓jW,↓oD,cZ,eT,jg,KQ,pop,aD,cY,fQ,dU,↓reduceIte,Nat.reduceEqDiff,reduceCtorEq,eZ,e9,KS,gi,iP,fp,ba,fJ,and_true,t,f9,l,A,z,j]) | ((with_reducible first|apply aE|apply aF|apply aG)<;>intro _))
 rw[iN w] at a;have:s∉G.ps++G.ls:=λh=>w (List.mem_append.1 h);rw[n7 this] at j;by_cases hg:s∈G.g
 ·rw[iP hg] at a;rw[nZ hg] at u;rw[<-a];repeat' (first | (simp (disch:=first | omega | (decide +kernel)) only[↓dx,↓jN,↓cE,↓Hp,↓Hq,↓Hs,↓O6,↓ez,↓fj,↓fZ,↓oJ,↓c9,↓da,↓cM,↓dL,↓aH,↓aL,↓bf,cL,EJ,↓di,↓jW,↓oD,cZ,eT,jg,KQ,pop,aD,cY,fQ,dU,↓reduceIte,Nat.reduceEqDiff,reduceCtorEq,eZ,e9,KS,gi,oK,iP,fp,ba,fJ,and_true,t,f9,l,A,z,j,u]) | ((with_reducible first|apply aE|apply aF|apply aG)<;>intro _))
 rw[iN hg] at a;rw[n7 hg] at u;repeat' (first | (simp (disch:=first | omega | (decide +kernel)) only[↓dx,↓jN,↓cE,↓pU,↓pW,↓ez,↓fj,↓fZ,↓oJ,↓c9,↓da,↓cM,↓dL,↓aH,↓aL,↓bf,cL,↓di,↓jW,cZ,eT,jg,KQ,pop,aD,↓reduceIte,Nat.reduceEqDiff,reduceCtorEq,eZ,e9,KS,gi,oK,iP,fp,ba,mA,fJ,t,f9,l,A,z,j,u]) | ((with_reducible first|apply aE|apply aF|apply aG)<;>intro _))
 exact⟨(G.par+1).toNat,Om,y,G.par,rfl,rfl,B.1,Om,Om,rfl,a⟩
theorem apb{K:CH}{A:Nat->Prop}{t:Nd}{os:List ae}(hs:bK K A (cF t) os)(hA : ∀b,A b->b<K.nx):aQ gH 61 [.agg os.toArray] K λr K'=>ag K K'/\r= .bool (th t):=by
 obtain⟨k,l,x,o,ks⟩:=t;obtain⟨q,rfl,C⟩:=iq hs;obtain⟨_,e,S,T,D⟩:=lr C;cases e;have c:ag K (K.new (.cells [.int .i64 (k:Nat), .int .i64 l, .string (tx x), .int .i64 (o:Nat), .slice q ks.length ks.length] 26 .ex)):=(ag.refl K).new _;by_cases n:k=8\/k=11
 ·have d:th (.mk k l x o ks)=true:=by simp[th,Nd.kind,n]
  rw[d];rcases n with rfl | rfl
  all_goals
   refine dq Rl Kr (aK ?_);refine aM ?_;exact c
 by_cases h2:k=2
 ·subst h2;have E:=Mx (K:=K.new (.cells [.int .i64 ((2:Nat):Int), .int .i64 l, .string (tx x), .int .i64 (o:Nat), .slice q ks.length ks.length] 26 .ex)) (A:=A) (hs.mv λb hb=>⟨hb,c.ob b (hA b hb)⟩) (λb hb=>Nat.lt_succ_of_lt (hA b hb));have d:th (.mk 2 l x o ks)=decide ((cV ks).kind=32):=by(simp[th,Nd.kind,Nd.kids];rfl)
  rw[d];refine dq Rl Kr (aK ?_);refine aM ?_;refine E.mono λv U ⟨G,H,y,j⟩=> ?_;subst H;have j:bK _ A (cF (cV ks)) G:=j;obtain⟨mk,ml,mx,g,cI,I⟩ : ∃J pl L M N,cV ks= .mk J pl L M N:=by cases cV ks;exact⟨_,_,_,_,_,rfl⟩
  rw[I] at j⊢;obtain⟨V,rfl,_⟩:=iq j;show _;by_cases s:mk=32
  ·have:decide ((Nd.mk mk ml mx g cI).kind=32)=true:=decide_eq_true s;rw[this];subst s;refine aM ?_;exact c.trans y
  have:decide ((Nd.mk mk ml mx g cI).kind=32)=false:=decide_eq_false s;rw[this];refine aM ?_;exact c.trans y
 by_cases h3:k=3
 ·subst h3;have d:th (.mk 3 l x o ks)=(decide (ks.length=2)&&decide ((cV ks).kind=36)):=by(simp[th,Nd.kind,Nd.kids];rfl)
  rw[d];by_cases u:ks.length=2
  ·obtain⟨m,m2,rfl⟩ : ∃a b,ks= [a,b]:=by
    match ks,u with
    | [a,b],_=>exact⟨a,b,rfl⟩
   obtain⟨mk,ml,mx,g,cI⟩:=m;obtain⟨z,cs,e,W,O,P,ob,X,Y,Z,Q⟩:=D 0 _ rfl;obtain⟨mq,R,_⟩:=iq Q;obtain⟨g0,_,_,_,_⟩:=aex R;have i:=hA z P;have B:=(c.ob z i).trans ob;subst O;rw[decide_eq_true u,Bool.true_and];by_cases w:mk=36
   ·have:decide ((cV [Nd.mk mk ml mx g cI,m2]).kind=36)=true:=decide_eq_true w;rw[this];subst w;refine dq Rl Kr (aK ?_);refine rn (jL @ob @B @g0 @ba @xf) ?_;exact c
   have:decide ((cV [Nd.mk mk ml mx g cI,m2]).kind=36)=false:=decide_eq_false w;rw[this];refine dq Rl Kr (aK ?_);refine rn (jL @ob @B @g0 @ba @xf) ?_;exact c
  rw[decide_eq_false u,Bool.false_and];refine dq Rl Kr (aK ?_);refine aM ?_;exact c
 have d:th (.mk k l x o ks)=false:=by simp[th,Nd.kind,n,h2,h3]
 rw[d];refine dq Rl Kr (aK ?_);refine aM ?_;exact c
def IxJ (K:CH)(xs:List Bs)(s:Bs)(n:Nat)(v:ae)(a:CH):Prop:=∃i:Nat,n=xs.length-i/\i<=xs.length/\v= .int .i64 (i:Nat)/\a=K/\∀j (b:j<xs.length),j<i->xs[j]≠s
theorem apc{K:CH}{v:ae}{xs:List Bs}{s:Bs}(h:NL K v xs):aQ gH 39 [v, .string (tx s)] K λr K'=>K'=K/\∃z:Int,r= .int .i64 z/\(0<=z↔s∈xs):=by
 obtain⟨q,c,hv,hc,t⟩:=h.len;rw[gE] at t;refine dq Rl Kr (aK ?_);refine rn @hv ?_;refine ef (λm fr x=>IxJ K xs s m (fr 8) x) (n:=xs.length) ⟨0,rfl,Om,by(refine aM ?_;all_goals rfl),rfl,λj _ h=>absurd h Om⟩ ?_;rintro m fr x ⟨i,rfl,hi,f8,rfl,hn⟩ u;by_cases y:i<xs.length
 ·obtain⟨l,o,B,os,e,kd,A,h4,h5,g⟩:=h.cell y;rw[hv] at A;obtain⟨rfl,rfl⟩:q=some ⟨l,o,none⟩/\c=B:=by cases A;exact⟨rfl,rfl⟩
  have d:=EO (a:=s) (b:=xs[i]);by_cases he:s=xs[i]
  ·rw[decide_eq_true he] at d;have d:bP (binOp .eql 0 (.string (tx s)) (.string (tx xs[i])))=some (.bool true):=d;refine rn (jL @u @f8 @h4 @g @d) ?_;exact⟨_,rfl,⟨λ_=>he▸Gr y,λ_=>by omega⟩⟩
  rw[decide_eq_false he] at d;have d:bP (binOp .eql 0 (.string (tx s)) (.string (tx xs[i])))=some (.bool false):=d;refine rn (jL @u @f8 @h4 @g @d) ?_;all_goals exact⟨xs.length-(i+1),Om,i+1,rfl,Om,rfl,rfl,λj w C=>by
   by_cases e:j=i
   ·subst e;exactλg=>he g.symm
   exact hn j w Om⟩
 refine rn (an @u @f8) ?_;refine⟨_,rfl,⟨λh=>absurd h de,λt=> ?_⟩⟩;obtain⟨j,w,e⟩:=Gm t;exact absurd e (hn j w Om)
theorem aeT{K:CH}{v:ae}{xs:List Bs}{s:Bs}(h:NL K v xs):aQ gH 59 [v, .string (tx s)] K λr K'=>K'=K/\r= .bool (decide (s∈xs)):=by
 refine dq Rl Kr (aK ?_);refine aM ?_;refine(apc h).mono λr K' ⟨e,z,b,hz⟩=> ?_;subst b;rw[e];by_cases hp:s∈xs
 ·have a:=hz.2 hp;rw[decide_eq_true hp];exact rz @a
 have a : ¬ 0<=z:=λg=>hp (hz.1 g);rw[decide_eq_false hp];exact rz @a
theorem XP : ∀ {l:List Bs},Dp l=false↔l.Nodup
 | []=>by simp[Dp]
 | x::r=>by
   rw[Dp,List.nodup_cons,Bool.or_eq_false_iff,decide_eq_false_iff_not,XP]
theorem aeU{l:List Bs}{i:Nat}(hi:i<l.length):(l.take (i+1)).Nodup↔(l.take i).Nodup/\l[i]∉l.take i:=by
 rw[pJ hi,List.nodup_append];constructor;·rintro⟨h1,_,h3⟩;exact⟨h1,λh=>h3 _ h _ (List.mem_singleton.2 rfl) rfl⟩
 rintro⟨h1,h2⟩;refine⟨h1,Sm,λa ha b hb e=> ?_⟩;rw[nh] at hb;rw[e,hb] at ha;exact h2 ha
def WrM (K:CH)(t:Nd)(q:Option Addr)(h:Wh)(w:Bool)(x:bp)(fr:Fr)(H:CH):Prop:=ag K H/\K.nx+2<=H.nx/\((x= .normal/\fr 3=pN K.nx/\fr 4=pN (K.nx+1)/\H.ob K.nx= .cells [.int .i64 (t.kind:Nat), .int .i64 t.line, .string (tx t.text), .int .i64 (t.op:Nat), .slice q t.kids.length t.kids.length] 26 .ex/\H.ob (K.nx+1)= .cells [.int .i64 (h.f:Nat), .bool h.lp, .bool h.hd, .bool h.mb] 69 .ex/\w=(h.mb && !th t))\/(x= .ret/\fr 6= .bool true/\w=true))
def WsJ (K0:CH)(a:Nat)(xs:List Bs)(n:Nat)(v:ae)(b:CH):Prop:=∃i:Nat,n=xs.length-i/\i<=xs.length/\v= .int .i64 (i:Nat)/\dr a K0 b/\gM b a (mf (xs.take i))/\(xs.take i).Nodup
def WaJ (K0:CH)(ks:List Nd)(P:Nd->Bool)(n:Nat)(v:ae)(a:CH):Prop:=∃i:Nat,n=ks.length-i/\i<=ks.length/\v= .int .i64 (i:Nat)/\ag K0 a/\∀k∈ks.take i,P k=false
theorem aeV{fns:List al}{wf:Nat}{b wd a:Bool}{l:Int}{x:Bs}{o:Nat}{ks:List Nd}{F:al}(c:fns.getD wf sg=F):jy fns (.mk 17 l x o ks,⟨wf,b,wd,a⟩)=if (ks.any λk:Nd=>decide (k.text∈F.ps)||decide (k.text∈F.o))=true then true else (a && !th (.mk 17 l x o ks)):=by
 subst c;unfold jy;rw[iN (by intro h;have h1:=h.1;simp[Nd.kind] at h1),iN (by intro h;have h1:=h.1;simp[Nd.kind] at h1),iN (by intro h;have h1:=h.1;simp[Nd.kind] at h1),iN (by intro h;have h1:=h.1;simp[Nd.kind] at h1)];by_cases h:(ks.any λk:Nd=>decide (k.text∈(fns.getD wf sg).ps)||decide (k.text∈(fns.getD wf sg).o))=true
 ·rw[iP h,iP ⟨rfl,h⟩]
 rw[iN h,iN λe=>h e.2,iN (by intro h;have h1:=h.1;simp[Nd.kind] at h1)]
theorem aeW{fns:List al}{wf:Nat}{b wd a:Bool}{l:Int}{x:Bs}{o:Nat}{ks:List Nd}{F:al}(c:fns.getD wf sg=F):jy fns (.mk 18 l x o ks,⟨wf,b,wd,a⟩)=if (ks.any λk:Nd=>decide (wf=0)||decide (k.text∈F.ps) || !mZ fns wf k.text 1)=true then true else (a && !th (.mk 18 l x o ks)):=by
 subst c;unfold jy;rw[iN (by intro h;have h1:=h.1;simp[Nd.kind] at h1),iN (by intro h;have h1:=h.1;simp[Nd.kind] at h1),iN (by intro h;have h1:=h.1;simp[Nd.kind] at h1),iN (by intro h;have h1:=h.1;simp[Nd.kind] at h1),iN (by intro h;have h1:=h.1;simp[Nd.kind] at h1)];by_cases h:(ks.any λk:Nd=>decide (wf=0)||decide (k.text∈(fns.getD wf sg).ps) || !mZ fns wf k.text 1)=true
 ·rw[iP h,iP ⟨rfl,h⟩]
 rw[iN h,iN λe=>h e.2]
theorem apd{K:CH}{ow:Ow}{v:ae}{fns:List al}{bs:List Nat}(j7:jR true K ow v fns bs)(vJ:Ng fns)(fO:fns.length<=4611686018427387904)(jM : ∀F∈fns,F.ps.length<=4398046511104){A:Nat->Prop}{t:Nd}{h:Wh}{os:List ae}(hs:bK K A (cF t) os)(hA : ∀b,A b->b<K.nx)(hf:h.f<fns.length):aQ gH 34 [.agg os.toArray, .agg (qU h).toArray,v] K λr K'=>ag K K'/\r= .bool (jy fns (t,h)):=by
 obtain⟨k,l,x,o,ks⟩:=t;obtain⟨wf,j,wd,g⟩:=h;have hf:wf<fns.length:=hf;obtain⟨B,rfl,dJ⟩:=iq hs;obtain⟨_,e,cW,lV,fq⟩:=lr dJ;cases e;rw[gE] at cW;have wW:=j7;obtain⟨q,kd,rfl,oV,uo,C,eg,fi⟩:=j7;obtain⟨F,b,hF,hb,ak,gR,vp,vl,vc,vf,m1,m2,m3,dX,hP,_,_,_,wS,nP,zK,_,_,Q,_⟩:=FP fi hf;obtain⟨D,IJ⟩:=zJ hb;have E:wf<bs.length:=by rw[fi.len];exact hf
 have hG:fns.getD wf sg=F:=by rw[List.getD_eq_getElem?_getD,hF];rfl
 have G:ag K ((K.new (.cells [.int .i64 (k:Nat), .int .i64 l, .string (tx x), .int .i64 (o:Nat), .slice B ks.length ks.length] 26 .ex)).new (.cells [.int .i64 (wf:Nat), .bool j, .bool wd, .bool g] 69 .ex)):=((ag.refl K).new _).new _;have sJ:((K.new (.cells [.int .i64 (k:Nat), .int .i64 l, .string (tx x), .int .i64 (o:Nat), .slice B ks.length ks.length] 26 .ex)).new (.cells [.int .i64 (wf:Nat), .bool j, .bool wd, .bool g] 69 .ex)).nx=K.nx+2:=rfl;have ao':=jM F (fD hF);have hm3n:m3<K.nx:=Q;have hNL:NL K vp F.ps:=hP.gr.nl Om;unfold qU;refine dq Rl Kr (aK ?_);refine aez (WrM K (.mk k l x o ks) B ⟨wf,j,wd,g⟩ (jy fns (.mk k l x o ks,⟨wf,j,wd,g⟩))) ?_ ?_
 ·have hw : ∀w,jy fns (.mk k l x o ks,⟨wf,j,wd,g⟩)=w->jy fns (.mk k l x o ks,⟨wf,j,wd,g⟩)=w:=λ_ h=>h;by_cases ph:k=10\/k=60
  ·by_cases V:wf=0
   ·have pj:(wf:Int)=0:=by omega
    rcases ph with rfl | rfl
    all_goals
     refine rn (gS @C @D @E) ?_;exact⟨G,ai _, .inr ⟨rfl,by(exact aV;all_goals rfl),by simp[jy,Nd.kind,Nd.kids,V]⟩⟩
   rcases ph with rfl | rfl
   all_goals
    refine rn (gS @C @D @E) ?_;exact⟨G,ai _, .inl ⟨rfl,by(exact aV;all_goals rfl),by(exact aV;all_goals rfl),by(refine aM ?_;all_goals rfl),by(exact aV;all_goals rfl),by simp[jy,Nd.kind,Nd.kids,V]⟩⟩
  by_cases xy:k=12\/k=13
  ·cases j
   ·rcases xy with rfl | rfl
    all_goals
     refine rn (gS @C @D @E) ?_;exact⟨G,ai _, .inr ⟨rfl,by(exact aV;all_goals rfl),by simp[jy,Nd.kind,Nd.kids]⟩⟩
   rcases xy with rfl | rfl
   all_goals
    refine rn (gS @C @D @E) ?_;exact⟨G,ai _, .inl ⟨rfl,by(exact aV;all_goals rfl),by(exact aV;all_goals rfl),by(refine aM ?_;all_goals rfl),by(exact aV;all_goals rfl),by simp[jy,Nd.kind,Nd.kids]⟩⟩
  by_cases If:k=14
  ·subst If;by_cases hk:ks= []
   ·subst hk;cases wd;·refine rn (gS @C @D @E) ?_;exact⟨G,ai _, .inr ⟨rfl,by(exact aV;all_goals rfl),by simp[jy,Nd.kind,Nd.kids]⟩⟩
    refine rn (gS @C @D @E) ?_;exact⟨G,ai _, .inl ⟨rfl,by(exact aV;all_goals rfl),by(exact aV;all_goals rfl),by(refine aM ?_;all_goals rfl),by(exact aV;all_goals rfl),by simp[jy,Nd.kind,Nd.kids]⟩⟩
   have mV:0<ks.length:=List.length_pos_iff.2 hk;refine rn (gS @C @D @E) ?_;exact⟨G,ai _, .inl ⟨rfl,by(exact aV;all_goals rfl),by(exact aV;all_goals rfl),by(refine aM ?_;all_goals rfl),by(exact aV;all_goals rfl),by simp[jy,Nd.kind,Nd.kids,hk]⟩⟩
  by_cases Bm:k=23
  ·subst Bm;refine rn (gS @C @D @E) ?_;refine ef (λn fr a=>WsJ (((K.new (.cells [.int .i64 ((23:Nat):Int), .int .i64 l, .string (tx x), .int .i64 (o:Nat), .slice B ks.length ks.length] 26 .ex)).new (.cells [.int .i64 (wf:Nat), .bool j, .bool wd, .bool g] 69 .ex)).new (.map #[] 0)) (K.nx+2) (ks.map Nd.text) n (fr 51) a) (n:=ks.length) ⟨0,by rw[eR];rfl,bR _,by(refine aM ?_;all_goals rfl),dr.refl _,by rw[vU];exact gM.nil (iu (K:=(K.new _).new _)),Sm⟩ ?_;rintro n fr a ⟨i,rfl,hi,f51,d,pv,Ab⟩ c;rw[eR] at hi;have eY:K.nx+3<=a.nx:=d.nx;have e1:ag K ((((K.new (.cells [.int .i64 ((23:Nat):Int), .int .i64 l, .string (tx x), .int .i64 (o:Nat), .slice B ks.length ks.length] 26 .ex)).new (.cells [.int .i64 (wf:Nat), .bool j, .bool wd, .bool g] 69 .ex)).new (.map #[] 0))):=G.new _;have L : ∀y,y<K.nx->a.ob y=K.ob y:=λy u=>(d.ob y (by show y<K.nx+1+1+1;omega) Om).trans (e1.ob y u);have z:ag K a:=⟨Om,L⟩;have jd:a.ob K.nx= .cells [.int .i64 ((23:Nat):Int), .int .i64 l, .string (tx x), .int .i64 (o:Nat), .slice B ks.length ks.length] 26 .ex:=(d.ob K.nx (by show K.nx<K.nx+1+1+1;omega) Om).trans ((bL (by show K.nx≠K.nx+1+1;omega)).trans ((bL (by show K.nx≠K.nx+1;omega)).trans iu));have M:a.ob (K.nx+1)= .cells [.int .i64 (wf:Nat), .bool j, .bool wd, .bool g] 69 .ex:=(d.ob (K.nx+1) (by show K.nx+1<K.nx+1+1+1;omega) Om).trans ((bL (by show K.nx+1≠K.nx+1+1;omega)).trans (iu (K:=K.new _)));by_cases s:i<ks.length
   ·obtain⟨m,I⟩ : ∃m,ks[i]? = some m:=⟨_,cj s⟩;obtain⟨N,cs,e,mU,fM,kB,ob,yf,pO,mj,aW⟩:=fq i m I;subst fM;have R:=(L N (hA N kB)).trans ob;obtain⟨mk,ml,mx,O,cI⟩:=m;obtain⟨mq,S,zF⟩:=iq aW;have wA:i<(ks.map Nd.text).length:=by rw[eR];exact s
    have MY:(ks.map Nd.text)[i]=mx:=by
     obtain⟨_,e⟩:=List.getElem?_eq_some_iff.1 I;rw[List.getElem_map,e];rfl
    have eF:=pv.lk mx;by_cases kH:mx∈(ks.map Nd.text).take i
    ·rw[nZ kH] at eF;obtain⟨W,oW,nX⟩:=pv.up mx 2;have dV : ∀H:CH,H.ob (K.nx+2)=W->uO 1 (.int .i64 0) false (.string (tx mx)) (H.ob (K.nx+2))=some (.int .i64 2):=λH e=>by
      have:=(nX H e).lk mx;rw[iP rfl] at this;exact this
     have P:uO 1 (.int .i64 0) false (.string (tx mx)) W=some (.int .i64 2):=by
      have:=dV (a.set (K.nx+2) W) (by rw[br,iP rfl]);rw[br,iP rfl] at this;exact this
     have Nh:Dp (ks.map Nd.text)=true:=by
      cases Nh:Dp (ks.map Nd.text);·have h1:=XP.1 Nh;have h2:((ks.map Nd.text).take (i+1)).Nodup:=h1.sublist (List.take_sublist _ _);exact absurd (MY▸kH) ((aeU wA).1 h2).2
      rfl
     repeat' (first | (simp (disch:=first | omega | (decide +kernel)) only[↓dx,↓jN,↓cE,↓Hp,↓Hq,↓Hs,↓ez,↓fj,↓fZ,↓c9,↓da,↓cM,↓dL,↓kj,↓iB,↓aH,↓dA,↓aL,↓bf,bS,br,cL,lj,ki,↓di,↓jW,↓oD,gh,mO,jg,eU,pop,aD,cq,bq,db,isVal,a8,ci,↓reduceIte,Nat.reduceEqDiff,Nat.reduceAdd,eZ,e9,bN,bZ,jD,kc,gY,tz,qw,uB,pL,Kd.bY,jt,jS,ai,Int.reduceAdd,eR,gi,iP,iN,ba,fJ,and_true,c,f51,R,S,eF,oW,P,ba]) | ((with_reducible first|apply aE|apply aF|apply aG)<;>intro _))
     refine⟨((z.new _).set Om _).set Om _,by show K.nx+2<=a.nx+1;omega, .inr ⟨rfl,by(exact aV;all_goals rfl),by simp[jy,Nd.kind,Nd.kids,Nh]⟩⟩
    rw[n7 kH] at eF;obtain⟨W,oW,nX⟩:=pv.up mx 1;have P:uO 1 (.int .i64 0) false (.string (tx mx)) W=some (.int .i64 1):=by
     have:=(nX (a.set (K.nx+2) W) (by rw[br,iP rfl])).lk mx;rw[br,iP rfl,iP rfl] at this;exact this
    repeat' (first | (simp (disch:=first | omega | (decide +kernel)) only[↓dx,↓jN,↓cE,↓pU,↓pW,↓ez,↓fj,↓fZ,↓oJ,↓c9,↓da,↓cM,↓dL,↓kj,↓iB,↓aH,↓dA,↓aL,↓bf,bS,br,cL,lj,ki,↓di,↓jW,gh,mO,jg,eU,pop,aD,cq,bq,db,isVal,a8,ci,↓reduceIte,Nat.reduceEqDiff,Nat.reduceAdd,eZ,e9,bN,bZ,jD,kc,gY,tz,qw,uB,pL,Kd.bY,jt,jS,ai,Cb,eR,gi,oK,iP,iN,ba,fJ,and_true,c,f51,R,S,eF,oW,P,ba]) | ((with_reducible first|apply aE|apply aF|apply aG)<;>intro _))
    refine⟨ks.length-(i+1),Om,i+1,by rw[eR],by rw[eR];exact s,rfl,((d.new _).set (.inl (by show K.nx+1+1+1<=a.nx;omega)) _).set (.inr rfl) _,?_,(aeU wA).2 ⟨Ab,by rw[MY];exact kH⟩⟩;rw[pJ wA,MY,<-Dx];exact nX _ (by rw[br,iP rfl])
   have s:i=ks.length:=by omega
   have Nh:Dp (ks.map Nd.text)=false:=by
    rw[s,<-eR (f:=Nd.text),ng] at Ab;exact XP.2 Ab
   refine rn (an @c @f51) ?_;exact⟨z,Om, .inl ⟨rfl,by(exact rz @c;all_goals rfl),by(exact rz @c;all_goals rfl),jd,M,by simp[jy,Nd.kind,Nd.kids,Nh]⟩⟩
  by_cases qb:k=17
  ·subst qb;refine rn (gS @C @D @E) ?_;refine ef (λn fr a=>WaJ ((K.new (.cells [.int .i64 ((17:Nat):Int), .int .i64 l, .string (tx x), .int .i64 (o:Nat), .slice B ks.length ks.length] 26 .ex)).new (.cells [.int .i64 (wf:Nat), .bool j, .bool wd, .bool g] 69 .ex)) ks (λk:Nd=>decide (k.text∈F.ps)||decide (k.text∈F.o)) n (fr 71) a) (n:=ks.length) ⟨0,rfl,bR _,by(refine aM ?_;all_goals rfl),ag.refl _,λk hk=>by cases hk⟩ ?_;rintro n fr a ⟨i,rfl,hi,f71,d,T⟩ c;have eY:K.nx+2<=a.nx:=d.nx;have z:ag K a:=G.trans d;have jd:a.ob K.nx= .cells [.int .i64 ((17:Nat):Int), .int .i64 l, .string (tx x), .int .i64 (o:Nat), .slice B ks.length ks.length] 26 .ex:=(d.ob K.nx (by show K.nx<K.nx+1+1;omega)).trans ((bL (by show K.nx≠K.nx+1;omega)).trans iu);have M:a.ob (K.nx+1)= .cells [.int .i64 (wf:Nat), .bool j, .bool wd, .bool g] 69 .ex:=(d.ob (K.nx+1) (by show K.nx+1<K.nx+1+1;omega)).trans (iu (K:=K.new _));have U:=(z.ob b gR).trans dX;by_cases s:i<ks.length
   ·obtain⟨m,I⟩ : ∃m,ks[i]? = some m:=⟨_,cj s⟩;obtain⟨N,cs,e,mU,fM,kB,ob,yf,pO,mj,aW⟩:=fq i m I;subst fM;have R:=(z.ob N (hA N kB)).trans ob;have fL:=fD I;obtain⟨mk,ml,mx,O,cI⟩:=m;obtain⟨mq,S,zF⟩:=iq aW;have dQ:ag a ((a.new (.cells [.int .i64 0, .int .i64 0, .string ⟨⟨[]⟩⟩, .int .i64 0, .slice none 0 0] 26 .ex)).set a.nx (.cells [.int .i64 (mk:Nat), .int .i64 ml, .string (tx mx), .int .i64 (O:Nat), .slice mq cI.length cI.length] 26 .ex)):=((ag.refl a).new _).set (ai _) _;have J:=z.trans dQ;have X:(λk:Nd=>decide (k.text∈F.ps)||decide (k.text∈F.o)) (.mk mk ml mx O cI)=true->jy fns (.mk 17 l x o ks,⟨wf,j,wd,g⟩)=true:=λu=>by
     have:(ks.any (λk:Nd=>decide (k.text∈F.ps)||decide (k.text∈F.o)))=true:=List.any_eq_true.2 ⟨_,fL,u⟩;rw[aeV hG,iP this]
    have XQ:(λk:Nd=>decide (k.text∈F.ps)||decide (k.text∈F.o)) (.mk mk ml mx O cI)=false->∀k∈ks.take (i+1),(λk:Nd=>decide (k.text∈F.ps)||decide (k.text∈F.o)) k=false:=λu k hk=>by
     obtain⟨_,e⟩:=List.getElem?_eq_some_iff.1 I;rw[pJ s,e] at hk;rcases List.mem_append.1 hk with h | h
     ·exact T k h
     rw[nh] at h;rw[h];exact u
    have P:=(zK.ext (z.ob m3 hm3n)).lk mx;refine rn (o8 @c @f71 @R @S @U @ba) ?_;refine(aeT (hNL.ext J)).mono λr K2 ⟨eK,er⟩=> ?_;subst er;rw[eK];by_cases hp:mx∈F.ps
    ·rw[decide_eq_true hp];refine rn (an @c @f71) ?_;exact⟨J,by show K.nx+2<=a.nx+1;omega, .inr ⟨rfl,by(exact aV;all_goals rfl),X (by simp[Nd.text,hp])⟩⟩
    rw[decide_eq_false hp];by_cases ho:mx∈F.o
    ·rw[nZ ho] at P;repeat' (first | (simp (disch:=first | omega | (decide +kernel)) only[↓dx,↓cE,↓Hp,↓Hq,↓Hs,↓ez,↓fj,↓fZ,↓c9,↓nI,↓nJ,↓da,↓cM,↓dL,↓aH,↓aL,↓bf,bS,br,cL,↓di,↓oD,jg,pop,aD,↓reduceIte,Nat.reduceEqDiff,reduceCtorEq,eZ,e9,gi,iN,ba,c,U,P]) | ((with_reducible first|apply aE|apply aF|apply aG)<;>intro _))
     exact⟨J,by show K.nx+2<=a.nx+1;omega, .inr ⟨rfl,by(exact aV;all_goals rfl),X (by simp[Nd.text,ho])⟩⟩
    rw[n7 ho] at P;repeat' (first | (simp (disch:=first | omega | (decide +kernel)) only[↓cE,↓pU,↓pW,↓ez,↓fj,↓oJ,↓c9,↓nI,↓nJ,↓da,↓cM,↓dL,↓aH,↓aL,↓bf,bS,br,cL,↓di,↓jW,gh,jg,eU,pop,aD,↓reduceIte,Nat.reduceEqDiff,reduceCtorEq,eZ,e9,oK,iN,ba,c,f71,U,P]) | ((with_reducible first|apply aE|apply aF|apply aG)<;>intro _))
    exact⟨ks.length-(i+1),Om,i+1,rfl,s,rfl,d.trans dQ,XQ (by simp[Nd.text,hp,ho])⟩
   have s:i=ks.length:=by omega
   have mh:(ks.any (λk:Nd=>decide (k.text∈F.ps)||decide (k.text∈F.o)))=false:=by
    rw[s,ng] at T;exact List.any_eq_false.2 λk hk=>Bool.eq_false_iff.1 (T k hk)
   refine rn (an @c @f71) ?_;exact⟨z,eY, .inl ⟨rfl,by(exact rz @c;all_goals rfl),by(exact rz @c;all_goals rfl),jd,M,by rw[aeV hG,mh];rfl⟩⟩
  by_cases Ig:k=18
  ·subst Ig;refine rn (gS @C @D @E) ?_;refine ef (λn fr a=>WaJ ((K.new (.cells [.int .i64 ((18:Nat):Int), .int .i64 l, .string (tx x), .int .i64 (o:Nat), .slice B ks.length ks.length] 26 .ex)).new (.cells [.int .i64 (wf:Nat), .bool j, .bool wd, .bool g] 69 .ex)) ks (λk:Nd=>decide (wf=0)||decide (k.text∈F.ps) || !mZ fns wf k.text 1) n (fr 99) a) (n:=ks.length) ⟨0,rfl,bR _,by(refine aM ?_;all_goals rfl),ag.refl _,λk hk=>by cases hk⟩ ?_;rintro n fr a ⟨i,rfl,hi,f99,d,T⟩ c;have eY:K.nx+2<=a.nx:=d.nx;have z:ag K a:=G.trans d;have jd:a.ob K.nx= .cells [.int .i64 ((18:Nat):Int), .int .i64 l, .string (tx x), .int .i64 (o:Nat), .slice B ks.length ks.length] 26 .ex:=(d.ob K.nx (by show K.nx<K.nx+1+1;omega)).trans ((bL (by show K.nx≠K.nx+1;omega)).trans iu);have M:a.ob (K.nx+1)= .cells [.int .i64 (wf:Nat), .bool j, .bool wd, .bool g] 69 .ex:=(d.ob (K.nx+1) (by show K.nx+1<K.nx+1+1;omega)).trans (iu (K:=K.new _));have U:=(z.ob b gR).trans dX;by_cases s:i<ks.length
   ·obtain⟨m,I⟩ : ∃m,ks[i]? = some m:=⟨_,cj s⟩;obtain⟨N,cs,e,mU,fM,kB,ob,yf,pO,mj,aW⟩:=fq i m I;subst fM;have R:=(z.ob N (hA N kB)).trans ob;have fL:=fD I;obtain⟨mk,ml,mx,O,cI⟩:=m;obtain⟨mq,S,zF⟩:=iq aW;have dQ:ag a ((a.new (.cells [.int .i64 0, .int .i64 0, .string ⟨⟨[]⟩⟩, .int .i64 0, .slice none 0 0] 26 .ex)).set a.nx (.cells [.int .i64 (mk:Nat), .int .i64 ml, .string (tx mx), .int .i64 (O:Nat), .slice mq cI.length cI.length] 26 .ex)):=((ag.refl a).new _).set (ai _) _;have J:=z.trans dQ;have X:(λk:Nd=>decide (wf=0)||decide (k.text∈F.ps) || !mZ fns wf k.text 1) (.mk mk ml mx O cI)=true->jy fns (.mk 18 l x o ks,⟨wf,j,wd,g⟩)=true:=λu=>by
     have:(ks.any (λk:Nd=>decide (wf=0)||decide (k.text∈F.ps) || !mZ fns wf k.text 1))=true:=List.any_eq_true.2 ⟨_,fL,u⟩;rw[aeW hG,iP this]
    have XQ:(λk:Nd=>decide (wf=0)||decide (k.text∈F.ps) || !mZ fns wf k.text 1) (.mk mk ml mx O cI)=false->∀k∈ks.take (i+1),(λk:Nd=>decide (wf=0)||decide (k.text∈F.ps) || !mZ fns wf k.text 1) k=false:=λu k hk=>by
     obtain⟨_,e⟩:=List.getElem?_eq_some_iff.1 I;rw[pJ s,e] at hk;rcases List.mem_append.1 hk with h | h
     ·exact T k h
     rw[nh] at h;rw[h];exact u
    by_cases V:wf=0
    ·have pj:(wf:Int)=0:=by omega
     refine rn (qz @c @f99 @R @S @U @M @pj @ba) ?_;exact⟨J,by show K.nx+2<=a.nx+1;omega, .inr ⟨rfl,by(exact aV;all_goals rfl),X (by simp[V])⟩⟩
    have pj:(wf:Int)≠0:=by omega
    refine rn (qz @c @f99 @R @S @U @M @pj @ba) ?_;refine(aeT (hNL.ext J)).mono λr K2 ⟨eK,er⟩=> ?_;subst er;rw[eK];by_cases hp:mx∈F.ps
    ·rw[decide_eq_true hp];refine rn (an @c @f99) ?_;exact⟨J,by show K.nx+2<=a.nx+1;omega, .inr ⟨rfl,by(exact aV;all_goals rfl),X (by simp[Nd.text,hp])⟩⟩
    rw[decide_eq_false hp];refine rn (jz @c @f99 @U @M) ?_;refine(aeS (wW.mv (.refl J.nx) λy u _=>J.ob y u) vJ fO hf mx (least:=1) (ai _)).mono λr K3 ⟨eK3,er3⟩=> ?_;subst er3;rw[eK3];cases hr:mZ fns wf mx 1;·have xw:mZ fns wf mx ((1:Nat):Int)=false:=hr;refine rn (gS @c @f99 @xw) ?_;exact⟨J,by show K.nx+2<=a.nx+1;omega, .inr ⟨rfl,by(exact aV;all_goals rfl),X (by simp[Nd.text,hr])⟩⟩
    have xw:mZ fns wf mx ((1:Nat):Int)=true:=hr;refine rn (gS @c @f99 @xw) ?_;exact⟨ks.length-(i+1),Om,i+1,rfl,s,rfl,d.trans dQ,λk hk=>by have:=XQ (by simp[Nd.text,hp,V,hr]) k hk;simpa[V] using this⟩
   have s:i=ks.length:=by omega
   have mh:(ks.any (λk:Nd=>decide (wf=0)||decide (k.text∈F.ps) || !mZ fns wf k.text 1))=false:=by
    rw[s,ng] at T;exact List.any_eq_false.2 λk hk=>Bool.eq_false_iff.1 (T k hk)
   refine rn (an @c @f99) ?_;exact⟨z,eY, .inl ⟨rfl,by(exact rz @c;all_goals rfl),by(exact rz @c;all_goals rfl),jd,M,by rw[aeW hG,mh];rfl⟩⟩
  refine rn (gS @C @D @E) ?_;exact⟨G,ai _, .inl ⟨rfl,by(exact aV;all_goals rfl),by(exact aV;all_goals rfl),by(refine aM ?_;all_goals rfl),by(exact aV;all_goals rfl),by simp[jy,Nd.kind,Nd.kids,ph,xy,If,Bm,qb,Ig]⟩⟩
 rintro x1 fr H ⟨hx,hn,⟨rfl,f3,f4,Y,Z,hw⟩ | ⟨rfl,f6,hw⟩⟩
 ·have hw:jy fns (.mk k l x o ks,⟨wf,j,wd,g⟩)=(g && !th (.mk k l x o ks)):=hw;have Z:H.ob (K.nx+1)= .cells [.int .i64 (wf:Nat), .bool j, .bool wd, .bool g] 69 .ex:=Z;rw[hw,cE];have Y:H.ob K.nx= .cells [.int .i64 (k:Nat), .int .i64 l, .string (tx x), .int .i64 (o:Nat), .slice B ks.length ks.length] 26 .ex:=Y;cases g;·refine rn (jz @f3 @f4 @Y @Z) ?_;exact hx
  refine rn (jz @f3 @f4 @Y @Z) ?_;refine(apb (A:=A) (hs.mv λy u=>⟨u,hx.ob y (hA y u)⟩) (λy u=>cQ (hA y u) hx.nx)).mono λr a ⟨d,er⟩=> ?_;subst er;cases pd:th (.mk k l x o ks);·refine rn (jz @f3 @f4 @Y @Z) ?_;exact hx.trans d
  refine rn (jz @f3 @f4 @Y @Z) ?_;exact hx.trans d
 rw[hw];refine rn @f6 ?_;exact hx
theorem jR.mv9{mp:Bool}{K K':CH}{ow cf:Ow}{v:ae}{fns:List al}{bs:List Nat}(h:jR mp K ow v fns bs)(hx:pG ow cf K K')(ho : ∀y i j,y<K.nx->ow y=some (i,j)->j<=9->K'.ob y=K.ob y):jR mp K' cf v fns bs:=by
 obtain⟨q,kd,h1,h2,h3,h4,h5,a⟩:=h;exact⟨q,kd,h1,(hx.ow q h3).trans h2,cQ h3 hx.nx,(ho q 0 9 h3 h2 de).trans h4,h5,a.len,λi F b g1 g2=>(a.get i F b g1 g2).mv hx λb j c d e=>ho b i j c d Om⟩
theorem jR.aeX{mp:Bool}{K K':CH}{ow cf:Ow}{v:ae}{fns:List al}{bs:List Nat}{i b:Nat}{F:al}{u:al->al}(h:jR mp K ow v fns bs)(e:fns[i]? = some F)(hb:bs[i]? = some b)(hx:pG ow cf K K')(ho : ∀x c j,x<K.nx->ow x=some (c,j)->j<=9->(c≠i\/7<j)->K'.ob x=K.ob x)(hn:FI mp K' cf i b (u F)):jR mp K' cf v (fo fns i u) bs:=by
 obtain⟨q,kd,h1,h2,h3,h4,h5,d⟩:=h;refine⟨q,kd,h1,(hx.ow q h3).trans h2,cQ h3 hx.nx,(ho q 0 9 h3 h2 de (.inr de)).trans h4,h5,by rw[BP];exact d.len,λi2 a f g1 g2=> ?_⟩;unfold fo at g1;rw[xh] at g1;by_cases hi:i=i2
 ·subst hi;rw[e] at g1;rw[hb] at g2;cases g2;have g1:u F=a:=by simpa using g1
  rw[<-g1];exact hn
 simp only[iN hi] at g1;have g1:fns[i2]? = some a:=by simpa using g1
 exact(d.get i2 a f g1 g2).mv hx λx j g k l=>ho x i2 j g k Om (.inl (uz hi))
def qZ (fns:List al)(pre:List Ev):Bool×Int:=match pre.find? (jy fns) with
 | some e=>(true,e.1.line)
 | none=>(false,0)
theorem XR{fns:List al}{pre:List Ev}{e:Ev}:qZ fns (pre++ [e])=if (qZ fns pre).1=true then qZ fns pre else if jy fns e=true then (true,e.1.line) else (false,0):=by
 unfold qZ;rw[List.find?_append];cases h:pre.find? (jy fns) with
 | some e'=>rfl
 | none=>
   simp only[Option.none_or,List.find?_cons,List.find?_nil];cases hw:jy fns e<;>rfl
def JW (p a bl:Nat)(fns:List al):JT:=λpre K W=>∃(ow:Ow) (v:ae) (bs:List Nat),(∀b,W b↔ow b≠none)/\(∀b,ow b≠none->b<K.nx)/\ow p=some (0,8)/\K.ob p= .cells [v] 65 .ex/\jR true K ow v fns bs/\ow a=some (0,12)/\K.ob a= .cells [.bool (qZ fns pre).1] 4 .ex/\ow bl=some (0,13)/\K.ob bl= .cells [.int .i64 (qZ fns pre).2] 3 .ex
theorem JW.ok{p a bl:Nat}{fns:List al}:zz (JW p a bl fns) where
 st:=λpre K K' W ⟨ow,v,bs,h1,h2,h3,h4,h5,c,e,d,f⟩ hn hx=>⟨ow,v,bs,h1,λb hb=>cQ (h2 b hb) hn,h3,(hx p ((h1 p).2 (by rw[h3];simp))).trans h4,h5.mv (.refl hn) λb _ hb=>hx b ((h1 b).2 hb),c,(hx a ((h1 a).2 (by rw[c];simp))).trans e,d,(hx bl ((h1 bl).2 (by rw[d];simp))).trans f⟩
 lt:=λpre K W ⟨ow,v,bs,h1,h2,_⟩ b hb=>h2 b ((h1 b).1 hb)
theorem ape{p b bl:Nat}{E:List Ev}{fns:List al}(vJ:Ng fns)(fO:fns.length<=4611686018427387904)(jM : ∀F∈fns,F.ps.length<=4398046511104)(hf : ∀e∈E,e.2.f<fns.length):Dr 33 [pN b,pN p,pN bl] E (JW p b bl fns):=by
 rintro pre ⟨t,h⟩ rest K W A os vH T hs hA;have U:=T;obtain⟨ow,v,bs,B,z,s,C,V,m,w,u,Hx⟩:=T;have gy:p<K.nx:=z p (by rw[s];simp);have gR:b<K.nx:=z b (by rw[m];simp);have hU:bl<K.nx:=z bl (by rw[u];simp);have aB:b≠bl:=λe=>by rw[e,u] at m;simp at m
 have gF:h.f<fns.length:=hf (t,h) (by rw[<-vH];simp);obtain⟨k,l,x,o,ks⟩:=t;obtain⟨X,rfl,dJ⟩:=iq hs;have n:ag K ((K.new (.cells [.int .i64 (k:Nat), .int .i64 l, .string (tx x), .int .i64 (o:Nat), .slice X ks.length ks.length] 26 .ex)).new (.cells [.int .i64 (h.f:Nat), .bool h.lp, .bool h.hd, .bool h.mb] 69 .ex)):=((ag.refl K).new _).new _;have Y:=apd (V.mv (.refl n.nx) λy a _=>n.ob y a) vJ fO jM (A:=A) (h:=h) (hs.mv λy a=>⟨a,n.ob y (hA y a).1⟩) (λy a=>cQ (hA y a).1 n.nx) gF;unfold qU at Y⊢;cases hb:(qZ fns pre).1
 ·rw[hb] at w;refine dq Rl Kr (aK ?_);refine rn (an @w @C) ?_;refine Y.mono λr D ⟨G,er⟩=> ?_;subst er;have eY:K.nx+1+1<=D.nx:=G.nx;have c:=n.trans G;have jd:D.ob K.nx= .cells [.int .i64 (k:Nat), .int .i64 l, .string (tx x), .int .i64 (o:Nat), .slice X ks.length ks.length] 26 .ex:=(G.ob K.nx (by show K.nx<K.nx+1+1;omega)).trans ((bL (by show K.nx≠K.nx+1;omega)).trans iu);have G9:=(c.ob b gR).trans w;have H:=(c.ob bl hU).trans Hx;cases hw:jy fns (.mk k l x o ks,h)
  ·refine aM ?_;refine⟨W,?_,VX.ext c⟩;obtain⟨ow,v,bs,I,J,L,M,N,O,P,Q,R⟩:=JW.ok.hx U c;have d:qZ fns (pre++ [(.mk k l x o ks,h)])=qZ fns pre:=by
    rw[XR,iN (by rw[hb];simp),iN (by rw[hw];simp)];revert hb
    unfold qZ;cases pre.find? (jy fns) with
    | some e=>intro hb;cases hb
    | none=>intro _;rfl
   exact⟨ow,v,bs,I,J,L,M,N,O,by rw[d];exact P,Q,by rw[d];exact R⟩
  have d:qZ fns (pre++ [(.mk k l x o ks,h)])=(true,l):=by
   rw[XR,iN (by rw[hb];simp),iP hw];rfl
  refine rn (jz @G9 @H @jd @aB) ?_;have S : ∀Z o2 y,y<K.nx->y≠b->y≠bl->((D.set b Z).set bl o2).ob y=K.ob y:=λZ o2 y a h1 h2=>by
   rw[cO h2,cO h1];exact c.ob y a
  have CR:p≠b:=λe=>by rw[e,m] at s;simp at s
  have IJ:p≠bl:=λe=>by rw[e,u] at s;simp at s
  refine⟨W,⟨ow,v,bs,B,λy a=>cQ (z y a) c.nx,s,(S _ _ p gy CR IJ).trans C,?_,m,?_,u,?_⟩,⟨c.nx,λy g1 g2 _=>S _ _ y g1 (λe=>g2 ((B y).2 (by rw[e,m];simp))) (λe=>g2 ((B y).2 (by rw[e,u];simp))),λy g=> .inl g⟩⟩;·exact V.mv9 (.refl c.nx) λy i j g1 g2 g3=>S _ _ y g1 (λe=>by rw[e,m] at g2;simp only[Option.some.injEq,Prod.mk.injEq] at g2;omega) (λe=>by rw[e,u] at g2;simp only[Option.some.injEq,Prod.mk.injEq] at g2;omega)
  ·rw[d,cO aB,br,iP rfl]
  rw[d,br,iP rfl]
 rw[hb] at w;refine dq Rl Kr (aK ?_);refine rn (an @w @C) ?_;refine⟨W,?_,VX.ext n⟩;obtain⟨ow,v,bs,I,J,L,M,N,O,P,Q,R⟩:=JW.ok.hx U n;have d:qZ fns (pre++ [(.mk k l x o ks,h)])=qZ fns pre:=by rw[XR,iP hb]
 exact⟨ow,v,bs,I,J,L,M,N,O,by rw[d];exact P,Q,by rw[d];exact R⟩
def FS (ow:Ow)(bs ms:List Nat)(a:Nat)(c:Kd)(v hv:ae)(st:List al)(K:CH)(W:Nat->Prop):Prop:=(∀b,W b↔ow b≠none)/\(∀b,ow b≠none->b<K.nx)/\jR true K ow v st bs/\hv= .slice (some ⟨a,0,none⟩) ms.length ms.length/\ms.length=st.length/\ow a=some (0,15)/\K.ob a= .cells (ms.map λm=> .map (some m)) 56 c/\∀i F m,st[i]? = some F->ms[i]? = some m->ow m=some (i,14)/\m<K.nx/\gM K m (mf F.fs)
def kV (v hv:ae)(st:List al)(K:CH)(W:Nat->Prop):Prop:=∃(ow:Ow) (bs ms:List Nat) (a:Nat) (b:Kd),FS ow bs ms a b v hv st K W
theorem kV.st{v hv:ae}{st:List al}{K K':CH}{W:Nat->Prop}(h:kV v hv st K W)(hn:K.nx<=K'.nx)(hx : ∀b,W b->K'.ob b=K.ob b):kV v hv st K' W:=by
 obtain⟨ow,bs,ms,a,e,h1,h2,h3,h4,h5,c,f,g⟩:=h;exact⟨ow,bs,ms,a,e,h1,λb hb=>cQ (h2 b hb) hn,h3.mv (.refl hn) λb _ hb=>hx b ((h1 b).2 hb),h4,h5,c,(hx a ((h1 a).2 (by rw[c];simp))).trans f,λi F m g1 g2=>by
  obtain⟨d,j,k⟩:=g i F m g1 g2;exact⟨d,cQ j hn,k.ext (hx m ((h1 m).2 (by rw[d];simp)))⟩⟩
theorem kV.lt{v hv:ae}{st:List al}{K:CH}{W:Nat->Prop}(h:kV v hv st K W) : ∀b,W b->b<K.nx:=by
 obtain⟨ow,bs,ms,a,c,h1,h2,_⟩:=h;exactλb hb=>h2 b ((h1 b).1 hb)
theorem kV.hx{v hv:ae}{st:List al}{K K':CH}{W:Nat->Prop}(h:kV v hv st K W)(hx:ag K K'):kV v hv st K' W:=h.st hx.nx λb hb=>hx.ob b (h.lt b hb)
theorem FS.add{ow:Ow}{bs ms:List Nat}{w:Nat}{R:Kd}{v hv:ae}{st:List al}{K:CH}{W:Nat->Prop}(h:FS ow bs ms w R v hv st K W){f:Nat}{F:al}(H:st[f]? = some F)(s:Bs) : ∃(b m:Nat) (vp vl vc vf:ae) (m1 m2 m3:Nat),ow b=some (f,0)/\ow m=some (f,14)/\(∀o n c y,vf= .slice (some ⟨y,o,none⟩) n c->ow y=some (f,4))/\(∃q L kd n,v= .slice (some ⟨q,0,none⟩) n n/\K.ob q= .cells L 73 kd/\L[f]? = some (pN b)/\f<n/\f<L.length/\q<K.nx/\W q/\q≠b/\q≠m/\ir vf q)/\(∃q L kd n,hv= .slice (some ⟨q,0,none⟩) n n/\K.ob q= .cells L 56 kd/\L[f]? = some (.map (some m))/\f<n/\f<L.length/\q<K.nx/\W q/\q≠b/\q≠m/\ir vf q)/\W b/\W m/\b<K.nx/\m<K.nx/\b≠m/\K.ob b= .cells [.string (tx F.nm), .int .i64 F.par,vp,vl,vc,vf, .bool F.gen, .map (some m1), .map (some m2), .map (some m3)] 75 .ex/\gM K m1 (mf (F.ps++F.ls))/\gM K m2 (mf F.g)/\gM K m (mf F.fs)/\eV (um 0) 9 1 fU K vf F.fs/\ir vf b/\ir vf m/\
 (∀o n c y,vf= .slice (some ⟨y,o,none⟩) n c->W y)/\
 ∀(K':CH) (r:Nat),K.nx<=r->r<K'.nx->(∀y,y<K.nx->W y->y≠b->y≠m->ir vf y->K'.ob y=K.ob y)->gM K' m (mf (F.fs++ [s]))->K'.ob r= .cells ((F.fs++ [s]).flatMap fU) 9 .gr->K'.ob b= .cells [.string (tx F.nm), .int .i64 F.par,vp,vl,vc, .slice (some ⟨r,0,none⟩) (F.fs.length+1) (F.fs.length+1), .bool F.gen, .map (some m1), .map (some m2), .map (some m3)] 75 .ex->∃cf,FS cf bs ms w R v hv (fo st f λF=> { F with fs:=F.fs++ [s] }) K' (λy=>W y\/y=r)/\pG ow cf K K':=by
 obtain⟨B,P,j7,I,Q,d,J,Ni⟩:=h;have wW:=j7;obtain⟨q,kd,rfl,D,uo,iG,yf,S⟩:=j7;have M:f<st.length:=(List.getElem?_eq_some_iff.1 H).1;obtain⟨N,b,T,hb,x,gR,uE⟩:=FP S M;obtain rfl:N=F:=by rw[H] at T;cases T;rfl
 obtain⟨_,_,vp,vl,vc,vf,w1,w2,w3,dX,k⟩:=S.get f N b T hb;obtain⟨m1,rfl,yi,eY,wS⟩:=wV k.b;obtain⟨m2,rfl,kK,j0,nP⟩:=wV k.g;obtain⟨m3,rfl,rG,pC,zK⟩:=wV k.o;obtain⟨m,U⟩ : ∃m,ms[f]? = some m:=⟨_,cj (by rw[Q];exact M)⟩;obtain⟨z,nX,pd⟩:=Ni f N m H U;have ue:b≠m:=λe=>by rw[e,z] at x;simp at x
 have E : ∀o n c y,vf= .slice (some ⟨y,o,none⟩) n c->ow y=some (f,4):=λo n c y A=>by
  rcases k.f with ⟨_,g⟩ | ⟨r',mT,g,g1,_⟩
  ·rw[g] at A;cases A
  rw[g] at A;cases A;exact g1
 have O : ∀y i j,ow y=some (i,j)->(i≠f\/j≠4)->ir vf y:=λy i j e aB o n c A=>by
  have:=E o n c y A;rw[e] at this;simp only[Option.some.injEq,Prod.mk.injEq] at this;omega
 obtain⟨js,Nj⟩:=zJ hb;refine⟨b,m,vp,vl,vc,vf,m1,m2,m3,x,z,E,⟨q,_,kd,_,rfl,iG,js,by rw[S.len];exact M,Nj,uo,(B q).2 (by rw[D];simp),λe=>by rw[e,x] at D;simp at D,λe=>by rw[e,z] at D;simp at D,O q _ _ D (.inr de)⟩,⟨w,_,R,_,I,J,by rw[ka,U];rfl,by rw[Q];exact M,by rw[eR,Q];exact M,P w (by rw[d];simp),(B w).2 (by rw[d];simp),λe=>by rw[e,x] at d;simp at d,λe=>by rw[e,z] at d;simp at d,O w _ _ d (.inr de)⟩,(B b).2 (by rw[x];simp),(B m).2 (by rw[z];simp),gR,nX,ue,dX,wS,nP,pd,k.f.gr,λo n c e=>by have:=E o n c b e;rw[x] at this;simp at this,λo n c e=>by have:=E o n c m e;rw[z] at this;simp at this,λo n c y e=>(B y).2 (by rw[E o n c y e];simp),?_⟩;intro K' r yH Dz kU pv dJ V;let cf:Ow:=λy=>if y=r then some (f,4) else ow y
 have a:pG ow cf K K':=⟨Om,λy C=>by
  show(if y=r then _ else ow y)=ow y;rw[iN Om]⟩
 have hk : ∀y i j,y<K.nx->ow y=some (i,j)->(i≠f\/(j≠0/\j≠4/\j≠14))->K'.ob y=K.ob y:=λy i j C e aB=>kU y C ((B y).2 (by rw[e];simp)) (λX=>by rw[X,x] at e;simp only[Option.some.injEq,Prod.mk.injEq] at e;omega) (λX=>by rw[X,z] at e;simp only[Option.some.injEq,Prod.mk.injEq] at e;omega) λo n c A=>by
  have:=E o n c y A;rw[e] at this;simp only[Option.some.injEq,Prod.mk.injEq] at this;omega
 refine⟨cf,⟨λy=> ?_,λy C=> ?_,?_,I,by rw[BP];exact Q,(a.ow w (P w (by rw[d];simp))).trans d,(hk w _ _ (P w (by rw[d];simp)) d (.inr de)).trans J,λi G Y g1 g2=> ?_⟩,a⟩
 ·show _↔(if y=r then some (f,4) else ow y)≠none;show(W y\/y=r)↔_;by_cases h1:y=r
  ·rw[iP h1];simp[h1]
  rw[iN h1,B];simp[h1]
 ·have C:(if y=r then some (f,4) else ow y)≠none:=C;by_cases h1:y=r
  ·omega
  rw[iN h1] at C;have:=P y C;omega
 ·refine wW.aeX H hb a (λy i j g1 g2 g3 g4=>hk y i j g1 g2 Om) ?_;refine⟨(a.ow b gR).trans x,Om,vp,vl,vc,_,_,_,_,V,?_⟩;exact⟨k.p.mv a λy t u=>hk y _ _ t u (.inr de),k.l.mv a λy t u=>hk y _ _ t u (.inr de),k.c.mv a λy t u=>hk y _ _ t u (.inr de), .inr ⟨r, .gr,Sm,iP rfl,Dz,dJ,rfl⟩,k.b.mv a λy t u=>hk y _ _ t u (.inr de),k.g.mv a λy t u=>hk y _ _ t u (.inr de),k.o.mv a λy t u=>hk y _ _ t u (.inr de)⟩
 unfold fo at g1;rw[xh] at g1;by_cases Z:f=i
 ·subst Z;rw[H] at g1;rw[U] at g2;cases g2;have g1 : { N with fs:=N.fs++ [s] }=G:=by simpa using g1
  rw[<-g1];exact⟨(a.ow m nX).trans z,Om,pv⟩
 have g1:st[i]? = some G:=by simpa[iN Z] using g1
 obtain⟨q1,q2,q3⟩:=Ni i G Y g1 g2;exact⟨(a.ow Y q2).trans q1,Om,q3.ext (hk Y i 14 q2 q1 (.inl (uz Z)))⟩
theorem kV.add{v hv:ae}{st:List al}{K:CH}{W:Nat->Prop}(h:kV v hv st K W){f:Nat}{F:al}(a:st[f]? = some F)(s:Bs) : ∃(b m:Nat) (vp vl vc vf:ae) (m1 m2 m3:Nat),(∃q L kd n,v= .slice (some ⟨q,0,none⟩) n n/\K.ob q= .cells L 73 kd/\L[f]? = some (pN b)/\f<n/\f<L.length/\q<K.nx/\W q/\q≠b/\q≠m/\ir vf q)/\(∃q L kd n,hv= .slice (some ⟨q,0,none⟩) n n/\K.ob q= .cells L 56 kd/\L[f]? = some (.map (some m))/\f<n/\f<L.length/\q<K.nx/\W q/\q≠b/\q≠m/\ir vf q)/\W b/\W m/\b<K.nx/\m<K.nx/\b≠m/\K.ob b= .cells [.string (tx F.nm), .int .i64 F.par,vp,vl,vc,vf, .bool F.gen, .map (some m1), .map (some m2), .map (some m3)] 75 .ex/\gM K m1 (mf (F.ps++F.ls))/\gM K m2 (mf F.g)/\gM K m (mf F.fs)/\eV (um 0) 9 1 fU K vf F.fs/\ir vf b/\ir vf m/\
 (∀o n c y,vf= .slice (some ⟨y,o,none⟩) n c->W y)/\
 ∀(K':CH) (r:Nat),K.nx<=r->r<K'.nx->(∀y,y<K.nx->W y->y≠b->y≠m->ir vf y->K'.ob y=K.ob y)->gM K' m (mf (F.fs++ [s]))->K'.ob r= .cells ((F.fs++ [s]).flatMap fU) 9 .gr->K'.ob b= .cells [.string (tx F.nm), .int .i64 F.par,vp,vl,vc, .slice (some ⟨r,0,none⟩) (F.fs.length+1) (F.fs.length+1), .bool F.gen, .map (some m1), .map (some m2), .map (some m3)] 75 .ex->kV v hv (fo st f λF=> { F with fs:=F.fs++ [s] }) K' (λy=>W y\/y=r):=by
 obtain⟨ow,bs,ms,d,e,h⟩:=h;obtain⟨b,m,vp,vl,vc,vf,m1,m2,m3,_,_,_,g1,g2,g3,g4,g5,g6,g7,g8,g9,g10,g11,g12,g13,g14,g15,g16⟩:=h.add a s;refine⟨b,m,vp,vl,vc,vf,m1,m2,m3,g1,g2,g3,g4,g5,g6,g7,g8,g9,g10,g11,g12,g13,g14,g15,λK' r i j k l p t=> ?_⟩;obtain⟨cf,q,_⟩:=g16 K' r i j k l p t;exact⟨cf,bs,ms,d,e,q⟩
end
end Can
end Go.Proofs.YticlaccbodpkeaaGreatDoor
