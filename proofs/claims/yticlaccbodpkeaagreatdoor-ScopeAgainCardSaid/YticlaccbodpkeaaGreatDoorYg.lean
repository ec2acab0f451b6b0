/- Parse, the program: the closure that Parse defers. Parse, the program: its small steps, as runs over trees. Parse, the program: steps along the grammar. Parse: how high the trees are. No program in sight. (Printed by tools/genpsh.py.). Parse, the program: leaf, single, place. Parse, the program: its rules, as runs over trees, along the grammar. (Printed by tools/genpw3.py.). Parse, the program: all its rules, along the grammar. (Printed by tools/genpw3.py.). Parse, the program: parse.Parse, ahead of its deferred call. Parse, the program: parse.Parse answers parseT. Parse, its laws: the sources of the example, where Lex is told. Parse, its laws: the table in which it is told what Parse does; Same of trees. Parse, its laws: Source; the example holds. Parse, its laws: the example holds. Parse, its laws: tokens that grow; Same of two trees. Rename: what is told, and what lies in the memory; kid. Rename: places, with. Parse: how many kids a node has: not more than half as many as there are tokens, and a few. No program in sight. Rename: rows of nodes that grow; what the functions lie in; each. Rename: a comprehension's clauses. Rename: the walk. -/
import Derived.Test.YticlaccbodpkeaaGreatDoorYd
import Derived.Test.YticlaccbodpkeaaGreatDoorYf
import Derived.Test.YticlaccbodpkeaaGreatDoorYe
import Derived.Test.YticlaccbodpkeaaGreatDoorYa
section
namespace Go.Proofs.YticlaccbodpkeaaGreatDoor
namespace Can
open Go Go.RowKit
set_option linter.unusedSimpArgs false
set_option linter.unusedVariables false
set_option maxRecDepth 4000
theorem gd_ret:GdRet Tryz.prog 68 3:=by
 intro args w ha
 match args,ha with
 | [v1,v2,v3],_=>
   refine callsDIn_of_wpSIn Tryz.func68 rfl trivial fun c0 cs hu=> ?_
   have hnt:(Tryz.f68).ntmps=20:=by rfl
   rw[hnt]
   apply wpSIn_seq
   apply wpSIn_region
   simp[wpOpsSIn,go_sem,recoverD,hu,Exit.thenS]
   refine wpSIn_of_wpIn rfl (wpIn_seq (wpIn_region ?_))
   simp[wpOpsIn,go_sem]
   refine wpIn_cond_false (by simp[Act.eval]) (wpIn_skip ?_)
   simp[bodyPostS,results,Tryz.f68]
   cases c0
   simp_all
def lastOps:Code→Array Oper
 | .seq _ b=>lastOps b
 | .cond _ a _=>lastOps a
 | .region _ ops _=>ops
 | _=> #[]
noncomputable def gdOps:Array Oper:=lastOps ((Tryz.f68).body.getD .skip)
noncomputable def gdD:DReg:=(resD Tryz.prog 20 gdOps).getD ⟨[],[],none⟩
theorem gdD_ok:DOk Tryz.prog 20 gdOps gdD∧PDOk Tryz.prog 20 gdOps gdD:=by
 refine resD_ok ?_
 unfold gdD
 have h:(resD Tryz.prog 20 gdOps).isSome=true:=by kernel_rfl
 cases hr:resD Tryz.prog 20 gdOps with
 | none=>rw[hr] at h;cases h
 | some l=>rfl
def gdH (H:CH)(l:Int):CH:=(H.new (.cells [.int .i64 0] 116 .ex)).set H.nx (.cells [.int .i64 l] 116 .ex)
def gdG (args:List Value)(v:Value)(H H':CH):Prop:=args.length=3∧∃l,v=wrV l∧WpR (tblG Tryz.prog LG GG) (.drw gdD) (fun t=>if t=4 then .pointer (some ⟨H.nx,0,none⟩) else args.getD t undef) (gdH H l) fun x _ K=>x= .normal∧K=H'
noncomputable def gdTl:Code:=match (Tryz.f68).body with
 | some (.seq _ (.seq _ (.cond _ x _)))=>x
 | _=> .skip
noncomputable def gd0:Array Oper:=match (Tryz.f68).body with
 | some (.seq (.region _ ops _) _)=>ops
 | _=> #[]
noncomputable def gd1:Array Oper:=match (Tryz.f68).body with
 | some (.seq _ (.seq (.region _ ops _) _))=>ops
 | _=> #[]
noncomputable def gd2:Array Oper:=match gdTl with
 | .seq (.region _ ops _) _=>ops
 | _=> #[]
noncomputable def gd3:Array Oper:=match gdTl with
 | .seq _ (.seq (.seq (.region _ ops _) _) _)=>ops
 | _=> #[]
noncomputable def gd4:Code:=match gdTl with
 | .seq _ (.seq (.seq _ (.cond _ x _)) _)=>x
 | _=> .skip
theorem gd_ops{K3:Act→World→Prop}{Q3:Exit→Act→World→Prop}{a:Act}{w:World}{l:Int}(h3:a.tmps.getD 3 undef=wrV l)(hs:20≤a.tmps.size)
 (hK : ∀a',a'.defers=a.defers→20≤a'.tmps.size→(∀t,t<3→a'.tmps.getD t undef=a.tmps.getD t undef)→a'.tmps.getD 12 undef= .agg #[.int .i64 l]→a'.tmps.getD 13 undef= .bool true→K3 a' w):wpOpsIn Fence.wide 0 Tryz.prog gd2 (thenQ K3 Q3) [0,1,2,3,4] a w:=by
 have hta : ∀(xt:TypeId) (v:Value) (w:World),(Instr.typeAssert (.iface 116 v) xt 116 true).run Tryz.prog w= .ok (.tuple #[v, .bool true]) w:=fun xt v w=>by kernel_rfl
 have s9:9<a.tmps.size:=by omega
 have s10:10<a.tmps.size:=by omega
 have s11:11<a.tmps.size:=by omega
 have s12:12<a.tmps.size:=by omega
 have s13:13<a.tmps.size:=by omega
 unfold wrV at h3
 simp only[Array.getD_eq_getD_getElem?] at h3 hK
 have e:gd2=_:=rfl
 conv at e=>rhs;whnf
 rw[e]
 simp[wpOpsIn,go_sem,thenQ,hta,h3,s9,s10,s11,s12,s13]
 refine hK _ rfl (by simpa using hs) (fun t ht=> ?_) ?_ ?_
 ·have g9:9≠t:=by omega
  have g10:10≠t:=by omega
  have g11:11≠t:=by omega
  have g12:12≠t:=by omega
  have g13:13≠t:=by omega
  simp[Array.getElem?_setIfInBounds,g9,g10,g11,g12,g13]
 ·simp[Array.getElem?_setIfInBounds,s12]
 ·simp[Array.getElem?_setIfInBounds,s13]
noncomputable def gdIts:List Item:=(resItems Tryz.prog 20 gd2 (gd2.toList.drop 5)).getD []
theorem gdIts_ok:resItems Tryz.prog 20 gd2 (gd2.toList.drop 5)=some gdIts:=by
 unfold gdIts
 have h:(resItems Tryz.prog 20 gd2 (gd2.toList.drop 5)).isSome=true:=by kernel_rfl
 cases hr:resItems Tryz.prog 20 gd2 (gd2.toList.drop 5) with
 | none=>rw[hr] at h;cases h
 | some l=>rfl
theorem gd_run{H:CH}{l:Int}{fr:Fr}(h12:fr 12= .agg #[.int .i64 l])(h13:fr 13= .bool true):WpI (tblG Tryz.prog LG GG) gdIts fr H fun fr1 H1=>fr1 0=fr 0∧fr1 1=fr 1∧fr1 2=fr 2∧fr1 4= .pointer (some ⟨H.nx,0,none⟩)∧fr1 5= .bool true∧H1=gdH H l:=by
 unfold gdH
 conv in gdIts=>reduce
 exact rz (an @h12 @h13)
theorem gd_tl{B:Nat}{β:Nat→Ent}{w:World}{u1 u2 u3 v1 v2 v3:Value}{l:Int}{H H':CH}{a:Act}{Q:Exit→Act→World→Prop}(hS:Sim Tryz.prog B β H w)(hargs:VRs β [u1,u2,u3] [v1,v2,v3])(hG:gdG [u1,u2,u3] (wrV l) H H')(h3:a.tmps.getD 3 undef=wrV l)(hs:20≤a.tmps.size)
 (ha : ∀i,i<3→a.tmps.getD i undef= [v1,v2,v3].getD i undef)
 (hK : ∀β' w' a',Sim Tryz.prog B β' H' w'→Evo β w β' w'→a'.defers=a.defers→Q .normal a' w'):gdTl.wpIn Fence.wide 0 Tryz.prog Q a w:=by
 obtain⟨_,l',hl,n,x,fr2,K',hev,rfl,rfl⟩:=hG
 have hl:l'=l:=by
  unfold wrV at hl
  injection hl with _ hl
  injection hl with hl
  simpa using hl.symm
 subst hl
 show(Code.seq (.region 2 gd2 false) (.seq (.seq (.region 3 gd3 false) (.cond (.tmp 15) gd4 .skip)) (.region 5 gdOps true))).wpIn Fence.wide 0 Tryz.prog Q a w
 refine wpIn_seq_k fun K hK2=>wpIn_region ?_
 show wpOpsIn Fence.wide 0 Tryz.prog gd2 _ ([0,1,2,3,4]++ [5,6,7]) a w
 refine wpOpsIn_app [5,6,7] [0,1,2,3,4] a w (gd_ops h3 hs fun a1 hd1 hs1 h01 h12 h13=> ?_)
 have hf1:FR β 20 (fun t=>if t<3 then [u1,u2,u3].getD t undef else if t=12 then .agg #[.int .i64 l'] else if t=13 then .bool true else undef) a1:=by
  refine⟨hs1,fun t=> ?_⟩
  show VR β (if t<3 then [u1,u2,u3].getD t undef else if t=12 then .agg #[.int .i64 l'] else if t=13 then .bool true else undef) _
  split
  ·rename_i ht
   rw[h01 t ht,ha t ht]
   obtain⟨z,z1,z2⟩:=hargs.2 t ([u1,u2,u3].getD t undef) (by
    obtain rfl | rfl | rfl:t=0∨t=1∨t=2:=by omega
    all_goals rfl)
   have e : [v1,v2,v3].getD t undef=z:=by rw[List.getD_eq_getElem?_getD,z1];rfl
   rw[e]
   exact z2
  ·split
   ·rename_i e;subst e;rw[h12];exact closedW_rel rfl β
   ·split
    ·rename_i e;subst e;rw[h13];exact .bool _
    ·exact .undef _
 obtain⟨m,fr1,H1,hrun,g0,g1,g2,g4,g5,rfl⟩:=gd_run (H:=H) (l:=l') (fr:=fun t=>if t<3 then [u1,u2,u3].getD t undef else if t=12 then .agg #[.int .i64 l'] else if t=13 then .bool true else undef) rfl rfl
 obtain⟨hl,hits⟩:=resItems_ok gdIts_ok
 refine items_sound (ro:=none) (fn_sound tg_ok m) [5,6,7] gdIts β _ fr1 H _ a1 w (by rw[hl];rfl) (fun k h1 h2=> ?_) hS hf1 hrun fun β2 w2 a2 q1 q2 q3 q4=> ?_
 ·have hk:k<(gd2.toList.drop 5).length:=by rw[←hl];exact h1
  refine⟨(gd2.toList.drop 5)[k],?_,hits k h1 hk⟩
  have hk3:k<3:=by simpa using h2
  obtain rfl | rfl | rfl:k=0∨k=1∨k=2:=by omega
  all_goals rfl
 ·refine hK2 _ _ ?_
  have h5:a2.tmps.getD 5 undef= .bool true:=by
   have:=q3.2 5
   rw[g5] at this
   exact this.bool_inv
  have hs2:=q3.1
  refine wpIn_seq (wpIn_seq (wpIn_region ?_))
  have e3:gd3=_:=rfl
  conv at e3=>rhs;whnf
  rw[e3]
  have s14:14<a2.tmps.size:=by omega
  have s15:15<a2.tmps.size:=by omega
  simp only[Array.getD_eq_getD_getElem?] at h5
  simp[wpOpsIn,go_sem,h5,s14,s15]
  refine wpIn_cond_false (by simp[Act.eval,Array.getElem?_setIfInBounds,s15]) (wpIn_skip ?_)
  have hev':evD (evH (tblG Tryz.prog LG GG) n) gdD (fun t=>if t=4 then .pointer (some ⟨H.nx,0,none⟩) else [u1,u2,u3].getD t undef) (gdH H l')=some (fr2,K'):=by
   simp only[evR] at hev
   cases hr:evD (evH (tblG Tryz.prog LG GG) n) gdD (fun t=>if t=4 then .pointer (some ⟨H.nx,0,none⟩) else [u1,u2,u3].getD t undef) (gdH H l') with
   | none=>rw[hr] at hev;simp at hev
   | some q=>rw[hr] at hev;simp at hev;rw[←hev.1,←hev.2]
  refine gdD_ok.1 B _ none β2 _ fr2 _ K' _ w2 5 Q (fn_sound tg_ok n) q1 ?_ hev' fun β3 w3 a3 p1 p2 p3 p4=>hK β3 w3 a3 p1 (q2.trans p2) (p4.trans (q4.trans hd1))
  refine⟨by simpa using hs2,fun t=> ?_⟩
  by_cases h15:t=15
  ·subst h15;exact .undef _
  by_cases h14:t=14
  ·subst h14;exact .undef _
  have e : ∀z y:Value,((a2.tmps.setIfInBounds 14 z).setIfInBounds 15 y).getD t undef=a2.tmps.getD t undef:=fun z y=>by
   have g14:14≠t:=fun e=>h14 e.symm
   have g15:15≠t:=fun e=>h15 e.symm
   simp[Array.getD_eq_getD_getElem?,Array.getElem?_setIfInBounds,g14,g15]
  show VR β2 (if t=4 then .pointer (some ⟨H.nx,0,none⟩) else [u1,u2,u3].getD t undef) (Array.getD _ t undef)
  rw[e]
  split
  ·rename_i h4
   subst h4
   rw[←g4]
   exact q3.2 4
  ·match t with
   | 0=>have:=q3.2 0;rw[g0] at this;exact this
   | 1=>have:=q3.2 1;rw[g1] at this;exact this
   | 2=>have:=q3.2 2;rw[g2] at this;exact this
   | n+3=>exact .undef _
theorem gd_pan{B:Nat}:GdPan Tryz.prog B 68 gdG:=by
 intro β w args args' v v' H H' hS hargs hv hG
 obtain⟨hlen,l,hvl,_⟩:=id hG
 subst hvl
 have hv':v'=wrV l:=by
  unfold wrV at hv⊢
  cases hv with
  | iface t hx=>rw[closedW_eq rfl hx]
 subst hv'
 match args,hlen,args',hargs with
 | [u1,u2,u3],_,[v1,v2,v3],hargs=>
   refine callsDIn_of_wpSIn (c:= .seq (.region 0 gd0 false) (.seq (.region 1 gd1 false) (.cond (.tmp 8) gdTl .skip))) Tryz.func68 rfl trivial fun c0 cs hu=> ?_
   have hnt:(Tryz.f68).ntmps=20:=by rfl
   rw[hnt]
   have e0:gd0=_:=rfl
   conv at e0=>rhs;whnf
   have e1:gd1=_:=rfl
   conv at e1=>rhs;whnf
   rw[e0,e1]
   apply wpSIn_seq
   apply wpSIn_region
   simp[wpOpsSIn,go_sem,recoverD,hu,Exit.thenS]
   refine wpSIn_of_wpIn rfl (wpIn_seq (wpIn_region ?_))
   simp[wpOpsIn,go_sem,wrV]
   refine wpIn_cond_true (by simp[Act.eval]) (gd_tl (l:=l) hS hargs hG (by simp[wrV]) (by simp) (fun i hi=> ?_) fun β' w' a' q1 q2 q3=> ?_)
   ·obtain rfl | rfl | rfl:i=0∨i=1∨i=2:=by omega
    all_goals simp
   ·simp[bodyPostS,results,Tryz.f68]
    exact⟨q3,β',q1,q2⟩
end Can
end Go.Proofs.YticlaccbodpkeaaGreatDoor
end
section
namespace Go.Proofs.YticlaccbodpkeaaGreatDoor
namespace Can
open Go Go.RowKit
set_option linter.unusedSimpArgs false
set_option linter.unusedVariables false
set_option maxRecDepth 4000
attribute [local irreducible] TC isT nowT begT
section
variable {Z:TP} {X:Pan} {W:Int→Value} {ts:List PT} {sl:Sl} {R:Value→Prop} {Q:AV→List SV→Prop} {E:Nat→Prop} {P:List Nd→Nat→Prop} {i:Nat}
theorem rd_inc(C:PCtx Z X W ts sl)(h:i<ts.length){a:AV}(hQ:Q a (rdS sl (i+1))):Q a [SV.sc (.slice sl.q sl.n sl.c),SV.sc (.int .i64 (IntKind.wrap .i64 ((i:Int)+1)))]:=by
 rw[wr_inc h C.len];exact hQ
theorem is_tc2(C:PCtx Z X W ts sl){s:List UInt8}(hs:s≠ [])(hi:i≤ts.length)(h1:isT ts i s=true→Q (rS (.bool true)) (rdS sl i))(h2:isT ts i s=false→Q (rS (.bool false)) (rdS sl i)):TC Z (tblG Tryz.prog LG GG) X 137 [.ptr 0 0,rS (.string ⟨⟨s⟩⟩)] (rdR sl i) Q R:=by
 refine is_tc C hs hi ?_
 cases hb:isT ts i s with
 | true=>exact h1 hb
 | false=>exact h2 hb
theorem has_tc(C:PCtx Z X W ts sl){s:List UInt8}(hs:s≠ [])(hi:i≤ts.length)(h1:isT ts i s=true→i<ts.length→Q (rS (.bool true)) (rdS sl (i+1)))(h2:isT ts i s=false→Q (rS (.bool false)) (rdS sl i)):TC Z (tblG Tryz.prog LG GG) X 99 [.ptr 0 0,rS (.string ⟨⟨s⟩⟩)] (rdR sl i) Q R:=by
 refine tc_rG dt_ok (by rfl) (by kernel_rfl) ?_
 conv in (rF _ _).body=>reduce
 conv in (rF _ _).res=>reduce
 conv=>whnf
 refine is_tc C hs hi ?_
 cases hb:isT ts i s with
 | false=>
   conv=>whnf
   exact h2 hb
 | true=>
   conv=>whnf
   exact rd_inc C (isT_lt' hb) (h1 hb (isT_lt' hb))
theorem want_tc(C:PCtx Z X W ts sl){s:List UInt8}(hs:s≠ [])(hi:i≤ts.length)(h1:isT ts i s=true→i<ts.length→Q (.tup []) (rdS sl (i+1)))(h2:isT ts i s=false→R (W (nowT ts i).line)):TC Z (tblG Tryz.prog LG GG) X 102 [.ptr 0 0,rS (.string ⟨⟨s⟩⟩)] (rdR sl i) Q R:=by
 refine tc_rG dt_ok (by rfl) (by kernel_rfl) ?_
 conv in (rF _ _).body=>reduce
 conv in (rF _ _).res=>reduce
 conv=>whnf
 refine has_tc C hs hi (fun hb hl=> ?_) (fun hb=> ?_)
 ·conv=>whnf
  exact h1 hb hl
 ·conv=>whnf
  exact C.fail i _ _ hi (h2 hb)
theorem wantKind_tc(C:PCtx Z X W ts sl){k:Int}(h0:k≠0)(hi:i≤ts.length)(h1:(nowT ts i).kind=k→i<ts.length→Q (rS (.string ⟨⟨(nowT ts i).text⟩⟩)) (rdS sl (i+1)))(h2:(nowT ts i).kind≠k→R (W (nowT ts i).line)):TC Z (tblG Tryz.prog LG GG) X 106 [.ptr 0 0,rS (.int .i64 k)] (rdR sl i) Q R:=by
 refine tc_rG dt_ok (by rfl) (by kernel_rfl) ?_
 conv in (rF _ _).body=>reduce
 conv in (rF _ _).res=>reduce
 conv=>whnf
 refine now_tc C hi ?_
 conv=>whnf
 refine ifT_c (fun hb=> ?_) (fun hb=> ?_)
 ·conv=>whnf
  refine C.fail i _ _ hi (h2 ?_)
  simpa using hb
 ·have hk:(nowT ts i).kind=k:=by simpa using hb
  have hl:i<ts.length:=kd_lt (by rw[hk];exact h0)
  conv=>whnf
  exact rd_inc C hl (h1 hk hl)
theorem begins_tc(C:PCtx Z X W ts sl)(hi:i≤ts.length)(hQ:Q (rS (.bool (begT ts i))) (rdS sl i)):TC Z (tblG Tryz.prog LG GG) X 142 [.ptr 0 0] (rdR sl i) Q R:=by
 refine tc_rG dt_ok (by rfl) (by kernel_rfl) ?_
 conv in (rF _ _).body=>reduce
 conv in (rF _ _).res=>reduce
 conv=>whnf
 refine now_tc C hi ?_
 obtain⟨t,ht⟩ : ∃t,nowT ts i=t:=⟨_,rfl⟩
 have hw:= @beg_w ts i
 have hs:= @beg_s ts i
 have hk:= @beg_k ts i
 have hn:= @beg_n ts i
 rw[ht] at hw hs hk hn⊢
 obtain⟨kd,ln,tx⟩:=t
 by_cases k4:kd=4
 ·subst k4
  rw[hk (show(4:Int)≤4∧(4:Int)≤7 by decide)] at hQ
  conv=>whnf
  exact hQ
 by_cases k5:kd=5
 ·subst k5
  rw[hk (show(4:Int)≤5∧(5:Int)≤7 by decide)] at hQ
  conv=>whnf
  exact hQ
 by_cases k6:kd=6
 ·subst k6
  rw[hk (show(4:Int)≤6∧(6:Int)≤7 by decide)] at hQ
  conv=>whnf
  exact hQ
 by_cases k7:kd=7
 ·subst k7
  rw[hk (show(4:Int)≤7∧(7:Int)≤7 by decide)] at hQ
  conv=>whnf
  exact hQ
 by_cases k8:kd=8
 ·subst k8
  conv=>whnf
  refine is_tc2 C (by decide) hi (fun(b0:isT ts i s_lambda=true)=> ?_) fun(b0:isT ts i s_lambda=false)=> ?_
  ·conv=>whnf
   rw[hw rfl,b0] at hQ
   exact hQ
  conv=>whnf
  refine is_tc2 C (by decide) hi (fun(b1:isT ts i s_not=true)=> ?_) fun(b1:isT ts i s_not=false)=> ?_
  ·conv=>whnf
   rw[hw rfl,b0,b1] at hQ
   exact hQ
  conv=>whnf
  refine is_tc2 C (by decide) hi (fun(b2:isT ts i s_None=true)=> ?_) fun(b2:isT ts i s_None=false)=> ?_
  ·conv=>whnf
   rw[hw rfl,b0,b1,b2] at hQ
   exact hQ
  conv=>whnf
  refine is_tc2 C (by decide) hi (fun(b3:isT ts i s_True=true)=> ?_) fun(b3:isT ts i s_True=false)=> ?_
  ·conv=>whnf
   rw[hw rfl,b0,b1,b2,b3] at hQ
   exact hQ
  conv=>whnf
  refine is_tc2 C (by decide) hi (fun(b4:isT ts i s_False=true)=> ?_) fun(b4:isT ts i s_False=false)=> ?_
  ·conv=>whnf
   rw[hw rfl,b0,b1,b2,b3,b4] at hQ
   exact hQ
  conv=>whnf
  rw[hw rfl,b0,b1,b2,b3,b4] at hQ
  exact hQ
 by_cases k9:kd=9
 ·subst k9
  conv=>whnf
  refine is_tc2 C (by decide) hi (fun(b0:isT ts i s_plus=true)=> ?_) fun(b0:isT ts i s_plus=false)=> ?_
  ·conv=>whnf
   rw[hs rfl,b0] at hQ
   exact hQ
  conv=>whnf
  refine is_tc2 C (by decide) hi (fun(b1:isT ts i s_minus=true)=> ?_) fun(b1:isT ts i s_minus=false)=> ?_
  ·conv=>whnf
   rw[hs rfl,b0,b1] at hQ
   exact hQ
  conv=>whnf
  refine is_tc2 C (by decide) hi (fun(b2:isT ts i s_lpar=true)=> ?_) fun(b2:isT ts i s_lpar=false)=> ?_
  ·conv=>whnf
   rw[hs rfl,b0,b1,b2] at hQ
   exact hQ
  conv=>whnf
  refine is_tc2 C (by decide) hi (fun(b3:isT ts i s_lbrk=true)=> ?_) fun(b3:isT ts i s_lbrk=false)=> ?_
  ·conv=>whnf
   rw[hs rfl,b0,b1,b2,b3] at hQ
   exact hQ
  conv=>whnf
  refine is_tc2 C (by decide) hi (fun(b4:isT ts i s_lbrc=true)=> ?_) fun(b4:isT ts i s_lbrc=false)=> ?_
  ·conv=>whnf
   rw[hs rfl,b0,b1,b2,b3,b4] at hQ
   exact hQ
  conv=>whnf
  rw[hs rfl,b0,b1,b2,b3,b4] at hQ
  exact hQ
 rw[hn (by simp only;omega) k8 k9] at hQ
 conv=>whnf
 refine ifT_c (fun h=>absurd (by simpa using h) k4) fun _=> ?_
 conv=>whnf
 refine ifT_c (fun h=>absurd (by simpa using h) k5) fun _=> ?_
 conv=>whnf
 refine ifT_c (fun h=>absurd (by simpa using h) k6) fun _=> ?_
 conv=>whnf
 refine ifT_c (fun h=>absurd (by simpa using h) k7) fun _=> ?_
 conv=>whnf
 refine ifT_c (fun h=>absurd (by simpa using h) k8) fun _=> ?_
 conv=>whnf
 refine ifT_c (fun h=>absurd (by simpa using h) k9) fun _=> ?_
 conv=>whnf
 exact hQ
theorem augment_tc(C:PCtx Z X W ts sl)(hi:i≤ts.length)(h1:augT ts i≠0→i<ts.length→Q (rS (.int .i64 (augT ts i:Nat))) (rdS sl (i+1)))(h2:augT ts i=0→Q (rS (.int .i64 0)) (rdS sl i)):TC Z (tblG Tryz.prog LG GG) X 171 [.ptr 0 0] (rdR sl i) Q R:=by
 refine tc_rG dt_ok (by rfl) (by kernel_rfl) ?_
 conv in (rF _ _).body=>reduce
 conv in (rF _ _).res=>reduce
 conv=>whnf
 refine has_tc C (by decide) hi (fun(b0:isT ts i s_plusA=true) hl=> ?_) (fun(b0:isT ts i s_plusA=false)=> ?_)
 ·conv=>whnf
  have e:augT ts i=1:=by simp[augT,b0]
  have h1:=h1 (by rw[e];decide) hl
  rw[e] at h1
  exact h1
 conv=>whnf
 refine has_tc C (by decide) hi (fun(b1:isT ts i s_minusA=true) hl=> ?_) (fun(b1:isT ts i s_minusA=false)=> ?_)
 ·conv=>whnf
  have e:augT ts i=2:=by simp[augT,b0,b1]
  have h1:=h1 (by rw[e];decide) hl
  rw[e] at h1
  exact h1
 conv=>whnf
 refine has_tc C (by decide) hi (fun(b2:isT ts i s_starA=true) hl=> ?_) (fun(b2:isT ts i s_starA=false)=> ?_)
 ·conv=>whnf
  have e:augT ts i=3:=by simp[augT,b0,b1,b2]
  have h1:=h1 (by rw[e];decide) hl
  rw[e] at h1
  exact h1
 conv=>whnf
 refine has_tc C (by decide) hi (fun(b3:isT ts i s_slashA=true) hl=> ?_) (fun(b3:isT ts i s_slashA=false)=> ?_)
 ·conv=>whnf
  have e:augT ts i=4:=by simp[augT,b0,b1,b2,b3]
  have h1:=h1 (by rw[e];decide) hl
  rw[e] at h1
  exact h1
 conv=>whnf
 refine has_tc C (by decide) hi (fun(b4:isT ts i s_dslashA=true) hl=> ?_) (fun(b4:isT ts i s_dslashA=false)=> ?_)
 ·conv=>whnf
  have e:augT ts i=5:=by simp[augT,b0,b1,b2,b3,b4]
  have h1:=h1 (by rw[e];decide) hl
  rw[e] at h1
  exact h1
 conv=>whnf
 refine has_tc C (by decide) hi (fun(b5:isT ts i s_pctA=true) hl=> ?_) (fun(b5:isT ts i s_pctA=false)=> ?_)
 ·conv=>whnf
  have e:augT ts i=6:=by simp[augT,b0,b1,b2,b3,b4,b5]
  have h1:=h1 (by rw[e];decide) hl
  rw[e] at h1
  exact h1
 conv=>whnf
 refine has_tc C (by decide) hi (fun(b6:isT ts i s_dstarA=true) hl=> ?_) (fun(b6:isT ts i s_dstarA=false)=> ?_)
 ·conv=>whnf
  have e:augT ts i=7:=by simp[augT,b0,b1,b2,b3,b4,b5,b6]
  have h1:=h1 (by rw[e];decide) hl
  rw[e] at h1
  exact h1
 conv=>whnf
 exact h2 (by simp[augT,b0,b1,b2,b3,b4,b5,b6])
theorem operator_tc(C:PCtx Z X W ts sl)(hi:i≤ts.length)(hE : ∀e,opT ts i= .error e→R (W (nowT ts e).line))(hQ : ∀op j,opT ts i= .ok (op,j)→j≤ts.length→Q (rS (.int .i64 (op:Nat))) (rdS sl j)):TC Z (tblG Tryz.prog LG GG) X 198 [.ptr 0 0] (rdR sl i) Q R:=by
 refine tc_rG dt_ok (by rfl) (by kernel_rfl) ?_
 conv in (rF _ _).body=>reduce
 conv in (rF _ _).res=>reduce
 conv=>whnf
 refine has_tc C (by decide) hi (fun(b0:isT ts i s_eqeq=true) hl=> ?_) (fun(b0:isT ts i s_eqeq=false)=> ?_)
 ·conv=>whnf
  exact hQ 1 (i+1) (by simp[opT,b0]) hl
 conv=>whnf
 refine has_tc C (by decide) hi (fun(b1:isT ts i s_bne=true) hl=> ?_) (fun(b1:isT ts i s_bne=false)=> ?_)
 ·conv=>whnf
  exact hQ 2 (i+1) (by simp[opT,b0,b1]) hl
 conv=>whnf
 refine has_tc C (by decide) hi (fun(b2:isT ts i s_lt=true) hl=> ?_) (fun(b2:isT ts i s_lt=false)=> ?_)
 ·conv=>whnf
  exact hQ 3 (i+1) (by simp[opT,b0,b1,b2]) hl
 conv=>whnf
 refine has_tc C (by decide) hi (fun(b3:isT ts i s_le=true) hl=> ?_) (fun(b3:isT ts i s_le=false)=> ?_)
 ·conv=>whnf
  exact hQ 4 (i+1) (by simp[opT,b0,b1,b2,b3]) hl
 conv=>whnf
 refine has_tc C (by decide) hi (fun(b4:isT ts i s_gt=true) hl=> ?_) (fun(b4:isT ts i s_gt=false)=> ?_)
 ·conv=>whnf
  exact hQ 5 (i+1) (by simp[opT,b0,b1,b2,b3,b4]) hl
 conv=>whnf
 refine has_tc C (by decide) hi (fun(b5:isT ts i s_ge=true) hl=> ?_) (fun(b5:isT ts i s_ge=false)=> ?_)
 ·conv=>whnf
  exact hQ 6 (i+1) (by simp[opT,b0,b1,b2,b3,b4,b5]) hl
 conv=>whnf
 refine has_tc C (by decide) hi (fun(b6:isT ts i s_in=true) hl=> ?_) (fun(b6:isT ts i s_in=false)=> ?_)
 ·conv=>whnf
  exact hQ 7 (i+1) (by simp[opT,b0,b1,b2,b3,b4,b5,b6]) hl
 conv=>whnf
 refine has_tc C (by decide) hi (fun(b7:isT ts i s_not=true) hl=> ?_) (fun(b7:isT ts i s_not=false)=> ?_)
 ·conv=>whnf
  refine want_tc C (by decide) hl (fun(c0:isT ts (i+1) s_in=true) hl=> ?_) (fun(c0:isT ts (i+1) s_in=false)=> ?_)
  ·conv=>whnf
   exact hQ 8 (i+2) (by simp[opT,b0,b1,b2,b3,b4,b5,b6,b7,c0]) hl
  ·exact hE (i+1) (by simp[opT,b0,b1,b2,b3,b4,b5,b6,b7,c0])
 conv=>whnf
 refine has_tc C (by decide) hi (fun(b8:isT ts i s_is=true) hl=> ?_) (fun(b8:isT ts i s_is=false)=> ?_)
 ·conv=>whnf
  refine has_tc C (by decide) hl (fun(c0:isT ts (i+1) s_not=true) hl=> ?_) (fun(c0:isT ts (i+1) s_not=false)=> ?_)
  ·conv=>whnf
   exact hQ 10 (i+2) (by simp[opT,b0,b1,b2,b3,b4,b5,b6,b7,b8,c0]) hl
  ·conv=>whnf
   exact hQ 9 (i+1) (by simp[opT,b0,b1,b2,b3,b4,b5,b6,b7,b8,c0]) hl
 conv=>whnf
 exact hQ 0 i (by simp[opT,b0,b1,b2,b3,b4,b5,b6,b7,b8]) hi
end
end Can
end Go.Proofs.YticlaccbodpkeaaGreatDoor
end
section
namespace Go.Proofs.YticlaccbodpkeaaGreatDoor
namespace Can
open Go Go.RowKit
set_option linter.unusedSimpArgs false
set_option linter.unusedVariables false
set_option maxRecDepth 4000
attribute [local irreducible] TC isT nowT begT
theorem gr_post{ts:List PT}{f:Nat}{a:NT}{i:Nat}(hg:a.good)(hi:i≤ts.length){E:Nat→Prop}{P:List Nd→Nat→Prop}(h:Gd E P (gr ts f a i)):Gd (fun e=>E e∧e≤ts.length) (fun l j=>P l j∧a.post i ts.length l j) (gr ts f a i):=by
 cases hr:gr ts f a i with
 | none=>rw[hr] at h;exact h
 | some r=>
   have h1:=gr_gd (ts:=ts) (max f (ts.length*64+a.rank+1)) a i hg hi (by omega)
   rw[gr_mono (Nat.le_max_left ..) hr] at h1
   rw[hr] at h
   match r,h,h1 with
   | .error e,h,h1=>exact⟨h,h1.2⟩
   | .ok (l,j),h,h1=>exact⟨h,h1⟩
def ans1:List Nd→AV
 | [t]=>ndA t
 | _=> .bad
def ansL (l:List Nd):AV:= .r (.c (.s (.row 5 (ndsS l))))
def AccV (acc:List Nd)(c:CV):Prop:=(acc= []∧c= .s (.row 5 []))∨(acc≠ []∧c= .own 0 26 5 (ndsS acc))
theorem accV_app{acc:List Nd}{t:Nd}{g:List (List SV)}(h:g=ndsS acc++ [ndS t]):AccV (acc++ [t]) (.own 0 26 5 g):= .inr ⟨by simp,by rw[h,ndsS_app];rfl⟩
theorem ndsS_snoc{acc:List Nd}{t:Nd}:ndsS (acc++ [t])=ndsS acc++ [ndS t]:=by rw[ndsS_app];rfl
theorem sn_agg{a b c d:CV}{acc:List Nd}{t:Nd}{g:List (List SV)}(h:g=ndsS acc++ [ndS t]):AV.r (.agg [a,b,c,d,CV.s (.row 5 g)])=AV.r (.agg [a,b,c,d,CV.s (.row 5 (ndsS (acc++ [t])))]):=by rw[h,ndsS_snoc]
theorem sn_row{acc:List Nd}{t:Nd}{g:List (List SV)}(h:g=ndsS acc++ [ndS t]):AV.r (.c (CV.s (.row 5 g)))=AV.r (.c (CV.s (.row 5 (ndsS (acc++ [t]))))):=by rw[h,ndsS_snoc]
theorem wr_dec{acc:List Nd}(hne:acc≠ [])(hm:(ndsS acc).length≤maxLen):IntKind.wrap .i64 (((ndsS acc).length:Int)-1)=((acc.length-1:Nat):Int):=by
 rw[ndsS_len] at hm⊢
 rw[maxLen_eq] at hm
 have:acc.length≠0:=fun e=>hne (List.length_eq_zero_iff.1 e)
 rw[w_i64 (by omega) (by omega)];omega
theorem last_get{acc:List Nd}{t:Nd}(h:acc.getLast? = some t):acc[acc.length-1]? = some t:=by rw[←h,List.getLast?_eq_getElem?]
theorem gd_pk1{E:Nat→Prop}{P:List Nd→Nat→Prop}{t:Nd}{j:Nat}{k:Nd→Nat→PR}(h:Gd E (fun l j=>∃t,l= [t]∧Gd E P (k t j)) (pk1 t j)):Gd E P (k t j):=by
 obtain⟨t',e,h⟩:=h
 cases e;exact h
theorem bdA{m:Nat}(h:m≤2199023255552):BdA m 64:=⟨by omega,by rw[maxLen_eq];omega⟩
theorem q_eq{Q:AV→List SV→Prop}{a a':AV}{s s':List SV}(ha:a=a')(hs:s=s')(h:Q a' s'):Q a s:=by rw[ha,hs];exact h
theorem len1_c{E:Nat→Prop}{P:List Nd→Nat→Prop}{acc:List Nd}{A B:PR}{b:Bool}{yes no:Prop}(hG:Gd E P (if acc.length=1 then A else B))(hb:b=true↔acc.length=1)(h1:Gd E P A→yes)(h2:Gd E P B→no):ifT b yes no:=by
 refine ifT_c (fun h=> ?_) fun h=> ?_
 ·rw[if_pos (hb.1 h)] at hG;exact h1 hG
 ·rw[if_neg (fun g=>by rw[hb.2 g] at h;cases h)] at hG;exact h2 hG
theorem ite_andP{p q:Prop}[Decidable p][Decidable q]{a b:PR}:(if p∧q then a else b)=if p then (if q then a else b) else b:=by
 by_cases hp:p<;>by_cases hq:q<;>simp[hp,hq]
abbrev oN(cs:List CV):Nat×TypeId×List CV:=(0,26,cs)
abbrev nzC:List CV:= [cS (.int .i64 0),cS (.int .i64 0),cS (.string ⟨⟨[]⟩⟩),cS (.int .i64 0), .s (.row 5 [])]
abbrev nC(k:Nat)(l:Int)(x:List UInt8)(o:Nat)(c:CV):List CV:= [cS (.int .i64 (k:Nat)),cS (.int .i64 l),cS (.string ⟨⟨x⟩⟩),cS (.int .i64 (o:Nat)),c]
abbrev nA(k:Nat)(l:Int)(x:List UInt8)(o:Nat)(ks:List Nd):List CV:=nC k l x o (.s (.row 5 (ndsS ks)))
abbrev oR(sl:Sl)(j:Nat):Nat×TypeId×List CV:=(0,114,[cS (.slice sl.q sl.n sl.c),cS (.int .i64 (j:Nat))])
def PC (Z:TP)(X:Pan)(W:Int→Value)(ts:List PT)(sl:Sl)(f:Nat)(a:NT)(F:FuncId)(args:List AV)(ans:List Nd→AV):Prop:=
 ∀(i:Nat) (Q:AV→List SV→Prop) (R:Value→Prop) (E:Nat→Prop) (P:List Nd→Nat→Prop),i≤ts.length→Gd E P (gr ts f a i)→(∀e,E e→R (W (nowT ts e).line))→(∀l j,P l j→j≤ts.length→Q (ans l) (rdS sl j))→TC Z (tblG Tryz.prog LG GG) X F args (rdR sl i) Q R
section
variable {Z:TP} {X:Pan} {W:Int→Value} {ts:List PT} {sl:Sl} {R:Value→Prop} {Q:AV→List SV→Prop} {E:Nat→Prop} {P:List Nd→Nat→Prop} {i:Nat}
theorem has_st(C:PCtx Z X W ts sl){s:List UInt8}{A B:PR}(hG:Gd E P (if isT ts i s=true then A else B))(hs:s≠ [])(hi:i≤ts.length)(h1:i<ts.length→Gd E P A→Q (rS (.bool true)) (rdS sl (i+1)))(h2:Gd E P B→Q (rS (.bool false)) (rdS sl i)):TC Z (tblG Tryz.prog LG GG) X 99 [.ptr 0 0,rS (.string ⟨⟨s⟩⟩)] (rdR sl i) Q R:=by
 refine has_tc C hs hi (fun h hl=> ?_) (fun h=> ?_)
 ·rw[if_pos h] at hG;exact h1 hl hG
 ·rw[if_neg (by rw[h];decide)] at hG;exact h2 hG
theorem is_st(C:PCtx Z X W ts sl){s:List UInt8}{A B:PR}(hG:Gd E P (if isT ts i s=true then A else B))(hs:s≠ [])(hi:i≤ts.length)(h1:isT ts i s=true→i<ts.length→Gd E P A→Q (rS (.bool true)) (rdS sl i))(h2:isT ts i s=false→Gd E P B→Q (rS (.bool false)) (rdS sl i)):TC Z (tblG Tryz.prog LG GG) X 137 [.ptr 0 0,rS (.string ⟨⟨s⟩⟩)] (rdR sl i) Q R:=by
 refine is_tc2 C hs hi (fun h=> ?_) (fun h=> ?_)
 ·rw[if_pos h] at hG;exact h1 h (isT_lt' h) hG
 ·rw[if_neg (by rw[h];decide)] at hG;exact h2 h hG
theorem is_stf(C:PCtx Z X W ts sl){s:List UInt8}{A B:PR}(hG:Gd E P (if isT ts i s=false then A else B))(hs:s≠ [])(hi:i≤ts.length)(h1:Gd E P B→Q (rS (.bool true)) (rdS sl i))(h2:Gd E P A→Q (rS (.bool false)) (rdS sl i)):TC Z (tblG Tryz.prog LG GG) X 137 [.ptr 0 0,rS (.string ⟨⟨s⟩⟩)] (rdR sl i) Q R:=by
 refine is_tc2 C hs hi (fun h=> ?_) (fun h=> ?_)
 ·rw[if_neg (by rw[h];decide)] at hG;exact h1 hG
 ·rw[if_pos h] at hG;exact h2 hG
theorem want_kn(C:PCtx Z X W ts sl){s:List UInt8}(hs:s≠ [])(hi:i≤ts.length)(hb:isT ts i s=true)(h1:i<ts.length→Q (.tup []) (rdS sl (i+1))):TC Z (tblG Tryz.prog LG GG) X 102 [.ptr 0 0,rS (.string ⟨⟨s⟩⟩)] (rdR sl i) Q R:=
 want_tc C hs hi (fun _ hl=>h1 hl) fun h=>by rw[hb] at h;cases h
theorem rd_wr(C:PCtx Z X W ts sl)(h:i<ts.length) : [SV.sc (.slice sl.q sl.n sl.c),SV.sc (.int .i64 (IntKind.wrap .i64 ((i:Int)+1)))]=rdS sl (i+1):=by
 rw[wr_inc h C.len];rfl
theorem begins_st(C:PCtx Z X W ts sl){A B:PR}(hG:Gd E P (if begT ts i=true then A else B))(hi:i≤ts.length)(h1:Gd E P A→Q (rS (.bool true)) (rdS sl i))(h2:Gd E P B→Q (rS (.bool false)) (rdS sl i)):TC Z (tblG Tryz.prog LG GG) X 142 [.ptr 0 0] (rdR sl i) Q R:=by
 refine begins_tc C hi ?_
 cases h:begT ts i with
 | true=>rw[if_pos h] at hG;exact h1 hG
 | false=>rw[if_neg (by rw[h];decide)] at hG;exact h2 hG
theorem kind_st(C:PCtx Z X W ts sl){k:Int}{A B:PR}(hG:Gd E P (if (nowT ts i).kind=k then A else B))(h0:k≠0)(hi:i≤ts.length)(h1:i<ts.length→Gd E P A→Q (rS (.bool true)) (rdS sl i))(h2:Gd E P B→Q (rS (.bool false)) (rdS sl i)):TC Z (tblG Tryz.prog LG GG) X 140 [.ptr 0 0,rS (.int .i64 k)] (rdR sl i) Q R:=by
 refine kind_tc C hi ?_
 by_cases h:(nowT ts i).kind=k
 ·rw[if_pos h] at hG;rw[decide_eq_true h];exact h1 (kd_lt (by rw[h];exact h0)) hG
 ·rw[if_neg h] at hG;rw[decide_eq_false h];exact h2 hG
theorem want_st(C:PCtx Z X W ts sl){s:List UInt8}{k:Nat→PR}(hG:Gd E P (wantB ts s i k))(hs:s≠ [])(hi:i≤ts.length)(hE : ∀e,E e→R (W (nowT ts e).line))(h1:i<ts.length→Gd E P (k (i+1))→Q (.tup []) (rdS sl (i+1))):TC Z (tblG Tryz.prog LG GG) X 102 [.ptr 0 0,rS (.string ⟨⟨s⟩⟩)] (rdR sl i) Q R:=by
 unfold wantB at hG
 refine want_tc C hs hi (fun h hl=> ?_) (fun h=> ?_)
 ·rw[if_pos h] at hG;exact h1 hl hG
 ·rw[if_neg (by rw[h];decide)] at hG;exact hE _ hG
theorem wantK_st(C:PCtx Z X W ts sl){kd:Int}{k:List UInt8→Nat→PR}(hG:Gd E P (wantK ts kd i k))(h0:kd≠0)(hi:i≤ts.length)(hE : ∀e,E e→R (W (nowT ts e).line))(h1:i<ts.length→Gd E P (k (nowT ts i).text (i+1))→Q (rS (.string ⟨⟨(nowT ts i).text⟩⟩)) (rdS sl (i+1))):TC Z (tblG Tryz.prog LG GG) X 106 [.ptr 0 0,rS (.int .i64 kd)] (rdR sl i) Q R:=by
 unfold wantK at hG
 refine wantKind_tc C h0 hi (fun h hl=> ?_) (fun h=> ?_)
 ·rw[if_pos h] at hG;exact h1 hl hG
 ·rw[if_neg h] at hG;exact hE _ hG
theorem fail_st(C:PCtx Z X W ts sl)(hi:i≤ts.length)(hG:Gd E P (some (.error i)))(hE : ∀e,E e→R (W (nowT ts e).line)):TC Z (tblG Tryz.prog LG GG) X 139 [.ptr 0 0] (rdR sl i) Q R:=C.fail i Q R hi (hE i hG)
theorem operator_st(C:PCtx Z X W ts sl){A:PR}{B:Nat→Nat→PR}(hG:Gd E P (match opT ts i with | .error e=>some (.error e) | .ok (0,_)=>A | .ok (op+1,j)=>B op j))(hi:i≤ts.length)(hE : ∀e,E e→R (W (nowT ts e).line))(h0:Gd E P A→Q (rS (.int .i64 0)) (rdS sl i))(h1 : ∀op j,i<j→j≤ts.length→Gd E P (B op j)→Q (rS (.int .i64 ((op+1:Nat):Int))) (rdS sl j)):TC Z (tblG Tryz.prog LG GG) X 198 [.ptr 0 0] (rdR sl i) Q R:=by
 have ho:=opT_gd hi
 refine operator_tc C hi (fun e h=> ?_) (fun op j h hj=> ?_)
 ·rw[h] at hG;exact hE e hG
 ·rw[h] at hG ho
  cases op with
  | zero=>
    rcases ho with ⟨_,e⟩ | ⟨h,_⟩
    ·subst e;exact h0 hG
    ·exact absurd rfl h
  | succ op=>
    rcases ho with ⟨h,_⟩ | ⟨_,h2,_⟩
    ·cases h
    ·exact h1 op j h2 hj hG
theorem augment_st(C:PCtx Z X W ts sl){A B:PR}(hG:Gd E P (if augT ts i=0 then A else B))(hi:i≤ts.length)(h1:augT ts i≠0→i<ts.length→Gd E P B→Q (rS (.int .i64 (augT ts i:Nat))) (rdS sl (i+1)))(h2:Gd E P A→Q (rS (.int .i64 0)) (rdS sl i)):TC Z (tblG Tryz.prog LG GG) X 171 [.ptr 0 0] (rdR sl i) Q R:=by
 refine augment_tc C hi (fun h hl=> ?_) (fun h=> ?_)
 ·rw[if_neg h] at hG;exact h1 h hl hG
 ·rw[if_pos h] at hG;exact h2 hG
theorem rul_st{f:Nat}{a:NT}{F:FuncId}{args:List AV}(h:PC Z X W ts sl f a F args ans1){k:Nd→Nat→PR}(hG:Gd E P (pb1 (gr ts f a i) k))(hg:a.good)(ha:a.acc=none)(hE : ∀e,E e→R (W (nowT ts e).line))(hi:i≤ts.length)(h1 : ∀n l x o ks j,i+a.min≤j→j≤ts.length→Gd E P (k (.mk n l x o ks) j)→Q (ndA (.mk n l x o ks)) (rdS sl j)):TC Z (tblG Tryz.prog LG GG) X F args (rdR sl i) Q R:=by
 rw[gd_pb1] at hG
 refine h i Q R _ _ hi (gr_post hg hi hG) (fun e he=>hE e he.1) fun l j ⟨⟨t,e,hP⟩,hp⟩ hj=> ?_
 subst e
 obtain⟨n,l,x,o,ks⟩:=t
 exact h1 n l x o ks j hp.1 hp.2.1 hP
theorem lst_st{f:Nat}{a:NT}{F:FuncId}{args:List AV}(h:PC Z X W ts sl f a F args ansL){k:List Nd→Nat→PR}(hG:Gd E P (pb (gr ts f a i) k))(hg:a.good)(ha:a.acc=some (a.acc.getD 0))(hE : ∀e,E e→R (W (nowT ts e).line))(hi:i≤ts.length)(h1 : ∀l j,i≤j→j≤ts.length→2*l.length+i≤2*a.acc.getD 0+j+1→Gd E P (k l j)→Q (ansL l) (rdS sl j)):TC Z (tblG Tryz.prog LG GG) X F args (rdR sl i) Q R:=by
 rw[gd_pb] at hG
 refine h i Q R _ _ hi (gr_post hg hi hG) (fun e he=>hE e he.1) fun l j ⟨hP,hp⟩ hj=> ?_
 obtain⟨p1,p2,p3⟩:=hp
 rw[ha] at p3
 exact h1 l j (by omega) p2 p3.1 hP
theorem tal_st{f:Nat}{a:NT}{F:FuncId}{args:List AV}(h:PC Z X W ts sl f a F args ans1)(hG:Gd E P (gr ts f a i))(hg:a.good)(ha:a.acc=none)(hE : ∀e,E e→R (W (nowT ts e).line))(hi:i≤ts.length)(h1 : ∀n l x o ks j,i+a.min≤j→j≤ts.length→P [.mk n l x o ks] j→Q (ndA (.mk n l x o ks)) (rdS sl j)):TC Z (tblG Tryz.prog LG GG) X F args (rdR sl i) Q R:=by
 refine h i Q R _ _ hi (gr_post hg hi hG) (fun e he=>hE e he.1) fun l j ⟨hP,hp⟩ hj=> ?_
 have h3:=hp.2.2
 rw[ha] at h3
 obtain⟨t,rfl⟩:=nd_one_of h3
 obtain⟨n,l,x,o,ks⟩:=t
 exact h1 n l x o ks j hp.1 hp.2.1 hP
end
end Can
end Go.Proofs.YticlaccbodpkeaaGreatDoor
end
section
namespace Go.Proofs.YticlaccbodpkeaaGreatDoor
namespace Can
set_option linter.unusedSimpArgs false
set_option linter.unusedVariables false
mutual
def htN:Nd→Nat
 | .mk _ _ _ _ ks=>htL ks+1
def htL:List Nd→Nat
 | []=>0
 | n::ks=>max (htN n) (htL ks)
end
theorem htL_drop{ks:List Nd}{i:Nat}{t:Nd}(h:ks[i]? = some t):htL (ks.drop i)=max (htN t) (htL (ks.drop (i+1))):=by
 obtain⟨hi,rfl⟩:=List.getElem?_eq_some_iff.1 h
 rw[List.drop_eq_getElem_cons hi]
 rfl
theorem htL_mem : ∀ {ks:List Nd} {t:Nd},t∈ks→htN t≤htL ks
 | n::ks,t,h=>by
   rcases List.mem_cons.1 h with rfl | h
   ·exact Nat.le_max_left _ _
   ·exact Nat.le_trans (htL_mem h) (Nat.le_max_right _ _)
mutual
def szN:Nd→Nat
 | .mk _ _ _ _ ks=>szL ks+1
def szL:List Nd→Nat
 | []=>0
 | n::ks=>szN n+szL ks
end
mutual
theorem ht_szN : ∀n:Nd,htN n≤szN n
 | .mk _ _ _ _ ks=>Nat.succ_le_succ (ht_szL ks)
theorem ht_szL : ∀ks:List Nd,htL ks≤szL ks
 | []=>Nat.le_refl _
 | n::ks=>Nat.max_le.2 ⟨Nat.le_trans (ht_szN n) (Nat.le_add_right _ _),Nat.le_trans (ht_szL ks) (Nat.le_add_left _ _)⟩
end
theorem szL_app : ∀ {a b:List Nd},szL (a++b)=szL a+szL b
 | [],b=>(Nat.zero_add _).symm
 | n::a,b=>by simp only[List.cons_append,szL,szL_app,Nat.add_assoc]
def NT.sz:NT→Nat
 | .params _ _ c=>szL c
 | .row _ b=>szL b
 | .exprsL _ b=>szL b
 | .orL a=>szN a
 | .andL a=>szN a
 | .cmpL a b=>szN a+szL b
 | .arithL a=>szN a
 | .termL a=>szN a
 | .primL a=>szN a
 | .index a=>szN a
 | .clauses a=>szL a
 | .dictL _ b=>szL b
 | .placesL _ b=>szL b
 | .names _ _ c=>szL c
 | .asgL _ b=>szL b
 | .blockL a=>szL a
 | .triesL a=>szL a
 | .triesF _ b=>szL b
 | .top a=>szL a
 | _=>0
def NT.lo:NT→Nat
 | .atom=>50
 | .primary=>50
 | .factor=>50
 | .term=>50
 | .arith=>50
 | .compare=>49
 | .expr=>49
 | .exprs=>48
 | .one=>50
 | .places=>49
 | .value=>47
 | .plain=>40
 | .simple=>40
 | .block=>30
 | .stmt=>30
 | .ifs _=>20
 | .not=>49
 | .and=>49
 | .or=>49
 | _=>0
def NT.ad:NT→Nat
 | .exprsL _ _=>1
 | .cmpL _ _=>1
 | .dictL _ _=>1
 | .placesL _ _=>1
 | .params _ _ _=>1
 | .maybe _ _ _=>1
 | .asgL _ _=>1
 | .list _=>1
 | .braces _=>1
 | .triesF _ _=>1
 | _=>0
def GdT (P:List Nd→Nat→Prop)(r:PR):Prop:=Gd (fun _=>True) P r
theorem gd_and{E E':Nat→Prop}{P P':List Nd→Nat→Prop}{r:PR}(h:Gd E P r)(h':Gd E' P' r):Gd (fun e=>E e∧E' e) (fun l j=>P l j∧P' l j) r:=by
 match r,h,h' with
 | some (.error e),h,h'=>exact⟨h,h'⟩
 | some (.ok (l,j)),h,h'=>exact⟨h,h'⟩
theorem gt_if{ts:List PT}{s:List UInt8}{i:Nat}{a b:PR}{P:List Nd→Nat→Prop}(h1:i<ts.length→GdT P a)(h2:GdT P b):GdT P (if isT ts i s=true then a else b):=gd_if h1 h2
theorem gt_ite{c:Prop}[Decidable c]{a b:PR}{P:List Nd→Nat→Prop}(h1:c→GdT P a)(h2 : ¬c→GdT P b):GdT P (if c then a else b):=gd_ite h1 h2
theorem gt_wantB{ts:List PT}{s:List UInt8}{i:Nat}{k:Nat→PR}{P:List Nd→Nat→Prop}(h2:i<ts.length→GdT P (k (i+1))):GdT P (wantB ts s i k):=gd_wantB trivial h2
theorem gt_wantK{ts:List PT}{kd:Int}(h0:kd≠0){i:Nat}{k:List UInt8→Nat→PR}{P:List Nd→Nat→Prop}(h2:i<ts.length→GdT P (k (nowT ts i).text (i+1))):GdT P (wantK ts kd i k):=gd_wantK h0 trivial h2
theorem gt_pk{t:Nd}{j:Nat}{P:List Nd→Nat→Prop}(h:P [t] j):GdT P (pk1 t j):=h
theorem gt_ok{l:List Nd}{j:Nat}{P:List Nd→Nat→Prop}(h:P l j):GdT P (some (.ok (l,j))):=h
theorem gt_er{e:Nat}{P:List Nd→Nat→Prop}:GdT P (some (.error e)):=trivial
def HtOk (ts:List PT)(f:Nat):Prop:=∀(a:NT) (i:Nat),a.good→i≤ts.length→ts.length*64+a.rank<f+i*64→GdT (fun l j=>szL l+64*i+a.lo≤a.sz+64*j+a.ad) (gr ts f a i)
theorem HtOk.one{ts:List PT}{f:Nat}(h:HtOk ts f){a:NT}{i:Nat}{P:List Nd→Nat→Prop}{k:Nd→Nat→PR}(hg:a.good)(hi:i≤ts.length)(hf:ts.length*64+a.rank<f+i*64)(ha:a.acc=none)(hP : ∀t j,i+a.min≤j→j≤ts.length→szN t+64*i+a.lo≤a.sz+64*j+a.ad→GdT P (k t j)):GdT P (pb1 (gr ts f a i) k):=by
 unfold GdT
 rw[gd_pb1]
 refine(gd_and (gr_gd f a i hg hi hf) (h a i hg hi hf)).mono (fun _ _=>trivial) fun l j h=> ?_
 obtain⟨⟨h1,h2,h3⟩,h4⟩:=h
 rw[ha] at h3
 obtain⟨t,rfl⟩:=nd_one_of h3
 exact⟨t,rfl,hP t j h1 h2 h4⟩
theorem HtOk.lst{ts:List PT}{f:Nat}(h:HtOk ts f){a:NT}{i:Nat}{P:List Nd→Nat→Prop}{k:List Nd→Nat→PR}(hg:a.good)(hi:i≤ts.length)(hf:ts.length*64+a.rank<f+i*64)(hP : ∀l j,i+a.min≤j→j≤ts.length→szL l+64*i+a.lo≤a.sz+64*j+a.ad→GdT P (k l j)):GdT P (pb (gr ts f a i) k):=by
 unfold GdT
 rw[gd_pb]
 refine(gd_and (gr_gd f a i hg hi hf) (h a i hg hi hf)).mono (fun _ _=>trivial) fun l j h=> ?_
 obtain⟨⟨h1,h2,h3⟩,h4⟩:=h
 exact hP l j h1 h2 h4
theorem HtOk.nxt{ts:List PT}{f:Nat}(h:HtOk ts f){a:NT}{i:Nat}{P:List Nd→Nat→Prop}(hg:a.good)(hi:i≤ts.length)(hf:ts.length*64+a.rank<f+i*64)(hP : ∀l j,i+a.min≤j→j≤ts.length→szL l+64*i+a.lo≤a.sz+64*j+a.ad→P l j):GdT P (gr ts f a i):=
 (gd_and (gr_gd f a i hg hi hf) (h a i hg hi hf)).mono (fun _ _=>trivial) fun l j ⟨⟨h1,h2,h3⟩,h4⟩=>hP l j h1 h2 h4
theorem gt_op{ts:List PT}{i:Nat}(hi:i≤ts.length){P:List Nd→Nat→Prop}{A:PR}{B:Nat→Nat→PR}(hA:GdT P A)(hB : ∀op j,i<j→j≤ts.length→GdT P (B op j)):GdT P (match opT ts i with | .error e=>some (.error e) | .ok (0,_)=>A | .ok (op+1,j)=>B op j):=by
 have ho:=opT_gd hi
 match opT ts i,ho with
 | .error e,ho=>exact gt_er
 | .ok (0,_),_=>exact hA
 | .ok (op+1,j),ho=>
   rcases ho with ⟨h,_⟩ | ⟨_,h1,h2⟩
   ·cases h
   ·exact hB op j h1 h2
set_option maxHeartbeats 4000000 in
theorem htOk_succ{ts:List PT}{f:Nat}(ih:HtOk ts f):HtOk ts (f+1):=by
 intro a i hg hi hf
 cases a
 case' maybe k l c=>cases c
 case' asgL l acc=>obtain⟨t,ht⟩:=last_ne hg
 case' cmpL n acc=>cases hb:acc.isEmpty
 all_goals first | simp only[gr,ht] | simp only[gr,hb,Bool.false_eq_true,if_false,if_true] | simp only[gr,Bool.false_eq_true,if_false,if_true]
 case' cmpL.false=>refine gt_op hi ?_ fun op j h1 h2=> ?_
 case' cmpL.true=>refine gt_op hi ?_ fun op j h1 h2=> ?_
 all_goals (repeat' first | (have h0:=kd_lt (by rw[h];decide);clear h) | (have h0:=kd_lt (i:=i) (ts:=ts) (by omega);clear h) | (have h0:=augT_lt h;clear h) | (with_reducible refine gt_if (fun h=> ?_) ?_) | ((with_reducible refine gt_wantB ?_);intro h) | ((with_reducible refine gt_wantK ?_ ?_);decide;intro h) | (with_reducible exact gt_er) | ((with_reducible refine gt_pk ?_);(simp only[NT.min,NT.sz,NT.lo,NT.ad,szN,szL,szL_app];omega)) | ((with_reducible refine gt_ok ?_);(simp only[NT.min,NT.sz,NT.lo,NT.ad,szN,szL,szL_app];omega)) | ((with_reducible refine ih.one ?_ ?_ ?_ ?_ ?_);(first | exact True.intro | simp[NT.good]);omega;(simp only[NT.rank] at hf⊢;omega);rfl;intro t j g1 g3 g7;simp only[NT.min,NT.sz,NT.lo,NT.ad,szN,szL,szL_app] at g1 g7) | ((with_reducible refine ih.lst ?_ ?_ ?_ ?_);(first | exact True.intro | simp[NT.good]);omega;(simp only[NT.rank] at hf⊢;omega);intro l j g1 g3 g7;simp only[NT.min,NT.sz,NT.lo,NT.ad,szN,szL,szL_app] at g1 g7) | ((with_reducible refine ih.nxt ?_ ?_ ?_ ?_);(first | exact True.intro | simp[NT.good]);omega;(simp only[NT.rank] at hf⊢;omega);intro l j g1 g3 g7;simp only[NT.min,NT.sz,NT.lo,NT.ad,szN,szL,szL_app] at g1 g7⊢;omega) | (with_reducible refine gt_ite (fun h=> ?_) (fun h=> ?_)))
theorem gr_ht{ts:List PT} : ∀f,HtOk ts f
 | 0=>fun a i _ hi h=>by omega
 | f+1=>htOk_succ (gr_ht f)
end Can
end Go.Proofs.YticlaccbodpkeaaGreatDoor
end
section
namespace Go.Proofs.YticlaccbodpkeaaGreatDoor
namespace Can
open Go Go.RowKit
set_option linter.unusedSimpArgs false
set_option linter.unusedVariables false
set_option maxRecDepth 4000
attribute [local irreducible] TC isT nowT begT
theorem wr_inc'{i n:Nat}(h:i<n)(hn:n≤maxLen):(IntKind.wrap .i64 ((i:Int)+1))=((i+1:Nat):Int):=by
 rw[maxLen_eq] at hn
 rw[w_i64 (by omega) (by omega)];omega
section
variable {Z:TP} {X:Pan} {R:Value→Prop} {Q:AV→List SV→Prop}
theorem leaf_tc{k:Int}(h4:4≤k)(h7:k≤7)(hQ:Q (rS (.int .i64 (leafK k:Nat))) []):TC Z (tblG Tryz.prog LG GG) X 183 [rS (.int .i64 k)] none Q R:=by
 refine tc_rG dt_ok (by rfl) (by kernel_rfl) ?_
 conv in (rF _ _).body=>reduce
 conv in (rF _ _).res=>reduce
 obtain rfl | rfl | rfl | rfl:k=4∨k=5∨k=6∨k=7:=by omega
 all_goals
  conv=>whnf
  exact hQ
theorem single_tc{k:Nat}{l:Int}{x:List UInt8}{o:Nat}{ks:List Nd}(hQ:Q (rS (.bool (singleN (.mk k l x o ks)))) []):TC Z (tblG Tryz.prog LG GG) X 146 [ndA (.mk k l x o ks)] none Q R:=by
 have e:singleN (.mk k l x o ks)=decide (k=36∨k=45∨k=46):=rfl
 rw[e] at hQ
 refine tc_rG dt_ok (by rfl) (by kernel_rfl) ?_
 conv in (rF _ _).body=>reduce
 conv in (rF _ _).res=>reduce
 by_cases h1:k=36
 ·subst h1
  conv=>whnf
  exact hQ
 by_cases h2:k=45
 ·subst h2
  conv=>whnf
  exact hQ
 by_cases h3:k=46
 ·subst h3
  conv=>whnf
  exact hQ
 rw[decide_eq_false (by omega)] at hQ
 conv=>whnf
 refine ifT_c (fun h=>by exfalso;simp at h;omega) fun h=> ?_
 conv=>whnf
 refine ifT_c (fun h=>by exfalso;simp at h;omega) fun h=> ?_
 conv=>whnf
 refine ifT_c (fun h=>by exfalso;simp at h;omega) fun h=> ?_
 conv=>whnf
 exact hQ
theorem single_st{k:Nat}{l:Int}{x:List UInt8}{o:Nat}{ks:List Nd}{E:Nat→Prop}{P:List Nd→Nat→Prop}{A B:PR}(hG:Gd E P (if singleN (.mk k l x o ks)=true then A else B))(h1:Gd E P A→Q (rS (.bool true)) [])(h2:Gd E P B→Q (rS (.bool false)) []):TC Z (tblG Tryz.prog LG GG) X 146 [ndA (.mk k l x o ks)] none Q R:=by
 refine single_tc ?_
 cases h:singleN (.mk k l x o ks) with
 | true=>rw[if_pos h] at hG;exact h1 hG
 | false=>rw[if_neg (by rw[h];decide)] at hG;exact h2 hG
theorem placesN_drop{ks:List Nd}{i:Nat}{t:Nd}(h:ks[i]? = some t):placesN (ks.drop i)=(placeN t&&placesN (ks.drop (i+1))):=by
 obtain⟨hi,rfl⟩:=List.getElem?_eq_some_iff.1 h
 rw[List.drop_eq_getElem_cons hi]
 rfl
noncomputable def nsz:Nd→Nat:=fun t=>SizeOf.sizeOf t
theorem nsz_lt{k:Nat}{l:Int}{x:List UInt8}{o:Nat}{ks:List Nd}{t:Nd}(h:t∈ks):nsz t<nsz (.mk k l x o ks):=by
 have h1:=List.sizeOf_lt_of_mem h
 unfold nsz
 rw[Nd.mk.sizeOf_spec]
 omega
theorem place_tc : ∀(N:Nat) (k:Nat) (l:Int) (x:List UInt8) (o:Nat) (ks:List Nd),nsz (.mk k l x o ks)<N→∀(Q:AV→List SV→Prop) (R:Value→Prop),Q (rS (.bool (placeN (.mk k l x o ks)))) []→TC Z (tblG Tryz.prog LG GG) X 167 [ndA (.mk k l x o ks)] none Q R:=by
 intro N
 induction N with
 | zero=>intro k l x o ks h;exact absurd h (Nat.not_lt_zero _)
 | succ N ih=>
 intro k l x o ks hN Q R hQ
 refine tc_rG dt_ok (by rfl) (by kernel_rfl) ?_
 conv in (rF _ _).body=>reduce
 conv in (rF _ _).res=>reduce
 by_cases hk:k=52∨k=51
 ·have e:placeN (.mk k l x o ks)=(placesN ks && !ks.isEmpty):=if_pos hk
  rw[e] at hQ
  rcases hk with rfl | rfl
  all_goals
   conv=>whnf
   refine loop_1 3 (fun m a s=>∃i:Nat,a=rS (.int .i64 (i:Nat))∧s=⟨0,[oN (nA _ l x o ks)]⟩∧m+i=ks.length∧placesN ks=placesN (ks.drop i)) ks.length [] rfl ⟨0,rfl,rfl,rfl,rfl⟩ ?_
   rintro m a f s ⟨i,rfl,rfl,hm,hp⟩
   conv=>whnf
   intro hmx
   conv=>whnf
   refine ifT_c (fun h=> ?_) fun h=> ?_
   ·have hi:i<ks.length:=by simp[ndsS_len] at h;omega
    obtain⟨t,ht⟩ : ∃t,ks[i]? = some t:=⟨_,List.getElem?_eq_getElem hi⟩
    have hd:=placesN_drop ht
    have hlt:=nsz_lt (List.mem_of_getElem? ht) (k:=52) (l:=l) (x:=x) (o:=o)
    have hlt2:=nsz_lt (List.mem_of_getElem? ht) (k:=51) (l:=l) (x:=x) (o:=o)
    obtain⟨k1,l1,x1,o1,ks1⟩:=t
    conv=>whnf
    refine⟨rfl,i,_,rfl,ndsS_get ht,?_⟩
    conv=>whnf
    refine ih k1 l1 x1 o1 ks1 (by omega) _ _ ?_
    conv=>whnf
    cases hpl:placeN (.mk k1 l1 x1 o1 ks1) with
    | true=>
      rw[hpl,Bool.true_and] at hd
      conv=>whnf
      rw[ndsS_len] at hmx
      exact⟨m-1,[],by omega,rfl,i+1,congrArg (fun n=>rS (.int .i64 n)) (wr_inc' hi hmx),rfl,by omega,hp.trans hd⟩
    | false=>
      rw[hp,hd,hpl] at hQ
      conv=>whnf
      exact hQ
   ·have hi:i=ks.length:=by simp[ndsS_len] at h;omega
    subst hi
    have hp:placesN ks=true:=by rw[hp,List.drop_length];rfl
    rw[hp,Bool.true_and] at hQ
    conv=>whnf
    intro hmx
    conv=>whnf
    refine ifT_c (fun h=> ?_) fun h=> ?_
    ·have:ks.isEmpty=false:=by cases ks;simp[ndsS] at h;rfl
     rw[this] at hQ
     conv=>whnf
     exact hQ
    ·have:ks.isEmpty=true:=by cases ks;rfl;simp[ndsS] at h
     rw[this] at hQ
     conv=>whnf
     exact hQ
 ·have e:placeN (.mk k l x o ks)=decide (k=36∨k=45∨k=46):=if_neg hk
  have e':singleN (.mk k l x o ks)=decide (k=36∨k=45∨k=46):=rfl
  rw[e,←e'] at hQ
  conv=>whnf
  refine ifT_c (fun h=> ?_) fun h=>by exfalso;simp at h;omega
  conv=>whnf
  refine ifT_c (fun h=> ?_) fun h=>by exfalso;simp at h;omega
  conv=>whnf
  refine single_tc ?_
  conv=>whnf
  cases hs:singleN (.mk k l x o ks) with
  | true=>
    rw[hs] at hQ
    conv=>whnf
    exact hQ
  | false=>
    rw[hs] at hQ
    conv=>whnf
    exact hQ
theorem place_st{k:Nat}{l:Int}{x:List UInt8}{o:Nat}{ks:List Nd}{E:Nat→Prop}{P:List Nd→Nat→Prop}{A B:PR}(hG:Gd E P (if placeN (.mk k l x o ks)=true then A else B))(h1:Gd E P A→Q (rS (.bool true)) [])(h2:Gd E P B→Q (rS (.bool false)) []):TC Z (tblG Tryz.prog LG GG) X 167 [ndA (.mk k l x o ks)] none Q R:=by
 refine place_tc _ k l x o ks (Nat.lt_succ_self _) Q R ?_
 cases h:placeN (.mk k l x o ks) with
 | true=>rw[if_pos h] at hG;exact h1 hG
 | false=>rw[if_neg (by rw[h];decide)] at hG;exact h2 hG
theorem max_int(a b:Nat):(if true=true then (if ((b:Nat):Int)>(a:Nat) then ((b:Nat):Int) else (a:Nat)) else if ((b:Nat):Int)<(a:Nat) then ((b:Nat):Int) else (a:Nat))=((max a b:Nat):Int):=by
 rw[if_pos rfl]
 split<;>omega
theorem height_tc : ∀(N:Nat) (k:Nat) (l:Int) (x:List UInt8) (o:Nat) (ks:List Nd),nsz (.mk k l x o ks)<N→htL ks+1≤9223372036854775807→∀(Q:AV→List SV→Prop) (R:Value→Prop),Q (rS (.int .i64 (htL ks+1:Nat))) []→TC Z (tblG Tryz.prog LG GG) X 72 [ndA (.mk k l x o ks)] none Q R:=by
 intro N
 induction N with
 | zero=>intro k l x o ks h;exact absurd h (Nat.not_lt_zero _)
 | succ N ih=>
 intro k l x o ks hN hB Q R hQ
 refine tc_rG dt_ok (by rfl) (by kernel_rfl) ?_
 conv in (rF _ _).body=>reduce
 conv in (rF _ _).res=>reduce
 conv=>whnf
 refine loop_2 4 3 (fun m a b s=>∃i h:Nat,a=rS (.int .i64 (i:Nat))∧b=rS (.int .i64 (h:Nat))∧s=⟨0,[oN (nA k l x o ks)]⟩∧m+i=ks.length∧max h (htL (ks.drop i))=htL ks) ks.length [] rfl ⟨0,0,rfl,rfl,rfl,rfl,Nat.zero_max _⟩ ?_
 rintro m a b f s ⟨i,h,rfl,rfl,rfl,hm,hp⟩
 conv=>whnf
 intro hmx
 conv=>whnf
 refine ifT_c (fun hc=> ?_) fun hc=> ?_
 ·have hi:i<ks.length:=by simp[ndsS_len] at hc;omega
  obtain⟨t,ht⟩ : ∃t,ks[i]? = some t:=⟨_,List.getElem?_eq_getElem hi⟩
  have hd:=htL_drop ht
  have hlt:=nsz_lt (List.mem_of_getElem? ht) (k:=k) (l:=l) (x:=x) (o:=o)
  have hht:=htL_mem (List.mem_of_getElem? ht)
  obtain⟨k1,l1,x1,o1,ks1⟩:=t
  have e1:htN (.mk k1 l1 x1 o1 ks1)=htL ks1+1:=rfl
  conv=>whnf
  refine⟨rfl,i,_,rfl,ndsS_get ht,?_⟩
  conv=>whnf
  refine ih k1 l1 x1 o1 ks1 (by omega) (by omega) _ _ ?_
  conv=>whnf
  rw[ndsS_len] at hmx
  refine⟨m-1,[],by omega,rfl,i+1,max h (htL ks1+1),congrArg (fun n=>rS (.int .i64 n)) (wr_inc' hi hmx),?_,rfl,by omega,by rw[←hp,hd,e1,Nat.max_assoc]⟩
  exact congrArg (fun n=>rS (.int .i64 n)) (max_int h (htL ks1+1))
 ·have hi:i=ks.length:=by simp[ndsS_len] at hc;omega
  subst hi
  have hp:h=htL ks:=by rw[←hp,List.drop_length];exact(Nat.max_zero _).symm
  subst hp
  conv=>whnf
  exact q_eq (congrArg (fun n=>rS (.int .i64 n)) (wr_inc' (Nat.lt_succ_self _) (by rw[maxLen_eq];omega))) rfl hQ
end
end Can
end Go.Proofs.YticlaccbodpkeaaGreatDoor
end
section
namespace Go.Proofs.YticlaccbodpkeaaGreatDoor
namespace Can
open Go Go.RowKit
set_option linter.unusedSimpArgs false
set_option linter.unusedVariables false
set_option maxRecDepth 4000
attribute [local irreducible] TC isT nowT begT placeN
structure PAll(Z:TP)(X:Pan)(W:Int→Value)(ts:List PT)(sl:Sl)(g:Nat):Prop where
 expr:PC Z X W ts sl g .expr 101 [.ptr 0 0] ans1
 or_:PC Z X W ts sl g .or 138 [.ptr 0 0] ans1
 and_:PC Z X W ts sl g .and 166 [.ptr 0 0] ans1
 not_:PC Z X W ts sl g .not 182 [.ptr 0 0] ans1
 compare:PC Z X W ts sl g .compare 190 [.ptr 0 0] ans1
 arith:PC Z X W ts sl g .arith 197 [.ptr 0 0] ans1
 term:PC Z X W ts sl g .term 201 [.ptr 0 0] ans1
 factor:PC Z X W ts sl g .factor 203 [.ptr 0 0] ans1
 primary:PC Z X W ts sl g .primary 145 [.ptr 0 0] ans1
 atom:PC Z X W ts sl g .atom 168 [.ptr 0 0] ans1
 exprs:PC Z X W ts sl g .exprs 105 [.ptr 0 0] ans1
 one:PC Z X W ts sl g .one 141 [.ptr 0 0] ans1
 places:PC Z X W ts sl g .places 104 [.ptr 0 0] ans1
 simple:PC Z X W ts sl g .simple 110 [.ptr 0 0] ans1
 plain:PC Z X W ts sl g .plain 147 [.ptr 0 0] ans1
 value:PC Z X W ts sl g .value 170 [.ptr 0 0] ans1
 block:PC Z X W ts sl g .block 103 [.ptr 0 0] ans1
 stmt:PC Z X W ts sl g .stmt 71 [.ptr 0 0] ans1
 params : ∀(cl:List UInt8) (ln:Int),cl≠ []→PC Z X W ts sl g (.params cl ln []) 107 [.ptr 0 0,rS (.int .i64 ln),rS (.string ⟨⟨cl⟩⟩)] ans1
 row : ∀(cl:List UInt8),cl≠ []→PC Z X W ts sl g (.row cl []) 108 [.ptr 0 0,rS (.string ⟨⟨cl⟩⟩)] ansL
 index : ∀(k:Nat) (l:Int) (x:List UInt8) (o:Nat) (ks:List Nd),PC Z X W ts sl g (.index (.mk k l x o ks)) 169 [.ptr 0 0,ndA (.mk k l x o ks)] ans1
 clauses:PC Z X W ts sl g (.clauses []) 191 [.ptr 0 0] ansL
 list : ∀(ln:Int),PC Z X W ts sl g (.list ln) 184 [.ptr 0 0,rS (.int .i64 ln)] ans1
 braces : ∀(ln:Int),PC Z X W ts sl g (.braces ln) 185 [.ptr 0 0,rS (.int .i64 ln)] ans1
 names : ∀(k:Nat) (ln:Int),PC Z X W ts sl g (.names k ln []) 144 [.ptr 0 0,rS (.int .i64 (k:Nat)),rS (.int .i64 ln)] ans1
 maybe : ∀(k:Nat) (ln:Int) (all:Bool),PC Z X W ts sl g (.maybe k ln all) 143 [.ptr 0 0,rS (.int .i64 (k:Nat)),rS (.int .i64 ln),rS (.bool all)] ans1
 ifs : ∀(ln:Int),PC Z X W ts sl g (.ifs ln) 100 [.ptr 0 0,rS (.int .i64 ln)] ans1
 tries : ∀(ln:Int),PC Z X W ts sl g (.tries ln) 109 [.ptr 0 0,rS (.int .i64 ln)] ans1
theorem tck{Z:TP}{X:Pan}{args:List AV}{self:Self}{Q:AV→List SV→Prop}{R:Value→Prop}(g:FuncId)(h:TC Z (tblG Tryz.prog LG GG) X g args self Q R):TC Z (tblG Tryz.prog LG GG) X g args self Q R:=h
set_option maxRecDepth 1000000 in
theorem pw_go{Pz:Prop}(hz:Pz:=by
 repeat' first
  | ((with_reducible refine tck 99 ?_);first | (refine has_st C hG (by first | decide | exact cl_ne) (by omega) (fun hl hG=> ?_) (fun hG=> ?_)<;>(conv=>whnf)))
  | ((with_reducible refine tck 70 ?_);first | (refine now_tc C (by omega) ?_;(conv=>whnf)))
  | ((with_reducible refine tck 102 ?_);first | (refine want_st C hG (by first | decide | exact cl_ne) (by omega) (by intro e he;first | exact hE e he | exact⟨True.intro,hE e he⟩) ?_;intro hl hG;(conv=>whnf)) | (refine want_kn C (by decide) (by omega) hb ?_;intro hl;(conv=>whnf)))
  | ((with_reducible refine tck 137 ?_);first | (refine is_st C hG (by first | decide | exact cl_ne) (by omega) (fun hb hl hG=> ?_) (fun hb hG=> ?_)<;>(conv=>whnf)) | (refine is_stf C hG (by first | decide | exact cl_ne) (by omega) (fun hG=> ?_) (fun hG=> ?_)<;>(conv=>whnf)))
  | ((with_reducible refine tck 106 ?_);first | (refine wantK_st C hG (by decide) (by omega) (by intro e he;first | exact hE e he | exact⟨True.intro,hE e he⟩) ?_;intro hl hG;(conv=>whnf)))
  | ((with_reducible refine tck 142 ?_);first | (refine begins_st C hG (by omega) (fun hG=> ?_) (fun hG=> ?_)<;>(conv=>whnf)))
  | ((with_reducible refine tck 140 ?_);first | (refine kind_st C hG (by decide) (by omega) (fun hl hG=> ?_) (fun hG=> ?_)<;>(conv=>whnf)))
  | ((with_reducible refine tck 101 ?_);first | (refine rul_st ihf.expr hG (by trivial) rfl (by intro e he;first | exact hE e he | exact⟨True.intro,hE e he⟩) (by omega) ?_;intro n1 l1 x1 o1 ks1 j1 hp1 hj1 hG;simp only[NT.min] at hp1;(conv=>whnf)) | (refine tal_st ihf.expr hG (by trivial) rfl (by intro e he;first | exact hE e he | exact⟨True.intro,hE e he⟩) (by omega) ?_;intro n1 l1 x1 o1 ks1 j1 hp1 hj1 hG;simp only[NT.min] at hp1;(conv=>whnf)))
  | ((with_reducible refine tck 138 ?_);first | (refine rul_st ihf.or_ hG (by trivial) rfl (by intro e he;first | exact hE e he | exact⟨True.intro,hE e he⟩) (by omega) ?_;intro n1 l1 x1 o1 ks1 j1 hp1 hj1 hG;simp only[NT.min] at hp1;(conv=>whnf)) | (refine tal_st ihf.or_ hG (by trivial) rfl (by intro e he;first | exact hE e he | exact⟨True.intro,hE e he⟩) (by omega) ?_;intro n1 l1 x1 o1 ks1 j1 hp1 hj1 hG;simp only[NT.min] at hp1;(conv=>whnf)))
  | ((with_reducible refine tck 166 ?_);first | (refine rul_st ihf.and_ hG (by trivial) rfl (by intro e he;first | exact hE e he | exact⟨True.intro,hE e he⟩) (by omega) ?_;intro n1 l1 x1 o1 ks1 j1 hp1 hj1 hG;simp only[NT.min] at hp1;(conv=>whnf)) | (refine tal_st ihf.and_ hG (by trivial) rfl (by intro e he;first | exact hE e he | exact⟨True.intro,hE e he⟩) (by omega) ?_;intro n1 l1 x1 o1 ks1 j1 hp1 hj1 hG;simp only[NT.min] at hp1;(conv=>whnf)))
  | ((with_reducible refine tck 182 ?_);first | (refine rul_st ihf.not_ hG (by trivial) rfl (by intro e he;first | exact hE e he | exact⟨True.intro,hE e he⟩) (by omega) ?_;intro n1 l1 x1 o1 ks1 j1 hp1 hj1 hG;simp only[NT.min] at hp1;(conv=>whnf)) | (refine tal_st ihf.not_ hG (by trivial) rfl (by intro e he;first | exact hE e he | exact⟨True.intro,hE e he⟩) (by omega) ?_;intro n1 l1 x1 o1 ks1 j1 hp1 hj1 hG;simp only[NT.min] at hp1;(conv=>whnf)))
  | ((with_reducible refine tck 190 ?_);first | (refine rul_st ihf.compare hG (by trivial) rfl (by intro e he;first | exact hE e he | exact⟨True.intro,hE e he⟩) (by omega) ?_;intro n1 l1 x1 o1 ks1 j1 hp1 hj1 hG;simp only[NT.min] at hp1;(conv=>whnf)) | (refine tal_st ihf.compare hG (by trivial) rfl (by intro e he;first | exact hE e he | exact⟨True.intro,hE e he⟩) (by omega) ?_;intro n1 l1 x1 o1 ks1 j1 hp1 hj1 hG;simp only[NT.min] at hp1;(conv=>whnf)))
  | ((with_reducible refine tck 197 ?_);first | (refine rul_st ihf.arith hG (by trivial) rfl (by intro e he;first | exact hE e he | exact⟨True.intro,hE e he⟩) (by omega) ?_;intro n1 l1 x1 o1 ks1 j1 hp1 hj1 hG;simp only[NT.min] at hp1;(conv=>whnf)) | (refine tal_st ihf.arith hG (by trivial) rfl (by intro e he;first | exact hE e he | exact⟨True.intro,hE e he⟩) (by omega) ?_;intro n1 l1 x1 o1 ks1 j1 hp1 hj1 hG;simp only[NT.min] at hp1;(conv=>whnf)))
  | ((with_reducible refine tck 201 ?_);first | (refine rul_st ihf.term hG (by trivial) rfl (by intro e he;first | exact hE e he | exact⟨True.intro,hE e he⟩) (by omega) ?_;intro n1 l1 x1 o1 ks1 j1 hp1 hj1 hG;simp only[NT.min] at hp1;(conv=>whnf)) | (refine tal_st ihf.term hG (by trivial) rfl (by intro e he;first | exact hE e he | exact⟨True.intro,hE e he⟩) (by omega) ?_;intro n1 l1 x1 o1 ks1 j1 hp1 hj1 hG;simp only[NT.min] at hp1;(conv=>whnf)))
  | ((with_reducible refine tck 203 ?_);first | (refine rul_st ihf.factor hG (by trivial) rfl (by intro e he;first | exact hE e he | exact⟨True.intro,hE e he⟩) (by omega) ?_;intro n1 l1 x1 o1 ks1 j1 hp1 hj1 hG;simp only[NT.min] at hp1;(conv=>whnf)) | (refine tal_st ihf.factor hG (by trivial) rfl (by intro e he;first | exact hE e he | exact⟨True.intro,hE e he⟩) (by omega) ?_;intro n1 l1 x1 o1 ks1 j1 hp1 hj1 hG;simp only[NT.min] at hp1;(conv=>whnf)))
  | ((with_reducible refine tck 145 ?_);first | (refine rul_st ihf.primary hG (by trivial) rfl (by intro e he;first | exact hE e he | exact⟨True.intro,hE e he⟩) (by omega) ?_;intro n1 l1 x1 o1 ks1 j1 hp1 hj1 hG;simp only[NT.min] at hp1;(conv=>whnf)) | (refine tal_st ihf.primary hG (by trivial) rfl (by intro e he;first | exact hE e he | exact⟨True.intro,hE e he⟩) (by omega) ?_;intro n1 l1 x1 o1 ks1 j1 hp1 hj1 hG;simp only[NT.min] at hp1;(conv=>whnf)))
  | ((with_reducible refine tck 168 ?_);first | (refine rul_st ihf.atom hG (by trivial) rfl (by intro e he;first | exact hE e he | exact⟨True.intro,hE e he⟩) (by omega) ?_;intro n1 l1 x1 o1 ks1 j1 hp1 hj1 hG;simp only[NT.min] at hp1;(conv=>whnf)) | (refine tal_st ihf.atom hG (by trivial) rfl (by intro e he;first | exact hE e he | exact⟨True.intro,hE e he⟩) (by omega) ?_;intro n1 l1 x1 o1 ks1 j1 hp1 hj1 hG;simp only[NT.min] at hp1;(conv=>whnf)))
  | ((with_reducible refine tck 105 ?_);first | (refine rul_st ihf.exprs hG (by trivial) rfl (by intro e he;first | exact hE e he | exact⟨True.intro,hE e he⟩) (by omega) ?_;intro n1 l1 x1 o1 ks1 j1 hp1 hj1 hG;simp only[NT.min] at hp1;(conv=>whnf)) | (refine tal_st ihf.exprs hG (by trivial) rfl (by intro e he;first | exact hE e he | exact⟨True.intro,hE e he⟩) (by omega) ?_;intro n1 l1 x1 o1 ks1 j1 hp1 hj1 hG;simp only[NT.min] at hp1;(conv=>whnf)))
  | ((with_reducible refine tck 141 ?_);first | (refine rul_st ihf.one hG (by trivial) rfl (by intro e he;first | exact hE e he | exact⟨True.intro,hE e he⟩) (by omega) ?_;intro n1 l1 x1 o1 ks1 j1 hp1 hj1 hG;simp only[NT.min] at hp1;(conv=>whnf)) | (refine tal_st ihf.one hG (by trivial) rfl (by intro e he;first | exact hE e he | exact⟨True.intro,hE e he⟩) (by omega) ?_;intro n1 l1 x1 o1 ks1 j1 hp1 hj1 hG;simp only[NT.min] at hp1;(conv=>whnf)))
  | ((with_reducible refine tck 104 ?_);first | (refine rul_st ihf.places hG (by trivial) rfl (by intro e he;first | exact hE e he | exact⟨True.intro,hE e he⟩) (by omega) ?_;intro n1 l1 x1 o1 ks1 j1 hp1 hj1 hG;simp only[NT.min] at hp1;(conv=>whnf)) | (refine tal_st ihf.places hG (by trivial) rfl (by intro e he;first | exact hE e he | exact⟨True.intro,hE e he⟩) (by omega) ?_;intro n1 l1 x1 o1 ks1 j1 hp1 hj1 hG;simp only[NT.min] at hp1;(conv=>whnf)))
  | ((with_reducible refine tck 110 ?_);first | (refine rul_st ihf.simple hG (by trivial) rfl (by intro e he;first | exact hE e he | exact⟨True.intro,hE e he⟩) (by omega) ?_;intro n1 l1 x1 o1 ks1 j1 hp1 hj1 hG;simp only[NT.min] at hp1;(conv=>whnf)) | (refine tal_st ihf.simple hG (by trivial) rfl (by intro e he;first | exact hE e he | exact⟨True.intro,hE e he⟩) (by omega) ?_;intro n1 l1 x1 o1 ks1 j1 hp1 hj1 hG;simp only[NT.min] at hp1;(conv=>whnf)))
  | ((with_reducible refine tck 147 ?_);first | (refine rul_st ihf.plain hG (by trivial) rfl (by intro e he;first | exact hE e he | exact⟨True.intro,hE e he⟩) (by omega) ?_;intro n1 l1 x1 o1 ks1 j1 hp1 hj1 hG;simp only[NT.min] at hp1;(conv=>whnf)) | (refine tal_st ihf.plain hG (by trivial) rfl (by intro e he;first | exact hE e he | exact⟨True.intro,hE e he⟩) (by omega) ?_;intro n1 l1 x1 o1 ks1 j1 hp1 hj1 hG;simp only[NT.min] at hp1;(conv=>whnf)))
  | ((with_reducible refine tck 170 ?_);first | (refine rul_st ihf.value hG (by trivial) rfl (by intro e he;first | exact hE e he | exact⟨True.intro,hE e he⟩) (by omega) ?_;intro n1 l1 x1 o1 ks1 j1 hp1 hj1 hG;simp only[NT.min] at hp1;(conv=>whnf)) | (refine tal_st ihf.value hG (by trivial) rfl (by intro e he;first | exact hE e he | exact⟨True.intro,hE e he⟩) (by omega) ?_;intro n1 l1 x1 o1 ks1 j1 hp1 hj1 hG;simp only[NT.min] at hp1;(conv=>whnf)))
  | ((with_reducible refine tck 103 ?_);first | (refine rul_st ihf.block hG (by trivial) rfl (by intro e he;first | exact hE e he | exact⟨True.intro,hE e he⟩) (by omega) ?_;intro n1 l1 x1 o1 ks1 j1 hp1 hj1 hG;simp only[NT.min] at hp1;(conv=>whnf)) | (refine tal_st ihf.block hG (by trivial) rfl (by intro e he;first | exact hE e he | exact⟨True.intro,hE e he⟩) (by omega) ?_;intro n1 l1 x1 o1 ks1 j1 hp1 hj1 hG;simp only[NT.min] at hp1;(conv=>whnf)) | (refine rul_st ihf2.block hG (by trivial) rfl (by intro e he;first | exact hE e he | exact⟨True.intro,hE e he⟩) (by omega) ?_;intro n1 l1 x1 o1 ks1 j1 hp1 hj1 hG;simp only[NT.min] at hp1;(conv=>whnf)))
  | ((with_reducible refine tck 71 ?_);first | (refine rul_st ihf.stmt hG (by trivial) rfl (by intro e he;first | exact hE e he | exact⟨True.intro,hE e he⟩) (by omega) ?_;intro n1 l1 x1 o1 ks1 j1 hp1 hj1 hG;simp only[NT.min] at hp1;(conv=>whnf)) | (refine tal_st ihf.stmt hG (by trivial) rfl (by intro e he;first | exact hE e he | exact⟨True.intro,hE e he⟩) (by omega) ?_;intro n1 l1 x1 o1 ks1 j1 hp1 hj1 hG;simp only[NT.min] at hp1;(conv=>whnf)))
  | ((with_reducible refine tck 107 ?_);first | (refine rul_st (ihf.params _ _ (by decide)) hG (by trivial) rfl (by intro e he;first | exact hE e he | exact⟨True.intro,hE e he⟩) (by omega) ?_;intro n1 l1 x1 o1 ks1 j1 hp1 hj1 hG;simp only[NT.min] at hp1;(conv=>whnf)) | (refine tal_st (ihf.params _ _ (by decide)) hG (by trivial) rfl (by intro e he;first | exact hE e he | exact⟨True.intro,hE e he⟩) (by omega) ?_;intro n1 l1 x1 o1 ks1 j1 hp1 hj1 hG;simp only[NT.min] at hp1;(conv=>whnf)))
  | ((with_reducible refine tck 108 ?_);first | (refine lst_st (ihf.row _ (by decide)) hG (by trivial) rfl (by intro e he;first | exact hE e he | exact⟨True.intro,hE e he⟩) (by omega) ?_;intro l1 j1 hp1 hj1 hb1 hG;simp only[NT.acc,Option.getD_some,List.length_nil] at hb1;(conv=>whnf)))
  | ((with_reducible refine tck 169 ?_);first | (refine rul_st (ihf.index _ _ _ _ _) hG (by trivial) rfl (by intro e he;first | exact hE e he | exact⟨True.intro,hE e he⟩) (by omega) ?_;intro n1 l1 x1 o1 ks1 j1 hp1 hj1 hG;simp only[NT.min] at hp1;(conv=>whnf)) | (refine tal_st (ihf.index _ _ _ _ _) hG (by trivial) rfl (by intro e he;first | exact hE e he | exact⟨True.intro,hE e he⟩) (by omega) ?_;intro n1 l1 x1 o1 ks1 j1 hp1 hj1 hG;simp only[NT.min] at hp1;(conv=>whnf)))
  | ((with_reducible refine tck 191 ?_);first | (refine lst_st ihf.clauses hG (by trivial) rfl (by intro e he;first | exact hE e he | exact⟨True.intro,hE e he⟩) (by omega) ?_;intro l1 j1 hp1 hj1 hb1 hG;simp only[NT.acc,Option.getD_some,List.length_nil] at hb1;(conv=>whnf)))
  | ((with_reducible refine tck 184 ?_);first | (refine rul_st (ihf.list _) hG (by trivial) rfl (by intro e he;first | exact hE e he | exact⟨True.intro,hE e he⟩) (by omega) ?_;intro n1 l1 x1 o1 ks1 j1 hp1 hj1 hG;simp only[NT.min] at hp1;(conv=>whnf)) | (refine tal_st (ihf.list _) hG (by trivial) rfl (by intro e he;first | exact hE e he | exact⟨True.intro,hE e he⟩) (by omega) ?_;intro n1 l1 x1 o1 ks1 j1 hp1 hj1 hG;simp only[NT.min] at hp1;(conv=>whnf)))
  | ((with_reducible refine tck 185 ?_);first | (refine rul_st (ihf.braces _) hG (by trivial) rfl (by intro e he;first | exact hE e he | exact⟨True.intro,hE e he⟩) (by omega) ?_;intro n1 l1 x1 o1 ks1 j1 hp1 hj1 hG;simp only[NT.min] at hp1;(conv=>whnf)) | (refine tal_st (ihf.braces _) hG (by trivial) rfl (by intro e he;first | exact hE e he | exact⟨True.intro,hE e he⟩) (by omega) ?_;intro n1 l1 x1 o1 ks1 j1 hp1 hj1 hG;simp only[NT.min] at hp1;(conv=>whnf)))
  | ((with_reducible refine tck 144 ?_);first | (refine rul_st (ihf.names _ _) hG (by trivial) rfl (by intro e he;first | exact hE e he | exact⟨True.intro,hE e he⟩) (by omega) ?_;intro n1 l1 x1 o1 ks1 j1 hp1 hj1 hG;simp only[NT.min] at hp1;(conv=>whnf)) | (refine tal_st (ihf.names _ _) hG (by trivial) rfl (by intro e he;first | exact hE e he | exact⟨True.intro,hE e he⟩) (by omega) ?_;intro n1 l1 x1 o1 ks1 j1 hp1 hj1 hG;simp only[NT.min] at hp1;(conv=>whnf)))
  | ((with_reducible refine tck 143 ?_);first | (refine rul_st (ihf.maybe _ _ _) hG (by trivial) rfl (by intro e he;first | exact hE e he | exact⟨True.intro,hE e he⟩) (by omega) ?_;intro n1 l1 x1 o1 ks1 j1 hp1 hj1 hG;simp only[NT.min] at hp1;(conv=>whnf)) | (refine tal_st (ihf.maybe _ _ _) hG (by trivial) rfl (by intro e he;first | exact hE e he | exact⟨True.intro,hE e he⟩) (by omega) ?_;intro n1 l1 x1 o1 ks1 j1 hp1 hj1 hG;simp only[NT.min] at hp1;(conv=>whnf)))
  | ((with_reducible refine tck 100 ?_);first | (refine rul_st (ihf.ifs _) hG (by trivial) rfl (by intro e he;first | exact hE e he | exact⟨True.intro,hE e he⟩) (by omega) ?_;intro n1 l1 x1 o1 ks1 j1 hp1 hj1 hG;simp only[NT.min] at hp1;(conv=>whnf)) | (refine tal_st (ihf.ifs _) hG (by trivial) rfl (by intro e he;first | exact hE e he | exact⟨True.intro,hE e he⟩) (by omega) ?_;intro n1 l1 x1 o1 ks1 j1 hp1 hj1 hG;simp only[NT.min] at hp1;(conv=>whnf)))
  | ((with_reducible refine tck 109 ?_);first | (refine rul_st (ihf.tries _) hG (by trivial) rfl (by intro e he;first | exact hE e he | exact⟨True.intro,hE e he⟩) (by omega) ?_;intro n1 l1 x1 o1 ks1 j1 hp1 hj1 hG;simp only[NT.min] at hp1;(conv=>whnf)) | (refine tal_st (ihf.tries _) hG (by trivial) rfl (by intro e he;first | exact hE e he | exact⟨True.intro,hE e he⟩) (by omega) ?_;intro n1 l1 x1 o1 ks1 j1 hp1 hj1 hG;simp only[NT.min] at hp1;(conv=>whnf)))
  | ((with_reducible refine tck 146 ?_);first | (refine single_st hG (fun hG=> ?_) (fun hG=> ?_)<;>(conv=>whnf)))
  | ((with_reducible refine tck 167 ?_);first | (refine place_st hG (fun hG=> ?_) (fun hG=> ?_)<;>(conv=>whnf)))
  | ((with_reducible refine tck 198 ?_);first | (refine operator_st C hG (by omega) (by intro e he;first | exact hE e he | exact⟨True.intro,hE e he⟩) (fun hG=> ?_) (fun op1 j1 hj0 hj1 hG=> ?_)<;>(conv=>whnf)))
  | ((with_reducible refine tck 171 ?_);first | (refine augment_st C hG (by omega) (fun ha hl hG=> ?_) (fun hG=> ?_)<;>(conv=>whnf)))
  | ((with_reducible refine tck 139 ?_);first | (refine fail_st C (by omega) hG (by intro e he;first | exact hE e he | exact⟨True.intro,hE e he⟩)))
  | (intro (hmx:_≤maxLen);(conv=>whnf))
  | exact⟨m,[],by omega,rfl,_,_,_,_,_,_,rfl,by omega,by omega,hG⟩
  | exact⟨m,[2],by omega,rfl,_,_,_,_,_,acc++ [.mk n1 l1 x1 o1 ks1],_,_,(by rw[ndsS_snoc];rfl),by omega,by omega,(by simp only[List.length_append,List.length_cons,List.length_nil];omega),hG⟩
  | exact⟨m,[2],by omega,rfl,_,_,_,accV_app rfl,rfl,by omega,by omega,(by simp only[List.length_append,List.length_cons,List.length_nil];omega),hG⟩
  | exact⟨m,[2],by omega,rfl,_,_,_,rfl,accV_app rfl,rfl,by omega,by omega,(by simp only[List.length_append,List.length_cons,List.length_nil];omega),hG⟩
  | exact⟨m,[3],by omega,rfl,_,_,_,rfl,accV_app rfl,rfl,by omega,by omega,(by simp only[List.length_append,List.length_cons,List.length_nil];omega),hG⟩
  | exact⟨m,[3],by omega,rfl,acc++ [.mk 43 (nowT ts j).line [] (op1+1) [.mk n1 l1 x1 o1 ks1]],_,(by rw[ndsS_snoc];rfl),by omega,by omega,(by simp only[List.length_append,List.length_cons,List.length_nil];omega),hG⟩
  | (refine ifT_c (fun h=> ?_) (fun h=> ?_);(have:acc= []:=by cases acc;rfl;(simp[ndsS] at h<;>omega));subst this;(conv=>whnf);exact hQ _ _ hG (by omega);(have:acc.isEmpty=false:=by cases acc;(simp[ndsS] at h<;>omega);rfl);rw[this] at hG;(conv=>whnf);exact hQ _ _ hG (by omega))
  | exact⟨m,[2],by omega,rfl,_,_,_,_,_,_,_,_,_,_,acc++ [_,_],_,(by rw[ndsS_app];rfl),by omega,by omega,(by simp only[List.length_append,List.length_cons,List.length_nil];omega),hG⟩
  | exact⟨m,[2],by omega,rfl,_,_,_,_,_,acc++ [.mk n1 l1 x1 o1 ks1],_,_,(by rw[ndsS_snoc];rfl),by omega,by omega,by simp,(by simp only[List.length_append,List.length_cons,List.length_nil];omega),hG⟩
  | (refine⟨rfl,acc.length-1,_,wr_dec hne hmx,ndsS_get (last_get htl),?_⟩;(conv=>whnf))
  | exact⟨m,[2],by omega,rfl,_,_,_,_,accV_app rfl,rfl,by omega,by omega,(by simp only[List.length_append,List.length_cons,List.length_nil] at *;omega),hG⟩
  | (refine⟨rfl,0,_,rfl,rfl,?_⟩;(conv=>whnf))
  | exact⟨m,[4],by omega,rfl,acc++ [Nd.mk 21 (nowT ts j).line [] 0 [Nd.mk n1 l1 x1 o1 ks1]],_,true,rfl,(by rw[ndsS_snoc];rfl),by omega,by omega,(by simp only[List.length_append,List.length_cons,List.length_nil];omega),(by simp only[List.length_append,List.length_cons,List.length_nil];omega), .inr ⟨rfl,hG⟩⟩
  | exact⟨m,[6],by omega,rfl,acc++ [_],_,false,rfl,(by rw[ndsS_snoc];rfl),by omega,by omega,(by simp only[List.length_append,List.length_cons,List.length_nil];omega),(by simp only[List.length_append,List.length_cons,List.length_nil];omega), .inl ⟨rfl,hG⟩⟩
  | (refine len1_c hG (by simp[ndsS_len];try omega) (fun hG=> ?_) (fun hG=> ?_)<;>(conv=>whnf))
  | (refine ifT_c (fun h=>by exfalso;simp[ndsS_len] at h;first | omega | (subst h;simp at hb1)) (fun h=> ?_);(conv=>whnf))
  | exact⟨m,[2],by omega,rfl,_,_,_,_,_,_,_,_,_,_,acc++ [.mk n1 l1 x1 o1 ks1],_,_,(by rw[ndsS_snoc];rfl),by omega,by omega,(by simp only[List.length_append,List.length_cons,List.length_nil];omega),gd_pb1.2 hG⟩
  | exact hQ _ _ (gd_pk1 hG) (by omega)
  | (refine⟨rfl,?_⟩;(conv=>whnf))
  | (refine⟨bdA (by simp only[List.length_append,List.length_cons,List.length_nil,ndsS_len];omega),?_⟩;(conv=>whnf))
  | exact hQ _ _ hG (by omega)
  | (refine tc_self (rd_wr C hl) ?_)
  | (refine ifT_c (fun h=>by exfalso;simp at h;omega) (fun h=> ?_);(conv=>whnf))
  | (refine ifT_c (fun h=> ?_) (fun h=>by exfalso;simp at h;omega);(conv=>whnf))
  | (refine q_eq ?_ ?_ (hQ _ _ hG (by omega))<;>first | rfl | exact sn_agg rfl | exact sn_row rfl | exact rd_wr C hl)
  | (have hG:=(hP2 _ _).1 hG;rcases f with _ | f;exact hG.elim;have ihf2:=ih f (by omega);simp only[gr] at hG)
  | (refine loop_0 (fun m s=>∃k l x o ks j,s=⟨0,[oR sl j,oN nzC,oN (nA k l x o ks)]⟩∧j≤ts.length∧m≤f∧Gd E P (gr ts m (.orL (.mk k l x o ks)) j)) f [] rfl ⟨_,_,_,_,_,_,rfl,by omega,Nat.le_refl _,hG⟩ ?_;rintro m f1 s ⟨k,l,x,o,ks,j,rfl,hj,hmf,hG⟩;rcases m with _ | m;exact hG.elim;have ihf:=ih m (by omega);simp only[gr] at hG;(conv=>whnf))
  | (refine loop_0 (fun m s=>∃k l x o ks j,s=⟨0,[oR sl j,oN nzC,oN (nA k l x o ks)]⟩∧j≤ts.length∧m≤f∧Gd E P (gr ts m (.andL (.mk k l x o ks)) j)) f [] rfl ⟨_,_,_,_,_,_,rfl,by omega,Nat.le_refl _,hG⟩ ?_;rintro m f1 s ⟨k,l,x,o,ks,j,rfl,hj,hmf,hG⟩;rcases m with _ | m;exact hG.elim;have ihf:=ih m (by omega);simp only[gr] at hG;(conv=>whnf))
  | (refine loop_0 (fun m s=>∃k l x o ks j,s=⟨0,[oR sl j,oN nzC,oN (nA k l x o ks)]⟩∧j≤ts.length∧m≤f∧Gd E P (gr ts m (.arithL (.mk k l x o ks)) j)) f [] rfl ⟨_,_,_,_,_,_,rfl,by omega,Nat.le_refl _,hG⟩ ?_;rintro m f1 s ⟨k,l,x,o,ks,j,rfl,hj,hmf,hG⟩;rcases m with _ | m;exact hG.elim;have ihf:=ih m (by omega);simp only[gr] at hG;(conv=>whnf))
  | (refine loop_0 (fun m s=>∃k l x o ks j,s=⟨0,[oR sl j,oN nzC,oN (nA k l x o ks)]⟩∧j≤ts.length∧m≤f∧Gd E P (gr ts m (.termL (.mk k l x o ks)) j)) f [] rfl ⟨_,_,_,_,_,_,rfl,by omega,Nat.le_refl _,hG⟩ ?_;rintro m f1 s ⟨k,l,x,o,ks,j,rfl,hj,hmf,hG⟩;rcases m with _ | m;exact hG.elim;have ihf:=ih m (by omega);simp only[gr] at hG;(conv=>whnf))
  | (refine loop_0 (fun m s=>∃k l x o ks j,s=⟨0,[oR sl j,oN nzC,oN (nA k l x o ks)]⟩∧j≤ts.length∧m≤f∧Gd E P (gr ts m (.primL (.mk k l x o ks)) j)) f [] rfl ⟨_,_,_,_,_,_,rfl,by omega,Nat.le_refl _,hG⟩ ?_;rintro m f1 s ⟨k,l,x,o,ks,j,rfl,hj,hmf,hG⟩;rcases m with _ | m;exact hG.elim;have ihf:=ih m (by omega);simp only[gr] at hG;(conv=>whnf))
  | (refine loop_0 (fun m s=>∃k l x o ks acc j ln,s=⟨1,[oR sl j,oN nzC,oN (nA k l x o ks),oN (nC 52 ln [] 0 (.own 0 26 5 (ndsS acc)))]⟩∧j≤ts.length∧m≤f∧2*acc.length≤j+1∧Gd E P (gr ts m (.exprsL ln acc) j)) f [0] rfl ⟨_,_,_,_,_,[.mk n1 l1 x1 o1 ks1],_,_,rfl,by omega,Nat.le_refl _,by simp only[List.length_cons,List.length_nil];omega,hG⟩ ?_;rintro m f1 s ⟨k,l,x,o,ks,acc,j,ln,rfl,hj,hmf,hb2,hG⟩;rcases m with _ | m;exact hG.elim;have ihf:=ih m (by omega);simp only[gr] at hG;(conv=>whnf))
  | (refine loop_0 (fun m s=>∃k l x o ks acc j ln,s=⟨1,[oR sl j,oN nzC,oN (nA k l x o ks),oN (nC 52 ln [] 0 (.own 0 26 5 (ndsS acc)))]⟩∧j≤ts.length∧m≤f∧2*acc.length≤j+1∧Gd E P (gr ts m (.placesL ln acc) j)) f [0] rfl ⟨_,_,_,_,_,[.mk n1 l1 x1 o1 ks1],_,_,rfl,by omega,Nat.le_refl _,by simp only[List.length_cons,List.length_nil];omega,hG⟩ ?_;rintro m f1 s ⟨k,l,x,o,ks,acc,j,ln,rfl,hj,hmf,hb2,hG⟩;rcases m with _ | m;exact hG.elim;have ihf:=ih m (by omega);simp only[gr] at hG;simp only[ite_andP] at hG;(conv=>whnf))
  | (refine loop_0 (fun m s=>∃acc j c,AccV acc c∧s=⟨1,[oR sl j,oN nzC,oN (nC k ln [] 0 c)]⟩∧j≤ts.length∧m≤f+1∧2*acc.length≤j∧Gd E P (gr ts m (.names k ln acc) j)) (f+1) [99] rfl ⟨[],_,_, .inl ⟨rfl,rfl⟩,rfl,by omega,Nat.le_refl _,by simp only[List.length_nil];omega,hG0⟩ ?_;rintro m f1 s ⟨acc,j,c,hA,rfl,hj,hmf,hb2,hG⟩;rcases m with _ | m;exact hG.elim;have ihf:=ih m (by omega);simp only[gr] at hG;rcases hA with ⟨rfl,rfl⟩ | ⟨hne,rfl⟩;all_goals (conv=>whnf))
  | (refine loop_0 (fun m s=>∃acc j c,AccV acc c∧s=⟨1,[oR sl j,oN nzC,oN (nC 23 ln [] 0 c)]⟩∧j≤ts.length∧m≤f+1∧2*acc.length≤j∧Gd E P (gr ts m (.params cl ln acc) j)) (f+1) [99] rfl ⟨[],_,_, .inl ⟨rfl,rfl⟩,rfl,by omega,Nat.le_refl _,by simp only[List.length_nil];omega,hG0⟩ ?_;rintro m f1 s ⟨acc,j,c,hA,rfl,hj,hmf,hb2,hG⟩;rcases m with _ | m;exact hG.elim;have ihf:=ih m (by omega);simp only[gr] at hG;rcases hA with ⟨rfl,rfl⟩ | ⟨hne,rfl⟩;all_goals (conv=>whnf))
  | (refine loop_1 5 (fun m a s=>∃acc j c,a= .r (.c c)∧AccV acc c∧s=⟨1,[oR sl j]⟩∧j≤ts.length∧m≤f+1∧2*acc.length≤j∧Gd E P (gr ts m (.row cl acc) j)) (f+1) [99] rfl ⟨[],_,_,rfl, .inl ⟨rfl,rfl⟩,rfl,by omega,Nat.le_refl _,by simp only[List.length_nil];omega,hG0⟩ ?_;rintro m a f1 s ⟨acc,j,c,rfl,hA,rfl,hj,hmf,hb2,hG⟩;rcases m with _ | m;exact hG.elim;have ihf:=ih m (by omega);simp only[gr] at hG;rcases hA with ⟨rfl,rfl⟩ | ⟨hne,rfl⟩;all_goals (conv=>whnf))
  | (refine loop_1 3 (fun m a s=>∃acc j c,a= .r (.c c)∧AccV acc c∧s=⟨1,[oR sl j]⟩∧j≤ts.length∧m≤f+1∧2*acc.length≤j∧Gd E P (gr ts m (.clauses acc) j)) (f+1) [99] rfl ⟨[],_,_,rfl, .inl ⟨rfl,rfl⟩,rfl,by omega,Nat.le_refl _,by simp only[List.length_nil];omega,hG0⟩ ?_;rintro m a f1 s ⟨acc,j,c,rfl,hA,rfl,hj,hmf,hb2,hG⟩;rcases m with _ | m;exact hG.elim;have ihf:=ih m (by omega);simp only[gr] at hG;rcases hA with ⟨rfl,rfl⟩ | ⟨hne,rfl⟩;all_goals (conv=>whnf))
  | (refine loop_0 (fun m s=>∃acc j,s=⟨1,[oR sl j,oN nzC,oN (nA n1 l1 x1 o1 ks1),oN (nC 42 l1 [] 0 (.own 0 26 5 (ndS (.mk n1 l1 x1 o1 ks1)::ndsS acc)))]⟩∧j≤ts.length∧m≤f∧2*acc.length+1≤j∧Gd E P (gr ts m (.cmpL (.mk n1 l1 x1 o1 ks1) acc) j)) f [0] rfl ⟨[],_,rfl,by omega,Nat.le_refl _,by simp only[List.length_nil];omega,hG⟩ ?_;rintro m f1 s ⟨acc,j,rfl,hj,hmf,hb2,hG⟩;rcases m with _ | m;exact hG.elim;have ihf:=ih m (by omega);simp only[gr] at hG;(conv=>whnf))
  | (refine loop_0 (fun m s=>∃ke le xe oe kse kv lv xv ov ksv acc j,s=⟨1,[oR sl j,oN nzC,oN (nA ke le xe oe kse),oN (nA kv lv xv ov ksv),oN (nC 54 ln [] 0 (.own 0 26 5 (ndsS acc)))]⟩∧j≤ts.length∧m≤f∧2*acc.length≤j+1∧Gd E P (gr ts m (.dictL ln acc) j)) f [0] rfl ⟨_,_,_,_,_,_,_,_,_,_,[_,_],_,rfl,by omega,Nat.le_refl _,by simp only[List.length_cons,List.length_nil];omega,hG⟩ ?_;rintro m f1 s ⟨ke,le,xe,oe,kse,kv,lv,xv,ov,ksv,acc,j,rfl,hj,hmf,hb2,hG⟩;rcases m with _ | m;exact hG.elim;have ihf:=ih m (by omega);simp only[gr] at hG;(conv=>whnf))
  | (refine loop_0 (fun m s=>∃k l x o ks acc j ln,s=⟨1,[oR sl j,oN nzC,oN (nA k l x o ks),oN (nC 3 ln [] 0 (.own 0 26 5 (ndsS acc)))]⟩∧j≤ts.length∧m≤f∧acc≠ []∧2*acc.length≤j+1∧Gd E P (gr ts m (.asgL ln acc) j)) f [0] rfl ⟨_,_,_,_,_,[.mk n1 l1 x1 o1 ks1],_,_,rfl,by omega,Nat.le_refl _,by simp,by simp only[List.length_cons,List.length_nil];omega,hG⟩ ?_;rintro m f1 s ⟨k,l,x,o,ks,acc,j,ln,rfl,hj,hmf,hne,hb2,hG⟩;rcases m with _ | m;exact hG.elim;have ihf:=ih m (by omega);obtain⟨⟨k2,l2,x2,o2,ks2⟩,htl⟩:=last_ne hne;simp only[gr,htl] at hG;(conv=>whnf))
  | (refine loop_0 (fun m s=>∃acc j c ln,AccV acc c∧s=⟨1,[oR sl j,oN nzC,oN (nC 1 ln [] 0 c)]⟩∧j≤ts.length∧m≤f∧2*acc.length≤j∧Gd E P (gr ts m (.blockL acc) j)) f [99] rfl ⟨[],_,_,_, .inl ⟨rfl,rfl⟩,rfl,by omega,Nat.le_refl _,by simp only[List.length_nil];omega,hG⟩ ?_;rintro m f1 s ⟨acc,j,c,ln,hA,rfl,hj,hmf,hb2,hG⟩;rcases m with _ | m;exact hG.elim;have ihf:=ih m (by omega);simp only[gr] at hG;rcases hA with ⟨rfl,rfl⟩ | ⟨hne,rfl⟩;rotate_left;rcases acc with _ | ⟨⟨k2,l2,x2,o2,ks2⟩,acc⟩;exact absurd rfl hne;all_goals (try simp only[List.length_cons,List.length_nil] at hb2);all_goals (conv=>whnf))
  | (obtain⟨P2,hP2⟩ : ∃P2:List Nd→Nat→Prop,∀acc j,P2 acc j↔Gd E P (gr ts f (.triesF ln acc) j):=⟨_,fun _ _=>Iff.rfl⟩;have hG:Gd E P2 (gr ts f (.triesL [.mk n1 l1 x1 o1 ks1]) j1):=(gd_pb.1 hG).mono (fun _ h=>h) fun l j h=>(hP2 l j).2 h;refine loop_1 6 (fun m a s=>∃acc j b,a=rS (.bool b)∧s=⟨1,[oR sl j,oN nzC,oN (nC 15 ln [] 0 (.own 0 26 5 (ndsS acc)))]⟩∧j≤ts.length∧m≤f∧1≤acc.length∧2*acc.length≤j+1∧((b=false∧Gd E P2 (gr ts m (.triesL acc) j))∨(b=true∧P2 acc j))) f [0] rfl ⟨[.mk n1 l1 x1 o1 ks1],_,false,rfl,rfl,by omega,Nat.le_refl _,Nat.le_refl _,by simp only[List.length_cons,List.length_nil];omega, .inl ⟨rfl,hG⟩⟩ ?_;rintro m a f1 s ⟨acc,j,b,rfl,rfl,hj,hmf,hb1,hb2,⟨rfl,hG⟩ | ⟨rfl,hG⟩⟩;rcases m with _ | m;exact hG.elim;have ihf:=ih m (by omega);simp only[gr] at hG;(conv=>whnf);rotate_left;have hG:=(hP2 _ _).1 hG;rcases f with _ | f;exact hG.elim;simp only[gr] at hG;have ihf:=ih f (by omega);(conv=>whnf))
  | (refine loop_0 (fun m s=>∃km lm xm om ksm kl ll xl ol ksl acc j ln,s=⟨1,[oR sl j,oN (nA k l x o ks),oN nzC,oN (nA km lm xm om ksm),oN (nA kl ll xl ol ksl),oN (nC 52 ln [] 0 (.own 0 26 5 (ndsS acc)))]⟩∧j≤ts.length∧m≤f∧2*acc.length≤j+1∧Gd E P (pb1 (gr ts m (.exprsL ln acc) j) fun t j2=>pk1 (nd 46 l [.mk k l x o ks,t]) j2)) f [0] rfl ⟨_,_,_,_,[],_,_,_,_,_,[.mk n1 l1 x1 o1 ks1],_,_,rfl,by omega,Nat.le_refl _,by simp only[List.length_cons,List.length_nil];omega,hG⟩ ?_;rintro m f1 s ⟨km,lm,xm,om,ksm,kl,ll,xl,ol,ksl,acc,j,ln,rfl,hj,hmf,hb2,hG⟩;have hG:=gd_pb1.1 hG;rcases m with _ | m;exact hG.elim;have ihf:=ih m (by omega);simp only[gr] at hG;(conv=>whnf))):Pz:=hz
section
variable {Z:TP} {X:Pan} {W:Int→Value} {ts:List PT} {sl:Sl} {f:Nat}
set_option maxHeartbeats 8000000 in
theorem pw_expr(C:PCtx Z X W ts sl)(ih : ∀g,g≤f→PAll Z X W ts sl g):PC Z X W ts sl (f+1) .expr 101 [.ptr 0 0] ans1:=by
 intro i Q R E P hi hG hE hQ
 have ihf:=ih f (Nat.le_refl f)
 have hln:=C.len
 have hG0:=hG
 simp only[gr] at hG
 refine tc_rG dt_ok (by rfl) (by kernel_rfl) ?_
 conv in (rF _ _).body=>reduce
 conv in (rF _ _).res=>reduce
 conv=>whnf
 exact pw_go
set_option maxHeartbeats 8000000 in
theorem pw_or(C:PCtx Z X W ts sl)(ih : ∀g,g≤f→PAll Z X W ts sl g):PC Z X W ts sl (f+1) .or 138 [.ptr 0 0] ans1:=by
 intro i Q R E P hi hG hE hQ
 have ihf:=ih f (Nat.le_refl f)
 have hln:=C.len
 have hG0:=hG
 simp only[gr] at hG
 refine tc_rG dt_ok (by rfl) (by kernel_rfl) ?_
 conv in (rF _ _).body=>reduce
 conv in (rF _ _).res=>reduce
 conv=>whnf
 exact pw_go
set_option maxHeartbeats 8000000 in
theorem pw_and(C:PCtx Z X W ts sl)(ih : ∀g,g≤f→PAll Z X W ts sl g):PC Z X W ts sl (f+1) .and 166 [.ptr 0 0] ans1:=by
 intro i Q R E P hi hG hE hQ
 have ihf:=ih f (Nat.le_refl f)
 have hln:=C.len
 have hG0:=hG
 simp only[gr] at hG
 refine tc_rG dt_ok (by rfl) (by kernel_rfl) ?_
 conv in (rF _ _).body=>reduce
 conv in (rF _ _).res=>reduce
 conv=>whnf
 exact pw_go
set_option maxHeartbeats 8000000 in
theorem pw_not(C:PCtx Z X W ts sl)(ih : ∀g,g≤f→PAll Z X W ts sl g):PC Z X W ts sl (f+1) .not 182 [.ptr 0 0] ans1:=by
 intro i Q R E P hi hG hE hQ
 have ihf:=ih f (Nat.le_refl f)
 have hln:=C.len
 have hG0:=hG
 simp only[gr] at hG
 refine tc_rG dt_ok (by rfl) (by kernel_rfl) ?_
 conv in (rF _ _).body=>reduce
 conv in (rF _ _).res=>reduce
 conv=>whnf
 exact pw_go
set_option maxHeartbeats 8000000 in
theorem pw_compare(C:PCtx Z X W ts sl)(ih : ∀g,g≤f→PAll Z X W ts sl g):PC Z X W ts sl (f+1) .compare 190 [.ptr 0 0] ans1:=by
 intro i Q R E P hi hG hE hQ
 have ihf:=ih f (Nat.le_refl f)
 have hln:=C.len
 have hG0:=hG
 simp only[gr] at hG
 refine tc_rG dt_ok (by rfl) (by kernel_rfl) ?_
 conv in (rF _ _).body=>reduce
 conv in (rF _ _).res=>reduce
 conv=>whnf
 exact pw_go
set_option maxHeartbeats 8000000 in
theorem pw_arith(C:PCtx Z X W ts sl)(ih : ∀g,g≤f→PAll Z X W ts sl g):PC Z X W ts sl (f+1) .arith 197 [.ptr 0 0] ans1:=by
 intro i Q R E P hi hG hE hQ
 have ihf:=ih f (Nat.le_refl f)
 have hln:=C.len
 have hG0:=hG
 simp only[gr] at hG
 refine tc_rG dt_ok (by rfl) (by kernel_rfl) ?_
 conv in (rF _ _).body=>reduce
 conv in (rF _ _).res=>reduce
 conv=>whnf
 exact pw_go
set_option maxHeartbeats 8000000 in
theorem pw_term(C:PCtx Z X W ts sl)(ih : ∀g,g≤f→PAll Z X W ts sl g):PC Z X W ts sl (f+1) .term 201 [.ptr 0 0] ans1:=by
 intro i Q R E P hi hG hE hQ
 have ihf:=ih f (Nat.le_refl f)
 have hln:=C.len
 have hG0:=hG
 simp only[gr] at hG
 refine tc_rG dt_ok (by rfl) (by kernel_rfl) ?_
 conv in (rF _ _).body=>reduce
 conv in (rF _ _).res=>reduce
 conv=>whnf
 exact pw_go
set_option maxHeartbeats 8000000 in
theorem pw_factor(C:PCtx Z X W ts sl)(ih : ∀g,g≤f→PAll Z X W ts sl g):PC Z X W ts sl (f+1) .factor 203 [.ptr 0 0] ans1:=by
 intro i Q R E P hi hG hE hQ
 have ihf:=ih f (Nat.le_refl f)
 have hln:=C.len
 have hG0:=hG
 simp only[gr] at hG
 refine tc_rG dt_ok (by rfl) (by kernel_rfl) ?_
 conv in (rF _ _).body=>reduce
 conv in (rF _ _).res=>reduce
 conv=>whnf
 exact pw_go
set_option maxHeartbeats 8000000 in
theorem pw_primary(C:PCtx Z X W ts sl)(ih : ∀g,g≤f→PAll Z X W ts sl g):PC Z X W ts sl (f+1) .primary 145 [.ptr 0 0] ans1:=by
 intro i Q R E P hi hG hE hQ
 have ihf:=ih f (Nat.le_refl f)
 have hln:=C.len
 have hG0:=hG
 simp only[gr] at hG
 refine tc_rG dt_ok (by rfl) (by kernel_rfl) ?_
 conv in (rF _ _).body=>reduce
 conv in (rF _ _).res=>reduce
 conv=>whnf
 exact pw_go
set_option maxHeartbeats 8000000 in
theorem pw_atom(C:PCtx Z X W ts sl)(ih : ∀g,g≤f→PAll Z X W ts sl g):PC Z X W ts sl (f+1) .atom 168 [.ptr 0 0] ans1:=by
 intro i Q R E P hi hG hE hQ
 have ihf:=ih f (Nat.le_refl f)
 have hln:=C.len
 simp only[gr] at hG
 refine tc_rG dt_ok (by rfl) (by kernel_rfl) ?_
 conv in (rF _ _).body=>reduce
 conv in (rF _ _).res=>reduce
 conv=>whnf
 refine now_tc C (by omega) ?_
 obtain⟨t,ht⟩ : ∃t,nowT ts i=t:=⟨_,rfl⟩
 have hlk:(nowT ts i).kind≠0→i<ts.length:=kd_lt
 rw[ht] at hG hlk⊢
 obtain⟨kd,lt,xt⟩:=t
 by_cases hk:4≤kd∧kd≤7
 ·have hl:i<ts.length:=hlk (by show kd≠0;omega)
  rw[if_pos hk] at hG
  obtain rfl | rfl | rfl | rfl:kd=4∨kd=5∨kd=6∨kd=7:=by omega
  all_goals
   (conv=>whnf)
   refine leaf_tc hk.1 hk.2 ?_
   (conv=>whnf)
   repeat (refine⟨rfl,?_⟩;(conv=>whnf))
   exact q_eq rfl (rd_wr C hl) (hQ _ _ hG (by omega))
 ·rw[if_neg hk] at hG
  (conv=>whnf)
  exact pw_go
set_option maxHeartbeats 8000000 in
theorem pw_exprs(C:PCtx Z X W ts sl)(ih : ∀g,g≤f→PAll Z X W ts sl g):PC Z X W ts sl (f+1) .exprs 105 [.ptr 0 0] ans1:=by
 intro i Q R E P hi hG hE hQ
 have ihf:=ih f (Nat.le_refl f)
 have hln:=C.len
 have hG0:=hG
 simp only[gr] at hG
 refine tc_rG dt_ok (by rfl) (by kernel_rfl) ?_
 conv in (rF _ _).body=>reduce
 conv in (rF _ _).res=>reduce
 conv=>whnf
 exact pw_go
set_option maxHeartbeats 8000000 in
theorem pw_one(C:PCtx Z X W ts sl)(ih : ∀g,g≤f→PAll Z X W ts sl g):PC Z X W ts sl (f+1) .one 141 [.ptr 0 0] ans1:=by
 intro i Q R E P hi hG hE hQ
 have ihf:=ih f (Nat.le_refl f)
 have hln:=C.len
 have hG0:=hG
 simp only[gr] at hG
 refine tc_rG dt_ok (by rfl) (by kernel_rfl) ?_
 conv in (rF _ _).body=>reduce
 conv in (rF _ _).res=>reduce
 conv=>whnf
 exact pw_go
set_option maxHeartbeats 8000000 in
theorem pw_places(C:PCtx Z X W ts sl)(ih : ∀g,g≤f→PAll Z X W ts sl g):PC Z X W ts sl (f+1) .places 104 [.ptr 0 0] ans1:=by
 intro i Q R E P hi hG hE hQ
 have ihf:=ih f (Nat.le_refl f)
 have hln:=C.len
 have hG0:=hG
 simp only[gr] at hG
 refine tc_rG dt_ok (by rfl) (by kernel_rfl) ?_
 conv in (rF _ _).body=>reduce
 conv in (rF _ _).res=>reduce
 conv=>whnf
 exact pw_go
set_option maxHeartbeats 8000000 in
theorem pw_simple(C:PCtx Z X W ts sl)(ih : ∀g,g≤f→PAll Z X W ts sl g):PC Z X W ts sl (f+1) .simple 110 [.ptr 0 0] ans1:=by
 intro i Q R E P hi hG hE hQ
 have ihf:=ih f (Nat.le_refl f)
 have hln:=C.len
 have hG0:=hG
 simp only[gr] at hG
 refine tc_rG dt_ok (by rfl) (by kernel_rfl) ?_
 conv in (rF _ _).body=>reduce
 conv in (rF _ _).res=>reduce
 conv=>whnf
 exact pw_go
set_option maxHeartbeats 8000000 in
theorem pw_plain(C:PCtx Z X W ts sl)(ih : ∀g,g≤f→PAll Z X W ts sl g):PC Z X W ts sl (f+1) .plain 147 [.ptr 0 0] ans1:=by
 intro i Q R E P hi hG hE hQ
 have ihf:=ih f (Nat.le_refl f)
 have hln:=C.len
 have hG0:=hG
 simp only[gr] at hG
 refine tc_rG dt_ok (by rfl) (by kernel_rfl) ?_
 conv in (rF _ _).body=>reduce
 conv in (rF _ _).res=>reduce
 conv=>whnf
 exact pw_go
set_option maxHeartbeats 8000000 in
theorem pw_value(C:PCtx Z X W ts sl)(ih : ∀g,g≤f→PAll Z X W ts sl g):PC Z X W ts sl (f+1) .value 170 [.ptr 0 0] ans1:=by
 intro i Q R E P hi hG hE hQ
 have ihf:=ih f (Nat.le_refl f)
 have hln:=C.len
 have hG0:=hG
 simp only[gr] at hG
 refine tc_rG dt_ok (by rfl) (by kernel_rfl) ?_
 conv in (rF _ _).body=>reduce
 conv in (rF _ _).res=>reduce
 conv=>whnf
 exact pw_go
set_option maxHeartbeats 8000000 in
theorem pw_block(C:PCtx Z X W ts sl)(ih : ∀g,g≤f→PAll Z X W ts sl g):PC Z X W ts sl (f+1) .block 103 [.ptr 0 0] ans1:=by
 intro i Q R E P hi hG hE hQ
 have ihf:=ih f (Nat.le_refl f)
 have hln:=C.len
 have hG0:=hG
 simp only[gr] at hG
 refine tc_rG dt_ok (by rfl) (by kernel_rfl) ?_
 conv in (rF _ _).body=>reduce
 conv in (rF _ _).res=>reduce
 conv=>whnf
 exact pw_go
set_option maxHeartbeats 8000000 in
theorem pw_stmt(C:PCtx Z X W ts sl)(ih : ∀g,g≤f→PAll Z X W ts sl g):PC Z X W ts sl (f+1) .stmt 71 [.ptr 0 0] ans1:=by
 intro i Q R E P hi hG hE hQ
 have ihf:=ih f (Nat.le_refl f)
 have hln:=C.len
 have hG0:=hG
 simp only[gr] at hG
 refine tc_rG dt_ok (by rfl) (by kernel_rfl) ?_
 conv in (rF _ _).body=>reduce
 conv in (rF _ _).res=>reduce
 conv=>whnf
 exact pw_go
set_option maxHeartbeats 8000000 in
theorem pw_params(C:PCtx Z X W ts sl)(ih : ∀g,g≤f→PAll Z X W ts sl g) : ∀(cl:List UInt8) (ln:Int),cl≠ []→PC Z X W ts sl (f+1) (.params cl ln []) 107 [.ptr 0 0,rS (.int .i64 ln),rS (.string ⟨⟨cl⟩⟩)] ans1:=by
 intro cl ln cl_ne i Q R E P hi hG hE hQ
 have ihf:=ih f (Nat.le_refl f)
 have hln:=C.len
 have hG0:=hG
 simp only[gr] at hG
 refine tc_rG dt_ok (by rfl) (by kernel_rfl) ?_
 conv in (rF _ _).body=>reduce
 conv in (rF _ _).res=>reduce
 conv=>whnf
 exact pw_go
set_option maxHeartbeats 8000000 in
theorem pw_row(C:PCtx Z X W ts sl)(ih : ∀g,g≤f→PAll Z X W ts sl g) : ∀(cl:List UInt8),cl≠ []→PC Z X W ts sl (f+1) (.row cl []) 108 [.ptr 0 0,rS (.string ⟨⟨cl⟩⟩)] ansL:=by
 intro cl cl_ne i Q R E P hi hG hE hQ
 have ihf:=ih f (Nat.le_refl f)
 have hln:=C.len
 have hG0:=hG
 simp only[gr] at hG
 refine tc_rG dt_ok (by rfl) (by kernel_rfl) ?_
 conv in (rF _ _).body=>reduce
 conv in (rF _ _).res=>reduce
 conv=>whnf
 exact pw_go
set_option maxHeartbeats 8000000 in
theorem pw_index(C:PCtx Z X W ts sl)(ih : ∀g,g≤f→PAll Z X W ts sl g) : ∀(k:Nat) (l:Int) (x:List UInt8) (o:Nat) (ks:List Nd),PC Z X W ts sl (f+1) (.index (.mk k l x o ks)) 169 [.ptr 0 0,ndA (.mk k l x o ks)] ans1:=by
 intro k l x o ks i Q R E P hi hG hE hQ
 have ihf:=ih f (Nat.le_refl f)
 have hln:=C.len
 have hG0:=hG
 simp only[gr] at hG
 refine tc_rG dt_ok (by rfl) (by kernel_rfl) ?_
 conv in (rF _ _).body=>reduce
 conv in (rF _ _).res=>reduce
 conv=>whnf
 exact pw_go
set_option maxHeartbeats 8000000 in
theorem pw_clauses(C:PCtx Z X W ts sl)(ih : ∀g,g≤f→PAll Z X W ts sl g):PC Z X W ts sl (f+1) (.clauses []) 191 [.ptr 0 0] ansL:=by
 intro i Q R E P hi hG hE hQ
 have ihf:=ih f (Nat.le_refl f)
 have hln:=C.len
 have hG0:=hG
 simp only[gr] at hG
 refine tc_rG dt_ok (by rfl) (by kernel_rfl) ?_
 conv in (rF _ _).body=>reduce
 conv in (rF _ _).res=>reduce
 conv=>whnf
 exact pw_go
set_option maxHeartbeats 8000000 in
theorem pw_list(C:PCtx Z X W ts sl)(ih : ∀g,g≤f→PAll Z X W ts sl g) : ∀(ln:Int),PC Z X W ts sl (f+1) (.list ln) 184 [.ptr 0 0,rS (.int .i64 ln)] ans1:=by
 intro ln i Q R E P hi hG hE hQ
 have ihf:=ih f (Nat.le_refl f)
 have hln:=C.len
 have hG0:=hG
 simp only[gr] at hG
 refine tc_rG dt_ok (by rfl) (by kernel_rfl) ?_
 conv in (rF _ _).body=>reduce
 conv in (rF _ _).res=>reduce
 conv=>whnf
 exact pw_go
set_option maxHeartbeats 8000000 in
theorem pw_braces(C:PCtx Z X W ts sl)(ih : ∀g,g≤f→PAll Z X W ts sl g) : ∀(ln:Int),PC Z X W ts sl (f+1) (.braces ln) 185 [.ptr 0 0,rS (.int .i64 ln)] ans1:=by
 intro ln i Q R E P hi hG hE hQ
 have ihf:=ih f (Nat.le_refl f)
 have hln:=C.len
 have hG0:=hG
 simp only[gr] at hG
 refine tc_rG dt_ok (by rfl) (by kernel_rfl) ?_
 conv in (rF _ _).body=>reduce
 conv in (rF _ _).res=>reduce
 conv=>whnf
 exact pw_go
set_option maxHeartbeats 8000000 in
theorem pw_names(C:PCtx Z X W ts sl)(ih : ∀g,g≤f→PAll Z X W ts sl g) : ∀(k:Nat) (ln:Int),PC Z X W ts sl (f+1) (.names k ln []) 144 [.ptr 0 0,rS (.int .i64 (k:Nat)),rS (.int .i64 ln)] ans1:=by
 intro k ln i Q R E P hi hG hE hQ
 have ihf:=ih f (Nat.le_refl f)
 have hln:=C.len
 have hG0:=hG
 simp only[gr] at hG
 refine tc_rG dt_ok (by rfl) (by kernel_rfl) ?_
 conv in (rF _ _).body=>reduce
 conv in (rF _ _).res=>reduce
 conv=>whnf
 exact pw_go
set_option maxHeartbeats 8000000 in
theorem pw_maybe(C:PCtx Z X W ts sl)(ih : ∀g,g≤f→PAll Z X W ts sl g) : ∀(k:Nat) (ln:Int) (all:Bool),PC Z X W ts sl (f+1) (.maybe k ln all) 143 [.ptr 0 0,rS (.int .i64 (k:Nat)),rS (.int .i64 ln),rS (.bool all)] ans1:=by
 intro k ln all i Q R E P hi hG hE hQ
 have ihf:=ih f (Nat.le_refl f)
 have hln:=C.len
 simp only[gr] at hG
 cases all
 all_goals simp only[Bool.false_eq_true,if_false,if_true] at hG
 all_goals
  refine tc_rG dt_ok (by rfl) (by kernel_rfl) ?_
  conv in (rF _ _).body=>reduce
  conv in (rF _ _).res=>reduce
  conv=>whnf
  exact pw_go
set_option maxHeartbeats 8000000 in
theorem pw_ifs(C:PCtx Z X W ts sl)(ih : ∀g,g≤f→PAll Z X W ts sl g) : ∀(ln:Int),PC Z X W ts sl (f+1) (.ifs ln) 100 [.ptr 0 0,rS (.int .i64 ln)] ans1:=by
 intro ln i Q R E P hi hG hE hQ
 have ihf:=ih f (Nat.le_refl f)
 have hln:=C.len
 have hG0:=hG
 simp only[gr] at hG
 refine tc_rG dt_ok (by rfl) (by kernel_rfl) ?_
 conv in (rF _ _).body=>reduce
 conv in (rF _ _).res=>reduce
 conv=>whnf
 exact pw_go
set_option maxHeartbeats 8000000 in
theorem pw_tries(C:PCtx Z X W ts sl)(ih : ∀g,g≤f→PAll Z X W ts sl g) : ∀(ln:Int),PC Z X W ts sl (f+1) (.tries ln) 109 [.ptr 0 0,rS (.int .i64 ln)] ans1:=by
 intro ln i Q R E P hi hG hE hQ
 have ihf:=ih f (Nat.le_refl f)
 have hln:=C.len
 have hG0:=hG
 simp only[gr] at hG
 refine tc_rG dt_ok (by rfl) (by kernel_rfl) ?_
 conv in (rF _ _).body=>reduce
 conv in (rF _ _).res=>reduce
 conv=>whnf
 exact pw_go
end
end Can
end Go.Proofs.YticlaccbodpkeaaGreatDoor
end
section
namespace Go.Proofs.YticlaccbodpkeaaGreatDoor
namespace Can
open Go Go.RowKit
set_option linter.unusedSimpArgs false
set_option linter.unusedVariables false
set_option maxRecDepth 4000
attribute [local irreducible] TC isT nowT begT placeN
section
variable {Z:TP} {X:Pan} {W:Int→Value} {ts:List PT} {sl:Sl} {f:Nat}
theorem pall0:PAll Z X W ts sl 0:=by
 constructor
 all_goals (intros;intro i Q R E P hi hG hE hQ;exact hG.elim)
theorem palls(C:PCtx Z X W ts sl)(ih : ∀g,g≤f→PAll Z X W ts sl g):PAll Z X W ts sl (f+1):=⟨pw_expr C ih,pw_or C ih,pw_and C ih,pw_not C ih,pw_compare C ih,pw_arith C ih,pw_term C ih,pw_factor C ih,pw_primary C ih,pw_atom C ih,pw_exprs C ih,pw_one C ih,pw_places C ih,pw_simple C ih,pw_plain C ih,pw_value C ih,pw_block C ih,pw_stmt C ih,pw_params C ih,pw_row C ih,pw_index C ih,pw_clauses C ih,pw_list C ih,pw_braces C ih,pw_names C ih,pw_maybe C ih,pw_ifs C ih,pw_tries C ih⟩
theorem pall(C:PCtx Z X W ts sl) : ∀f,PAll Z X W ts sl f:=by
 intro f
 induction f using Nat.strongRecOn with
 | _ f ih=>
   cases f with
   | zero=>exact pall0
   | succ f=>exact palls C fun g hg=>ih g (by omega)
end
end Can
end Go.Proofs.YticlaccbodpkeaaGreatDoor
end
section
namespace Go.Proofs.YticlaccbodpkeaaGreatDoor
namespace Can
open Go Go.RowKit
set_option linter.unusedSimpArgs false
set_option linter.unusedVariables false
set_option maxRecDepth 4000
def zNd:Nd:= .mk 0 0 [] 0 []
def parseT(ts:List PT):Nd×Int×Int:=match gr ts (ts.length*64+100) (.top []) 0 with
 | some (.ok (l,_))=>if 60<htL l+1 then (zNd,0,11) else (nd 1 (hdLine (nowT ts 0).line l) l,0,0)
 | some (.error e)=>(zNd,(nowT ts e).line,22)
 | none=>(zNd,0,0)
noncomputable def prP:List Item×List Item×RCode×RCode×RCode:=match (rF Tryz.prog 38).body with
 | .seq (.reg a) (.seq (.reg b) (.seq .bad (.seq c (.seq d e))))=>(a,b,c,d,e)
 | _=>([],[], .skip, .skip, .skip)
theorem pr_body:(rF Tryz.prog 38).body= .seq (.reg prP.1) (.seq (.reg prP.2.1) (.seq .bad (.seq prP.2.2.1 (.seq prP.2.2.2.1 prP.2.2.2.2)))):=by kernel_rfl
theorem pr_res:(rF Tryz.prog 38).res= [.lda 5 2, .ld 3, .ld 4]:=by kernel_rfl
def prK (H:CH)(sl:Sl):CH:=(((H.new (.cells [.int .i64 0, .int .i64 0, .string ⟨⟨[]⟩⟩, .int .i64 0, .slice none 0 0] 26 .ex)).new (.cells [.int .i64 0] 3 .ex)).new (.cells [.int .i64 0] 33 .ex)).new (rpC sl 0)
abbrev pP(l:Nat):Value:= .pointer (some ⟨l,0,none⟩)
theorem pr_r0{H:CH}{fr:Fr}{sl:Sl}(h0:fr 0= .slice sl.q sl.n sl.c):WpR (tblG Tryz.prog LG GG) (.reg prP.1) fr H fun x fr1 H1=>x= .normal∧WpR (tblG Tryz.prog LG GG) (.reg prP.2.1) fr1 H1 fun x fr2 H2=>x= .normal∧fr2 2=pP H.nx∧fr2 3=pP (H.nx+1)∧fr2 4=pP (H.nx+2)∧fr2 5=pP (H.nx+3)∧H2=prK H sl:=by
 have e1:prP.1=_:=rfl
 conv at e1=>rhs;reduce
 have e2:prP.2.1=_:=rfl
 conv at e2=>rhs;reduce
 rw[e1,e2]
 refine rn @h0 ?_
 rfl
def prZ (H:CH)(sl:Sl):TP:= .plain (fun b=>∃o,sl.q=some ⟨b,o,none⟩) H.ob
theorem prZ_in{H:CH}{sl:Sl}{ts:List PT}(h:SlAt 3 CTk H sl.q sl.c ts){b:Nat}(hb:(prZ H sl).N b):b<H.nx:=by
 obtain⟨o,ho⟩:=hb
 rcases h with ⟨_,_,h | h | h⟩ | ⟨l,o',os,e,k,q,hl,_⟩
 ·rw[h] at ho;cases ho
 ·rw[h] at ho;cases ho
 ·rw[h] at ho;cases ho
 ·rw[q] at ho;cases ho;exact hl
theorem prZ_ok{H:CH}{sl:Sl}{ts:List PT}(h:SlAt 3 CTk H sl.q sl.c ts)(hn:sl.n=ts.length):TkZ (prZ H sl) sl ts:=by
 refine⟨hn,fun l o q=>⟨o,q⟩,fun K hK=> ?_⟩
 rcases h with ⟨h1,h2,h3⟩ | ⟨l,o,os,e,k,q,h1,h2,h3,h4,h5,h6⟩
 ·exact .inl ⟨h1,h2,h3⟩
 ·obtain⟨g1,g2⟩:=hK l ⟨o,q⟩
  exact .inr ⟨l,o,os,e,k,q,g1,h2,h3,g2.trans h4,h5,h6⟩
def prF (H:CH):TFr:=fun t=> [.bad, .bad,rS (pP H.nx),rS (pP (H.nx+1)),rS (pP (H.nx+2)), .ptr 0 0].getD t .bad
theorem prK_nx{H:CH}{sl:Sl}:(prK H sl).nx=H.nx+4:=rfl
theorem prK_old{H:CH}{sl:Sl}{b:Nat}(hb:b<H.nx):(prK H sl).ob b=H.ob b:=by
 unfold prK
 rw[new_ne (by simp only[new_nx];omega),new_ne (by simp only[new_nx];omega),new_ne (by simp only[new_nx];omega),new_ne (by omega)]
theorem prK_r{H:CH}{sl:Sl}:(prK H sl).ob (H.nx+3)=rpC sl 0:=new_get.trans (if_pos rfl)
theorem pr_start{H:CH}{sl:Sl}{ts:List PT}(h:SlAt 3 CTk H sl.q sl.c ts){cfr:Fr}(c2:cfr 2=pP H.nx)(c3:cfr 3=pP (H.nx+1))(c4:cfr 4=pP (H.nx+2))(c5:cfr 5=pP (H.nx+3)) :
 TR (prZ H sl) (prK H sl) (some (H.nx+3)) (fun _=>False) (prK H sl) (st0 (rdR sl 0)) (prF H) cfr (E0 (some (H.nx+3)) fun b=>b<H.nx+4∧b≠H.nx+3):=by
 have t0:TR (prZ H sl) (prK H sl) (some (H.nx+3)) (fun _=>False) (prK H sl) (st0 (rdR sl 0)) (fun t=>([]:List AV).getD t .bad) (fun t=>([]:List Value).getD t undef) (E0 (some (H.nx+3)) fun b=>b<H.nx+4∧b≠H.nx+3):=by
  refine TR.start (e:=none) (W:=fun _=>False) (fun b hb=>⟨hb.1,fun e=>hb.2 (by cases e;rfl)⟩) (fun _ h=>h.elim) (fun b hb=> ?_) .nil (self_mk (by rw[prK_nx];omega) prK_r) (.inl ⟨rfl,fun _ h=>h⟩)
  have:=prZ_in h hb
  exact⟨by rw[prK_nx];omega,fun e=>by cases e;omega,id,prK_old this⟩
 refine { t0 with frm:=fun t=> ?_ }
 match t with
 | 0=>exact .bad
 | 1=>exact .bad
 | 2=>rw[c2];exact rS_rel rfl
 | 3=>rw[c3];exact rS_rel rfl
 | 4=>rw[c4];exact rS_rel rfl
 | 5=>rw[c5];exact .ptr rfl
 | n+6=>exact .bad
theorem set_ne'{K:CH}{p b:Nat}{o:CObj}(h:b≠p):(K.set p o).ob b=K.ob b:=by
 simp only[CH.set]
 rw[if_neg h]
theorem tc_wp{T:Tbl}{X:Pan}{f:FuncId}{args:List AV}{Q:AV→List SV→Prop}(h:TC (.plain (fun _=>False) fun _=> .dead) T X f args none Q fun _=>False){K:CH}{vs:List Value}(hv:R2 (AVR K (E0 none fun _=>False)) args vs):WpF T f vs K fun v K'=>HExt K K'∧∃a s',AVR K' (E0 none fun _=>False) a v∧Q a s':=by
 rcases h K none (fun _=>False) (fun _=>False) vs (fun _ h=>h.elim) (fun _ h=>h) (fun _ h=>h.elim) hv rfl (fun _ h=>h) with h | ⟨n,v,H',_,h⟩
 ·exact h.mono fun v K' ⟨h1,h2,hid',W',a,s',_,h3,hc,_,_,h4⟩=>⟨⟨h1,fun b hb=>h2 b hb (by simp) id⟩,a,s',h3.mv0 hc (fun _=>rfl) fun b hb=>⟨⟨hb.1,id,hb.2.2⟩,rfl⟩,h4⟩
 ·exact h.2.2.elim
attribute [local irreducible] TC isT nowT begT placeN
theorem pr_t3{Z:TP}{X:Pan}{W:Int→Value}{ts:List PT}{sl:Sl}{H:CH}{R:Value→Prop}(C:PCtx Z X W ts sl):twR Z (tblG Tryz.prog LG GG) X DT R prP.2.2.1 (prF H) (st0 (rdR sl 0)) fun x fr st=>x= .normal∧(∃nt v,st=⟨nt,[(v,114,(oR sl 0).2.2),(v,26,nC 1 (nowT ts 0).line [] 0 (.s (.row 5 [])))]⟩)∧fr 2=rS (pP H.nx)∧fr 3=rS (pP (H.nx+1))∧fr 4=rS (pP (H.nx+2))∧fr 5= .ptr 0 0∧fr 6= .ptr 1 0:=by
 have e:prP.2.2.1=_:=rfl
 conv at e=>rhs;reduce
 rw[e]
 clear e
 conv=>whnf
 refine now_tc C (Nat.zero_le _) ?_
 conv=>whnf
 exact⟨rfl,⟨_,_,rfl⟩,rfl,rfl,rfl,rfl,rfl⟩
def prG (H:CH):TFr:=fun t=> [.bad, .bad,rS (pP H.nx),rS (pP (H.nx+1)),rS (pP (H.nx+2)), .ptr 0 0, .ptr 1 0].getD t .bad
def AccT (acc:List Nd)(c:CV):Prop:=(acc= []∧c= .s (.row 5 []))∨∃t,c= .own t 26 5 (ndsS acc)
theorem pr_tL{Z:TP}{X:Pan}{W:Int→Value}{ts:List PT}{sl:Sl}{H:CH}{R:Value→Prop}(C:PCtx Z X W ts sl){f nt v:Nat}(ih : ∀m,m<f→PAll Z X W ts sl m){E:Nat→Prop}{P:List Nd→Nat→Prop}(hG:Gd E P (gr ts f (.top []) 0))(hE : ∀e,E e→R (W (nowT ts e).line)) :
 twR Z (tblG Tryz.prog LG GG) X DT R prP.2.2.2.1 (prG H) ⟨nt,[(v,114,(oR sl 0).2.2),(v,26,nC 1 (nowT ts 0).line [] 0 (.s (.row 5 [])))]⟩ fun x fr st=>x= .normal∧(∃l j nt u v c,P l j∧AccT l c∧st=⟨nt,[(u,114,(oR sl j).2.2),(v,26,nC 1 (hdLine (nowT ts 0).line l) [] 0 c)]⟩)∧fr 2=rS (pP H.nx)∧fr 3=rS (pP (H.nx+1))∧fr 4=rS (pP (H.nx+2))∧fr 6= .ptr 1 0:=by
 have e:prP.2.2.2.1=_:=rfl
 conv at e=>rhs;reduce
 rw[e]
 clear e
 have hlen:=C.len
 conv=>whnf
 refine loop_0 (fun m s=>∃acc j c,AccV acc c∧s=⟨1,[oR sl j,oN (nC 1 (hdLine (nowT ts 0).line acc) [] 0 c)]⟩∧j≤ts.length∧m≤f∧2*acc.length≤j∧Gd E P (gr ts m (.top acc) j)) f [99] rfl ⟨[],_,_, .inl ⟨rfl,rfl⟩,rfl,by omega,Nat.le_refl _,by simp only[List.length_nil];omega,hG⟩ ?_
 rintro m f1 s ⟨acc,j,c,hA,rfl,hj,hmf,hb2,hG⟩
 rcases m with _ | m
 ·exact hG.elim
 have ihm:=ih m (by omega)
 simp only[gr] at hG
 rcases hA with ⟨rfl,rfl⟩ | ⟨hne,rfl⟩
 rotate_left
 rcases acc with _ | ⟨⟨k2,l2,x2,o2,ks2⟩,acc⟩
 ·exact absurd rfl hne
 all_goals
  try simp only[List.length_cons,List.length_nil] at hb2
  (conv=>whnf)
  refine now_tc C (by omega) ?_
  (conv=>whnf)
  generalize hk:((nowT ts j).kind != Int.ofNat 0)=bb
  cases bb
  ·have hk0:(nowT ts j).kind=0:=by simpa using hk
   rw[if_pos hk0] at hG
   (conv=>whnf)
   first
    | exact⟨rfl,⟨_,_,_,_,_,_,hG, .inr ⟨_,rfl⟩,rfl⟩,rfl,rfl,rfl,rfl⟩
    | exact⟨rfl,⟨_,_,_,_,_,_,hG, .inl ⟨rfl,rfl⟩,rfl⟩,rfl,rfl,rfl,rfl⟩
  ·have hk0 : ¬(nowT ts j).kind=0:=by simpa using hk
   rw[if_neg hk0] at hG
   have hlt:=kd_lt hk0
   (conv=>whnf)
   repeat' first
    | (refine rul_st ihm.stmt hG (by trivial) rfl (by intro e he;first | exact hE e he | exact⟨True.intro,hE e he⟩) (by omega) ?_;intro n1 l1 x1 o1 ks1 j1 hp1 hj1 hG;simp only[NT.min] at hp1;(conv=>whnf))
    | (intro (hmx:_≤maxLen);(conv=>whnf))
    | exact⟨m,[2],by omega,rfl,_,_,_,accV_app rfl,rfl,by omega,by omega,(by simp only[List.length_append,List.length_cons,List.length_nil] at *;omega),hG⟩
    | (refine⟨rfl,0,_,rfl,rfl,?_⟩;(conv=>whnf))
    | (refine⟨rfl,?_⟩;(conv=>whnf))
    | (refine⟨bdA (by simp only[List.length_append,List.length_cons,List.length_nil,ndsS_len];omega),?_⟩;(conv=>whnf))
theorem row_slc{K:CH}{A:Nat→Prop}{sz:Nat}{gs:List (List SV)}{w:Value}(h:SVR K A (.row sz gs) w) : ∃a n c,w= .slice a n c:=by
 cases h with
 | row0=>exact⟨_,_,_,rfl⟩
 | row=>exact⟨_,_,_,rfl⟩
theorem nd_rel{K:CH}{A:Nat→Prop}(hA : ∀b,A b→b<K.nx){k:Nat}{l:Int}{x:List UInt8}{o:Nat}{ks:List Nd}{w:Value}(hw:SVR K A (.row 5 (ndsS ks)) w):R2 (AVR K (E0 none fun _=>False)) [ndA (.mk k l x o ks)] [.agg #[.int .i64 (k:Nat), .int .i64 l, .string ⟨⟨x⟩⟩, .int .i64 (o:Nat),w]]:=by
 refine .cons ?_ .nil
 have hw':SVR K (Frz K (E0 none fun _=>False)) (.row 5 (ndsS ks)) w:=hw.mv fun b hb=>⟨⟨hA b hb,fun h=>h,(fun _ q=>(by cases q)),fun o q=>(by
  have q:(if o=0 then none else none)=some b:=q
  split at q<;>cases q)⟩,rfl⟩
 exact .r (.agg (vs:= [.int .i64 (k:Nat), .int .i64 l, .string ⟨⟨x⟩⟩, .int .i64 (o:Nat),w]) (.cons (.s (.sc rfl)) (.cons (.s (.sc rfl)) (.cons (.s (.sc rfl)) (.cons (.s (.sc rfl)) (.cons (.s hw') .nil))))))
theorem height_wp{K:CH}{A:Nat→Prop}(hA : ∀b,A b→b<K.nx){k:Nat}{l:Int}{x:List UInt8}{o:Nat}{ks:List Nd}{w:Value}(hw:SVR K A (.row 5 (ndsS ks)) w)(hh:htL ks+1≤9223372036854775807):WpF (tblG Tryz.prog LG GG) 72 [.agg #[.int .i64 (k:Nat), .int .i64 l, .string ⟨⟨x⟩⟩, .int .i64 (o:Nat),w]] K fun v K'=>HExt K K'∧v= .int .i64 (htL ks+1:Nat):=
 (tc_wp (X:=pX) (height_tc (nsz (.mk k l x o ks)+1) k l x o ks (Nat.lt_succ_self _) hh (fun a _=>a=rS (.int .i64 (htL ks+1:Nat))) _ rfl) (nd_rel hA hw)).mono fun v K' ⟨h1,a,s',h2,h3⟩=>⟨h1,by subst h3;exact raw_rel h2 rfl⟩
def PrO (H:CH)(t:Nd)(ln er:Int)(vs:List Value)(K':CH):Prop:=HExt H K'∧∃os,vs= [.agg os.toArray, .int .i64 ln, .int .i64 er]∧SVRs K' (fun b=>H.nx≤b∧b<K'.nx) (ndS t) os
def TyV (vs:List Value)(K':CH):Prop:=∀a0 a1 a2 a3 b n c r,vs= .agg #[a0,a1,a2,a3, .slice (some ⟨b,0,none⟩) n c]::r→∃cs kd,K'.ob b= .cells cs 26 kd
theorem pr_rest{H K:CH}{fr:Fr}{b:Nat}{l:List Nd}{ln:Int}{w:Value}(h2:fr 2=pP H.nx)(h3:fr 3=pP (H.nx+1))(h4:fr 4=pP (H.nx+2))(h6:fr 6=pP b)(o2:K.ob H.nx= .cells [.int .i64 0, .int .i64 0, .string ⟨⟨[]⟩⟩, .int .i64 0, .slice none 0 0] 26 .ex)(o3:K.ob (H.nx+1)= .cells [.int .i64 0] 3 .ex)(o4:K.ob (H.nx+2)= .cells [.int .i64 0] 33 .ex)
 (o6:K.ob b= .cells [.int .i64 1, .int .i64 ln, .string ⟨⟨[]⟩⟩, .int .i64 0,w] 26 .ex) (hn:H.nx+4≤K.nx) (hb:b<K.nx) (hb4:H.nx+4≤b) (hw:SVR K (fun b=>H.nx+4≤b∧b<K.nx) (.row 5 (ndsS l)) w) (hh:htL l+1≤9223372036854775807) (hold : ∀b,b<H.nx→K.ob b=H.ob b) (hty : ∀b n c,w= .slice (some ⟨b,0,none⟩) n c→b<K.nx∧H.nx+4≤b∧∃cs kd,K.ob b= .cells cs 26 kd) :
 WpR (tblG Tryz.prog LG GG) prP.2.2.2.2 fr K fun x fr' K'=>x= .ret∧∃vs,resL fr' K' [.lda 5 2, .ld 3, .ld 4]=some vs∧PrO H (if 60<htL l+1 then zNd else .mk 1 ln [] 0 l) 0 (if 60<htL l+1 then 11 else 0) vs K'∧TyV vs K':=by
 obtain⟨wa,wn,wc,rfl⟩ : ∃a n c,w= .slice a n c:=by
  exact row_slc hw
 have e:prP.2.2.2.2=_:=rfl
 conv at e=>rhs;reduce
 rw[e]
 clear e
 refine rn (an @h6 @o6) ?_
 refine(height_wp (k:=1) (x:= []) (o:=0) (fun _ h=>h.2) hw hh).mono fun v K4 ⟨hx,e⟩=> ?_
 subst e
 have g2:=(hx.ob _ (show H.nx<K.nx by omega)).trans o2
 have g3:=(hx.ob _ (show H.nx+1<K.nx by omega)).trans o3
 have g4:=(hx.ob _ (show H.nx+2<K.nx by omega)).trans o4
 have g6:=(hx.ob _ hb).trans o6
 have hnx:=hx.nx
 have hH4:HExt H K4:=⟨by omega,fun b hb=>(hx.ob b (by omega)).trans (hold b hb)⟩
 by_cases h60:60<htL l+1
 ·have hb1:decide ((60:Int)<((htL l+1:Nat):Int))=true:=decide_eq_true (by omega)
  refine rn (an @h2 (an @h3 (an @h4 (an @g2 (an @g3 (an @g4 @hb1)))))) ?_
  refine⟨_,rfl,⟨((hH4.set (Nat.le_refl _) _).set (by omega) _).set (by omega) _,_,rfl, .cons (.sc rfl) (.cons (.sc rfl) (.cons (.sc rfl) (.cons (.sc rfl) (.cons .row0 .nil))))⟩,?_⟩
  intro a0 a1 a2 a3 b n c r e
  simp at e
 ·have hb1:decide ((60:Int)<((htL l+1:Nat):Int))=false:=decide_eq_false (by omega)
  refine rn (an @h2 (an @h3 (an @h4 (an @h6 (an @g2 (an @g3 (an @g4 (an @g6 @hb1)))))))) ?_
  refine⟨_,rfl,⟨((hH4.set (Nat.le_refl _) _).set (by omega) _).set (by omega) _,_,rfl, .cons (.sc rfl) (.cons (.sc rfl) (.cons (.sc rfl) (.cons (.sc rfl) (.cons (hw.mv fun b hb=>⟨⟨by omega,Nat.lt_of_lt_of_le hb.2 hnx⟩,?_⟩) .nil))))⟩,?_⟩
  ·rw[set_ne' (by omega),set_ne' (by omega),set_ne' (by omega)]
   exact hx.ob b hb.2
  ·intro a0 a1 a2 a3 b n c r e
   simp only[List.cons.injEq,Value.agg.injEq,Array.mk.injEq] at e
   obtain⟨⟨_,_,_,_,e,_⟩,_⟩:=e
   obtain⟨q1,q2,cs,kd,q3⟩:=hty b n c e
   exact⟨cs,kd,by rw[set_ne' (by omega),set_ne' (by omega),set_ne' (by omega),hx.ob b q1];exact q3⟩
end Can
end Go.Proofs.YticlaccbodpkeaaGreatDoor
end
section
namespace Go.Proofs.YticlaccbodpkeaaGreatDoor
namespace Can
open Go Go.RowKit
set_option linter.unusedSimpArgs false
set_option linter.unusedVariables false
set_option maxRecDepth 4000
theorem gd_eval{H K:CH}{l:Int}(o2:K.ob H.nx= .cells [.int .i64 0, .int .i64 0, .string ⟨⟨[]⟩⟩, .int .i64 0, .slice none 0 0] 26 .ex)(o3:K.ob (H.nx+1)= .cells [.int .i64 0] 3 .ex)(o4:K.ob (H.nx+2)= .cells [.int .i64 0] 33 .ex)(hn:H.nx+4≤K.nx) :
 gdG [pP H.nx,pP (H.nx+1),pP (H.nx+2)] (wrV l) K ((((gdH K l).set H.nx (.cells [.int .i64 0, .int .i64 0, .string ⟨⟨[]⟩⟩, .int .i64 0, .slice none 0 0] 26 .ex)).set (H.nx+1) (.cells [.int .i64 l] 3 .ex)).set (H.nx+2) (.cells [.int .i64 22] 33 .ex)):=by
 refine⟨rfl,l,rfl,?_⟩
 unfold gdH
 conv in gdD=>reduce
 have hn0:H.nx≠K.nx:=by omega
 have hn1:H.nx+1≠K.nx:=by omega
 have hn2:H.nx+2≠K.nx:=by omega
 exact rz (an @o2 (an @o3 (an @o4 (an @hn0 (an @hn1 @hn2)))))
theorem fn_ok{P:Program}{f:Nat}(h:(resFunc P (fun N ops=>resD P N ops) f).isSome=true):FuncOk P f (rF P f):=by
 refine resFunc_ok (fun N ops d h=>resD_ok h) (rd:=fun N ops=>resD P N ops) ?_
 unfold rF
 cases hr:resFunc P (fun N ops=>resD P N ops) f with
 | none=>rw[hr] at h;cases h
 | some r=>rfl
theorem prK_2{H:CH}{sl:Sl}:(prK H sl).ob H.nx= .cells [.int .i64 0, .int .i64 0, .string ⟨⟨[]⟩⟩, .int .i64 0, .slice none 0 0] 26 .ex:=by
 unfold prK
 rw[new_ne (by simp only[new_nx];omega),new_ne (by simp only[new_nx];omega),new_ne (by simp only[new_nx];omega)]
 exact new_get.trans (if_pos rfl)
theorem prK_3{H:CH}{sl:Sl}:(prK H sl).ob (H.nx+1)= .cells [.int .i64 0] 3 .ex:=by
 unfold prK
 rw[new_ne (by simp only[new_nx];omega),new_ne (by simp only[new_nx];omega)]
 exact new_get.trans (if_pos rfl)
theorem prK_4{H:CH}{sl:Sl}:(prK H sl).ob (H.nx+2)= .cells [.int .i64 0] 33 .ex:=by
 unfold prK
 rw[new_ne (by simp only[new_nx];omega)]
 exact new_get.trans (if_pos rfl)
def PrQ2 (H:CH)(ts:List PT)(v:Value)(H':CH):Prop:=∃vs,v=tupleV vs∧PrO H (parseT ts).1 (parseT ts).2.1 (parseT ts).2.2 vs H'∧TyV vs H'
def PrQ (H:CH)(ts:List PT)(v:Value)(H':CH):Prop:=∃vs,v=tupleV vs∧PrO H (parseT ts).1 (parseT ts).2.1 (parseT ts).2.2 vs H'
theorem top_gd{ts:List PT}:Gd (fun e=>gr ts (ts.length*64+100) (.top []) 0=some (.error e)) (fun l j=>gr ts (ts.length*64+100) (.top []) 0=some (.ok (l,j))∧htL l+1≤64*ts.length+2) (gr ts (ts.length*64+100) (.top []) 0):=by
 have h1:=gr_gd (ts:=ts) (ts.length*64+100) (.top []) 0 trivial (Nat.zero_le _) (by simp only[NT.rank];omega)
 have h2:=gr_ht (ts:=ts) (ts.length*64+100) (.top []) 0 trivial (Nat.zero_le _) (by simp only[NT.rank];omega)
 match h:gr ts (ts.length*64+100) (.top []) 0,h1,h2 with
 | some (.error e),_,_=>exact rfl
 | some (.ok (l,j)),h1,h2=>
   refine⟨rfl,?_⟩
   have h3:szL l+64*0+0≤0+64*j+0:=h2
   have h4:=h1.2.1
   have h5:=ht_szL l
   omega
theorem cS_inv{K:CH}{E:TE}{v w:Value}(h:CVR K E (cS v) w):w=v:=by
 cases h with
 | s h=>cases h;rfl
theorem own_row{K:CH}{E:TE}{A:Nat→Prop}{t sz:Nat}{e:TypeId}{gs:List (List SV)}{w:Value}(h:CVR K E (.own t e sz gs) w)(h1 : ∀b,Frz K E b→A b)(h2 : ∀b,E.σ t=some b→A b):SVR K A (.row sz gs) w:=by
 cases h with
 | own0=>exact .row0
 | own hne hb ho hk hg hs ht=>exact .row hne (h2 _ hb) ho hk hg (hs.mv fun b hb=>⟨h1 b hb,rfl⟩) ht
theorem parse_call{H:CH}{sl:Sl}{ts:List PT}(h:SlAt 3 CTk H sl.q sl.c ts)(hn:sl.n=ts.length)(hlen:ts.length≤4398046510976) : ∃v H',PrQ2 H ts v H'∧∀B,CallC Tryz.prog B 38 [.slice sl.q sl.n sl.c] H v H':=by
 refine guard_calls (T:=(tblG Tryz.prog LG GG)) (X:=pX) (G:=gdG) (g:=68) (d:=10) (x1:=2) (x2:=3) (x3:=4) (fun B=>tg_ok) (fun B f args H v H'=>fail_ok) (fn_ok (by kernel_rfl)) pr_body (by rfl) (by kernel_rfl) (Nat.lt_of_lt_of_eq (by decide:10<37) (by kernel_rfl:37=(rF Tryz.prog 38).ntmps)) gd_ret (fun B=>gd_pan) ?_
 refine(pr_r0 (sl:=sl) rfl).mono fun x fr1 H1 ⟨hx,hw⟩=>⟨hx,hw.mono fun x fr2 H2 ⟨hx,c2,c3,c4,c5,e⟩=>⟨hx,?_⟩⟩
 subst e
 have C:=pctx (prZ_ok h hn) hlen
 have hc : ∀t,t≠10→putF fr2 (some 10) undef t=fr2 t:=fun t ht=>if_neg ht
 have t0:=pr_start (cfr:=putF fr2 (some 10) undef) h ((hc 2 (by decide)).trans c2) ((hc 3 (by decide)).trans c3) ((hc 4 (by decide)).trans c4) ((hc 5 (by decide)).trans c5)
 let Rp:Value→Prop:=fun v=>∃e,gr ts (ts.length*64+100) (.top []) 0=some (.error e)∧v=wrV (nowT ts e).line
 have hpan : ∀v K3,PX (prK H sl) (some (H.nx+3)) (fun _=>False) Rp v K3→∃H4,gdG [fr2 2,fr2 3,fr2 4] v K3 H4∧∃vs,resL (mskF (.seq prP.2.2.1 (.seq prP.2.2.2.1 prP.2.2.2.2)) (putF fr2 (some 10) undef)) H4 (rF Tryz.prog 38).res=some vs∧PrQ2 H ts (tupleV vs) H4:=by
  rintro v K3 ⟨g1,g2,e,hg,rfl⟩
  rw[prK_nx] at g1 g2
  have o2:=(g2 H.nx (by omega) (fun e=>by injection e;omega) id).trans prK_2
  have o3:=(g2 (H.nx+1) (by omega) (fun e=>by injection e;omega) id).trans prK_3
  have o4:=(g2 (H.nx+2) (by omega) (fun e=>by injection e;omega) id).trans prK_4
  rw[c2,c3,c4]
  refine⟨_,gd_eval o2 o3 o4 g1,?_⟩
  have hH3:HExt H K3:=⟨by omega,fun b hb=>(g2 b (by omega) (fun e=>by injection e;omega) id).trans (prK_old hb)⟩
  have hm : ∀t,t≠10→(wrR (.seq prP.2.2.1 (.seq prP.2.2.2.1 prP.2.2.2.2))).elem t=false→mskF (.seq prP.2.2.1 (.seq prP.2.2.2.1 prP.2.2.2.2)) (putF fr2 (some 10) undef) t=fr2 t:=fun t ht hw=>by
   unfold mskF
   rw[hw]
   exact hc t ht
  have m2:=(hm 2 (by decide) (by kernel_rfl)).trans c2
  have m3:=(hm 3 (by decide) (by kernel_rfl)).trans c3
  have m4:=(hm 4 (by decide) (by kernel_rfl)).trans c4
  rw[pr_res]
  unfold gdH
  have hn0:H.nx≠K3.nx:=by omega
  have hn1:H.nx+1≠K3.nx:=by omega
  have hn2:H.nx+2≠K3.nx:=by omega
  refine rn (an @m2 (an @m3 (an @m4 (an @o2 (an @o3 (an @o4 (an @hn0 (an @hn1 @hn2)))))))) ?_
  refine⟨_,rfl,[_,_,_],rfl,?_⟩
  have ht:parseT ts=(zNd,(nowT ts e).line,22):=by unfold parseT;rw[hg]
  rw[ht]
  refine⟨⟨((((hH3.new _).set (by omega) _).set (Nat.le_refl _) _).set (by omega) _).set (by omega) _,_,rfl, .cons (.sc rfl) (.cons (.sc rfl) (.cons (.sc rfl) (.cons (.sc rfl) (.cons .row0 .nil))))⟩,?_⟩
  intro a0 a1 a2 a3 b n c r e
  simp at e
 refine wxR_seq ((twR_sound dt_ok t0 (pr_t3 (R:=Rp) C)).mono ?_ hpan)
 rintro x cfr3 K3 ⟨fr3,st3,E3,t1,s1,rfl,⟨nt,u,rfl⟩,g2,g3,g4,g5,g6⟩
 have t1':TR (prZ H sl) (prK H sl) (some (H.nx+3)) (fun _=>False) K3 ⟨nt,[(u,114,(oR sl 0).2.2),(u,26,nC 1 (nowT ts 0).line [] 0 (.s (.row 5 [])))]⟩ (prG H) cfr3 E3:=by
  refine { t1 with frm:=fun t=> ?_ }
  match t with
  | 0=>exact .bad
  | 1=>exact .bad
  | 2=>have:=t1.frm 2;rw[g2] at this;exact this
  | 3=>have:=t1.frm 3;rw[g3] at this;exact this
  | 4=>have:=t1.frm 4;rw[g4] at this;exact this
  | 5=>have:=t1.frm 5;rw[g5] at this;exact this
  | 6=>have:=t1.frm 6;rw[g6] at this;exact this
  | n+7=>exact .bad
 show WxR (tblG Tryz.prog LG GG) pX (.seq prP.2.2.2.1 prP.2.2.2.2) cfr3 K3 _ _
 refine wxR_seq ((twR_sound dt_ok t1' (pr_tL C (fun m _=>pall C m) top_gd fun e he=>⟨e,he,rfl⟩)).mono ?_ hpan)
 rintro x cfr4 K4 ⟨fr4,st4,E4,t2,s2,rfl,⟨l,j,nt2,u1,u2,c,⟨hgr,hht⟩,hacc,rfl⟩,g2,g3,g4,g6⟩
 have hp : ∀t l,fr4 t=rS (pP l)→cfr4 t=pP l:=fun t l e=>by
  have:=t2.frm t
  rw[e] at this
  exact raw_rel this rfl
 have hhid : ∀b,b<H.nx+4∧b≠H.nx+3→E4.hid b:=fun b hb=>s2.hid b (s1.hid b hb)
 have hr0:E4.ρ 0=some (H.nx+3):=s2.rho _ _ (s1.rho _ _ rfl)
 obtain⟨b,os,hb1,hb2,hb3⟩:=t2.obs 1 _ _ _ rfl
 have h6:cfr4 6=pP b:=by
  have:=t2.frm 6
  rw[g6] at this
  obtain⟨b',q1,q2⟩:=this.ptr_inv
  rw[hb1] at q1;cases q1
  exact q2
 obtain⟨hbn,hbk,_⟩:=t2.rho 1 b hb1
 have hne3:b≠H.nx+3:=fun e=>by
  have:=t2.rinj 0 1 b (by rw[hr0,e]) hb1
  cases this
 have hb4:H.nx+4≤b:=by
  rcases hbk with q | q
  ·rw[prK_nx] at q;exact q
  ·injection q with q;exact absurd q.symm hne3
 have hnx:=t2.nx
 rw[prK_nx] at hnx
 have hfz : ∀b,Frz K4 E4 b→H.nx+4≤b∧b<K4.nx:=fun b ⟨f1,f2,f3,f4⟩=>by
  have:b≠H.nx+3:=fun e=>f4 0 (by rw[hr0,e])
  have f2 : ¬(b<H.nx+4∧b≠H.nx+3):=fun q=>f2 (hhid b q)
  exact⟨by omega,f1⟩
 have hkeep : ∀b,b<H.nx+3→K4.ob b=(prK H sl).ob b:=fun b hb=>t2.keep b (by rw[prK_nx];omega) (fun e=>by injection e;omega) id
 have hw : ∀w,CVR K4 E4 c w→SVR K4 (fun b=>H.nx+4≤b∧b<K4.nx) (.row 5 (ndsS l)) w:=fun w hc=>by
  rcases hacc with ⟨rfl,rfl⟩ | ⟨t,rfl⟩
  ·cases hc with
   | s h=>exact h.mv fun b hb=>⟨hfz b hb,rfl⟩
  ·exact own_row hc hfz fun b hb=>⟨by have:=(t2.sig t b hb).1;rw[prK_nx] at this;exact this,(t2.sig t b hb).2.1⟩
 have hty : ∀w,CVR K4 E4 c w→∀b n c',w= .slice (some ⟨b,0,none⟩) n c'→b<K4.nx∧H.nx+4≤b∧∃cs kd,K4.ob b= .cells cs 26 kd:=fun w hc b n c' ew=>by
  subst ew
  rcases hacc with ⟨rfl,rfl⟩ | ⟨t,rfl⟩
  ·cases hc with
   | s h=>cases h with | row hne _ _ _ _ _=>exact absurd rfl hne.1
  ·generalize ndsS l=gs at hc
   cases hc with
   | own hne hb ho hk hg hs=>exact⟨(t2.sig t b hb).2.1,by have:=(t2.sig t b hb).1;rw[prK_nx] at this;exact this,_,_,ho⟩
 cases hb3 with | cons a1 hb3=>
 cases hb3 with | cons a2 hb3=>
 cases hb3 with | cons a3 hb3=>
 cases hb3 with | cons a4 hb3=>
 cases hb3 with | cons a5 hb3=>
 cases hb3
 have e1:=cS_inv a1
 have e2:=cS_inv a2
 have e3:=cS_inv a3
 have e4:=cS_inv a4
 subst e1 e2 e3 e4
 refine .inl ((pr_rest (H:=H) (hp 2 _ g2) (hp 3 _ g3) (hp 4 _ g4) h6 ((hkeep _ (by omega)).trans prK_2) ((hkeep _ (by omega)).trans prK_3) ((hkeep _ (by omega)).trans prK_4) hb2 hnx hbn hb4 (hw _ a5) (by omega) (fun b hb=>(hkeep b (by omega)).trans (prK_old hb)) (hty _ a5)).mono fun x fr' K' ⟨q1,vs,q2,q3,q4⟩=>⟨.inr q1,vs,?_,vs,rfl,?_,q4⟩)
 ·rw[pr_res];exact q2
 ·have ht:parseT ts=if 60<htL l+1 then (zNd,0,11) else (nd 1 (hdLine (nowT ts 0).line l) l,0,0):=by unfold parseT;rw[hgr]
  rw[ht]
  by_cases h60:60<htL l+1
  ·rw[if_pos h60,if_pos h60] at q3
   rw[if_pos h60]
   exact q3
  ·rw[if_neg h60,if_neg h60] at q3
   rw[if_neg h60]
   exact q3
end Can
end Go.Proofs.YticlaccbodpkeaaGreatDoor
end
section
namespace Go.Proofs.YticlaccbodpkeaaGreatDoor
namespace Can
open Go Go.RowKit
set_option linter.unusedSimpArgs false
set_option linter.unusedVariables false
set_option maxRecDepth 4000
def ptT (t:Tok):PT:=⟨t.kind,t.line,t.text⟩
theorem tokV_pt(t:Tok):tokV (ptT t)=tokC t:=rfl
theorem ptT_flat : ∀ts:List Tok,(ts.map ptT).flatMap tokV=ts.flatMap tokC
 | []=>rfl
 | t::ts=>by rw[List.map_cons,List.flatMap_cons,List.flatMap_cons,ptT_flat ts,tokV_pt]
theorem grw_pt{A K:CH}{v:Value}{ts:List Tok}(h:Grw A 85 3 tokC K v ts):Grw A 85 3 tokV K v (ts.map ptT):=by
 rcases h with ⟨rfl,rfl⟩ | ⟨b,kd,rfl,h1,h2,h3,h4⟩
 ·exact .inl ⟨rfl,rfl⟩
 ·exact .inr ⟨b,kd,by rw[List.length_map],h1,h2,by rw[ptT_flat];exact h3,h4⟩
def sourceT(src:List UInt8):Nd×Int×Int:=match lexT src with
 | .ok ts=>parseT (ts.map ptT)
 | .error y=>(zNd,y.1,y.2)
end Can
end Go.Proofs.YticlaccbodpkeaaGreatDoor
end
section
namespace Go.Proofs.YticlaccbodpkeaaGreatDoor
namespace Can
open Go Go.RowKit
set_option linter.unusedSimpArgs false
set_option linter.unusedVariables false
set_option maxRecDepth 4000
def LexF (args:List Value)(H:CH)(v:Value)(H':CH):Prop:=∀q c src,args= [.slice q src.length c]→SlAt 1 (CInt .u8) H q c (u8i src)→HExt H H'∧LexOut H H' v (lexT src)
def SP:Spec:=fun f args H v H'=>(f=38→∀(sl:Sl) (ts:List PT),args= [.slice sl.q sl.n sl.c]→SlAt 3 CTk H sl.q sl.c ts→sl.n=ts.length→ts.length≤4398046510976→PrQ2 H ts v H')∧(f=37→LexF args H v H')
noncomputable abbrev TL:Tbl:=tblS Tryz.prog LG GG [38,37] SP
theorem tl_ok{B:Nat}:TblOk Tryz.prog B TL:=tblS_ok GG_ok
theorem tok_inj{a b:PT}(h:tokV a=tokV b):a=b:=by
 cases a;cases b
 simp only[tokV,List.cons.injEq,Value.int.injEq,Value.string.injEq,true_and,and_true] at h
 obtain⟨rfl,rfl,h⟩:=h
 injection h with h
 injection h with h
 subst h;rfl
theorem slat_inj{H:CH}{q:Option Addr}{c:Nat}{ts us:List PT}(h:SlAt 3 CTk H q c ts)(g:SlAt 3 CTk H q c us)(hl:ts.length=us.length):ts=us:=by
 refine List.ext_getElem hl fun i h1 h2=> ?_
 obtain⟨l,o,os,e,kd,q1,o1,_,_,r1,_⟩:=tk_get h h1
 obtain⟨l',o',os',e',kd',q2,o2,_,_,r2,_⟩:=tk_get g h2
 rw[q1] at q2;cases q2
 rw[o1] at o2;cases o2
 exact tok_inj (r1.symm.trans r2)
theorem parse_wp2{H:CH}{sl:Sl}{ts:List PT}(h:SlAt 3 CTk H sl.q sl.c ts)(hn:sl.n=ts.length)(hlen:ts.length≤4398046510976):WpF TL 38 [.slice sl.q sl.n sl.c] H fun v H'=>PrQ2 H ts v H':=by
 obtain⟨v,H',h1,h2⟩:=parse_call h hn hlen
 refine wpF_tell rfl ⟨v,H',⟨fun _ sl' ts' he h' hn' _=> ?_,fun e=>by cases e⟩,h2⟩ fun v H' hS=>hS.1 rfl sl ts rfl h hn hlen
 cases sl;cases sl'
 cases he
 rw[slat_inj h' h (hn'.symm.trans hn)]
 exact h1
theorem parse_wp{H:CH}{sl:Sl}{ts:List PT}(h:SlAt 3 CTk H sl.q sl.c ts)(hn:sl.n=ts.length)(hlen:ts.length≤4398046510976):WpF TL 38 [.slice sl.q sl.n sl.c] H fun v H'=>PrQ H ts v H':=
 (parse_wp2 h hn hlen).mono fun v H' ⟨vs,h1,h2,_⟩=>⟨vs,h1,h2⟩
theorem u8_inj{H:CH}{q:Option Addr}{c:Nat}{a b:List UInt8}(h:SlAt 1 (CInt .u8) H q c (u8i a))(g:SlAt 1 (CInt .u8) H q c (u8i b))(hl:a.length=b.length):a=b:=by
 have h1:=src_ints h
 have h2:=src_ints g
 rw[u8i_len] at h1 h2
 rw[hl,h2] at h1
 injection h1 with h1
 injection h1 with h1 _
 rw[flat_ints,flat_ints] at h1
 refine List.ext_getElem hl fun i i1 i2=> ?_
 have:=congrArg (fun l=>l[i]?) h1
 simp only[u8i,List.getElem?_map,List.getElem?_eq_getElem i1,List.getElem?_eq_getElem i2,Option.map_some,Option.some.injEq,Value.int.injEq,true_and] at this
 exact UInt8.toNat.inj (by omega)
theorem lexf_wp{H:CH}{q:Option Addr}{c:Nat}{src:List UInt8}(h:SlAt 1 (CInt .u8) H q c (u8i src)):WpF TL 37 [.slice q src.length c] H fun v K=>HExt H K∧LexOut H K v (lexT src):=by
 obtain⟨v,K,h1,h2⟩:=tell_wp (T:=(tblG Tryz.prog LG GG)) (fun B=>tg_ok) (by kernel_rfl) (lex_wp H h)
 refine wpF_tell rfl ⟨v,K,⟨fun e=>(by cases e),fun _ q' c' src' he h'=> ?_⟩,h2⟩ fun v K hS=>hS.2 rfl q c src rfl h
 simp only[List.cons.injEq,Value.slice.injEq,and_true] at he
 obtain⟨rfl,hl,rfl⟩:=he
 rw[u8_inj h' h hl.symm]
 exact h1
def D0:TD:=⟨[]⟩
section
variable {Z:TP} {X:Pan}
attribute [local irreducible] TC
end
end Can
end Go.Proofs.YticlaccbodpkeaaGreatDoor
end
section
namespace Go.Proofs.YticlaccbodpkeaaGreatDoor
namespace Can
open Go Go.RowKit
set_option linter.unusedSimpArgs false
set_option linter.unusedVariables false
set_option maxRecDepth 4000
theorem slat_row{K:CH}{b:Nat}{ts:List PT}{e:TypeId}{k:Kd}(hb:b<K.nx)(ho:K.ob b= .cells ((ts.map tokV).flatten) e k)(hl:ts.length≤maxLen):SlAt 3 CTk K (some ⟨b,0,none⟩) ts.length ts:=by
 have hfl:((ts.map tokV).flatten).length=ts.length*3:=by
  rw[flat_len' (sz:=3) (fun g hg=>by obtain⟨t,_,rfl⟩:=List.mem_map.1 hg;rfl),List.length_map]
 refine .inr ⟨b,0,_,e,k,rfl,hb,Nat.le_refl _,hl,ho,by omega,fun i h=> ?_⟩
 have hg:(ts.map tokV)[i]? = some (tokV ts[i]):=by simp[h]
 have:=(flat_grp (sz:=3) (gs:=ts.map tokV) (fun g hg=>by obtain⟨t,_,rfl⟩:=List.mem_map.1 hg;rfl) hg).1
 show((((ts.map tokV).flatten).drop (0+i*3)).take 3)=tokV ts[i]
 rw[Nat.zero_add]
 exact this
theorem nd_cells{K:CH}{A:Nat→Prop}{t:Nd}{os:List Value}(h:SVRs K A (ndS t) os) : ∃k l x o wa wn wc,os= [.int .i64 k, .int .i64 l, .string x, .int .i64 o, .slice wa wn wc]:=by
 cases t
 cases h with | cons a1 h=>
 cases h with | cons a2 h=>
 cases h with | cons a3 h=>
 cases h with | cons a4 h=>
 cases h with | cons a5 h=>
 cases h
 cases a1
 cases a2
 cases a3
 cases a4
 obtain⟨wa,wn,wc,rfl⟩:=row_slc a5
 exact⟨_,_,_,_,_,_,_,rfl⟩
def SrQ (H:CH)(src:List UInt8)(v:Value)(K:CH):Prop:=∃vs,v=tupleV vs∧PrO H (sourceT src).1 (sourceT src).2.1 (sourceT src).2.2 vs K
theorem lexT_len'{src:List UInt8}{ts:List Tok}(h:lexT src= .ok ts):(ts.map ptT).length≤100000:=by
 rw[List.length_map];exact lexT_len h
theorem grw_tk'{A K:CH}{v:Value}{ts:List PT}(h:Grw A 85 3 tokV K v ts)(hm:ts.length≤9223372036854775807) : ∃q c,v= .slice q ts.length c∧SlAt 3 CTk K q c ts:=by
 rcases h with ⟨rfl,rfl⟩ | ⟨b,kd,rfl,h1,h2,h3,h4⟩
 ·exact⟨none,0,rfl, .inl ⟨rfl,rfl, .inl rfl⟩⟩
 ·refine⟨_,_,rfl,?_⟩
  have e:ts.flatMap tokV=(ts.map tokV).flatten:=by rw[List.flatMap_def]
  rw[e] at h3
  exact slat_row h2 h3 (by rw[maxLen_eq];exact hm)
theorem source_wp{H:CH}{q:Option Addr}{c:Nat}{src:List UInt8}(h:SlAt 1 (CInt .u8) H q c (u8i src)) :
 WpF TL 17 [.slice q src.length c] H fun v K=>SrQ H src v K:=by
 refine wpF_rS (by rfl) (by kernel_rfl) ?_
 conv in (rF _ _).body=>reduce
 conv in (rF _ _).res=>reduce
 refine rn0 ?_
 refine(lexf_wp (SlAt.good (CInt.good _) ((HExt.refl H).new _) h)).mono ?_
 rintro v K ⟨hx,hv⟩
 cases hL:lexT src with
 | error y=>
   rw[hL] at hv
   have hv:v= .tuple #[.slice none 0 0, .int .i64 y.1, .int .i64 y.2]:=hv
   subst hv
   have hy : ¬((y.2:Int)=0):=by
    have:y.2=20∨y.2=21∨y.2=24:=by
     by_cases hl:src.length≤20000
     ·rcases(lexT_err2 hl hL).2 with e | e
      ·exact .inl e
      ·exact .inr (.inl e)
     ·unfold lexT at hL
      rw[if_pos (by omega)] at hL
      cases hL
      exact .inr (.inr rfl)
    omega
   have hr:K.ob H.nx= .cells [.int .i64 0, .int .i64 0, .string ⟨⟨[]⟩⟩, .int .i64 0, .slice none 0 0] 26 .ex:=by
    rw[hx.ob H.nx (Nat.lt_succ_self _)]
    exact new_get.trans (if_pos rfl)
   have hn:H.nx<K.nx:=hx.nx
   refine rn (an @hr @hy) ?_
   have es:sourceT src=(zNd,(y.1:Int),(y.2:Int)):=by unfold sourceT;rw[hL]
   rw[SrQ,es]
   exact⟨[_,_,_],rfl,(((HExt.refl H).new _).trans hx).set (Nat.le_refl _) _,[_,_,_,_,_],rfl, .cons (.sc rfl) (.cons (.sc rfl) (.cons (.sc rfl) (.cons (.sc rfl) (.cons .row0 .nil))))⟩
 | ok ts=>
   rw[hL] at hv
   obtain⟨vt,rfl,hg⟩:=hv
   refine rn0 ?_
   have hlen:=lexT_len' hL
   obtain⟨q',c',rfl,hs⟩:=grw_tk' (grw_pt hg) (by omega)
   refine(parse_wp (sl:=⟨q',_,c'⟩) hs rfl (by omega)).mono ?_
   rintro v K2 ⟨vs,rfl,hx2,os,rfl,hs2⟩
   obtain⟨k,l,x,o,wa,wn,wc,rfl⟩:=nd_cells hs2
   have hn:H.nx+1≤K.nx:=hx.nx
   have hn2:=hx2.nx
   have hr:K2.ob H.nx= .cells [.int .i64 0, .int .i64 0, .string ⟨⟨[]⟩⟩, .int .i64 0, .slice none 0 0] 26 .ex:=by
    rw[hx2.ob H.nx (by omega),hx.ob H.nx (Nat.lt_succ_self _)]
    exact new_get.trans (if_pos rfl)
   refine rn @hr ?_
   have es:sourceT src=parseT (ts.map ptT):=by unfold sourceT;rw[hL]
   rw[SrQ,es]
   refine⟨[_,_,_],rfl,((((HExt.refl H).new _).trans hx).trans hx2).set (Nat.le_refl _) _,[_,_,_,_,_],rfl,hs2.mv fun b hb=> ?_⟩
   obtain⟨h1,h2⟩:=hb
   exact⟨⟨by omega,h2⟩,set_ne (by omega)⟩
end Can
end Go.Proofs.YticlaccbodpkeaaGreatDoor
end
section
namespace Go.Proofs.YticlaccbodpkeaaGreatDoor
namespace Can
open Go Go.RowKit
set_option linter.unusedSimpArgs false
set_option linter.unusedVariables false
set_option maxRecDepth 4000
theorem nd_inv{K:CH}{A:Nat→Prop}{k:Nat}{l:Int}{x:List UInt8}{o:Nat}{ks:List Nd}{rest:List SV}{os:List Value}(h:SVRs K A (ndS (.mk k l x o ks)++rest) os) : ∃w os',os= .int .i64 (k:Nat):: .int .i64 l:: .string ⟨⟨x⟩⟩:: .int .i64 (o:Nat)::w::os'∧SVR K A (.row 5 (ndsS ks)) w∧SVRs K A rest os':=by
 cases h with | cons a1 h=>
 cases h with | cons a2 h=>
 cases h with | cons a3 h=>
 cases h with | cons a4 h=>
 cases h with | cons a5 h=>
 cases a1
 cases a2
 cases a3
 cases a4
 exact⟨_,_,rfl,a5,h⟩
end Can
end Go.Proofs.YticlaccbodpkeaaGreatDoor
end
section
namespace Go.Proofs.YticlaccbodpkeaaGreatDoor
namespace Can
open Go Go.RowKit
set_option linter.unusedSimpArgs false
set_option linter.unusedVariables false
set_option maxRecDepth 4000
theorem ndsS_all{ks:List Nd} : ∀g∈ndsS ks,g.length=5:=by
 induction ks with
 | nil=>intro g hg;cases hg
 | cons n ks ih=>
   intro g hg
   rcases List.mem_cons.1 hg with rfl | hg
   ·exact ndS_len
   ·exact ih g hg
theorem svrs_grp{K:CH}{A:Nat→Prop}{ks:List Nd}{os:List Value}(h:SVRs K A (ndsS ks).flatten os):os.length=ks.length*5∧∀i t,ks[i]? = some t→i*5+5≤os.length∧SVRs K A (ndS t) ((os.drop (i*5)).take 5):=by
 have hl:os.length=ks.length*5:=by rw[h.r2.len,flat_len' ndsS_all,ndsS_len]
 refine⟨hl,fun i t ht=> ?_⟩
 have h1:=flat_grp (ndsS_all (ks:=ks)) (ndsS_get ht)
 rw[ndS_len] at h1
 have:=(h.r2.drop (i*5)).take 5
 rw[h1.1] at this
 exact⟨by obtain⟨hi,_⟩:=List.getElem?_eq_some_iff.1 ht;omega,this.svrs⟩
theorem row_at{K:CH}{A:Nat→Prop}{ks:List Nd}{w:Value}(h:SVR K A (.row 5 (ndsS ks)) w) : ∃q,w= .slice q ks.length ks.length∧ks.length≤maxLen∧(ks= []→q=none)∧∀i t,ks[i]? = some t→∃b cs e kd,q=some ⟨b,0,none⟩∧A b∧K.ob b= .cells cs e kd∧kd.isRo=false∧cs.length=ks.length*5∧i*5+5≤cs.length∧SVRs K A (ndS t) ((cs.drop (i*5)).take 5):=by
 have hl:(ndsS ks).length=ks.length:=ndsS_len
 generalize hg:ndsS ks=gs at h hl
 cases h with
 | row0=>
   have:ks= []:=List.length_eq_zero_iff.1 (by simpa using hl.symm)
   subst this
   exact⟨none,rfl,Nat.zero_le _,fun _=>rfl,fun i t h=>by simp at h⟩
 | row hne hb ho hk hg' hs=>
   rw[hl]
   refine⟨_,rfl,by rw[←hl];exact hne.2,fun e=> ?_,fun i t ht=> ?_⟩
   ·subst e;exact absurd (by rw[←hg];rfl) hne.1
   ·rw[←hg] at hs
    obtain⟨h1,h2⟩:=svrs_grp hs
    exact⟨_,_,_,_,rfl,hb,ho,hk,h1,(h2 i t ht).1,(h2 i t ht).2⟩
end Can
end Go.Proofs.YticlaccbodpkeaaGreatDoor
end
section
namespace Go.Proofs.YticlaccbodpkeaaGreatDoor
namespace Can
open Go Go.RowKit
set_option linter.unusedSimpArgs false
set_option linter.unusedVariables false
set_option maxRecDepth 4000
abbrev tx(x:Bs):ByteArray:=⟨⟨x⟩⟩
def itT (n:Nat):Bs:=Lib.itoa (n:Int)
def SR:Spec:=fun f args H v H'=>(f=26→∃n,args= [.int .i64 n]∧v= .string ⟨(Lib.itoa n).toArray⟩∧H'=H)∧
 (f=27→∃l k q c xs f,args= [.map (some l), .slice q xs.length c]∧NmAt H l f k∧PrmAt H q xs∧v= .map (some H.nx)∧H'=H.new (.fm (woF f xs) k))
noncomputable abbrev TRn:Tbl:=tblS Tryz.prog LG GG [26,27] SR
theorem tr_ok{B:Nat}:TblOk Tryz.prog B TRn:=tblS_ok GG_ok
theorem itoa_wp{H:CH}(h:PowAt H){n:Int}(h0 : -9223372036854775808≤n)(h1:n≤9223372036854775807):WpF TRn 26 [.int .i64 n] H fun v K=>v= .string ⟨(Lib.itoa n).toArray⟩∧K=H:=by
 refine wpF_tell (by rfl) ⟨_,_,⟨fun _=>⟨n,rfl,rfl,rfl⟩,fun e=>by cases e⟩,fun B=>itoa_call h n h0 h1⟩ fun v H' hS=> ?_
 obtain⟨n',e,h2,h3⟩:=hS.1 rfl
 cases e
 exact⟨h2,h3⟩
theorem nm_inj{H:CH}{l k k':Nat}{f f':ByteArray→Option Int}(h:NmAt H l f k)(h':NmAt H l f' k'):f=f'∧k=k':=by
 rcases h with h | ⟨h,rfl,rfl⟩<;>rcases h' with h' | ⟨h',rfl,rfl⟩
 ·rw[h] at h';cases h';exact⟨rfl,rfl⟩
 ·rw[h] at h';cases h'
 ·rw[h] at h';cases h'
 ·exact⟨rfl,rfl⟩
theorem prm_inj{H:CH}{q:Option Addr}{xs ys:List ByteArray}(h:PrmAt H q xs)(h':PrmAt H q ys)(hl:xs.length=ys.length):xs=ys:=by
 refine List.ext_getElem hl fun i h1 h2=> ?_
 obtain⟨p,o,cs,e,kd,u0,u1,u3,q4,n4,c4,rfl,a2,a3,_⟩:=h i h1
 obtain⟨p',o',cs',e',kd',_,_,_,_,_,_,b1,b2,b3,_⟩:=h' i h2
 cases b1
 rw[a2] at b2;cases b2
 rw[a3] at b3
 simp only[List.cons.injEq,Value.int.injEq,Value.string.injEq,true_and,and_true] at b3
 exact b3.2.2.1
theorem without_wp{H:CH}{l k m c:Nat}{f:ByteArray→Option Int}{q:Option Addr}{xs:List ByteArray}(hl:NmAt H l f k)(hm:xs.length=m)(hp:PrmAt H q xs) :
 WpF TRn 27 [.map (some l), .slice q m c] H fun v K=>v= .map (some H.nx)∧K=H.new (.fm (woF f xs) k):=by
 subst hm
 refine wpF_tell (by rfl) ⟨_,_,⟨fun e=>(by cases e),fun _=>⟨l,k,q,c,xs,f,rfl,hl,hp,rfl,rfl⟩⟩,fun B=>without_call hl rfl hp⟩ fun v H' hS=> ?_
 obtain⟨l',k',q',c',xs',f',e,g1,g2,g3,g4⟩:=hS.2 rfl
 simp only[List.cons.injEq,Value.map.injEq,Option.some.injEq,Value.slice.injEq,and_true] at e
 obtain⟨rfl,rfl,e2,rfl⟩:=e
 obtain⟨rfl,rfl⟩:=nm_inj hl g1
 obtain rfl:=prm_inj hp g2 e2
 exact⟨g3,g4⟩
def RF (ρ:Bs→Nat)(f:ByteArray→Option Int):Prop:=∀y,(f (tx y)).getD 0=(ρ y:Int)
theorem RF.nil:RF (fun _=>0) (fun _=>none):=fun _=>rfl
theorem RF.wo{ρ:Bs→Nat}{f:ByteArray→Option Int}(h:RF ρ f)(ps:List Nd):RF (wo ρ ps) (woF f (ps.map fun n=>tx n.text)):=fun y=>by
 unfold Can.wo woF
 by_cases hy:y∈ps.map Nd.text
 ·rw[if_pos hy,if_pos]
  ·rfl
  ·obtain⟨n,hn,e⟩:=List.mem_map.1 hy
   exact List.any_eq_true.2 ⟨tx n.text,List.mem_map.2 ⟨n,hn,rfl⟩,decide_eq_true (by rw[e])⟩
 ·rw[if_neg hy,if_neg]
  ·exact h y
  ·intro ha
   obtain⟨x,hx,e⟩:=List.any_eq_true.1 ha
   obtain⟨n,hn,rfl⟩:=List.mem_map.1 hx
   have e:=of_decide_eq_true e
   exact hy (List.mem_map.2 ⟨n,hn,congrArg (fun b:ByteArray=>b.data.toList) e⟩)
def txL (n:Nd):Prop:=n.text.length≤1099511627776
theorem prm_of{K:CH}{A:Nat→Prop}{ks:List Nd}{w:Value}(h:SVR K A (.row 5 (ndsS ks)) w)(ht : ∀n∈ks,txL n) : ∃q,w= .slice q ks.length ks.length∧PrmAt K q (ks.map fun n=>tx n.text):=by
 obtain⟨q,rfl,h1,h2,h3⟩:=row_at h
 refine⟨q,rfl,fun i hi=> ?_⟩
 have hi':i<ks.length:=by simpa using hi
 obtain⟨b,cs,e,kd,rfl,hA,hob,hro,hcl,h5,hs⟩:=h3 i ks[i] (List.getElem?_eq_getElem hi')
 have hmem:=ht ks[i] (List.getElem_mem hi')
 cases hn:ks[i] with
 | mk k l x o ks'=>
   rw[hn] at hs hmem
   obtain⟨w',os',e1,e2,e3⟩:=nd_inv (rest:= []) (by rw[List.append_nil];exact hs)
   have:os'= []:=by cases e3;rfl
   subst this
   obtain⟨q',rfl,_⟩:=row_at e2
   refine⟨b,0,cs,e,kd,(k:Nat),l,(o:Nat),q',ks'.length,ks'.length,rfl,hob,?_,?_⟩
   ·rw[Nat.zero_add,e1]
    simp[hn,Nd.text]
   ·simp only[List.getElem_map,hn]
    have:x.length≤1099511627776:=hmem
    show x.length≤maxLen
    rw[maxLen_eq];omega
theorem ndS_cells{K:CH}{A:Nat→Prop}{k:Nat}{l:Int}{x:Bs}{o:Nat}{ks:List Nd}{os:List Value}(h:SVRs K A (ndS (.mk k l x o ks)) os) : ∃q,os= [.int .i64 (k:Nat), .int .i64 l, .string (tx x), .int .i64 (o:Nat), .slice q ks.length ks.length]∧SVR K A (.row 5 (ndsS ks)) (.slice q ks.length ks.length):=by
 obtain⟨w,os',rfl,h2,h3⟩:=nd_inv (rest:= []) (by rw[List.append_nil];exact h)
 have:os'= []:=by cases h3;rfl
 subst this
 obtain⟨q,rfl,_⟩:=row_at h2
 exact⟨q,rfl,h2⟩
theorem zero_nd{K:CH}{A:Nat→Prop}:SVRs K A (ndS (.mk 0 0 [] 0 [])) [.int .i64 0, .int .i64 0, .string ⟨⟨[]⟩⟩, .int .i64 0, .slice none 0 0]:= .cons (.sc rfl) (.cons (.sc rfl) (.cons (.sc rfl) (.cons (.sc rfl) (.cons .row0 .nil))))
theorem kid_wp{K:CH}{A:Nat→Prop}{n:Nd}{os:List Value}(h:SVRs K A (ndS n) os)(hA : ∀b,A b→b<K.nx):WpF TRn 28 [.agg os.toArray, .int .i64 0] K fun v K'=>∃os',v= .agg os'.toArray∧HExt K K'∧SVRs K A (ndS (kid0 n.kids)) os':=by
 obtain⟨k,l,x,o,ks⟩:=n
 obtain⟨q,rfl,hrow⟩:=ndS_cells h
 obtain⟨q',e,hmx,hnil,hat⟩:=row_at hrow
 cases e
 cases ks with
 | nil=>
   obtain rfl:=hnil rfl
   refine wpF_rS (by rfl) (by kernel_rfl) ?_;(conv in (rF _ _).body=>reduce);(conv in (rF _ _).res=>reduce)
   refine rn0 ?_
   refine⟨_,rfl,by(repeat (first | assumption | exact HExt.refl _ | (refine HExt.set ?_ (by first | omega | (simp only[new_nx,set_nx];omega)) _) | (refine HExt.new ?_ _))),zero_nd⟩
 | cons n0 ks=>
   obtain⟨b,cs,e,kd,rfl,hAb,hob,hro,hcl,h5,hs⟩:=hat 0 n0 rfl
   have hb:=hA b hAb
   obtain⟨os',hos⟩ : ∃os',(cs.drop (0*5)).take 5=os':=⟨_,rfl⟩
   rw[hos] at hs
   have hln:os'.length=5:=by rw[←hos];simp;simp at h5;omega
   obtain⟨k',l',x',o',wa,wn,wc,eo⟩:=nd_cells hs
   have hcl':os'.all isCell=true:=by rw[eo];rfl
   have hc1:5≤cs.length:=by omega
   refine wpF_rS (by rfl) (by kernel_rfl) ?_;(conv in (rF _ _).body=>reduce);(conv in (rF _ _).res=>reduce)
   refine rn (an @hob (an @hos (an @hln (an @hcl' @hc1)))) ?_
   refine⟨os',by rw[List.take_of_length_le (by omega)],by(repeat (first | assumption | exact HExt.refl _ | (refine HExt.set ?_ (by first | omega | (simp only[new_nx,set_nx];omega)) _) | (refine HExt.new ?_ _))),hs⟩
end Can
end Go.Proofs.YticlaccbodpkeaaGreatDoor
end
section
namespace Go.Proofs.YticlaccbodpkeaaGreatDoor
namespace Can
open Go Go.RowKit
set_option linter.unusedSimpArgs false
set_option linter.unusedVariables false
set_option maxRecDepth 4000
structure HEx(c:Nat)(H K:CH):Prop where
 nx:H.nx≤K.nx
 ob : ∀l,l<H.nx→l≠c→K.ob l=H.ob l
theorem HEx.refl{c:Nat}(H:CH):HEx c H H:=⟨Nat.le_refl _,fun _ _ _=>rfl⟩
theorem HEx.trans{c:Nat}{A H K:CH}(h:HEx c A H)(k:HEx c H K):HEx c A K:=⟨Nat.le_trans h.nx k.nx,fun l hl hc=>(k.ob l (Nat.lt_of_lt_of_le hl h.nx) hc).trans (h.ob l hl hc)⟩
theorem HExt.ex{c:Nat}{H K:CH}(h:HExt H K):HEx c H K:=⟨h.nx,fun l hl _=>h.ob l hl⟩
theorem HEx.new{c:Nat}{A H:CH}(h:HEx c A H)(o:CObj):HEx c A (H.new o):=h.trans ((HExt.refl H).new o).ex
theorem HEx.set{c:Nat}{A H:CH}(h:HEx c A H){l:Nat}(hl:A.nx≤l∨l=c)(o:CObj):HEx c A (H.set l o):=⟨h.nx,fun k hk hc=>by simp only[CH.set];rw[if_neg (by omega)];exact h.ob k hk hc⟩
theorem HEx.ext{c:Nat}{H K:CH}(h:HEx c H K)(hc:H.nx≤c):HExt H K:=⟨h.nx,fun l hl=>h.ob l hl (by omega)⟩
abbrev pN(n:Nat):Value:= .pointer (some ⟨n,0,none⟩)
def upF (f:ByteArray→Option Int)(c:Nat)(x:Bs):ByteArray→Option Int:=fun t=>if t=tx x then some (c:Int) else f t
def ups (f:ByteArray→Option Int)(c:Nat)(xs:List Bs):ByteArray→Option Int:=xs.foldl (fun f x=>upF f c x) f
theorem ups_app{f:ByteArray→Option Int}{c:Nat}{xs ys:List Bs}:ups f c (xs++ys)=ups (ups f c xs) c ys:=List.foldl_append ..
theorem RF.up{ρ:Bs→Nat}{f:ByteArray→Option Int}(h:RF ρ f)(c:Nat)(x:Bs):RF (fun y=>if y=x then c else ρ y) (upF f c x):=fun y=>by
 unfold upF
 by_cases e:y=x
 ·subst e;simp
 ·have:tx y≠tx x:=fun h=>e (congrArg (fun b:ByteArray=>b.data.toList) h)
  simp only[if_neg e,if_neg this]
  exact h y
theorem RF.ups{c:Nat} : ∀ {xs:List Bs} {ρ:Bs→Nat} {f:ByteArray→Option Int},RF ρ f→RF (wi ρ xs c) (ups f c xs)
 | [],ρ,f,h=>fun y=>by simpa[wi,Can.ups] using h y
 | x::xs,ρ,f,h=>fun y=>by
   have:=RF.ups (xs:=xs) (c:=c) (h.up c x) y
   rw[show Can.ups f c (x::xs)=Can.ups (upF f c x) c xs from rfl,this]
   unfold wi
   by_cases e:y=x
   ·subst e;simp
   ·simp[e]
mutual
def txD:Nd→Prop
 | .mk _ _ x _ ks=>x.length≤1099511627776∧txDL ks
def txDL:List Nd→Prop
 | []=>True
 | n::ks=>txD n∧txDL ks
end
theorem txD_mem : ∀ {ks:List Nd} {n:Nd},txDL ks→n∈ks→txD n
 | m::ks,n,h,hn=>by
   rcases List.mem_cons.1 hn with rfl | hn
   ·exact h.1
   ·exact txD_mem h.2 hn
theorem txD_kid0{ks:List Nd}(h:txDL ks):txD (kid0 ks):=by
 cases ks with
 | nil=>exact⟨Nat.zero_le _,trivial⟩
 | cons n ks=>exact h.1
theorem ht_mem : ∀ {ks:List Nd} {n:Nd},n∈ks→htN n≤htL ks
 | m::ks,n,hn=>by
   simp only[htL]
   rcases List.mem_cons.1 hn with rfl | hn
   ·exact Nat.le_max_left _ _
   ·exact Nat.le_trans (ht_mem hn) (Nat.le_max_right _ _)
theorem with1_wp{K:CH}{x:Bs}{bc bm l c k:Nat}{f:ByteArray→Option Int}(hx:x.length≤1099511627776)(hc:K.ob bc= .cells [.int .i64 (c:Nat)] 3 .ex)(hm:K.ob bm= .cells [.map (some l)] 56 .ex)(hf:K.ob l= .fm f k)(hcb:c≤4611686018427387904)(hk:k≤4611686018427387904) :
 WpF TRn 49 [.string (tx x),pN bc,pN bm] K fun v K'=>K'=K.set l (.fm (upF f c x) (k+1)):=by
 have hs:(tx x).size≤9223372036854775807:=by show x.length≤_;omega
 have hw:(Lit.int .i64 (c:Nat)).wf=true:=by
  simp[Lit.wf,IntKind.min,IntKind.max,IntKind.signed,IntKind.bits]
  omega
 have hk1:k+1≤9223372036854775807:=by omega
 refine wpF_rS (by rfl) (by kernel_rfl) ?_;(conv in (rF _ _).body=>reduce);(conv in (rF _ _).res=>reduce)
 refine rn (an @hc (an @hm (an @hf (an @hs (an @hw @hk1))))) ?_
 rfl
theorem plcL_app : ∀ {a b:List Nd},plcL (a++b)=plcL a++plcL b
 | [],b=>rfl
 | n::a,b=>by simp only[List.cons_append,plcL,plcL_app,List.append_assoc]
theorem plcL_take{i:Nat}{ks:List Nd}:(plcL (ks.take i)).length≤(plcL ks).length:=by
 conv=>rhs;rw[←List.take_append_drop i ks,plcL_app,List.length_append]
 exact Nat.le_add_right _ _
def PlJ (K:CH)(l:Nat)(ks:List Nd)(f:ByteArray→Option Int)(c k n:Nat)(v:Value)(K1:CH):Prop:=∃i:Nat,n=ks.length-i∧i≤ks.length∧v= .int .i64 (i:Nat)∧HEx l K K1∧K1.ob l= .fm (ups f c (plcL (ks.take i))) (k+(plcL (ks.take i)).length)
theorem places_wp{bc bm l c:Nat}(hcb:c≤4611686018427387904) : ∀(N:Nat) (t:Nd),htN t≤N→txD t→∀(K:CH) (A:Nat→Prop) (os:List Value) (f:ByteArray→Option Int) (k:Nat),SVRs K A (ndS t) os→(∀b,A b→b<K.nx∧b≠l)→K.ob bc= .cells [.int .i64 (c:Nat)] 3 .ex→K.ob bm= .cells [.map (some l)] 56 .ex→K.ob l= .fm f k→bc<K.nx→bm<K.nx→l<K.nx→k+(plc t).length≤4611686018427387904→WpF TRn 48 [.agg os.toArray, .func (.func 49) #[] #[pN bc,pN bm]] K fun v K'=>HEx l K K'∧K'.ob l= .fm (ups f c (plc t)) (k+(plc t).length):=by
 intro N
 induction N with
 | zero=>intro t h;cases t;simp[htN] at h
 | succ N ih=>
 rintro⟨tk,tl,x,o,ks⟩ hN hT K A os f k hs hA hc hm hf hbc hbm hl hk
 obtain⟨q,rfl,hrow⟩:=ndS_cells hs
 obtain⟨q',e,hmx,hnil,hat⟩:=row_at hrow
 cases e
 rw[maxLen_eq] at hmx
 have hbl:bc≠l:=fun e=>by rw[e,hf] at hc;cases hc
 have hml:bm≠l:=fun e=>by rw[e,hf] at hm;cases hm
 by_cases h36:tk=36
 ·subst h36
  rw[plc,if_pos rfl] at hk
  refine wpF_rS (by rfl) (by kernel_rfl) ?_;(conv in (rF _ _).body=>reduce);(conv in (rF _ _).res=>reduce)
  refine rn0 ?_
  refine(with1_wp (K:=K.new _) (l:=l) (f:=f) (k:=k) hT.1 (by rw[new_ne (by omega)];exact hc) (by rw[new_ne (by omega)];exact hm) (by rw[new_ne (by omega)];exact hf) hcb (by simp at hk;omega)).mono fun v K' e=> ?_
  subst e
  refine rn0 ?_
  rw[plc,if_pos rfl]
  exact⟨((HEx.refl K).new _).set (.inr rfl) _,rfl⟩
 ·by_cases h5:tk=52∨tk=51
  ·rcases h5 with rfl | rfl
   all_goals
    rw[plc,if_neg (by decide),if_pos (by decide)] at hk⊢
    refine wpF_rS (by rfl) (by kernel_rfl) ?_;(conv in (rF _ _).body=>reduce);(conv in (rF _ _).res=>reduce)
    refine rn0 ?_
    refine loop_w (fun n fr K1=>PlJ K l ks f c k n (fr 20) K1) (n:=ks.length) ⟨0,rfl,Nat.zero_le _,by(refine rn0 ?_;all_goals rfl),(HEx.refl K).new _,by rw[new_ne (by omega),hf];rfl⟩ ?_
    rintro n fr K1 ⟨i,rfl,hi,f20,hx,ho⟩ hag
    by_cases hil:i<ks.length
    ·obtain⟨t,ht⟩ : ∃t,ks[i]? = some t:=⟨_,List.getElem?_eq_getElem hil⟩
     obtain⟨b,cs,e,kd,hqq,hb,ob,hkd,hcl,hc5,hst⟩:=hat i t ht
     have ob1:=(hx.ob b (hA b hb).1 (hA b hb).2).trans ob
     obtain⟨k',l',x',o',wa,wn,wc,hnc⟩:=nd_cells hst
     have hnx:=hx.nx
     have htk:ks.take (i+1)=ks.take i++ [t]:=by
      obtain⟨_,e⟩:=List.getElem?_eq_some_iff.1 ht
      rw[List.take_succ_eq_append_getElem hil,e]
     have hpl:plcL (ks.take (i+1))=plcL (ks.take i)++plc t:=by rw[htk,plcL_app];simp[plcL]
     have hle:=plcL_take (i:=i+1) (ks:=ks)
     rw[hpl,List.length_append] at hle
     have hcall:=ih t (Nat.le_trans (ht_mem (List.mem_of_getElem? ht)) (by simp only[htN] at hN;omega)) (txD_mem hT.2 (List.mem_of_getElem? ht)) (K1.new (.cells [.int .i64 k', .int .i64 l', .string x', .int .i64 o', .slice wa wn wc] 26 .ex)) A _ _ _ (hst.mv fun b hb=>⟨hb,by rw[new_ne (by have:=(hA b hb).1;omega)];exact hx.ob b (hA b hb).1 (hA b hb).2⟩) (fun b hb=>⟨by have:=(hA b hb).1;show b<K1.nx+1;omega,(hA b hb).2⟩) (by rw[new_ne (by omega),hx.ob bc hbc hbl];exact hc) (by rw[new_ne (by omega),hx.ob bm hbm hml];exact hm) (by rw[new_ne (by omega)];exact ho) (by show bc<K1.nx+1;omega) (by show bm<K1.nx+1;omega) (by show l<K1.nx+1;omega) (by omega)
     rw[hnc] at hcall
     refine rn (an @hag (an @f20 (an @hqq (an @ob1 (an @hnc (an @Nat.zero_add @new_set)))))) ?_
     refine hcall.mono fun v K2 ⟨hx2,ho2⟩=> ?_
     refine rn (an @hag @f20) ?_
     exact⟨ks.length-(i+1),by omega,i+1,rfl,hil,rfl,(hx.new _).trans hx2,by rw[ho2,hpl,ups_app,List.length_append,Nat.add_assoc]⟩
    ·have hil:i=ks.length:=by omega
     subst hil
     rw[List.take_length] at ho
     refine rn (an @hag @f20) ?_
     exact⟨hx,ho⟩
  ·refine wpF_rS (by rfl) (by kernel_rfl) ?_;(conv in (rF _ _).body=>reduce);(conv in (rF _ _).res=>reduce)
   refine rn0 ?_
   rw[plc,if_neg h36,if_neg h5]
   exact⟨(HEx.refl K).new _,hf⟩
theorem ownL_app : ∀ {a b:List Nd},ownL (a++b)=ownL a++ownL b
 | [],b=>rfl
 | n::a,b=>by simp only[List.cons_append,ownL,ownL_app,List.append_assoc]
theorem ownL_take{i:Nat}{ks:List Nd}:(ownL (ks.take i)).length≤(ownL ks).length:=by
 conv=>rhs;rw[←List.take_append_drop i ks,ownL_app,List.length_append]
 exact Nat.le_add_right _ _
theorem woF_nil{f:ByteArray→Option Int}:woF f []=f:=by
 funext s
 unfold woF
 rw[if_neg]
 simp
theorem NmAt.ext{K K':CH}{l k:Nat}{f:ByteArray→Option Int}(h:NmAt K l f k)(e:K'.ob l=K.ob l):NmAt K' l f k:=by unfold NmAt;rw[e];exact h
theorem prm_nil{K:CH}{q:Option Addr}:PrmAt K q []:=fun i h=>absurd h (Nat.not_lt_zero _)
def WiJ (K:CH)(ks:List Nd)(f:ByteArray→Option Int)(c k n:Nat)(v:Value)(K1:CH):Prop:=∃i:Nat,n=ks.length-i∧i≤ks.length∧v= .int .i64 (i:Nat)∧HExt K K1∧K.nx+3≤K1.nx∧K1.ob K.nx= .cells [.int .i64 (c:Nat)] 3 .ex∧K1.ob (K.nx+2)= .cells [.map (some (K.nx+1))] 56 .ex∧K1.ob (K.nx+1)= .fm (ups f c (ownL (ks.take i))) (k+(ownL (ks.take i)).length)
theorem with_wp{K:CH}{A:Nat→Prop}{ks:List Nd}{q:Option Addr}{l k c:Nat}{f:ByteArray→Option Int}(hrow:SVR K A (.row 5 (ndsS ks)) (.slice q ks.length ks.length))(hA : ∀b,A b→b<K.nx)(hT:txDL ks)(hf:NmAt K l f k)(hl:l<K.nx)(hcb:c≤4611686018427387904)(hk:k+(ownL ks).length≤4611686018427387904) :
 WpF TRn 29 [.map (some l), .slice q ks.length ks.length, .int .i64 (c:Nat)] K fun v K'=>∃l',v= .map (some l')∧HExt K K'∧K.nx≤l'∧l'<K'.nx∧K'.ob l'= .fm (ups f c (ownL ks)) (k+(ownL ks).length):=by
 obtain⟨q',e,hmx,hnil,hat⟩:=row_at hrow
 cases e
 rw[maxLen_eq] at hmx
 refine wpF_rS (by rfl) (by kernel_rfl) ?_;(conv in (rF _ _).body=>reduce);(conv in (rF _ _).res=>reduce)
 refine rn0 ?_
 refine(without_wp (xs:= []) (hf.ext (new_ne (by omega))) rfl prm_nil).mono fun v K0 ⟨e1,e2⟩=> ?_
 subst e1 e2
 rw[woF_nil]
 refine rn0 ?_
 refine loop_w (fun n fr K1=>WiJ K ks f c k n (fr 14) K1) (n:=ks.length) ⟨0,rfl,Nat.zero_le _,by(refine rn0 ?_;all_goals rfl),by(repeat (first | assumption | exact HExt.refl _ | (refine HExt.set ?_ (by first | omega | (simp only[new_nx,set_nx];omega)) _) | (refine HExt.new ?_ _))),Nat.le_refl _,by exact rz0,by exact rz0,by refine rn0 ?_;rfl⟩ ?_
 rintro n fr K1 ⟨i,rfl,hi,f14,hx,hn3,o0,o2,o1⟩ hag
 by_cases hil:i<ks.length
 ·obtain⟨t,ht⟩ : ∃t,ks[i]? = some t:=⟨_,List.getElem?_eq_getElem hil⟩
  obtain⟨b,cs,e,kd,hqq,hb,ob,hkd,hcl,hc5,hst⟩:=hat i t ht
  have hbK:=hA b hb
  have ob1:=(hx.ob b hbK).trans ob
  obtain⟨tk,tl,tx',to,tks⟩:=t
  obtain⟨tq,hnc,_⟩:=ndS_cells hst
  have htk:ks.take (i+1)=ks.take i++ [.mk tk tl tx' to tks]:=by
   obtain⟨_,e⟩:=List.getElem?_eq_some_iff.1 ht
   rw[List.take_succ_eq_append_getElem hil,e]
  have hpl:ownL (ks.take (i+1))=ownL (ks.take i)++(if tk=58 then plc (kid0 tks) else []):=by
   rw[htk,ownL_app]
   show _++((if tk=58 then plc (kid0 tks) else [])++ [])=_
   rw[List.append_nil]
  have hle:=ownL_take (i:=i+1) (ks:=ks)
  rw[hpl,List.length_append] at hle
  have hT':=txD_mem hT (List.mem_of_getElem? ht)
  by_cases h58:tk=58
  ·subst h58
   rw[if_pos rfl] at hpl hle
   have hkid:=kid_wp (K:=K1.new (.cells [.int .i64 ((58:Nat):Int), .int .i64 tl, .string (tx tx'), .int .i64 (to:Nat), .slice tq tks.length tks.length] 26 .ex)) (A:=A) (hst.mv fun b hb=>⟨hb,by rw[new_ne (by have:=(hA b hb);have:=hx.nx;omega)];exact hx.ob b (hA b hb)⟩) (fun b hb=>by have:=hA b hb;have:=hx.nx;show b<K1.nx+1;omega)
   rw[hnc] at hkid
   refine rn (an @hag (an @f14 (an @hqq (an @ob1 (an @hnc (an @Nat.zero_add @new_set)))))) ?_
   refine hkid.mono fun v K2 ⟨os2,e2,hx2,hs2⟩=> ?_
   subst e2
   refine rn @hag ?_
   have hx3:HExt K1 K2:=((HExt.refl K1).new _).trans hx2
   have hn2:=hx3.nx
   have hpw:=places_wp (bc:=K.nx) (bm:=K.nx+2) (l:=K.nx+1) hcb (htN (kid0 tks)) (kid0 tks) (Nat.le_refl _) (txD_kid0 hT'.2) K2 A os2 _ _ (hs2.mv fun b hb=>⟨hb,hx2.ob b (by have:=hA b hb;have:=hx.nx;show b<K1.nx+1;omega)⟩) (fun b hb=>by have:=hA b hb;have:=hx.nx;omega) ((hx3.ob _ (by omega)).trans o0) ((hx3.ob _ (by omega)).trans o2) ((hx3.ob _ (by omega)).trans o1) (by omega) (by omega) (by omega) (by omega)
   refine hpw.mono fun v K3 ⟨hx4,o4⟩=> ?_
   have hn4:=hx4.nx
   refine rn (an @hag @f14) ?_
   exact⟨ks.length-(i+1),by omega,i+1,rfl,hil,rfl,⟨by omega,fun b hb=>(hx4.ob b (by omega) (by omega)).trans ((hx3.ob b (by omega)).trans (hx.ob b hb))⟩,by omega,(hx4.ob _ (by omega) (by omega)).trans ((hx3.ob _ (by omega)).trans o0),(hx4.ob _ (by omega) (by omega)).trans ((hx3.ob _ (by omega)).trans o2),by rw[o4,hpl,ups_app,List.length_append,Nat.add_assoc]⟩
  ·rw[if_neg h58,List.append_nil] at hpl
   have e58:((tk:Nat):Int)≠58:=by omega
   refine rn (an @hag (an @f14 (an @hqq (an @ob1 (an @hnc (an @Nat.zero_add @new_set)))))) ?_
   exact⟨ks.length-(i+1),by omega,i+1,rfl,hil,rfl,hx.new _,Nat.le_succ_of_le hn3,(new_ne (by omega)).trans o0,(new_ne (by omega)).trans o2,by rw[hpl];exact(new_ne (by omega)).trans o1⟩
 ·have hil:i=ks.length:=by omega
  subst hil
  rw[List.take_length] at o1
  refine rn (an @hag (an @f14 @o2)) ?_
  exact⟨_,rfl,hx,by omega,by omega,o1⟩
end Can
end Go.Proofs.YticlaccbodpkeaaGreatDoor
end
section
namespace Go.Proofs.YticlaccbodpkeaaGreatDoor
namespace Can
set_option linter.unusedSimpArgs false
set_option linter.unusedVariables false
mutual
def kdN (B:Nat):Nd→Prop
 | .mk _ _ _ _ ks=>2*ks.length≤B+16∧kdL B ks
def kdL (B:Nat):List Nd→Prop
 | []=>True
 | n::ks=>kdN B n∧kdL B ks
end
mutual
theorem kdN_mono{B B':Nat}(h:B≤B') : ∀n:Nd,kdN B n→kdN B' n
 | .mk _ _ _ _ ks,g=>⟨Nat.le_trans g.1 (by omega),kdL_mono h ks g.2⟩
theorem kdL_mono{B B':Nat}(h:B≤B') : ∀l:List Nd,kdL B l→kdL B' l
 | [],_=>trivial
 | n::l,g=>⟨kdN_mono h n g.1,kdL_mono h l g.2⟩
end
theorem kdN_up{B B':Nat}{n:Nd}(g:kdN B n)(h:B≤B'):kdN B' n:=kdN_mono h n g
theorem kdL_up{B B':Nat}{l:List Nd}(g:kdL B l)(h:B≤B'):kdL B' l:=kdL_mono h l g
theorem kdL_app{B:Nat} : ∀ {a b:List Nd},kdL B (a++b)↔kdL B a∧kdL B b
 | [],b=>by simp[kdL]
 | n::a,b=>by simp only[List.cons_append,kdL,kdL_app,and_assoc]
theorem kdL_mem{B:Nat} : ∀ {l:List Nd} {n:Nd},kdL B l→n∈l→kdN B n
 | m::l,n,h,hn=>by
   rcases List.mem_cons.1 hn with rfl | hn
   ·exact h.1
   ·exact kdL_mem h.2 hn
def KB (L:Nat):PR→Prop
 | some (.ok (l,j))=>L≤j∧kdL j l∧2*l.length≤j+6
 | _=>True
theorem KB.weak{L L':Nat}{r:PR}(h:KB L' r)(hL:L≤L'):KB L r:=by
 match r,h with
 | none,_=>exact trivial
 | some (.error e),_=>exact trivial
 | some (.ok (l,j)),h=>exact⟨Nat.le_trans hL h.1,h.2⟩
theorem kb_if{c:Prop}[Decidable c]{L:Nat}{a b:PR}(h1:KB L a)(h2:KB L b):KB L (if c then a else b):=by
 split
 ·exact h1
 ·exact h2
theorem kb_wantB{ts:List PT}{s:List UInt8}{i L:Nat}{k:Nat→PR}(h:KB L (k (i+1))):KB L (wantB ts s i k):=kb_if h trivial
theorem kb_wantK{ts:List PT}{kd:Int}{i L:Nat}{k:List UInt8→Nat→PR}(h : ∀x,KB L (k x (i+1))):KB L (wantK ts kd i k):=kb_if (h _) trivial
theorem kb_pb{L L':Nat}{r:PR}{k:List Nd→Nat→PR}(h:KB L' r)(hk : ∀l j,L'≤j→kdL j l→2*l.length≤j+6→KB L (k l j)):KB L (pb r k):=by
 match r,h with
 | none,_=>exact trivial
 | some (.error e),_=>exact trivial
 | some (.ok (l,j)),h=>exact hk l j h.1 h.2.1 h.2.2
theorem kb_pb1{L L':Nat}{r:PR}{k:Nd→Nat→PR}(h:KB L' r)(hk : ∀n j,L'≤j→kdN j n→KB L (k n j)):KB L (pb1 r k):=kb_pb h fun l j h1 h2 _=>by
 match l,h2 with
 | [],_=>exact trivial
 | _::_::_,_=>exact trivial
 | [n],h2=>exact hk n j h1 h2.1
theorem kb_er{L e:Nat}:KB L (some (.error e)):=trivial
theorem kb_ok{L j:Nat}{l:List Nd}(h1:L≤j)(h2:kdL j l)(h3:2*l.length≤j+6):KB L (some (.ok (l,j))):=⟨h1,h2,h3⟩
theorem kb_pk{L j:Nat}{n:Nd}(h1:L≤j)(h2:kdN j n):KB L (pk1 n j):=⟨h1,⟨h2,trivial⟩,by simp⟩
def NT.kd(i:Nat):NT→Prop
 | .params _ _ acc | .row _ acc | .exprsL _ acc | .clauses acc | .dictL _ acc | .placesL _ acc | .names _ _ acc | .asgL _ acc | .blockL acc | .triesL acc | .top acc=>kdL i acc∧2*acc.length≤i+4
 | .triesF _ acc=>kdL i acc∧2*acc.length≤i+6
 | .cmpL n acc=>kdN i n∧kdL i acc∧2*acc.length≤i+4
 | .orL n | .andL n | .arithL n | .termL n | .primL n | .index n=>kdN i n
 | _=>True
def KbOk (ts:List PT)(f:Nat):Prop:=∀a i,a.kd i→KB (i+a.min) (gr ts f a i)
def opK (p:Nat):Except Nat (Nat×Nat)→Prop
 | .error _=>True
 | .ok (op,j)=>op≠0→p+1≤j
theorem opK_if{c:Prop}[Decidable c]{p:Nat}{a b:Except Nat (Nat×Nat)}(h1:opK p a)(h2:opK p b):opK p (if c then a else b):=by
 split
 ·exact h1
 ·exact h2
theorem opT_k(ts:List PT)(p:Nat):opK p (opT ts p):=by
 unfold opT
 repeat' first
  | (with_reducible refine opK_if ?_ ?_)
  | exact trivial
  | exact fun _=>Nat.le_refl _
  | exact fun h=>absurd rfl h
  | exact fun _=>(show p+1≤p+2 by omega)
theorem kb_op{ts:List PT}{p L:Nat}{A:PR}{B:Nat→Nat→PR}(hA:KB L A)(hB : ∀op j,p+1≤j→KB L (B op j)):KB L (match opT ts p with | .error e=>some (.error e) | .ok (0,_)=>A | .ok (op+1,j)=>B op j):=by
 have h:=opT_k ts p
 match opT ts p,h with
 | .error e,_=>exact trivial
 | .ok (0,_),_=>exact hA
 | .ok (op+1,j),h=>exact hB op j (h (by omega))
set_option maxHeartbeats 4000000 in
theorem gr_kd{ts:List PT} : ∀f,KbOk ts f:=by
 intro f
 induction f with
 | zero=>intro a i h;exact trivial
 | succ f ih=>
 have h1 : ∀a i L,a.kd i→L≤i+a.min→KB L (gr ts f a i):=fun a i L h hL=>(ih a i h).weak hL
 have hm : ∀(all:Bool) i,KB (i+1) (gr ts f (if all=true then .exprs else .expr) i):=fun all i=>by
  cases all
  ·exact ih .expr i trivial
  ·exact ih .exprs i trivial
 intro a i ha
 cases a
 case asgL l acc=>
  obtain⟨ha1,ha2⟩:=ha
  simp only[gr]
  refine kb_if ?_ (kb_pk (Nat.le_refl _) ⟨by omega,ha1⟩)
  cases hq:acc.getLast? with
  | none=>exact trivial
  | some n=>exact kb_if (kb_pb1 (ih .value (i+1) trivial) fun v j hj hv=>h1 _ _ _ ⟨kdL_app.2 ⟨kdL_mono (by have hj:i+1+1≤j:=hj;omega) _ ha1,hv,trivial⟩,by have hj:i+1+1≤j:=hj;simp only[List.length_append,List.length_cons,List.length_nil];omega⟩ (by have hj:i+1+1≤j:=hj;show i+0≤j+0;omega)) trivial
 case cmpL n acc=>
  obtain⟨hn,ha1,ha2⟩:=ha
  simp only[gr]
  refine kb_op (kb_pk (Nat.le_refl _) ?_) fun op j hj=>kb_pb1 (ih .arith j trivial) fun m k hk hm=>h1 _ _ _ ⟨kdN_up hn (by have hk:j+1≤k:=hk;omega),kdL_app.2 ⟨kdL_up ha1 (by have hk:j+1≤k:=hk;omega),⟨by simp,hm,trivial⟩,trivial⟩,by have hk:j+1≤k:=hk;simp only[List.length_append,List.length_cons,List.length_nil];omega⟩ (by have hk:j+1≤k:=hk;show i+0≤k+0;omega)
  split
  ·exact hn
  ·exact⟨by simp only[List.length_cons];omega,hn,ha1⟩
 all_goals simp only[NT.kd] at ha
 all_goals simp only[gr,NT.min]
 all_goals (repeat' first
  | exact kb_er
  | (simp only[NT.min] at hj)
  | (with_reducible refine kb_if ?_ ?_)
  | (with_reducible refine kb_op ?_ fun op j hj=> ?_)
  | (with_reducible refine kb_wantB ?_)
  | (with_reducible refine kb_wantK fun x=> ?_)
  | (with_reducible refine kb_pb1 (hm _ _) fun n j hj hn=> ?_)
  | (with_reducible refine kb_pb1 (h1 _ _ _ ?_ (Nat.le_refl _)) fun n j hj hn=> ?_)
  | (with_reducible refine kb_pb (h1 _ _ _ ?_ (Nat.le_refl _)) fun l j hj hn hl=> ?_)
  | (with_reducible refine kb_pk ?_ ?_)
  | (with_reducible refine kb_ok ?_ ?_ ?_)
  | (with_reducible refine h1 _ _ _ ?_ ?_)
  | (with_reducible assumption)
  | exact True.intro
  | omega
  | (obtain⟨ha1,ha2⟩:=ha)
  | (obtain⟨ha3,ha4⟩:=ha2)
  | (simp only[NT.min,NT.kd,kdL,kdN,kdL_app,List.length_append,List.length_cons,List.length_nil,and_true,true_and])
  | (refine⟨?_,?_⟩)
  | exact kdN_up (by with_reducible assumption) (by omega)
  | exact kdL_up (by with_reducible assumption) (by omega))
end Can
end Go.Proofs.YticlaccbodpkeaaGreatDoor
end
section
namespace Go.Proofs.YticlaccbodpkeaaGreatDoor
namespace Can
open Go Go.RowKit
set_option linter.unusedSimpArgs false
set_option linter.unusedVariables false
set_option maxRecDepth 4000
structure N5 where
 k:Int
 l:Int
 x:ByteArray
 o:Int
 a:Option Addr
 n:Nat
 c:Nat
def n5V (c:N5):List Value:= [.int .i64 c.k, .int .i64 c.l, .string c.x, .int .i64 c.o, .slice c.a c.n c.c]
theorem n5V_ok : ∀x:N5,(n5V x).length=5∧(n5V x).all isCell=true:=fun x=>⟨rfl,rfl⟩
theorem nd_n5{K:CH}{A:Nat→Prop}{t:Nd}{os:List Value}(h:SVRs K A (ndS t) os) : ∃c,os=n5V c:=by
 obtain⟨k,l,x,o,wa,wn,wc,rfl⟩:=nd_cells h
 exact⟨⟨k,l,x,o,wa,wn,wc⟩,rfl⟩
theorem optW_one{α:Type}{A K:CH}{e sz bytes:Nat}{f:α→List Value}(hf : ∀x,(f x).length=sz∧(f x).all isCell=true){v:Value}{xs:List α}{y:α}(hg:Grw A e sz f K v xs)(hb:(xs.length+1)*bytes≤140737488355328)(hm:xs.length+1≤9223372036854775807){us:List Value}(hu:us=f y)
 {Q:Value→CH→Prop} (k : ∀K',K'.ob K.nx= .cells ((xs++ [y]).flatMap f) e .gr→K'.nx=K.nx+1→(∀l,l<K.nx→(∀o n c,v≠ .slice (some ⟨l,o,none⟩) n c)→K'.ob l=K.ob l)→Q (.slice (some ⟨K.nx,0,none⟩) (xs.length+1) (xs.length+1)) K'):optW (appV e sz bytes v us 1 K) Q:=by
 subst hu
 have hall:=(hf y).2
 rcases hg with ⟨rfl,rfl⟩ | ⟨b,kd,rfl,h1,h2,h3,hkd⟩
 ·simp only[appV,Nat.one_ne_zero,if_false]
  rw[if_pos ⟨hall,by simpa using hb,by rw[maxLen_eq];omega⟩]
  exact k _ (by simp[new_get]) rfl fun l hl _=>by rw[new_get,if_neg (by omega)]
 ·have hlen:(xs.flatMap f).length=xs.length*sz:=flat_len (fun x=>(hf x).1) xs
  have hnx : ∀o,(appH (kd.isEx&&decide (xs.length<xs.length+1)) K b o).nx=K.nx+1:=fun o=>by unfold appH;split<;>rfl
  have hat : ∀o,(appH (kd.isEx&&decide (xs.length<xs.length+1)) K b o).ob K.nx=o:=fun o=>by
   unfold appH;split<;>(simp only[CH.new,CH.set];simp)
  have hot : ∀o l,l<K.nx→l≠b→(appH (kd.isEx&&decide (xs.length<xs.length+1)) K b o).ob l=K.ob l:=fun o l hl hb=>by
   unfold appH
   split
   ·rw[new_get,if_neg (by omega)]
   ·rw[new_get,if_neg (by show l≠K.nx;omega),set_get,if_neg hb]
  simp only[appV,h3,Nat.one_ne_zero,if_false]
  rw[if_pos ⟨trivial,trivial,hkd,by rw[hlen];exact Nat.le_refl _,hall,hb,by rw[maxLen_eq];exact hm⟩]
  refine k _ ?_ (hnx _) fun l hl hne=>hot _ l hl ?_
  ·rw[hat,←hlen,List.take_length,List.flatMap_append]
   simp
  ·rintro rfl
   exact hne _ _ _ rfl
abbrev offB(v:Value)(b:Nat):Prop:=∀o n c,v≠ .slice (some ⟨b,o,none⟩) n c
def L1 (N:Nat):Prop:=∀(n:Nd) (ρ:Bs→Nat) (c:Nat),SizeOf.sizeOf n<N→c≤(renP itT ρ c n).2∧(renP itT ρ c n).2≤c+szN n
def L2 (N:Nat):Prop:=∀(ks:List Nd) (ρ:Bs→Nat) (c:Nat),SizeOf.sizeOf ks<N→c≤(renL itT ρ c ks).2∧(renL itT ρ c ks).2≤c+szL ks
def L3 (N:Nat):Prop:=∀(ks:List Nd) (ρ ρ0:Bs→Nat) (f:Bool) (c:Nat),SizeOf.sizeOf ks<N→c≤(renC itT ρ ρ0 f c ks).2∧(renC itT ρ ρ0 f c ks).2≤c+szL ks
theorem renC_cons(it:Nat→Bs)(ρ ρ0:Bs→Nat)(f:Bool)(c:Nat)(n:Nd)(ns:List Nd):(∃k l x o p e,n= .mk k l x o [p,e]∧k=58∧f=true∧renC it ρ ρ0 f c (n::ns)=(.mk k l x o [(renP it ρ c p).1,(renP it ρ0 (renP it ρ c p).2 e).1]::(renC it ρ ρ0 false (renP it ρ0 (renP it ρ c p).2 e).2 ns).1,(renC it ρ ρ0 false (renP it ρ0 (renP it ρ c p).2 e).2 ns).2))∨(¬(n.kind=58∧f=true∧n.kids.length=2)∧renC it ρ ρ0 f c (n::ns)=((renP it ρ c n).1::(renC it ρ ρ0 f (renP it ρ c n).2 ns).1,(renC it ρ ρ0 f (renP it ρ c n).2 ns).2)):=by
 by_cases h2 : ∃a b,n.kids= [a,b]
 ·obtain⟨k,l,x,o,ks⟩:=n
  obtain⟨a,b,rfl⟩:=h2
  by_cases hk:k=58∧f=true
  ·refine .inl ⟨k,l,x,o,a,b,rfl,hk.1,hk.2,?_⟩
   rw[renC,if_pos hk]
  ·refine .inr ⟨fun h=>hk ⟨h.1,h.2.1⟩,?_⟩
   rw[renC,if_neg hk]
 ·refine .inr ⟨fun h=>h2 ?_,?_⟩
  ·match hn:n.kids,h.2.2 with
   | [a,b],_=>exact⟨a,b,rfl⟩
  ·rw[renC]
   exact fun k l x o p e h=>h2 ⟨p,e,by rw[h];rfl⟩
theorem ren_le(N:Nat):L1 N∧L2 N∧L3 N:=by
 induction N with
 | zero=>exact⟨fun _ _ _ h=>absurd h (Nat.not_lt_zero _),fun _ _ _ h=>absurd h (Nat.not_lt_zero _),fun _ _ _ _ _ h=>absurd h (Nat.not_lt_zero _)⟩
 | succ N ih=>
   obtain⟨i1,i2,i3⟩:=ih
   refine⟨fun n ρ c h=> ?_,fun ks ρ c h=> ?_,fun ks ρ ρ0 f c h=> ?_⟩
   ·obtain⟨k,l,x,o,ks⟩:=n
    have hs:SizeOf.sizeOf ks<N:=by simp at h;omega
    rw[renP,szN]
    split
    ·have:=i3 ks (wi ρ (ownL ks) (c+1)) ρ true (c+1) hs
     exact⟨by show c≤(renC itT _ _ _ _ _).2;omega,by show(renC itT _ _ _ _ _).2≤_;omega⟩
    ·have:=i2 ks (if k=8∨k=50 then wo ρ (kid0 ks).kids else ρ) c hs
     exact⟨by show c≤(renL itT _ _ _).2;omega,by show(renL itT _ _ _).2≤_;omega⟩
   ·cases ks with
    | nil=>exact⟨Nat.le_refl _,Nat.le_refl _⟩
    | cons n ks=>
      simp at h
      have h1:=i1 n ρ c (by omega)
      have h2:=i2 ks ρ (renP itT ρ c n).2 (by omega)
      rw[renL,szL]
      exact⟨by show c≤(renL itT _ _ _).2;omega,by show(renL itT _ _ _).2≤_;omega⟩
   ·cases ks with
    | nil=>exact⟨by simp[renC],by simp[renC,szL]⟩
    | cons n ks=>
      rcases renC_cons itT ρ ρ0 f c n ks with ⟨k,l,x,o,p,e,rfl,_,_,e1⟩ | ⟨_,e1⟩
      ·simp at h
       have h1:=i1 p ρ c (by omega)
       have h2:=i1 e ρ0 (renP itT ρ c p).2 (by omega)
       have h3:=i3 ks ρ ρ0 false (renP itT ρ0 (renP itT ρ c p).2 e).2 (by omega)
       rw[e1]
       simp only[szL,szN]
       exact⟨by show c≤(renC itT _ _ _ _ _).2;omega,by show(renC itT _ _ _ _ _).2≤_;omega⟩
      ·simp at h
       have h1:=i1 n ρ c (by omega)
       have h2:=i3 ks ρ ρ0 f (renP itT ρ c n).2 (by omega)
       rw[e1]
       simp only[szL]
       exact⟨by show c≤(renC itT _ _ _ _ _).2;omega,by show(renC itT _ _ _ _ _).2≤_;omega⟩
theorem renP_le(n:Nd)(ρ:Bs→Nat)(c:Nat):c≤(renP itT ρ c n).2∧(renP itT ρ c n).2≤c+szN n:=(ren_le (SizeOf.sizeOf n+1)).1 n ρ c (Nat.lt_succ_self _)
def AccAt(K0 K1:CH)(v:Value)(ns:List Nd):Prop:=∃acc:List N5,acc.length=ns.length∧(ns= []→v= .slice none 0 0)∧Grw K0 26 5 n5V K1 v acc∧SVRs K1 (fun b=>K0.nx≤b∧b<K1.nx∧offB v b) (ndsS ns).flatten (acc.flatMap n5V)
theorem AccAt.nil{K0 K1:CH}:AccAt K0 K1 (.slice none 0 0) []:=⟨[],rfl,fun _=>rfl, .inl ⟨rfl,rfl⟩, .nil⟩
theorem AccAt.blk{K0 K1:CH}{v:Value}{ns:List Nd}(h:AccAt K0 K1 v ns){b o n c:Nat}(e:v= .slice (some ⟨b,o,none⟩) n c):K0.nx≤b∧b<K1.nx:=by
 obtain⟨acc,_,_,hG,_⟩:=h
 rcases hG with ⟨_,g⟩ | ⟨b',kd',g,g1,g2,_⟩
 ·rw[g] at e;cases e
 ·rw[g] at e;cases e;exact⟨g1,g2⟩
theorem AccAt.mv{K0 K1 K2:CH}{v:Value}{ns:List Nd}(h:AccAt K0 K1 v ns)(hn:K1.nx≤K2.nx)(hx : ∀b,K0.nx≤b→b<K1.nx→K2.ob b=K1.ob b):AccAt K0 K2 v ns:=by
 obtain⟨acc,h1,h2,hG,hS⟩:=h
 refine⟨acc,h1,h2,?_,hS.mv fun b hb=>⟨⟨hb.1,by omega,hb.2.2⟩,hx b hb.1 hb.2.1⟩⟩
 rcases hG with g | ⟨b',kd',g,g1,g2,g3,g4⟩
 ·exact .inl g
 ·exact .inr ⟨b',kd',g,g1,by omega,(hx b' g1 g2).trans g3,g4⟩
theorem AccAt.ex{K0 K1 K2:CH}{v:Value}{ns:List Nd}(h:AccAt K0 K1 v ns){bc:Nat}(hx:HEx bc K1 K2)(hb:bc<K0.nx):AccAt K0 K2 v ns:=h.mv hx.nx fun b h1 h2=>hx.ob b h2 (by omega)
theorem AccAt.app{K0 K1:CH}{v:Value}{ns:List Nd}{n:Nd}{nd:N5}(h:AccAt K0 K1 v ns)(h0:K0.nx≤K1.nx)(hs:SVRs K1 (fun b=>K0.nx≤b∧b<K1.nx∧offB v b) (ndS n) (n5V nd))(hl:ns.length≤2199023255551){Q:Value→CH→Prop}(k : ∀v' K',K1.nx≤K'.nx→(∀l,l<K0.nx→K'.ob l=K1.ob l)→AccAt K0 K' v' (ns++ [n])→Q v' K'):optW (appV 26 5 64 v (n5V nd) 1 K1) Q:=by
 have hvb:= @AccAt.blk _ _ _ _ h
 obtain⟨acc,h1,h2,hG,hS⟩:=h
 refine optW_one (y:=nd) n5V_ok hG (by omega) (by omega) rfl fun K' k1 k2 k3=>k _ _ (by omega) (fun l hl=>k3 l (by omega) fun o n c e=>by have:=(hvb e).1;omega) ⟨acc++ [nd],by simp[h1],fun e=>by simp at e, .inr ⟨K1.nx, .gr,by simp,h0,by omega,k1,rfl⟩,?_⟩
 rw[ndsS_app,List.flatten_append,List.flatMap_append]
 refine SVRs.app (hS.mv fun b ⟨g1,g2,g3⟩=>⟨⟨g1,by omega,fun o n c e=>by cases e;omega⟩,k3 b g2 g3⟩) ?_
 have e1:(ndsS [n]).flatten=ndS n:=by simp[ndsS]
 have e2 : [nd].flatMap n5V=n5V nd:=by simp
 rw[e1,e2]
 exact hs.mv fun b ⟨g1,g2,g3⟩=>⟨⟨g1,by omega,fun o n c e=>by cases e;omega⟩,k3 b g2 g3⟩
theorem AccAt.done{K0 K1:CH}{v:Value}{ns:List Nd}(h:AccAt K0 K1 v ns)(hl:ns.length≤2199023255552) : ∃va,v= .slice va ns.length ns.length∧SVR K1 (fun b=>K0.nx≤b∧b<K1.nx) (.row 5 (ndsS ns)) v:=by
 obtain⟨acc,h1,h2,hG,hS⟩:=h
 by_cases hn:ns= []
 ·subst hn
  rw[h2 rfl]
  exact⟨none,rfl, .row0⟩
 ·rcases hG with ⟨e,rfl⟩ | ⟨b,kd,rfl,g1,g2,g3,g4⟩
  ·rw[e] at h1;exact absurd (List.length_eq_zero_iff.1 h1.symm) hn
  ·refine⟨_,by rw[h1],?_⟩
   have e:=SVR.row (A:=fun b=>K0.nx≤b∧b<K1.nx) (sz:=5) (gs:=ndsS ns) ⟨fun e=>hn (List.length_eq_zero_iff.1 (by rw[←ndsS_len (a:=ns),e];rfl)),by rw[ndsS_len,maxLen_eq];omega⟩ ⟨g1,g2⟩ g3 g4 ndsS_all (hS.mv fun b hb=>⟨⟨hb.1,hb.2.1⟩,rfl⟩) (fun _=>by rfl)
   rw[ndsS_len] at e
   rw[h1]
   exact e
structure WK(K:CH)(bc bw be c:Nat):Prop where
 c:K.ob bc= .cells [.int .i64 (c:Nat)] 3 .ex
 w : ∃e,K.ob bw= .cells [.func (.func 25) #[] #[pN bc,pN bw,pN be]] e .ex
 e : ∃e,K.ob be= .cells [.func (.func 24) #[] #[pN bw]] e .ex
 lt:bc<K.nx∧bw<K.nx∧be<K.nx
 pw:PowAt K
theorem WK.ex{K K':CH}{bc bw be c c':Nat}(h:WK K bc bw be c)(hx:HEx bc K K')(hc:K'.ob bc= .cells [.int .i64 (c':Nat)] 3 .ex):WK K' bc bw be c':=by
 obtain⟨e1,h1⟩:=h.w
 obtain⟨e2,h2⟩:=h.e
 obtain⟨p0,e3,h3⟩:=h.pw
 obtain⟨l1,l2,l3⟩:=h.lt
 have hn:=hx.nx
 have n1:bw≠bc:=fun e=>by rw[e,h.c] at h1;cases h1
 have n2:be≠bc:=fun e=>by rw[e,h.c] at h2;cases h2
 have n3:0≠bc:=fun e=>by rw[e,h.c] at h3;cases h3
 exact⟨hc,⟨e1,(hx.ob _ l2 n1).trans h1⟩,⟨e2,(hx.ob _ l3 n2).trans h2⟩,⟨by omega,by omega,by omega⟩,by omega,e3,(hx.ob _ p0 n3).trans h3⟩
theorem WK.hx{K K':CH}{bc bw be c:Nat}(h:WK K bc bw be c)(hx:HExt K K'):WK K' bc bw be c:=h.ex hx.ex ((hx.ob _ h.lt.1).trans h.c)
theorem NmAt.ex{K K':CH}{l k bc:Nat}{f:ByteArray→Option Int}(h:NmAt K l f k)(hl:l<K.nx)(hx:HEx bc K K')(hb : ∃cs e kd,K.ob bc= .cells cs e kd):NmAt K' l f k:=h.ext (hx.ob l hl fun e=>by
 obtain⟨cs,e',kd,hb⟩:=hb
 subst e
 rcases h with h | ⟨h,_⟩<;>(rw[hb] at h;cases h))
def RnQ (K:CH)(bc:Nat)(r:Nd×Nat)(v:Value)(K':CH):Prop:=HEx bc K K'∧K'.ob bc= .cells [.int .i64 (r.2:Nat)] 3 .ex∧∃os,v= .agg os.toArray∧SVRs K' (fun b=>K.nx≤b∧b<K'.nx) (ndS r.1) os
def WalkOk(S B bc bw be N:Nat):Prop:=∀(t:Nd),htN t≤N→szN t≤S→kdN B t→txD t→∀(K:CH) (A:Nat→Prop) (os:List Value) (ρ:Bs→Nat) (f:ByteArray→Option Int) (k l c:Nat),SVRs K A (ndS t) os→(∀b,A b→b<K.nx∧b≠bc)→WK K bc bw be c→NmAt K l f k→l<K.nx→RF ρ f→(∀y,ρ y≤c)→c+szN t≤2305843009213693952→k+N*S≤2305843009213693952→WpF TRn 25 [.agg os.toArray, .map (some l),pN bc,pN bw,pN be] K (RnQ K bc (renP itT ρ c t))
def EaQ (K:CH)(bc:Nat)(r:List Nd×Nat)(v:Value)(K':CH):Prop:=HEx bc K K'∧K'.ob bc= .cells [.int .i64 (r.2:Nat)] 3 .ex∧SVR K' (fun b=>K.nx≤b∧b<K'.nx) (.row 5 (ndsS r.1)) v
def EaJ (K0:CH)(bc bw be:Nat)(ρ:Bs→Nat)(c0:Nat)(ks:List Nd)(n:Nat)(v6 v11:Value)(K1:CH):Prop:=∃(i c:Nat) (ns:List Nd),n=ks.length-i∧i≤ks.length∧v11= .int .i64 (i:Nat)∧HEx bc K0 K1∧WK K1 bc bw be c∧c0≤c∧c+szL (ks.drop i)≤2305843009213693952∧ns.length=i∧AccAt K0 K1 v6 ns∧renL itT ρ c0 ks=(ns++(renL itT ρ c (ks.drop i)).1,(renL itT ρ c (ks.drop i)).2)
theorem each_wp{S B bc bw be N:Nat}(ih:WalkOk S B bc bw be N)(hB:B+16≤4398046511104){ks:List Nd}(hh:htL ks≤N)(hz:szL ks≤S)(hk1:2*ks.length≤B+16)(hk2:kdL B ks)(hT:txDL ks){K:CH}{A:Nat→Prop}{q:Option Addr}{ρ:Bs→Nat}{f:ByteArray→Option Int}{k l c:Nat}(hrow:SVR K A (.row 5 (ndsS ks)) (.slice q ks.length ks.length))(hA : ∀b,A b→b<K.nx∧b≠bc)(hw:WK K bc bw be c)(hf:NmAt K l f k)(hl:l<K.nx)(hr:RF ρ f)(hρ : ∀y,ρ y≤c)(hc:c+szL ks≤2305843009213693952)(hk:k+N*S≤2305843009213693952) :
 WpF TRn 24 [.slice q ks.length ks.length, .map (some l),pN bw] K (EaQ K bc (renL itT ρ c ks)):=by
 obtain⟨q',e,hmx,hnil,hat⟩:=row_at hrow
 cases e
 rw[maxLen_eq] at hmx
 refine wpF_rS (by rfl) (by kernel_rfl) ?_;(conv in (rF _ _).body=>reduce);(conv in (rF _ _).res=>reduce)
 refine rn0 ?_
 refine loop_w (fun n fr K1=>EaJ K bc bw be ρ c ks n (fr 6) (fr 11) K1) (n:=ks.length) ⟨0,c,[],rfl,Nat.zero_le _,by(refine rn0 ?_;all_goals rfl),HEx.refl K,hw,Nat.le_refl _,hc,rfl,by(refine rn0 ?_;exact AccAt.nil),rfl⟩ ?_
 rintro n fr K1 ⟨i,c1,ns,rfl,hi,f11,hx,hw1,hc1,hs1,hns,hacc,hren⟩ hag
 have hnx:=hx.nx
 obtain⟨lc,lw,le⟩:=hw.lt
 by_cases hil:i<ks.length
 ·obtain⟨t,ht⟩ : ∃t,ks[i]? = some t:=⟨_,List.getElem?_eq_getElem hil⟩
  obtain⟨b,cs,e,kd,hqq,hb,ob,hkd,hcl,hc5,hst⟩:=hat i t ht
  have ob1:=(hx.ob b (hA b hb).1 (hA b hb).2).trans ob
  obtain⟨k',l',x',o',wa,wn,wc,hnc⟩:=nd_cells hst
  have hmem:=List.mem_of_getElem? ht
  have hdr:ks.drop i=t::ks.drop (i+1):=by
   obtain⟨_,e⟩:=List.getElem?_eq_some_iff.1 ht
   rw[List.drop_eq_getElem_cons hil,e]
  obtain⟨ew,how⟩:=hw1.w
  have hsz:szN t+szL (ks.drop (i+1))=szL (ks.drop i):=by rw[hdr];rfl
  have hszt:szN t≤szL ks:=by
   have e:szL ks=szL (ks.take i)+szL (ks.drop i):=by rw[←szL_app,List.take_append_drop]
   omega
  have hx0:HExt K1 (K1.new (.cells [.int .i64 k', .int .i64 l', .string x', .int .i64 o', .slice wa wn wc] 26 .ex)):=(HExt.refl K1).new _
  have hcall:=ih t (Nat.le_trans (ht_mem hmem) hh) (by omega) (kdL_mem hk2 hmem) (txD_mem hT hmem) (K1.new (.cells [.int .i64 k', .int .i64 l', .string x', .int .i64 o', .slice wa wn wc] 26 .ex)) A _ ρ f k l c1 (hst.mv fun b hb=>⟨hb,(hx0.ob _ (by have:=(hA b hb).1;omega)).trans (hx.ob b (hA b hb).1 (hA b hb).2)⟩) (fun b hb=>⟨by have:=(hA b hb).1;show b<K1.nx+1;omega,(hA b hb).2⟩) (hw1.hx hx0) ((hf.ex hl hx ⟨_,_,_,hw.c⟩).ext (hx0.ob _ (by omega))) (by show l<K1.nx+1;omega) hr (fun y=>Nat.le_trans (hρ y) hc1) (by omega) hk
  rw[hnc] at hcall
  refine rn (an @hag (an @f11 (an @hqq (an @ob1 (an @hnc (an @how (an @Nat.zero_add @new_set))))))) ?_
  refine hcall.mono fun v K2 ⟨hx2,o2,os2,e2,hs2⟩=> ?_
  subst e2
  obtain⟨nd,rfl⟩:=nd_n5 hs2
  repeat' (first | (simp (disch:=first | omega | (decide +kernel)) only[↓RD,RU,↓putF_get,↓evF_t,new_get,aop,akV,isVal,Value.cells,ρ0,ρ1,ρ4,↓reduceIte,Nat.reduceEqDiff,Nat.reduceAdd,reduceCtorEq,ρ7,ρ8,srcR_c,ρ15,ρ16,ρ18,ρ19,ρ20,ρ25,ρ26,bldV,Nat.reduceLeDiff,appS_some,n5V,Nat.zero_mul,zeros]) | (with_reducible first | refine condK_dec (fun _=> ?_) fun _=> ?_ | refine grd_dec (fun _=> ?_) fun _=> ?_ | refine egrd_dec (fun _=> ?_) fun _=> ?_))
  have hn2:K1.nx+1≤K2.nx:=hx2.nx
  have hx3:HEx bc K1 K2:=hx0.ex.trans hx2
  have hx4:HExt K2 (K2.new (.cells (n5V nd) 26 .ex)):=(HExt.refl K2).new _
  have hx5:HEx bc K1 (K2.new (.cells (n5V nd) 26 .ex)):=hx3.trans hx4.ex
  refine AccAt.app (n:=(renP itT ρ c1 t).1) (hacc.ex hx5 lc) (by show K.nx≤K2.nx+1;omega) (hs2.mv fun b hb=>⟨⟨by have:=hb.1;have:K1.nx+1≤b:=this;omega,Nat.lt_succ_of_lt hb.2,fun o n c e=>by have:=(hacc.blk e).2;have:K1.nx+1≤b:=hb.1;omega⟩,hx4.ob b hb.2⟩) (by omega) fun v' K3 k1 k2 k3=> ?_
  refine rn (an @hag @f11) ?_
  have hx6:HEx bc K K3:=⟨Nat.le_trans (by show K.nx≤K2.nx+1;omega) k1,fun b hb hbc=>(k2 b hb).trans ((hx5.ob b (by omega) hbc).trans (hx.ob b hb hbc))⟩
  refine⟨ks.length-(i+1),by omega,i+1,(renP itT ρ c1 t).2,ns++ [(renP itT ρ c1 t).1],rfl,hil,rfl,hx6,hw.ex hx6 ((k2 bc lc).trans ((hx4.ob bc (by omega)).trans o2)),?_,?_,by simp[hns],k3,?_⟩
  ·exact Nat.le_trans hc1 (renP_le _ _ _).1
  ·have:=(renP_le t ρ c1).2
   omega
  ·rw[hren,hdr,renL]
   simp
 ·have hil:i=ks.length:=by omega
  subst hil
  rw[List.drop_length] at hren
  refine rn (an @hag @f11) ?_
  obtain⟨va,ev,hv⟩:=hacc.done (by omega)
  have e1:renL itT ρ c ks=(ns,c1):=by rw[hren];simp[renL]
  rw[e1]
  exact⟨hx,hw1.c,hv⟩
end Can
end Go.Proofs.YticlaccbodpkeaaGreatDoor
end
section
namespace Go.Proofs.YticlaccbodpkeaaGreatDoor
namespace Can
open Go Go.RowKit
set_option linter.unusedSimpArgs false
set_option linter.unusedVariables false
set_option maxRecDepth 4000
noncomputable def coL:RCode:=match (rF Tryz.prog 25).body with
 | .seq _ (.seq (.seq _ (.block _ (.seq _ (.cond _ _ (.seq _ (.cond _ _ (.seq _ (.cond _ (.seq _ (.seq _ (.seq _ (.seq _ (.seq _ (.seq (.seq _ (.block _ L)) _)))))) _)))))))) _)=>L
 | _=> .skip
def CoJ (K0:CH)(bc bw be:Nat)(σ ρ:Bs→Nat)(c0:Nat)(ks:List Nd)(n:Nat)(v10 v11 v55:Value)(K1:CH):Prop:=∃(i c:Nat) (first:Bool) (ns:List Nd),n=ks.length-i∧i≤ks.length∧v10= .bool first∧v55= .int .i64 (i:Nat)∧HEx bc K0 K1∧WK K1 bc bw be c∧c0≤c∧c+szL (ks.drop i)≤2305843009213693952∧ns.length=i∧AccAt K0 K1 v11 ns∧renC itT σ ρ true c0 ks=(ns++(renC itT σ ρ first c (ks.drop i)).1,(renC itT σ ρ first c (ks.drop i)).2)
theorem new_at{K:CH}{o:CObj}:(K.new o).ob K.nx=o:=by rw[new_get,if_pos rfl]
theorem zn1:List.drop 5 (zeros [.int .i64 0, .int .i64 0, .string ⟨⟨[]⟩⟩, .int .i64 0, .slice none 0 0] 5)= []:=rfl
theorem zn2:List.drop 5 (List.drop 5 (zeros [.int .i64 0, .int .i64 0, .string ⟨⟨[]⟩⟩, .int .i64 0, .slice none 0 0] (2*5)))= []:=rfl
theorem pair_acc{K K3 K4 K5 Kf:CH}{bc:Nat}{v:Value}{ns:List Nd}{n4 n5:N5}{a b:Nd}{k2 o2:Nat}{l2:Int}{x2:Bs}{oB oP o1 o2':CObj}(hacc:AccAt K K3 v ns)(hlc:bc<K.nx)(hnx:K.nx≤K3.nx)(hx4:HEx bc (K3.new oB) K4)(hx5:HEx bc (K4.new oP) K5)(hs4:SVRs K4 (fun b=>(K3.new oB).nx≤b∧b<K4.nx) (ndS a) (n5V n4))(hs5:SVRs K5 (fun b=>(K4.new oP).nx≤b∧b<K5.nx) (ndS b) (n5V n5))
 (e:Kf=((K5.new (.cells (n5V n4++n5V n5) 26 .ex)).set K3.nx o1).new o2'):AccAt K Kf v ns∧SVRs Kf (fun b=>K.nx≤b∧b<Kf.nx∧offB v b) (ndS (.mk k2 l2 x2 o2 [a,b])) (n5V ⟨(k2:Nat),l2,tx x2,(o2:Nat),some ⟨K5.nx,0,none⟩,2,2⟩)∧HEx bc K3 Kf∧Kf.nx=K5.nx+2∧Kf.ob bc=K5.ob bc:=by
 have n4':K3.nx+1≤K4.nx:=hx4.nx
 have n5':K4.nx+1≤K5.nx:=hx5.nx
 have hKf : ∀b,b<K5.nx→b≠K3.nx→Kf.ob b=K5.ob b:=fun b h1 h2=>by
  rw[e,new_ne (by show b≠K5.nx+1;omega),set_ne' h2,new_ne (by omega)]
 have hK5 : ∀b,b<K4.nx→b≠bc→K5.ob b=K4.ob b:=fun b h1 h2=>(hx5.ob b (by show b<K4.nx+1;omega) h2).trans (new_ne (by omega))
 have hK4 : ∀b,b<K3.nx→b≠bc→K4.ob b=K3.ob b:=fun b h1 h2=>(hx4.ob b (by show b<K3.nx+1;omega) h2).trans (new_ne (by omega))
 have hnf:Kf.nx=K5.nx+2:=by rw[e];rfl
 have hKr:Kf.ob K5.nx= .cells (n5V n4++n5V n5) 26 .ex:=by
  rw[e,new_ne (by show K5.nx≠K5.nx+1;omega),set_ne' (by omega),new_at]
 have hvb:= @AccAt.blk _ _ _ _ hacc
 have off : ∀b,K3.nx≤b→offB v b:=fun b hb o n c e=>by have:=(hvb e).2;omega
 have hx:HEx bc K3 Kf:=⟨by omega,fun b h1 h2=>(hKf b (by omega) (by omega)).trans ((hK5 b (by omega) h2).trans (hK4 b h1 h2))⟩
 refine⟨hacc.ex hx hlc, .cons (.sc rfl) (.cons (.sc rfl) (.cons (.sc rfl) (.cons (.sc rfl) (.cons (SVR.row (sz:=5) (gs:=ndsS [a,b]) ⟨fun h=>(by simp[ndsS] at h),by rw[ndsS_len,maxLen_eq];show 2≤_;omega⟩ ⟨by omega,by omega,off _ (by omega)⟩ hKr rfl ndsS_all ?_ (fun _=>by rfl)) .nil)))),hx,hnf,hKf bc (by omega) (by omega)⟩
 rw[show(ndsS [a,b]).flatten=ndS a++ndS b by simp[ndsS]]
 exact SVRs.app (hs4.mv fun b ⟨h1,h2⟩=>⟨⟨by have:K3.nx+1≤b:=h1;omega,by omega,off b (by have:K3.nx+1≤b:=h1;omega)⟩,(hKf b (by omega) (by have:K3.nx+1≤b:=h1;omega)).trans (hK5 b h2 (by have:K3.nx+1≤b:=h1;omega))⟩) (hs5.mv fun b ⟨h1,h2⟩=>⟨⟨by have:K4.nx+1≤b:=h1;omega,by omega,off b (by have:K4.nx+1≤b:=h1;omega)⟩,hKf b h2 (by have:K4.nx+1≤b:=h1;omega)⟩)
set_option maxHeartbeats 2000000 in
theorem comp_loop{S B bc bw be N:Nat}(hB:B+16≤4398046511104)(ih:WalkOk S B bc bw be N){ks:List Nd}(hh:htL ks≤N)(hz:szL ks≤S)(hk1:2*ks.length≤B+16)(hk2:kdL B ks)(hT:txDL ks){K:CH}{A:Nat→Prop}{q:Option Addr}{ρ σ:Bs→Nat}{f f1:ByteArray→Option Int}{k k1 l l1 c:Nat}(hrow:SVR K A (.row 5 (ndsS ks)) (.slice q ks.length ks.length))(hA : ∀b,A b→b<K.nx∧b≠bc)(hw:WK K bc bw be c)
 (hf:NmAt K l f k) (hl:l<K.nx) (hr:RF ρ f) (hρ : ∀y,ρ y≤c) (hf1:NmAt K l1 f1 k1) (hl1:l1<K.nx) (hr1:RF σ f1) (hσ : ∀y,σ y≤c) (hc:c+szL ks≤2305843009213693952) (hk:k+N*S≤2305843009213693952) (hk1':k1+N*S≤2305843009213693952) {fr:Fr} (f1':fr 1= .map (some l1)) (f3:fr 3=pN bw) (f9:fr 9= .map (some l)) (f53:fr 53= .slice q ks.length ks.length) (f54:fr 54= .int .i64 (ks.length:Nat)) (f10:fr 10= .bool true) (f11:fr 11= .slice none 0 0) (f55:fr 55= .int .i64 0) {Q:CExit→Fr→CH→Prop}
 (hQ : ∀fr' K3 ns c',fr' 5=fr 5→fr' 7=fr 7→HEx bc K K3→WK K3 bc bw be c'→AccAt K K3 (fr' 11) ns→renC itT σ ρ true c ks=(ns,c')→ns.length=ks.length→Q (.exit 1) fr' K3):WpR TRn coL fr K Q:=by
 obtain⟨q',e,hmx,hnil,hat⟩:=row_at hrow
 cases e
 rw[maxLen_eq] at hmx
 obtain⟨lc,lw,le⟩:=hw.lt
 have e:coL=_:=rfl
 conv at e=>rhs;reduce
 rw[e]
 clear e
 refine loop_w (fun n fr K3=>CoJ K bc bw be σ ρ c ks n (fr 10) (fr 11) (fr 55) K3) (n:=ks.length) ⟨0,c,true,[],rfl,Nat.zero_le _,f10,f55,HEx.refl K,hw,Nat.le_refl _,hc,rfl,by rw[f11];exact AccAt.nil,rfl⟩ ?_
 rintro n fr K3 ⟨i,c1,first,ns,rfl,hi,f10,f55,hx,hw3,hc1,hs1,hns,hacc,hren⟩ hag
 have hnx:=hx.nx
 have hKb : ∀b,A b→K3.ob b=K.ob b:=fun b hb=>hx.ob b (hA b hb).1 (hA b hb).2
 by_cases hil:i<ks.length
 ·obtain⟨t,ht⟩ : ∃t,ks[i]? = some t:=⟨_,List.getElem?_eq_getElem hil⟩
  obtain⟨b,cs,e,kd,hqq,hb,ob,hkd,hcl,hc5,hst⟩:=hat i t ht
  have ob1:=(hKb b hb).trans ob
  have hmem:=List.mem_of_getElem? ht
  have hdr:ks.drop i=t::ks.drop (i+1):=by
   obtain⟨_,e⟩:=List.getElem?_eq_some_iff.1 ht
   rw[List.drop_eq_getElem_cons hil,e]
  obtain⟨ew,how⟩:=hw3.w
  rw[hdr] at hren
  have hszt:szN t+szL (ks.drop (i+1))=szL (ks.drop i):=by rw[hdr];rfl
  have hszk:szL ks=szL (ks.take i)+szL (ks.drop i):=by rw[←szL_app,List.take_append_drop]
  have hht:=ht_mem hmem
  rcases renC_cons itT σ ρ first c1 t (ks.drop (i+1)) with ⟨k2,l2,x2,o2,p,ee,rfl,rfl,rfl,er⟩ | ⟨hno,er⟩
  ·obtain⟨tq,hnc,hrt⟩:=ndS_cells hst
   obtain⟨tq',e',_,_,hat2⟩:=row_at hrt
   cases e'
   obtain⟨b2,cs2,e2,kd2,rfl,hb2',ob2,_,hcl2,_,hsp⟩:=hat2 0 p rfl
   obtain⟨b3,cs3,e3,kd3,e4,_,ob3,_,_,_,hse⟩:=hat2 1 ee rfl
   cases e4
   rw[ob2] at ob3
   cases ob3
   obtain⟨np,hnp⟩:=nd_n5 hsp
   obtain⟨ne,hne⟩:=nd_n5 hse
   have hl10:cs2.length=10:=hcl2
   have ob2':=(hKb b2 hb2').trans ob2
   have hb2n:=(hA b2 hb2').1
   have h0:HExt K3 (K3.new (.cells [.int .i64 ((58:Nat):Int), .int .i64 l2, .string (tx x2), .int .i64 (o2:Nat), .slice (some ⟨b2,0,none⟩) 2 2] 26 .ex)):=(HExt.refl K3).new _
   have hszp:szN (.mk 58 l2 x2 o2 [p,ee])=szN p+(szN ee+0)+1:=rfl
   simp only[htN,htL] at hht
   have hkt:=(kdL_mem hk2 hmem).2
   have hTt:=(txD_mem hT hmem).2
   have hcall1:=ih p (by omega) (by omega) hkt.1 hTt.1 _ A _ σ f1 k1 l1 c1 (hsp.mv fun b hb=>⟨hb,(h0.ob b (by have:=(hA b hb).1;omega)).trans (hKb b hb)⟩) (fun b hb=>⟨by have:=(hA b hb).1;have:=h0.nx;omega,(hA b hb).2⟩) (hw3.hx h0) ((hf1.ex hl1 hx ⟨_,_,_,hw.c⟩).ext (h0.ob l1 (by omega))) (by have:=h0.nx;omega) hr1 (fun y=>Nat.le_trans (hσ y) hc1) (by omega) hk1'
   rw[hnp] at hcall1
   repeat' (first | (simp (disch:=first | omega | (decide +kernel)) only[↓RD,RU,↓putF_get,↓putF_none,↓evF_t,↓evF_c,new_get,pop,lop,aop,wop,akV,isVal,isCell,Value.cells,ρ0,ρ1,↓reduceIte,Nat.reduceEqDiff,Nat.reduceAdd,Int.reduceOfNat,ρ5,ρ6,ρ7,ρ8,ρ17,ρ19,ρ20,ρ21,ρ22,ρ23,Kd.isRo,ρ25,ρ26,Nat.reduceLeDiff,Int.reduceToNat,ρ28,ρ29,hag,f1',f3,f53,f54,f10,f55,hqq,ob1,hnc,how,new_set,ob2',hnp,hl10,n5V]) | (with_reducible first | refine condK_dec (fun _=> ?_) fun _=> ?_ | refine grd_dec (fun _=> ?_) fun _=> ?_ | refine egrd_dec (fun _=> ?_) fun _=> ?_))
   refine hcall1.mono fun v K4 ⟨hx4,oc4,os4,ev,hs4⟩=> ?_
   subst ev
   obtain⟨n4,rfl⟩:=nd_n5 hs4
   have hn4:K3.nx+1≤K4.nx:=hx4.nx
   have hw4:WK K4 bc bw be _:=(hw3.hx h0).ex hx4 oc4
   have hx34:HEx bc K3 K4:=h0.ex.trans hx4
   have oB4:=(hx4.ob K3.nx (Nat.lt_succ_self _) (by omega)).trans new_at
   have h4:HExt K4 (K4.new (.cells (n5V n4) 26 .ex)):=(HExt.refl K4).new _
   have hle1:=renP_le p σ c1
   obtain⟨ew4,how4⟩:=hw4.w
   have hcall2:=ih ee (by omega) (by omega) hkt.2.1 hTt.2.1 _ A _ ρ f k l _ (hse.mv fun b hb=>⟨hb,(h4.ob b (by have:=(hA b hb).1;omega)).trans ((hx34.ob b (by have:=(hA b hb).1;omega) (hA b hb).2).trans (hKb b hb))⟩) (fun b hb=>⟨by have:=(hA b hb).1;have:=h4.nx;omega,(hA b hb).2⟩) (hw4.hx h4) (((hf.ex hl hx ⟨_,_,_,hw.c⟩).ex (by omega) hx34 ⟨_,_,_,hw3.c⟩).ext (h4.ob l (by omega))) (by have:=h4.nx;omega) hr (fun y=>by have:=hρ y;omega) (by omega) hk
   rw[hne] at hcall2
   have ob24:=(hx34.ob b2 (by omega) (hA b2 hb2').2).trans ob2'
   repeat' (first | (simp (disch:=first | omega | (decide +kernel)) only[↓RD,RU,accW_f,isW,↓putF_get,↓putF_none,↓evF_t,↓evF_c,new_get,pop,lop,aop,wop,akV,isVal,isCell,Value.cells,ρ0,ρ1,↓reduceIte,Nat.reduceEqDiff,Nat.reduceAdd,ρ5,ρ6,ρ7,ρ8,ρ17,ρ19,ρ20,ρ21,ρ22,ρ23,Kd.isRo,ρ25,ρ26,Int.reduceToNat,hag,f3,f9,how4,oB4,ob24,hne,hl10,n5V,new_set]) | (with_reducible first | refine condK_dec (fun _=> ?_) fun _=> ?_ | refine grd_dec (fun _=> ?_) fun _=> ?_ | refine egrd_dec (fun _=> ?_) fun _=> ?_))
   refine hcall2.mono fun v K5 ⟨hx5,oc5,os5,ev,hs5⟩=> ?_
   subst ev
   obtain⟨n5,rfl⟩:=nd_n5 hs5
   have hn5:K4.nx+1≤K5.nx:=hx5.nx
   have oB5:=(hx5.ob K3.nx (by show K3.nx<K4.nx+1;omega) (by omega)).trans ((h4.ob _ (by omega)).trans oB4)
   have o45:=(hx5.ob K4.nx (Nat.lt_succ_self _) (by omega)).trans new_at
   repeat' (first | (simp (disch:=first | omega | (decide +kernel)) only[↓RD,RU,accW_t,accW_f,isW,↓putF_get,↓putF_none,↓evF_t,new_nx,set_nx,new_get,set_get,pop,lop,aop,wop,akV,isVal,isCell,Value.cells,ρ0,ρ1,ρ4,↓reduceIte,Nat.reduceEqDiff,Nat.reduceAdd,reduceCtorEq,ρ5,ρ6,ρ7,ρ8,srcR_c,ρ15,ρ17,ρ18,ρ19,ρ20,ρ21,ρ22,ρ23,Kd.isRo,ρ25,ρ26,bldV,Nat.reduceLeDiff,appS_some,oB5,o45,n5V,Nat.zero_mul,zn1,zn2]) | (with_reducible first | refine condK_dec (fun _=> ?_) fun _=> ?_ | refine grd_dec (fun _=> ?_) fun _=> ?_ | refine egrd_dec (fun _=> ?_) fun _=> ?_))
   obtain⟨g1,g2,g3,g4,g5⟩:=pair_acc (k2:=58) (l2:=l2) (x2:=x2) (o2:=o2) (K:=K) (o1:= .cells [.int .i64 ((58:Nat):Int), .int .i64 l2, .string (tx x2), .int .i64 (o2:Nat), .slice (some ⟨K5.nx,0,none⟩) 2 2] 26 .ex) (o2':= .cells [.int .i64 ((58:Nat):Int), .int .i64 l2, .string (tx x2), .int .i64 (o2:Nat), .slice (some ⟨K5.nx,0,none⟩) 2 2] 26 .ex) hacc lc hnx hx4 hx5 hs4 hs5 rfl
   have hle2:=renP_le ee ρ (renP itT σ c1 p).2
   refine AccAt.app (nd:=⟨((58:Nat):Int),l2,tx x2,(o2:Nat),some ⟨K5.nx,0,none⟩,2,2⟩) g1 (Nat.le_trans hnx g3.nx) g2 (by omega) fun v' K6 k1 k2 k3=> ?_
   refine rn (an @hag @f55) ?_
   have hx6:HEx bc K K6:=⟨Nat.le_trans hnx (Nat.le_trans g3.nx k1),fun b hb hbc=>(k2 b hb).trans ((g3.ob b (by omega) hbc).trans (hx.ob b hb hbc))⟩
   refine⟨ks.length-(i+1),by omega,i+1,(renP itT ρ (renP itT σ c1 p).2 ee).2,false,ns++ [.mk 58 l2 x2 o2 [(renP itT σ c1 p).1,(renP itT ρ (renP itT σ c1 p).2 ee).1]],rfl,hil,rfl,rfl,hx6,hw.ex hx6 ((k2 bc lc).trans (g5.trans oc5)),by omega,by omega,by simp[hns],k3,?_⟩
   rw[hren,er]
   simp
  ·obtain⟨tk,tl,tx',to,tks⟩:=t
   obtain⟨tq,hnc,hrt⟩:=ndS_cells hst
   have h0:HExt K3 (K3.new (.cells [.int .i64 (tk:Nat), .int .i64 tl, .string (tx tx'), .int .i64 (to:Nat), .slice tq tks.length tks.length] 26 .ex)):=(HExt.refl K3).new _
   have hcall:=ih (.mk tk tl tx' to tks) (by omega) (by omega) (kdL_mem hk2 hmem) (txD_mem hT hmem) _ A _ σ f1 k1 l1 c1 (hst.mv fun b hb=>⟨hb,(h0.ob b (by have:=(hA b hb).1;omega)).trans (hKb b hb)⟩) (fun b hb=>⟨by have:=(hA b hb).1;have:=h0.nx;omega,(hA b hb).2⟩) (hw3.hx h0) ((hf1.ex hl1 hx ⟨_,_,_,hw.c⟩).ext (h0.ob l1 (by omega))) (by have:=h0.nx;omega) hr1 (fun y=>Nat.le_trans (hσ y) hc1) (by omega) hk1'
   rw[hnc] at hcall
   have hno : ¬(tk=58∧first=true∧tks.length=2):=hno
   have hsp:tk≠58∨(tk=58∧(first=false∨(first=true∧tks.length≠2))):=by
    cases first<;>simp at hno⊢<;>omega
   rcases hsp with h58 | ⟨rfl,rfl | ⟨rfl,h2⟩⟩
   all_goals
    refine rn (an @hag (an @f1' (an @f3 (an @f9 (an @f53 (an @f54 (an @f10 (an @f55 (an @hqq (an @ob1 (an @hnc (an @how (an @Nat.zero_add @new_set))))))))))))) ?_
    refine hcall.mono fun v K4 ⟨hx4,oc4,os4,ev,hs4⟩=> ?_
    subst ev
    obtain⟨n4,rfl⟩:=nd_n5 hs4
    have hn4:K3.nx+1≤K4.nx:=hx4.nx
    have hx34:HEx bc K3 K4:=h0.ex.trans hx4
    repeat' (first | (simp (disch:=first | omega | (decide +kernel)) only[↓RD,RU,↓putF_get,↓evF_t,new_get,aop,akV,isVal,Value.cells,ρ0,ρ1,ρ4,↓reduceIte,Nat.reduceEqDiff,Nat.reduceAdd,reduceCtorEq,ρ7,ρ8,srcR_c,ρ15,ρ18,ρ25,ρ26,bldV,Nat.reduceLeDiff,appS_some,n5V,Nat.zero_mul,zn1]) | (with_reducible first | refine condK_dec (fun _=> ?_) fun _=> ?_ | refine grd_dec (fun _=> ?_) fun _=> ?_ | refine egrd_dec (fun _=> ?_) fun _=> ?_))
    have h4:HExt K4 (K4.new (.cells (n5V n4) 26 .ex)):=(HExt.refl K4).new _
    have h35:HEx bc K3 (K4.new (.cells (n5V n4) 26 .ex)):=hx34.trans h4.ex
    have hle1:=fun t=>renP_le t σ c1
    refine AccAt.app (nd:=n4) (hacc.ex h35 lc) (by show K.nx≤K4.nx+1;omega) (hs4.mv fun b hb=>⟨⟨by have:K3.nx+1≤b:=hb.1;omega,Nat.lt_succ_of_lt hb.2,fun o n c e=>by have:=(hacc.blk e).2;have:K3.nx+1≤b:=hb.1;omega⟩,h4.ob b hb.2⟩) (by omega) fun v' K6 k1 k2 k3=> ?_
    refine rn (an @hag @f55) ?_
    have hx6:HEx bc K K6:=⟨Nat.le_trans hnx (Nat.le_trans h35.nx k1),fun b hb hbc=>(k2 b hb).trans ((h35.ob b (by omega) hbc).trans (hx.ob b hb hbc))⟩
    refine⟨ks.length-(i+1),by omega,i+1,_,_,_,rfl,hil,by(refine rn (an @hag @f10) ?_;all_goals rfl),rfl,hx6,hw.ex hx6 ((k2 bc lc).trans ((h4.ob bc (by omega)).trans oc4)),Nat.le_trans hc1 (hle1 _).1,Nat.le_trans (Nat.add_le_add_right (hle1 _).2 _) (by omega),by simp[hns],k3,?_⟩
    rw[hren,er]
    simp
 ·have hil:i=ks.length:=by omega
  subst hil
  rw[List.drop_length] at hren
  refine rn (an @hag (an @f53 (an @f54 @f55))) ?_
  exact hQ _ _ ns c1 (by((first | assumption | simp only[putF_get,putF_none,Nat.reduceEqDiff,↓reduceIte]);exact hag 5 rfl)) (by((first | assumption | simp only[putF_get,putF_none,Nat.reduceEqDiff,↓reduceIte]);exact hag 7 rfl)) hx hw3 hacc (by rw[hren];simp[renC]) hns
end Can
end Go.Proofs.YticlaccbodpkeaaGreatDoor
end
section
namespace Go.Proofs.YticlaccbodpkeaaGreatDoor
namespace Can
open Go Go.RowKit
set_option linter.unusedSimpArgs false
set_option linter.unusedVariables false
set_option maxRecDepth 4000
theorem seq_mid{T:Tbl}{a b t:RCode}{fr:Fr}{H:CH}{Q:CExit→Fr→CH→Prop}(M:CExit→Fr→CH→Prop)(h1:WpR T (.seq a b) fr H M)(h2 : ∀x fr' H',M x fr' H'→SeqK T t Q x fr' H'):WpR T (.seq a (.seq b t)) fr H Q:=by
 rw[r_seq] at h1⊢
 refine h1.mono fun x fr' H' h=> ?_
 cases x with
 | normal=>
   rw[seqK_n] at h⊢
   rw[r_seq]
   exact WpR.mono h h2
 | ret=>exact h2 .ret fr' H' h
 | exit i=>exact h2 (.exit i) fr' H' h
theorem optV_eq{o o':Option Value}{K:Value→CH→Prop}{H:CH}(h:o=o')(g:optV o' K H):optV o K H:=h▸g
mutual
theorem plc_le : ∀n:Nd,(plc n).length≤szN n
 | .mk k l x o ks=>by
   rw[plc,szN]
   split
   ·simp
   ·split
    ·exact Nat.le_succ_of_le (plcL_le ks)
    ·simp
theorem plcL_le : ∀ks:List Nd,(plcL ks).length≤szL ks
 | []=>Nat.le_refl _
 | n::ks=>by
   rw[plcL,szL,List.length_append]
   have:=plc_le n
   have:=plcL_le ks
   omega
end
theorem szN_mk{k:Nat}{l:Int}{x:Bs}{o:Nat}{ks:List Nd}:szN (.mk k l x o ks)=szL ks+1:=rfl
theorem kid0_sz{ks:List Nd}:szN (kid0 ks)≤szL ks+1:=by
 cases ks with
 | nil=>exact Nat.le_refl _
 | cons n ks=>simp only[kid0,szL];omega
theorem own_le : ∀ks:List Nd,(ownL ks).length≤szL ks
 | []=>Nat.le_refl _
 | n::ks=>by
   rw[ownL,szL,List.length_append]
   have:=own_le ks
   obtain⟨k,l,x,o,ts⟩:=n
   have h1:=plc_le (kid0 ts)
   have h2:=kid0_sz (ks:=ts)
   rw[szN_mk]
   split
   ·show(plc (kid0 ts)).length+_≤_;omega
   ·simp;omega
theorem nd_le(u:Nat):Lib.nDigits u≤u+1:=by
 induction u using Nat.strongRecOn with
 | _ u ih=>
   by_cases h:u<10
   ·rw[Lib.nDigits_small h];omega
   ·rw[Lib.nDigits_big h]
    have:=ih (u / 10) (by omega)
    omega
theorem itT_le(n:Nat):(itT n).length≤n+1:=by
 unfold itT
 rw[Lib.itoa_nonneg,Lib.decDigits_length]
 exact nd_le n
theorem itT_pos(n:Nat):0<(itT n).length:=by
 unfold itT
 rw[Lib.itoa_nonneg,Lib.decDigits_length]
 exact Lib.nDigits_pos n
theorem str_add{a b:ByteArray}(h:a.size+b.size≤9223372036854775807):svOf (binOp .add 0 (.string a) (.string b))=some (.string (a++b)):=by
 show svOf (Op.stringOp .add a b)=_
 simp only[Op.stringOp]
 rw[if_neg (by rw[show IntKind.i64.max=9223372036854775807 from rfl];omega)]
 rfl
def WkM (K:CH)(bc be c k:Nat)(t:Nd)(q:Option Addr)(r:Nd×Nat)(x:CExit)(fr:Fr)(H:CH):Prop:=
 (x= .normal∧∃(x':Bs) (l':Nat) (f':ByteArray→Option Int) (ρ':Bs→Nat),fr 1= .map (some l')∧fr 4=pN be∧fr 5=pN K.nx∧fr 7=pN (K.nx+1)∧HExt K H∧K.nx+2≤H.nx∧H.ob K.nx= .cells [.int .i64 (t.kind:Nat), .int .i64 t.line, .string (tx x'), .int .i64 (t.op:Nat), .slice q t.kids.length t.kids.length] 26 .ex∧H.ob (K.nx+1)= .cells [.int .i64 0, .int .i64 0, .string ⟨⟨[]⟩⟩, .int .i64 0, .slice none 0 0] 26 .ex∧NmAt H l' f' k∧l'<H.nx∧RF ρ' f'∧(∀y,ρ' y≤c)∧r=(.mk t.kind t.line x' t.op (renL itT ρ' c t.kids).1,(renL itT ρ' c t.kids).2))
 ∨(x= .ret∧FunK [.lda 5 7] (RnQ K bc r) x fr H)
theorem wi_le{ρ:Bs→Nat}{own:List Bs}{d c:Nat}(h1 : ∀y,ρ y≤c)(h2:d≤c) : ∀y,wi ρ own d y≤c:=fun y=>by
 unfold wi
 split
 ·exact h2
 ·exact h1 y
set_option maxHeartbeats 2000000 in
theorem walk_step{S B bc bw be N:Nat}(hB:B+16≤4398046511104)(ih:WalkOk S B bc bw be N):WalkOk S B bc bw be (N+1):=by
 rintro⟨tk,tl,x,o,ks⟩ hN hz hK hT K A os ρ f k l c hs hA hw hf hl hr hρ hc hk
 obtain⟨q,rfl,hrow⟩:=ndS_cells hs
 obtain⟨lc,lw,le⟩:=hw.lt
 obtain⟨q',e,hmx,hnil,hat⟩:=row_at hrow
 cases e
 rw[maxLen_eq] at hmx
 refine wpF_rS (by rfl) (by kernel_rfl) ?_;(conv in (rF _ _).body=>reduce);(conv in (rF _ _).res=>reduce)
 refine seq_mid (WkM K bc be c k (.mk tk tl x o ks) q (renP itT ρ c (.mk tk tl x o ks))) ?_ ?_
 ·by_cases h36:tk=36
  ·subst h36
   obtain⟨fx,hfx⟩ : ∃n:Nat,(f (tx x)).getD 0=(n:Int):=⟨_,hr x⟩
   have hlk:lkV 1 (.int .i64 0) false (.string (tx x)) (K.ob l)=some (.int .i64 (ρ x:Nat)):=by
    have:=hr x
    rcases hf with h | ⟨h,rfl,rfl⟩
    ·rw[h]
     show lkR _ _ (some ((f (tx x)).map fun n=>(0, .int .i64 n)))=_
     rw[←this]
     cases f (tx x)<;>rfl
    ·rw[h]
     show some (Value.int .i64 0)=_
     rw[←this];rfl
   repeat' (first | (simp (disch:=first | omega | (decide +kernel)) only[↓RD,RU,↓putF_get,↓evF_t,↓evF_c,new_nx,new_get,getD_zero,getD_succ,pop,lop,aop,akV,isVal,Value.cells,↓reduceIte,Nat.reduceEqDiff,Int.reduceOfNat,reduceCtorEq,ρ5,ρ6,ρ26,lkV,lkR,isKey,ρ28]) | (with_reducible first | refine condK_dec (fun _=> ?_) fun _=> ?_ | refine grd_dec (fun _=> ?_) fun _=> ?_ | refine egrd_dec (fun _=> ?_) fun _=> ?_))
   refine optV_eq hlk ?_
   repeat' (first | (simp (disch:=first | omega | (decide +kernel)) only[↓RD,RU,accW_f,isW,↓putF_get,↓evF_t,↓evF_c,pop,ρ0,ρ1,↓reduceIte,Nat.reduceEqDiff]) | (with_reducible first | refine condK_dec (fun _=> ?_) fun _=> ?_ | refine grd_dec (fun _=> ?_) fun _=> ?_ | refine egrd_dec (fun _=> ?_) fun _=> ?_))
   ·refine(itoa_wp ((hw.pw.hx ((HExt.refl K).new _)).hx ((HExt.refl _).new _)) (by omega) (by have:=hρ x;omega)).mono fun v K' ⟨e1,e2⟩=> ?_
    subst e1 e2
    have hil:=itT_le (ρ x)
    have hρx:=hρ x
    have hxl:x.length≤1099511627776:=hT.1
    have a1:svOf (binOp .add 0 (.string ⟨#[46]⟩) (.string ⟨(Lib.itoa (ρ x:Nat)).toArray⟩))=some (.string (tx ([46]++itT (ρ x)))):=str_add (a:=tx [46]) (b:=tx (itT (ρ x))) (by show 1+(itT (ρ x)).length≤_;omega)
    have a2:svOf (binOp .add 0 (.string (tx x)) (.string (tx ([46]++itT (ρ x)))))=some (.string (tx (x++([46]++itT (ρ x))))):=str_add (by show x.length+([46]++itT (ρ x)).length≤_;simp;omega)
    refine rn0 ?_
    refine optV_eq a1 ?_
    refine rn0 ?_
    refine optV_eq a2 ?_
    refine rn0 ?_
    refine .inl ⟨rfl,x++([46]++itT (ρ x)),l,f,ρ,by(exact rz0;all_goals rfl),by(exact rz0;all_goals rfl),by(exact rz0;all_goals rfl),by(exact rz0;all_goals rfl),by(repeat (first | assumption | exact HExt.refl _ | (refine HExt.set ?_ (by first | omega | (simp only[new_nx,set_nx];omega)) _) | (refine HExt.new ?_ _))),Nat.le_refl _,by(refine rn0 ?_;all_goals rfl),by repeat' (first | (simp (disch:=first | omega | (decide +kernel)) only[RU,new_nx,new_get,set_get,↓reduceIte]) | (with_reducible first | refine condK_dec (fun _=> ?_) fun _=> ?_ | refine grd_dec (fun _=> ?_) fun _=> ?_ | refine egrd_dec (fun _=> ?_) fun _=> ?_)),hf.ext (by repeat' (first | (simp (disch:=first | omega | (decide +kernel)) only[RU,new_nx,new_get,set_get]) | (with_reducible first | refine condK_dec (fun _=> ?_) fun _=> ?_ | refine grd_dec (fun _=> ?_) fun _=> ?_ | refine egrd_dec (fun _=> ?_) fun _=> ?_))),(by first | omega | (simp only[new_nx,set_nx];omega)),hr,hρ,?_⟩
    rw[renP,if_neg (by omega),if_neg (by omega),if_pos ⟨rfl,by omega⟩,List.append_assoc]
    rfl
   ·refine .inl ⟨rfl,x,l,f,ρ,by(exact rz0;all_goals rfl),by(exact rz0;all_goals rfl),by(exact rz0;all_goals rfl),by(exact rz0;all_goals rfl),by(repeat (first | assumption | exact HExt.refl _ | (refine HExt.set ?_ (by first | omega | (simp only[new_nx,set_nx];omega)) _) | (refine HExt.new ?_ _))),Nat.le_refl _,by(refine rn0 ?_;all_goals rfl),by exact rz0,hf.ext (by exact rz0),(by first | omega | (simp only[new_nx,set_nx];omega)),hr,hρ,?_⟩
    rw[renP,if_neg (by omega),if_neg (by omega),if_neg (by omega)]
    rfl
  ·by_cases h50:tk=50∨tk=8
   ·have hkid:=kid_wp (K:=(K.new (.cells [.int .i64 (tk:Nat), .int .i64 tl, .string (tx x), .int .i64 (o:Nat), .slice q ks.length ks.length] 26 .ex)).new (.cells [.int .i64 0, .int .i64 0, .string ⟨⟨[]⟩⟩, .int .i64 0, .slice none 0 0] 26 .ex)) (A:=A) (hs.mv fun b hb=>⟨hb,by have:=(hA b hb).1;rw[new_ne (by show b≠K.nx+1;omega),new_ne (by omega)]⟩) (fun b hb=>by have:=(hA b hb).1;show b<K.nx+1+1;omega)
    rcases h50 with rfl | rfl
    all_goals
     refine rn0 ?_
     refine hkid.mono fun v K2 ⟨os2,e2,hx2,hs2⟩=> ?_
     subst e2
     obtain⟨pk,pl,px,po,pks,hk0⟩ : ∃pk pl px po pks,kid0 ks= .mk pk pl px po pks:=by cases kid0 ks;exact⟨_,_,_,_,_,rfl⟩
     have hT0:=txD_kid0 hT.2
     have hs2':SVRs K2 A (ndS (kid0 ks)) os2:=hs2.mv fun b hb=>⟨hb,hx2.ob b (by have:=(hA b hb).1;show b<K.nx+1+1;omega)⟩
     rw[hk0] at hs2' hT0
     obtain⟨q2,rfl,hrow2⟩:=ndS_cells hs2'
     obtain⟨q3,e3,hp⟩:=prm_of hrow2 fun n hn=>by
      have:=txD_mem hT0.2 hn
      obtain⟨_,_,_,_,_⟩:=n
      exact this.1
     cases e3
     have hn2:K.nx+1+1≤K2.nx:=hx2.nx
     have hx3:HExt K K2:=(((HExt.refl K).new _).new _).trans hx2
     refine rn0 ?_
     refine(without_wp (hf.ext (hx3.ob _ hl)) (by simp) hp).mono fun v K3 ⟨e1,e2⟩=> ?_
     subst e1 e2
     refine rn0 ?_
     refine .inl ⟨rfl,x,K2.nx,_,wo ρ (kid0 ks).kids,by(exact rz0;all_goals rfl),by(exact rz0;all_goals rfl),by(exact rz0;all_goals rfl),by(exact rz0;all_goals rfl),hx3.new _,(by first | omega | (simp only[new_nx,set_nx];omega)),?_,?_, .inl (by rw[new_get,if_pos rfl]),(by first | omega | (simp only[new_nx,set_nx];omega)),by rw[hk0];exact hr.wo pks,fun y=> ?_,?_⟩
     ·rw[new_ne (by omega),hx2.ob _ (by show K.nx<K.nx+1+1;omega)];refine rn0 ?_;all_goals rfl
     ·rw[new_ne (by omega),hx2.ob _ (by show K.nx+1<K.nx+1+1;omega)];exact rz0;all_goals rfl
     ·unfold wo
      split
      ·omega
      ·exact hρ y
     ·rw[renP,if_neg (by omega),if_pos (by omega),if_neg (by omega)]
      rfl
   ·by_cases hco:tk=55∨tk=56∨tk=57
    ·have hcc:=hw.c
     have hb1:bc≠K.nx:=by omega
     have hb2:bc≠K.nx+1:=by omega
     have hwith:=with_wp (q:=q) (l:=l) (k:=k) (c:=c+1) (f:=f) (ks:=ks) (A:=A) (K:=((K.new (.cells [.int .i64 (tk:Nat), .int .i64 tl, .string (tx x), .int .i64 (o:Nat), .slice q ks.length ks.length] 26 .ex)).new (.cells [.int .i64 0, .int .i64 0, .string ⟨⟨[]⟩⟩, .int .i64 0, .slice none 0 0] 26 .ex)).set bc (.cells [.int .i64 ((c:Int)+1)] 3 .ex)) (hrow.mv fun b hb=>⟨hb,by have:=hA b hb;rw[set_ne' (by omega),new_ne (by show b≠K.nx+1;omega),new_ne (by omega)]⟩) (fun b hb=>by have:=(hA b hb).1;show b<K.nx+1+1;omega) hT.2 ((hf.ex (K':=((K.new _).new _).set bc _) hl ((((HEx.refl K).new _).new _).set (.inr rfl) _) ⟨_,_,_,hcc⟩)) (by show l<K.nx+1+1;omega) (by omega) (by have:=own_le ks;have:szL ks+1≤S:=hz;rw[Nat.succ_mul] at hk;omega)
     rcases hco with rfl | rfl | rfl
     all_goals
      refine rn (an @hcc (an @hb1 @hb2)) ?_
      refine hwith.mono fun v K2 ⟨l1,e1,hx2,hl1,hl1',o1⟩=> ?_
      subst e1
      have hn2:K.nx+1+1≤K2.nx:=hx2.nx
      have hl1:K.nx+1+1≤l1:=hl1
      have oB:=(hx2.ob K.nx (by show K.nx<K.nx+1+1;omega)).trans ((set_ne' (by omega)).trans ((new_ne (by show K.nx≠K.nx+1;omega)).trans (new_at)))
      have oZ:=(hx2.ob (K.nx+1) (by show K.nx+1<K.nx+1+1;omega)).trans ((set_ne' (by omega)).trans (new_at (K:=K.new _)))
      have oC:K2.ob bc= .cells [.int .i64 ((c+1:Nat):Int)] 3 .ex:=(hx2.ob bc (by show bc<K.nx+1+1;omega)).trans (by rw[set_get,if_pos rfl];rfl)
      have hxK:HEx bc K K2:=((((HEx.refl K).new _).new _).set (.inr rfl) _).trans hx2.ex
      have hw2:WK K2 bc bw be (c+1):=hw.ex hxK oC
      refine rn @oB ?_
      have ec:coL=_:=rfl
      conv at ec=>rhs;reduce
      simp only[Int.reduceOfNat,Int.reduceNegSucc] at ec
      rw[←ec]
      have hz':szL ks+1≤S:=hz
      have hc':c+(szL ks+1)≤2305843009213693952:=hc
      have hown:=own_le ks
      have hN':htL ks≤N:=by simp only[htN] at hN;omega
      have hks:k+S+N*S≤2305843009213693952:=by rw[Nat.succ_mul] at hk;omega
      refine comp_loop hB ih hN' (by omega) hK.1 hK.2 hT.2 (A:=A) (hrow.mv fun b hb=>⟨hb,hxK.ob b (hA b hb).1 (hA b hb).2⟩) (fun b hb=>⟨by have:=(hA b hb).1;omega,(hA b hb).2⟩) hw2 (hf.ex hl hxK ⟨_,_,_,hcc⟩) (by omega) hr (fun y=>Nat.le_trans (hρ y) (Nat.le_succ _)) (.inl o1) hl1' hr.ups (wi_le (fun y=>Nat.le_trans (hρ y) (Nat.le_succ _)) (Nat.le_refl _)) (by omega) (by omega) (by omega) (by exact rz0) (by exact rz0) (by exact rz0) (by exact rz0) (by exact rz0) (by exact rz0) (by exact rz0) (by exact rz0) fun fr K3 ns c' f5 f7 hx3 hw3 hacc hren hln=> ?_
      have f5':fr 5=pN K.nx:=f5.trans (by exact rz0)
      have f7':fr 7=pN (K.nx+1):=f7.trans (by exact rz0)
      obtain⟨va,f11,hv⟩:=hacc.done (by have:=hK.1;omega)
      have hn3:=hx3.nx
      have oB3:=(hx3.ob K.nx (by omega) (by omega)).trans oB
      have oZ3:=(hx3.ob (K.nx+1) (by omega) (by omega)).trans oZ
      refine rn (an @f5' (an @f7' (an @f11 (an @oB3 @oZ3)))) ?_
      refine .inr ⟨rfl,?_⟩
      refine rn (an @f5' (an @f7' (an @f11 (an @oB3 @oZ3)))) ?_
      rw[renP,if_pos (by decide)]
      have er:renC itT (wi ρ (ownL ks) (c+1)) ρ true (c+1) ks=(ns,c'):=hren
      have hx6:HEx bc K K3:=hxK.trans hx3
      refine⟨(hx6.set (by omega) _).set (by omega) _,?_,[_,_,_,_,_],rfl,?_⟩
      ·rw[set_ne' (by omega),set_ne' (by omega),er]
       exact hw3.c
      ·rw[er]
       rw[f11] at hv
       exact .cons (.sc rfl) (.cons (.sc rfl) (.cons (.sc rfl) (.cons (.sc rfl) (.cons (hv.mv fun b hb=>⟨⟨by omega,hb.2⟩,by rw[set_ne' (by omega),set_ne' (by omega)]⟩) .nil))))
    ·refine rn0 ?_
     refine .inl ⟨rfl,x,l,f,ρ,by(exact rz0;all_goals rfl),by(exact rz0;all_goals rfl),by(exact rz0;all_goals rfl),by(exact rz0;all_goals rfl),by(repeat (first | assumption | exact HExt.refl _ | (refine HExt.set ?_ (by first | omega | (simp only[new_nx,set_nx];omega)) _) | (refine HExt.new ?_ _))),Nat.le_refl _,by(refine rn0 ?_;all_goals rfl),by exact rz0,hf.ext (by exact rz0),(by first | omega | (simp only[new_nx,set_nx];omega)),hr,hρ,?_⟩
     rw[renP,if_neg hco,if_neg (by omega),if_neg (by omega)]
     rfl
 ·rintro x1 fr H (⟨rfl,x',l',f',ρ',f1,f4,f5,f7,hx,hn,o1,o2,hf',hl',hr',hρ',er⟩ | ⟨rfl,h⟩)
  ·rw[er]
   have o1:H.ob K.nx= .cells [.int .i64 (tk:Nat), .int .i64 tl, .string (tx x'), .int .i64 (o:Nat), .slice q ks.length ks.length] 26 .ex:=o1
   obtain⟨e4,o4⟩:=(hw.hx hx).e
   have hN':htL ks≤N:=by simp only[htN] at hN;omega
   have hz':szL ks+1≤S:=hz
   have hc':c+(szL ks+1)≤2305843009213693952:=hc
   have hks:k+N*S≤2305843009213693952:=by rw[Nat.succ_mul] at hk;omega
   have hcall:=each_wp ih hB hN' (by omega) hK.1 hK.2 hT.2 (K:=H) (A:=A) (hrow.mv fun b hb=>⟨hb,hx.ob b (hA b hb).1⟩) (fun b hb=>⟨by have:=(hA b hb).1;have:=hx.nx;omega,(hA b hb).2⟩) (hw.hx hx) hf' hl' hr' hρ' (by omega) hks
   refine rn (an @f1 (an @f4 (an @f5 (an @f7 (an @o1 (an @o2 @o4)))))) ?_
   refine hcall.mono fun v K2 ⟨hx2,o3,hv⟩=> ?_
   obtain⟨va,rfl,_⟩:=row_at hv
   have hn2:=hx2.nx
   have o1':=(hx2.ob _ (by omega) (by omega)).trans o1
   have o2':=(hx2.ob _ (by omega) (by omega)).trans o2
   refine rn (an @f1 (an @f4 (an @f5 (an @f7 (an @o1' @o2'))))) ?_
   have hx4:HEx bc K K2:=hx.ex.trans hx2
   refine⟨(hx4.set (by omega) _).set (by omega) _,?_,[_,_,_,_,_],rfl, .cons (.sc rfl) (.cons (.sc rfl) (.cons (.sc rfl) (.cons (.sc rfl) (.cons (hv.mv fun b hb=>⟨⟨by omega,hb.2⟩,?_⟩) .nil))))⟩
   ·rw[set_ne' (by omega),set_ne' (by omega)]
    exact o3
   ·rw[set_ne' (by omega),set_ne' (by omega)]
  ·exact h
theorem walk_ok{S B bc bw be:Nat}(hB:B+16≤4398046511104) : ∀N,WalkOk S B bc bw be N
 | 0=>fun t h=>by cases t;simp[htN] at h
 | N+1=>walk_step hB (walk_ok hB N)
abbrev ren0(t:Nd):Nd:=(renP itT (fun _=>0) 0 t).1
theorem rename_wp{B:Nat}(hB:B+16≤4398046511104){t:Nd}(hh:htN t≤1000)(hz:szN t≤1125899906842624)(hK:kdN B t)(hT:txD t){K:CH}{A:Nat→Prop}{os:List Value}(hs:SVRs K A (ndS t) os)(hA : ∀b,A b→b<K.nx)(hp:PowAt K):WpF TRn 10 [.agg os.toArray] K fun v K'=>HExt K K'∧∃os',v= .agg os'.toArray∧SVRs K' (fun b=>K.nx≤b∧b<K'.nx) (ndS (ren0 t)) os':=by
 obtain⟨nt,hnt⟩:=nd_n5 hs
 have hl5:os.length=5:=by rw[hnt];rfl
 have hc5:os.all isCell=true:=by rw[hnt];rfl
 have ht5:List.take 5 os=os:=List.take_of_length_le (by omega)
 refine wpF_rS (by rfl) (by kernel_rfl) ?_;(conv in (rF _ _).body=>reduce);(conv in (rF _ _).res=>reduce)
 refine rn (an @hl5 (an @hc5 @ht5)) ?_
 refine(walk_ok (S:=1125899906842624) (bc:=K.nx+1+1) (bw:=K.nx+1+1+1) (be:=K.nx+1+1+1+1) hB 1000 t hh hz hK hT _ A os (fun _=>0) (fun _=>none) 0 (K.nx+1+1+1+1+1) 0 (hs.mv fun b hb=>⟨hb,by have:=hA b hb;exact rz0⟩) (fun b hb=>⟨Nat.lt_of_lt_of_le (hA b hb) (by first | omega | (simp only[new_nx,set_nx];omega)),by have:=hA b hb;omega⟩) ⟨by(refine rn0 ?_;all_goals rfl),⟨_,by(refine rn0 ?_;all_goals rfl)⟩,⟨_,by(refine rn0 ?_;all_goals rfl)⟩,⟨(by first | omega | (simp only[new_nx,set_nx];omega)),(by first | omega | (simp only[new_nx,set_nx];omega)),(by first | omega | (simp only[new_nx,set_nx];omega))⟩,hp.hx (by(repeat (first | assumption | exact HExt.refl _ | (refine HExt.set ?_ (by first | omega | (simp only[new_nx,set_nx];omega)) _) | (refine HExt.new ?_ _))))⟩ (.inr ⟨by exact rz0,rfl,rfl⟩) (by first | omega | (simp only[new_nx,set_nx];omega)) RF.nil (fun _=>Nat.le_refl _) (by omega) (by omega)).mono fun v K2 ⟨hx2,o2,os2,ev,hs2⟩=> ?_
 subst ev
 have hn2:K.nx+1+1+1+1+1+1≤K2.nx:=hx2.nx
 obtain⟨n2,rfl⟩:=nd_n5 hs2
 have o1:K2.ob (K.nx+1)= .cells [.int .i64 0, .int .i64 0, .string ⟨⟨[]⟩⟩, .int .i64 0, .slice none 0 0] 26 .ex:=(hx2.ob (K.nx+1) (by first | omega | (simp only[new_nx,set_nx];omega)) (by omega)).trans (by(exact rz0;all_goals rfl))
 have hxK:HEx (K.nx+1+1) K K2:=HEx.trans (HExt.ex (by(repeat (first | assumption | exact HExt.refl _ | (refine HExt.set ?_ (by first | omega | (simp only[new_nx,set_nx];omega)) _) | (refine HExt.new ?_ _))))) hx2
 repeat' (first | (simp (disch:=first | omega | (decide +kernel)) only[↓RD,RU,↓putF_get,↓putF_none,↓evF_t,set_nx,set_get,lop,wop,resL,resV,tupleV,isVal,isCell,Value.cells,↓reduceIte,Nat.reduceEqDiff,Nat.reduceAdd,ρ7,ρ8,ρ15,ρ17,ρ18,ρ21,ρ22,ρ23,Kd.isRo,ρ25,ρ26,n5V,o1]) | (with_reducible first | refine condK_dec (fun _=> ?_) fun _=> ?_ | refine grd_dec (fun _=> ?_) fun _=> ?_ | refine egrd_dec (fun _=> ?_) fun _=> ?_))
 refine⟨(hxK.ext (by omega)).set (by omega) _,n5V n2,rfl,hs2.mv fun b hb=> ?_⟩
 have hb1:K.nx+1+1+1+1+1+1≤b:=hb.1
 exact⟨⟨by omega,hb.2⟩,set_ne' (by omega)⟩
end Can
end Go.Proofs.YticlaccbodpkeaaGreatDoor
end
