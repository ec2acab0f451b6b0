/- Parse, the program: its small steps, as runs over trees. Parse, the program: steps along the grammar. Parse: how high the trees are. No program in sight. (Printed by tools/genpsh.py.). Parse, the program: leaf, single, place. Parse, the program: its rules, as runs over trees, along the grammar. (Printed by tools/genpw3.py.). -/
import Derived.Test.YtnankhlanilbbaaGreatZl
section
namespace Go.Proofs.YtnankhlanilbbaaGreat
namespace Can
open Go Go.RowKit
set_option linter.unusedSimpArgs false
set_option linter.unusedVariables false
set_option maxRecDepth 4000
attribute [local irreducible] TC isT nowT begT
section
variable {Z:TP} {X:Pan} {W:Int→Value} {ts:List PT} {sl:Sl} {R:Value→Prop} {Q:AV→List SV→Prop} {E:Nat→Prop} {P:List Nd→Nat→Prop} {i:Nat}
theorem rd_inc(C:PCtx Z X W ts sl)(h:i<ts.length){a:AV}(hQ:Q a (rdS sl (i+1))):Q a [SV.sc (.slice sl.q sl.n sl.c),SV.sc (.int .i64 (IntKind.wrap .i64 ((i:Int)+1)))]:=by
 rw[wr_inc h C.len];exact hQ
theorem is_tc2(C:PCtx Z X W ts sl){s:List UInt8}(hs:s≠ [])(hi:i≤ts.length)(h1:isT ts i s=true→Q (rS (.bool true)) (rdS sl i))(h2:isT ts i s=false→Q (rS (.bool false)) (rdS sl i)):TC Z (tblG Tryz.prog LG GG) X 85 [.ptr 0 0,rS (.string ⟨⟨s⟩⟩)] (rdR sl i) Q R:=by
 refine is_tc C hs hi ?_
 cases hb:isT ts i s with
 | true=>exact h1 hb
 | false=>exact h2 hb
theorem has_tc(C:PCtx Z X W ts sl){s:List UInt8}(hs:s≠ [])(hi:i≤ts.length)(h1:isT ts i s=true→i<ts.length→Q (rS (.bool true)) (rdS sl (i+1)))(h2:isT ts i s=false→Q (rS (.bool false)) (rdS sl i)):TC Z (tblG Tryz.prog LG GG) X 48 [.ptr 0 0,rS (.string ⟨⟨s⟩⟩)] (rdR sl i) Q R:=by
 refine tc_rG dt_ok (by rfl) (by kernel_rfl) ?_
 conv in (rF _ _).body=>reduce
 conv in (rF _ _).res=>reduce
 conv=>whnf
 refine is_tc C hs hi ?_
 cases hb:isT ts i s with
 | false=>
   conv=>whnf
   exact h2 hb
 | true=>
   conv=>whnf
   exact rd_inc C (isT_lt' hb) (h1 hb (isT_lt' hb))
theorem want_tc(C:PCtx Z X W ts sl){s:List UInt8}(hs:s≠ [])(hi:i≤ts.length)(h1:isT ts i s=true→i<ts.length→Q (.tup []) (rdS sl (i+1)))(h2:isT ts i s=false→R (W (nowT ts i).line)):TC Z (tblG Tryz.prog LG GG) X 51 [.ptr 0 0,rS (.string ⟨⟨s⟩⟩)] (rdR sl i) Q R:=by
 refine tc_rG dt_ok (by rfl) (by kernel_rfl) ?_
 conv in (rF _ _).body=>reduce
 conv in (rF _ _).res=>reduce
 conv=>whnf
 refine has_tc C hs hi (fun hb hl=> ?_) (fun hb=> ?_)
 ·conv=>whnf
  exact h1 hb hl
 ·conv=>whnf
  exact C.fail i _ _ hi (h2 hb)
theorem wantKind_tc(C:PCtx Z X W ts sl){k:Int}(h0:k≠0)(hi:i≤ts.length)(h1:(nowT ts i).kind=k→i<ts.length→Q (rS (.string ⟨⟨(nowT ts i).text⟩⟩)) (rdS sl (i+1)))(h2:(nowT ts i).kind≠k→R (W (nowT ts i).line)):TC Z (tblG Tryz.prog LG GG) X 55 [.ptr 0 0,rS (.int .i64 k)] (rdR sl i) Q R:=by
 refine tc_rG dt_ok (by rfl) (by kernel_rfl) ?_
 conv in (rF _ _).body=>reduce
 conv in (rF _ _).res=>reduce
 conv=>whnf
 refine now_tc C hi ?_
 conv=>whnf
 refine ifT_c (fun hb=> ?_) (fun hb=> ?_)
 ·conv=>whnf
  refine C.fail i _ _ hi (h2 ?_)
  simpa using hb
 ·have hk:(nowT ts i).kind=k:=by simpa using hb
  have hl:i<ts.length:=kd_lt (by rw[hk];exact h0)
  conv=>whnf
  exact rd_inc C hl (h1 hk hl)
theorem begins_tc(C:PCtx Z X W ts sl)(hi:i≤ts.length)(hQ:Q (rS (.bool (begT ts i))) (rdS sl i)):TC Z (tblG Tryz.prog LG GG) X 90 [.ptr 0 0] (rdR sl i) Q R:=by
 refine tc_rG dt_ok (by rfl) (by kernel_rfl) ?_
 conv in (rF _ _).body=>reduce
 conv in (rF _ _).res=>reduce
 conv=>whnf
 refine now_tc C hi ?_
 obtain⟨t,ht⟩ : ∃t,nowT ts i=t:=⟨_,rfl⟩
 have hw:= @beg_w ts i
 have hs:= @beg_s ts i
 have hk:= @beg_k ts i
 have hn:= @beg_n ts i
 rw[ht] at hw hs hk hn⊢
 obtain⟨kd,ln,tx⟩:=t
 by_cases k4:kd=4
 ·subst k4
  rw[hk (show(4:Int)≤4∧(4:Int)≤7 by decide)] at hQ
  conv=>whnf
  exact hQ
 by_cases k5:kd=5
 ·subst k5
  rw[hk (show(4:Int)≤5∧(5:Int)≤7 by decide)] at hQ
  conv=>whnf
  exact hQ
 by_cases k6:kd=6
 ·subst k6
  rw[hk (show(4:Int)≤6∧(6:Int)≤7 by decide)] at hQ
  conv=>whnf
  exact hQ
 by_cases k7:kd=7
 ·subst k7
  rw[hk (show(4:Int)≤7∧(7:Int)≤7 by decide)] at hQ
  conv=>whnf
  exact hQ
 by_cases k8:kd=8
 ·subst k8
  conv=>whnf
  refine is_tc2 C (by decide) hi (fun(b0:isT ts i s_lambda=true)=> ?_) fun(b0:isT ts i s_lambda=false)=> ?_
  ·conv=>whnf
   rw[hw rfl,b0] at hQ
   exact hQ
  conv=>whnf
  refine is_tc2 C (by decide) hi (fun(b1:isT ts i s_not=true)=> ?_) fun(b1:isT ts i s_not=false)=> ?_
  ·conv=>whnf
   rw[hw rfl,b0,b1] at hQ
   exact hQ
  conv=>whnf
  refine is_tc2 C (by decide) hi (fun(b2:isT ts i s_None=true)=> ?_) fun(b2:isT ts i s_None=false)=> ?_
  ·conv=>whnf
   rw[hw rfl,b0,b1,b2] at hQ
   exact hQ
  conv=>whnf
  refine is_tc2 C (by decide) hi (fun(b3:isT ts i s_True=true)=> ?_) fun(b3:isT ts i s_True=false)=> ?_
  ·conv=>whnf
   rw[hw rfl,b0,b1,b2,b3] at hQ
   exact hQ
  conv=>whnf
  refine is_tc2 C (by decide) hi (fun(b4:isT ts i s_False=true)=> ?_) fun(b4:isT ts i s_False=false)=> ?_
  ·conv=>whnf
   rw[hw rfl,b0,b1,b2,b3,b4] at hQ
   exact hQ
  conv=>whnf
  rw[hw rfl,b0,b1,b2,b3,b4] at hQ
  exact hQ
 by_cases k9:kd=9
 ·subst k9
  conv=>whnf
  refine is_tc2 C (by decide) hi (fun(b0:isT ts i s_plus=true)=> ?_) fun(b0:isT ts i s_plus=false)=> ?_
  ·conv=>whnf
   rw[hs rfl,b0] at hQ
   exact hQ
  conv=>whnf
  refine is_tc2 C (by decide) hi (fun(b1:isT ts i s_minus=true)=> ?_) fun(b1:isT ts i s_minus=false)=> ?_
  ·conv=>whnf
   rw[hs rfl,b0,b1] at hQ
   exact hQ
  conv=>whnf
  refine is_tc2 C (by decide) hi (fun(b2:isT ts i s_lpar=true)=> ?_) fun(b2:isT ts i s_lpar=false)=> ?_
  ·conv=>whnf
   rw[hs rfl,b0,b1,b2] at hQ
   exact hQ
  conv=>whnf
  refine is_tc2 C (by decide) hi (fun(b3:isT ts i s_lbrk=true)=> ?_) fun(b3:isT ts i s_lbrk=false)=> ?_
  ·conv=>whnf
   rw[hs rfl,b0,b1,b2,b3] at hQ
   exact hQ
  conv=>whnf
  refine is_tc2 C (by decide) hi (fun(b4:isT ts i s_lbrc=true)=> ?_) fun(b4:isT ts i s_lbrc=false)=> ?_
  ·conv=>whnf
   rw[hs rfl,b0,b1,b2,b3,b4] at hQ
   exact hQ
  conv=>whnf
  rw[hs rfl,b0,b1,b2,b3,b4] at hQ
  exact hQ
 rw[hn (by simp only;omega) k8 k9] at hQ
 conv=>whnf
 refine ifT_c (fun h=>absurd (by simpa using h) k4) fun _=> ?_
 conv=>whnf
 refine ifT_c (fun h=>absurd (by simpa using h) k5) fun _=> ?_
 conv=>whnf
 refine ifT_c (fun h=>absurd (by simpa using h) k6) fun _=> ?_
 conv=>whnf
 refine ifT_c (fun h=>absurd (by simpa using h) k7) fun _=> ?_
 conv=>whnf
 refine ifT_c (fun h=>absurd (by simpa using h) k8) fun _=> ?_
 conv=>whnf
 refine ifT_c (fun h=>absurd (by simpa using h) k9) fun _=> ?_
 conv=>whnf
 exact hQ
theorem augment_tc(C:PCtx Z X W ts sl)(hi:i≤ts.length)(h1:augT ts i≠0→i<ts.length→Q (rS (.int .i64 (augT ts i:Nat))) (rdS sl (i+1)))(h2:augT ts i=0→Q (rS (.int .i64 0)) (rdS sl i)):TC Z (tblG Tryz.prog LG GG) X 128 [.ptr 0 0] (rdR sl i) Q R:=by
 refine tc_rG dt_ok (by rfl) (by kernel_rfl) ?_
 conv in (rF _ _).body=>reduce
 conv in (rF _ _).res=>reduce
 conv=>whnf
 refine has_tc C (by decide) hi (fun(b0:isT ts i s_plusA=true) hl=> ?_) (fun(b0:isT ts i s_plusA=false)=> ?_)
 ·conv=>whnf
  have e:augT ts i=1:=by simp[augT,b0]
  have h1:=h1 (by rw[e];decide) hl
  rw[e] at h1
  exact h1
 conv=>whnf
 refine has_tc C (by decide) hi (fun(b1:isT ts i s_minusA=true) hl=> ?_) (fun(b1:isT ts i s_minusA=false)=> ?_)
 ·conv=>whnf
  have e:augT ts i=2:=by simp[augT,b0,b1]
  have h1:=h1 (by rw[e];decide) hl
  rw[e] at h1
  exact h1
 conv=>whnf
 refine has_tc C (by decide) hi (fun(b2:isT ts i s_starA=true) hl=> ?_) (fun(b2:isT ts i s_starA=false)=> ?_)
 ·conv=>whnf
  have e:augT ts i=3:=by simp[augT,b0,b1,b2]
  have h1:=h1 (by rw[e];decide) hl
  rw[e] at h1
  exact h1
 conv=>whnf
 refine has_tc C (by decide) hi (fun(b3:isT ts i s_slashA=true) hl=> ?_) (fun(b3:isT ts i s_slashA=false)=> ?_)
 ·conv=>whnf
  have e:augT ts i=4:=by simp[augT,b0,b1,b2,b3]
  have h1:=h1 (by rw[e];decide) hl
  rw[e] at h1
  exact h1
 conv=>whnf
 refine has_tc C (by decide) hi (fun(b4:isT ts i s_dslashA=true) hl=> ?_) (fun(b4:isT ts i s_dslashA=false)=> ?_)
 ·conv=>whnf
  have e:augT ts i=5:=by simp[augT,b0,b1,b2,b3,b4]
  have h1:=h1 (by rw[e];decide) hl
  rw[e] at h1
  exact h1
 conv=>whnf
 refine has_tc C (by decide) hi (fun(b5:isT ts i s_pctA=true) hl=> ?_) (fun(b5:isT ts i s_pctA=false)=> ?_)
 ·conv=>whnf
  have e:augT ts i=6:=by simp[augT,b0,b1,b2,b3,b4,b5]
  have h1:=h1 (by rw[e];decide) hl
  rw[e] at h1
  exact h1
 conv=>whnf
 refine has_tc C (by decide) hi (fun(b6:isT ts i s_dstarA=true) hl=> ?_) (fun(b6:isT ts i s_dstarA=false)=> ?_)
 ·conv=>whnf
  have e:augT ts i=7:=by simp[augT,b0,b1,b2,b3,b4,b5,b6]
  have h1:=h1 (by rw[e];decide) hl
  rw[e] at h1
  exact h1
 conv=>whnf
 exact h2 (by simp[augT,b0,b1,b2,b3,b4,b5,b6])
theorem operator_tc(C:PCtx Z X W ts sl)(hi:i≤ts.length)(hE : ∀e,opT ts i= .error e→R (W (nowT ts e).line))(hQ : ∀op j,opT ts i= .ok (op,j)→j≤ts.length→Q (rS (.int .i64 (op:Nat))) (rdS sl j)):TC Z (tblG Tryz.prog LG GG) X 166 [.ptr 0 0] (rdR sl i) Q R:=by
 refine tc_rG dt_ok (by rfl) (by kernel_rfl) ?_
 conv in (rF _ _).body=>reduce
 conv in (rF _ _).res=>reduce
 conv=>whnf
 refine has_tc C (by decide) hi (fun(b0:isT ts i s_eqeq=true) hl=> ?_) (fun(b0:isT ts i s_eqeq=false)=> ?_)
 ·conv=>whnf
  exact hQ 1 (i+1) (by simp[opT,b0]) hl
 conv=>whnf
 refine has_tc C (by decide) hi (fun(b1:isT ts i s_bne=true) hl=> ?_) (fun(b1:isT ts i s_bne=false)=> ?_)
 ·conv=>whnf
  exact hQ 2 (i+1) (by simp[opT,b0,b1]) hl
 conv=>whnf
 refine has_tc C (by decide) hi (fun(b2:isT ts i s_lt=true) hl=> ?_) (fun(b2:isT ts i s_lt=false)=> ?_)
 ·conv=>whnf
  exact hQ 3 (i+1) (by simp[opT,b0,b1,b2]) hl
 conv=>whnf
 refine has_tc C (by decide) hi (fun(b3:isT ts i s_le=true) hl=> ?_) (fun(b3:isT ts i s_le=false)=> ?_)
 ·conv=>whnf
  exact hQ 4 (i+1) (by simp[opT,b0,b1,b2,b3]) hl
 conv=>whnf
 refine has_tc C (by decide) hi (fun(b4:isT ts i s_gt=true) hl=> ?_) (fun(b4:isT ts i s_gt=false)=> ?_)
 ·conv=>whnf
  exact hQ 5 (i+1) (by simp[opT,b0,b1,b2,b3,b4]) hl
 conv=>whnf
 refine has_tc C (by decide) hi (fun(b5:isT ts i s_ge=true) hl=> ?_) (fun(b5:isT ts i s_ge=false)=> ?_)
 ·conv=>whnf
  exact hQ 6 (i+1) (by simp[opT,b0,b1,b2,b3,b4,b5]) hl
 conv=>whnf
 refine has_tc C (by decide) hi (fun(b6:isT ts i s_in=true) hl=> ?_) (fun(b6:isT ts i s_in=false)=> ?_)
 ·conv=>whnf
  exact hQ 7 (i+1) (by simp[opT,b0,b1,b2,b3,b4,b5,b6]) hl
 conv=>whnf
 refine has_tc C (by decide) hi (fun(b7:isT ts i s_not=true) hl=> ?_) (fun(b7:isT ts i s_not=false)=> ?_)
 ·conv=>whnf
  refine want_tc C (by decide) hl (fun(c0:isT ts (i+1) s_in=true) hl=> ?_) (fun(c0:isT ts (i+1) s_in=false)=> ?_)
  ·conv=>whnf
   exact hQ 8 (i+2) (by simp[opT,b0,b1,b2,b3,b4,b5,b6,b7,c0]) hl
  ·exact hE (i+1) (by simp[opT,b0,b1,b2,b3,b4,b5,b6,b7,c0])
 conv=>whnf
 refine has_tc C (by decide) hi (fun(b8:isT ts i s_is=true) hl=> ?_) (fun(b8:isT ts i s_is=false)=> ?_)
 ·conv=>whnf
  refine has_tc C (by decide) hl (fun(c0:isT ts (i+1) s_not=true) hl=> ?_) (fun(c0:isT ts (i+1) s_not=false)=> ?_)
  ·conv=>whnf
   exact hQ 10 (i+2) (by simp[opT,b0,b1,b2,b3,b4,b5,b6,b7,b8,c0]) hl
  ·conv=>whnf
   exact hQ 9 (i+1) (by simp[opT,b0,b1,b2,b3,b4,b5,b6,b7,b8,c0]) hl
 conv=>whnf
 exact hQ 0 i (by simp[opT,b0,b1,b2,b3,b4,b5,b6,b7,b8]) hi
end
end Can
end Go.Proofs.YtnankhlanilbbaaGreat
end
section
namespace Go.Proofs.YtnankhlanilbbaaGreat
namespace Can
open Go Go.RowKit
set_option linter.unusedSimpArgs false
set_option linter.unusedVariables false
set_option maxRecDepth 4000
attribute [local irreducible] TC isT nowT begT
theorem gr_post{ts:List PT}{f:Nat}{a:NT}{i:Nat}(hg:a.good)(hi:i≤ts.length){E:Nat→Prop}{P:List Nd→Nat→Prop}(h:Gd E P (gr ts f a i)):Gd (fun e=>E e∧e≤ts.length) (fun l j=>P l j∧a.post i ts.length l j) (gr ts f a i):=by
 cases hr:gr ts f a i with
 | none=>rw[hr] at h;exact h
 | some r=>
   have h1:=gr_gd (ts:=ts) (max f (ts.length*64+a.rank+1)) a i hg hi (by omega)
   rw[gr_mono (Nat.le_max_left ..) hr] at h1
   rw[hr] at h
   match r,h,h1 with
   | .error e,h,h1=>exact⟨h,h1.2⟩
   | .ok (l,j),h,h1=>exact⟨h,h1⟩
def ans1:List Nd→AV
 | [t]=>ndA t
 | _=> .bad
def ansL (l:List Nd):AV:= .r (.c (.s (.row 5 (ndsS l))))
def AccV (acc:List Nd)(c:CV):Prop:=(acc= []∧c= .s (.row 5 []))∨(acc≠ []∧c= .own 0 26 5 (ndsS acc))
theorem accV_app{acc:List Nd}{t:Nd}{g:List (List SV)}(h:g=ndsS acc++ [ndS t]):AccV (acc++ [t]) (.own 0 26 5 g):= .inr ⟨by simp,by rw[h,ndsS_app];rfl⟩
theorem ndsS_snoc{acc:List Nd}{t:Nd}:ndsS (acc++ [t])=ndsS acc++ [ndS t]:=by rw[ndsS_app];rfl
theorem sn_agg{a b c d:CV}{acc:List Nd}{t:Nd}{g:List (List SV)}(h:g=ndsS acc++ [ndS t]):AV.r (.agg [a,b,c,d,CV.s (.row 5 g)])=AV.r (.agg [a,b,c,d,CV.s (.row 5 (ndsS (acc++ [t])))]):=by rw[h,ndsS_snoc]
theorem sn_row{acc:List Nd}{t:Nd}{g:List (List SV)}(h:g=ndsS acc++ [ndS t]):AV.r (.c (CV.s (.row 5 g)))=AV.r (.c (CV.s (.row 5 (ndsS (acc++ [t]))))):=by rw[h,ndsS_snoc]
theorem wr_dec{acc:List Nd}(hne:acc≠ [])(hm:(ndsS acc).length≤maxLen):IntKind.wrap .i64 (((ndsS acc).length:Int)-1)=((acc.length-1:Nat):Int):=by
 rw[ndsS_len] at hm⊢
 rw[maxLen_eq] at hm
 have:acc.length≠0:=fun e=>hne (List.length_eq_zero_iff.1 e)
 rw[w_i64 (by omega) (by omega)];omega
theorem last_get{acc:List Nd}{t:Nd}(h:acc.getLast? = some t):acc[acc.length-1]? = some t:=by rw[←h,List.getLast?_eq_getElem?]
theorem gd_pk1{E:Nat→Prop}{P:List Nd→Nat→Prop}{t:Nd}{j:Nat}{k:Nd→Nat→PR}(h:Gd E (fun l j=>∃t,l= [t]∧Gd E P (k t j)) (pk1 t j)):Gd E P (k t j):=by
 obtain⟨t',e,h⟩:=h
 cases e;exact h
theorem bdA{m:Nat}(h:m≤2199023255552):BdA m 64:=⟨by omega,by rw[maxLen_eq];omega⟩
theorem q_eq{Q:AV→List SV→Prop}{a a':AV}{s s':List SV}(ha:a=a')(hs:s=s')(h:Q a' s'):Q a s:=by rw[ha,hs];exact h
theorem len1_c{E:Nat→Prop}{P:List Nd→Nat→Prop}{acc:List Nd}{A B:PR}{b:Bool}{yes no:Prop}(hG:Gd E P (if acc.length=1 then A else B))(hb:b=true↔acc.length=1)(h1:Gd E P A→yes)(h2:Gd E P B→no):ifT b yes no:=by
 refine ifT_c (fun h=> ?_) fun h=> ?_
 ·rw[if_pos (hb.1 h)] at hG;exact h1 hG
 ·rw[if_neg (fun g=>by rw[hb.2 g] at h;cases h)] at hG;exact h2 hG
theorem ite_andP{p q:Prop}[Decidable p][Decidable q]{a b:PR}:(if p∧q then a else b)=if p then (if q then a else b) else b:=by
 by_cases hp:p<;>by_cases hq:q<;>simp[hp,hq]
abbrev oN(cs:List CV):Nat×TypeId×List CV:=(0,26,cs)
abbrev nzC:List CV:= [cS (.int .i64 0),cS (.int .i64 0),cS (.string ⟨⟨[]⟩⟩),cS (.int .i64 0), .s (.row 5 [])]
abbrev nC(k:Nat)(l:Int)(x:List UInt8)(o:Nat)(c:CV):List CV:= [cS (.int .i64 (k:Nat)),cS (.int .i64 l),cS (.string ⟨⟨x⟩⟩),cS (.int .i64 (o:Nat)),c]
abbrev nA(k:Nat)(l:Int)(x:List UInt8)(o:Nat)(ks:List Nd):List CV:=nC k l x o (.s (.row 5 (ndsS ks)))
abbrev oR(sl:Sl)(j:Nat):Nat×TypeId×List CV:=(0,55,[cS (.slice sl.q sl.n sl.c),cS (.int .i64 (j:Nat))])
def PC (Z:TP)(X:Pan)(W:Int→Value)(ts:List PT)(sl:Sl)(f:Nat)(a:NT)(F:FuncId)(args:List AV)(ans:List Nd→AV):Prop:=
 ∀(i:Nat) (Q:AV→List SV→Prop) (R:Value→Prop) (E:Nat→Prop) (P:List Nd→Nat→Prop),i≤ts.length→Gd E P (gr ts f a i)→(∀e,E e→R (W (nowT ts e).line))→(∀l j,P l j→j≤ts.length→Q (ans l) (rdS sl j))→TC Z (tblG Tryz.prog LG GG) X F args (rdR sl i) Q R
section
variable {Z:TP} {X:Pan} {W:Int→Value} {ts:List PT} {sl:Sl} {R:Value→Prop} {Q:AV→List SV→Prop} {E:Nat→Prop} {P:List Nd→Nat→Prop} {i:Nat}
theorem has_st(C:PCtx Z X W ts sl){s:List UInt8}{A B:PR}(hG:Gd E P (if isT ts i s=true then A else B))(hs:s≠ [])(hi:i≤ts.length)(h1:i<ts.length→Gd E P A→Q (rS (.bool true)) (rdS sl (i+1)))(h2:Gd E P B→Q (rS (.bool false)) (rdS sl i)):TC Z (tblG Tryz.prog LG GG) X 48 [.ptr 0 0,rS (.string ⟨⟨s⟩⟩)] (rdR sl i) Q R:=by
 refine has_tc C hs hi (fun h hl=> ?_) (fun h=> ?_)
 ·rw[if_pos h] at hG;exact h1 hl hG
 ·rw[if_neg (by rw[h];decide)] at hG;exact h2 hG
theorem is_st(C:PCtx Z X W ts sl){s:List UInt8}{A B:PR}(hG:Gd E P (if isT ts i s=true then A else B))(hs:s≠ [])(hi:i≤ts.length)(h1:isT ts i s=true→i<ts.length→Gd E P A→Q (rS (.bool true)) (rdS sl i))(h2:isT ts i s=false→Gd E P B→Q (rS (.bool false)) (rdS sl i)):TC Z (tblG Tryz.prog LG GG) X 85 [.ptr 0 0,rS (.string ⟨⟨s⟩⟩)] (rdR sl i) Q R:=by
 refine is_tc2 C hs hi (fun h=> ?_) (fun h=> ?_)
 ·rw[if_pos h] at hG;exact h1 h (isT_lt' h) hG
 ·rw[if_neg (by rw[h];decide)] at hG;exact h2 h hG
theorem is_stf(C:PCtx Z X W ts sl){s:List UInt8}{A B:PR}(hG:Gd E P (if isT ts i s=false then A else B))(hs:s≠ [])(hi:i≤ts.length)(h1:Gd E P B→Q (rS (.bool true)) (rdS sl i))(h2:Gd E P A→Q (rS (.bool false)) (rdS sl i)):TC Z (tblG Tryz.prog LG GG) X 85 [.ptr 0 0,rS (.string ⟨⟨s⟩⟩)] (rdR sl i) Q R:=by
 refine is_tc2 C hs hi (fun h=> ?_) (fun h=> ?_)
 ·rw[if_neg (by rw[h];decide)] at hG;exact h1 hG
 ·rw[if_pos h] at hG;exact h2 hG
theorem want_kn(C:PCtx Z X W ts sl){s:List UInt8}(hs:s≠ [])(hi:i≤ts.length)(hb:isT ts i s=true)(h1:i<ts.length→Q (.tup []) (rdS sl (i+1))):TC Z (tblG Tryz.prog LG GG) X 51 [.ptr 0 0,rS (.string ⟨⟨s⟩⟩)] (rdR sl i) Q R:=
 want_tc C hs hi (fun _ hl=>h1 hl) fun h=>by rw[hb] at h;cases h
theorem rd_wr(C:PCtx Z X W ts sl)(h:i<ts.length) : [SV.sc (.slice sl.q sl.n sl.c),SV.sc (.int .i64 (IntKind.wrap .i64 ((i:Int)+1)))]=rdS sl (i+1):=by
 rw[wr_inc h C.len];rfl
theorem begins_st(C:PCtx Z X W ts sl){A B:PR}(hG:Gd E P (if begT ts i=true then A else B))(hi:i≤ts.length)(h1:Gd E P A→Q (rS (.bool true)) (rdS sl i))(h2:Gd E P B→Q (rS (.bool false)) (rdS sl i)):TC Z (tblG Tryz.prog LG GG) X 90 [.ptr 0 0] (rdR sl i) Q R:=by
 refine begins_tc C hi ?_
 cases h:begT ts i with
 | true=>rw[if_pos h] at hG;exact h1 hG
 | false=>rw[if_neg (by rw[h];decide)] at hG;exact h2 hG
theorem kind_st(C:PCtx Z X W ts sl){k:Int}{A B:PR}(hG:Gd E P (if (nowT ts i).kind=k then A else B))(h0:k≠0)(hi:i≤ts.length)(h1:i<ts.length→Gd E P A→Q (rS (.bool true)) (rdS sl i))(h2:Gd E P B→Q (rS (.bool false)) (rdS sl i)):TC Z (tblG Tryz.prog LG GG) X 88 [.ptr 0 0,rS (.int .i64 k)] (rdR sl i) Q R:=by
 refine kind_tc C hi ?_
 by_cases h:(nowT ts i).kind=k
 ·rw[if_pos h] at hG;rw[decide_eq_true h];exact h1 (kd_lt (by rw[h];exact h0)) hG
 ·rw[if_neg h] at hG;rw[decide_eq_false h];exact h2 hG
theorem want_st(C:PCtx Z X W ts sl){s:List UInt8}{k:Nat→PR}(hG:Gd E P (wantB ts s i k))(hs:s≠ [])(hi:i≤ts.length)(hE : ∀e,E e→R (W (nowT ts e).line))(h1:i<ts.length→Gd E P (k (i+1))→Q (.tup []) (rdS sl (i+1))):TC Z (tblG Tryz.prog LG GG) X 51 [.ptr 0 0,rS (.string ⟨⟨s⟩⟩)] (rdR sl i) Q R:=by
 unfold wantB at hG
 refine want_tc C hs hi (fun h hl=> ?_) (fun h=> ?_)
 ·rw[if_pos h] at hG;exact h1 hl hG
 ·rw[if_neg (by rw[h];decide)] at hG;exact hE _ hG
theorem wantK_st(C:PCtx Z X W ts sl){kd:Int}{k:List UInt8→Nat→PR}(hG:Gd E P (wantK ts kd i k))(h0:kd≠0)(hi:i≤ts.length)(hE : ∀e,E e→R (W (nowT ts e).line))(h1:i<ts.length→Gd E P (k (nowT ts i).text (i+1))→Q (rS (.string ⟨⟨(nowT ts i).text⟩⟩)) (rdS sl (i+1))):TC Z (tblG Tryz.prog LG GG) X 55 [.ptr 0 0,rS (.int .i64 kd)] (rdR sl i) Q R:=by
 unfold wantK at hG
 refine wantKind_tc C h0 hi (fun h hl=> ?_) (fun h=> ?_)
 ·rw[if_pos h] at hG;exact h1 hl hG
 ·rw[if_neg h] at hG;exact hE _ hG
theorem fail_st(C:PCtx Z X W ts sl)(hi:i≤ts.length)(hG:Gd E P (some (.error i)))(hE : ∀e,E e→R (W (nowT ts e).line)):TC Z (tblG Tryz.prog LG GG) X 87 [.ptr 0 0] (rdR sl i) Q R:=C.fail i Q R hi (hE i hG)
theorem operator_st(C:PCtx Z X W ts sl){A:PR}{B:Nat→Nat→PR}(hG:Gd E P (match opT ts i with | .error e=>some (.error e) | .ok (0,_)=>A | .ok (op+1,j)=>B op j))(hi:i≤ts.length)(hE : ∀e,E e→R (W (nowT ts e).line))(h0:Gd E P A→Q (rS (.int .i64 0)) (rdS sl i))(h1 : ∀op j,i<j→j≤ts.length→Gd E P (B op j)→Q (rS (.int .i64 ((op+1:Nat):Int))) (rdS sl j)):TC Z (tblG Tryz.prog LG GG) X 166 [.ptr 0 0] (rdR sl i) Q R:=by
 have ho:=opT_gd hi
 refine operator_tc C hi (fun e h=> ?_) (fun op j h hj=> ?_)
 ·rw[h] at hG;exact hE e hG
 ·rw[h] at hG ho
  cases op with
  | zero=>
    rcases ho with ⟨_,e⟩ | ⟨h,_⟩
    ·subst e;exact h0 hG
    ·exact absurd rfl h
  | succ op=>
    rcases ho with ⟨h,_⟩ | ⟨_,h2,_⟩
    ·cases h
    ·exact h1 op j h2 hj hG
theorem augment_st(C:PCtx Z X W ts sl){A B:PR}(hG:Gd E P (if augT ts i=0 then A else B))(hi:i≤ts.length)(h1:augT ts i≠0→i<ts.length→Gd E P B→Q (rS (.int .i64 (augT ts i:Nat))) (rdS sl (i+1)))(h2:Gd E P A→Q (rS (.int .i64 0)) (rdS sl i)):TC Z (tblG Tryz.prog LG GG) X 128 [.ptr 0 0] (rdR sl i) Q R:=by
 refine augment_tc C hi (fun h hl=> ?_) (fun h=> ?_)
 ·rw[if_neg h] at hG;exact h1 h hl hG
 ·rw[if_pos h] at hG;exact h2 hG
theorem rul_st{f:Nat}{a:NT}{F:FuncId}{args:List AV}(h:PC Z X W ts sl f a F args ans1){k:Nd→Nat→PR}(hG:Gd E P (pb1 (gr ts f a i) k))(hg:a.good)(ha:a.acc=none)(hE : ∀e,E e→R (W (nowT ts e).line))(hi:i≤ts.length)(h1 : ∀n l x o ks j,i+a.min≤j→j≤ts.length→Gd E P (k (.mk n l x o ks) j)→Q (ndA (.mk n l x o ks)) (rdS sl j)):TC Z (tblG Tryz.prog LG GG) X F args (rdR sl i) Q R:=by
 rw[gd_pb1] at hG
 refine h i Q R _ _ hi (gr_post hg hi hG) (fun e he=>hE e he.1) fun l j ⟨⟨t,e,hP⟩,hp⟩ hj=> ?_
 subst e
 obtain⟨n,l,x,o,ks⟩:=t
 exact h1 n l x o ks j hp.1 hp.2.1 hP
theorem lst_st{f:Nat}{a:NT}{F:FuncId}{args:List AV}(h:PC Z X W ts sl f a F args ansL){k:List Nd→Nat→PR}(hG:Gd E P (pb (gr ts f a i) k))(hg:a.good)(ha:a.acc=some (a.acc.getD 0))(hE : ∀e,E e→R (W (nowT ts e).line))(hi:i≤ts.length)(h1 : ∀l j,i≤j→j≤ts.length→2*l.length+i≤2*a.acc.getD 0+j+1→Gd E P (k l j)→Q (ansL l) (rdS sl j)):TC Z (tblG Tryz.prog LG GG) X F args (rdR sl i) Q R:=by
 rw[gd_pb] at hG
 refine h i Q R _ _ hi (gr_post hg hi hG) (fun e he=>hE e he.1) fun l j ⟨hP,hp⟩ hj=> ?_
 obtain⟨p1,p2,p3⟩:=hp
 rw[ha] at p3
 exact h1 l j (by omega) p2 p3.1 hP
theorem tal_st{f:Nat}{a:NT}{F:FuncId}{args:List AV}(h:PC Z X W ts sl f a F args ans1)(hG:Gd E P (gr ts f a i))(hg:a.good)(ha:a.acc=none)(hE : ∀e,E e→R (W (nowT ts e).line))(hi:i≤ts.length)(h1 : ∀n l x o ks j,i+a.min≤j→j≤ts.length→P [.mk n l x o ks] j→Q (ndA (.mk n l x o ks)) (rdS sl j)):TC Z (tblG Tryz.prog LG GG) X F args (rdR sl i) Q R:=by
 refine h i Q R _ _ hi (gr_post hg hi hG) (fun e he=>hE e he.1) fun l j ⟨hP,hp⟩ hj=> ?_
 have h3:=hp.2.2
 rw[ha] at h3
 obtain⟨t,rfl⟩:=nd_one_of h3
 obtain⟨n,l,x,o,ks⟩:=t
 exact h1 n l x o ks j hp.1 hp.2.1 hP
end
end Can
end Go.Proofs.YtnankhlanilbbaaGreat
end
section
namespace Go.Proofs.YtnankhlanilbbaaGreat
namespace Can
set_option linter.unusedSimpArgs false
set_option linter.unusedVariables false
mutual
def htN:Nd→Nat
 | .mk _ _ _ _ ks=>htL ks+1
def htL:List Nd→Nat
 | []=>0
 | n::ks=>max (htN n) (htL ks)
end
theorem htL_drop{ks:List Nd}{i:Nat}{t:Nd}(h:ks[i]? = some t):htL (ks.drop i)=max (htN t) (htL (ks.drop (i+1))):=by
 obtain⟨hi,rfl⟩:=List.getElem?_eq_some_iff.1 h
 rw[List.drop_eq_getElem_cons hi]
 rfl
theorem htL_mem : ∀ {ks:List Nd} {t:Nd},t∈ks→htN t≤htL ks
 | n::ks,t,h=>by
   rcases List.mem_cons.1 h with rfl | h
   ·exact Nat.le_max_left _ _
   ·exact Nat.le_trans (htL_mem h) (Nat.le_max_right _ _)
mutual
def szN:Nd→Nat
 | .mk _ _ _ _ ks=>szL ks+1
def szL:List Nd→Nat
 | []=>0
 | n::ks=>szN n+szL ks
end
mutual
theorem ht_szN : ∀n:Nd,htN n≤szN n
 | .mk _ _ _ _ ks=>Nat.succ_le_succ (ht_szL ks)
theorem ht_szL : ∀ks:List Nd,htL ks≤szL ks
 | []=>Nat.le_refl _
 | n::ks=>Nat.max_le.2 ⟨Nat.le_trans (ht_szN n) (Nat.le_add_right _ _),Nat.le_trans (ht_szL ks) (Nat.le_add_left _ _)⟩
end
theorem szL_app : ∀ {a b:List Nd},szL (a++b)=szL a+szL b
 | [],b=>(Nat.zero_add _).symm
 | n::a,b=>by simp only[List.cons_append,szL,szL_app,Nat.add_assoc]
def NT.sz:NT→Nat
 | .params _ _ c=>szL c
 | .row _ b=>szL b
 | .exprsL _ b=>szL b
 | .orL a=>szN a
 | .andL a=>szN a
 | .cmpL a b=>szN a+szL b
 | .arithL a=>szN a
 | .termL a=>szN a
 | .primL a=>szN a
 | .index a=>szN a
 | .clauses a=>szL a
 | .dictL _ b=>szL b
 | .placesL _ b=>szL b
 | .names _ _ c=>szL c
 | .asgL _ b=>szL b
 | .blockL a=>szL a
 | .triesL a=>szL a
 | .triesF _ b=>szL b
 | .top a=>szL a
 | _=>0
def NT.lo:NT→Nat
 | .atom=>50
 | .primary=>50
 | .factor=>50
 | .term=>50
 | .arith=>50
 | .compare=>49
 | .expr=>49
 | .exprs=>48
 | .one=>50
 | .places=>49
 | .value=>47
 | .plain=>40
 | .simple=>40
 | .block=>30
 | .stmt=>30
 | .ifs _=>20
 | .not=>49
 | .and=>49
 | .or=>49
 | _=>0
def NT.ad:NT→Nat
 | .exprsL _ _=>1
 | .cmpL _ _=>1
 | .dictL _ _=>1
 | .placesL _ _=>1
 | .params _ _ _=>1
 | .maybe _ _ _=>1
 | .asgL _ _=>1
 | .list _=>1
 | .braces _=>1
 | .triesF _ _=>1
 | _=>0
def GdT (P:List Nd→Nat→Prop)(r:PR):Prop:=Gd (fun _=>True) P r
theorem gd_and{E E':Nat→Prop}{P P':List Nd→Nat→Prop}{r:PR}(h:Gd E P r)(h':Gd E' P' r):Gd (fun e=>E e∧E' e) (fun l j=>P l j∧P' l j) r:=by
 match r,h,h' with
 | some (.error e),h,h'=>exact⟨h,h'⟩
 | some (.ok (l,j)),h,h'=>exact⟨h,h'⟩
theorem gt_if{ts:List PT}{s:List UInt8}{i:Nat}{a b:PR}{P:List Nd→Nat→Prop}(h1:i<ts.length→GdT P a)(h2:GdT P b):GdT P (if isT ts i s=true then a else b):=gd_if h1 h2
theorem gt_ite{c:Prop}[Decidable c]{a b:PR}{P:List Nd→Nat→Prop}(h1:c→GdT P a)(h2 : ¬c→GdT P b):GdT P (if c then a else b):=gd_ite h1 h2
theorem gt_wantB{ts:List PT}{s:List UInt8}{i:Nat}{k:Nat→PR}{P:List Nd→Nat→Prop}(h2:i<ts.length→GdT P (k (i+1))):GdT P (wantB ts s i k):=gd_wantB trivial h2
theorem gt_wantK{ts:List PT}{kd:Int}(h0:kd≠0){i:Nat}{k:List UInt8→Nat→PR}{P:List Nd→Nat→Prop}(h2:i<ts.length→GdT P (k (nowT ts i).text (i+1))):GdT P (wantK ts kd i k):=gd_wantK h0 trivial h2
theorem gt_pk{t:Nd}{j:Nat}{P:List Nd→Nat→Prop}(h:P [t] j):GdT P (pk1 t j):=h
theorem gt_ok{l:List Nd}{j:Nat}{P:List Nd→Nat→Prop}(h:P l j):GdT P (some (.ok (l,j))):=h
theorem gt_er{e:Nat}{P:List Nd→Nat→Prop}:GdT P (some (.error e)):=trivial
def HtOk (ts:List PT)(f:Nat):Prop:=∀(a:NT) (i:Nat),a.good→i≤ts.length→ts.length*64+a.rank<f+i*64→GdT (fun l j=>szL l+64*i+a.lo≤a.sz+64*j+a.ad) (gr ts f a i)
theorem HtOk.one{ts:List PT}{f:Nat}(h:HtOk ts f){a:NT}{i:Nat}{P:List Nd→Nat→Prop}{k:Nd→Nat→PR}(hg:a.good)(hi:i≤ts.length)(hf:ts.length*64+a.rank<f+i*64)(ha:a.acc=none)(hP : ∀t j,i+a.min≤j→j≤ts.length→szN t+64*i+a.lo≤a.sz+64*j+a.ad→GdT P (k t j)):GdT P (pb1 (gr ts f a i) k):=by
 unfold GdT
 rw[gd_pb1]
 refine(gd_and (gr_gd f a i hg hi hf) (h a i hg hi hf)).mono (fun _ _=>trivial) fun l j h=> ?_
 obtain⟨⟨h1,h2,h3⟩,h4⟩:=h
 rw[ha] at h3
 obtain⟨t,rfl⟩:=nd_one_of h3
 exact⟨t,rfl,hP t j h1 h2 h4⟩
theorem HtOk.lst{ts:List PT}{f:Nat}(h:HtOk ts f){a:NT}{i:Nat}{P:List Nd→Nat→Prop}{k:List Nd→Nat→PR}(hg:a.good)(hi:i≤ts.length)(hf:ts.length*64+a.rank<f+i*64)(hP : ∀l j,i+a.min≤j→j≤ts.length→szL l+64*i+a.lo≤a.sz+64*j+a.ad→GdT P (k l j)):GdT P (pb (gr ts f a i) k):=by
 unfold GdT
 rw[gd_pb]
 refine(gd_and (gr_gd f a i hg hi hf) (h a i hg hi hf)).mono (fun _ _=>trivial) fun l j h=> ?_
 obtain⟨⟨h1,h2,h3⟩,h4⟩:=h
 exact hP l j h1 h2 h4
theorem HtOk.nxt{ts:List PT}{f:Nat}(h:HtOk ts f){a:NT}{i:Nat}{P:List Nd→Nat→Prop}(hg:a.good)(hi:i≤ts.length)(hf:ts.length*64+a.rank<f+i*64)(hP : ∀l j,i+a.min≤j→j≤ts.length→szL l+64*i+a.lo≤a.sz+64*j+a.ad→P l j):GdT P (gr ts f a i):=
 (gd_and (gr_gd f a i hg hi hf) (h a i hg hi hf)).mono (fun _ _=>trivial) fun l j ⟨⟨h1,h2,h3⟩,h4⟩=>hP l j h1 h2 h4
theorem gt_op{ts:List PT}{i:Nat}(hi:i≤ts.length){P:List Nd→Nat→Prop}{A:PR}{B:Nat→Nat→PR}(hA:GdT P A)(hB : ∀op j,i<j→j≤ts.length→GdT P (B op j)):GdT P (match opT ts i with | .error e=>some (.error e) | .ok (0,_)=>A | .ok (op+1,j)=>B op j):=by
 have ho:=opT_gd hi
 match opT ts i,ho with
 | .error e,ho=>exact gt_er
 | .ok (0,_),_=>exact hA
 | .ok (op+1,j),ho=>
   rcases ho with ⟨h,_⟩ | ⟨_,h1,h2⟩
   ·cases h
   ·exact hB op j h1 h2
set_option maxHeartbeats 4000000 in
theorem htOk_succ{ts:List PT}{f:Nat}(ih:HtOk ts f):HtOk ts (f+1):=by
 intro a i hg hi hf
 cases a
 case' maybe k l c=>cases c
 case' asgL l acc=>obtain⟨t,ht⟩:=last_ne hg
 case' cmpL n acc=>cases hb:acc.isEmpty
 all_goals first | simp only[gr,ht] | simp only[gr,hb,Bool.false_eq_true,if_false,if_true] | simp only[gr,Bool.false_eq_true,if_false,if_true]
 case' cmpL.false=>refine gt_op hi ?_ fun op j h1 h2=> ?_
 case' cmpL.true=>refine gt_op hi ?_ fun op j h1 h2=> ?_
 all_goals (repeat' first | (have h0:=kd_lt (by rw[h];decide);clear h) | (have h0:=kd_lt (i:=i) (ts:=ts) (by omega);clear h) | (have h0:=augT_lt h;clear h) | (with_reducible refine gt_if (fun h=> ?_) ?_) | ((with_reducible refine gt_wantB ?_);intro h) | ((with_reducible refine gt_wantK ?_ ?_);decide;intro h) | (with_reducible exact gt_er) | ((with_reducible refine gt_pk ?_);(simp only[NT.min,NT.sz,NT.lo,NT.ad,szN,szL,szL_app];omega)) | ((with_reducible refine gt_ok ?_);(simp only[NT.min,NT.sz,NT.lo,NT.ad,szN,szL,szL_app];omega)) | ((with_reducible refine ih.one ?_ ?_ ?_ ?_ ?_);(first | exact True.intro | simp[NT.good]);omega;(simp only[NT.rank] at hf⊢;omega);rfl;intro t j g1 g3 g7;simp only[NT.min,NT.sz,NT.lo,NT.ad,szN,szL,szL_app] at g1 g7) | ((with_reducible refine ih.lst ?_ ?_ ?_ ?_);(first | exact True.intro | simp[NT.good]);omega;(simp only[NT.rank] at hf⊢;omega);intro l j g1 g3 g7;simp only[NT.min,NT.sz,NT.lo,NT.ad,szN,szL,szL_app] at g1 g7) | ((with_reducible refine ih.nxt ?_ ?_ ?_ ?_);(first | exact True.intro | simp[NT.good]);omega;(simp only[NT.rank] at hf⊢;omega);intro l j g1 g3 g7;simp only[NT.min,NT.sz,NT.lo,NT.ad,szN,szL,szL_app] at g1 g7⊢;omega) | (with_reducible refine gt_ite (fun h=> ?_) (fun h=> ?_)))
theorem gr_ht{ts:List PT} : ∀f,HtOk ts f
 | 0=>fun a i _ hi h=>by omega
 | f+1=>htOk_succ (gr_ht f)
end Can
end Go.Proofs.YtnankhlanilbbaaGreat
end
section
namespace Go.Proofs.YtnankhlanilbbaaGreat
namespace Can
open Go Go.RowKit
set_option linter.unusedSimpArgs false
set_option linter.unusedVariables false
set_option maxRecDepth 4000
attribute [local irreducible] TC isT nowT begT
theorem wr_inc'{i n:Nat}(h:i<n)(hn:n≤maxLen):(IntKind.wrap .i64 ((i:Int)+1))=((i+1:Nat):Int):=by
 rw[maxLen_eq] at hn
 rw[w_i64 (by omega) (by omega)];omega
section
variable {Z:TP} {X:Pan} {R:Value→Prop} {Q:AV→List SV→Prop}
theorem leaf_tc{k:Int}(h4:4≤k)(h7:k≤7)(hQ:Q (rS (.int .i64 (leafK k:Nat))) []):TC Z (tblG Tryz.prog LG GG) X 142 [rS (.int .i64 k)] none Q R:=by
 refine tc_rG dt_ok (by rfl) (by kernel_rfl) ?_
 conv in (rF _ _).body=>reduce
 conv in (rF _ _).res=>reduce
 obtain rfl | rfl | rfl | rfl:k=4∨k=5∨k=6∨k=7:=by omega
 all_goals
  conv=>whnf
  exact hQ
theorem single_tc{k:Nat}{l:Int}{x:List UInt8}{o:Nat}{ks:List Nd}(hQ:Q (rS (.bool (singleN (.mk k l x o ks)))) []):TC Z (tblG Tryz.prog LG GG) X 94 [ndA (.mk k l x o ks)] none Q R:=by
 have e:singleN (.mk k l x o ks)=decide (k=36∨k=45∨k=46):=rfl
 rw[e] at hQ
 refine tc_rG dt_ok (by rfl) (by kernel_rfl) ?_
 conv in (rF _ _).body=>reduce
 conv in (rF _ _).res=>reduce
 by_cases h1:k=36
 ·subst h1
  conv=>whnf
  exact hQ
 by_cases h2:k=45
 ·subst h2
  conv=>whnf
  exact hQ
 by_cases h3:k=46
 ·subst h3
  conv=>whnf
  exact hQ
 rw[decide_eq_false (by omega)] at hQ
 conv=>whnf
 refine ifT_c (fun h=>by exfalso;simp at h;omega) fun h=> ?_
 conv=>whnf
 refine ifT_c (fun h=>by exfalso;simp at h;omega) fun h=> ?_
 conv=>whnf
 refine ifT_c (fun h=>by exfalso;simp at h;omega) fun h=> ?_
 conv=>whnf
 exact hQ
theorem single_st{k:Nat}{l:Int}{x:List UInt8}{o:Nat}{ks:List Nd}{E:Nat→Prop}{P:List Nd→Nat→Prop}{A B:PR}(hG:Gd E P (if singleN (.mk k l x o ks)=true then A else B))(h1:Gd E P A→Q (rS (.bool true)) [])(h2:Gd E P B→Q (rS (.bool false)) []):TC Z (tblG Tryz.prog LG GG) X 94 [ndA (.mk k l x o ks)] none Q R:=by
 refine single_tc ?_
 cases h:singleN (.mk k l x o ks) with
 | true=>rw[if_pos h] at hG;exact h1 hG
 | false=>rw[if_neg (by rw[h];decide)] at hG;exact h2 hG
theorem placesN_drop{ks:List Nd}{i:Nat}{t:Nd}(h:ks[i]? = some t):placesN (ks.drop i)=(placeN t&&placesN (ks.drop (i+1))):=by
 obtain⟨hi,rfl⟩:=List.getElem?_eq_some_iff.1 h
 rw[List.drop_eq_getElem_cons hi]
 rfl
noncomputable def nsz:Nd→Nat:=fun t=>SizeOf.sizeOf t
theorem nsz_lt{k:Nat}{l:Int}{x:List UInt8}{o:Nat}{ks:List Nd}{t:Nd}(h:t∈ks):nsz t<nsz (.mk k l x o ks):=by
 have h1:=List.sizeOf_lt_of_mem h
 unfold nsz
 rw[Nd.mk.sizeOf_spec]
 omega
theorem place_tc : ∀(N:Nat) (k:Nat) (l:Int) (x:List UInt8) (o:Nat) (ks:List Nd),nsz (.mk k l x o ks)<N→∀(Q:AV→List SV→Prop) (R:Value→Prop),Q (rS (.bool (placeN (.mk k l x o ks)))) []→TC Z (tblG Tryz.prog LG GG) X 124 [ndA (.mk k l x o ks)] none Q R:=by
 intro N
 induction N with
 | zero=>intro k l x o ks h;exact absurd h (Nat.not_lt_zero _)
 | succ N ih=>
 intro k l x o ks hN Q R hQ
 refine tc_rG dt_ok (by rfl) (by kernel_rfl) ?_
 conv in (rF _ _).body=>reduce
 conv in (rF _ _).res=>reduce
 by_cases hk:k=52∨k=51
 ·have e:placeN (.mk k l x o ks)=(placesN ks && !ks.isEmpty):=if_pos hk
  rw[e] at hQ
  rcases hk with rfl | rfl
  all_goals
   conv=>whnf
   refine loop_1 3 (fun m a s=>∃i:Nat,a=rS (.int .i64 (i:Nat))∧s=⟨0,[oN (nA _ l x o ks)]⟩∧m+i=ks.length∧placesN ks=placesN (ks.drop i)) ks.length [] rfl ⟨0,rfl,rfl,rfl,rfl⟩ ?_
   rintro m a f s ⟨i,rfl,rfl,hm,hp⟩
   conv=>whnf
   intro hmx
   conv=>whnf
   refine ifT_c (fun h=> ?_) fun h=> ?_
   ·have hi:i<ks.length:=by simp[ndsS_len] at h;omega
    obtain⟨t,ht⟩ : ∃t,ks[i]? = some t:=⟨_,List.getElem?_eq_getElem hi⟩
    have hd:=placesN_drop ht
    have hlt:=nsz_lt (List.mem_of_getElem? ht) (k:=52) (l:=l) (x:=x) (o:=o)
    have hlt2:=nsz_lt (List.mem_of_getElem? ht) (k:=51) (l:=l) (x:=x) (o:=o)
    obtain⟨k1,l1,x1,o1,ks1⟩:=t
    conv=>whnf
    refine⟨rfl,i,_,rfl,ndsS_get ht,?_⟩
    conv=>whnf
    refine ih k1 l1 x1 o1 ks1 (by omega) _ _ ?_
    conv=>whnf
    cases hpl:placeN (.mk k1 l1 x1 o1 ks1) with
    | true=>
      rw[hpl,Bool.true_and] at hd
      conv=>whnf
      rw[ndsS_len] at hmx
      exact⟨m-1,[],by omega,rfl,i+1,congrArg (fun n=>rS (.int .i64 n)) (wr_inc' hi hmx),rfl,by omega,hp.trans hd⟩
    | false=>
      rw[hp,hd,hpl] at hQ
      conv=>whnf
      exact hQ
   ·have hi:i=ks.length:=by simp[ndsS_len] at h;omega
    subst hi
    have hp:placesN ks=true:=by rw[hp,List.drop_length];rfl
    rw[hp,Bool.true_and] at hQ
    conv=>whnf
    intro hmx
    conv=>whnf
    refine ifT_c (fun h=> ?_) fun h=> ?_
    ·have:ks.isEmpty=false:=by cases ks;simp[ndsS] at h;rfl
     rw[this] at hQ
     conv=>whnf
     exact hQ
    ·have:ks.isEmpty=true:=by cases ks;rfl;simp[ndsS] at h
     rw[this] at hQ
     conv=>whnf
     exact hQ
 ·have e:placeN (.mk k l x o ks)=decide (k=36∨k=45∨k=46):=if_neg hk
  have e':singleN (.mk k l x o ks)=decide (k=36∨k=45∨k=46):=rfl
  rw[e,←e'] at hQ
  conv=>whnf
  refine ifT_c (fun h=> ?_) fun h=>by exfalso;simp at h;omega
  conv=>whnf
  refine ifT_c (fun h=> ?_) fun h=>by exfalso;simp at h;omega
  conv=>whnf
  refine single_tc ?_
  conv=>whnf
  cases hs:singleN (.mk k l x o ks) with
  | true=>
    rw[hs] at hQ
    conv=>whnf
    exact hQ
  | false=>
    rw[hs] at hQ
    conv=>whnf
    exact hQ
theorem place_st{k:Nat}{l:Int}{x:List UInt8}{o:Nat}{ks:List Nd}{E:Nat→Prop}{P:List Nd→Nat→Prop}{A B:PR}(hG:Gd E P (if placeN (.mk k l x o ks)=true then A else B))(h1:Gd E P A→Q (rS (.bool true)) [])(h2:Gd E P B→Q (rS (.bool false)) []):TC Z (tblG Tryz.prog LG GG) X 124 [ndA (.mk k l x o ks)] none Q R:=by
 refine place_tc _ k l x o ks (Nat.lt_succ_self _) Q R ?_
 cases h:placeN (.mk k l x o ks) with
 | true=>rw[if_pos h] at hG;exact h1 hG
 | false=>rw[if_neg (by rw[h];decide)] at hG;exact h2 hG
theorem max_int(a b:Nat):(if true=true then (if ((b:Nat):Int)>(a:Nat) then ((b:Nat):Int) else (a:Nat)) else if ((b:Nat):Int)<(a:Nat) then ((b:Nat):Int) else (a:Nat))=((max a b:Nat):Int):=by
 rw[if_pos rfl]
 split<;>omega
theorem height_tc : ∀(N:Nat) (k:Nat) (l:Int) (x:List UInt8) (o:Nat) (ks:List Nd),nsz (.mk k l x o ks)<N→htL ks+1≤9223372036854775807→∀(Q:AV→List SV→Prop) (R:Value→Prop),Q (rS (.int .i64 (htL ks+1:Nat))) []→TC Z (tblG Tryz.prog LG GG) X 17 [ndA (.mk k l x o ks)] none Q R:=by
 intro N
 induction N with
 | zero=>intro k l x o ks h;exact absurd h (Nat.not_lt_zero _)
 | succ N ih=>
 intro k l x o ks hN hB Q R hQ
 refine tc_rG dt_ok (by rfl) (by kernel_rfl) ?_
 conv in (rF _ _).body=>reduce
 conv in (rF _ _).res=>reduce
 conv=>whnf
 refine loop_2 4 3 (fun m a b s=>∃i h:Nat,a=rS (.int .i64 (i:Nat))∧b=rS (.int .i64 (h:Nat))∧s=⟨0,[oN (nA k l x o ks)]⟩∧m+i=ks.length∧max h (htL (ks.drop i))=htL ks) ks.length [] rfl ⟨0,0,rfl,rfl,rfl,rfl,Nat.zero_max _⟩ ?_
 rintro m a b f s ⟨i,h,rfl,rfl,rfl,hm,hp⟩
 conv=>whnf
 intro hmx
 conv=>whnf
 refine ifT_c (fun hc=> ?_) fun hc=> ?_
 ·have hi:i<ks.length:=by simp[ndsS_len] at hc;omega
  obtain⟨t,ht⟩ : ∃t,ks[i]? = some t:=⟨_,List.getElem?_eq_getElem hi⟩
  have hd:=htL_drop ht
  have hlt:=nsz_lt (List.mem_of_getElem? ht) (k:=k) (l:=l) (x:=x) (o:=o)
  have hht:=htL_mem (List.mem_of_getElem? ht)
  obtain⟨k1,l1,x1,o1,ks1⟩:=t
  have e1:htN (.mk k1 l1 x1 o1 ks1)=htL ks1+1:=rfl
  conv=>whnf
  refine⟨rfl,i,_,rfl,ndsS_get ht,?_⟩
  conv=>whnf
  refine ih k1 l1 x1 o1 ks1 (by omega) (by omega) _ _ ?_
  conv=>whnf
  rw[ndsS_len] at hmx
  refine⟨m-1,[],by omega,rfl,i+1,max h (htL ks1+1),congrArg (fun n=>rS (.int .i64 n)) (wr_inc' hi hmx),?_,rfl,by omega,by rw[←hp,hd,e1,Nat.max_assoc]⟩
  exact congrArg (fun n=>rS (.int .i64 n)) (max_int h (htL ks1+1))
 ·have hi:i=ks.length:=by simp[ndsS_len] at hc;omega
  subst hi
  have hp:h=htL ks:=by rw[←hp,List.drop_length];exact(Nat.max_zero _).symm
  subst hp
  conv=>whnf
  exact q_eq (congrArg (fun n=>rS (.int .i64 n)) (wr_inc' (Nat.lt_succ_self _) (by rw[maxLen_eq];omega))) rfl hQ
end
end Can
end Go.Proofs.YtnankhlanilbbaaGreat
end
section
namespace Go.Proofs.YtnankhlanilbbaaGreat
namespace Can
open Go Go.RowKit
set_option linter.unusedSimpArgs false
set_option linter.unusedVariables false
set_option maxRecDepth 4000
attribute [local irreducible] TC isT nowT begT placeN
structure PAll(Z:TP)(X:Pan)(W:Int→Value)(ts:List PT)(sl:Sl)(g:Nat):Prop where
 expr:PC Z X W ts sl g .expr 50 [.ptr 0 0] ans1
 or_:PC Z X W ts sl g .or 86 [.ptr 0 0] ans1
 and_:PC Z X W ts sl g .and 123 [.ptr 0 0] ans1
 not_:PC Z X W ts sl g .not 141 [.ptr 0 0] ans1
 compare:PC Z X W ts sl g .compare 156 [.ptr 0 0] ans1
 arith:PC Z X W ts sl g .arith 165 [.ptr 0 0] ans1
 term:PC Z X W ts sl g .term 171 [.ptr 0 0] ans1
 factor:PC Z X W ts sl g .factor 174 [.ptr 0 0] ans1
 primary:PC Z X W ts sl g .primary 93 [.ptr 0 0] ans1
 atom:PC Z X W ts sl g .atom 125 [.ptr 0 0] ans1
 exprs:PC Z X W ts sl g .exprs 54 [.ptr 0 0] ans1
 one:PC Z X W ts sl g .one 89 [.ptr 0 0] ans1
 places:PC Z X W ts sl g .places 53 [.ptr 0 0] ans1
 simple:PC Z X W ts sl g .simple 59 [.ptr 0 0] ans1
 plain:PC Z X W ts sl g .plain 95 [.ptr 0 0] ans1
 value:PC Z X W ts sl g .value 127 [.ptr 0 0] ans1
 block:PC Z X W ts sl g .block 52 [.ptr 0 0] ans1
 stmt:PC Z X W ts sl g .stmt 25 [.ptr 0 0] ans1
 params : ∀(cl:List UInt8) (ln:Int),cl≠ []→PC Z X W ts sl g (.params cl ln []) 56 [.ptr 0 0,rS (.int .i64 ln),rS (.string ⟨⟨cl⟩⟩)] ans1
 row : ∀(cl:List UInt8),cl≠ []→PC Z X W ts sl g (.row cl []) 57 [.ptr 0 0,rS (.string ⟨⟨cl⟩⟩)] ansL
 index : ∀(k:Nat) (l:Int) (x:List UInt8) (o:Nat) (ks:List Nd),PC Z X W ts sl g (.index (.mk k l x o ks)) 126 [.ptr 0 0,ndA (.mk k l x o ks)] ans1
 clauses:PC Z X W ts sl g (.clauses []) 157 [.ptr 0 0] ansL
 list : ∀(ln:Int),PC Z X W ts sl g (.list ln) 143 [.ptr 0 0,rS (.int .i64 ln)] ans1
 braces : ∀(ln:Int),PC Z X W ts sl g (.braces ln) 144 [.ptr 0 0,rS (.int .i64 ln)] ans1
 names : ∀(k:Nat) (ln:Int),PC Z X W ts sl g (.names k ln []) 92 [.ptr 0 0,rS (.int .i64 (k:Nat)),rS (.int .i64 ln)] ans1
 maybe : ∀(k:Nat) (ln:Int) (all:Bool),PC Z X W ts sl g (.maybe k ln all) 91 [.ptr 0 0,rS (.int .i64 (k:Nat)),rS (.int .i64 ln),rS (.bool all)] ans1
 ifs : ∀(ln:Int),PC Z X W ts sl g (.ifs ln) 49 [.ptr 0 0,rS (.int .i64 ln)] ans1
 tries : ∀(ln:Int),PC Z X W ts sl g (.tries ln) 58 [.ptr 0 0,rS (.int .i64 ln)] ans1
theorem tck{Z:TP}{X:Pan}{args:List AV}{self:Self}{Q:AV→List SV→Prop}{R:Value→Prop}(g:FuncId)(h:TC Z (tblG Tryz.prog LG GG) X g args self Q R):TC Z (tblG Tryz.prog LG GG) X g args self Q R:=h
set_option maxRecDepth 1000000 in
theorem pw_go{Pz:Prop}(hz:Pz:=by
 repeat' first
  | ((with_reducible refine tck 48 ?_);first | (refine has_st C hG (by first | decide | exact cl_ne) (by omega) (fun hl hG=> ?_) (fun hG=> ?_)<;>(conv=>whnf)))
  | ((with_reducible refine tck 24 ?_);first | (refine now_tc C (by omega) ?_;(conv=>whnf)))
  | ((with_reducible refine tck 51 ?_);first | (refine want_st C hG (by first | decide | exact cl_ne) (by omega) (by intro e he;first | exact hE e he | exact⟨True.intro,hE e he⟩) ?_;intro hl hG;(conv=>whnf)) | (refine want_kn C (by decide) (by omega) hb ?_;intro hl;(conv=>whnf)))
  | ((with_reducible refine tck 85 ?_);first | (refine is_st C hG (by first | decide | exact cl_ne) (by omega) (fun hb hl hG=> ?_) (fun hb hG=> ?_)<;>(conv=>whnf)) | (refine is_stf C hG (by first | decide | exact cl_ne) (by omega) (fun hG=> ?_) (fun hG=> ?_)<;>(conv=>whnf)))
  | ((with_reducible refine tck 55 ?_);first | (refine wantK_st C hG (by decide) (by omega) (by intro e he;first | exact hE e he | exact⟨True.intro,hE e he⟩) ?_;intro hl hG;(conv=>whnf)))
  | ((with_reducible refine tck 90 ?_);first | (refine begins_st C hG (by omega) (fun hG=> ?_) (fun hG=> ?_)<;>(conv=>whnf)))
  | ((with_reducible refine tck 88 ?_);first | (refine kind_st C hG (by decide) (by omega) (fun hl hG=> ?_) (fun hG=> ?_)<;>(conv=>whnf)))
  | ((with_reducible refine tck 50 ?_);first | (refine rul_st ihf.expr hG (by trivial) rfl (by intro e he;first | exact hE e he | exact⟨True.intro,hE e he⟩) (by omega) ?_;intro n1 l1 x1 o1 ks1 j1 hp1 hj1 hG;simp only[NT.min] at hp1;(conv=>whnf)) | (refine tal_st ihf.expr hG (by trivial) rfl (by intro e he;first | exact hE e he | exact⟨True.intro,hE e he⟩) (by omega) ?_;intro n1 l1 x1 o1 ks1 j1 hp1 hj1 hG;simp only[NT.min] at hp1;(conv=>whnf)))
  | ((with_reducible refine tck 86 ?_);first | (refine rul_st ihf.or_ hG (by trivial) rfl (by intro e he;first | exact hE e he | exact⟨True.intro,hE e he⟩) (by omega) ?_;intro n1 l1 x1 o1 ks1 j1 hp1 hj1 hG;simp only[NT.min] at hp1;(conv=>whnf)) | (refine tal_st ihf.or_ hG (by trivial) rfl (by intro e he;first | exact hE e he | exact⟨True.intro,hE e he⟩) (by omega) ?_;intro n1 l1 x1 o1 ks1 j1 hp1 hj1 hG;simp only[NT.min] at hp1;(conv=>whnf)))
  | ((with_reducible refine tck 123 ?_);first | (refine rul_st ihf.and_ hG (by trivial) rfl (by intro e he;first | exact hE e he | exact⟨True.intro,hE e he⟩) (by omega) ?_;intro n1 l1 x1 o1 ks1 j1 hp1 hj1 hG;simp only[NT.min] at hp1;(conv=>whnf)) | (refine tal_st ihf.and_ hG (by trivial) rfl (by intro e he;first | exact hE e he | exact⟨True.intro,hE e he⟩) (by omega) ?_;intro n1 l1 x1 o1 ks1 j1 hp1 hj1 hG;simp only[NT.min] at hp1;(conv=>whnf)))
  | ((with_reducible refine tck 141 ?_);first | (refine rul_st ihf.not_ hG (by trivial) rfl (by intro e he;first | exact hE e he | exact⟨True.intro,hE e he⟩) (by omega) ?_;intro n1 l1 x1 o1 ks1 j1 hp1 hj1 hG;simp only[NT.min] at hp1;(conv=>whnf)) | (refine tal_st ihf.not_ hG (by trivial) rfl (by intro e he;first | exact hE e he | exact⟨True.intro,hE e he⟩) (by omega) ?_;intro n1 l1 x1 o1 ks1 j1 hp1 hj1 hG;simp only[NT.min] at hp1;(conv=>whnf)))
  | ((with_reducible refine tck 156 ?_);first | (refine rul_st ihf.compare hG (by trivial) rfl (by intro e he;first | exact hE e he | exact⟨True.intro,hE e he⟩) (by omega) ?_;intro n1 l1 x1 o1 ks1 j1 hp1 hj1 hG;simp only[NT.min] at hp1;(conv=>whnf)) | (refine tal_st ihf.compare hG (by trivial) rfl (by intro e he;first | exact hE e he | exact⟨True.intro,hE e he⟩) (by omega) ?_;intro n1 l1 x1 o1 ks1 j1 hp1 hj1 hG;simp only[NT.min] at hp1;(conv=>whnf)))
  | ((with_reducible refine tck 165 ?_);first | (refine rul_st ihf.arith hG (by trivial) rfl (by intro e he;first | exact hE e he | exact⟨True.intro,hE e he⟩) (by omega) ?_;intro n1 l1 x1 o1 ks1 j1 hp1 hj1 hG;simp only[NT.min] at hp1;(conv=>whnf)) | (refine tal_st ihf.arith hG (by trivial) rfl (by intro e he;first | exact hE e he | exact⟨True.intro,hE e he⟩) (by omega) ?_;intro n1 l1 x1 o1 ks1 j1 hp1 hj1 hG;simp only[NT.min] at hp1;(conv=>whnf)))
  | ((with_reducible refine tck 171 ?_);first | (refine rul_st ihf.term hG (by trivial) rfl (by intro e he;first | exact hE e he | exact⟨True.intro,hE e he⟩) (by omega) ?_;intro n1 l1 x1 o1 ks1 j1 hp1 hj1 hG;simp only[NT.min] at hp1;(conv=>whnf)) | (refine tal_st ihf.term hG (by trivial) rfl (by intro e he;first | exact hE e he | exact⟨True.intro,hE e he⟩) (by omega) ?_;intro n1 l1 x1 o1 ks1 j1 hp1 hj1 hG;simp only[NT.min] at hp1;(conv=>whnf)))
  | ((with_reducible refine tck 174 ?_);first | (refine rul_st ihf.factor hG (by trivial) rfl (by intro e he;first | exact hE e he | exact⟨True.intro,hE e he⟩) (by omega) ?_;intro n1 l1 x1 o1 ks1 j1 hp1 hj1 hG;simp only[NT.min] at hp1;(conv=>whnf)) | (refine tal_st ihf.factor hG (by trivial) rfl (by intro e he;first | exact hE e he | exact⟨True.intro,hE e he⟩) (by omega) ?_;intro n1 l1 x1 o1 ks1 j1 hp1 hj1 hG;simp only[NT.min] at hp1;(conv=>whnf)))
  | ((with_reducible refine tck 93 ?_);first | (refine rul_st ihf.primary hG (by trivial) rfl (by intro e he;first | exact hE e he | exact⟨True.intro,hE e he⟩) (by omega) ?_;intro n1 l1 x1 o1 ks1 j1 hp1 hj1 hG;simp only[NT.min] at hp1;(conv=>whnf)) | (refine tal_st ihf.primary hG (by trivial) rfl (by intro e he;first | exact hE e he | exact⟨True.intro,hE e he⟩) (by omega) ?_;intro n1 l1 x1 o1 ks1 j1 hp1 hj1 hG;simp only[NT.min] at hp1;(conv=>whnf)))
  | ((with_reducible refine tck 125 ?_);first | (refine rul_st ihf.atom hG (by trivial) rfl (by intro e he;first | exact hE e he | exact⟨True.intro,hE e he⟩) (by omega) ?_;intro n1 l1 x1 o1 ks1 j1 hp1 hj1 hG;simp only[NT.min] at hp1;(conv=>whnf)) | (refine tal_st ihf.atom hG (by trivial) rfl (by intro e he;first | exact hE e he | exact⟨True.intro,hE e he⟩) (by omega) ?_;intro n1 l1 x1 o1 ks1 j1 hp1 hj1 hG;simp only[NT.min] at hp1;(conv=>whnf)))
  | ((with_reducible refine tck 54 ?_);first | (refine rul_st ihf.exprs hG (by trivial) rfl (by intro e he;first | exact hE e he | exact⟨True.intro,hE e he⟩) (by omega) ?_;intro n1 l1 x1 o1 ks1 j1 hp1 hj1 hG;simp only[NT.min] at hp1;(conv=>whnf)) | (refine tal_st ihf.exprs hG (by trivial) rfl (by intro e he;first | exact hE e he | exact⟨True.intro,hE e he⟩) (by omega) ?_;intro n1 l1 x1 o1 ks1 j1 hp1 hj1 hG;simp only[NT.min] at hp1;(conv=>whnf)))
  | ((with_reducible refine tck 89 ?_);first | (refine rul_st ihf.one hG (by trivial) rfl (by intro e he;first | exact hE e he | exact⟨True.intro,hE e he⟩) (by omega) ?_;intro n1 l1 x1 o1 ks1 j1 hp1 hj1 hG;simp only[NT.min] at hp1;(conv=>whnf)) | (refine tal_st ihf.one hG (by trivial) rfl (by intro e he;first | exact hE e he | exact⟨True.intro,hE e he⟩) (by omega) ?_;intro n1 l1 x1 o1 ks1 j1 hp1 hj1 hG;simp only[NT.min] at hp1;(conv=>whnf)))
  | ((with_reducible refine tck 53 ?_);first | (refine rul_st ihf.places hG (by trivial) rfl (by intro e he;first | exact hE e he | exact⟨True.intro,hE e he⟩) (by omega) ?_;intro n1 l1 x1 o1 ks1 j1 hp1 hj1 hG;simp only[NT.min] at hp1;(conv=>whnf)) | (refine tal_st ihf.places hG (by trivial) rfl (by intro e he;first | exact hE e he | exact⟨True.intro,hE e he⟩) (by omega) ?_;intro n1 l1 x1 o1 ks1 j1 hp1 hj1 hG;simp only[NT.min] at hp1;(conv=>whnf)))
  | ((with_reducible refine tck 59 ?_);first | (refine rul_st ihf.simple hG (by trivial) rfl (by intro e he;first | exact hE e he | exact⟨True.intro,hE e he⟩) (by omega) ?_;intro n1 l1 x1 o1 ks1 j1 hp1 hj1 hG;simp only[NT.min] at hp1;(conv=>whnf)) | (refine tal_st ihf.simple hG (by trivial) rfl (by intro e he;first | exact hE e he | exact⟨True.intro,hE e he⟩) (by omega) ?_;intro n1 l1 x1 o1 ks1 j1 hp1 hj1 hG;simp only[NT.min] at hp1;(conv=>whnf)))
  | ((with_reducible refine tck 95 ?_);first | (refine rul_st ihf.plain hG (by trivial) rfl (by intro e he;first | exact hE e he | exact⟨True.intro,hE e he⟩) (by omega) ?_;intro n1 l1 x1 o1 ks1 j1 hp1 hj1 hG;simp only[NT.min] at hp1;(conv=>whnf)) | (refine tal_st ihf.plain hG (by trivial) rfl (by intro e he;first | exact hE e he | exact⟨True.intro,hE e he⟩) (by omega) ?_;intro n1 l1 x1 o1 ks1 j1 hp1 hj1 hG;simp only[NT.min] at hp1;(conv=>whnf)))
  | ((with_reducible refine tck 127 ?_);first | (refine rul_st ihf.value hG (by trivial) rfl (by intro e he;first | exact hE e he | exact⟨True.intro,hE e he⟩) (by omega) ?_;intro n1 l1 x1 o1 ks1 j1 hp1 hj1 hG;simp only[NT.min] at hp1;(conv=>whnf)) | (refine tal_st ihf.value hG (by trivial) rfl (by intro e he;first | exact hE e he | exact⟨True.intro,hE e he⟩) (by omega) ?_;intro n1 l1 x1 o1 ks1 j1 hp1 hj1 hG;simp only[NT.min] at hp1;(conv=>whnf)))
  | ((with_reducible refine tck 52 ?_);first | (refine rul_st ihf.block hG (by trivial) rfl (by intro e he;first | exact hE e he | exact⟨True.intro,hE e he⟩) (by omega) ?_;intro n1 l1 x1 o1 ks1 j1 hp1 hj1 hG;simp only[NT.min] at hp1;(conv=>whnf)) | (refine tal_st ihf.block hG (by trivial) rfl (by intro e he;first | exact hE e he | exact⟨True.intro,hE e he⟩) (by omega) ?_;intro n1 l1 x1 o1 ks1 j1 hp1 hj1 hG;simp only[NT.min] at hp1;(conv=>whnf)) | (refine rul_st ihf2.block hG (by trivial) rfl (by intro e he;first | exact hE e he | exact⟨True.intro,hE e he⟩) (by omega) ?_;intro n1 l1 x1 o1 ks1 j1 hp1 hj1 hG;simp only[NT.min] at hp1;(conv=>whnf)))
  | ((with_reducible refine tck 25 ?_);first | (refine rul_st ihf.stmt hG (by trivial) rfl (by intro e he;first | exact hE e he | exact⟨True.intro,hE e he⟩) (by omega) ?_;intro n1 l1 x1 o1 ks1 j1 hp1 hj1 hG;simp only[NT.min] at hp1;(conv=>whnf)) | (refine tal_st ihf.stmt hG (by trivial) rfl (by intro e he;first | exact hE e he | exact⟨True.intro,hE e he⟩) (by omega) ?_;intro n1 l1 x1 o1 ks1 j1 hp1 hj1 hG;simp only[NT.min] at hp1;(conv=>whnf)))
  | ((with_reducible refine tck 56 ?_);first | (refine rul_st (ihf.params _ _ (by decide)) hG (by trivial) rfl (by intro e he;first | exact hE e he | exact⟨True.intro,hE e he⟩) (by omega) ?_;intro n1 l1 x1 o1 ks1 j1 hp1 hj1 hG;simp only[NT.min] at hp1;(conv=>whnf)) | (refine tal_st (ihf.params _ _ (by decide)) hG (by trivial) rfl (by intro e he;first | exact hE e he | exact⟨True.intro,hE e he⟩) (by omega) ?_;intro n1 l1 x1 o1 ks1 j1 hp1 hj1 hG;simp only[NT.min] at hp1;(conv=>whnf)))
  | ((with_reducible refine tck 57 ?_);first | (refine lst_st (ihf.row _ (by decide)) hG (by trivial) rfl (by intro e he;first | exact hE e he | exact⟨True.intro,hE e he⟩) (by omega) ?_;intro l1 j1 hp1 hj1 hb1 hG;simp only[NT.acc,Option.getD_some,List.length_nil] at hb1;(conv=>whnf)))
  | ((with_reducible refine tck 126 ?_);first | (refine rul_st (ihf.index _ _ _ _ _) hG (by trivial) rfl (by intro e he;first | exact hE e he | exact⟨True.intro,hE e he⟩) (by omega) ?_;intro n1 l1 x1 o1 ks1 j1 hp1 hj1 hG;simp only[NT.min] at hp1;(conv=>whnf)) | (refine tal_st (ihf.index _ _ _ _ _) hG (by trivial) rfl (by intro e he;first | exact hE e he | exact⟨True.intro,hE e he⟩) (by omega) ?_;intro n1 l1 x1 o1 ks1 j1 hp1 hj1 hG;simp only[NT.min] at hp1;(conv=>whnf)))
  | ((with_reducible refine tck 157 ?_);first | (refine lst_st ihf.clauses hG (by trivial) rfl (by intro e he;first | exact hE e he | exact⟨True.intro,hE e he⟩) (by omega) ?_;intro l1 j1 hp1 hj1 hb1 hG;simp only[NT.acc,Option.getD_some,List.length_nil] at hb1;(conv=>whnf)))
  | ((with_reducible refine tck 143 ?_);first | (refine rul_st (ihf.list _) hG (by trivial) rfl (by intro e he;first | exact hE e he | exact⟨True.intro,hE e he⟩) (by omega) ?_;intro n1 l1 x1 o1 ks1 j1 hp1 hj1 hG;simp only[NT.min] at hp1;(conv=>whnf)) | (refine tal_st (ihf.list _) hG (by trivial) rfl (by intro e he;first | exact hE e he | exact⟨True.intro,hE e he⟩) (by omega) ?_;intro n1 l1 x1 o1 ks1 j1 hp1 hj1 hG;simp only[NT.min] at hp1;(conv=>whnf)))
  | ((with_reducible refine tck 144 ?_);first | (refine rul_st (ihf.braces _) hG (by trivial) rfl (by intro e he;first | exact hE e he | exact⟨True.intro,hE e he⟩) (by omega) ?_;intro n1 l1 x1 o1 ks1 j1 hp1 hj1 hG;simp only[NT.min] at hp1;(conv=>whnf)) | (refine tal_st (ihf.braces _) hG (by trivial) rfl (by intro e he;first | exact hE e he | exact⟨True.intro,hE e he⟩) (by omega) ?_;intro n1 l1 x1 o1 ks1 j1 hp1 hj1 hG;simp only[NT.min] at hp1;(conv=>whnf)))
  | ((with_reducible refine tck 92 ?_);first | (refine rul_st (ihf.names _ _) hG (by trivial) rfl (by intro e he;first | exact hE e he | exact⟨True.intro,hE e he⟩) (by omega) ?_;intro n1 l1 x1 o1 ks1 j1 hp1 hj1 hG;simp only[NT.min] at hp1;(conv=>whnf)) | (refine tal_st (ihf.names _ _) hG (by trivial) rfl (by intro e he;first | exact hE e he | exact⟨True.intro,hE e he⟩) (by omega) ?_;intro n1 l1 x1 o1 ks1 j1 hp1 hj1 hG;simp only[NT.min] at hp1;(conv=>whnf)))
  | ((with_reducible refine tck 91 ?_);first | (refine rul_st (ihf.maybe _ _ _) hG (by trivial) rfl (by intro e he;first | exact hE e he | exact⟨True.intro,hE e he⟩) (by omega) ?_;intro n1 l1 x1 o1 ks1 j1 hp1 hj1 hG;simp only[NT.min] at hp1;(conv=>whnf)) | (refine tal_st (ihf.maybe _ _ _) hG (by trivial) rfl (by intro e he;first | exact hE e he | exact⟨True.intro,hE e he⟩) (by omega) ?_;intro n1 l1 x1 o1 ks1 j1 hp1 hj1 hG;simp only[NT.min] at hp1;(conv=>whnf)))
  | ((with_reducible refine tck 49 ?_);first | (refine rul_st (ihf.ifs _) hG (by trivial) rfl (by intro e he;first | exact hE e he | exact⟨True.intro,hE e he⟩) (by omega) ?_;intro n1 l1 x1 o1 ks1 j1 hp1 hj1 hG;simp only[NT.min] at hp1;(conv=>whnf)) | (refine tal_st (ihf.ifs _) hG (by trivial) rfl (by intro e he;first | exact hE e he | exact⟨True.intro,hE e he⟩) (by omega) ?_;intro n1 l1 x1 o1 ks1 j1 hp1 hj1 hG;simp only[NT.min] at hp1;(conv=>whnf)))
  | ((with_reducible refine tck 58 ?_);first | (refine rul_st (ihf.tries _) hG (by trivial) rfl (by intro e he;first | exact hE e he | exact⟨True.intro,hE e he⟩) (by omega) ?_;intro n1 l1 x1 o1 ks1 j1 hp1 hj1 hG;simp only[NT.min] at hp1;(conv=>whnf)) | (refine tal_st (ihf.tries _) hG (by trivial) rfl (by intro e he;first | exact hE e he | exact⟨True.intro,hE e he⟩) (by omega) ?_;intro n1 l1 x1 o1 ks1 j1 hp1 hj1 hG;simp only[NT.min] at hp1;(conv=>whnf)))
  | ((with_reducible refine tck 94 ?_);first | (refine single_st hG (fun hG=> ?_) (fun hG=> ?_)<;>(conv=>whnf)))
  | ((with_reducible refine tck 124 ?_);first | (refine place_st hG (fun hG=> ?_) (fun hG=> ?_)<;>(conv=>whnf)))
  | ((with_reducible refine tck 166 ?_);first | (refine operator_st C hG (by omega) (by intro e he;first | exact hE e he | exact⟨True.intro,hE e he⟩) (fun hG=> ?_) (fun op1 j1 hj0 hj1 hG=> ?_)<;>(conv=>whnf)))
  | ((with_reducible refine tck 128 ?_);first | (refine augment_st C hG (by omega) (fun ha hl hG=> ?_) (fun hG=> ?_)<;>(conv=>whnf)))
  | ((with_reducible refine tck 87 ?_);first | (refine fail_st C (by omega) hG (by intro e he;first | exact hE e he | exact⟨True.intro,hE e he⟩)))
  | (intro (hmx:_≤maxLen);(conv=>whnf))
  | exact⟨m,[],by omega,rfl,_,_,_,_,_,_,rfl,by omega,by omega,hG⟩
  | exact⟨m,[2],by omega,rfl,_,_,_,_,_,acc++ [.mk n1 l1 x1 o1 ks1],_,_,(by rw[ndsS_snoc];rfl),by omega,by omega,(by simp only[List.length_append,List.length_cons,List.length_nil];omega),hG⟩
  | exact⟨m,[2],by omega,rfl,_,_,_,accV_app rfl,rfl,by omega,by omega,(by simp only[List.length_append,List.length_cons,List.length_nil];omega),hG⟩
  | exact⟨m,[2],by omega,rfl,_,_,_,rfl,accV_app rfl,rfl,by omega,by omega,(by simp only[List.length_append,List.length_cons,List.length_nil];omega),hG⟩
  | exact⟨m,[3],by omega,rfl,_,_,_,rfl,accV_app rfl,rfl,by omega,by omega,(by simp only[List.length_append,List.length_cons,List.length_nil];omega),hG⟩
  | exact⟨m,[3],by omega,rfl,acc++ [.mk 43 (nowT ts j).line [] (op1+1) [.mk n1 l1 x1 o1 ks1]],_,(by rw[ndsS_snoc];rfl),by omega,by omega,(by simp only[List.length_append,List.length_cons,List.length_nil];omega),hG⟩
  | (refine ifT_c (fun h=> ?_) (fun h=> ?_);(have:acc= []:=by cases acc;rfl;(simp[ndsS] at h<;>omega));subst this;(conv=>whnf);exact hQ _ _ hG (by omega);(have:acc.isEmpty=false:=by cases acc;(simp[ndsS] at h<;>omega);rfl);rw[this] at hG;(conv=>whnf);exact hQ _ _ hG (by omega))
  | exact⟨m,[2],by omega,rfl,_,_,_,_,_,_,_,_,_,_,acc++ [_,_],_,(by rw[ndsS_app];rfl),by omega,by omega,(by simp only[List.length_append,List.length_cons,List.length_nil];omega),hG⟩
  | exact⟨m,[2],by omega,rfl,_,_,_,_,_,acc++ [.mk n1 l1 x1 o1 ks1],_,_,(by rw[ndsS_snoc];rfl),by omega,by omega,by simp,(by simp only[List.length_append,List.length_cons,List.length_nil];omega),hG⟩
  | (refine⟨rfl,acc.length-1,_,wr_dec hne hmx,ndsS_get (last_get htl),?_⟩;(conv=>whnf))
  | exact⟨m,[2],by omega,rfl,_,_,_,_,accV_app rfl,rfl,by omega,by omega,(by simp only[List.length_append,List.length_cons,List.length_nil] at *;omega),hG⟩
  | (refine⟨rfl,0,_,rfl,rfl,?_⟩;(conv=>whnf))
  | exact⟨m,[4],by omega,rfl,acc++ [Nd.mk 21 (nowT ts j).line [] 0 [Nd.mk n1 l1 x1 o1 ks1]],_,true,rfl,(by rw[ndsS_snoc];rfl),by omega,by omega,(by simp only[List.length_append,List.length_cons,List.length_nil];omega),(by simp only[List.length_append,List.length_cons,List.length_nil];omega), .inr ⟨rfl,hG⟩⟩
  | exact⟨m,[6],by omega,rfl,acc++ [_],_,false,rfl,(by rw[ndsS_snoc];rfl),by omega,by omega,(by simp only[List.length_append,List.length_cons,List.length_nil];omega),(by simp only[List.length_append,List.length_cons,List.length_nil];omega), .inl ⟨rfl,hG⟩⟩
  | (refine len1_c hG (by simp[ndsS_len];try omega) (fun hG=> ?_) (fun hG=> ?_)<;>(conv=>whnf))
  | (refine ifT_c (fun h=>by exfalso;simp[ndsS_len] at h;first | omega | (subst h;simp at hb1)) (fun h=> ?_);(conv=>whnf))
  | exact⟨m,[2],by omega,rfl,_,_,_,_,_,_,_,_,_,_,acc++ [.mk n1 l1 x1 o1 ks1],_,_,(by rw[ndsS_snoc];rfl),by omega,by omega,(by simp only[List.length_append,List.length_cons,List.length_nil];omega),gd_pb1.2 hG⟩
  | exact hQ _ _ (gd_pk1 hG) (by omega)
  | (refine⟨rfl,?_⟩;(conv=>whnf))
  | (refine⟨bdA (by simp only[List.length_append,List.length_cons,List.length_nil,ndsS_len];omega),?_⟩;(conv=>whnf))
  | exact hQ _ _ hG (by omega)
  | (refine tc_self (rd_wr C hl) ?_)
  | (refine ifT_c (fun h=>by exfalso;simp at h;omega) (fun h=> ?_);(conv=>whnf))
  | (refine ifT_c (fun h=> ?_) (fun h=>by exfalso;simp at h;omega);(conv=>whnf))
  | (refine q_eq ?_ ?_ (hQ _ _ hG (by omega))<;>first | rfl | exact sn_agg rfl | exact sn_row rfl | exact rd_wr C hl)
  | (have hG:=(hP2 _ _).1 hG;rcases f with _ | f;exact hG.elim;have ihf2:=ih f (by omega);simp only[gr] at hG)
  | (refine loop_0 (fun m s=>∃k l x o ks j,s=⟨0,[oR sl j,oN nzC,oN (nA k l x o ks)]⟩∧j≤ts.length∧m≤f∧Gd E P (gr ts m (.orL (.mk k l x o ks)) j)) f [] rfl ⟨_,_,_,_,_,_,rfl,by omega,Nat.le_refl _,hG⟩ ?_;rintro m f1 s ⟨k,l,x,o,ks,j,rfl,hj,hmf,hG⟩;rcases m with _ | m;exact hG.elim;have ihf:=ih m (by omega);simp only[gr] at hG;(conv=>whnf))
  | (refine loop_0 (fun m s=>∃k l x o ks j,s=⟨0,[oR sl j,oN nzC,oN (nA k l x o ks)]⟩∧j≤ts.length∧m≤f∧Gd E P (gr ts m (.andL (.mk k l x o ks)) j)) f [] rfl ⟨_,_,_,_,_,_,rfl,by omega,Nat.le_refl _,hG⟩ ?_;rintro m f1 s ⟨k,l,x,o,ks,j,rfl,hj,hmf,hG⟩;rcases m with _ | m;exact hG.elim;have ihf:=ih m (by omega);simp only[gr] at hG;(conv=>whnf))
  | (refine loop_0 (fun m s=>∃k l x o ks j,s=⟨0,[oR sl j,oN nzC,oN (nA k l x o ks)]⟩∧j≤ts.length∧m≤f∧Gd E P (gr ts m (.arithL (.mk k l x o ks)) j)) f [] rfl ⟨_,_,_,_,_,_,rfl,by omega,Nat.le_refl _,hG⟩ ?_;rintro m f1 s ⟨k,l,x,o,ks,j,rfl,hj,hmf,hG⟩;rcases m with _ | m;exact hG.elim;have ihf:=ih m (by omega);simp only[gr] at hG;(conv=>whnf))
  | (refine loop_0 (fun m s=>∃k l x o ks j,s=⟨0,[oR sl j,oN nzC,oN (nA k l x o ks)]⟩∧j≤ts.length∧m≤f∧Gd E P (gr ts m (.termL (.mk k l x o ks)) j)) f [] rfl ⟨_,_,_,_,_,_,rfl,by omega,Nat.le_refl _,hG⟩ ?_;rintro m f1 s ⟨k,l,x,o,ks,j,rfl,hj,hmf,hG⟩;rcases m with _ | m;exact hG.elim;have ihf:=ih m (by omega);simp only[gr] at hG;(conv=>whnf))
  | (refine loop_0 (fun m s=>∃k l x o ks j,s=⟨0,[oR sl j,oN nzC,oN (nA k l x o ks)]⟩∧j≤ts.length∧m≤f∧Gd E P (gr ts m (.primL (.mk k l x o ks)) j)) f [] rfl ⟨_,_,_,_,_,_,rfl,by omega,Nat.le_refl _,hG⟩ ?_;rintro m f1 s ⟨k,l,x,o,ks,j,rfl,hj,hmf,hG⟩;rcases m with _ | m;exact hG.elim;have ihf:=ih m (by omega);simp only[gr] at hG;(conv=>whnf))
  | (refine loop_0 (fun m s=>∃k l x o ks acc j ln,s=⟨1,[oR sl j,oN nzC,oN (nA k l x o ks),oN (nC 52 ln [] 0 (.own 0 26 5 (ndsS acc)))]⟩∧j≤ts.length∧m≤f∧2*acc.length≤j+1∧Gd E P (gr ts m (.exprsL ln acc) j)) f [0] rfl ⟨_,_,_,_,_,[.mk n1 l1 x1 o1 ks1],_,_,rfl,by omega,Nat.le_refl _,by simp only[List.length_cons,List.length_nil];omega,hG⟩ ?_;rintro m f1 s ⟨k,l,x,o,ks,acc,j,ln,rfl,hj,hmf,hb2,hG⟩;rcases m with _ | m;exact hG.elim;have ihf:=ih m (by omega);simp only[gr] at hG;(conv=>whnf))
  | (refine loop_0 (fun m s=>∃k l x o ks acc j ln,s=⟨1,[oR sl j,oN nzC,oN (nA k l x o ks),oN (nC 52 ln [] 0 (.own 0 26 5 (ndsS acc)))]⟩∧j≤ts.length∧m≤f∧2*acc.length≤j+1∧Gd E P (gr ts m (.placesL ln acc) j)) f [0] rfl ⟨_,_,_,_,_,[.mk n1 l1 x1 o1 ks1],_,_,rfl,by omega,Nat.le_refl _,by simp only[List.length_cons,List.length_nil];omega,hG⟩ ?_;rintro m f1 s ⟨k,l,x,o,ks,acc,j,ln,rfl,hj,hmf,hb2,hG⟩;rcases m with _ | m;exact hG.elim;have ihf:=ih m (by omega);simp only[gr] at hG;simp only[ite_andP] at hG;(conv=>whnf))
  | (refine loop_0 (fun m s=>∃acc j c,AccV acc c∧s=⟨1,[oR sl j,oN nzC,oN (nC k ln [] 0 c)]⟩∧j≤ts.length∧m≤f+1∧2*acc.length≤j∧Gd E P (gr ts m (.names k ln acc) j)) (f+1) [99] rfl ⟨[],_,_, .inl ⟨rfl,rfl⟩,rfl,by omega,Nat.le_refl _,by simp only[List.length_nil];omega,hG0⟩ ?_;rintro m f1 s ⟨acc,j,c,hA,rfl,hj,hmf,hb2,hG⟩;rcases m with _ | m;exact hG.elim;have ihf:=ih m (by omega);simp only[gr] at hG;rcases hA with ⟨rfl,rfl⟩ | ⟨hne,rfl⟩;all_goals (conv=>whnf))
  | (refine loop_0 (fun m s=>∃acc j c,AccV acc c∧s=⟨1,[oR sl j,oN nzC,oN (nC 23 ln [] 0 c)]⟩∧j≤ts.length∧m≤f+1∧2*acc.length≤j∧Gd E P (gr ts m (.params cl ln acc) j)) (f+1) [99] rfl ⟨[],_,_, .inl ⟨rfl,rfl⟩,rfl,by omega,Nat.le_refl _,by simp only[List.length_nil];omega,hG0⟩ ?_;rintro m f1 s ⟨acc,j,c,hA,rfl,hj,hmf,hb2,hG⟩;rcases m with _ | m;exact hG.elim;have ihf:=ih m (by omega);simp only[gr] at hG;rcases hA with ⟨rfl,rfl⟩ | ⟨hne,rfl⟩;all_goals (conv=>whnf))
  | (refine loop_1 5 (fun m a s=>∃acc j c,a= .r (.c c)∧AccV acc c∧s=⟨1,[oR sl j]⟩∧j≤ts.length∧m≤f+1∧2*acc.length≤j∧Gd E P (gr ts m (.row cl acc) j)) (f+1) [99] rfl ⟨[],_,_,rfl, .inl ⟨rfl,rfl⟩,rfl,by omega,Nat.le_refl _,by simp only[List.length_nil];omega,hG0⟩ ?_;rintro m a f1 s ⟨acc,j,c,rfl,hA,rfl,hj,hmf,hb2,hG⟩;rcases m with _ | m;exact hG.elim;have ihf:=ih m (by omega);simp only[gr] at hG;rcases hA with ⟨rfl,rfl⟩ | ⟨hne,rfl⟩;all_goals (conv=>whnf))
  | (refine loop_1 3 (fun m a s=>∃acc j c,a= .r (.c c)∧AccV acc c∧s=⟨1,[oR sl j]⟩∧j≤ts.length∧m≤f+1∧2*acc.length≤j∧Gd E P (gr ts m (.clauses acc) j)) (f+1) [99] rfl ⟨[],_,_,rfl, .inl ⟨rfl,rfl⟩,rfl,by omega,Nat.le_refl _,by simp only[List.length_nil];omega,hG0⟩ ?_;rintro m a f1 s ⟨acc,j,c,rfl,hA,rfl,hj,hmf,hb2,hG⟩;rcases m with _ | m;exact hG.elim;have ihf:=ih m (by omega);simp only[gr] at hG;rcases hA with ⟨rfl,rfl⟩ | ⟨hne,rfl⟩;all_goals (conv=>whnf))
  | (refine loop_0 (fun m s=>∃acc j,s=⟨1,[oR sl j,oN nzC,oN (nA n1 l1 x1 o1 ks1),oN (nC 42 l1 [] 0 (.own 0 26 5 (ndS (.mk n1 l1 x1 o1 ks1)::ndsS acc)))]⟩∧j≤ts.length∧m≤f∧2*acc.length+1≤j∧Gd E P (gr ts m (.cmpL (.mk n1 l1 x1 o1 ks1) acc) j)) f [0] rfl ⟨[],_,rfl,by omega,Nat.le_refl _,by simp only[List.length_nil];omega,hG⟩ ?_;rintro m f1 s ⟨acc,j,rfl,hj,hmf,hb2,hG⟩;rcases m with _ | m;exact hG.elim;have ihf:=ih m (by omega);simp only[gr] at hG;(conv=>whnf))
  | (refine loop_0 (fun m s=>∃ke le xe oe kse kv lv xv ov ksv acc j,s=⟨1,[oR sl j,oN nzC,oN (nA ke le xe oe kse),oN (nA kv lv xv ov ksv),oN (nC 54 ln [] 0 (.own 0 26 5 (ndsS acc)))]⟩∧j≤ts.length∧m≤f∧2*acc.length≤j+1∧Gd E P (gr ts m (.dictL ln acc) j)) f [0] rfl ⟨_,_,_,_,_,_,_,_,_,_,[_,_],_,rfl,by omega,Nat.le_refl _,by simp only[List.length_cons,List.length_nil];omega,hG⟩ ?_;rintro m f1 s ⟨ke,le,xe,oe,kse,kv,lv,xv,ov,ksv,acc,j,rfl,hj,hmf,hb2,hG⟩;rcases m with _ | m;exact hG.elim;have ihf:=ih m (by omega);simp only[gr] at hG;(conv=>whnf))
  | (refine loop_0 (fun m s=>∃k l x o ks acc j ln,s=⟨1,[oR sl j,oN nzC,oN (nA k l x o ks),oN (nC 3 ln [] 0 (.own 0 26 5 (ndsS acc)))]⟩∧j≤ts.length∧m≤f∧acc≠ []∧2*acc.length≤j+1∧Gd E P (gr ts m (.asgL ln acc) j)) f [0] rfl ⟨_,_,_,_,_,[.mk n1 l1 x1 o1 ks1],_,_,rfl,by omega,Nat.le_refl _,by simp,by simp only[List.length_cons,List.length_nil];omega,hG⟩ ?_;rintro m f1 s ⟨k,l,x,o,ks,acc,j,ln,rfl,hj,hmf,hne,hb2,hG⟩;rcases m with _ | m;exact hG.elim;have ihf:=ih m (by omega);obtain⟨⟨k2,l2,x2,o2,ks2⟩,htl⟩:=last_ne hne;simp only[gr,htl] at hG;(conv=>whnf))
  | (refine loop_0 (fun m s=>∃acc j c ln,AccV acc c∧s=⟨1,[oR sl j,oN nzC,oN (nC 1 ln [] 0 c)]⟩∧j≤ts.length∧m≤f∧2*acc.length≤j∧Gd E P (gr ts m (.blockL acc) j)) f [99] rfl ⟨[],_,_,_, .inl ⟨rfl,rfl⟩,rfl,by omega,Nat.le_refl _,by simp only[List.length_nil];omega,hG⟩ ?_;rintro m f1 s ⟨acc,j,c,ln,hA,rfl,hj,hmf,hb2,hG⟩;rcases m with _ | m;exact hG.elim;have ihf:=ih m (by omega);simp only[gr] at hG;rcases hA with ⟨rfl,rfl⟩ | ⟨hne,rfl⟩;rotate_left;rcases acc with _ | ⟨⟨k2,l2,x2,o2,ks2⟩,acc⟩;exact absurd rfl hne;all_goals (try simp only[List.length_cons,List.length_nil] at hb2);all_goals (conv=>whnf))
  | (obtain⟨P2,hP2⟩ : ∃P2:List Nd→Nat→Prop,∀acc j,P2 acc j↔Gd E P (gr ts f (.triesF ln acc) j):=⟨_,fun _ _=>Iff.rfl⟩;have hG:Gd E P2 (gr ts f (.triesL [.mk n1 l1 x1 o1 ks1]) j1):=(gd_pb.1 hG).mono (fun _ h=>h) fun l j h=>(hP2 l j).2 h;refine loop_1 6 (fun m a s=>∃acc j b,a=rS (.bool b)∧s=⟨1,[oR sl j,oN nzC,oN (nC 15 ln [] 0 (.own 0 26 5 (ndsS acc)))]⟩∧j≤ts.length∧m≤f∧1≤acc.length∧2*acc.length≤j+1∧((b=false∧Gd E P2 (gr ts m (.triesL acc) j))∨(b=true∧P2 acc j))) f [0] rfl ⟨[.mk n1 l1 x1 o1 ks1],_,false,rfl,rfl,by omega,Nat.le_refl _,Nat.le_refl _,by simp only[List.length_cons,List.length_nil];omega, .inl ⟨rfl,hG⟩⟩ ?_;rintro m a f1 s ⟨acc,j,b,rfl,rfl,hj,hmf,hb1,hb2,⟨rfl,hG⟩ | ⟨rfl,hG⟩⟩;rcases m with _ | m;exact hG.elim;have ihf:=ih m (by omega);simp only[gr] at hG;(conv=>whnf);rotate_left;have hG:=(hP2 _ _).1 hG;rcases f with _ | f;exact hG.elim;simp only[gr] at hG;have ihf:=ih f (by omega);(conv=>whnf))
  | (refine loop_0 (fun m s=>∃km lm xm om ksm kl ll xl ol ksl acc j ln,s=⟨1,[oR sl j,oN (nA k l x o ks),oN nzC,oN (nA km lm xm om ksm),oN (nA kl ll xl ol ksl),oN (nC 52 ln [] 0 (.own 0 26 5 (ndsS acc)))]⟩∧j≤ts.length∧m≤f∧2*acc.length≤j+1∧Gd E P (pb1 (gr ts m (.exprsL ln acc) j) fun t j2=>pk1 (nd 46 l [.mk k l x o ks,t]) j2)) f [0] rfl ⟨_,_,_,_,[],_,_,_,_,_,[.mk n1 l1 x1 o1 ks1],_,_,rfl,by omega,Nat.le_refl _,by simp only[List.length_cons,List.length_nil];omega,hG⟩ ?_;rintro m f1 s ⟨km,lm,xm,om,ksm,kl,ll,xl,ol,ksl,acc,j,ln,rfl,hj,hmf,hb2,hG⟩;have hG:=gd_pb1.1 hG;rcases m with _ | m;exact hG.elim;have ihf:=ih m (by omega);simp only[gr] at hG;(conv=>whnf))):Pz:=hz
section
variable {Z:TP} {X:Pan} {W:Int→Value} {ts:List PT} {sl:Sl} {f:Nat}
set_option maxHeartbeats 8000000 in
theorem pw_expr(C:PCtx Z X W ts sl)(ih : ∀g,g≤f→PAll Z X W ts sl g):PC Z X W ts sl (f+1) .expr 50 [.ptr 0 0] ans1:=by
 intro i Q R E P hi hG hE hQ
 have ihf:=ih f (Nat.le_refl f)
 have hln:=C.len
 have hG0:=hG
 simp only[gr] at hG
 refine tc_rG dt_ok (by rfl) (by kernel_rfl) ?_
 conv in (rF _ _).body=>reduce
 conv in (rF _ _).res=>reduce
 conv=>whnf
 exact pw_go
set_option maxHeartbeats 8000000 in
theorem pw_or(C:PCtx Z X W ts sl)(ih : ∀g,g≤f→PAll Z X W ts sl g):PC Z X W ts sl (f+1) .or 86 [.ptr 0 0] ans1:=by
 intro i Q R E P hi hG hE hQ
 have ihf:=ih f (Nat.le_refl f)
 have hln:=C.len
 have hG0:=hG
 simp only[gr] at hG
 refine tc_rG dt_ok (by rfl) (by kernel_rfl) ?_
 conv in (rF _ _).body=>reduce
 conv in (rF _ _).res=>reduce
 conv=>whnf
 exact pw_go
set_option maxHeartbeats 8000000 in
theorem pw_and(C:PCtx Z X W ts sl)(ih : ∀g,g≤f→PAll Z X W ts sl g):PC Z X W ts sl (f+1) .and 123 [.ptr 0 0] ans1:=by
 intro i Q R E P hi hG hE hQ
 have ihf:=ih f (Nat.le_refl f)
 have hln:=C.len
 have hG0:=hG
 simp only[gr] at hG
 refine tc_rG dt_ok (by rfl) (by kernel_rfl) ?_
 conv in (rF _ _).body=>reduce
 conv in (rF _ _).res=>reduce
 conv=>whnf
 exact pw_go
set_option maxHeartbeats 8000000 in
theorem pw_not(C:PCtx Z X W ts sl)(ih : ∀g,g≤f→PAll Z X W ts sl g):PC Z X W ts sl (f+1) .not 141 [.ptr 0 0] ans1:=by
 intro i Q R E P hi hG hE hQ
 have ihf:=ih f (Nat.le_refl f)
 have hln:=C.len
 have hG0:=hG
 simp only[gr] at hG
 refine tc_rG dt_ok (by rfl) (by kernel_rfl) ?_
 conv in (rF _ _).body=>reduce
 conv in (rF _ _).res=>reduce
 conv=>whnf
 exact pw_go
set_option maxHeartbeats 8000000 in
theorem pw_compare(C:PCtx Z X W ts sl)(ih : ∀g,g≤f→PAll Z X W ts sl g):PC Z X W ts sl (f+1) .compare 156 [.ptr 0 0] ans1:=by
 intro i Q R E P hi hG hE hQ
 have ihf:=ih f (Nat.le_refl f)
 have hln:=C.len
 have hG0:=hG
 simp only[gr] at hG
 refine tc_rG dt_ok (by rfl) (by kernel_rfl) ?_
 conv in (rF _ _).body=>reduce
 conv in (rF _ _).res=>reduce
 conv=>whnf
 exact pw_go
set_option maxHeartbeats 8000000 in
theorem pw_arith(C:PCtx Z X W ts sl)(ih : ∀g,g≤f→PAll Z X W ts sl g):PC Z X W ts sl (f+1) .arith 165 [.ptr 0 0] ans1:=by
 intro i Q R E P hi hG hE hQ
 have ihf:=ih f (Nat.le_refl f)
 have hln:=C.len
 have hG0:=hG
 simp only[gr] at hG
 refine tc_rG dt_ok (by rfl) (by kernel_rfl) ?_
 conv in (rF _ _).body=>reduce
 conv in (rF _ _).res=>reduce
 conv=>whnf
 exact pw_go
set_option maxHeartbeats 8000000 in
theorem pw_term(C:PCtx Z X W ts sl)(ih : ∀g,g≤f→PAll Z X W ts sl g):PC Z X W ts sl (f+1) .term 171 [.ptr 0 0] ans1:=by
 intro i Q R E P hi hG hE hQ
 have ihf:=ih f (Nat.le_refl f)
 have hln:=C.len
 have hG0:=hG
 simp only[gr] at hG
 refine tc_rG dt_ok (by rfl) (by kernel_rfl) ?_
 conv in (rF _ _).body=>reduce
 conv in (rF _ _).res=>reduce
 conv=>whnf
 exact pw_go
set_option maxHeartbeats 8000000 in
theorem pw_factor(C:PCtx Z X W ts sl)(ih : ∀g,g≤f→PAll Z X W ts sl g):PC Z X W ts sl (f+1) .factor 174 [.ptr 0 0] ans1:=by
 intro i Q R E P hi hG hE hQ
 have ihf:=ih f (Nat.le_refl f)
 have hln:=C.len
 have hG0:=hG
 simp only[gr] at hG
 refine tc_rG dt_ok (by rfl) (by kernel_rfl) ?_
 conv in (rF _ _).body=>reduce
 conv in (rF _ _).res=>reduce
 conv=>whnf
 exact pw_go
set_option maxHeartbeats 8000000 in
theorem pw_primary(C:PCtx Z X W ts sl)(ih : ∀g,g≤f→PAll Z X W ts sl g):PC Z X W ts sl (f+1) .primary 93 [.ptr 0 0] ans1:=by
 intro i Q R E P hi hG hE hQ
 have ihf:=ih f (Nat.le_refl f)
 have hln:=C.len
 have hG0:=hG
 simp only[gr] at hG
 refine tc_rG dt_ok (by rfl) (by kernel_rfl) ?_
 conv in (rF _ _).body=>reduce
 conv in (rF _ _).res=>reduce
 conv=>whnf
 exact pw_go
set_option maxHeartbeats 8000000 in
theorem pw_atom(C:PCtx Z X W ts sl)(ih : ∀g,g≤f→PAll Z X W ts sl g):PC Z X W ts sl (f+1) .atom 125 [.ptr 0 0] ans1:=by
 intro i Q R E P hi hG hE hQ
 have ihf:=ih f (Nat.le_refl f)
 have hln:=C.len
 simp only[gr] at hG
 refine tc_rG dt_ok (by rfl) (by kernel_rfl) ?_
 conv in (rF _ _).body=>reduce
 conv in (rF _ _).res=>reduce
 conv=>whnf
 refine now_tc C (by omega) ?_
 obtain⟨t,ht⟩ : ∃t,nowT ts i=t:=⟨_,rfl⟩
 have hlk:(nowT ts i).kind≠0→i<ts.length:=kd_lt
 rw[ht] at hG hlk⊢
 obtain⟨kd,lt,xt⟩:=t
 by_cases hk:4≤kd∧kd≤7
 ·have hl:i<ts.length:=hlk (by show kd≠0;omega)
  rw[if_pos hk] at hG
  obtain rfl | rfl | rfl | rfl:kd=4∨kd=5∨kd=6∨kd=7:=by omega
  all_goals
   (conv=>whnf)
   refine leaf_tc hk.1 hk.2 ?_
   (conv=>whnf)
   repeat (refine⟨rfl,?_⟩;(conv=>whnf))
   exact q_eq rfl (rd_wr C hl) (hQ _ _ hG (by omega))
 ·rw[if_neg hk] at hG
  (conv=>whnf)
  exact pw_go
set_option maxHeartbeats 8000000 in
theorem pw_exprs(C:PCtx Z X W ts sl)(ih : ∀g,g≤f→PAll Z X W ts sl g):PC Z X W ts sl (f+1) .exprs 54 [.ptr 0 0] ans1:=by
 intro i Q R E P hi hG hE hQ
 have ihf:=ih f (Nat.le_refl f)
 have hln:=C.len
 have hG0:=hG
 simp only[gr] at hG
 refine tc_rG dt_ok (by rfl) (by kernel_rfl) ?_
 conv in (rF _ _).body=>reduce
 conv in (rF _ _).res=>reduce
 conv=>whnf
 exact pw_go
set_option maxHeartbeats 8000000 in
theorem pw_one(C:PCtx Z X W ts sl)(ih : ∀g,g≤f→PAll Z X W ts sl g):PC Z X W ts sl (f+1) .one 89 [.ptr 0 0] ans1:=by
 intro i Q R E P hi hG hE hQ
 have ihf:=ih f (Nat.le_refl f)
 have hln:=C.len
 have hG0:=hG
 simp only[gr] at hG
 refine tc_rG dt_ok (by rfl) (by kernel_rfl) ?_
 conv in (rF _ _).body=>reduce
 conv in (rF _ _).res=>reduce
 conv=>whnf
 exact pw_go
set_option maxHeartbeats 8000000 in
theorem pw_places(C:PCtx Z X W ts sl)(ih : ∀g,g≤f→PAll Z X W ts sl g):PC Z X W ts sl (f+1) .places 53 [.ptr 0 0] ans1:=by
 intro i Q R E P hi hG hE hQ
 have ihf:=ih f (Nat.le_refl f)
 have hln:=C.len
 have hG0:=hG
 simp only[gr] at hG
 refine tc_rG dt_ok (by rfl) (by kernel_rfl) ?_
 conv in (rF _ _).body=>reduce
 conv in (rF _ _).res=>reduce
 conv=>whnf
 exact pw_go
set_option maxHeartbeats 8000000 in
theorem pw_simple(C:PCtx Z X W ts sl)(ih : ∀g,g≤f→PAll Z X W ts sl g):PC Z X W ts sl (f+1) .simple 59 [.ptr 0 0] ans1:=by
 intro i Q R E P hi hG hE hQ
 have ihf:=ih f (Nat.le_refl f)
 have hln:=C.len
 have hG0:=hG
 simp only[gr] at hG
 refine tc_rG dt_ok (by rfl) (by kernel_rfl) ?_
 conv in (rF _ _).body=>reduce
 conv in (rF _ _).res=>reduce
 conv=>whnf
 exact pw_go
set_option maxHeartbeats 8000000 in
theorem pw_plain(C:PCtx Z X W ts sl)(ih : ∀g,g≤f→PAll Z X W ts sl g):PC Z X W ts sl (f+1) .plain 95 [.ptr 0 0] ans1:=by
 intro i Q R E P hi hG hE hQ
 have ihf:=ih f (Nat.le_refl f)
 have hln:=C.len
 have hG0:=hG
 simp only[gr] at hG
 refine tc_rG dt_ok (by rfl) (by kernel_rfl) ?_
 conv in (rF _ _).body=>reduce
 conv in (rF _ _).res=>reduce
 conv=>whnf
 exact pw_go
set_option maxHeartbeats 8000000 in
theorem pw_value(C:PCtx Z X W ts sl)(ih : ∀g,g≤f→PAll Z X W ts sl g):PC Z X W ts sl (f+1) .value 127 [.ptr 0 0] ans1:=by
 intro i Q R E P hi hG hE hQ
 have ihf:=ih f (Nat.le_refl f)
 have hln:=C.len
 have hG0:=hG
 simp only[gr] at hG
 refine tc_rG dt_ok (by rfl) (by kernel_rfl) ?_
 conv in (rF _ _).body=>reduce
 conv in (rF _ _).res=>reduce
 conv=>whnf
 exact pw_go
set_option maxHeartbeats 8000000 in
theorem pw_block(C:PCtx Z X W ts sl)(ih : ∀g,g≤f→PAll Z X W ts sl g):PC Z X W ts sl (f+1) .block 52 [.ptr 0 0] ans1:=by
 intro i Q R E P hi hG hE hQ
 have ihf:=ih f (Nat.le_refl f)
 have hln:=C.len
 have hG0:=hG
 simp only[gr] at hG
 refine tc_rG dt_ok (by rfl) (by kernel_rfl) ?_
 conv in (rF _ _).body=>reduce
 conv in (rF _ _).res=>reduce
 conv=>whnf
 exact pw_go
set_option maxHeartbeats 8000000 in
theorem pw_stmt(C:PCtx Z X W ts sl)(ih : ∀g,g≤f→PAll Z X W ts sl g):PC Z X W ts sl (f+1) .stmt 25 [.ptr 0 0] ans1:=by
 intro i Q R E P hi hG hE hQ
 have ihf:=ih f (Nat.le_refl f)
 have hln:=C.len
 have hG0:=hG
 simp only[gr] at hG
 refine tc_rG dt_ok (by rfl) (by kernel_rfl) ?_
 conv in (rF _ _).body=>reduce
 conv in (rF _ _).res=>reduce
 conv=>whnf
 exact pw_go
set_option maxHeartbeats 8000000 in
theorem pw_params(C:PCtx Z X W ts sl)(ih : ∀g,g≤f→PAll Z X W ts sl g) : ∀(cl:List UInt8) (ln:Int),cl≠ []→PC Z X W ts sl (f+1) (.params cl ln []) 56 [.ptr 0 0,rS (.int .i64 ln),rS (.string ⟨⟨cl⟩⟩)] ans1:=by
 intro cl ln cl_ne i Q R E P hi hG hE hQ
 have ihf:=ih f (Nat.le_refl f)
 have hln:=C.len
 have hG0:=hG
 simp only[gr] at hG
 refine tc_rG dt_ok (by rfl) (by kernel_rfl) ?_
 conv in (rF _ _).body=>reduce
 conv in (rF _ _).res=>reduce
 conv=>whnf
 exact pw_go
set_option maxHeartbeats 8000000 in
theorem pw_row(C:PCtx Z X W ts sl)(ih : ∀g,g≤f→PAll Z X W ts sl g) : ∀(cl:List UInt8),cl≠ []→PC Z X W ts sl (f+1) (.row cl []) 57 [.ptr 0 0,rS (.string ⟨⟨cl⟩⟩)] ansL:=by
 intro cl cl_ne i Q R E P hi hG hE hQ
 have ihf:=ih f (Nat.le_refl f)
 have hln:=C.len
 have hG0:=hG
 simp only[gr] at hG
 refine tc_rG dt_ok (by rfl) (by kernel_rfl) ?_
 conv in (rF _ _).body=>reduce
 conv in (rF _ _).res=>reduce
 conv=>whnf
 exact pw_go
set_option maxHeartbeats 8000000 in
theorem pw_index(C:PCtx Z X W ts sl)(ih : ∀g,g≤f→PAll Z X W ts sl g) : ∀(k:Nat) (l:Int) (x:List UInt8) (o:Nat) (ks:List Nd),PC Z X W ts sl (f+1) (.index (.mk k l x o ks)) 126 [.ptr 0 0,ndA (.mk k l x o ks)] ans1:=by
 intro k l x o ks i Q R E P hi hG hE hQ
 have ihf:=ih f (Nat.le_refl f)
 have hln:=C.len
 have hG0:=hG
 simp only[gr] at hG
 refine tc_rG dt_ok (by rfl) (by kernel_rfl) ?_
 conv in (rF _ _).body=>reduce
 conv in (rF _ _).res=>reduce
 conv=>whnf
 exact pw_go
set_option maxHeartbeats 8000000 in
theorem pw_clauses(C:PCtx Z X W ts sl)(ih : ∀g,g≤f→PAll Z X W ts sl g):PC Z X W ts sl (f+1) (.clauses []) 157 [.ptr 0 0] ansL:=by
 intro i Q R E P hi hG hE hQ
 have ihf:=ih f (Nat.le_refl f)
 have hln:=C.len
 have hG0:=hG
 simp only[gr] at hG
 refine tc_rG dt_ok (by rfl) (by kernel_rfl) ?_
 conv in (rF _ _).body=>reduce
 conv in (rF _ _).res=>reduce
 conv=>whnf
 exact pw_go
set_option maxHeartbeats 8000000 in
theorem pw_list(C:PCtx Z X W ts sl)(ih : ∀g,g≤f→PAll Z X W ts sl g) : ∀(ln:Int),PC Z X W ts sl (f+1) (.list ln) 143 [.ptr 0 0,rS (.int .i64 ln)] ans1:=by
 intro ln i Q R E P hi hG hE hQ
 have ihf:=ih f (Nat.le_refl f)
 have hln:=C.len
 have hG0:=hG
 simp only[gr] at hG
 refine tc_rG dt_ok (by rfl) (by kernel_rfl) ?_
 conv in (rF _ _).body=>reduce
 conv in (rF _ _).res=>reduce
 conv=>whnf
 exact pw_go
set_option maxHeartbeats 8000000 in
theorem pw_braces(C:PCtx Z X W ts sl)(ih : ∀g,g≤f→PAll Z X W ts sl g) : ∀(ln:Int),PC Z X W ts sl (f+1) (.braces ln) 144 [.ptr 0 0,rS (.int .i64 ln)] ans1:=by
 intro ln i Q R E P hi hG hE hQ
 have ihf:=ih f (Nat.le_refl f)
 have hln:=C.len
 have hG0:=hG
 simp only[gr] at hG
 refine tc_rG dt_ok (by rfl) (by kernel_rfl) ?_
 conv in (rF _ _).body=>reduce
 conv in (rF _ _).res=>reduce
 conv=>whnf
 exact pw_go
set_option maxHeartbeats 8000000 in
theorem pw_names(C:PCtx Z X W ts sl)(ih : ∀g,g≤f→PAll Z X W ts sl g) : ∀(k:Nat) (ln:Int),PC Z X W ts sl (f+1) (.names k ln []) 92 [.ptr 0 0,rS (.int .i64 (k:Nat)),rS (.int .i64 ln)] ans1:=by
 intro k ln i Q R E P hi hG hE hQ
 have ihf:=ih f (Nat.le_refl f)
 have hln:=C.len
 have hG0:=hG
 simp only[gr] at hG
 refine tc_rG dt_ok (by rfl) (by kernel_rfl) ?_
 conv in (rF _ _).body=>reduce
 conv in (rF _ _).res=>reduce
 conv=>whnf
 exact pw_go
set_option maxHeartbeats 8000000 in
theorem pw_maybe(C:PCtx Z X W ts sl)(ih : ∀g,g≤f→PAll Z X W ts sl g) : ∀(k:Nat) (ln:Int) (all:Bool),PC Z X W ts sl (f+1) (.maybe k ln all) 91 [.ptr 0 0,rS (.int .i64 (k:Nat)),rS (.int .i64 ln),rS (.bool all)] ans1:=by
 intro k ln all i Q R E P hi hG hE hQ
 have ihf:=ih f (Nat.le_refl f)
 have hln:=C.len
 simp only[gr] at hG
 cases all
 all_goals simp only[Bool.false_eq_true,if_false,if_true] at hG
 all_goals
  refine tc_rG dt_ok (by rfl) (by kernel_rfl) ?_
  conv in (rF _ _).body=>reduce
  conv in (rF _ _).res=>reduce
  conv=>whnf
  exact pw_go
set_option maxHeartbeats 8000000 in
theorem pw_ifs(C:PCtx Z X W ts sl)(ih : ∀g,g≤f→PAll Z X W ts sl g) : ∀(ln:Int),PC Z X W ts sl (f+1) (.ifs ln) 49 [.ptr 0 0,rS (.int .i64 ln)] ans1:=by
 intro ln i Q R E P hi hG hE hQ
 have ihf:=ih f (Nat.le_refl f)
 have hln:=C.len
 have hG0:=hG
 simp only[gr] at hG
 refine tc_rG dt_ok (by rfl) (by kernel_rfl) ?_
 conv in (rF _ _).body=>reduce
 conv in (rF _ _).res=>reduce
 conv=>whnf
 exact pw_go
set_option maxHeartbeats 8000000 in
theorem pw_tries(C:PCtx Z X W ts sl)(ih : ∀g,g≤f→PAll Z X W ts sl g) : ∀(ln:Int),PC Z X W ts sl (f+1) (.tries ln) 58 [.ptr 0 0,rS (.int .i64 ln)] ans1:=by
 intro ln i Q R E P hi hG hE hQ
 have ihf:=ih f (Nat.le_refl f)
 have hln:=C.len
 have hG0:=hG
 simp only[gr] at hG
 refine tc_rG dt_ok (by rfl) (by kernel_rfl) ?_
 conv in (rF _ _).body=>reduce
 conv in (rF _ _).res=>reduce
 conv=>whnf
 exact pw_go
end
end Can
end Go.Proofs.YtnankhlanilbbaaGreat
end
