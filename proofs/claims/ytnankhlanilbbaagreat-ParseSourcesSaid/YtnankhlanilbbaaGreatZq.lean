/- Parse, the document: its small steps, as runs over trees. Parse, the document: its rules when a token has been found that can't stand there: nothing more is read. (Printed by tools/gendb.py.). Parse, the document: steps along the grammar, in good mode. (Printed by tools/gendd.py.). Parse, the document: leaf, single, place. (Printed by tools/gende.py.). Parse, the document: single and place, asked of a node of any content. Parse, the document: Height. (Printed by tools/gendy.py.). -/
import Derived.Test.YtnankhlanilbbaaGreatZp
import Derived.Test.YtnankhlanilbbaaGreatZm
section
namespace Go.Proofs.YtnankhlanilbbaaGreat
namespace Can
open Go Go.RowKit
set_option linter.unusedSimpArgs false
set_option linter.unusedVariables false
set_option maxRecDepth 4000
attribute [local irreducible] TC isT nowT begT
section
variable {Z:TP} {X:Pan} {ts:List PT} {sl:Sl} {R:Value→Prop} {Q:AV→List SV→Prop} {E:Nat→Prop} {P:List Nd→Nat→Prop} {i:Nat}
theorem drd_inc(C:DCtx Z ts sl)(h:i<ts.length){a:AV}(hQ:Q a (rdSb sl (i+1) false)):Q a [SV.sc (.slice sl.q sl.n sl.c),SV.sc (.int .i64 (IntKind.wrap .i64 ((i:Int)+1))),SV.sc (.bool false)]:=by
 rw[wr_inc h C.len];exact hQ
theorem dis_tc2(C:DCtx Z ts sl){s:List UInt8}(hs:s≠ [])(hi:i≤ts.length)(h1:isT ts i s=true→Q (rS (.bool true)) (rdSb sl i false))(h2:isT ts i s=false→Q (rS (.bool false)) (rdSb sl i false)):TC Z (tblG Tryz.prog LG GG) X 75 [.ptr 0 0,rS (.string ⟨⟨s⟩⟩)] (rdD sl i false) Q R:=by
 refine dis_tc C hs hi ?_
 cases hb:isT ts i s with
 | true=>exact h1 hb
 | false=>exact h2 hb
theorem dhas_tc(C:DCtx Z ts sl){s:List UInt8}(hs:s≠ [])(hi:i≤ts.length)(h1:isT ts i s=true→i<ts.length→Q (rS (.bool true)) (rdSb sl (i+1) false))(h2:isT ts i s=false→Q (rS (.bool false)) (rdSb sl i false)):TC Z (tblG Tryz.prog LG GG) X 36 [.ptr 0 0,rS (.string ⟨⟨s⟩⟩)] (rdD sl i false) Q R:=by
 refine tc_rG dtd_ok (by rfl) (by kernel_rfl) ?_
 conv in (rF _ _).body=>reduce
 conv in (rF _ _).res=>reduce
 conv=>whnf
 refine dis_tc C hs hi ?_
 cases hb:isT ts i s with
 | false=>
   conv=>whnf
   exact h2 hb
 | true=>
   conv=>whnf
   exact drd_inc C (isT_lt' hb) (h1 hb (isT_lt' hb))
theorem dwant_tc(C:DCtx Z ts sl){s:List UInt8}(hs:s≠ [])(hi:i≤ts.length)(h1:isT ts i s=true→i<ts.length→Q (.tup []) (rdSb sl (i+1) false))(h2:isT ts i s=false→Q (.tup []) (rdSb sl i true)):TC Z (tblG Tryz.prog LG GG) X 39 [.ptr 0 0,rS (.string ⟨⟨s⟩⟩)] (rdD sl i false) Q R:=by
 refine tc_rG dtd_ok (by rfl) (by kernel_rfl) ?_
 conv in (rF _ _).body=>reduce
 conv in (rF _ _).res=>reduce
 conv=>whnf
 refine dhas_tc C hs hi (fun hb hl=> ?_) (fun hb=> ?_)
 ·conv=>whnf
  exact h1 hb hl
 ·conv=>whnf
  exact h2 hb
theorem dwantKind_tc(C:DCtx Z ts sl){k:Int}(h0:k≠0)(hi:i≤ts.length)(h1:(nowT ts i).kind=k→i<ts.length→Q (rS (.string ⟨⟨(nowT ts i).text⟩⟩)) (rdSb sl (i+1) false))(h2:(nowT ts i).kind≠k→Q (rS (.string ⟨⟨[]⟩⟩)) (rdSb sl i true)):TC Z (tblG Tryz.prog LG GG) X 43 [.ptr 0 0,rS (.int .i64 k)] (rdD sl i false) Q R:=by
 refine tc_rG dtd_ok (by rfl) (by kernel_rfl) ?_
 conv in (rF _ _).body=>reduce
 conv in (rF _ _).res=>reduce
 conv=>whnf
 refine dnow_tc C hi ?_
 conv=>whnf
 refine ifT_c (fun hb=> ?_) (fun hb=> ?_)
 ·conv=>whnf
  refine h2 ?_
  simpa using hb
 ·have hk:(nowT ts i).kind=k:=by simpa using hb
  have hl:i<ts.length:=kd_lt (by rw[hk];exact h0)
  conv=>whnf
  exact drd_inc C hl (h1 hk hl)
theorem dbegins_tc(C:DCtx Z ts sl)(hi:i≤ts.length)(hQ:Q (rS (.bool (begT ts i))) (rdSb sl i false)):TC Z (tblG Tryz.prog LG GG) X 79 [.ptr 0 0] (rdD sl i false) Q R:=by
 refine tc_rG dtd_ok (by rfl) (by kernel_rfl) ?_
 conv in (rF _ _).body=>reduce
 conv in (rF _ _).res=>reduce
 conv=>whnf
 refine dnow_tc C hi ?_
 obtain⟨t,ht⟩ : ∃t,nowT ts i=t:=⟨_,rfl⟩
 have hw:= @beg_w ts i
 have hs:= @beg_s ts i
 have hk:= @beg_k ts i
 have hn:= @beg_n ts i
 rw[ht] at hw hs hk hn⊢
 obtain⟨kd,ln,tx⟩:=t
 by_cases k4:kd=4
 ·subst k4
  rw[hk (show(4:Int)≤4∧(4:Int)≤7 by decide)] at hQ
  conv=>whnf
  exact hQ
 by_cases k5:kd=5
 ·subst k5
  rw[hk (show(4:Int)≤5∧(5:Int)≤7 by decide)] at hQ
  conv=>whnf
  exact hQ
 by_cases k6:kd=6
 ·subst k6
  rw[hk (show(4:Int)≤6∧(6:Int)≤7 by decide)] at hQ
  conv=>whnf
  exact hQ
 by_cases k7:kd=7
 ·subst k7
  rw[hk (show(4:Int)≤7∧(7:Int)≤7 by decide)] at hQ
  conv=>whnf
  exact hQ
 by_cases k8:kd=8
 ·subst k8
  conv=>whnf
  refine dis_tc2 C (by decide) hi (fun(b0:isT ts i s_lambda=true)=> ?_) fun(b0:isT ts i s_lambda=false)=> ?_
  ·conv=>whnf
   rw[hw rfl,b0] at hQ
   exact hQ
  conv=>whnf
  refine dis_tc2 C (by decide) hi (fun(b1:isT ts i s_not=true)=> ?_) fun(b1:isT ts i s_not=false)=> ?_
  ·conv=>whnf
   rw[hw rfl,b0,b1] at hQ
   exact hQ
  conv=>whnf
  refine dis_tc2 C (by decide) hi (fun(b2:isT ts i s_None=true)=> ?_) fun(b2:isT ts i s_None=false)=> ?_
  ·conv=>whnf
   rw[hw rfl,b0,b1,b2] at hQ
   exact hQ
  conv=>whnf
  refine dis_tc2 C (by decide) hi (fun(b3:isT ts i s_True=true)=> ?_) fun(b3:isT ts i s_True=false)=> ?_
  ·conv=>whnf
   rw[hw rfl,b0,b1,b2,b3] at hQ
   exact hQ
  conv=>whnf
  refine dis_tc2 C (by decide) hi (fun(b4:isT ts i s_False=true)=> ?_) fun(b4:isT ts i s_False=false)=> ?_
  ·conv=>whnf
   rw[hw rfl,b0,b1,b2,b3,b4] at hQ
   exact hQ
  conv=>whnf
  rw[hw rfl,b0,b1,b2,b3,b4] at hQ
  exact hQ
 by_cases k9:kd=9
 ·subst k9
  conv=>whnf
  refine dis_tc2 C (by decide) hi (fun(b0:isT ts i s_plus=true)=> ?_) fun(b0:isT ts i s_plus=false)=> ?_
  ·conv=>whnf
   rw[hs rfl,b0] at hQ
   exact hQ
  conv=>whnf
  refine dis_tc2 C (by decide) hi (fun(b1:isT ts i s_minus=true)=> ?_) fun(b1:isT ts i s_minus=false)=> ?_
  ·conv=>whnf
   rw[hs rfl,b0,b1] at hQ
   exact hQ
  conv=>whnf
  refine dis_tc2 C (by decide) hi (fun(b2:isT ts i s_lpar=true)=> ?_) fun(b2:isT ts i s_lpar=false)=> ?_
  ·conv=>whnf
   rw[hs rfl,b0,b1,b2] at hQ
   exact hQ
  conv=>whnf
  refine dis_tc2 C (by decide) hi (fun(b3:isT ts i s_lbrk=true)=> ?_) fun(b3:isT ts i s_lbrk=false)=> ?_
  ·conv=>whnf
   rw[hs rfl,b0,b1,b2,b3] at hQ
   exact hQ
  conv=>whnf
  refine dis_tc2 C (by decide) hi (fun(b4:isT ts i s_lbrc=true)=> ?_) fun(b4:isT ts i s_lbrc=false)=> ?_
  ·conv=>whnf
   rw[hs rfl,b0,b1,b2,b3,b4] at hQ
   exact hQ
  conv=>whnf
  rw[hs rfl,b0,b1,b2,b3,b4] at hQ
  exact hQ
 rw[hn (by simp only;omega) k8 k9] at hQ
 conv=>whnf
 refine ifT_c (fun h=>absurd (by simpa using h) k4) fun _=> ?_
 conv=>whnf
 refine ifT_c (fun h=>absurd (by simpa using h) k5) fun _=> ?_
 conv=>whnf
 refine ifT_c (fun h=>absurd (by simpa using h) k6) fun _=> ?_
 conv=>whnf
 refine ifT_c (fun h=>absurd (by simpa using h) k7) fun _=> ?_
 conv=>whnf
 refine ifT_c (fun h=>absurd (by simpa using h) k8) fun _=> ?_
 conv=>whnf
 refine ifT_c (fun h=>absurd (by simpa using h) k9) fun _=> ?_
 conv=>whnf
 exact hQ
theorem daugment_tc(C:DCtx Z ts sl)(hi:i≤ts.length)(h1:augT ts i≠0→i<ts.length→Q (rS (.int .i64 (augT ts i:Nat))) (rdSb sl (i+1) false))(h2:augT ts i=0→Q (rS (.int .i64 0)) (rdSb sl i false)):TC Z (tblG Tryz.prog LG GG) X 121 [.ptr 0 0] (rdD sl i false) Q R:=by
 refine tc_rG dtd_ok (by rfl) (by kernel_rfl) ?_
 conv in (rF _ _).body=>reduce
 conv in (rF _ _).res=>reduce
 conv=>whnf
 refine dhas_tc C (by decide) hi (fun(b0:isT ts i s_plusA=true) hl=> ?_) (fun(b0:isT ts i s_plusA=false)=> ?_)
 ·conv=>whnf
  have e:augT ts i=1:=by simp[augT,b0]
  have h1:=h1 (by rw[e];decide) hl
  rw[e] at h1
  exact h1
 conv=>whnf
 refine dhas_tc C (by decide) hi (fun(b1:isT ts i s_minusA=true) hl=> ?_) (fun(b1:isT ts i s_minusA=false)=> ?_)
 ·conv=>whnf
  have e:augT ts i=2:=by simp[augT,b0,b1]
  have h1:=h1 (by rw[e];decide) hl
  rw[e] at h1
  exact h1
 conv=>whnf
 refine dhas_tc C (by decide) hi (fun(b2:isT ts i s_starA=true) hl=> ?_) (fun(b2:isT ts i s_starA=false)=> ?_)
 ·conv=>whnf
  have e:augT ts i=3:=by simp[augT,b0,b1,b2]
  have h1:=h1 (by rw[e];decide) hl
  rw[e] at h1
  exact h1
 conv=>whnf
 refine dhas_tc C (by decide) hi (fun(b3:isT ts i s_slashA=true) hl=> ?_) (fun(b3:isT ts i s_slashA=false)=> ?_)
 ·conv=>whnf
  have e:augT ts i=4:=by simp[augT,b0,b1,b2,b3]
  have h1:=h1 (by rw[e];decide) hl
  rw[e] at h1
  exact h1
 conv=>whnf
 refine dhas_tc C (by decide) hi (fun(b4:isT ts i s_dslashA=true) hl=> ?_) (fun(b4:isT ts i s_dslashA=false)=> ?_)
 ·conv=>whnf
  have e:augT ts i=5:=by simp[augT,b0,b1,b2,b3,b4]
  have h1:=h1 (by rw[e];decide) hl
  rw[e] at h1
  exact h1
 conv=>whnf
 refine dhas_tc C (by decide) hi (fun(b5:isT ts i s_pctA=true) hl=> ?_) (fun(b5:isT ts i s_pctA=false)=> ?_)
 ·conv=>whnf
  have e:augT ts i=6:=by simp[augT,b0,b1,b2,b3,b4,b5]
  have h1:=h1 (by rw[e];decide) hl
  rw[e] at h1
  exact h1
 conv=>whnf
 refine dhas_tc C (by decide) hi (fun(b6:isT ts i s_dstarA=true) hl=> ?_) (fun(b6:isT ts i s_dstarA=false)=> ?_)
 ·conv=>whnf
  have e:augT ts i=7:=by simp[augT,b0,b1,b2,b3,b4,b5,b6]
  have h1:=h1 (by rw[e];decide) hl
  rw[e] at h1
  exact h1
 conv=>whnf
 exact h2 (by simp[augT,b0,b1,b2,b3,b4,b5,b6])
theorem doperator_tc(C:DCtx Z ts sl)(hi:i≤ts.length)(hE : ∀e,opT ts i= .error e→Q (rS (.int .i64 8)) (rdSb sl e true))(hQ : ∀op j,opT ts i= .ok (op,j)→j≤ts.length→Q (rS (.int .i64 (op:Nat))) (rdSb sl j false)):TC Z (tblG Tryz.prog LG GG) X 164 [.ptr 0 0] (rdD sl i false) Q R:=by
 refine tc_rG dtd_ok (by rfl) (by kernel_rfl) ?_
 conv in (rF _ _).body=>reduce
 conv in (rF _ _).res=>reduce
 conv=>whnf
 refine dhas_tc C (by decide) hi (fun(b0:isT ts i s_eqeq=true) hl=> ?_) (fun(b0:isT ts i s_eqeq=false)=> ?_)
 ·conv=>whnf
  exact hQ 1 (i+1) (by simp[opT,b0]) hl
 conv=>whnf
 refine dhas_tc C (by decide) hi (fun(b1:isT ts i s_bne=true) hl=> ?_) (fun(b1:isT ts i s_bne=false)=> ?_)
 ·conv=>whnf
  exact hQ 2 (i+1) (by simp[opT,b0,b1]) hl
 conv=>whnf
 refine dhas_tc C (by decide) hi (fun(b2:isT ts i s_lt=true) hl=> ?_) (fun(b2:isT ts i s_lt=false)=> ?_)
 ·conv=>whnf
  exact hQ 3 (i+1) (by simp[opT,b0,b1,b2]) hl
 conv=>whnf
 refine dhas_tc C (by decide) hi (fun(b3:isT ts i s_le=true) hl=> ?_) (fun(b3:isT ts i s_le=false)=> ?_)
 ·conv=>whnf
  exact hQ 4 (i+1) (by simp[opT,b0,b1,b2,b3]) hl
 conv=>whnf
 refine dhas_tc C (by decide) hi (fun(b4:isT ts i s_gt=true) hl=> ?_) (fun(b4:isT ts i s_gt=false)=> ?_)
 ·conv=>whnf
  exact hQ 5 (i+1) (by simp[opT,b0,b1,b2,b3,b4]) hl
 conv=>whnf
 refine dhas_tc C (by decide) hi (fun(b5:isT ts i s_ge=true) hl=> ?_) (fun(b5:isT ts i s_ge=false)=> ?_)
 ·conv=>whnf
  exact hQ 6 (i+1) (by simp[opT,b0,b1,b2,b3,b4,b5]) hl
 conv=>whnf
 refine dhas_tc C (by decide) hi (fun(b6:isT ts i s_in=true) hl=> ?_) (fun(b6:isT ts i s_in=false)=> ?_)
 ·conv=>whnf
  exact hQ 7 (i+1) (by simp[opT,b0,b1,b2,b3,b4,b5,b6]) hl
 conv=>whnf
 refine dhas_tc C (by decide) hi (fun(b7:isT ts i s_not=true) hl=> ?_) (fun(b7:isT ts i s_not=false)=> ?_)
 ·conv=>whnf
  refine dwant_tc C (by decide) hl (fun(c0:isT ts (i+1) s_in=true) hl=> ?_) (fun(c0:isT ts (i+1) s_in=false)=> ?_)
  ·conv=>whnf
   exact hQ 8 (i+2) (by simp[opT,b0,b1,b2,b3,b4,b5,b6,b7,c0]) hl
  ·conv=>whnf
   exact hE (i+1) (by simp[opT,b0,b1,b2,b3,b4,b5,b6,b7,c0])
 conv=>whnf
 refine dhas_tc C (by decide) hi (fun(b8:isT ts i s_is=true) hl=> ?_) (fun(b8:isT ts i s_is=false)=> ?_)
 ·conv=>whnf
  refine dhas_tc C (by decide) hl (fun(c0:isT ts (i+1) s_not=true) hl=> ?_) (fun(c0:isT ts (i+1) s_not=false)=> ?_)
  ·conv=>whnf
   exact hQ 10 (i+2) (by simp[opT,b0,b1,b2,b3,b4,b5,b6,b7,b8,c0]) hl
  ·conv=>whnf
   exact hQ 9 (i+1) (by simp[opT,b0,b1,b2,b3,b4,b5,b6,b7,b8,c0]) hl
 conv=>whnf
 exact hQ 0 i (by simp[opT,b0,b1,b2,b3,b4,b5,b6,b7,b8]) hi
theorem dhas_tb(C:DCtx Z ts sl){s:ByteArray}(hi:i≤ts.length)(hQ:Q (rS (.bool false)) (rdSb sl i true)):TC Z (tblG Tryz.prog LG GG) X 36 [.ptr 0 0,rS (.string s)] (rdD sl i true) Q R:=by
 refine tc_rG dtd_ok (by rfl) (by kernel_rfl) ?_
 conv in (rF _ _).body=>reduce
 conv in (rF _ _).res=>reduce
 conv=>whnf
 refine dis_tb C hi ?_
 conv=>whnf
 exact hQ
theorem dwant_tb(C:DCtx Z ts sl){s:ByteArray}(hi:i≤ts.length)(hQ:Q (.tup []) (rdSb sl i true)):TC Z (tblG Tryz.prog LG GG) X 39 [.ptr 0 0,rS (.string s)] (rdD sl i true) Q R:=by
 refine tc_rG dtd_ok (by rfl) (by kernel_rfl) ?_
 conv in (rF _ _).body=>reduce
 conv in (rF _ _).res=>reduce
 conv=>whnf
 refine dhas_tb C hi ?_
 conv=>whnf
 exact hQ
theorem dwantKind_tb(C:DCtx Z ts sl){k:Int}(hi:i≤ts.length)(hQ:Q (rS (.string ⟨⟨[]⟩⟩)) (rdSb sl i true)):TC Z (tblG Tryz.prog LG GG) X 43 [.ptr 0 0,rS (.int .i64 k)] (rdD sl i true) Q R:=by
 refine tc_rG dtd_ok (by rfl) (by kernel_rfl) ?_
 conv in (rF _ _).body=>reduce
 conv in (rF _ _).res=>reduce
 conv=>whnf
 refine dnow_tc C hi ?_
 conv=>whnf
 exact hQ
theorem daugment_tb(C:DCtx Z ts sl)(hi:i≤ts.length)(hQ:Q (rS (.int .i64 0)) (rdSb sl i true)):TC Z (tblG Tryz.prog LG GG) X 121 [.ptr 0 0] (rdD sl i true) Q R:=by
 refine tc_rG dtd_ok (by rfl) (by kernel_rfl) ?_
 conv in (rF _ _).body=>reduce
 conv in (rF _ _).res=>reduce
 conv=>whnf
 refine dhas_tb C hi ?_
 conv=>whnf
 refine dhas_tb C hi ?_
 conv=>whnf
 refine dhas_tb C hi ?_
 conv=>whnf
 refine dhas_tb C hi ?_
 conv=>whnf
 refine dhas_tb C hi ?_
 conv=>whnf
 refine dhas_tb C hi ?_
 conv=>whnf
 refine dhas_tb C hi ?_
 conv=>whnf
 exact hQ
theorem doperator_tb(C:DCtx Z ts sl)(hi:i≤ts.length)(hQ:Q (rS (.int .i64 0)) (rdSb sl i true)):TC Z (tblG Tryz.prog LG GG) X 164 [.ptr 0 0] (rdD sl i true) Q R:=by
 refine tc_rG dtd_ok (by rfl) (by kernel_rfl) ?_
 conv in (rF _ _).body=>reduce
 conv in (rF _ _).res=>reduce
 conv=>whnf
 refine dhas_tb C hi ?_
 conv=>whnf
 refine dhas_tb C hi ?_
 conv=>whnf
 refine dhas_tb C hi ?_
 conv=>whnf
 refine dhas_tb C hi ?_
 conv=>whnf
 refine dhas_tb C hi ?_
 conv=>whnf
 refine dhas_tb C hi ?_
 conv=>whnf
 refine dhas_tb C hi ?_
 conv=>whnf
 refine dhas_tb C hi ?_
 conv=>whnf
 refine dhas_tb C hi ?_
 conv=>whnf
 exact hQ
theorem dbegins_tb(C:DCtx Z ts sl)(hi:i≤ts.length)(hQ:Q (rS (.bool false)) (rdSb sl i true)):TC Z (tblG Tryz.prog LG GG) X 79 [.ptr 0 0] (rdD sl i true) Q R:=by
 refine tc_rG dtd_ok (by rfl) (by kernel_rfl) ?_
 conv in (rF _ _).body=>reduce
 conv in (rF _ _).res=>reduce
 conv=>whnf
 refine dnow_tc C hi ?_
 obtain⟨t,ht⟩ : ∃t,nowT ts i=t:=⟨_,rfl⟩
 rw[ht]
 obtain⟨kd,ln,tx⟩:=t
 by_cases k4:kd=4
 ·subst k4
  conv=>whnf
  exact hQ
 by_cases k5:kd=5
 ·subst k5
  conv=>whnf
  exact hQ
 by_cases k6:kd=6
 ·subst k6
  conv=>whnf
  exact hQ
 by_cases k7:kd=7
 ·subst k7
  conv=>whnf
  exact hQ
 by_cases k8:kd=8
 ·subst k8
  conv=>whnf
  refine dis_tb C hi ?_
  conv=>whnf
  refine dis_tb C hi ?_
  conv=>whnf
  refine dis_tb C hi ?_
  conv=>whnf
  refine dis_tb C hi ?_
  conv=>whnf
  refine dis_tb C hi ?_
  conv=>whnf
  exact hQ
 by_cases k9:kd=9
 ·subst k9
  conv=>whnf
  refine dis_tb C hi ?_
  conv=>whnf
  refine dis_tb C hi ?_
  conv=>whnf
  refine dis_tb C hi ?_
  conv=>whnf
  refine dis_tb C hi ?_
  conv=>whnf
  refine dis_tb C hi ?_
  conv=>whnf
  exact hQ
 conv=>whnf
 refine ifT_c (fun h=>absurd (by simpa using h) k4) fun _=> ?_
 conv=>whnf
 refine ifT_c (fun h=>absurd (by simpa using h) k5) fun _=> ?_
 conv=>whnf
 refine ifT_c (fun h=>absurd (by simpa using h) k6) fun _=> ?_
 conv=>whnf
 refine ifT_c (fun h=>absurd (by simpa using h) k7) fun _=> ?_
 conv=>whnf
 refine ifT_c (fun h=>absurd (by simpa using h) k8) fun _=> ?_
 conv=>whnf
 refine ifT_c (fun h=>absurd (by simpa using h) k9) fun _=> ?_
 conv=>whnf
 exact hQ
end
end Can
end Go.Proofs.YtnankhlanilbbaaGreat
end
section
namespace Go.Proofs.YtnankhlanilbbaaGreat
namespace Can
open Go Go.RowKit
set_option linter.unusedSimpArgs false
set_option linter.unusedVariables false
set_option maxRecDepth 4000
attribute [local irreducible] TC isT nowT begT
def DB (Z:TP)(X:Pan)(ts:List PT)(sl:Sl)(F:FuncId)(args:List AV):Prop:=
 ∀(i:Nat) (Q:AV→List SV→Prop) (R:Value→Prop),i≤ts.length→(∀k l x o gs,(∀g∈gs,NdG g)→Q (gA k l x o gs) (rdSb sl i true))→TC Z (tblG Tryz.prog LG GG) X F args (rdD sl i true) Q R
section
variable {Z:TP} {X:Pan} {ts:List PT} {sl:Sl}
theorem nd_nil : ∀g∈([]:List (List SV)),NdG g:=fun _ h=>by cases h
theorem nd_one{a:List SV}(h:NdG a) : ∀g∈ [a],NdG g:=fun _ h=>by cases h with
 | head=>assumption
 | tail _ h=>cases h
theorem tckd{Z:TP}{X:Pan}{args:List AV}{self:Self}{Q:AV→List SV→Prop}{R:Value→Prop}(g:FuncId)(h:TC Z (tblG Tryz.prog LG GG) X g args self Q R):TC Z (tblG Tryz.prog LG GG) X g args self Q R:=h
theorem atom_b(C:DCtx Z ts sl):DB Z X ts sl 118 [.ptr 0 0]:=by
 intro i Q R hi hQ
 refine tc_rG dtd_ok (by rfl) (by kernel_rfl) ?_
 conv in (rF _ _).body=>reduce
 conv in (rF _ _).res=>reduce
 conv=>whnf
 repeat' first
  | ((with_reducible refine tckd 36 ?_);refine dhas_tb C hi ?_;(conv=>whnf))
  | ((with_reducible refine tckd 19 ?_);refine dnow_tc C hi ?_;(conv=>whnf))
  | ((with_reducible refine tckd 75 ?_);refine dis_tb C hi ?_;(conv=>whnf))
  | ((with_reducible refine tckd 39 ?_);refine dwant_tb C hi ?_;(conv=>whnf))
  | ((with_reducible refine tckd 43 ?_);refine dwantKind_tb C hi ?_;(conv=>whnf))
  | ((with_reducible refine tckd 79 ?_);refine dbegins_tb C hi ?_;(conv=>whnf))
  | ((with_reducible refine tckd 77 ?_);refine dkind_tb C hi ?_;(conv=>whnf))
  | ((with_reducible refine tckd 164 ?_);refine doperator_tb C hi ?_;(conv=>whnf))
  | ((with_reducible refine tckd 121 ?_);refine daugment_tb C hi ?_;(conv=>whnf))
  | (refine loop_once [] rfl ?_;intro f;(conv=>whnf))
  | (refine⟨rfl,?_⟩;(conv=>whnf))
  | (intro hmx;(conv=>whnf))
  | ((with_reducible apply ifT_c)<;>(intro hif;(conv=>whnf)))
 all_goals first | exact hQ | exact hQ _ _ _ _ _ nd_nil | exact hQ _ _ _ _ _ hg | exact hQ _ _ _ _ _ (nd_one (.mk hg))
theorem primary_b(C:DCtx Z ts sl):DB Z X ts sl 82 [.ptr 0 0]:=by
 intro i Q R hi hQ
 refine tc_rG dtd_ok (by rfl) (by kernel_rfl) ?_
 conv in (rF _ _).body=>reduce
 conv in (rF _ _).res=>reduce
 conv=>whnf
 repeat' first
  | ((with_reducible refine tckd 36 ?_);refine dhas_tb C hi ?_;(conv=>whnf))
  | ((with_reducible refine tckd 19 ?_);refine dnow_tc C hi ?_;(conv=>whnf))
  | ((with_reducible refine tckd 75 ?_);refine dis_tb C hi ?_;(conv=>whnf))
  | ((with_reducible refine tckd 39 ?_);refine dwant_tb C hi ?_;(conv=>whnf))
  | ((with_reducible refine tckd 43 ?_);refine dwantKind_tb C hi ?_;(conv=>whnf))
  | ((with_reducible refine tckd 79 ?_);refine dbegins_tb C hi ?_;(conv=>whnf))
  | ((with_reducible refine tckd 77 ?_);refine dkind_tb C hi ?_;(conv=>whnf))
  | ((with_reducible refine tckd 164 ?_);refine doperator_tb C hi ?_;(conv=>whnf))
  | ((with_reducible refine tckd 121 ?_);refine daugment_tb C hi ?_;(conv=>whnf))
  | ((with_reducible refine tckd 118 ?_);refine atom_b C i _ _ hi ?_;intro kat l x o gs hg;(conv=>whnf))
  | (refine loop_once [] rfl ?_;intro f;(conv=>whnf))
  | (refine⟨rfl,?_⟩;(conv=>whnf))
  | (intro hmx;(conv=>whnf))
  | ((with_reducible apply ifT_c)<;>(intro hif;(conv=>whnf)))
 all_goals first | exact hQ | exact hQ _ _ _ _ _ nd_nil | exact hQ _ _ _ _ _ hg | exact hQ _ _ _ _ _ (nd_one (.mk hg))
theorem factor_b(C:DCtx Z ts sl):DB Z X ts sl 173 [.ptr 0 0]:=by
 intro i Q R hi hQ
 refine tc_rG dtd_ok (by rfl) (by kernel_rfl) ?_
 conv in (rF _ _).body=>reduce
 conv in (rF _ _).res=>reduce
 conv=>whnf
 repeat' first
  | ((with_reducible refine tckd 36 ?_);refine dhas_tb C hi ?_;(conv=>whnf))
  | ((with_reducible refine tckd 19 ?_);refine dnow_tc C hi ?_;(conv=>whnf))
  | ((with_reducible refine tckd 75 ?_);refine dis_tb C hi ?_;(conv=>whnf))
  | ((with_reducible refine tckd 39 ?_);refine dwant_tb C hi ?_;(conv=>whnf))
  | ((with_reducible refine tckd 43 ?_);refine dwantKind_tb C hi ?_;(conv=>whnf))
  | ((with_reducible refine tckd 79 ?_);refine dbegins_tb C hi ?_;(conv=>whnf))
  | ((with_reducible refine tckd 77 ?_);refine dkind_tb C hi ?_;(conv=>whnf))
  | ((with_reducible refine tckd 164 ?_);refine doperator_tb C hi ?_;(conv=>whnf))
  | ((with_reducible refine tckd 121 ?_);refine daugment_tb C hi ?_;(conv=>whnf))
  | ((with_reducible refine tckd 118 ?_);refine atom_b C i _ _ hi ?_;intro kat l x o gs hg;(conv=>whnf))
  | ((with_reducible refine tckd 82 ?_);refine primary_b C i _ _ hi ?_;intro kpr l x o gs hg;(conv=>whnf))
  | (refine loop_once [] rfl ?_;intro f;(conv=>whnf))
  | (refine⟨rfl,?_⟩;(conv=>whnf))
  | (intro hmx;(conv=>whnf))
  | ((with_reducible apply ifT_c)<;>(intro hif;(conv=>whnf)))
 all_goals first | exact hQ | exact hQ _ _ _ _ _ nd_nil | exact hQ _ _ _ _ _ hg | exact hQ _ _ _ _ _ (nd_one (.mk hg))
theorem term_b(C:DCtx Z ts sl):DB Z X ts sl 170 [.ptr 0 0]:=by
 intro i Q R hi hQ
 refine tc_rG dtd_ok (by rfl) (by kernel_rfl) ?_
 conv in (rF _ _).body=>reduce
 conv in (rF _ _).res=>reduce
 conv=>whnf
 repeat' first
  | ((with_reducible refine tckd 36 ?_);refine dhas_tb C hi ?_;(conv=>whnf))
  | ((with_reducible refine tckd 19 ?_);refine dnow_tc C hi ?_;(conv=>whnf))
  | ((with_reducible refine tckd 75 ?_);refine dis_tb C hi ?_;(conv=>whnf))
  | ((with_reducible refine tckd 39 ?_);refine dwant_tb C hi ?_;(conv=>whnf))
  | ((with_reducible refine tckd 43 ?_);refine dwantKind_tb C hi ?_;(conv=>whnf))
  | ((with_reducible refine tckd 79 ?_);refine dbegins_tb C hi ?_;(conv=>whnf))
  | ((with_reducible refine tckd 77 ?_);refine dkind_tb C hi ?_;(conv=>whnf))
  | ((with_reducible refine tckd 164 ?_);refine doperator_tb C hi ?_;(conv=>whnf))
  | ((with_reducible refine tckd 121 ?_);refine daugment_tb C hi ?_;(conv=>whnf))
  | ((with_reducible refine tckd 118 ?_);refine atom_b C i _ _ hi ?_;intro kat l x o gs hg;(conv=>whnf))
  | ((with_reducible refine tckd 82 ?_);refine primary_b C i _ _ hi ?_;intro kpr l x o gs hg;(conv=>whnf))
  | ((with_reducible refine tckd 173 ?_);refine factor_b C i _ _ hi ?_;intro kfa l x o gs hg;(conv=>whnf))
  | (refine loop_once [] rfl ?_;intro f;(conv=>whnf))
  | (refine⟨rfl,?_⟩;(conv=>whnf))
  | (intro hmx;(conv=>whnf))
  | ((with_reducible apply ifT_c)<;>(intro hif;(conv=>whnf)))
 all_goals first | exact hQ | exact hQ _ _ _ _ _ nd_nil | exact hQ _ _ _ _ _ hg | exact hQ _ _ _ _ _ (nd_one (.mk hg))
theorem arith_b(C:DCtx Z ts sl):DB Z X ts sl 163 [.ptr 0 0]:=by
 intro i Q R hi hQ
 refine tc_rG dtd_ok (by rfl) (by kernel_rfl) ?_
 conv in (rF _ _).body=>reduce
 conv in (rF _ _).res=>reduce
 conv=>whnf
 repeat' first
  | ((with_reducible refine tckd 36 ?_);refine dhas_tb C hi ?_;(conv=>whnf))
  | ((with_reducible refine tckd 19 ?_);refine dnow_tc C hi ?_;(conv=>whnf))
  | ((with_reducible refine tckd 75 ?_);refine dis_tb C hi ?_;(conv=>whnf))
  | ((with_reducible refine tckd 39 ?_);refine dwant_tb C hi ?_;(conv=>whnf))
  | ((with_reducible refine tckd 43 ?_);refine dwantKind_tb C hi ?_;(conv=>whnf))
  | ((with_reducible refine tckd 79 ?_);refine dbegins_tb C hi ?_;(conv=>whnf))
  | ((with_reducible refine tckd 77 ?_);refine dkind_tb C hi ?_;(conv=>whnf))
  | ((with_reducible refine tckd 164 ?_);refine doperator_tb C hi ?_;(conv=>whnf))
  | ((with_reducible refine tckd 121 ?_);refine daugment_tb C hi ?_;(conv=>whnf))
  | ((with_reducible refine tckd 118 ?_);refine atom_b C i _ _ hi ?_;intro kat l x o gs hg;(conv=>whnf))
  | ((with_reducible refine tckd 82 ?_);refine primary_b C i _ _ hi ?_;intro kpr l x o gs hg;(conv=>whnf))
  | ((with_reducible refine tckd 173 ?_);refine factor_b C i _ _ hi ?_;intro kfa l x o gs hg;(conv=>whnf))
  | ((with_reducible refine tckd 170 ?_);refine term_b C i _ _ hi ?_;intro kte l x o gs hg;(conv=>whnf))
  | (refine loop_once [] rfl ?_;intro f;(conv=>whnf))
  | (refine⟨rfl,?_⟩;(conv=>whnf))
  | (intro hmx;(conv=>whnf))
  | ((with_reducible apply ifT_c)<;>(intro hif;(conv=>whnf)))
 all_goals first | exact hQ | exact hQ _ _ _ _ _ nd_nil | exact hQ _ _ _ _ _ hg | exact hQ _ _ _ _ _ (nd_one (.mk hg))
theorem compare_b(C:DCtx Z ts sl):DB Z X ts sl 154 [.ptr 0 0]:=by
 intro i Q R hi hQ
 refine tc_rG dtd_ok (by rfl) (by kernel_rfl) ?_
 conv in (rF _ _).body=>reduce
 conv in (rF _ _).res=>reduce
 conv=>whnf
 repeat' first
  | ((with_reducible refine tckd 36 ?_);refine dhas_tb C hi ?_;(conv=>whnf))
  | ((with_reducible refine tckd 19 ?_);refine dnow_tc C hi ?_;(conv=>whnf))
  | ((with_reducible refine tckd 75 ?_);refine dis_tb C hi ?_;(conv=>whnf))
  | ((with_reducible refine tckd 39 ?_);refine dwant_tb C hi ?_;(conv=>whnf))
  | ((with_reducible refine tckd 43 ?_);refine dwantKind_tb C hi ?_;(conv=>whnf))
  | ((with_reducible refine tckd 79 ?_);refine dbegins_tb C hi ?_;(conv=>whnf))
  | ((with_reducible refine tckd 77 ?_);refine dkind_tb C hi ?_;(conv=>whnf))
  | ((with_reducible refine tckd 164 ?_);refine doperator_tb C hi ?_;(conv=>whnf))
  | ((with_reducible refine tckd 121 ?_);refine daugment_tb C hi ?_;(conv=>whnf))
  | ((with_reducible refine tckd 118 ?_);refine atom_b C i _ _ hi ?_;intro kat l x o gs hg;(conv=>whnf))
  | ((with_reducible refine tckd 82 ?_);refine primary_b C i _ _ hi ?_;intro kpr l x o gs hg;(conv=>whnf))
  | ((with_reducible refine tckd 173 ?_);refine factor_b C i _ _ hi ?_;intro kfa l x o gs hg;(conv=>whnf))
  | ((with_reducible refine tckd 170 ?_);refine term_b C i _ _ hi ?_;intro kte l x o gs hg;(conv=>whnf))
  | ((with_reducible refine tckd 163 ?_);refine arith_b C i _ _ hi ?_;intro kar l x o gs hg;(conv=>whnf))
  | (refine loop_once [] rfl ?_;intro f;(conv=>whnf))
  | (refine⟨rfl,?_⟩;(conv=>whnf))
  | (intro hmx;(conv=>whnf))
  | ((with_reducible apply ifT_c)<;>(intro hif;(conv=>whnf)))
 all_goals first | exact hQ | exact hQ _ _ _ _ _ nd_nil | exact hQ _ _ _ _ _ hg | exact hQ _ _ _ _ _ (nd_one (.mk hg))
theorem not__b(C:DCtx Z ts sl):DB Z X ts sl 137 [.ptr 0 0]:=by
 intro i Q R hi hQ
 refine tc_rG dtd_ok (by rfl) (by kernel_rfl) ?_
 conv in (rF _ _).body=>reduce
 conv in (rF _ _).res=>reduce
 conv=>whnf
 repeat' first
  | ((with_reducible refine tckd 36 ?_);refine dhas_tb C hi ?_;(conv=>whnf))
  | ((with_reducible refine tckd 19 ?_);refine dnow_tc C hi ?_;(conv=>whnf))
  | ((with_reducible refine tckd 75 ?_);refine dis_tb C hi ?_;(conv=>whnf))
  | ((with_reducible refine tckd 39 ?_);refine dwant_tb C hi ?_;(conv=>whnf))
  | ((with_reducible refine tckd 43 ?_);refine dwantKind_tb C hi ?_;(conv=>whnf))
  | ((with_reducible refine tckd 79 ?_);refine dbegins_tb C hi ?_;(conv=>whnf))
  | ((with_reducible refine tckd 77 ?_);refine dkind_tb C hi ?_;(conv=>whnf))
  | ((with_reducible refine tckd 164 ?_);refine doperator_tb C hi ?_;(conv=>whnf))
  | ((with_reducible refine tckd 121 ?_);refine daugment_tb C hi ?_;(conv=>whnf))
  | ((with_reducible refine tckd 118 ?_);refine atom_b C i _ _ hi ?_;intro kat l x o gs hg;(conv=>whnf))
  | ((with_reducible refine tckd 82 ?_);refine primary_b C i _ _ hi ?_;intro kpr l x o gs hg;(conv=>whnf))
  | ((with_reducible refine tckd 173 ?_);refine factor_b C i _ _ hi ?_;intro kfa l x o gs hg;(conv=>whnf))
  | ((with_reducible refine tckd 170 ?_);refine term_b C i _ _ hi ?_;intro kte l x o gs hg;(conv=>whnf))
  | ((with_reducible refine tckd 163 ?_);refine arith_b C i _ _ hi ?_;intro kar l x o gs hg;(conv=>whnf))
  | ((with_reducible refine tckd 154 ?_);refine compare_b C i _ _ hi ?_;intro kco l x o gs hg;(conv=>whnf))
  | (refine loop_once [] rfl ?_;intro f;(conv=>whnf))
  | (refine⟨rfl,?_⟩;(conv=>whnf))
  | (intro hmx;(conv=>whnf))
  | ((with_reducible apply ifT_c)<;>(intro hif;(conv=>whnf)))
 all_goals first | exact hQ | exact hQ _ _ _ _ _ nd_nil | exact hQ _ _ _ _ _ hg | exact hQ _ _ _ _ _ (nd_one (.mk hg))
theorem and__b(C:DCtx Z ts sl):DB Z X ts sl 116 [.ptr 0 0]:=by
 intro i Q R hi hQ
 refine tc_rG dtd_ok (by rfl) (by kernel_rfl) ?_
 conv in (rF _ _).body=>reduce
 conv in (rF _ _).res=>reduce
 conv=>whnf
 repeat' first
  | ((with_reducible refine tckd 36 ?_);refine dhas_tb C hi ?_;(conv=>whnf))
  | ((with_reducible refine tckd 19 ?_);refine dnow_tc C hi ?_;(conv=>whnf))
  | ((with_reducible refine tckd 75 ?_);refine dis_tb C hi ?_;(conv=>whnf))
  | ((with_reducible refine tckd 39 ?_);refine dwant_tb C hi ?_;(conv=>whnf))
  | ((with_reducible refine tckd 43 ?_);refine dwantKind_tb C hi ?_;(conv=>whnf))
  | ((with_reducible refine tckd 79 ?_);refine dbegins_tb C hi ?_;(conv=>whnf))
  | ((with_reducible refine tckd 77 ?_);refine dkind_tb C hi ?_;(conv=>whnf))
  | ((with_reducible refine tckd 164 ?_);refine doperator_tb C hi ?_;(conv=>whnf))
  | ((with_reducible refine tckd 121 ?_);refine daugment_tb C hi ?_;(conv=>whnf))
  | ((with_reducible refine tckd 118 ?_);refine atom_b C i _ _ hi ?_;intro kat l x o gs hg;(conv=>whnf))
  | ((with_reducible refine tckd 82 ?_);refine primary_b C i _ _ hi ?_;intro kpr l x o gs hg;(conv=>whnf))
  | ((with_reducible refine tckd 173 ?_);refine factor_b C i _ _ hi ?_;intro kfa l x o gs hg;(conv=>whnf))
  | ((with_reducible refine tckd 170 ?_);refine term_b C i _ _ hi ?_;intro kte l x o gs hg;(conv=>whnf))
  | ((with_reducible refine tckd 163 ?_);refine arith_b C i _ _ hi ?_;intro kar l x o gs hg;(conv=>whnf))
  | ((with_reducible refine tckd 154 ?_);refine compare_b C i _ _ hi ?_;intro kco l x o gs hg;(conv=>whnf))
  | ((with_reducible refine tckd 137 ?_);refine not__b C i _ _ hi ?_;intro kno l x o gs hg;(conv=>whnf))
  | (refine loop_once [] rfl ?_;intro f;(conv=>whnf))
  | (refine⟨rfl,?_⟩;(conv=>whnf))
  | (intro hmx;(conv=>whnf))
  | ((with_reducible apply ifT_c)<;>(intro hif;(conv=>whnf)))
 all_goals first | exact hQ | exact hQ _ _ _ _ _ nd_nil | exact hQ _ _ _ _ _ hg | exact hQ _ _ _ _ _ (nd_one (.mk hg))
theorem or__b(C:DCtx Z ts sl):DB Z X ts sl 76 [.ptr 0 0]:=by
 intro i Q R hi hQ
 refine tc_rG dtd_ok (by rfl) (by kernel_rfl) ?_
 conv in (rF _ _).body=>reduce
 conv in (rF _ _).res=>reduce
 conv=>whnf
 repeat' first
  | ((with_reducible refine tckd 36 ?_);refine dhas_tb C hi ?_;(conv=>whnf))
  | ((with_reducible refine tckd 19 ?_);refine dnow_tc C hi ?_;(conv=>whnf))
  | ((with_reducible refine tckd 75 ?_);refine dis_tb C hi ?_;(conv=>whnf))
  | ((with_reducible refine tckd 39 ?_);refine dwant_tb C hi ?_;(conv=>whnf))
  | ((with_reducible refine tckd 43 ?_);refine dwantKind_tb C hi ?_;(conv=>whnf))
  | ((with_reducible refine tckd 79 ?_);refine dbegins_tb C hi ?_;(conv=>whnf))
  | ((with_reducible refine tckd 77 ?_);refine dkind_tb C hi ?_;(conv=>whnf))
  | ((with_reducible refine tckd 164 ?_);refine doperator_tb C hi ?_;(conv=>whnf))
  | ((with_reducible refine tckd 121 ?_);refine daugment_tb C hi ?_;(conv=>whnf))
  | ((with_reducible refine tckd 118 ?_);refine atom_b C i _ _ hi ?_;intro kat l x o gs hg;(conv=>whnf))
  | ((with_reducible refine tckd 82 ?_);refine primary_b C i _ _ hi ?_;intro kpr l x o gs hg;(conv=>whnf))
  | ((with_reducible refine tckd 173 ?_);refine factor_b C i _ _ hi ?_;intro kfa l x o gs hg;(conv=>whnf))
  | ((with_reducible refine tckd 170 ?_);refine term_b C i _ _ hi ?_;intro kte l x o gs hg;(conv=>whnf))
  | ((with_reducible refine tckd 163 ?_);refine arith_b C i _ _ hi ?_;intro kar l x o gs hg;(conv=>whnf))
  | ((with_reducible refine tckd 154 ?_);refine compare_b C i _ _ hi ?_;intro kco l x o gs hg;(conv=>whnf))
  | ((with_reducible refine tckd 137 ?_);refine not__b C i _ _ hi ?_;intro kno l x o gs hg;(conv=>whnf))
  | ((with_reducible refine tckd 116 ?_);refine and__b C i _ _ hi ?_;intro kan l x o gs hg;(conv=>whnf))
  | (refine loop_once [] rfl ?_;intro f;(conv=>whnf))
  | (refine⟨rfl,?_⟩;(conv=>whnf))
  | (intro hmx;(conv=>whnf))
  | ((with_reducible apply ifT_c)<;>(intro hif;(conv=>whnf)))
 all_goals first | exact hQ | exact hQ _ _ _ _ _ nd_nil | exact hQ _ _ _ _ _ hg | exact hQ _ _ _ _ _ (nd_one (.mk hg))
theorem expr_b(C:DCtx Z ts sl):DB Z X ts sl 38 [.ptr 0 0]:=by
 intro i Q R hi hQ
 refine tc_rG dtd_ok (by rfl) (by kernel_rfl) ?_
 conv in (rF _ _).body=>reduce
 conv in (rF _ _).res=>reduce
 conv=>whnf
 repeat' first
  | ((with_reducible refine tckd 36 ?_);refine dhas_tb C hi ?_;(conv=>whnf))
  | ((with_reducible refine tckd 19 ?_);refine dnow_tc C hi ?_;(conv=>whnf))
  | ((with_reducible refine tckd 75 ?_);refine dis_tb C hi ?_;(conv=>whnf))
  | ((with_reducible refine tckd 39 ?_);refine dwant_tb C hi ?_;(conv=>whnf))
  | ((with_reducible refine tckd 43 ?_);refine dwantKind_tb C hi ?_;(conv=>whnf))
  | ((with_reducible refine tckd 79 ?_);refine dbegins_tb C hi ?_;(conv=>whnf))
  | ((with_reducible refine tckd 77 ?_);refine dkind_tb C hi ?_;(conv=>whnf))
  | ((with_reducible refine tckd 164 ?_);refine doperator_tb C hi ?_;(conv=>whnf))
  | ((with_reducible refine tckd 121 ?_);refine daugment_tb C hi ?_;(conv=>whnf))
  | ((with_reducible refine tckd 118 ?_);refine atom_b C i _ _ hi ?_;intro kat l x o gs hg;(conv=>whnf))
  | ((with_reducible refine tckd 82 ?_);refine primary_b C i _ _ hi ?_;intro kpr l x o gs hg;(conv=>whnf))
  | ((with_reducible refine tckd 173 ?_);refine factor_b C i _ _ hi ?_;intro kfa l x o gs hg;(conv=>whnf))
  | ((with_reducible refine tckd 170 ?_);refine term_b C i _ _ hi ?_;intro kte l x o gs hg;(conv=>whnf))
  | ((with_reducible refine tckd 163 ?_);refine arith_b C i _ _ hi ?_;intro kar l x o gs hg;(conv=>whnf))
  | ((with_reducible refine tckd 154 ?_);refine compare_b C i _ _ hi ?_;intro kco l x o gs hg;(conv=>whnf))
  | ((with_reducible refine tckd 137 ?_);refine not__b C i _ _ hi ?_;intro kno l x o gs hg;(conv=>whnf))
  | ((with_reducible refine tckd 116 ?_);refine and__b C i _ _ hi ?_;intro kan l x o gs hg;(conv=>whnf))
  | ((with_reducible refine tckd 76 ?_);refine or__b C i _ _ hi ?_;intro kor l x o gs hg;(conv=>whnf))
  | (refine loop_once [] rfl ?_;intro f;(conv=>whnf))
  | (refine⟨rfl,?_⟩;(conv=>whnf))
  | (intro hmx;(conv=>whnf))
  | ((with_reducible apply ifT_c)<;>(intro hif;(conv=>whnf)))
 all_goals first | exact hQ | exact hQ _ _ _ _ _ nd_nil | exact hQ _ _ _ _ _ hg | exact hQ _ _ _ _ _ (nd_one (.mk hg))
theorem exprs_b(C:DCtx Z ts sl):DB Z X ts sl 42 [.ptr 0 0]:=by
 intro i Q R hi hQ
 refine tc_rG dtd_ok (by rfl) (by kernel_rfl) ?_
 conv in (rF _ _).body=>reduce
 conv in (rF _ _).res=>reduce
 conv=>whnf
 repeat' first
  | ((with_reducible refine tckd 36 ?_);refine dhas_tb C hi ?_;(conv=>whnf))
  | ((with_reducible refine tckd 19 ?_);refine dnow_tc C hi ?_;(conv=>whnf))
  | ((with_reducible refine tckd 75 ?_);refine dis_tb C hi ?_;(conv=>whnf))
  | ((with_reducible refine tckd 39 ?_);refine dwant_tb C hi ?_;(conv=>whnf))
  | ((with_reducible refine tckd 43 ?_);refine dwantKind_tb C hi ?_;(conv=>whnf))
  | ((with_reducible refine tckd 79 ?_);refine dbegins_tb C hi ?_;(conv=>whnf))
  | ((with_reducible refine tckd 77 ?_);refine dkind_tb C hi ?_;(conv=>whnf))
  | ((with_reducible refine tckd 164 ?_);refine doperator_tb C hi ?_;(conv=>whnf))
  | ((with_reducible refine tckd 121 ?_);refine daugment_tb C hi ?_;(conv=>whnf))
  | ((with_reducible refine tckd 118 ?_);refine atom_b C i _ _ hi ?_;intro kat l x o gs hg;(conv=>whnf))
  | ((with_reducible refine tckd 82 ?_);refine primary_b C i _ _ hi ?_;intro kpr l x o gs hg;(conv=>whnf))
  | ((with_reducible refine tckd 173 ?_);refine factor_b C i _ _ hi ?_;intro kfa l x o gs hg;(conv=>whnf))
  | ((with_reducible refine tckd 170 ?_);refine term_b C i _ _ hi ?_;intro kte l x o gs hg;(conv=>whnf))
  | ((with_reducible refine tckd 163 ?_);refine arith_b C i _ _ hi ?_;intro kar l x o gs hg;(conv=>whnf))
  | ((with_reducible refine tckd 154 ?_);refine compare_b C i _ _ hi ?_;intro kco l x o gs hg;(conv=>whnf))
  | ((with_reducible refine tckd 137 ?_);refine not__b C i _ _ hi ?_;intro kno l x o gs hg;(conv=>whnf))
  | ((with_reducible refine tckd 116 ?_);refine and__b C i _ _ hi ?_;intro kan l x o gs hg;(conv=>whnf))
  | ((with_reducible refine tckd 76 ?_);refine or__b C i _ _ hi ?_;intro kor l x o gs hg;(conv=>whnf))
  | ((with_reducible refine tckd 38 ?_);refine expr_b C i _ _ hi ?_;intro kex l x o gs hg;(conv=>whnf))
  | (refine loop_once [] rfl ?_;intro f;(conv=>whnf))
  | (refine⟨rfl,?_⟩;(conv=>whnf))
  | (intro hmx;(conv=>whnf))
  | ((with_reducible apply ifT_c)<;>(intro hif;(conv=>whnf)))
 all_goals first | exact hQ | exact hQ _ _ _ _ _ nd_nil | exact hQ _ _ _ _ _ hg | exact hQ _ _ _ _ _ (nd_one (.mk hg))
theorem params_b(C:DCtx Z ts sl){ln:Int}{s:ByteArray}:DB Z X ts sl 44 [.ptr 0 0,rS (.int .i64 ln),rS (.string s)]:=by
 intro i Q R hi hQ
 refine tc_rG dtd_ok (by rfl) (by kernel_rfl) ?_
 conv in (rF _ _).body=>reduce
 conv in (rF _ _).res=>reduce
 conv=>whnf
 repeat' first
  | ((with_reducible refine tckd 36 ?_);refine dhas_tb C hi ?_;(conv=>whnf))
  | ((with_reducible refine tckd 19 ?_);refine dnow_tc C hi ?_;(conv=>whnf))
  | ((with_reducible refine tckd 75 ?_);refine dis_tb C hi ?_;(conv=>whnf))
  | ((with_reducible refine tckd 39 ?_);refine dwant_tb C hi ?_;(conv=>whnf))
  | ((with_reducible refine tckd 43 ?_);refine dwantKind_tb C hi ?_;(conv=>whnf))
  | ((with_reducible refine tckd 79 ?_);refine dbegins_tb C hi ?_;(conv=>whnf))
  | ((with_reducible refine tckd 77 ?_);refine dkind_tb C hi ?_;(conv=>whnf))
  | ((with_reducible refine tckd 164 ?_);refine doperator_tb C hi ?_;(conv=>whnf))
  | ((with_reducible refine tckd 121 ?_);refine daugment_tb C hi ?_;(conv=>whnf))
  | ((with_reducible refine tckd 118 ?_);refine atom_b C i _ _ hi ?_;intro kat l x o gs hg;(conv=>whnf))
  | ((with_reducible refine tckd 82 ?_);refine primary_b C i _ _ hi ?_;intro kpr l x o gs hg;(conv=>whnf))
  | ((with_reducible refine tckd 173 ?_);refine factor_b C i _ _ hi ?_;intro kfa l x o gs hg;(conv=>whnf))
  | ((with_reducible refine tckd 170 ?_);refine term_b C i _ _ hi ?_;intro kte l x o gs hg;(conv=>whnf))
  | ((with_reducible refine tckd 163 ?_);refine arith_b C i _ _ hi ?_;intro kar l x o gs hg;(conv=>whnf))
  | ((with_reducible refine tckd 154 ?_);refine compare_b C i _ _ hi ?_;intro kco l x o gs hg;(conv=>whnf))
  | ((with_reducible refine tckd 137 ?_);refine not__b C i _ _ hi ?_;intro kno l x o gs hg;(conv=>whnf))
  | ((with_reducible refine tckd 116 ?_);refine and__b C i _ _ hi ?_;intro kan l x o gs hg;(conv=>whnf))
  | ((with_reducible refine tckd 76 ?_);refine or__b C i _ _ hi ?_;intro kor l x o gs hg;(conv=>whnf))
  | ((with_reducible refine tckd 38 ?_);refine expr_b C i _ _ hi ?_;intro kex l x o gs hg;(conv=>whnf))
  | ((with_reducible refine tckd 42 ?_);refine exprs_b C i _ _ hi ?_;intro kex l x o gs hg;(conv=>whnf))
  | (refine loop_once [] rfl ?_;intro f;(conv=>whnf))
  | (refine⟨rfl,?_⟩;(conv=>whnf))
  | (intro hmx;(conv=>whnf))
  | ((with_reducible apply ifT_c)<;>(intro hif;(conv=>whnf)))
 all_goals first | exact hQ | exact hQ _ _ _ _ _ nd_nil | exact hQ _ _ _ _ _ hg | exact hQ _ _ _ _ _ (nd_one (.mk hg))
theorem plain_b(C:DCtx Z ts sl):DB Z X ts sl 84 [.ptr 0 0]:=by
 intro i Q R hi hQ
 refine tc_rG dtd_ok (by rfl) (by kernel_rfl) ?_
 conv in (rF _ _).body=>reduce
 conv in (rF _ _).res=>reduce
 conv=>whnf
 repeat' first
  | ((with_reducible refine tckd 36 ?_);refine dhas_tb C hi ?_;(conv=>whnf))
  | ((with_reducible refine tckd 19 ?_);refine dnow_tc C hi ?_;(conv=>whnf))
  | ((with_reducible refine tckd 75 ?_);refine dis_tb C hi ?_;(conv=>whnf))
  | ((with_reducible refine tckd 39 ?_);refine dwant_tb C hi ?_;(conv=>whnf))
  | ((with_reducible refine tckd 43 ?_);refine dwantKind_tb C hi ?_;(conv=>whnf))
  | ((with_reducible refine tckd 79 ?_);refine dbegins_tb C hi ?_;(conv=>whnf))
  | ((with_reducible refine tckd 77 ?_);refine dkind_tb C hi ?_;(conv=>whnf))
  | ((with_reducible refine tckd 164 ?_);refine doperator_tb C hi ?_;(conv=>whnf))
  | ((with_reducible refine tckd 121 ?_);refine daugment_tb C hi ?_;(conv=>whnf))
  | ((with_reducible refine tckd 118 ?_);refine atom_b C i _ _ hi ?_;intro kat l x o gs hg;(conv=>whnf))
  | ((with_reducible refine tckd 82 ?_);refine primary_b C i _ _ hi ?_;intro kpr l x o gs hg;(conv=>whnf))
  | ((with_reducible refine tckd 173 ?_);refine factor_b C i _ _ hi ?_;intro kfa l x o gs hg;(conv=>whnf))
  | ((with_reducible refine tckd 170 ?_);refine term_b C i _ _ hi ?_;intro kte l x o gs hg;(conv=>whnf))
  | ((with_reducible refine tckd 163 ?_);refine arith_b C i _ _ hi ?_;intro kar l x o gs hg;(conv=>whnf))
  | ((with_reducible refine tckd 154 ?_);refine compare_b C i _ _ hi ?_;intro kco l x o gs hg;(conv=>whnf))
  | ((with_reducible refine tckd 137 ?_);refine not__b C i _ _ hi ?_;intro kno l x o gs hg;(conv=>whnf))
  | ((with_reducible refine tckd 116 ?_);refine and__b C i _ _ hi ?_;intro kan l x o gs hg;(conv=>whnf))
  | ((with_reducible refine tckd 76 ?_);refine or__b C i _ _ hi ?_;intro kor l x o gs hg;(conv=>whnf))
  | ((with_reducible refine tckd 38 ?_);refine expr_b C i _ _ hi ?_;intro kex l x o gs hg;(conv=>whnf))
  | ((with_reducible refine tckd 42 ?_);refine exprs_b C i _ _ hi ?_;intro kex l x o gs hg;(conv=>whnf))
  | ((with_reducible refine tckd 44 ?_);refine params_b C i _ _ hi ?_;intro kpa l x o gs hg;(conv=>whnf))
  | (refine loop_once [] rfl ?_;intro f;(conv=>whnf))
  | (refine⟨rfl,?_⟩;(conv=>whnf))
  | (intro hmx;(conv=>whnf))
  | ((with_reducible apply ifT_c)<;>(intro hif;(conv=>whnf)))
 all_goals first | exact hQ | exact hQ _ _ _ _ _ nd_nil | exact hQ _ _ _ _ _ hg | exact hQ _ _ _ _ _ (nd_one (.mk hg))
theorem simple_b(C:DCtx Z ts sl):DB Z X ts sl 47 [.ptr 0 0]:=by
 intro i Q R hi hQ
 refine tc_rG dtd_ok (by rfl) (by kernel_rfl) ?_
 conv in (rF _ _).body=>reduce
 conv in (rF _ _).res=>reduce
 conv=>whnf
 repeat' first
  | ((with_reducible refine tckd 36 ?_);refine dhas_tb C hi ?_;(conv=>whnf))
  | ((with_reducible refine tckd 19 ?_);refine dnow_tc C hi ?_;(conv=>whnf))
  | ((with_reducible refine tckd 75 ?_);refine dis_tb C hi ?_;(conv=>whnf))
  | ((with_reducible refine tckd 39 ?_);refine dwant_tb C hi ?_;(conv=>whnf))
  | ((with_reducible refine tckd 43 ?_);refine dwantKind_tb C hi ?_;(conv=>whnf))
  | ((with_reducible refine tckd 79 ?_);refine dbegins_tb C hi ?_;(conv=>whnf))
  | ((with_reducible refine tckd 77 ?_);refine dkind_tb C hi ?_;(conv=>whnf))
  | ((with_reducible refine tckd 164 ?_);refine doperator_tb C hi ?_;(conv=>whnf))
  | ((with_reducible refine tckd 121 ?_);refine daugment_tb C hi ?_;(conv=>whnf))
  | ((with_reducible refine tckd 118 ?_);refine atom_b C i _ _ hi ?_;intro kat l x o gs hg;(conv=>whnf))
  | ((with_reducible refine tckd 82 ?_);refine primary_b C i _ _ hi ?_;intro kpr l x o gs hg;(conv=>whnf))
  | ((with_reducible refine tckd 173 ?_);refine factor_b C i _ _ hi ?_;intro kfa l x o gs hg;(conv=>whnf))
  | ((with_reducible refine tckd 170 ?_);refine term_b C i _ _ hi ?_;intro kte l x o gs hg;(conv=>whnf))
  | ((with_reducible refine tckd 163 ?_);refine arith_b C i _ _ hi ?_;intro kar l x o gs hg;(conv=>whnf))
  | ((with_reducible refine tckd 154 ?_);refine compare_b C i _ _ hi ?_;intro kco l x o gs hg;(conv=>whnf))
  | ((with_reducible refine tckd 137 ?_);refine not__b C i _ _ hi ?_;intro kno l x o gs hg;(conv=>whnf))
  | ((with_reducible refine tckd 116 ?_);refine and__b C i _ _ hi ?_;intro kan l x o gs hg;(conv=>whnf))
  | ((with_reducible refine tckd 76 ?_);refine or__b C i _ _ hi ?_;intro kor l x o gs hg;(conv=>whnf))
  | ((with_reducible refine tckd 38 ?_);refine expr_b C i _ _ hi ?_;intro kex l x o gs hg;(conv=>whnf))
  | ((with_reducible refine tckd 42 ?_);refine exprs_b C i _ _ hi ?_;intro kex l x o gs hg;(conv=>whnf))
  | ((with_reducible refine tckd 44 ?_);refine params_b C i _ _ hi ?_;intro kpa l x o gs hg;(conv=>whnf))
  | ((with_reducible refine tckd 84 ?_);refine plain_b C i _ _ hi ?_;intro kpl l x o gs hg;(conv=>whnf))
  | (refine loop_once [] rfl ?_;intro f;(conv=>whnf))
  | (refine⟨rfl,?_⟩;(conv=>whnf))
  | (intro hmx;(conv=>whnf))
  | ((with_reducible apply ifT_c)<;>(intro hif;(conv=>whnf)))
 all_goals first | exact hQ | exact hQ _ _ _ _ _ nd_nil | exact hQ _ _ _ _ _ hg | exact hQ _ _ _ _ _ (nd_one (.mk hg))
theorem block_b(C:DCtx Z ts sl):DB Z X ts sl 40 [.ptr 0 0]:=by
 intro i Q R hi hQ
 refine tc_rG dtd_ok (by rfl) (by kernel_rfl) ?_
 conv in (rF _ _).body=>reduce
 conv in (rF _ _).res=>reduce
 conv=>whnf
 repeat' first
  | ((with_reducible refine tckd 36 ?_);refine dhas_tb C hi ?_;(conv=>whnf))
  | ((with_reducible refine tckd 19 ?_);refine dnow_tc C hi ?_;(conv=>whnf))
  | ((with_reducible refine tckd 75 ?_);refine dis_tb C hi ?_;(conv=>whnf))
  | ((with_reducible refine tckd 39 ?_);refine dwant_tb C hi ?_;(conv=>whnf))
  | ((with_reducible refine tckd 43 ?_);refine dwantKind_tb C hi ?_;(conv=>whnf))
  | ((with_reducible refine tckd 79 ?_);refine dbegins_tb C hi ?_;(conv=>whnf))
  | ((with_reducible refine tckd 77 ?_);refine dkind_tb C hi ?_;(conv=>whnf))
  | ((with_reducible refine tckd 164 ?_);refine doperator_tb C hi ?_;(conv=>whnf))
  | ((with_reducible refine tckd 121 ?_);refine daugment_tb C hi ?_;(conv=>whnf))
  | ((with_reducible refine tckd 118 ?_);refine atom_b C i _ _ hi ?_;intro kat l x o gs hg;(conv=>whnf))
  | ((with_reducible refine tckd 82 ?_);refine primary_b C i _ _ hi ?_;intro kpr l x o gs hg;(conv=>whnf))
  | ((with_reducible refine tckd 173 ?_);refine factor_b C i _ _ hi ?_;intro kfa l x o gs hg;(conv=>whnf))
  | ((with_reducible refine tckd 170 ?_);refine term_b C i _ _ hi ?_;intro kte l x o gs hg;(conv=>whnf))
  | ((with_reducible refine tckd 163 ?_);refine arith_b C i _ _ hi ?_;intro kar l x o gs hg;(conv=>whnf))
  | ((with_reducible refine tckd 154 ?_);refine compare_b C i _ _ hi ?_;intro kco l x o gs hg;(conv=>whnf))
  | ((with_reducible refine tckd 137 ?_);refine not__b C i _ _ hi ?_;intro kno l x o gs hg;(conv=>whnf))
  | ((with_reducible refine tckd 116 ?_);refine and__b C i _ _ hi ?_;intro kan l x o gs hg;(conv=>whnf))
  | ((with_reducible refine tckd 76 ?_);refine or__b C i _ _ hi ?_;intro kor l x o gs hg;(conv=>whnf))
  | ((with_reducible refine tckd 38 ?_);refine expr_b C i _ _ hi ?_;intro kex l x o gs hg;(conv=>whnf))
  | ((with_reducible refine tckd 42 ?_);refine exprs_b C i _ _ hi ?_;intro kex l x o gs hg;(conv=>whnf))
  | ((with_reducible refine tckd 44 ?_);refine params_b C i _ _ hi ?_;intro kpa l x o gs hg;(conv=>whnf))
  | ((with_reducible refine tckd 84 ?_);refine plain_b C i _ _ hi ?_;intro kpl l x o gs hg;(conv=>whnf))
  | ((with_reducible refine tckd 47 ?_);refine simple_b C i _ _ hi ?_;intro ksi l x o gs hg;(conv=>whnf))
  | (refine loop_once [] rfl ?_;intro f;(conv=>whnf))
  | (refine⟨rfl,?_⟩;(conv=>whnf))
  | (intro hmx;(conv=>whnf))
  | ((with_reducible apply ifT_c)<;>(intro hif;(conv=>whnf)))
 all_goals first | exact hQ | exact hQ _ _ _ _ _ nd_nil | exact hQ _ _ _ _ _ hg | exact hQ _ _ _ _ _ (nd_one (.mk hg))
end
end Can
end Go.Proofs.YtnankhlanilbbaaGreat
end
section
namespace Go.Proofs.YtnankhlanilbbaaGreat
namespace Can
open Go Go.RowKit
set_option linter.unusedSimpArgs false
set_option linter.unusedVariables false
set_option maxRecDepth 4000
attribute [local irreducible] TC isT nowT begT
def DG (Z:TP)(X:Pan)(ts:List PT)(sl:Sl)(f:Nat)(a:NT)(F:FuncId)(args:List AV):Prop:=
 ∀(i:Nat) (Q:AV→List SV→Prop) (R:Value→Prop) (E:Nat→Prop) (P:List Nd→Nat→Prop),i≤ts.length→Gd E P (gr ts f a i)→(∀e,E e→e≤ts.length→∀k l x o gs,(∀g∈gs,NdG g)→Q (gA k l x o gs) (rdSb sl e true))→(∀l j,P l j→j≤ts.length→Q (ans1 l) (rdSb sl j false))→TC Z (tblG Tryz.prog LG GG) X F args (rdD sl i false) Q R
def DGn (Z:TP)(X:Pan)(ts:List PT)(sl:Sl)(f:Nat)(a:NT)(F:FuncId)(args:List AV):Prop:=
 ∀(i:Nat) (Q:AV→List SV→Prop) (R:Value→Prop) (E:Nat→Prop) (P:List Nd→Nat→Prop),i≤ts.length→Gd E P (gr ts f a i)→(∀e,E e→e≤ts.length→∀gs:List (List SV),(∀g∈gs,NdG g)→2*gs.length≤ts.length+2→Q (.r (.c (.s (.row 5 gs)))) (rdSb sl e true))→(∀l j,P l j→j≤ts.length→Q (ansL l) (rdSb sl j false))→TC Z (tblG Tryz.prog LG GG) X F args (rdD sl i false) Q R
section
variable {Z:TP} {X:Pan} {ts:List PT} {sl:Sl} {R:Value→Prop} {Q:AV→List SV→Prop} {E:Nat→Prop} {P:List Nd→Nat→Prop} {i:Nat}
theorem dhas_st(C:DCtx Z ts sl){s:List UInt8}{A B:PR}(hG:Gd E P (if isT ts i s=true then A else B))(hs:s≠ [])(hi:i≤ts.length)(h1:i<ts.length→Gd E P A→Q (rS (.bool true)) (rdSb sl (i+1) false))(h2:Gd E P B→Q (rS (.bool false)) (rdSb sl i false)):TC Z (tblG Tryz.prog LG GG) X 36 [.ptr 0 0,rS (.string ⟨⟨s⟩⟩)] (rdD sl i false) Q R:=by
 refine dhas_tc C hs hi (fun h hl=> ?_) (fun h=> ?_)
 ·rw[if_pos h] at hG;exact h1 hl hG
 ·rw[if_neg (by rw[h];decide)] at hG;exact h2 hG
theorem dis_st(C:DCtx Z ts sl){s:List UInt8}{A B:PR}(hG:Gd E P (if isT ts i s=true then A else B))(hs:s≠ [])(hi:i≤ts.length)(h1:isT ts i s=true→i<ts.length→Gd E P A→Q (rS (.bool true)) (rdSb sl i false))(h2:isT ts i s=false→Gd E P B→Q (rS (.bool false)) (rdSb sl i false)):TC Z (tblG Tryz.prog LG GG) X 75 [.ptr 0 0,rS (.string ⟨⟨s⟩⟩)] (rdD sl i false) Q R:=by
 refine dis_tc2 C hs hi (fun h=> ?_) (fun h=> ?_)
 ·rw[if_pos h] at hG;exact h1 h (isT_lt' h) hG
 ·rw[if_neg (by rw[h];decide)] at hG;exact h2 h hG
theorem dis_stf(C:DCtx Z ts sl){s:List UInt8}{A B:PR}(hG:Gd E P (if isT ts i s=false then A else B))(hs:s≠ [])(hi:i≤ts.length)(h1:Gd E P B→Q (rS (.bool true)) (rdSb sl i false))(h2:Gd E P A→Q (rS (.bool false)) (rdSb sl i false)):TC Z (tblG Tryz.prog LG GG) X 75 [.ptr 0 0,rS (.string ⟨⟨s⟩⟩)] (rdD sl i false) Q R:=by
 refine dis_tc2 C hs hi (fun h=> ?_) (fun h=> ?_)
 ·rw[if_neg (by rw[h];decide)] at hG;exact h1 hG
 ·rw[if_pos h] at hG;exact h2 hG
theorem dwant_kn(C:DCtx Z ts sl){s:List UInt8}(hs:s≠ [])(hi:i≤ts.length)(hb:isT ts i s=true)(h1:i<ts.length→Q (.tup []) (rdSb sl (i+1) false)):TC Z (tblG Tryz.prog LG GG) X 39 [.ptr 0 0,rS (.string ⟨⟨s⟩⟩)] (rdD sl i false) Q R:=
 dwant_tc C hs hi (fun _ hl=>h1 hl) fun h=>by rw[hb] at h;cases h
theorem drd_wr(C:DCtx Z ts sl)(h:i<ts.length) : [SV.sc (.slice sl.q sl.n sl.c),SV.sc (.int .i64 (IntKind.wrap .i64 ((i:Int)+1))),SV.sc (.bool false)]=rdSb sl (i+1) false:=by
 rw[wr_inc h C.len];rfl
theorem dbegins_st(C:DCtx Z ts sl){A B:PR}(hG:Gd E P (if begT ts i=true then A else B))(hi:i≤ts.length)(h1:Gd E P A→Q (rS (.bool true)) (rdSb sl i false))(h2:Gd E P B→Q (rS (.bool false)) (rdSb sl i false)):TC Z (tblG Tryz.prog LG GG) X 79 [.ptr 0 0] (rdD sl i false) Q R:=by
 refine dbegins_tc C hi ?_
 cases h:begT ts i with
 | true=>rw[if_pos h] at hG;exact h1 hG
 | false=>rw[if_neg (by rw[h];decide)] at hG;exact h2 hG
theorem dkind_st(C:DCtx Z ts sl){k:Int}{A B:PR}(hG:Gd E P (if (nowT ts i).kind=k then A else B))(h0:k≠0)(hi:i≤ts.length)(h1:i<ts.length→Gd E P A→Q (rS (.bool true)) (rdSb sl i false))(h2:Gd E P B→Q (rS (.bool false)) (rdSb sl i false)):TC Z (tblG Tryz.prog LG GG) X 77 [.ptr 0 0,rS (.int .i64 k)] (rdD sl i false) Q R:=by
 refine dkind_tc C hi ?_
 by_cases h:(nowT ts i).kind=k
 ·rw[if_pos h] at hG;rw[decide_eq_true h];exact h1 (kd_lt (by rw[h];exact h0)) hG
 ·rw[if_neg h] at hG;rw[decide_eq_false h];exact h2 hG
theorem dwant_st(C:DCtx Z ts sl){s:List UInt8}{k:Nat→PR}(hG:Gd E P (wantB ts s i k))(hs:s≠ [])(hi:i≤ts.length)(hE:E i→Q (.tup []) (rdSb sl i true))(h1:i<ts.length→Gd E P (k (i+1))→Q (.tup []) (rdSb sl (i+1) false)):TC Z (tblG Tryz.prog LG GG) X 39 [.ptr 0 0,rS (.string ⟨⟨s⟩⟩)] (rdD sl i false) Q R:=by
 unfold wantB at hG
 refine dwant_tc C hs hi (fun h hl=> ?_) (fun h=> ?_)
 ·rw[if_pos h] at hG;exact h1 hl hG
 ·rw[if_neg (by rw[h];decide)] at hG;exact hE hG
theorem dwantK_st(C:DCtx Z ts sl){kd:Int}{k:List UInt8→Nat→PR}(hG:Gd E P (wantK ts kd i k))(h0:kd≠0)(hi:i≤ts.length)(hE:E i→Q (rS (.string ⟨⟨[]⟩⟩)) (rdSb sl i true))(h1:i<ts.length→Gd E P (k (nowT ts i).text (i+1))→Q (rS (.string ⟨⟨(nowT ts i).text⟩⟩)) (rdSb sl (i+1) false)):TC Z (tblG Tryz.prog LG GG) X 43 [.ptr 0 0,rS (.int .i64 kd)] (rdD sl i false) Q R:=by
 unfold wantK at hG
 refine dwantKind_tc C h0 hi (fun h hl=> ?_) (fun h=> ?_)
 ·rw[if_pos h] at hG;exact h1 hl hG
 ·rw[if_neg h] at hG;exact hE hG
theorem doperator_st(C:DCtx Z ts sl){A:PR}{B:Nat→Nat→PR}(hG:Gd E P (match opT ts i with | .error e=>some (.error e) | .ok (0,_)=>A | .ok (op+1,j)=>B op j))(hi:i≤ts.length)(hE : ∀e,E e→e≤ts.length→Q (rS (.int .i64 8)) (rdSb sl e true))(h0:Gd E P A→Q (rS (.int .i64 0)) (rdSb sl i false))(h1 : ∀op j,i<j→j≤ts.length→Gd E P (B op j)→Q (rS (.int .i64 ((op+1:Nat):Int))) (rdSb sl j false)):TC Z (tblG Tryz.prog LG GG) X 164 [.ptr 0 0] (rdD sl i false) Q R:=by
 have ho:=opT_gd hi
 refine doperator_tc C hi (fun e h=> ?_) (fun op j h hj=> ?_)
 ·rw[h] at hG ho;exact hE e hG ho.2
 ·rw[h] at hG ho
  cases op with
  | zero=>
    rcases ho with ⟨_,e⟩ | ⟨h,_⟩
    ·subst e;exact h0 hG
    ·exact absurd rfl h
  | succ op=>
    rcases ho with ⟨h,_⟩ | ⟨_,h2,_⟩
    ·cases h
    ·exact h1 op j h2 hj hG
theorem daugment_st(C:DCtx Z ts sl){A B:PR}(hG:Gd E P (if augT ts i=0 then A else B))(hi:i≤ts.length)(h1:augT ts i≠0→i<ts.length→Gd E P B→Q (rS (.int .i64 (augT ts i:Nat))) (rdSb sl (i+1) false))(h2:Gd E P A→Q (rS (.int .i64 0)) (rdSb sl i false)):TC Z (tblG Tryz.prog LG GG) X 121 [.ptr 0 0] (rdD sl i false) Q R:=by
 refine daugment_tc C hi (fun h hl=> ?_) (fun h=> ?_)
 ·rw[if_neg h] at hG;exact h1 h hl hG
 ·rw[if_pos h] at hG;exact h2 hG
theorem drul_st{f:Nat}{a:NT}{F:FuncId}{args:List AV}(h:DG Z X ts sl f a F args){k:Nd→Nat→PR}(hG:Gd E P (pb1 (gr ts f a i) k))(hg:a.good)(ha:a.acc=none)(hE : ∀e,E e→e≤ts.length→∀k l x o gs,(∀g∈gs,NdG g)→Q (gA k l x o gs) (rdSb sl e true))(hi:i≤ts.length)(h1 : ∀n l x o ks j,i+a.min≤j→j≤ts.length→Gd E P (k (.mk n l x o ks) j)→Q (ndA (.mk n l x o ks)) (rdSb sl j false)):TC Z (tblG Tryz.prog LG GG) X F args (rdD sl i false) Q R:=by
 rw[gd_pb1] at hG
 refine h i Q R _ _ hi (gr_post hg hi hG) (fun e he hl=>hE e he.1 hl) fun l j ⟨⟨t,e,hP⟩,hp⟩ hj=> ?_
 subst e
 obtain⟨n,l,x,o,ks⟩:=t
 exact h1 n l x o ks j hp.1 hp.2.1 hP
theorem dlst_st{f:Nat}{a:NT}{F:FuncId}{args:List AV}(h:DGn Z X ts sl f a F args){k:List Nd→Nat→PR}(hG:Gd E P (pb (gr ts f a i) k))(hg:a.good)(ha:a.acc=some (a.acc.getD 0))(hE : ∀e,E e→e≤ts.length→∀gs:List (List SV),(∀g∈gs,NdG g)→2*gs.length≤ts.length+2→Q (.r (.c (.s (.row 5 gs)))) (rdSb sl e true))(hi:i≤ts.length)(h1 : ∀l j,i≤j→j≤ts.length→2*l.length+i≤2*a.acc.getD 0+j+1→Gd E P (k l j)→Q (ansL l) (rdSb sl j false)):TC Z (tblG Tryz.prog LG GG) X F args (rdD sl i false) Q R:=by
 rw[gd_pb] at hG
 refine h i Q R _ _ hi (gr_post hg hi hG) (fun e he hl=>hE e he.1 hl) fun l j ⟨hP,hp⟩ hj=> ?_
 obtain⟨p1,p2,p3⟩:=hp
 rw[ha] at p3
 exact h1 l j (by omega) p2 p3.1 hP
theorem dtal_st{f:Nat}{a:NT}{F:FuncId}{args:List AV}(h:DG Z X ts sl f a F args)(hG:Gd E P (gr ts f a i))(hg:a.good)(ha:a.acc=none)(hE : ∀e,E e→e≤ts.length→∀k l x o gs,(∀g∈gs,NdG g)→Q (gA k l x o gs) (rdSb sl e true))(hi:i≤ts.length)(h1 : ∀n l x o ks j,i+a.min≤j→j≤ts.length→P [.mk n l x o ks] j→Q (ndA (.mk n l x o ks)) (rdSb sl j false)):TC Z (tblG Tryz.prog LG GG) X F args (rdD sl i false) Q R:=by
 refine h i Q R _ _ hi (gr_post hg hi hG) (fun e he hl=>hE e he.1 hl) fun l j ⟨hP,hp⟩ hj=> ?_
 have h3:=hp.2.2
 rw[ha] at h3
 obtain⟨t,rfl⟩:=nd_one_of h3
 obtain⟨n,l,x,o,ks⟩:=t
 exact h1 n l x o ks j hp.1 hp.2.1 hP
end
end Can
end Go.Proofs.YtnankhlanilbbaaGreat
end
section
namespace Go.Proofs.YtnankhlanilbbaaGreat
namespace Can
open Go Go.RowKit
set_option linter.unusedSimpArgs false
set_option linter.unusedVariables false
set_option maxRecDepth 4000
attribute [local irreducible] TC isT nowT begT
section
variable {Z:TP} {X:Pan} {R:Value→Prop} {Q:AV→List SV→Prop}
theorem dleaf_tc{k:Int}(h4:4≤k)(h7:k≤7)(hQ:Q (rS (.int .i64 (leafK k:Nat))) []):TC Z (tblG Tryz.prog LG GG) X 138 [rS (.int .i64 k)] none Q R:=by
 refine tc_rG dtd_ok (by rfl) (by kernel_rfl) ?_
 conv in (rF _ _).body=>reduce
 conv in (rF _ _).res=>reduce
 obtain rfl | rfl | rfl | rfl:k=4∨k=5∨k=6∨k=7:=by omega
 all_goals
  conv=>whnf
  exact hQ
theorem dsingle_tc{k:Nat}{l:Int}{x:List UInt8}{o:Nat}{ks:List Nd}(hQ:Q (rS (.bool (singleN (.mk k l x o ks)))) []):TC Z (tblG Tryz.prog LG GG) X 83 [ndA (.mk k l x o ks)] none Q R:=by
 have e:singleN (.mk k l x o ks)=decide (k=36∨k=45∨k=46):=rfl
 rw[e] at hQ
 refine tc_rG dtd_ok (by rfl) (by kernel_rfl) ?_
 conv in (rF _ _).body=>reduce
 conv in (rF _ _).res=>reduce
 by_cases h1:k=36
 ·subst h1
  conv=>whnf
  exact hQ
 by_cases h2:k=45
 ·subst h2
  conv=>whnf
  exact hQ
 by_cases h3:k=46
 ·subst h3
  conv=>whnf
  exact hQ
 rw[decide_eq_false (by omega)] at hQ
 conv=>whnf
 refine ifT_c (fun h=>by exfalso;simp at h;omega) fun h=> ?_
 conv=>whnf
 refine ifT_c (fun h=>by exfalso;simp at h;omega) fun h=> ?_
 conv=>whnf
 refine ifT_c (fun h=>by exfalso;simp at h;omega) fun h=> ?_
 conv=>whnf
 exact hQ
theorem dsingle_st{k:Nat}{l:Int}{x:List UInt8}{o:Nat}{ks:List Nd}{E:Nat→Prop}{P:List Nd→Nat→Prop}{A B:PR}(hG:Gd E P (if singleN (.mk k l x o ks)=true then A else B))(h1:Gd E P A→Q (rS (.bool true)) [])(h2:Gd E P B→Q (rS (.bool false)) []):TC Z (tblG Tryz.prog LG GG) X 83 [ndA (.mk k l x o ks)] none Q R:=by
 refine dsingle_tc ?_
 cases h:singleN (.mk k l x o ks) with
 | true=>rw[if_pos h] at hG;exact h1 hG
 | false=>rw[if_neg (by rw[h];decide)] at hG;exact h2 hG
theorem dplace_tc : ∀(N:Nat) (k:Nat) (l:Int) (x:List UInt8) (o:Nat) (ks:List Nd),nsz (.mk k l x o ks)<N→∀(Q:AV→List SV→Prop) (R:Value→Prop),Q (rS (.bool (placeN (.mk k l x o ks)))) []→TC Z (tblG Tryz.prog LG GG) X 117 [ndA (.mk k l x o ks)] none Q R:=by
 intro N
 induction N with
 | zero=>intro k l x o ks h;exact absurd h (Nat.not_lt_zero _)
 | succ N ih=>
 intro k l x o ks hN Q R hQ
 refine tc_rG dtd_ok (by rfl) (by kernel_rfl) ?_
 conv in (rF _ _).body=>reduce
 conv in (rF _ _).res=>reduce
 by_cases hk:k=52∨k=51
 ·have e:placeN (.mk k l x o ks)=(placesN ks && !ks.isEmpty):=if_pos hk
  rw[e] at hQ
  rcases hk with rfl | rfl
  all_goals
   conv=>whnf
   refine loop_1 3 (fun m a s=>∃i:Nat,a=rS (.int .i64 (i:Nat))∧s=⟨0,[oN (nA _ l x o ks)]⟩∧m+i=ks.length∧placesN ks=placesN (ks.drop i)) ks.length [] rfl ⟨0,rfl,rfl,rfl,rfl⟩ ?_
   rintro m a f s ⟨i,rfl,rfl,hm,hp⟩
   conv=>whnf
   intro hmx
   conv=>whnf
   refine ifT_c (fun h=> ?_) fun h=> ?_
   ·have hi:i<ks.length:=by simp[ndsS_len] at h;omega
    obtain⟨t,ht⟩ : ∃t,ks[i]? = some t:=⟨_,List.getElem?_eq_getElem hi⟩
    have hd:=placesN_drop ht
    have hlt:=nsz_lt (List.mem_of_getElem? ht) (k:=52) (l:=l) (x:=x) (o:=o)
    have hlt2:=nsz_lt (List.mem_of_getElem? ht) (k:=51) (l:=l) (x:=x) (o:=o)
    obtain⟨k1,l1,x1,o1,ks1⟩:=t
    conv=>whnf
    refine⟨rfl,i,_,rfl,ndsS_get ht,?_⟩
    conv=>whnf
    refine ih k1 l1 x1 o1 ks1 (by omega) _ _ ?_
    conv=>whnf
    cases hpl:placeN (.mk k1 l1 x1 o1 ks1) with
    | true=>
      rw[hpl,Bool.true_and] at hd
      conv=>whnf
      rw[ndsS_len] at hmx
      exact⟨m-1,[],by omega,rfl,i+1,congrArg (fun n=>rS (.int .i64 n)) (wr_inc' hi hmx),rfl,by omega,hp.trans hd⟩
    | false=>
      rw[hp,hd,hpl] at hQ
      conv=>whnf
      exact hQ
   ·have hi:i=ks.length:=by simp[ndsS_len] at h;omega
    subst hi
    have hp:placesN ks=true:=by rw[hp,List.drop_length];rfl
    rw[hp,Bool.true_and] at hQ
    conv=>whnf
    intro hmx
    conv=>whnf
    refine ifT_c (fun h=> ?_) fun h=> ?_
    ·have:ks.isEmpty=false:=by cases ks;simp[ndsS] at h;rfl
     rw[this] at hQ
     conv=>whnf
     exact hQ
    ·have:ks.isEmpty=true:=by cases ks;rfl;simp[ndsS] at h
     rw[this] at hQ
     conv=>whnf
     exact hQ
 ·have e:placeN (.mk k l x o ks)=decide (k=36∨k=45∨k=46):=if_neg hk
  have e':singleN (.mk k l x o ks)=decide (k=36∨k=45∨k=46):=rfl
  rw[e,←e'] at hQ
  conv=>whnf
  refine ifT_c (fun h=> ?_) fun h=>by exfalso;simp at h;omega
  conv=>whnf
  refine ifT_c (fun h=> ?_) fun h=>by exfalso;simp at h;omega
  conv=>whnf
  refine dsingle_tc ?_
  conv=>whnf
  cases hs:singleN (.mk k l x o ks) with
  | true=>
    rw[hs] at hQ
    conv=>whnf
    exact hQ
  | false=>
    rw[hs] at hQ
    conv=>whnf
    exact hQ
theorem dplace_st{k:Nat}{l:Int}{x:List UInt8}{o:Nat}{ks:List Nd}{E:Nat→Prop}{P:List Nd→Nat→Prop}{A B:PR}(hG:Gd E P (if placeN (.mk k l x o ks)=true then A else B))(h1:Gd E P A→Q (rS (.bool true)) [])(h2:Gd E P B→Q (rS (.bool false)) []):TC Z (tblG Tryz.prog LG GG) X 117 [ndA (.mk k l x o ks)] none Q R:=by
 refine dplace_tc _ k l x o ks (Nat.lt_succ_self _) Q R ?_
 cases h:placeN (.mk k l x o ks) with
 | true=>rw[if_pos h] at hG;exact h1 hG
 | false=>rw[if_neg (by rw[h];decide)] at hG;exact h2 hG
end
end Can
end Go.Proofs.YtnankhlanilbbaaGreat
end
section
namespace Go.Proofs.YtnankhlanilbbaaGreat
namespace Can
open Go Go.RowKit
set_option linter.unusedSimpArgs false
set_option linter.unusedVariables false
set_option maxRecDepth 4000
attribute [local irreducible] TC isT nowT begT
section
variable {Z:TP} {X:Pan} {R:Value→Prop} {Q:AV→List SV→Prop}
theorem dsingle_any{k l:Int}{x:ByteArray}{o:Int}{gs:List (List SV)}(hQ : ∀b,Q (rS (.bool b)) []):TC Z (tblG Tryz.prog LG GG) X 83 [gA k l x o gs] none Q R:=by
 refine tc_rG dtd_ok (by rfl) (by kernel_rfl) ?_
 conv in (rF _ _).body=>reduce
 conv in (rF _ _).res=>reduce
 conv=>whnf
 repeat' first
  | exact hQ _
  | (refine ifT_c (fun _=> ?_) (fun _=> ?_)<;>(conv=>whnf))
theorem dplace_any{L:List SV}(hn:NdG L) : ∀(k l:Int) (x:ByteArray) (o:Int) (gs:List (List SV)),L= [.sc (.int .i64 k), .sc (.int .i64 l), .sc (.string x), .sc (.int .i64 o), .row 5 gs]→∀(Q:AV→List SV→Prop) (R:Value→Prop),(∀b,Q (rS (.bool b)) [])→TC Z (tblG Tryz.prog LG GG) X 117 [gA k l x o gs] none Q R:=by
 induction hn with
 | @mk k' l' x' o' gs' hg ih=>
 intro k l x o gs e Q R hQ
 injection e with e1 e
 injection e with e2 e
 injection e with e3 e
 injection e with e4 e
 injection e with e5 e
 cases e1;cases e2;cases e3;cases e4;cases e5
 refine tc_rG dtd_ok (by rfl) (by kernel_rfl) ?_
 conv in (rF _ _).body=>reduce
 conv in (rF _ _).res=>reduce
 by_cases hk:k'=52∨k'=51
 ·rcases hk with rfl | rfl
  all_goals
   conv=>whnf
   refine loop_1 3 (fun m a s=>∃i:Nat,a=rS (.int .i64 (i:Nat))∧s=⟨0,[oN [cS (.int .i64 _),cS (.int .i64 l'),cS (.string x'),cS (.int .i64 o'), .s (.row 5 gs')]]⟩∧m+i=gs'.length) gs'.length [] rfl ⟨0,rfl,rfl,rfl⟩ ?_
   rintro m a f s ⟨i,rfl,rfl,hm⟩
   conv=>whnf
   intro hmx
   conv=>whnf
   refine ifT_c (fun h=> ?_) fun h=> ?_
   ·have hi:i<gs'.length:=by simp at h;omega
    have ht:gs'[i]? = some gs'[i]:=List.getElem?_eq_getElem hi
    obtain⟨t,ht'⟩ : ∃t,gs'[i]=t:=⟨_,rfl⟩
    rw[ht'] at ht
    have hmem:t∈gs':=List.mem_of_getElem? ht
    have ihh:=ih t hmem
    have hnt:=hg t hmem
    cases hnt with
    | @mk k1 l1 x1 o1 g1 h1=>
    conv=>whnf
    refine⟨rfl,i,_,rfl,ht,?_⟩
    conv=>whnf
    refine ihh _ _ _ _ _ rfl _ _ fun b=> ?_
    conv=>whnf
    cases b with
    | true=>
      conv=>whnf
      exact⟨m-1,[],by omega,rfl,i+1,congrArg (fun n=>rS (.int .i64 n)) (wr_inc' hi hmx),rfl,by omega⟩
    | false=>
      conv=>whnf
      exact hQ _
   ·conv=>whnf
    intro hmx
    conv=>whnf
    repeat' first
     | exact hQ _
     | (refine ifT_c (fun _=> ?_) (fun _=> ?_)<;>(conv=>whnf))
 ·conv=>whnf
  refine ifT_c (fun h=> ?_) fun h=>by exfalso;simp at h;omega
  conv=>whnf
  refine ifT_c (fun h=> ?_) fun h=>by exfalso;simp at h;omega
  conv=>whnf
  refine dsingle_any fun b=> ?_
  cases b with
  | true=>
    conv=>whnf
    exact hQ _
  | false=>
    conv=>whnf
    exact hQ _
end
end Can
end Go.Proofs.YtnankhlanilbbaaGreat
end
section
namespace Go.Proofs.YtnankhlanilbbaaGreat
namespace Can
open Go Go.RowKit
set_option linter.unusedSimpArgs false
set_option linter.unusedVariables false
set_option maxRecDepth 4000
attribute [local irreducible] TC isT nowT begT
section
variable {Z:TP} {X:Pan} {R:Value→Prop} {Q:AV→List SV→Prop}
theorem dheight_tc : ∀(N:Nat) (k:Nat) (l:Int) (x:List UInt8) (o:Nat) (ks:List Nd),nsz (.mk k l x o ks)<N→htL ks+1≤9223372036854775807→∀(Q:AV→List SV→Prop) (R:Value→Prop),Q (rS (.int .i64 (htL ks+1:Nat))) []→TC Z (tblG Tryz.prog LG GG) X 21 [ndA (.mk k l x o ks)] none Q R:=by
 intro N
 induction N with
 | zero=>intro k l x o ks h;exact absurd h (Nat.not_lt_zero _)
 | succ N ih=>
 intro k l x o ks hN hB Q R hQ
 refine tc_rG dtd_ok (by rfl) (by kernel_rfl) ?_
 conv in (rF _ _).body=>reduce
 conv in (rF _ _).res=>reduce
 conv=>whnf
 refine loop_2 4 3 (fun m a b s=>∃i h:Nat,a=rS (.int .i64 (i:Nat))∧b=rS (.int .i64 (h:Nat))∧s=⟨0,[oN (nA k l x o ks)]⟩∧m+i=ks.length∧max h (htL (ks.drop i))=htL ks) ks.length [] rfl ⟨0,0,rfl,rfl,rfl,rfl,Nat.zero_max _⟩ ?_
 rintro m a b f s ⟨i,h,rfl,rfl,rfl,hm,hp⟩
 conv=>whnf
 intro hmx
 conv=>whnf
 refine ifT_c (fun hc=> ?_) fun hc=> ?_
 ·have hi:i<ks.length:=by simp[ndsS_len] at hc;omega
  obtain⟨t,ht⟩ : ∃t,ks[i]? = some t:=⟨_,List.getElem?_eq_getElem hi⟩
  have hd:=htL_drop ht
  have hlt:=nsz_lt (List.mem_of_getElem? ht) (k:=k) (l:=l) (x:=x) (o:=o)
  have hht:=htL_mem (List.mem_of_getElem? ht)
  obtain⟨k1,l1,x1,o1,ks1⟩:=t
  have e1:htN (.mk k1 l1 x1 o1 ks1)=htL ks1+1:=rfl
  conv=>whnf
  refine⟨rfl,i,_,rfl,ndsS_get ht,?_⟩
  conv=>whnf
  refine ih k1 l1 x1 o1 ks1 (by omega) (by omega) _ _ ?_
  conv=>whnf
  rw[ndsS_len] at hmx
  refine⟨m-1,[],by omega,rfl,i+1,max h (htL ks1+1),congrArg (fun n=>rS (.int .i64 n)) (wr_inc' hi hmx),?_,rfl,by omega,by rw[←hp,hd,e1,Nat.max_assoc]⟩
  exact congrArg (fun n=>rS (.int .i64 n)) (max_int h (htL ks1+1))
 ·have hi:i=ks.length:=by simp[ndsS_len] at hc;omega
  subst hi
  have hp:h=htL ks:=by rw[←hp,List.drop_length];exact(Nat.max_zero _).symm
  subst hp
  conv=>whnf
  exact q_eq (congrArg (fun n=>rS (.int .i64 n)) (wr_inc' (Nat.lt_succ_self _) (by rw[maxLen_eq];omega))) rfl hQ
end
end Can
end Go.Proofs.YtnankhlanilbbaaGreat
end
