/- Parse, the document: its rules, as runs over trees, along the grammar; where a token can't stand, on in bad mode. (Printed by tools/gendw.py.). Parse, the document: its rules, as runs over trees, along the grammar; where a token can't stand, on in bad mode. (Printed by tools/gendw.py.). Parse, the document: its rules, as runs over trees, along the grammar; where a token can't stand, on in bad mode. (Printed by tools/gendw.py.). Parse, the document: its rules, as runs over trees, along the grammar; where a token can't stand, on in bad mode. (Printed by tools/gendw.py.). Parse, the document: its rules, as runs over trees, along the grammar; where a token can't stand, on in bad mode. (Printed by tools/gendw.py.). Parse, the document: its rules, as runs over trees, along the grammar; where a token can't stand, on in bad mode. (Printed by tools/gendw.py.). Parse, the document: screeref05.Parse answers parseT. Parse, the document: screeref05.Parse in a memory. Parse, its laws: the sources of the example, where Lex is told. Canonical runs: a table with functions of which it is told what they do. Over any program. Parse, its laws: the table in which it is told what Parse does; Same of trees. -/
import Derived.Test.YtnankhlanilbbaaGreatZq
import Derived.Test.YtnankhlanilbbaaGreatZn
import Derived.Test.YtnankhlanilbbaaGreatZi
import Derived.Test.YtnankhlanilbbaaGreatZp
import Derived.Test.YtnankhlanilbbaaGreatZd
section
namespace Go.Proofs.YtnankhlanilbbaaGreat
namespace Can
open Go Go.RowKit
set_option linter.unusedSimpArgs false
set_option linter.unusedVariables false
set_option maxRecDepth 4000
attribute [local irreducible] TC isT nowT begT placeN
abbrev gC(k l:Int)(x:ByteArray)(o:Int)(gs:List (List SV)):List CV:= [cS (.int .i64 k),cS (.int .i64 l),cS (.string x),cS (.int .i64 o), .s (.row 5 gs)]
abbrev nG(k l:Int)(x:ByteArray)(o:Int)(c:CV):List CV:= [cS (.int .i64 k),cS (.int .i64 l),cS (.string x),cS (.int .i64 o),c]
abbrev oRb(sl:Sl)(j:Nat)(b:Bool):Nat×TypeId×List CV:=(0,47,[cS (.slice sl.q sl.n sl.c),cS (.int .i64 (j:Nat)),cS (.bool b)])
theorem nd_cons{a:List SV}{l:List (List SV)}(h:NdG a)(hl : ∀g∈l,NdG g) : ∀g∈a::l,NdG g:=fun g hg=>by
 rcases List.mem_cons.1 hg with rfl | hg
 ·exact h
 ·exact hl g hg
theorem nd_app{a b:List (List SV)}(h : ∀g∈a,NdG g)(hl : ∀g∈b,NdG g) : ∀g∈a++b,NdG g:=fun g hg=>by
 rcases List.mem_append.1 hg with hg | hg
 ·exact h g hg
 ·exact hl g hg
structure DAll(Z:TP)(X:Pan)(ts:List PT)(sl:Sl)(g:Nat):Prop where
 expr:DG Z X ts sl g .expr 38 [.ptr 0 0]
 or_:DG Z X ts sl g .or 76 [.ptr 0 0]
 and_:DG Z X ts sl g .and 116 [.ptr 0 0]
 not_:DG Z X ts sl g .not 137 [.ptr 0 0]
 compare:DG Z X ts sl g .compare 154 [.ptr 0 0]
 arith:DG Z X ts sl g .arith 163 [.ptr 0 0]
 term:DG Z X ts sl g .term 170 [.ptr 0 0]
 factor:DG Z X ts sl g .factor 173 [.ptr 0 0]
 primary:DG Z X ts sl g .primary 82 [.ptr 0 0]
 atom:DG Z X ts sl g .atom 118 [.ptr 0 0]
 exprs:DG Z X ts sl g .exprs 42 [.ptr 0 0]
 one:DG Z X ts sl g .one 78 [.ptr 0 0]
 places:DG Z X ts sl g .places 41 [.ptr 0 0]
 simple:DG Z X ts sl g .simple 47 [.ptr 0 0]
 plain:DG Z X ts sl g .plain 84 [.ptr 0 0]
 value:DG Z X ts sl g .value 120 [.ptr 0 0]
 block:DG Z X ts sl g .block 40 [.ptr 0 0]
 stmt:DG Z X ts sl g .stmt 20 [.ptr 0 0]
 params : ∀(cl:List UInt8) (ln:Int),cl≠ []→DG Z X ts sl g (.params cl ln []) 44 [.ptr 0 0,rS (.int .i64 ln),rS (.string ⟨⟨cl⟩⟩)]
 row : ∀(cl:List UInt8),cl≠ []→DGn Z X ts sl g (.row cl []) 45 [.ptr 0 0,rS (.string ⟨⟨cl⟩⟩)]
 index : ∀(k:Nat) (l:Int) (x:List UInt8) (o:Nat) (ks:List Nd),DG Z X ts sl g (.index (.mk k l x o ks)) 119 [.ptr 0 0,ndA (.mk k l x o ks)]
 clauses:DGn Z X ts sl g (.clauses []) 155 [.ptr 0 0]
 list : ∀(ln:Int),DG Z X ts sl g (.list ln) 139 [.ptr 0 0,rS (.int .i64 ln)]
 braces : ∀(ln:Int),DG Z X ts sl g (.braces ln) 140 [.ptr 0 0,rS (.int .i64 ln)]
 names : ∀(k:Nat) (ln:Int),DG Z X ts sl g (.names k ln []) 81 [.ptr 0 0,rS (.int .i64 (k:Nat)),rS (.int .i64 ln)]
 maybe : ∀(k:Nat) (ln:Int) (all:Bool),DG Z X ts sl g (.maybe k ln all) 80 [.ptr 0 0,rS (.int .i64 (k:Nat)),rS (.int .i64 ln),rS (.bool all)]
 ifs : ∀(ln:Int),DG Z X ts sl g (.ifs ln) 37 [.ptr 0 0,rS (.int .i64 ln)]
 tries : ∀(ln:Int),DG Z X ts sl g (.tries ln) 46 [.ptr 0 0,rS (.int .i64 ln)]
set_option maxRecDepth 1000000 in
theorem dw_go{Pz:Prop}(hz:Pz:=by
 repeat' first
  | ((with_reducible refine tckd 36 ?_);first | (refine dhas_st C hG (by first | decide | exact cl_ne) (by omega) (fun hl hG=> ?_) (fun hG=> ?_)<;>(conv=>whnf)) | (refine dhas_tb C (by omega) ?_;(conv=>whnf)))
  | ((with_reducible refine tckd 19 ?_);first | (refine dnow_tc C (by omega) ?_;(conv=>whnf)))
  | ((with_reducible refine tckd 39 ?_);first | (refine dwant_st C hG (by first | decide | exact cl_ne) (by omega) (fun he=> ?_) (fun hl hG=> ?_)<;>(conv=>whnf)) | (refine dwant_kn C (by decide) (by omega) hb ?_;intro hl;(conv=>whnf)) | (refine dwant_tb C (by omega) ?_;(conv=>whnf)))
  | ((with_reducible refine tckd 75 ?_);first | (refine dis_st C hG (by first | decide | exact cl_ne) (by omega) (fun hb hl hG=> ?_) (fun hb hG=> ?_)<;>(conv=>whnf)) | (refine dis_stf C hG (by first | decide | exact cl_ne) (by omega) (fun hG=> ?_) (fun hG=> ?_)<;>(conv=>whnf)) | (refine dis_tb C (by omega) ?_;(conv=>whnf)))
  | ((with_reducible refine tckd 43 ?_);first | (refine dwantK_st C hG (by decide) (by omega) (fun he=> ?_) (fun hl hG=> ?_)<;>(conv=>whnf)) | (refine dwantKind_tb C (by omega) ?_;(conv=>whnf)))
  | ((with_reducible refine tckd 79 ?_);first | (refine dbegins_st C hG (by omega) (fun hG=> ?_) (fun hG=> ?_)<;>(conv=>whnf)) | (refine dbegins_tb C (by omega) ?_;(conv=>whnf)))
  | ((with_reducible refine tckd 77 ?_);first | (refine dkind_st C hG (by decide) (by omega) (fun hl hG=> ?_) (fun hG=> ?_)<;>(conv=>whnf)) | (refine dkind_tb C (by omega) ?_;(conv=>whnf)))
  | ((with_reducible refine tckd 164 ?_);first | (refine doperator_st C hG (by omega) (fun e he hel=> ?_) (fun hG=> ?_) (fun op1 j1 hj0 hj1 hG=> ?_)<;>(conv=>whnf)) | (refine doperator_tb C (by omega) ?_;(conv=>whnf)))
  | ((with_reducible refine tckd 121 ?_);first | (refine daugment_st C hG (by omega) (fun ha hl hG=> ?_) (fun hG=> ?_)<;>(conv=>whnf)) | (refine daugment_tb C (by omega) ?_;(conv=>whnf)))
  | ((with_reducible refine tckd 83 ?_);first | (refine dsingle_st hG (fun hG=> ?_) (fun hG=> ?_)<;>(conv=>whnf)) | (refine dsingle_any fun b=> ?_;cases b<;>(conv=>whnf)))
  | ((with_reducible refine tckd 117 ?_);first | (refine dplace_st hG (fun hG=> ?_) (fun hG=> ?_)<;>(conv=>whnf)) | (refine dplace_any (.mk hgb) _ _ _ _ _ rfl _ _ fun b=> ?_;cases b<;>(conv=>whnf)))
  | ((with_reducible refine tckd 38 ?_);first | (refine drul_st ihf.expr hG (by trivial) rfl (fun e he hel kb lb xb ob gb hgb=> ?_) (by omega) (fun n1 l1 x1 o1 ks1 j1 hp1 hj1 hG=> ?_)<;>(try simp only[NT.min] at hp1)<;>(conv=>whnf)) | (refine dtal_st ihf.expr hG (by trivial) rfl (fun e he hel kb lb xb ob gb hgb=> ?_) (by omega) (fun n1 l1 x1 o1 ks1 j1 hp1 hj1 hG=> ?_)<;>(try simp only[NT.min] at hp1)<;>(conv=>whnf)) | (refine expr_b C _ _ _ (by omega) ?_;intro kb lb xb ob gb hgb;(conv=>whnf)))
  | ((with_reducible refine tckd 76 ?_);first | (refine drul_st ihf.or_ hG (by trivial) rfl (fun e he hel kb lb xb ob gb hgb=> ?_) (by omega) (fun n1 l1 x1 o1 ks1 j1 hp1 hj1 hG=> ?_)<;>(try simp only[NT.min] at hp1)<;>(conv=>whnf)) | (refine dtal_st ihf.or_ hG (by trivial) rfl (fun e he hel kb lb xb ob gb hgb=> ?_) (by omega) (fun n1 l1 x1 o1 ks1 j1 hp1 hj1 hG=> ?_)<;>(try simp only[NT.min] at hp1)<;>(conv=>whnf)) | (refine or__b C _ _ _ (by omega) ?_;intro kb lb xb ob gb hgb;(conv=>whnf)))
  | ((with_reducible refine tckd 116 ?_);first | (refine drul_st ihf.and_ hG (by trivial) rfl (fun e he hel kb lb xb ob gb hgb=> ?_) (by omega) (fun n1 l1 x1 o1 ks1 j1 hp1 hj1 hG=> ?_)<;>(try simp only[NT.min] at hp1)<;>(conv=>whnf)) | (refine dtal_st ihf.and_ hG (by trivial) rfl (fun e he hel kb lb xb ob gb hgb=> ?_) (by omega) (fun n1 l1 x1 o1 ks1 j1 hp1 hj1 hG=> ?_)<;>(try simp only[NT.min] at hp1)<;>(conv=>whnf)) | (refine and__b C _ _ _ (by omega) ?_;intro kb lb xb ob gb hgb;(conv=>whnf)))
  | ((with_reducible refine tckd 137 ?_);first | (refine drul_st ihf.not_ hG (by trivial) rfl (fun e he hel kb lb xb ob gb hgb=> ?_) (by omega) (fun n1 l1 x1 o1 ks1 j1 hp1 hj1 hG=> ?_)<;>(try simp only[NT.min] at hp1)<;>(conv=>whnf)) | (refine dtal_st ihf.not_ hG (by trivial) rfl (fun e he hel kb lb xb ob gb hgb=> ?_) (by omega) (fun n1 l1 x1 o1 ks1 j1 hp1 hj1 hG=> ?_)<;>(try simp only[NT.min] at hp1)<;>(conv=>whnf)) | (refine not__b C _ _ _ (by omega) ?_;intro kb lb xb ob gb hgb;(conv=>whnf)))
  | ((with_reducible refine tckd 154 ?_);first | (refine drul_st ihf.compare hG (by trivial) rfl (fun e he hel kb lb xb ob gb hgb=> ?_) (by omega) (fun n1 l1 x1 o1 ks1 j1 hp1 hj1 hG=> ?_)<;>(try simp only[NT.min] at hp1)<;>(conv=>whnf)) | (refine dtal_st ihf.compare hG (by trivial) rfl (fun e he hel kb lb xb ob gb hgb=> ?_) (by omega) (fun n1 l1 x1 o1 ks1 j1 hp1 hj1 hG=> ?_)<;>(try simp only[NT.min] at hp1)<;>(conv=>whnf)) | (refine compare_b C _ _ _ (by omega) ?_;intro kb lb xb ob gb hgb;(conv=>whnf)))
  | ((with_reducible refine tckd 163 ?_);first | (refine drul_st ihf.arith hG (by trivial) rfl (fun e he hel kb lb xb ob gb hgb=> ?_) (by omega) (fun n1 l1 x1 o1 ks1 j1 hp1 hj1 hG=> ?_)<;>(try simp only[NT.min] at hp1)<;>(conv=>whnf)) | (refine dtal_st ihf.arith hG (by trivial) rfl (fun e he hel kb lb xb ob gb hgb=> ?_) (by omega) (fun n1 l1 x1 o1 ks1 j1 hp1 hj1 hG=> ?_)<;>(try simp only[NT.min] at hp1)<;>(conv=>whnf)) | (refine arith_b C _ _ _ (by omega) ?_;intro kb lb xb ob gb hgb;(conv=>whnf)))
  | ((with_reducible refine tckd 170 ?_);first | (refine drul_st ihf.term hG (by trivial) rfl (fun e he hel kb lb xb ob gb hgb=> ?_) (by omega) (fun n1 l1 x1 o1 ks1 j1 hp1 hj1 hG=> ?_)<;>(try simp only[NT.min] at hp1)<;>(conv=>whnf)) | (refine dtal_st ihf.term hG (by trivial) rfl (fun e he hel kb lb xb ob gb hgb=> ?_) (by omega) (fun n1 l1 x1 o1 ks1 j1 hp1 hj1 hG=> ?_)<;>(try simp only[NT.min] at hp1)<;>(conv=>whnf)) | (refine term_b C _ _ _ (by omega) ?_;intro kb lb xb ob gb hgb;(conv=>whnf)))
  | ((with_reducible refine tckd 173 ?_);first | (refine drul_st ihf.factor hG (by trivial) rfl (fun e he hel kb lb xb ob gb hgb=> ?_) (by omega) (fun n1 l1 x1 o1 ks1 j1 hp1 hj1 hG=> ?_)<;>(try simp only[NT.min] at hp1)<;>(conv=>whnf)) | (refine dtal_st ihf.factor hG (by trivial) rfl (fun e he hel kb lb xb ob gb hgb=> ?_) (by omega) (fun n1 l1 x1 o1 ks1 j1 hp1 hj1 hG=> ?_)<;>(try simp only[NT.min] at hp1)<;>(conv=>whnf)) | (refine factor_b C _ _ _ (by omega) ?_;intro kb lb xb ob gb hgb;(conv=>whnf)))
  | ((with_reducible refine tckd 82 ?_);first | (refine drul_st ihf.primary hG (by trivial) rfl (fun e he hel kb lb xb ob gb hgb=> ?_) (by omega) (fun n1 l1 x1 o1 ks1 j1 hp1 hj1 hG=> ?_)<;>(try simp only[NT.min] at hp1)<;>(conv=>whnf)) | (refine dtal_st ihf.primary hG (by trivial) rfl (fun e he hel kb lb xb ob gb hgb=> ?_) (by omega) (fun n1 l1 x1 o1 ks1 j1 hp1 hj1 hG=> ?_)<;>(try simp only[NT.min] at hp1)<;>(conv=>whnf)) | (refine primary_b C _ _ _ (by omega) ?_;intro kb lb xb ob gb hgb;(conv=>whnf)))
  | ((with_reducible refine tckd 118 ?_);first | (refine drul_st ihf.atom hG (by trivial) rfl (fun e he hel kb lb xb ob gb hgb=> ?_) (by omega) (fun n1 l1 x1 o1 ks1 j1 hp1 hj1 hG=> ?_)<;>(try simp only[NT.min] at hp1)<;>(conv=>whnf)) | (refine dtal_st ihf.atom hG (by trivial) rfl (fun e he hel kb lb xb ob gb hgb=> ?_) (by omega) (fun n1 l1 x1 o1 ks1 j1 hp1 hj1 hG=> ?_)<;>(try simp only[NT.min] at hp1)<;>(conv=>whnf)) | (refine atom_b C _ _ _ (by omega) ?_;intro kb lb xb ob gb hgb;(conv=>whnf)))
  | ((with_reducible refine tckd 42 ?_);first | (refine drul_st ihf.exprs hG (by trivial) rfl (fun e he hel kb lb xb ob gb hgb=> ?_) (by omega) (fun n1 l1 x1 o1 ks1 j1 hp1 hj1 hG=> ?_)<;>(try simp only[NT.min] at hp1)<;>(conv=>whnf)) | (refine dtal_st ihf.exprs hG (by trivial) rfl (fun e he hel kb lb xb ob gb hgb=> ?_) (by omega) (fun n1 l1 x1 o1 ks1 j1 hp1 hj1 hG=> ?_)<;>(try simp only[NT.min] at hp1)<;>(conv=>whnf)) | (refine exprs_b C _ _ _ (by omega) ?_;intro kb lb xb ob gb hgb;(conv=>whnf)))
  | ((with_reducible refine tckd 78 ?_);first | (refine drul_st ihf.one hG (by trivial) rfl (fun e he hel kb lb xb ob gb hgb=> ?_) (by omega) (fun n1 l1 x1 o1 ks1 j1 hp1 hj1 hG=> ?_)<;>(try simp only[NT.min] at hp1)<;>(conv=>whnf)) | (refine dtal_st ihf.one hG (by trivial) rfl (fun e he hel kb lb xb ob gb hgb=> ?_) (by omega) (fun n1 l1 x1 o1 ks1 j1 hp1 hj1 hG=> ?_)<;>(try simp only[NT.min] at hp1)<;>(conv=>whnf)))
  | ((with_reducible refine tckd 41 ?_);first | (refine drul_st ihf.places hG (by trivial) rfl (fun e he hel kb lb xb ob gb hgb=> ?_) (by omega) (fun n1 l1 x1 o1 ks1 j1 hp1 hj1 hG=> ?_)<;>(try simp only[NT.min] at hp1)<;>(conv=>whnf)) | (refine dtal_st ihf.places hG (by trivial) rfl (fun e he hel kb lb xb ob gb hgb=> ?_) (by omega) (fun n1 l1 x1 o1 ks1 j1 hp1 hj1 hG=> ?_)<;>(try simp only[NT.min] at hp1)<;>(conv=>whnf)))
  | ((with_reducible refine tckd 47 ?_);first | (refine drul_st ihf.simple hG (by trivial) rfl (fun e he hel kb lb xb ob gb hgb=> ?_) (by omega) (fun n1 l1 x1 o1 ks1 j1 hp1 hj1 hG=> ?_)<;>(try simp only[NT.min] at hp1)<;>(conv=>whnf)) | (refine dtal_st ihf.simple hG (by trivial) rfl (fun e he hel kb lb xb ob gb hgb=> ?_) (by omega) (fun n1 l1 x1 o1 ks1 j1 hp1 hj1 hG=> ?_)<;>(try simp only[NT.min] at hp1)<;>(conv=>whnf)) | (refine simple_b C _ _ _ (by omega) ?_;intro kb lb xb ob gb hgb;(conv=>whnf)))
  | ((with_reducible refine tckd 84 ?_);first | (refine drul_st ihf.plain hG (by trivial) rfl (fun e he hel kb lb xb ob gb hgb=> ?_) (by omega) (fun n1 l1 x1 o1 ks1 j1 hp1 hj1 hG=> ?_)<;>(try simp only[NT.min] at hp1)<;>(conv=>whnf)) | (refine dtal_st ihf.plain hG (by trivial) rfl (fun e he hel kb lb xb ob gb hgb=> ?_) (by omega) (fun n1 l1 x1 o1 ks1 j1 hp1 hj1 hG=> ?_)<;>(try simp only[NT.min] at hp1)<;>(conv=>whnf)) | (refine plain_b C _ _ _ (by omega) ?_;intro kb lb xb ob gb hgb;(conv=>whnf)))
  | ((with_reducible refine tckd 120 ?_);first | (refine drul_st ihf.value hG (by trivial) rfl (fun e he hel kb lb xb ob gb hgb=> ?_) (by omega) (fun n1 l1 x1 o1 ks1 j1 hp1 hj1 hG=> ?_)<;>(try simp only[NT.min] at hp1)<;>(conv=>whnf)) | (refine dtal_st ihf.value hG (by trivial) rfl (fun e he hel kb lb xb ob gb hgb=> ?_) (by omega) (fun n1 l1 x1 o1 ks1 j1 hp1 hj1 hG=> ?_)<;>(try simp only[NT.min] at hp1)<;>(conv=>whnf)))
  | ((with_reducible refine tckd 40 ?_);first | (refine drul_st ihf.block hG (by trivial) rfl (fun e he hel kb lb xb ob gb hgb=> ?_) (by omega) (fun n1 l1 x1 o1 ks1 j1 hp1 hj1 hG=> ?_)<;>(try simp only[NT.min] at hp1)<;>(conv=>whnf)) | (refine dtal_st ihf.block hG (by trivial) rfl (fun e he hel kb lb xb ob gb hgb=> ?_) (by omega) (fun n1 l1 x1 o1 ks1 j1 hp1 hj1 hG=> ?_)<;>(try simp only[NT.min] at hp1)<;>(conv=>whnf)) | (refine drul_st ihf2.block hG (by trivial) rfl (fun e he hel kb lb xb ob gb hgb=> ?_) (by omega) (fun n1 l1 x1 o1 ks1 j1 hp1 hj1 hG=> ?_)<;>(try simp only[NT.min] at hp1)<;>(conv=>whnf)) | (refine dtal_st ihf2.block hG (by trivial) rfl (fun e he hel kb lb xb ob gb hgb=> ?_) (by omega) (fun n1 l1 x1 o1 ks1 j1 hp1 hj1 hG=> ?_)<;>(try simp only[NT.min] at hp1)<;>(conv=>whnf)) | (refine block_b C _ _ _ (by omega) ?_;intro kb lb xb ob gb hgb;(conv=>whnf)))
  | ((with_reducible refine tckd 20 ?_);first | (refine drul_st ihf.stmt hG (by trivial) rfl (fun e he hel kb lb xb ob gb hgb=> ?_) (by omega) (fun n1 l1 x1 o1 ks1 j1 hp1 hj1 hG=> ?_)<;>(try simp only[NT.min] at hp1)<;>(conv=>whnf)) | (refine dtal_st ihf.stmt hG (by trivial) rfl (fun e he hel kb lb xb ob gb hgb=> ?_) (by omega) (fun n1 l1 x1 o1 ks1 j1 hp1 hj1 hG=> ?_)<;>(try simp only[NT.min] at hp1)<;>(conv=>whnf)))
  | ((with_reducible refine tckd 44 ?_);first | (refine drul_st (ihf.params _ _ (by decide)) hG (by trivial) rfl (fun e he hel kb lb xb ob gb hgb=> ?_) (by omega) (fun n1 l1 x1 o1 ks1 j1 hp1 hj1 hG=> ?_)<;>(try simp only[NT.min] at hp1)<;>(conv=>whnf)) | (refine dtal_st (ihf.params _ _ (by decide)) hG (by trivial) rfl (fun e he hel kb lb xb ob gb hgb=> ?_) (by omega) (fun n1 l1 x1 o1 ks1 j1 hp1 hj1 hG=> ?_)<;>(try simp only[NT.min] at hp1)<;>(conv=>whnf)) | (refine params_b C _ _ _ (by omega) ?_;intro kb lb xb ob gb hgb;(conv=>whnf)))
  | ((with_reducible refine tckd 45 ?_);first | (refine dlst_st (ihf.row _ (by decide)) hG (by trivial) rfl (fun e he hel gb hgb hgl=> ?_) (by omega) (fun l1 j1 hp1 hj1 hb1 hG=> ?_)<;>(try simp only[NT.acc,Option.getD_some,List.length_nil] at hb1)<;>(conv=>whnf)))
  | ((with_reducible refine tckd 119 ?_);first | (refine drul_st (ihf.index _ _ _ _ _) hG (by trivial) rfl (fun e he hel kb lb xb ob gb hgb=> ?_) (by omega) (fun n1 l1 x1 o1 ks1 j1 hp1 hj1 hG=> ?_)<;>(try simp only[NT.min] at hp1)<;>(conv=>whnf)) | (refine dtal_st (ihf.index _ _ _ _ _) hG (by trivial) rfl (fun e he hel kb lb xb ob gb hgb=> ?_) (by omega) (fun n1 l1 x1 o1 ks1 j1 hp1 hj1 hG=> ?_)<;>(try simp only[NT.min] at hp1)<;>(conv=>whnf)))
  | ((with_reducible refine tckd 155 ?_);first | (refine dlst_st ihf.clauses hG (by trivial) rfl (fun e he hel gb hgb hgl=> ?_) (by omega) (fun l1 j1 hp1 hj1 hb1 hG=> ?_)<;>(try simp only[NT.acc,Option.getD_some,List.length_nil] at hb1)<;>(conv=>whnf)))
  | ((with_reducible refine tckd 139 ?_);first | (refine drul_st (ihf.list _) hG (by trivial) rfl (fun e he hel kb lb xb ob gb hgb=> ?_) (by omega) (fun n1 l1 x1 o1 ks1 j1 hp1 hj1 hG=> ?_)<;>(try simp only[NT.min] at hp1)<;>(conv=>whnf)) | (refine dtal_st (ihf.list _) hG (by trivial) rfl (fun e he hel kb lb xb ob gb hgb=> ?_) (by omega) (fun n1 l1 x1 o1 ks1 j1 hp1 hj1 hG=> ?_)<;>(try simp only[NT.min] at hp1)<;>(conv=>whnf)))
  | ((with_reducible refine tckd 140 ?_);first | (refine drul_st (ihf.braces _) hG (by trivial) rfl (fun e he hel kb lb xb ob gb hgb=> ?_) (by omega) (fun n1 l1 x1 o1 ks1 j1 hp1 hj1 hG=> ?_)<;>(try simp only[NT.min] at hp1)<;>(conv=>whnf)) | (refine dtal_st (ihf.braces _) hG (by trivial) rfl (fun e he hel kb lb xb ob gb hgb=> ?_) (by omega) (fun n1 l1 x1 o1 ks1 j1 hp1 hj1 hG=> ?_)<;>(try simp only[NT.min] at hp1)<;>(conv=>whnf)))
  | ((with_reducible refine tckd 81 ?_);first | (refine drul_st (ihf.names _ _) hG (by trivial) rfl (fun e he hel kb lb xb ob gb hgb=> ?_) (by omega) (fun n1 l1 x1 o1 ks1 j1 hp1 hj1 hG=> ?_)<;>(try simp only[NT.min] at hp1)<;>(conv=>whnf)) | (refine dtal_st (ihf.names _ _) hG (by trivial) rfl (fun e he hel kb lb xb ob gb hgb=> ?_) (by omega) (fun n1 l1 x1 o1 ks1 j1 hp1 hj1 hG=> ?_)<;>(try simp only[NT.min] at hp1)<;>(conv=>whnf)))
  | ((with_reducible refine tckd 80 ?_);first | (refine drul_st (ihf.maybe _ _ _) hG (by trivial) rfl (fun e he hel kb lb xb ob gb hgb=> ?_) (by omega) (fun n1 l1 x1 o1 ks1 j1 hp1 hj1 hG=> ?_)<;>(try simp only[NT.min] at hp1)<;>(conv=>whnf)) | (refine dtal_st (ihf.maybe _ _ _) hG (by trivial) rfl (fun e he hel kb lb xb ob gb hgb=> ?_) (by omega) (fun n1 l1 x1 o1 ks1 j1 hp1 hj1 hG=> ?_)<;>(try simp only[NT.min] at hp1)<;>(conv=>whnf)))
  | ((with_reducible refine tckd 37 ?_);first | (refine drul_st (ihf.ifs _) hG (by trivial) rfl (fun e he hel kb lb xb ob gb hgb=> ?_) (by omega) (fun n1 l1 x1 o1 ks1 j1 hp1 hj1 hG=> ?_)<;>(try simp only[NT.min] at hp1)<;>(conv=>whnf)) | (refine dtal_st (ihf.ifs _) hG (by trivial) rfl (fun e he hel kb lb xb ob gb hgb=> ?_) (by omega) (fun n1 l1 x1 o1 ks1 j1 hp1 hj1 hG=> ?_)<;>(try simp only[NT.min] at hp1)<;>(conv=>whnf)))
  | ((with_reducible refine tckd 46 ?_);first | (refine drul_st (ihf.tries _) hG (by trivial) rfl (fun e he hel kb lb xb ob gb hgb=> ?_) (by omega) (fun n1 l1 x1 o1 ks1 j1 hp1 hj1 hG=> ?_)<;>(try simp only[NT.min] at hp1)<;>(conv=>whnf)) | (refine dtal_st (ihf.tries _) hG (by trivial) rfl (fun e he hel kb lb xb ob gb hgb=> ?_) (by omega) (fun n1 l1 x1 o1 ks1 j1 hp1 hj1 hG=> ?_)<;>(try simp only[NT.min] at hp1)<;>(conv=>whnf)))
  | (intro (hmx:_≤maxLen);(conv=>whnf))
  | exact⟨m,[],by omega,rfl, .inl ⟨_,_,_,_,_,_,rfl,by omega,by omega,hG⟩⟩
  | exact⟨m,[],by omega,rfl, .inr ⟨_,_,_,_,_,_,rfl,by omega,he,(by repeat' first | assumption | exact ndG_nds _ | exact ndG_nd _ | exact nd_nil | refine nd_cons ?_ ?_ | refine nd_app ?_ ?_ | refine .mk ?_)⟩⟩
  | exact⟨m,[2],by omega,rfl, .inl ⟨_,_,_,_,_,acc++ [.mk n1 l1 x1 o1 ks1],_,_,(by rw[ndsS_snoc];rfl),by omega,by omega,(by simp only[List.length_append,List.length_cons,List.length_nil];omega),hG⟩⟩
  | exact⟨m,[2],by omega,rfl, .inr ⟨_,_,_,_,_,_,_,_,rfl,by omega,he,(by repeat' first | assumption | exact ndG_nds _ | exact ndG_nd _ | exact nd_nil | refine nd_cons ?_ ?_ | refine nd_app ?_ ?_ | refine .mk ?_)⟩⟩
  | exact⟨m,[2],by omega,rfl, .inl ⟨_,_,_,accV_app rfl,rfl,by omega,by omega,(by simp only[List.length_append,List.length_cons,List.length_nil];omega),hG⟩⟩
  | exact⟨m,[2],by omega,rfl, .inr ⟨_,_,_,_,_,rfl,by omega,he,(by repeat' first | assumption | exact ndG_nds _ | exact ndG_nd _ | exact nd_nil | refine nd_cons ?_ ?_ | refine nd_app ?_ ?_ | refine .mk ?_)⟩⟩
  | exact⟨m,[2],by omega,rfl, .inl ⟨_,_,_,rfl,accV_app rfl,rfl,by omega,by omega,(by simp only[List.length_append,List.length_cons,List.length_nil];omega),hG⟩⟩
  | exact⟨m,[2],by omega,rfl, .inr ⟨_,_,rfl,rfl,by omega,he,(by repeat' first | assumption | exact ndG_nds _ | exact ndG_nd _ | exact nd_nil | refine nd_cons ?_ ?_ | refine nd_app ?_ ?_ | refine .mk ?_),(by first | omega | simp only[List.length_append,List.length_cons,List.length_nil,ndsS_len] at *;omega)⟩⟩
  | exact⟨m,[3],by omega,rfl, .inl ⟨_,_,_,rfl,accV_app rfl,rfl,by omega,by omega,(by simp only[List.length_append,List.length_cons,List.length_nil];omega),hG⟩⟩
  | exact⟨m,[3],by omega,rfl, .inr ⟨_,_,rfl,rfl,by omega,he,(by repeat' first | assumption | exact ndG_nds _ | exact ndG_nd _ | exact nd_nil | refine nd_cons ?_ ?_ | refine nd_app ?_ ?_ | refine .mk ?_),(by first | omega | simp only[List.length_append,List.length_cons,List.length_nil,ndsS_len] at *;omega)⟩⟩
  | exact⟨m,[3],by omega,rfl, .inl ⟨acc++ [.mk 43 (nowT ts j).line [] (op1+1) [.mk n1 l1 x1 o1 ks1]],_,(by rw[ndsS_snoc];rfl),by omega,by omega,(by simp only[List.length_append,List.length_cons,List.length_nil];omega),hG⟩⟩
  | exact⟨m,[3],by omega,rfl, .inr ⟨_,_,_,_,rfl,by omega,he,(by repeat' first | assumption | exact ndG_nds _ | exact ndG_nd _ | exact nd_nil | refine nd_cons ?_ ?_ | refine nd_app ?_ ?_ | refine .mk ?_)⟩⟩
  | (refine ifT_c (fun h=> ?_) (fun h=> ?_);(have:acc= []:=by cases acc;rfl;(simp[ndsS] at h<;>omega));subst this;(conv=>whnf);exact hQ _ _ hG (by omega);(have:acc.isEmpty=false:=by cases acc;(simp[ndsS] at h<;>omega);rfl);rw[this] at hG;(conv=>whnf);exact hQ _ _ hG (by omega))
  | exact⟨m,[2],by omega,rfl, .inl ⟨_,_,_,_,_,_,_,_,_,_,acc++ [_,_],_,(by rw[ndsS_app];rfl),by omega,by omega,(by simp only[List.length_append,List.length_cons,List.length_nil];omega),hG⟩⟩
  | exact⟨m,[2],by omega,rfl, .inr ⟨_,_,_,_,_,_,_,_,_,_,_,_,rfl,by omega,he,(by repeat' first | assumption | exact ndG_nds _ | exact ndG_nd _ | exact nd_nil | refine nd_cons ?_ ?_ | refine nd_app ?_ ?_ | refine .mk ?_)⟩⟩
  | exact⟨m,[2],by omega,rfl, .inl ⟨_,_,_,_,_,acc++ [.mk n1 l1 x1 o1 ks1],_,_,(by rw[ndsS_snoc];rfl),by omega,by omega,by simp,(by simp only[List.length_append,List.length_cons,List.length_nil];omega),hG⟩⟩
  | (refine⟨rfl,acc.length-1,_,wr_dec hne hmx,ndsS_get (last_get htl),?_⟩;(conv=>whnf))
  | exact⟨m,[2],by omega,rfl, .inl ⟨_,_,_,_,accV_app rfl,rfl,by omega,by omega,(by simp only[List.length_append,List.length_cons,List.length_nil] at *;omega),hG⟩⟩
  | exact⟨m,[2],by omega,rfl, .inr ⟨_,_,_,rfl,by omega,he,(by repeat' first | assumption | exact ndG_nds _ | exact ndG_nd _ | exact nd_nil | refine nd_cons ?_ ?_ | refine nd_app ?_ ?_ | refine .mk ?_)⟩⟩
  | (refine⟨rfl,0,_,rfl,rfl,?_⟩;(conv=>whnf))
  | exact⟨m,[4],by omega,rfl, .inl ⟨acc++ [Nd.mk 21 (nowT ts j).line [] 0 [Nd.mk n1 l1 x1 o1 ks1]],_,true,rfl,(by rw[ndsS_snoc];rfl),by omega,by omega,(by simp only[List.length_append,List.length_cons,List.length_nil];omega),(by simp only[List.length_append,List.length_cons,List.length_nil];omega), .inr ⟨rfl,hG⟩⟩⟩
  | exact⟨m,[6],by omega,rfl, .inl ⟨acc++ [_],_,false,rfl,(by rw[ndsS_snoc];rfl),by omega,by omega,(by simp only[List.length_append,List.length_cons,List.length_nil];omega),(by simp only[List.length_append,List.length_cons,List.length_nil];omega), .inl ⟨rfl,hG⟩⟩⟩
  | exact⟨m,[4],by omega,rfl, .inr ⟨_,_,_,_,rfl,rfl,by omega,he,(by repeat' first | assumption | exact ndG_nds _ | exact ndG_nd _ | exact nd_nil | refine nd_cons ?_ ?_ | refine nd_app ?_ ?_ | refine .mk ?_)⟩⟩
  | exact⟨m,[6],by omega,rfl, .inr ⟨_,_,_,_,rfl,rfl,by omega,he,(by repeat' first | assumption | exact ndG_nds _ | exact ndG_nd _ | exact nd_nil | refine nd_cons ?_ ?_ | refine nd_app ?_ ?_ | refine .mk ?_)⟩⟩
  | (refine len1_c hG (by simp[ndsS_len];try omega) (fun hG=> ?_) (fun hG=> ?_)<;>(conv=>whnf))
  | (refine ifT_c (fun h=>by exfalso;simp[ndsS_len] at h;first | omega | (subst h;simp at hb1)) (fun h=> ?_);(conv=>whnf))
  | exact⟨m,[2],by omega,rfl, .inl ⟨_,_,_,_,_,_,_,_,_,_,acc++ [.mk n1 l1 x1 o1 ks1],_,_,(by rw[ndsS_snoc];rfl),by omega,by omega,(by simp only[List.length_append,List.length_cons,List.length_nil];omega),gd_pb1.2 hG⟩⟩
  | exact hQ _ _ (gd_pk1 hG) (by omega)
  | exact⟨m,[2],by omega,rfl, .inr ⟨_,_,_,_,_,_,_,_,_,_,_,_,_,rfl,by omega,he,(by repeat' first | assumption | exact ndG_nds _ | exact ndG_nd _ | exact nd_nil | refine nd_cons ?_ ?_ | refine nd_app ?_ ?_ | refine .mk ?_)⟩⟩
  | (refine⟨rfl,?_⟩;(conv=>whnf))
  | (refine⟨bdA (by simp only[List.length_append,List.length_cons,List.length_nil,ndsS_len];omega),?_⟩;(conv=>whnf))
  | exact hQ _ _ hG (by omega)
  | exact hE _ he (by omega) _ _ _ _ _ (by repeat' first | assumption | exact ndG_nds _ | exact ndG_nd _ | exact nd_nil | refine nd_cons ?_ ?_ | refine nd_app ?_ ?_ | refine .mk ?_)
  | exact hE _ hG (by omega) _ _ _ _ _ (by repeat' first | assumption | exact ndG_nds _ | exact ndG_nd _ | exact nd_nil | refine nd_cons ?_ ?_ | refine nd_app ?_ ?_ | refine .mk ?_)
  | exact hE _ he (by omega) _ (by repeat' first | assumption | exact ndG_nds _ | exact ndG_nd _ | exact nd_nil | refine nd_cons ?_ ?_ | refine nd_app ?_ ?_ | refine .mk ?_) (by first | omega | simp only[List.length_append,List.length_cons,List.length_nil,ndsS_len] at *;omega)
  | (refine tc_self (drd_wr C hl) ?_)
  | (refine ifT_c (fun h=>by exfalso;simp at h;omega) (fun h=> ?_);(conv=>whnf))
  | (refine ifT_c (fun h=> ?_) (fun h=>by exfalso;simp at h;omega);(conv=>whnf))
  | (refine q_eq ?_ ?_ (hQ _ _ hG (by omega))<;>first | rfl | exact sn_agg rfl | exact sn_row rfl | exact drd_wr C hl)
  | (have hG:=(hP2 _ _).1 hG;rcases f with _ | f;exact hG.elim;have ihf2:=ih f (by omega);simp only[gr] at hG)
  | (generalize hbb:((gs.length:Int)==Int.ofNat 1)=bb;cases bb<;>(conv=>whnf))
  | ((with_reducible refine ifT_c ?_ ?_)<;>intro hif<;>(conv=>whnf))
  | (refine loop_0 (fun m s=>(∃k l x o ks j,s=⟨0,[oRb sl j false,oN nzC,oN (nA k l x o ks)]⟩∧j≤ts.length∧m≤f∧Gd E P (gr ts m (.orL (.mk k l x o ks)) j))∨(∃k l x o gs j,s=⟨0,[oRb sl j true,oN nzC,oN (gC k l x o gs)]⟩∧j≤ts.length∧E j∧(∀g∈gs,NdG g))) f [] rfl (.inl ⟨_,_,_,_,_,_,rfl,by omega,Nat.le_refl _,hG⟩) ?_;rintro m f1 s (⟨k,l,x,o,ks,j,rfl,hj,hmf,hG⟩ | ⟨k,l,x,o,gs,j,rfl,hj,he,hgb⟩);rcases m with _ | m;exact hG.elim;have ihf:=ih m (by omega);simp only[gr] at hG;(conv=>whnf);rotate_left;(conv=>whnf))
  | (refine loop_0 (fun m s=>(∃k l x o ks j,s=⟨0,[oRb sl j false,oN nzC,oN (nA k l x o ks)]⟩∧j≤ts.length∧m≤f∧Gd E P (gr ts m (.andL (.mk k l x o ks)) j))∨(∃k l x o gs j,s=⟨0,[oRb sl j true,oN nzC,oN (gC k l x o gs)]⟩∧j≤ts.length∧E j∧(∀g∈gs,NdG g))) f [] rfl (.inl ⟨_,_,_,_,_,_,rfl,by omega,Nat.le_refl _,hG⟩) ?_;rintro m f1 s (⟨k,l,x,o,ks,j,rfl,hj,hmf,hG⟩ | ⟨k,l,x,o,gs,j,rfl,hj,he,hgb⟩);rcases m with _ | m;exact hG.elim;have ihf:=ih m (by omega);simp only[gr] at hG;(conv=>whnf);rotate_left;(conv=>whnf))
  | (refine loop_0 (fun m s=>(∃k l x o ks j,s=⟨0,[oRb sl j false,oN nzC,oN (nA k l x o ks)]⟩∧j≤ts.length∧m≤f∧Gd E P (gr ts m (.arithL (.mk k l x o ks)) j))∨(∃k l x o gs j,s=⟨0,[oRb sl j true,oN nzC,oN (gC k l x o gs)]⟩∧j≤ts.length∧E j∧(∀g∈gs,NdG g))) f [] rfl (.inl ⟨_,_,_,_,_,_,rfl,by omega,Nat.le_refl _,hG⟩) ?_;rintro m f1 s (⟨k,l,x,o,ks,j,rfl,hj,hmf,hG⟩ | ⟨k,l,x,o,gs,j,rfl,hj,he,hgb⟩);rcases m with _ | m;exact hG.elim;have ihf:=ih m (by omega);simp only[gr] at hG;(conv=>whnf);rotate_left;(conv=>whnf))
  | (refine loop_0 (fun m s=>(∃k l x o ks j,s=⟨0,[oRb sl j false,oN nzC,oN (nA k l x o ks)]⟩∧j≤ts.length∧m≤f∧Gd E P (gr ts m (.termL (.mk k l x o ks)) j))∨(∃k l x o gs j,s=⟨0,[oRb sl j true,oN nzC,oN (gC k l x o gs)]⟩∧j≤ts.length∧E j∧(∀g∈gs,NdG g))) f [] rfl (.inl ⟨_,_,_,_,_,_,rfl,by omega,Nat.le_refl _,hG⟩) ?_;rintro m f1 s (⟨k,l,x,o,ks,j,rfl,hj,hmf,hG⟩ | ⟨k,l,x,o,gs,j,rfl,hj,he,hgb⟩);rcases m with _ | m;exact hG.elim;have ihf:=ih m (by omega);simp only[gr] at hG;(conv=>whnf);rotate_left;(conv=>whnf))
  | (refine loop_0 (fun m s=>(∃k l x o ks j,s=⟨0,[oRb sl j false,oN nzC,oN (nA k l x o ks)]⟩∧j≤ts.length∧m≤f∧Gd E P (gr ts m (.primL (.mk k l x o ks)) j))∨(∃k l x o gs j,s=⟨0,[oRb sl j true,oN nzC,oN (gC k l x o gs)]⟩∧j≤ts.length∧E j∧(∀g∈gs,NdG g))) f [] rfl (.inl ⟨_,_,_,_,_,_,rfl,by omega,Nat.le_refl _,hG⟩) ?_;rintro m f1 s (⟨k,l,x,o,ks,j,rfl,hj,hmf,hG⟩ | ⟨k,l,x,o,gs,j,rfl,hj,he,hgb⟩);rcases m with _ | m;exact hG.elim;have ihf:=ih m (by omega);simp only[gr] at hG;(conv=>whnf);rotate_left;(conv=>whnf))
  | (refine loop_0 (fun m s=>(∃k l x o ks acc j ln,s=⟨1,[oRb sl j false,oN nzC,oN (nA k l x o ks),oN (nC 52 ln [] 0 (.own 0 26 5 (ndsS acc)))]⟩∧j≤ts.length∧m≤f∧2*acc.length≤j+1∧Gd E P (gr ts m (.exprsL ln acc) j))∨(∃k l x o gx j gs ln,s=⟨1,[oRb sl j true,oN nzC,oN (gC k l x o gx),oN (nG 52 ln ⟨⟨[]⟩⟩ 0 (.own 0 26 5 gs))]⟩∧j≤ts.length∧E j∧(∀g∈gs,NdG g))) f [0] rfl (.inl ⟨_,_,_,_,_,[.mk n1 l1 x1 o1 ks1],_,_,rfl,by omega,Nat.le_refl _,by simp only[List.length_cons,List.length_nil];omega,hG⟩) ?_;rintro m f1 s (⟨k,l,x,o,ks,acc,j,ln,rfl,hj,hmf,hb2,hG⟩ | ⟨k,l,x,o,c,j,gs,ln,rfl,hj,he,hgb⟩);rcases m with _ | m;exact hG.elim;have ihf:=ih m (by omega);simp only[gr] at hG;(conv=>whnf);rotate_left;(conv=>whnf))
  | (refine loop_0 (fun m s=>(∃k l x o ks acc j ln,s=⟨1,[oRb sl j false,oN nzC,oN (nA k l x o ks),oN (nC 52 ln [] 0 (.own 0 26 5 (ndsS acc)))]⟩∧j≤ts.length∧m≤f∧2*acc.length≤j+1∧Gd E P (gr ts m (.placesL ln acc) j))∨(∃k l x o gx j gs ln,s=⟨1,[oRb sl j true,oN nzC,oN (gC k l x o gx),oN (nG 52 ln ⟨⟨[]⟩⟩ 0 (.own 0 26 5 gs))]⟩∧j≤ts.length∧E j∧(∀g∈gs,NdG g))) f [0] rfl (.inl ⟨_,_,_,_,_,[.mk n1 l1 x1 o1 ks1],_,_,rfl,by omega,Nat.le_refl _,by simp only[List.length_cons,List.length_nil];omega,hG⟩) ?_;rintro m f1 s (⟨k,l,x,o,ks,acc,j,ln,rfl,hj,hmf,hb2,hG⟩ | ⟨k,l,x,o,c,j,gs,ln,rfl,hj,he,hgb⟩);rcases m with _ | m;exact hG.elim;have ihf:=ih m (by omega);simp only[gr] at hG;simp only[ite_andP] at hG;(conv=>whnf);rotate_left;(conv=>whnf))
  | (refine loop_0 (fun m s=>(∃acc j c,AccV acc c∧s=⟨1,[oRb sl j false,oN nzC,oN (nC k ln [] 0 c)]⟩∧j≤ts.length∧m≤f+1∧2*acc.length≤j∧Gd E P (gr ts m (.names k ln acc) j))∨(∃k j gs ln x0,s=⟨1,[oRb sl j true,oN nzC,oN (nG k ln x0 0 (.own 0 26 5 gs))]⟩∧j≤ts.length∧E j∧(∀g∈gs,NdG g))) (f+1) [99] rfl (.inl ⟨[],_,_, .inl ⟨rfl,rfl⟩,rfl,by omega,Nat.le_refl _,by simp only[List.length_nil];omega,hG0⟩) ?_;rintro m f1 s (⟨acc,j,c,hA,rfl,hj,hmf,hb2,hG⟩ | ⟨k0,j,gs,ln0,x0,rfl,hj,he,hgb⟩);rcases m with _ | m;exact hG.elim;have ihf:=ih m (by omega);simp only[gr] at hG;rcases hA with ⟨rfl,rfl⟩ | ⟨hne,rfl⟩;(conv=>whnf);rotate_left;(conv=>whnf);rotate_left;(conv=>whnf))
  | (refine loop_0 (fun m s=>(∃acc j c,AccV acc c∧s=⟨1,[oRb sl j false,oN nzC,oN (nC 23 ln [] 0 c)]⟩∧j≤ts.length∧m≤f+1∧2*acc.length≤j∧Gd E P (gr ts m (.params cl ln acc) j))∨(∃k j gs ln x0,s=⟨1,[oRb sl j true,oN nzC,oN (nG k ln x0 0 (.own 0 26 5 gs))]⟩∧j≤ts.length∧E j∧(∀g∈gs,NdG g))) (f+1) [99] rfl (.inl ⟨[],_,_, .inl ⟨rfl,rfl⟩,rfl,by omega,Nat.le_refl _,by simp only[List.length_nil];omega,hG0⟩) ?_;rintro m f1 s (⟨acc,j,c,hA,rfl,hj,hmf,hb2,hG⟩ | ⟨k0,j,gs,ln0,x0,rfl,hj,he,hgb⟩);rcases m with _ | m;exact hG.elim;have ihf:=ih m (by omega);simp only[gr] at hG;rcases hA with ⟨rfl,rfl⟩ | ⟨hne,rfl⟩;(conv=>whnf);rotate_left;(conv=>whnf);rotate_left;(conv=>whnf))
  | (refine loop_1 5 (fun m a s=>(∃acc j c,a= .r (.c c)∧AccV acc c∧s=⟨1,[oRb sl j false]⟩∧j≤ts.length∧m≤f+1∧2*acc.length≤j∧Gd E P (gr ts m (.row cl acc) j))∨(∃j gs,a= .r (.c (.own 0 26 5 gs))∧s=⟨1,[oRb sl j true]⟩∧j≤ts.length∧E j∧(∀g∈gs,NdG g)∧2*gs.length≤ts.length+2)) (f+1) [99] rfl (.inl ⟨[],_,_,rfl, .inl ⟨rfl,rfl⟩,rfl,by omega,Nat.le_refl _,by simp only[List.length_nil];omega,hG0⟩) ?_;rintro m a f1 s (⟨acc,j,c,rfl,hA,rfl,hj,hmf,hb2,hG⟩ | ⟨j,gs,rfl,rfl,hj,he,hgb,hgl⟩);rcases m with _ | m;exact hG.elim;have ihf:=ih m (by omega);simp only[gr] at hG;rcases hA with ⟨rfl,rfl⟩ | ⟨hne,rfl⟩;(conv=>whnf);rotate_left;(conv=>whnf);rotate_left;(conv=>whnf))
  | (refine loop_1 3 (fun m a s=>(∃acc j c,a= .r (.c c)∧AccV acc c∧s=⟨1,[oRb sl j false]⟩∧j≤ts.length∧m≤f+1∧2*acc.length≤j∧Gd E P (gr ts m (.clauses acc) j))∨(∃j gs,a= .r (.c (.own 0 26 5 gs))∧s=⟨1,[oRb sl j true]⟩∧j≤ts.length∧E j∧(∀g∈gs,NdG g)∧2*gs.length≤ts.length+2)) (f+1) [99] rfl (.inl ⟨[],_,_,rfl, .inl ⟨rfl,rfl⟩,rfl,by omega,Nat.le_refl _,by simp only[List.length_nil];omega,hG0⟩) ?_;rintro m a f1 s (⟨acc,j,c,rfl,hA,rfl,hj,hmf,hb2,hG⟩ | ⟨j,gs,rfl,rfl,hj,he,hgb,hgl⟩);rcases m with _ | m;exact hG.elim;have ihf:=ih m (by omega);simp only[gr] at hG;rcases hA with ⟨rfl,rfl⟩ | ⟨hne,rfl⟩;(conv=>whnf);rotate_left;(conv=>whnf);rotate_left;(conv=>whnf))
  | (refine loop_0 (fun m s=>(∃acc j,s=⟨1,[oRb sl j false,oN nzC,oN (nA n1 l1 x1 o1 ks1),oN (nC 42 l1 [] 0 (.own 0 26 5 (ndS (.mk n1 l1 x1 o1 ks1)::ndsS acc)))]⟩∧j≤ts.length∧m≤f∧2*acc.length+1≤j∧Gd E P (gr ts m (.cmpL (.mk n1 l1 x1 o1 ks1) acc) j))∨(∃j gs ln x0,s=⟨1,[oRb sl j true,oN nzC,oN (nA n1 l1 x1 o1 ks1),oN (nG 42 ln x0 0 (.own 0 26 5 gs))]⟩∧j≤ts.length∧E j∧(∀g∈gs,NdG g))) f [0] rfl (.inl ⟨[],_,rfl,by omega,Nat.le_refl _,by simp only[List.length_nil];omega,hG⟩) ?_;rintro m f1 s (⟨acc,j,rfl,hj,hmf,hb2,hG⟩ | ⟨j,gs,ln0,x0,rfl,hj,he,hgb⟩);rcases m with _ | m;exact hG.elim;have ihf:=ih m (by omega);simp only[gr] at hG;(conv=>whnf);rotate_left;(conv=>whnf))
  | (refine loop_0 (fun m s=>(∃ke le xe oe kse kv lv xv ov ksv acc j,s=⟨1,[oRb sl j false,oN nzC,oN (nA ke le xe oe kse),oN (nA kv lv xv ov ksv),oN (nC 54 ln [] 0 (.own 0 26 5 (ndsS acc)))]⟩∧j≤ts.length∧m≤f∧2*acc.length≤j+1∧Gd E P (gr ts m (.dictL ln acc) j))∨(∃ke le xe oe ce kv lv xv ov cv j gs,s=⟨1,[oRb sl j true,oN nzC,oN (gC ke le xe oe ce),oN (gC kv lv xv ov cv),oN (nG 54 ln ⟨⟨[]⟩⟩ 0 (.own 0 26 5 gs))]⟩∧j≤ts.length∧E j∧(∀g∈gs,NdG g))) f [0] rfl (.inl ⟨_,_,_,_,_,_,_,_,_,_,[_,_],_,rfl,by omega,Nat.le_refl _,by simp only[List.length_cons,List.length_nil];omega,hG⟩) ?_;rintro m f1 s (⟨ke,le,xe,oe,kse,kv,lv,xv,ov,ksv,acc,j,rfl,hj,hmf,hb2,hG⟩ | ⟨ke,le,xe,oe,ce,kv,lv,xv,ov,cv,j,gs,rfl,hj,he,hgb⟩);rcases m with _ | m;exact hG.elim;have ihf:=ih m (by omega);simp only[gr] at hG;(conv=>whnf);rotate_left;(conv=>whnf))
  | (refine loop_0 (fun m s=>(∃k l x o ks acc j ln,s=⟨1,[oRb sl j false,oN nzC,oN (nA k l x o ks),oN (nC 3 ln [] 0 (.own 0 26 5 (ndsS acc)))]⟩∧j≤ts.length∧m≤f∧acc≠ []∧2*acc.length≤j+1∧Gd E P (gr ts m (.asgL ln acc) j))∨(∃k l x o gx j gs ln,s=⟨1,[oRb sl j true,oN nzC,oN (gC k l x o gx),oN (nG 3 ln ⟨⟨[]⟩⟩ 0 (.own 0 26 5 gs))]⟩∧j≤ts.length∧E j∧(∀g∈gs,NdG g))) f [0] rfl (.inl ⟨_,_,_,_,_,[.mk n1 l1 x1 o1 ks1],_,_,rfl,by omega,Nat.le_refl _,by simp,by simp only[List.length_cons,List.length_nil];omega,hG⟩) ?_;rintro m f1 s (⟨k,l,x,o,ks,acc,j,ln,rfl,hj,hmf,hne,hb2,hG⟩ | ⟨k,l,x,o,c,j,gs,ln,rfl,hj,he,hgb⟩);rcases m with _ | m;exact hG.elim;have ihf:=ih m (by omega);obtain⟨⟨k2,l2,x2,o2,ks2⟩,htl⟩:=last_ne hne;simp only[gr,htl] at hG;(conv=>whnf);rotate_left;(conv=>whnf))
  | (refine loop_0 (fun m s=>(∃acc j c ln,AccV acc c∧s=⟨1,[oRb sl j false,oN nzC,oN (nC 1 ln [] 0 c)]⟩∧j≤ts.length∧m≤f∧2*acc.length≤j∧Gd E P (gr ts m (.blockL acc) j))∨(∃j gs ln,s=⟨1,[oRb sl j true,oN nzC,oN (nG 1 ln ⟨⟨[]⟩⟩ 0 (.own 0 26 5 gs))]⟩∧j≤ts.length∧E j∧(∀g∈gs,NdG g))) f [99] rfl (.inl ⟨[],_,_,_, .inl ⟨rfl,rfl⟩,rfl,by omega,Nat.le_refl _,by simp only[List.length_nil];omega,hG⟩) ?_;rintro m f1 s (⟨acc,j,c,ln,hA,rfl,hj,hmf,hb2,hG⟩ | ⟨j,gs,ln0,rfl,hj,he,hgb⟩);rcases m with _ | m;exact hG.elim;have ihf:=ih m (by omega);simp only[gr] at hG;rcases hA with ⟨rfl,rfl⟩ | ⟨hne,rfl⟩;rotate_left;rcases acc with _ | ⟨⟨k2,l2,x2,o2,ks2⟩,acc⟩;exact absurd rfl hne;(try simp only[List.length_cons,List.length_nil] at hb2);(conv=>whnf);rotate_left;(try simp only[List.length_cons,List.length_nil] at hb2);(conv=>whnf);rotate_left;(conv=>whnf))
  | (obtain⟨P2,hP2⟩ : ∃P2:List Nd→Nat→Prop,∀acc j,P2 acc j↔Gd E P (gr ts f (.triesF ln acc) j):=⟨_,fun _ _=>Iff.rfl⟩;have hG:Gd E P2 (gr ts f (.triesL [.mk n1 l1 x1 o1 ks1]) j1):=(gd_pb.1 hG).mono (fun _ h=>h) fun l j h=>(hP2 l j).2 h;refine loop_1 6 (fun m a s=>(∃acc j b,a=rS (.bool b)∧s=⟨1,[oRb sl j false,oN nzC,oN (nC 15 ln [] 0 (.own 0 26 5 (ndsS acc)))]⟩∧j≤ts.length∧m≤f∧1≤acc.length∧2*acc.length≤j+1∧((b=false∧Gd E P2 (gr ts m (.triesL acc) j))∨(b=true∧P2 acc j)))∨(∃j gs b ln,a=rS (.bool b)∧s=⟨1,[oRb sl j true,oN nzC,oN (nG 15 ln ⟨⟨[]⟩⟩ 0 (.own 0 26 5 gs))]⟩∧j≤ts.length∧E j∧(∀g∈gs,NdG g))) f [0] rfl (.inl ⟨[.mk n1 l1 x1 o1 ks1],_,false,rfl,rfl,by omega,Nat.le_refl _,Nat.le_refl _,by simp only[List.length_cons,List.length_nil];omega, .inl ⟨rfl,hG⟩⟩) ?_;rintro m a f1 s (⟨acc,j,b,rfl,rfl,hj,hmf,hb1,hb2,⟨rfl,hG⟩ | ⟨rfl,hG⟩⟩ | ⟨j,gs,b,ln0,rfl,rfl,hj,he,hgb⟩);rcases m with _ | m;exact hG.elim;have ihf:=ih m (by omega);simp only[gr] at hG;(conv=>whnf);rotate_left;have hG:=(hP2 _ _).1 hG;rcases f with _ | f;exact hG.elim;simp only[gr] at hG;have ihf:=ih f (by omega);(conv=>whnf);rotate_left;(conv=>whnf))
  | (refine loop_0 (fun m s=>(∃km lm xm om ksm kl ll xl ol ksl acc j ln,s=⟨1,[oRb sl j false,oN (nA k l x o ks),oN nzC,oN (nA km lm xm om ksm),oN (nA kl ll xl ol ksl),oN (nC 52 ln [] 0 (.own 0 26 5 (ndsS acc)))]⟩∧j≤ts.length∧m≤f∧2*acc.length≤j+1∧Gd E P (pb1 (gr ts m (.exprsL ln acc) j) fun t j2=>pk1 (nd 46 l [.mk k l x o ks,t]) j2))∨(∃km lm xm om cm kl ll xl ol cl j gs ln,s=⟨1,[oRb sl j true,oN (nA k l x o ks),oN nzC,oN (gC km lm xm om cm),oN (gC kl ll xl ol cl),oN (nG 52 ln ⟨⟨[]⟩⟩ 0 (.own 0 26 5 gs))]⟩∧j≤ts.length∧E j∧(∀g∈gs,NdG g))) f [0] rfl (.inl ⟨_,_,_,_,[],_,_,_,_,_,[.mk n1 l1 x1 o1 ks1],_,_,rfl,by omega,Nat.le_refl _,by simp only[List.length_cons,List.length_nil];omega,hG⟩) ?_;rintro m f1 s (⟨km,lm,xm,om,ksm,kl,ll,xl,ol,ksl,acc,j,ln,rfl,hj,hmf,hb2,hG⟩ | ⟨km,lm,xm,om,cm,kl,ll,xl,ol,cl,j,gs,ln,rfl,hj,he,hgb⟩);have hG:=gd_pb1.1 hG;rcases m with _ | m;exact hG.elim;have ihf:=ih m (by omega);simp only[gr] at hG;(conv=>whnf);rotate_left;(conv=>whnf))
  | (refine loop_once [] rfl ?_;intro f0;(conv=>whnf))):Pz:=hz
end Can
end Go.Proofs.YtnankhlanilbbaaGreat
end
section
namespace Go.Proofs.YtnankhlanilbbaaGreat
namespace Can
open Go Go.RowKit
set_option linter.unusedSimpArgs false
set_option linter.unusedVariables false
set_option maxRecDepth 4000
attribute [local irreducible] TC isT nowT begT placeN
section
variable {Z:TP} {X:Pan} {ts:List PT} {sl:Sl} {f:Nat}
set_option maxHeartbeats 8000000 in
theorem dw_expr(C:DCtx Z ts sl)(ih : ∀g,g≤f→DAll Z X ts sl g):DG Z X ts sl (f+1) .expr 38 [.ptr 0 0]:=by
 intro i Q R E P hi hG hE hQ
 have ihf:=ih f (Nat.le_refl f)
 have hln:=C.len
 have hG0:=hG
 simp only[gr] at hG
 refine tc_rG dtd_ok (by rfl) (by kernel_rfl) ?_
 conv in (rF _ _).body=>reduce
 conv in (rF _ _).res=>reduce
 conv=>whnf
 exact dw_go
set_option maxHeartbeats 8000000 in
theorem dw_or(C:DCtx Z ts sl)(ih : ∀g,g≤f→DAll Z X ts sl g):DG Z X ts sl (f+1) .or 76 [.ptr 0 0]:=by
 intro i Q R E P hi hG hE hQ
 have ihf:=ih f (Nat.le_refl f)
 have hln:=C.len
 have hG0:=hG
 simp only[gr] at hG
 refine tc_rG dtd_ok (by rfl) (by kernel_rfl) ?_
 conv in (rF _ _).body=>reduce
 conv in (rF _ _).res=>reduce
 conv=>whnf
 exact dw_go
set_option maxHeartbeats 8000000 in
theorem dw_not(C:DCtx Z ts sl)(ih : ∀g,g≤f→DAll Z X ts sl g):DG Z X ts sl (f+1) .not 137 [.ptr 0 0]:=by
 intro i Q R E P hi hG hE hQ
 have ihf:=ih f (Nat.le_refl f)
 have hln:=C.len
 have hG0:=hG
 simp only[gr] at hG
 refine tc_rG dtd_ok (by rfl) (by kernel_rfl) ?_
 conv in (rF _ _).body=>reduce
 conv in (rF _ _).res=>reduce
 conv=>whnf
 exact dw_go
set_option maxHeartbeats 8000000 in
theorem dw_one(C:DCtx Z ts sl)(ih : ∀g,g≤f→DAll Z X ts sl g):DG Z X ts sl (f+1) .one 78 [.ptr 0 0]:=by
 intro i Q R E P hi hG hE hQ
 have ihf:=ih f (Nat.le_refl f)
 have hln:=C.len
 have hG0:=hG
 simp only[gr] at hG
 refine tc_rG dtd_ok (by rfl) (by kernel_rfl) ?_
 conv in (rF _ _).body=>reduce
 conv in (rF _ _).res=>reduce
 conv=>whnf
 exact dw_go
set_option maxHeartbeats 8000000 in
theorem dw_simple(C:DCtx Z ts sl)(ih : ∀g,g≤f→DAll Z X ts sl g):DG Z X ts sl (f+1) .simple 47 [.ptr 0 0]:=by
 intro i Q R E P hi hG hE hQ
 have ihf:=ih f (Nat.le_refl f)
 have hln:=C.len
 have hG0:=hG
 simp only[gr] at hG
 refine tc_rG dtd_ok (by rfl) (by kernel_rfl) ?_
 conv in (rF _ _).body=>reduce
 conv in (rF _ _).res=>reduce
 conv=>whnf
 exact dw_go
set_option maxHeartbeats 8000000 in
theorem dw_value(C:DCtx Z ts sl)(ih : ∀g,g≤f→DAll Z X ts sl g):DG Z X ts sl (f+1) .value 120 [.ptr 0 0]:=by
 intro i Q R E P hi hG hE hQ
 have ihf:=ih f (Nat.le_refl f)
 have hln:=C.len
 have hG0:=hG
 simp only[gr] at hG
 refine tc_rG dtd_ok (by rfl) (by kernel_rfl) ?_
 conv in (rF _ _).body=>reduce
 conv in (rF _ _).res=>reduce
 conv=>whnf
 exact dw_go
set_option maxHeartbeats 8000000 in
theorem dw_maybe(C:DCtx Z ts sl)(ih : ∀g,g≤f→DAll Z X ts sl g) : ∀(k:Nat) (ln:Int) (all:Bool),DG Z X ts sl (f+1) (.maybe k ln all) 80 [.ptr 0 0,rS (.int .i64 (k:Nat)),rS (.int .i64 ln),rS (.bool all)]:=by
 intro k ln all i Q R E P hi hG hE hQ
 have ihf:=ih f (Nat.le_refl f)
 have hln:=C.len
 simp only[gr] at hG
 cases all
 all_goals simp only[Bool.false_eq_true,if_false,if_true] at hG
 all_goals
  refine tc_rG dtd_ok (by rfl) (by kernel_rfl) ?_
  conv in (rF _ _).body=>reduce
  conv in (rF _ _).res=>reduce
  conv=>whnf
  exact dw_go
set_option maxHeartbeats 8000000 in
theorem dw_tries(C:DCtx Z ts sl)(ih : ∀g,g≤f→DAll Z X ts sl g) : ∀(ln:Int),DG Z X ts sl (f+1) (.tries ln) 46 [.ptr 0 0,rS (.int .i64 ln)]:=by
 intro ln i Q R E P hi hG hE hQ
 have ihf:=ih f (Nat.le_refl f)
 have hln:=C.len
 have hG0:=hG
 simp only[gr] at hG
 refine tc_rG dtd_ok (by rfl) (by kernel_rfl) ?_
 conv in (rF _ _).body=>reduce
 conv in (rF _ _).res=>reduce
 conv=>whnf
 exact dw_go
end
end Can
end Go.Proofs.YtnankhlanilbbaaGreat
end
section
namespace Go.Proofs.YtnankhlanilbbaaGreat
namespace Can
open Go Go.RowKit
set_option linter.unusedSimpArgs false
set_option linter.unusedVariables false
set_option maxRecDepth 4000
attribute [local irreducible] TC isT nowT begT placeN
section
variable {Z:TP} {X:Pan} {ts:List PT} {sl:Sl} {f:Nat}
set_option maxHeartbeats 8000000 in
theorem dw_and(C:DCtx Z ts sl)(ih : ∀g,g≤f→DAll Z X ts sl g):DG Z X ts sl (f+1) .and 116 [.ptr 0 0]:=by
 intro i Q R E P hi hG hE hQ
 have ihf:=ih f (Nat.le_refl f)
 have hln:=C.len
 have hG0:=hG
 simp only[gr] at hG
 refine tc_rG dtd_ok (by rfl) (by kernel_rfl) ?_
 conv in (rF _ _).body=>reduce
 conv in (rF _ _).res=>reduce
 conv=>whnf
 exact dw_go
set_option maxHeartbeats 8000000 in
theorem dw_factor(C:DCtx Z ts sl)(ih : ∀g,g≤f→DAll Z X ts sl g):DG Z X ts sl (f+1) .factor 173 [.ptr 0 0]:=by
 intro i Q R E P hi hG hE hQ
 have ihf:=ih f (Nat.le_refl f)
 have hln:=C.len
 have hG0:=hG
 simp only[gr] at hG
 refine tc_rG dtd_ok (by rfl) (by kernel_rfl) ?_
 conv in (rF _ _).body=>reduce
 conv in (rF _ _).res=>reduce
 conv=>whnf
 exact dw_go
set_option maxHeartbeats 8000000 in
theorem dw_atom(C:DCtx Z ts sl)(ih : ∀g,g≤f→DAll Z X ts sl g):DG Z X ts sl (f+1) .atom 118 [.ptr 0 0]:=by
 intro i Q R E P hi hG hE hQ
 have ihf:=ih f (Nat.le_refl f)
 have hln:=C.len
 simp only[gr] at hG
 refine tc_rG dtd_ok (by rfl) (by kernel_rfl) ?_
 conv in (rF _ _).body=>reduce
 conv in (rF _ _).res=>reduce
 conv=>whnf
 refine dnow_tc C (by omega) ?_
 obtain⟨t,ht⟩ : ∃t,nowT ts i=t:=⟨_,rfl⟩
 have hlk:(nowT ts i).kind≠0→i<ts.length:=kd_lt
 rw[ht] at hG hlk⊢
 obtain⟨kd,lt,xt⟩:=t
 by_cases hk:4≤kd∧kd≤7
 ·have hl:i<ts.length:=hlk (by show kd≠0;omega)
  rw[if_pos hk] at hG
  obtain rfl | rfl | rfl | rfl:kd=4∨kd=5∨kd=6∨kd=7:=by omega
  all_goals
   (conv=>whnf)
   refine dleaf_tc hk.1 hk.2 ?_
   (conv=>whnf)
   repeat (refine⟨rfl,?_⟩;(conv=>whnf))
   exact q_eq rfl (drd_wr C hl) (hQ _ _ hG (by omega))
 ·rw[if_neg hk] at hG
  (conv=>whnf)
  exact dw_go
set_option maxHeartbeats 8000000 in
theorem dw_stmt(C:DCtx Z ts sl)(ih : ∀g,g≤f→DAll Z X ts sl g):DG Z X ts sl (f+1) .stmt 20 [.ptr 0 0]:=by
 intro i Q R E P hi hG hE hQ
 have ihf:=ih f (Nat.le_refl f)
 have hln:=C.len
 have hG0:=hG
 simp only[gr] at hG
 refine tc_rG dtd_ok (by rfl) (by kernel_rfl) ?_
 conv in (rF _ _).body=>reduce
 conv in (rF _ _).res=>reduce
 conv=>whnf
 exact dw_go
set_option maxHeartbeats 8000000 in
theorem dw_params(C:DCtx Z ts sl)(ih : ∀g,g≤f→DAll Z X ts sl g) : ∀(cl:List UInt8) (ln:Int),cl≠ []→DG Z X ts sl (f+1) (.params cl ln []) 44 [.ptr 0 0,rS (.int .i64 ln),rS (.string ⟨⟨cl⟩⟩)]:=by
 intro cl ln cl_ne i Q R E P hi hG hE hQ
 have ihf:=ih f (Nat.le_refl f)
 have hln:=C.len
 have hG0:=hG
 simp only[gr] at hG
 refine tc_rG dtd_ok (by rfl) (by kernel_rfl) ?_
 conv in (rF _ _).body=>reduce
 conv in (rF _ _).res=>reduce
 conv=>whnf
 exact dw_go
set_option maxHeartbeats 8000000 in
theorem dw_names(C:DCtx Z ts sl)(ih : ∀g,g≤f→DAll Z X ts sl g) : ∀(k:Nat) (ln:Int),DG Z X ts sl (f+1) (.names k ln []) 81 [.ptr 0 0,rS (.int .i64 (k:Nat)),rS (.int .i64 ln)]:=by
 intro k ln i Q R E P hi hG hE hQ
 have ihf:=ih f (Nat.le_refl f)
 have hln:=C.len
 have hG0:=hG
 simp only[gr] at hG
 refine tc_rG dtd_ok (by rfl) (by kernel_rfl) ?_
 conv in (rF _ _).body=>reduce
 conv in (rF _ _).res=>reduce
 conv=>whnf
 exact dw_go
end
end Can
end Go.Proofs.YtnankhlanilbbaaGreat
end
section
namespace Go.Proofs.YtnankhlanilbbaaGreat
namespace Can
open Go Go.RowKit
set_option linter.unusedSimpArgs false
set_option linter.unusedVariables false
set_option maxRecDepth 4000
attribute [local irreducible] TC isT nowT begT placeN
section
variable {Z:TP} {X:Pan} {ts:List PT} {sl:Sl} {f:Nat}
set_option maxHeartbeats 8000000 in
theorem dw_compare(C:DCtx Z ts sl)(ih : ∀g,g≤f→DAll Z X ts sl g):DG Z X ts sl (f+1) .compare 154 [.ptr 0 0]:=by
 intro i Q R E P hi hG hE hQ
 have ihf:=ih f (Nat.le_refl f)
 have hln:=C.len
 have hG0:=hG
 simp only[gr] at hG
 refine tc_rG dtd_ok (by rfl) (by kernel_rfl) ?_
 conv in (rF _ _).body=>reduce
 conv in (rF _ _).res=>reduce
 conv=>whnf
 exact dw_go
set_option maxHeartbeats 8000000 in
theorem dw_arith(C:DCtx Z ts sl)(ih : ∀g,g≤f→DAll Z X ts sl g):DG Z X ts sl (f+1) .arith 163 [.ptr 0 0]:=by
 intro i Q R E P hi hG hE hQ
 have ihf:=ih f (Nat.le_refl f)
 have hln:=C.len
 have hG0:=hG
 simp only[gr] at hG
 refine tc_rG dtd_ok (by rfl) (by kernel_rfl) ?_
 conv in (rF _ _).body=>reduce
 conv in (rF _ _).res=>reduce
 conv=>whnf
 exact dw_go
set_option maxHeartbeats 8000000 in
theorem dw_term(C:DCtx Z ts sl)(ih : ∀g,g≤f→DAll Z X ts sl g):DG Z X ts sl (f+1) .term 170 [.ptr 0 0]:=by
 intro i Q R E P hi hG hE hQ
 have ihf:=ih f (Nat.le_refl f)
 have hln:=C.len
 have hG0:=hG
 simp only[gr] at hG
 refine tc_rG dtd_ok (by rfl) (by kernel_rfl) ?_
 conv in (rF _ _).body=>reduce
 conv in (rF _ _).res=>reduce
 conv=>whnf
 exact dw_go
set_option maxHeartbeats 8000000 in
theorem dw_exprs(C:DCtx Z ts sl)(ih : ∀g,g≤f→DAll Z X ts sl g):DG Z X ts sl (f+1) .exprs 42 [.ptr 0 0]:=by
 intro i Q R E P hi hG hE hQ
 have ihf:=ih f (Nat.le_refl f)
 have hln:=C.len
 have hG0:=hG
 simp only[gr] at hG
 refine tc_rG dtd_ok (by rfl) (by kernel_rfl) ?_
 conv in (rF _ _).body=>reduce
 conv in (rF _ _).res=>reduce
 conv=>whnf
 exact dw_go
set_option maxHeartbeats 8000000 in
theorem dw_row(C:DCtx Z ts sl)(ih : ∀g,g≤f→DAll Z X ts sl g) : ∀(cl:List UInt8),cl≠ []→DGn Z X ts sl (f+1) (.row cl []) 45 [.ptr 0 0,rS (.string ⟨⟨cl⟩⟩)]:=by
 intro cl cl_ne i Q R E P hi hG hE hQ
 have ihf:=ih f (Nat.le_refl f)
 have hln:=C.len
 have hG0:=hG
 simp only[gr] at hG
 refine tc_rG dtd_ok (by rfl) (by kernel_rfl) ?_
 conv in (rF _ _).body=>reduce
 conv in (rF _ _).res=>reduce
 conv=>whnf
 exact dw_go
set_option maxHeartbeats 8000000 in
theorem dw_index(C:DCtx Z ts sl)(ih : ∀g,g≤f→DAll Z X ts sl g) : ∀(k:Nat) (l:Int) (x:List UInt8) (o:Nat) (ks:List Nd),DG Z X ts sl (f+1) (.index (.mk k l x o ks)) 119 [.ptr 0 0,ndA (.mk k l x o ks)]:=by
 intro k l x o ks i Q R E P hi hG hE hQ
 have ihf:=ih f (Nat.le_refl f)
 have hln:=C.len
 have hG0:=hG
 simp only[gr] at hG
 refine tc_rG dtd_ok (by rfl) (by kernel_rfl) ?_
 conv in (rF _ _).body=>reduce
 conv in (rF _ _).res=>reduce
 conv=>whnf
 exact dw_go
set_option maxHeartbeats 8000000 in
theorem dw_braces(C:DCtx Z ts sl)(ih : ∀g,g≤f→DAll Z X ts sl g) : ∀(ln:Int),DG Z X ts sl (f+1) (.braces ln) 140 [.ptr 0 0,rS (.int .i64 ln)]:=by
 intro ln i Q R E P hi hG hE hQ
 have ihf:=ih f (Nat.le_refl f)
 have hln:=C.len
 have hG0:=hG
 simp only[gr] at hG
 refine tc_rG dtd_ok (by rfl) (by kernel_rfl) ?_
 conv in (rF _ _).body=>reduce
 conv in (rF _ _).res=>reduce
 conv=>whnf
 exact dw_go
end
end Can
end Go.Proofs.YtnankhlanilbbaaGreat
end
section
namespace Go.Proofs.YtnankhlanilbbaaGreat
namespace Can
open Go Go.RowKit
set_option linter.unusedSimpArgs false
set_option linter.unusedVariables false
set_option maxRecDepth 4000
attribute [local irreducible] TC isT nowT begT placeN
section
variable {Z:TP} {X:Pan} {ts:List PT} {sl:Sl} {f:Nat}
set_option maxHeartbeats 8000000 in
theorem dw_primary(C:DCtx Z ts sl)(ih : ∀g,g≤f→DAll Z X ts sl g):DG Z X ts sl (f+1) .primary 82 [.ptr 0 0]:=by
 intro i Q R E P hi hG hE hQ
 have ihf:=ih f (Nat.le_refl f)
 have hln:=C.len
 have hG0:=hG
 simp only[gr] at hG
 refine tc_rG dtd_ok (by rfl) (by kernel_rfl) ?_
 conv in (rF _ _).body=>reduce
 conv in (rF _ _).res=>reduce
 conv=>whnf
 exact dw_go
set_option maxHeartbeats 8000000 in
theorem dw_places(C:DCtx Z ts sl)(ih : ∀g,g≤f→DAll Z X ts sl g):DG Z X ts sl (f+1) .places 41 [.ptr 0 0]:=by
 intro i Q R E P hi hG hE hQ
 have ihf:=ih f (Nat.le_refl f)
 have hln:=C.len
 have hG0:=hG
 simp only[gr] at hG
 refine tc_rG dtd_ok (by rfl) (by kernel_rfl) ?_
 conv in (rF _ _).body=>reduce
 conv in (rF _ _).res=>reduce
 conv=>whnf
 exact dw_go
set_option maxHeartbeats 8000000 in
theorem dw_plain(C:DCtx Z ts sl)(ih : ∀g,g≤f→DAll Z X ts sl g):DG Z X ts sl (f+1) .plain 84 [.ptr 0 0]:=by
 intro i Q R E P hi hG hE hQ
 have ihf:=ih f (Nat.le_refl f)
 have hln:=C.len
 have hG0:=hG
 simp only[gr] at hG
 refine tc_rG dtd_ok (by rfl) (by kernel_rfl) ?_
 conv in (rF _ _).body=>reduce
 conv in (rF _ _).res=>reduce
 conv=>whnf
 exact dw_go
set_option maxHeartbeats 8000000 in
theorem dw_block(C:DCtx Z ts sl)(ih : ∀g,g≤f→DAll Z X ts sl g):DG Z X ts sl (f+1) .block 40 [.ptr 0 0]:=by
 intro i Q R E P hi hG hE hQ
 have ihf:=ih f (Nat.le_refl f)
 have hln:=C.len
 have hG0:=hG
 simp only[gr] at hG
 refine tc_rG dtd_ok (by rfl) (by kernel_rfl) ?_
 conv in (rF _ _).body=>reduce
 conv in (rF _ _).res=>reduce
 conv=>whnf
 exact dw_go
set_option maxHeartbeats 8000000 in
theorem dw_clauses(C:DCtx Z ts sl)(ih : ∀g,g≤f→DAll Z X ts sl g):DGn Z X ts sl (f+1) (.clauses []) 155 [.ptr 0 0]:=by
 intro i Q R E P hi hG hE hQ
 have ihf:=ih f (Nat.le_refl f)
 have hln:=C.len
 have hG0:=hG
 simp only[gr] at hG
 refine tc_rG dtd_ok (by rfl) (by kernel_rfl) ?_
 conv in (rF _ _).body=>reduce
 conv in (rF _ _).res=>reduce
 conv=>whnf
 exact dw_go
set_option maxHeartbeats 8000000 in
theorem dw_list(C:DCtx Z ts sl)(ih : ∀g,g≤f→DAll Z X ts sl g) : ∀(ln:Int),DG Z X ts sl (f+1) (.list ln) 139 [.ptr 0 0,rS (.int .i64 ln)]:=by
 intro ln i Q R E P hi hG hE hQ
 have ihf:=ih f (Nat.le_refl f)
 have hln:=C.len
 have hG0:=hG
 simp only[gr] at hG
 refine tc_rG dtd_ok (by rfl) (by kernel_rfl) ?_
 conv in (rF _ _).body=>reduce
 conv in (rF _ _).res=>reduce
 conv=>whnf
 exact dw_go
set_option maxHeartbeats 8000000 in
theorem dw_ifs(C:DCtx Z ts sl)(ih : ∀g,g≤f→DAll Z X ts sl g) : ∀(ln:Int),DG Z X ts sl (f+1) (.ifs ln) 37 [.ptr 0 0,rS (.int .i64 ln)]:=by
 intro ln i Q R E P hi hG hE hQ
 have ihf:=ih f (Nat.le_refl f)
 have hln:=C.len
 have hG0:=hG
 simp only[gr] at hG
 refine tc_rG dtd_ok (by rfl) (by kernel_rfl) ?_
 conv in (rF _ _).body=>reduce
 conv in (rF _ _).res=>reduce
 conv=>whnf
 exact dw_go
end
end Can
end Go.Proofs.YtnankhlanilbbaaGreat
end
section
namespace Go.Proofs.YtnankhlanilbbaaGreat
namespace Can
open Go Go.RowKit
set_option linter.unusedSimpArgs false
set_option linter.unusedVariables false
set_option maxRecDepth 4000
attribute [local irreducible] TC isT nowT begT placeN
section
variable {Z:TP} {X:Pan} {ts:List PT} {sl:Sl} {f:Nat}
theorem dall0:DAll Z X ts sl 0:=by
 constructor
 all_goals (intros;intro i Q R E P hi hG hE hQ;exact hG.elim)
theorem dalls(C:DCtx Z ts sl)(ih : ∀g,g≤f→DAll Z X ts sl g):DAll Z X ts sl (f+1):=⟨dw_expr C ih,dw_or C ih,dw_and C ih,dw_not C ih,dw_compare C ih,dw_arith C ih,dw_term C ih,dw_factor C ih,dw_primary C ih,dw_atom C ih,dw_exprs C ih,dw_one C ih,dw_places C ih,dw_simple C ih,dw_plain C ih,dw_value C ih,dw_block C ih,dw_stmt C ih,dw_params C ih,dw_row C ih,dw_index C ih,dw_clauses C ih,dw_list C ih,dw_braces C ih,dw_names C ih,dw_maybe C ih,dw_ifs C ih,dw_tries C ih⟩
theorem dall(C:DCtx Z ts sl) : ∀f,DAll Z X ts sl f:=by
 intro f
 induction f using Nat.strongRecOn with
 | _ f ih=>
   cases f with
   | zero=>exact dall0
   | succ f=>exact dalls C fun g hg=>ih g (by omega)
end
end Can
end Go.Proofs.YtnankhlanilbbaaGreat
end
section
namespace Go.Proofs.YtnankhlanilbbaaGreat
namespace Can
open Go Go.RowKit
set_option linter.unusedSimpArgs false
set_option linter.unusedVariables false
set_option maxRecDepth 4000
attribute [local irreducible] TC isT nowT begT placeN
abbrev ndRV(n:Nd):RV:= .agg [cS (.int .i64 (n.kind:Nat)),cS (.int .i64 n.line),cS (.string ⟨⟨n.text⟩⟩),cS (.int .i64 (n.op:Nat)), .s (.row 5 (ndsS n.kids))]
theorem dparse_tc{Z:TP}{X:Pan}{ts:List PT}{sl:Sl}{R:Value→Prop}{Q:AV→List SV→Prop}(C:DCtx Z ts sl)(hQ : ∀n l e,parseT ts=(n,l,e)→Q (.tup [ndRV n, .c (cS (.int .i64 l)), .c (cS (.int .i64 e))]) []):TC Z (tblG Tryz.prog LG GG) X 9 [rS (.slice sl.q sl.n sl.c)] none Q R:=by
 have hG:=top_gd (ts:=ts)
 have hlen:=C.len
 obtain⟨E,hE⟩ : ∃E:Nat→Prop,E=fun e=>gr ts (ts.length*64+100) (.top []) 0=some (.error e):=⟨_,rfl⟩
 obtain⟨P,hP⟩ : ∃P:List Nd→Nat→Prop,P=fun l j=>gr ts (ts.length*64+100) (.top []) 0=some (.ok (l,j))∧htL l+1≤64*ts.length+2:=⟨_,rfl⟩
 rw[←hE,←hP] at hG
 refine tc_rG dtd_ok (by rfl) (by kernel_rfl) ?_
 conv in (rF _ _).body=>reduce
 conv in (rF _ _).res=>reduce
 conv=>whnf
 refine dnow_tc C (Nat.zero_le _) ?_
 conv=>whnf
 refine loop_0 (fun m s=>(∃acc j c,AccV acc c∧s=⟨1,[oN nzC,oRb sl j false,oN (nC 1 (hdLine (nowT ts 0).line acc) [] 0 c)]⟩∧j≤ts.length∧m≤ts.length*64+100∧2*acc.length≤j∧Gd E P (gr ts m (.top acc) j))∨(∃j gs ln,s=⟨1,[oN nzC,oRb sl j true,oN (nG 1 ln ⟨⟨[]⟩⟩ 0 (.own 0 26 5 gs))]⟩∧j≤ts.length∧E j)) (ts.length*64+100) [99] rfl (.inl ⟨[],_,_, .inl ⟨rfl,rfl⟩,rfl,by omega,Nat.le_refl _,by simp only[List.length_nil];omega,hG⟩) ?_
 rintro m f1 s (⟨acc,j,c,hA,rfl,hj,hmf,hb2,hG⟩ | ⟨j,gs,ln,rfl,hj,he⟩)
 rotate_left
 ·conv=>whnf
  refine dnow_tc C hj ?_
  conv=>whnf
  have h:=hQ zNd (nowT ts j).line 22 (by rw[hE] at he;unfold parseT;rw[he])
  exact h
 rcases m with _ | m
 ·exact hG.elim
 have ihm:=dall C (X:=X) m
 simp only[gr] at hG
 rcases hA with ⟨rfl,rfl⟩ | ⟨hne,rfl⟩
 rotate_left
 rcases acc with _ | ⟨⟨k2,l2,x2,o2,ks2⟩,acc⟩
 ·exact absurd rfl hne
 ·try simp only[List.length_cons,List.length_nil] at hb2
  (conv=>whnf)
  refine dnow_tc C (by omega) ?_
  (conv=>whnf)
  generalize hk:((nowT ts j).kind != Int.ofNat 0)=bb
  cases bb
  ·have hk0:(nowT ts j).kind=0:=by simpa using hk
   rw[if_pos hk0] at hG
   (conv=>whnf)
   rw[hP] at hG
   obtain⟨hgr,hht⟩:=hG
   refine dheight_tc (nsz (.mk 1 (hdLine (nowT ts 0).line (Nd.mk k2 l2 x2 o2 ks2::acc)) [] 0 (Nd.mk k2 l2 x2 o2 ks2::acc))+1) 1 (hdLine (nowT ts 0).line (Nd.mk k2 l2 x2 o2 ks2::acc)) [] 0 (Nd.mk k2 l2 x2 o2 ks2::acc) (Nat.lt_succ_self _) (by omega) _ _ ?_
   (conv=>whnf)
   refine ifT_c (fun h=> ?_) (fun h=> ?_)
   ·have h60:60<htL (Nd.mk k2 l2 x2 o2 ks2::acc)+1:=Int.ofNat_lt.1 (by simpa using h)
    (conv=>whnf)
    exact hQ zNd 0 11 (by unfold parseT;rw[hgr];exact if_pos h60)
   ·have h60 : ¬ 60<htL (Nd.mk k2 l2 x2 o2 ks2::acc)+1:=fun h2=>absurd (Int.ofNat_lt.2 h2) (by simpa using h)
    (conv=>whnf)
    exact hQ (nd 1 (hdLine (nowT ts 0).line (Nd.mk k2 l2 x2 o2 ks2::acc)) (Nd.mk k2 l2 x2 o2 ks2::acc)) 0 0 (by unfold parseT;rw[hgr];exact if_neg h60)
  ·have hk0 : ¬(nowT ts j).kind=0:=by simpa using hk
   rw[if_neg hk0] at hG
   have hlt:=kd_lt hk0
   (conv=>whnf)
   repeat' first
    | (refine drul_st ihm.stmt hG (by trivial) rfl (fun e he hel kb lb xb ob gb hgb=> ?_) (by omega) (fun n1 l1 x1 o1 ks1 j1 hp1 hj1 hG=> ?_)<;>(try simp only[NT.min] at hp1)<;>(conv=>whnf))
    | (intro (hmx:_≤maxLen);(conv=>whnf))
    | exact⟨m,[2],by omega,rfl, .inl ⟨_,_,_,accV_app rfl,rfl,by omega,by omega,(by simp only[List.length_append,List.length_cons,List.length_nil] at *;omega),hG⟩⟩
    | exact⟨m,[2],by omega,rfl, .inr ⟨_,_,_,rfl,by omega,he⟩⟩
    | (refine⟨rfl,0,_,rfl,rfl,?_⟩;(conv=>whnf))
    | (refine⟨rfl,?_⟩;(conv=>whnf))
    | (refine⟨bdA (by simp only[List.length_append,List.length_cons,List.length_nil,ndsS_len];omega),?_⟩;(conv=>whnf))
 ·try simp only[List.length_cons,List.length_nil] at hb2
  (conv=>whnf)
  refine dnow_tc C (by omega) ?_
  (conv=>whnf)
  generalize hk:((nowT ts j).kind != Int.ofNat 0)=bb
  cases bb
  ·have hk0:(nowT ts j).kind=0:=by simpa using hk
   rw[if_pos hk0] at hG
   (conv=>whnf)
   rw[hP] at hG
   obtain⟨hgr,hht⟩:=hG
   refine dheight_tc (nsz (.mk 1 (hdLine (nowT ts 0).line ([])) [] 0 ([]))+1) 1 (hdLine (nowT ts 0).line ([])) [] 0 ([]) (Nat.lt_succ_self _) (by omega) _ _ ?_
   (conv=>whnf)
   exact hQ (nd 1 (hdLine (nowT ts 0).line []) []) 0 0 (by unfold parseT;rw[hgr];rfl)
  ·have hk0 : ¬(nowT ts j).kind=0:=by simpa using hk
   rw[if_neg hk0] at hG
   have hlt:=kd_lt hk0
   (conv=>whnf)
   repeat' first
    | (refine drul_st ihm.stmt hG (by trivial) rfl (fun e he hel kb lb xb ob gb hgb=> ?_) (by omega) (fun n1 l1 x1 o1 ks1 j1 hp1 hj1 hG=> ?_)<;>(try simp only[NT.min] at hp1)<;>(conv=>whnf))
    | (intro (hmx:_≤maxLen);(conv=>whnf))
    | exact⟨m,[2],by omega,rfl, .inl ⟨_,_,_,accV_app rfl,rfl,by omega,by omega,(by simp only[List.length_append,List.length_cons,List.length_nil] at *;omega),hG⟩⟩
    | exact⟨m,[2],by omega,rfl, .inr ⟨_,_,_,rfl,by omega,he⟩⟩
    | (refine⟨rfl,0,_,rfl,rfl,?_⟩;(conv=>whnf))
    | (refine⟨rfl,?_⟩;(conv=>whnf))
    | (refine⟨bdA (by simp only[List.length_append,List.length_cons,List.length_nil,ndsS_len];omega),?_⟩;(conv=>whnf))
end Can
end Go.Proofs.YtnankhlanilbbaaGreat
end
section
namespace Go.Proofs.YtnankhlanilbbaaGreat
namespace Can
open Go Go.RowKit
set_option linter.unusedSimpArgs false
set_option linter.unusedVariables false
set_option maxRecDepth 4000
def PrQr (H:CH)(ts:List PT)(v:Value)(K:CH):Prop:=HExt H K∧∃os,v= .tuple #[.agg os.toArray, .int .i64 (parseT ts).2.1, .int .i64 (parseT ts).2.2]∧SVRs K (fun b=>H.nx≤b∧b<K.nx) (ndS (parseT ts).1) os
theorem ndRV_inv{K:CH}{E:TE}{n:Nd}{v:Value}(h:RVR K E (ndRV n) v) : ∃os,v= .agg os.toArray∧SVRs K (Frz K E) (ndS n) os:=by
 obtain⟨k,l,x,o,ks⟩:=n
 generalize hx:ndRV (.mk k l x o ks)=x at h
 cases h with
 | c=>cases hx
 | @agg cs vs h=>
   injection hx with hx
   subst hx
   refine⟨vs,rfl,?_⟩
   cases h with | cons a1 h=>
   cases h with | cons a2 h=>
   cases h with | cons a3 h=>
   cases h with | cons a4 h=>
   cases h with | cons a5 h=>
   cases h
   rw[cS_inv a1,cS_inv a2,cS_inv a3,cS_inv a4]
   refine .cons (.sc rfl) (.cons (.sc rfl) (.cons (.sc rfl) (.cons (.sc rfl) (.cons ?_ .nil))))
   cases a5 with
   | s h=>exact h
theorem rparse_wp{H:CH}{sl:Sl}{ts:List PT}(h:SlAt 3 CTk H sl.q sl.c ts)(hn:sl.n=ts.length)(hlen:ts.length≤4398046510976):WpF (tblG Tryz.prog LG GG) 9 [.slice sl.q sl.n sl.c] H fun v K=>PrQr H ts v K:=by
 have C:DCtx (prZ H sl) ts sl:=⟨prZ_ok h hn,hlen⟩
 have hT:=dparse_tc (X:=pX) (R:=fun _=>False) (Q:=fun a _=>a= .tup [ndRV (parseT ts).1, .c (cS (.int .i64 (parseT ts).2.1)), .c (cS (.int .i64 (parseT ts).2.2))]) C fun n l e he=>by rw[he]
 rcases hT H none (fun b=>b<H.nx) [.slice sl.q sl.n sl.c] (fun _ h=>⟨h,by simp⟩) (fun b hb=>⟨prZ_in h hb,(by simp),rfl⟩) (.cons (rS_rel rfl) .nil) rfl with h | ⟨n,v,H',_,h⟩
 ·refine h.mono fun v K' ⟨h1,h2,a,s',h3,_,_,h4⟩=> ?_
  subst h4
  refine⟨⟨h1,fun b hb=>h2 b hb (by simp)⟩,?_⟩
  cases h3 with
  | tup h3=>
    cases h3 with | cons a1 h3=>
    cases h3 with | cons a2 h3=>
    cases h3 with | cons a3 h3=>
    cases h3
    obtain⟨os,rfl,hs⟩:=ndRV_inv a1
    refine⟨os,?_,hs.mv fun b hb=>⟨⟨Nat.le_of_not_lt hb.2.1,hb.1⟩,rfl⟩⟩
    cases a2 with | c a2=>
    cases a3 with | c a3=>
    rw[cS_inv a2,cS_inv a3]
 ·exact h.2.2.elim
end Can
end Go.Proofs.YtnankhlanilbbaaGreat
end
section
namespace Go.Proofs.YtnankhlanilbbaaGreat
namespace Can
open Go Go.RowKit
set_option linter.unusedSimpArgs false
set_option linter.unusedVariables false
set_option maxRecDepth 4000
def bsV (l:List UInt8):List Value:=l.map fun b=> .int .u8 b.toNat
def src1:List UInt8:= [97,32,61,32,98,44,32,49]
def src2:List UInt8:= [98,10,49,32,61,32,97]
def toks1:List PT:= [⟨4,1,[97]⟩,⟨9,1,[61]⟩,⟨4,1,[98]⟩,⟨9,1,[44]⟩,⟨5,1,[49]⟩,⟨1,1,[]⟩,⟨0,1,[]⟩]
def toks2:List PT:= [⟨4,1,[98]⟩,⟨1,1,[]⟩,⟨5,2,[49]⟩,⟨9,2,[61]⟩,⟨4,2,[97]⟩,⟨1,2,[]⟩,⟨0,2,[]⟩]
def ptT (t:Tok):PT:=⟨t.kind,t.line,t.text⟩
theorem tokV_pt(t:Tok):tokV (ptT t)=tokC t:=rfl
theorem ptT_flat : ∀ts:List Tok,(ts.map ptT).flatMap tokV=ts.flatMap tokC
 | []=>rfl
 | t::ts=>by rw[List.map_cons,List.flatMap_cons,List.flatMap_cons,ptT_flat ts,tokV_pt]
theorem grw_pt{A K:CH}{v:Value}{ts:List Tok}(h:Grw A 50 3 tokC K v ts):Grw A 50 3 tokV K v (ts.map ptT):=by
 rcases h with ⟨rfl,rfl⟩ | ⟨b,kd,rfl,h1,h2,h3,h4⟩
 ·exact .inl ⟨rfl,rfl⟩
 ·exact .inr ⟨b,kd,by rw[List.length_map],h1,h2,by rw[ptT_flat];exact h3,h4⟩
def sourceT(src:List UInt8):Nd×Int×Int:=match lexT src with
 | .ok ts=>parseT (ts.map ptT)
 | .error y=>(zNd,y.1,y.2)
theorem slat_bs{H:CH}{p:Nat}{src:List UInt8}{e:TypeId}{k:Kd}(hp:p<H.nx)(h:H.ob p= .cells (bsV src) e k)(hl:src.length≤maxLen):SlAt 1 (CInt .u8) H (some ⟨p,0,none⟩) src.length (u8i src):=by
 refine .inr ⟨p,0,_,e,k,rfl,hp,by rw[u8i_len];exact Nat.le_refl _,hl,h,by rw[u8i_len];simp[bsV],fun i hi=> ?_⟩
 rw[u8i_len] at hi
 have e1:(bsV src).drop (0+i*1)= .int .u8 (src[i].toNat:Nat)::(bsV src).drop (i+1):=by
  rw[Nat.zero_add,Nat.mul_one,List.drop_eq_getElem_cons (by simpa[bsV] using hi)]
  simp[bsV]
 refine⟨?_,?_⟩
 ·rw[e1]
  simp[u8i]
 ·have:=src[i].toNat_lt
  simp only[u8i,List.getElem_map]
  show decide _=true
  have e2:IntKind.u8.max=255:=by decide
  simp[Lit.wf,e2]
  omega
end Can
end Go.Proofs.YtnankhlanilbbaaGreat
end
section
namespace Go.Proofs.YtnankhlanilbbaaGreat
namespace Can
open Go Go.RowKit
set_option linter.unusedSimpArgs false
set_option linter.unusedVariables false
variable {P:Program}
abbrev Spec:=FuncId→List Value→CH→Value→CH→Prop
open Classical in
noncomputable def tell(P:Program)(S:Spec)(f:FuncId)(args:List Value)(H:CH):Option (Value×CH):=
 if h : ∃r:Value×CH,S f args H r.1 r.2∧∀B,CallC P B f args H r.1 r.2 then some h.choose else none
noncomputable def tblS(P:Program)(L:List FuncId)(G:FuncId→List Value→Option Value)(LS:List FuncId)(S:Spec):Tbl:=
 ⟨resFunc P (fun N ops=>resD P N ops),resLoop P (fun N ops=>resD P N ops),fun f=>LS.elem f||L.elem f,⟨fun f args H=>if LS.elem f then tell P S f args H else (G f args).map fun v=>(v,H),fun _ _ _=>none⟩⟩
theorem tblS_ok{B:Nat}{L:List FuncId}{G:FuncId→List Value→Option Value}{LS:List FuncId}{S:Spec}(hG : ∀f args v,G f args=some v→PureOk P f args v):TblOk P B (tblS P L G LS S):=by
 refine⟨(tblG_ok (B:=B) (L:=L) hG).fn,(tblG_ok (B:=B) (L:=L) hG).loop,⟨fun f args H v H' h=> ?_,fun l args H v H' h=>(by cases h)⟩⟩
 have h':(if LS.elem f then tell P S f args H else (G f args).map fun v=>(v,H))=some (v,H'):=h
 split at h'
 ·unfold tell at h'
  split at h'
  ·rename_i hx
   have hc:=hx.choose_spec.2 B
   rw[Option.some.inj h'] at hc
   exact .inl ⟨hc.1,hc.2⟩
  ·cases h'
 ·exact(tblG_ok (B:=B) (L:=L) hG).ext.1 f args H v H' h'
theorem wpF_tell{L:List FuncId}{G:FuncId→List Value→Option Value}{LS:List FuncId}{S:Spec}{f:FuncId}(hf:LS.elem f=true){args:List Value}{H:CH}{Q:Value→CH→Prop}(h : ∃v H',S f args H v H'∧∀B,CallC P B f args H v H')(hQ : ∀v H',S f args H v H'→Q v H'):WpF (tblS P L G LS S) f args H Q:=by
 obtain⟨v,H',h1,h2⟩:=h
 have hx : ∃r:Value×CH,S f args H r.1 r.2∧∀B,CallC P B f args H r.1 r.2:=⟨(v,H'),h1,h2⟩
 refine⟨1,hx.choose.1,hx.choose.2,?_,hQ _ _ hx.choose_spec.1⟩
 simp only[evFn,evH]
 have he:(tblS P L G LS S).ext f=true:=by show(LS.elem f||L.elem f)=true;rw[hf];rfl
 rw[if_pos he]
 show(if LS.elem f then tell P S f args H else (G f args).map fun v=>(v,H))=_
 rw[if_pos hf]
 unfold tell
 rw[dif_pos hx]
theorem tbS_fn{L:List FuncId}{G:FuncId→List Value→Option Value}{LS:List FuncId}{S:Spec}{f:Nat}(h:(resFunc P (fun N ops=>resD P N ops) f).isSome=true):(tblS P L G LS S).fn f=some (rF P f):=by
 unfold rF
 show resFunc P (fun N ops=>resD P N ops) f=some ((resFunc P (fun N ops=>resD P N ops) f).getD ⟨0,[], .skip⟩)
 cases hr:resFunc P (fun N ops=>resD P N ops) f with
 | none=>rw[hr] at h;cases h
 | some r=>rfl
theorem wpF_rS{L:List FuncId}{G:FuncId→List Value→Option Value}{LS:List FuncId}{S:Spec}{f:Nat}(he:(LS.elem f||L.elem f)=false)(h:(resFunc P (fun N ops=>resD P N ops) f).isSome=true){args:List Value}{H:CH}{Q:Value→CH→Prop}(k:WpR (tblS P L G LS S) (rF P f).body (fun t=>args.getD t undef) H (FunK (rF P f).res Q)):WpF (tblS P L G LS S) f args H Q:=
 wpF_in he (tbS_fn h) k
theorem tell_wp{T:Tbl}(hT : ∀B,TblOk P B T){f:FuncId}{args:List Value}{H:CH}{Q:Value→CH→Prop}(hc:callable P f=true)(h:WpF T f args H Q) : ∃v H',Q v H'∧∀B,CallC P B f args H v H':=by
 obtain⟨n,v,H',h1,h2⟩:=h
 exact⟨v,H',h2,fun B=>⟨hc,fun β w args' hS ha=>callsIn_wide.2 (calls_of_ev (hT B) h1 hS ha hc)⟩⟩
end Can
end Go.Proofs.YtnankhlanilbbaaGreat
end
section
namespace Go.Proofs.YtnankhlanilbbaaGreat
namespace Can
open Go Go.RowKit
set_option linter.unusedSimpArgs false
set_option linter.unusedVariables false
set_option maxRecDepth 4000
mutual
def sameN(ln:Bool):Nd→Nd→Bool
 | .mk k l x o ks, .mk k' l' x' o' ks'=>decide (k=k')&&decide (x=x')&&decide (o=o')&&decide (ks.length=ks'.length)&&(!ln||decide (l=l'))&&sameL ln ks ks'
def sameL(ln:Bool):List Nd→List Nd→Bool
 | n::ks,n'::ks'=>sameN ln n n'&&sameL ln ks ks'
 | _,_=>true
end
def LexF (args:List Value)(H:CH)(v:Value)(H':CH):Prop:=∀q c src,args= [.slice q src.length c]→SlAt 1 (CInt .u8) H q c (u8i src)→HExt H H'∧LexOut H H' v (lexT src)
def SP:Spec:=fun f args H v H'=>(f=10→∀(sl:Sl) (ts:List PT),args= [.slice sl.q sl.n sl.c]→SlAt 3 CTk H sl.q sl.c ts→sl.n=ts.length→ts.length≤4398046510976→PrQ2 H ts v H')∧(f=16→LexF args H v H')∧(f=9→∀(sl:Sl) (ts:List PT),args= [.slice sl.q sl.n sl.c]→SlAt 3 CTk H sl.q sl.c ts→sl.n=ts.length→ts.length≤4398046510976→PrQr H ts v H')∧(f=12→LexF args H v H')
noncomputable abbrev TL:Tbl:=tblS Tryz.prog LG GG [10,16,9,12] SP
theorem tl_ok{B:Nat}:TblOk Tryz.prog B TL:=tblS_ok GG_ok
theorem tok_inj{a b:PT}(h:tokV a=tokV b):a=b:=by
 cases a;cases b
 simp only[tokV,List.cons.injEq,Value.int.injEq,Value.string.injEq,true_and,and_true] at h
 obtain⟨rfl,rfl,h⟩:=h
 injection h with h
 injection h with h
 subst h;rfl
theorem slat_inj{H:CH}{q:Option Addr}{c:Nat}{ts us:List PT}(h:SlAt 3 CTk H q c ts)(g:SlAt 3 CTk H q c us)(hl:ts.length=us.length):ts=us:=by
 refine List.ext_getElem hl fun i h1 h2=> ?_
 obtain⟨l,o,os,e,kd,q1,o1,_,_,r1,_⟩:=tk_get h h1
 obtain⟨l',o',os',e',kd',q2,o2,_,_,r2,_⟩:=tk_get g h2
 rw[q1] at q2;cases q2
 rw[o1] at o2;cases o2
 exact tok_inj (r1.symm.trans r2)
theorem parse_wp2{H:CH}{sl:Sl}{ts:List PT}(h:SlAt 3 CTk H sl.q sl.c ts)(hn:sl.n=ts.length)(hlen:ts.length≤4398046510976):WpF TL 10 [.slice sl.q sl.n sl.c] H fun v H'=>PrQ2 H ts v H':=by
 obtain⟨v,H',h1,h2⟩:=parse_call h hn hlen
 refine wpF_tell rfl ⟨v,H',⟨fun _ sl' ts' he h' hn' _=> ?_,fun e=>(by cases e),fun e=>(by cases e),fun e=>by cases e⟩,h2⟩ fun v H' hS=>hS.1 rfl sl ts rfl h hn hlen
 cases sl;cases sl'
 cases he
 rw[slat_inj h' h (hn'.symm.trans hn)]
 exact h1
theorem parse_wp{H:CH}{sl:Sl}{ts:List PT}(h:SlAt 3 CTk H sl.q sl.c ts)(hn:sl.n=ts.length)(hlen:ts.length≤4398046510976):WpF TL 10 [.slice sl.q sl.n sl.c] H fun v H'=>PrQ H ts v H':=
 (parse_wp2 h hn hlen).mono fun v H' ⟨vs,h1,h2,_⟩=>⟨vs,h1,h2⟩
theorem u8_inj{H:CH}{q:Option Addr}{c:Nat}{a b:List UInt8}(h:SlAt 1 (CInt .u8) H q c (u8i a))(g:SlAt 1 (CInt .u8) H q c (u8i b))(hl:a.length=b.length):a=b:=by
 have h1:=src_ints h
 have h2:=src_ints g
 rw[u8i_len] at h1 h2
 rw[hl,h2] at h1
 injection h1 with h1
 injection h1 with h1 _
 rw[flat_ints,flat_ints] at h1
 refine List.ext_getElem hl fun i i1 i2=> ?_
 have:=congrArg (fun l=>l[i]?) h1
 simp only[u8i,List.getElem?_map,List.getElem?_eq_getElem i1,List.getElem?_eq_getElem i2,Option.map_some,Option.some.injEq,Value.int.injEq,true_and] at this
 exact UInt8.toNat.inj (by omega)
theorem lexf_wp{H:CH}{q:Option Addr}{c:Nat}{src:List UInt8}(h:SlAt 1 (CInt .u8) H q c (u8i src)):WpF TL 16 [.slice q src.length c] H fun v K=>HExt H K∧LexOut H K v (lexT src):=by
 obtain⟨v,K,h1,h2⟩:=tell_wp (T:=(tblG Tryz.prog LG GG)) (fun B=>tg_ok) (by kernel_rfl) (lex_wp H h)
 refine wpF_tell rfl ⟨v,K,⟨fun e=>(by cases e),fun _ q' c' src' he h'=> ?_,fun e=>(by cases e),fun e=>by cases e⟩,h2⟩ fun v K hS=>hS.2.1 rfl q c src rfl h
 simp only[List.cons.injEq,Value.slice.injEq,and_true] at he
 obtain⟨rfl,hl,rfl⟩:=he
 rw[u8_inj h' h hl.symm]
 exact h1
theorem rlexf_wp{H:CH}{q:Option Addr}{c:Nat}{src:List UInt8}(h:SlAt 1 (CInt .u8) H q c (u8i src)):WpF TL 12 [.slice q src.length c] H fun v K=>HExt H K∧LexOut H K v (lexT src):=by
 obtain⟨v,K,h1,h2⟩:=tell_wp (T:=(tblG Tryz.prog LG GG)) (fun B=>tg_ok) (by kernel_rfl) (rlex_wp H h)
 refine wpF_tell rfl ⟨v,K,⟨fun e=>(by cases e),fun e=>(by cases e),fun e=>(by cases e),fun _ q' c' src' he h'=> ?_⟩,h2⟩ fun v K hS=>hS.2.2.2 rfl q c src rfl h
 simp only[List.cons.injEq,Value.slice.injEq,and_true] at he
 obtain⟨rfl,hl,rfl⟩:=he
 rw[u8_inj h' h hl.symm]
 exact h1
theorem rparse_tl{H:CH}{sl:Sl}{ts:List PT}(h:SlAt 3 CTk H sl.q sl.c ts)(hn:sl.n=ts.length)(hlen:ts.length≤4398046510976):WpF TL 9 [.slice sl.q sl.n sl.c] H fun v H'=>PrQr H ts v H':=by
 obtain⟨v,H',h1,h2⟩:=tell_wp (T:=(tblG Tryz.prog LG GG)) (fun B=>tg_ok) (by kernel_rfl) (rparse_wp h hn hlen)
 refine wpF_tell rfl ⟨v,H',⟨fun e=>(by cases e),fun e=>(by cases e),fun _ sl' ts' he h' hn' _=> ?_,fun e=>by cases e⟩,h2⟩ fun v H' hS=>hS.2.2.1 rfl sl ts rfl h hn hlen
 cases sl;cases sl'
 cases he
 rw[slat_inj h' h (hn'.symm.trans hn)]
 exact h1
theorem tc_rS{D:TD}{Z:TP}{X:Pan}(hD:TDOk TL D){R:Value→Prop}{f:Nat}(he:TL.ext f=false)(h:(resFunc Tryz.prog (fun N ops=>resD Tryz.prog N ops) f).isSome=true){args:List AV}{self:Self}{Q:AV→List SV→Prop}(k:twR Z TL X D R (rF Tryz.prog f).body (fun t=>args.getD t .bad) (st0 self) (finT (rF Tryz.prog f).res self Q)):TC Z TL X f args self Q R:=
 tc_in hD he (tbS_fn h) k
def D0:TD:=⟨[]⟩
theorem d0_ok:TDOk TL D0:=⟨fun f hf=>by cases hf⟩
theorem sameL_drop{ln:Bool}{ks ks':List Nd}{i:Nat}{t t':Nd}(h:ks[i]? = some t)(h':ks'[i]? = some t'):sameL ln (ks.drop i) (ks'.drop i)=(sameN ln t t'&&sameL ln (ks.drop (i+1)) (ks'.drop (i+1))):=by
 obtain⟨hi,rfl⟩:=List.getElem?_eq_some_iff.1 h
 obtain⟨hi',rfl⟩:=List.getElem?_eq_some_iff.1 h'
 rw[List.drop_eq_getElem_cons hi,List.drop_eq_getElem_cons hi']
 rfl
section
variable {Z:TP} {X:Pan}
attribute [local irreducible] TC
theorem same_tc(ln:Bool) : ∀(N:Nat) (k:Nat) (l:Int) (x:List UInt8) (o:Nat) (ks:List Nd) (k':Nat) (l':Int) (x':List UInt8) (o':Nat) (ks':List Nd),nsz (.mk k l x o ks)<N→∀(Q:AV→List SV→Prop) (R:Value→Prop),Q (rS (.bool (sameN ln (.mk k l x o ks) (.mk k' l' x' o' ks')))) []→TC Z TL X 11 [ndA (.mk k l x o ks),ndA (.mk k' l' x' o' ks'),rS (.bool ln)] none Q R:=by
 intro N
 induction N with
 | zero=>intro k l x o ks k' l' x' o' ks' h;exact absurd h (Nat.not_lt_zero _)
 | succ N ih=>
 intro k l x o ks k' l' x' o' ks' hN Q R hQ
 refine tc_rS d0_ok (by rfl) (by kernel_rfl) ?_
 conv in (rF _ _).body=>reduce
 conv in (rF _ _).res=>reduce
 conv=>whnf
 have hf:sameN ln (.mk k l x o ks) (.mk k' l' x' o' ks')=(decide (k=k')&&decide (x=x')&&decide (o=o')&&decide (ks.length=ks'.length)&&(!ln||decide (l=l'))&&sameL ln ks ks'):=rfl
 rw[hf] at hQ
 generalize h1:((k:Int) != (k':Int))=b1
 cases b1
 case true=>
  have:k≠k':=by have h : ¬(k:Int)=(k':Int):=(by simpa using h1);omega
  rw[decide_eq_false this] at hQ
  conv=>whnf
  exact hQ
 have e1:k=k':=by have h:(k:Int)=(k':Int):=(by simpa using h1);omega
 conv=>whnf
 generalize h2:(!((pS x).toList==(pS x').toList))=b2
 have pse : ∀a b:List UInt8,((pS a).toList==(pS b).toList)=decide (a=b):=fun a b=>by
  have h : ∀l:List UInt8,(pS l).toList=l:=fun l=>by simp[ByteArray.toList_eq]
  rw[h,h]
  by_cases e:a=b
  ·simp[e]
  ·rw[decide_eq_false e];simpa using e
 rw[pse] at h2
 cases b2
 case true=>
  have:x≠x':=by simpa using h2
  rw[decide_eq_true e1,decide_eq_false this] at hQ
  conv=>whnf
  exact hQ
 have e2:x=x':=by simpa using h2
 conv=>whnf
 generalize h3:((o:Int) != (o':Int))=b3
 cases b3
 case true=>
  have:o≠o':=by have h : ¬(o:Int)=(o':Int):=(by simpa using h3);omega
  rw[decide_eq_true e1,decide_eq_true e2,decide_eq_false this] at hQ
  conv=>whnf
  exact hQ
 have e3:o=o':=by have h:(o:Int)=(o':Int):=(by simpa using h3);omega
 conv=>whnf
 intro hm1
 conv=>whnf
 intro hm2
 conv=>whnf
 generalize h4:(((ndsS ks).length:Int) != ((ndsS ks').length:Int))=b4
 rw[ndsS_len,ndsS_len] at h4
 cases b4
 case true=>
  have:ks.length≠ks'.length:=by have h : ¬(ks.length:Int)=(ks'.length:Int):=(by simpa using h4);omega
  rw[decide_eq_true e1,decide_eq_true e2,decide_eq_true e3,decide_eq_false this] at hQ
  conv=>whnf
  exact hQ
 have e4:ks.length=ks'.length:=by have h:(ks.length:Int)=(ks'.length:Int):=(by simpa using h4);omega
 rw[decide_eq_true e1,decide_eq_true e2,decide_eq_true e3,decide_eq_true e4] at hQ
 have hb:l≠l'∧ln=true∨(!ln||decide (l=l'))=true:=by
  cases ln
  ·exact .inr rfl
  ·by_cases h:l=l'
   ·exact .inr (by simp[h])
   ·exact .inl ⟨h,rfl⟩
 rcases hb with ⟨hb,rfl⟩ | hb
 ·rw[decide_eq_false hb] at hQ
  conv=>whnf
  generalize h5:(l != l')=b5
  cases b5
  case false=>exact absurd (by simpa using h5) hb
  conv=>whnf
  exact hQ
 rw[hb] at hQ
 simp only[Bool.true_and] at hQ
 obtain⟨SL,hSL⟩ : ∃SL:List Nd→List Nd→Bool,SL=sameL ln:=⟨_,rfl⟩
 obtain⟨SN,hSN⟩ : ∃SN:Nd→Nd→Bool,SN=sameN ln:=⟨_,rfl⟩
 have hnil : ∀ys,SL [] ys=true:=fun ys=>by rw[hSL];rfl
 have hdr : ∀(i:Nat) (t t':Nd),ks[i]? = some t→ks'[i]? = some t'→SL (ks.drop i) (ks'.drop i)=(SN t t'&&SL (ks.drop (i+1)) (ks'.drop (i+1))):=fun i t t' h h'=>by rw[hSL,hSN];exact sameL_drop h h'
 rw[←hSL] at hQ
 cases ln
 rotate_left
 conv=>whnf
 generalize h5:(l != l')=b5
 cases b5
 rotate_left
 exact absurd (by simpa using hb) (by simpa using h5)
 all_goals
  conv=>whnf
  refine loop_1 7 (fun m a s=>∃i:Nat,a=rS (.int .i64 (i:Nat))∧s=⟨0,[oN (nA k l x o ks),oN (nA k' l' x' o' ks')]⟩∧m+i=ks.length∧SL ks ks'=SL (ks.drop i) (ks'.drop i)) ks.length [] rfl ⟨0,rfl,rfl,rfl,rfl⟩ ?_
  rintro m a f s ⟨i,rfl,rfl,hm,hp⟩
  conv=>whnf
  intro hmx
  conv=>whnf
  refine ifT_c (fun hc=> ?_) fun hc=> ?_
  ·have hi:i<ks.length:=by simp[ndsS_len] at hc;omega
   obtain⟨t,ht⟩ : ∃t,ks[i]? = some t:=⟨_,List.getElem?_eq_getElem hi⟩
   obtain⟨t',ht'⟩ : ∃t,ks'[i]? = some t:=⟨_,List.getElem?_eq_getElem (by omega)⟩
   rw[hdr i t t' ht ht'] at hp
   have hlt:=nsz_lt (List.mem_of_getElem? ht) (k:=k) (l:=l) (x:=x) (o:=o)
   obtain⟨k1,l1,x1,o1,ks1⟩:=t
   obtain⟨k2,l2,x2,o2,ks2⟩:=t'
   conv=>whnf
   refine⟨rfl,i,_,rfl,ndsS_get ht,?_⟩
   conv=>whnf
   refine⟨rfl,i,_,rfl,ndsS_get ht',?_⟩
   conv=>whnf
   refine ih k1 l1 x1 o1 ks1 k2 l2 x2 o2 ks2 (by omega) _ _ ?_
   conv=>whnf
   rw[←hSN]
   generalize hsm:SN (Nd.mk k1 l1 x1 o1 ks1) (Nd.mk k2 l2 x2 o2 ks2)=bs at hp⊢
   cases bs
   ·rw[Bool.false_and] at hp
    rw[hp] at hQ
    conv=>whnf
    exact hQ
   ·rw[Bool.true_and] at hp
    rw[ndsS_len] at hmx
    conv=>whnf
    exact⟨m-1,[],by omega,rfl,i+1,congrArg (fun n=>rS (.int .i64 n)) (wr_inc' hi hmx),rfl,by omega,hp⟩
  ·have hi:i=ks.length:=by simp[ndsS_len] at hc;omega
   subst hi
   have hp:SL ks ks'=true:=by rw[hp,List.drop_length];exact hnil _
   rw[hp] at hQ
   conv=>whnf
   exact hQ
end
end Can
end Go.Proofs.YtnankhlanilbbaaGreat
end
