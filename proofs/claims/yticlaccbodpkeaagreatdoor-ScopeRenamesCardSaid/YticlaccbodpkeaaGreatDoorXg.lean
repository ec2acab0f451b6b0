/- Parse, the document: its rules, as runs over trees, along the grammar; where a token can't stand, on in bad mode. (Printed by tools/gendw.py.). Parse, the document: its rules, as runs over trees, along the grammar; where a token can't stand, on in bad mode. (Printed by tools/gendw.py.). Parse, the document: its rules, as runs over trees, along the grammar; where a token can't stand, on in bad mode. (Printed by tools/gendw.py.). Parse, the document: its rules, as runs over trees, along the grammar; where a token can't stand, on in bad mode. (Printed by tools/gendw.py.). Parse, the document: its rules, as runs over trees, along the grammar; where a token can't stand, on in bad mode. (Printed by tools/gendw.py.). Parse, the document: its rules, as runs over trees, along the grammar; where a token can't stand, on in bad mode. (Printed by tools/gendw.py.). Parse, the document: screeref05.Parse answers parseT. Parse, the document: screeref05.Parse in a memory. Parse, its laws: the sources of the example, where Lex is told. Parse, its laws: the table in which it is told what Parse does; Same of trees. Parse, its laws: Source; the example holds. Parse, its laws: the example holds. Parse, its laws: tokens that grow; Same of two trees. Rename: what is told, and what lies in the memory; kid. Rename: places, with. Parse: how many kids a node has: not more than half as many as there are tokens, and a few. No program in sight. Rename: rows of nodes that grow; what the functions lie in; eac -/
import Derived.Test.YticlaccbodpkeaaGreatDoorXf
import Derived.Test.YticlaccbodpkeaaGreatDoorXd
import Derived.Test.YticlaccbodpkeaaGreatDoorXa
import Derived.Test.YticlaccbodpkeaaGreatDoorXe
section
namespace Go.Proofs.YticlaccbodpkeaaGreatDoor
namespace Can
open Go Go.RowKit
set_option linter.unusedSimpArgs false
set_option linter.unusedVariables false
set_option maxRecDepth 4000
attribute [local irreducible] TC isT nowT begT placeN
abbrev gC(k l:Int)(x:ByteArray)(o:Int)(gs:List (List SV)):List CV:= [cS (.int .i64 k),cS (.int .i64 l),cS (.string x),cS (.int .i64 o), .s (.row 5 gs)]
abbrev nG(k l:Int)(x:ByteArray)(o:Int)(c:CV):List CV:= [cS (.int .i64 k),cS (.int .i64 l),cS (.string x),cS (.int .i64 o),c]
abbrev oRb(sl:Sl)(j:Nat)(b:Bool):Nat×TypeId×List CV:=(0,91,[cS (.slice sl.q sl.n sl.c),cS (.int .i64 (j:Nat)),cS (.bool b)])
theorem nd_cons{a:List SV}{l:List (List SV)}(h:NdG a)(hl : ∀g∈l,NdG g) : ∀g∈a::l,NdG g:=fun g hg=>by
 rcases List.mem_cons.1 hg with rfl | hg
 ·exact h
 ·exact hl g hg
theorem nd_app{a b:List (List SV)}(h : ∀g∈a,NdG g)(hl : ∀g∈b,NdG g) : ∀g∈a++b,NdG g:=fun g hg=>by
 rcases List.mem_append.1 hg with hg | hg
 ·exact h g hg
 ·exact hl g hg
structure DAll(Z:TP)(X:Pan)(ts:List PT)(sl:Sl)(g:Nat):Prop where
 expr:DG Z X ts sl g .expr 81 [.ptr 0 0]
 or_:DG Z X ts sl g .or 115 [.ptr 0 0]
 and_:DG Z X ts sl g .and 149 [.ptr 0 0]
 not_:DG Z X ts sl g .not 172 [.ptr 0 0]
 compare:DG Z X ts sl g .compare 186 [.ptr 0 0]
 arith:DG Z X ts sl g .arith 192 [.ptr 0 0]
 term:DG Z X ts sl g .term 199 [.ptr 0 0]
 factor:DG Z X ts sl g .factor 202 [.ptr 0 0]
 primary:DG Z X ts sl g .primary 121 [.ptr 0 0]
 atom:DG Z X ts sl g .atom 151 [.ptr 0 0]
 exprs:DG Z X ts sl g .exprs 85 [.ptr 0 0]
 one:DG Z X ts sl g .one 117 [.ptr 0 0]
 places:DG Z X ts sl g .places 84 [.ptr 0 0]
 simple:DG Z X ts sl g .simple 90 [.ptr 0 0]
 plain:DG Z X ts sl g .plain 123 [.ptr 0 0]
 value:DG Z X ts sl g .value 153 [.ptr 0 0]
 block:DG Z X ts sl g .block 83 [.ptr 0 0]
 stmt:DG Z X ts sl g .stmt 45 [.ptr 0 0]
 params : ∀(cl:List UInt8) (ln:Int),cl≠ []→DG Z X ts sl g (.params cl ln []) 87 [.ptr 0 0,rS (.int .i64 ln),rS (.string ⟨⟨cl⟩⟩)]
 row : ∀(cl:List UInt8),cl≠ []→DGn Z X ts sl g (.row cl []) 88 [.ptr 0 0,rS (.string ⟨⟨cl⟩⟩)]
 index : ∀(k:Nat) (l:Int) (x:List UInt8) (o:Nat) (ks:List Nd),DG Z X ts sl g (.index (.mk k l x o ks)) 152 [.ptr 0 0,ndA (.mk k l x o ks)]
 clauses:DGn Z X ts sl g (.clauses []) 187 [.ptr 0 0]
 list : ∀(ln:Int),DG Z X ts sl g (.list ln) 174 [.ptr 0 0,rS (.int .i64 ln)]
 braces : ∀(ln:Int),DG Z X ts sl g (.braces ln) 175 [.ptr 0 0,rS (.int .i64 ln)]
 names : ∀(k:Nat) (ln:Int),DG Z X ts sl g (.names k ln []) 120 [.ptr 0 0,rS (.int .i64 (k:Nat)),rS (.int .i64 ln)]
 maybe : ∀(k:Nat) (ln:Int) (all:Bool),DG Z X ts sl g (.maybe k ln all) 119 [.ptr 0 0,rS (.int .i64 (k:Nat)),rS (.int .i64 ln),rS (.bool all)]
 ifs : ∀(ln:Int),DG Z X ts sl g (.ifs ln) 80 [.ptr 0 0,rS (.int .i64 ln)]
 tries : ∀(ln:Int),DG Z X ts sl g (.tries ln) 89 [.ptr 0 0,rS (.int .i64 ln)]
set_option maxRecDepth 1000000 in
theorem dw_go{Pz:Prop}(hz:Pz:=by
 repeat' first
  | ((with_reducible refine tckd 79 ?_);first | (refine dhas_st C hG (by first | decide | exact cl_ne) (by omega) (fun hl hG=> ?_) (fun hG=> ?_)<;>(conv=>whnf)) | (refine dhas_tb C (by omega) ?_;(conv=>whnf)))
  | ((with_reducible refine tckd 44 ?_);first | (refine dnow_tc C (by omega) ?_;(conv=>whnf)))
  | ((with_reducible refine tckd 82 ?_);first | (refine dwant_st C hG (by first | decide | exact cl_ne) (by omega) (fun he=> ?_) (fun hl hG=> ?_)<;>(conv=>whnf)) | (refine dwant_kn C (by decide) (by omega) hb ?_;intro hl;(conv=>whnf)) | (refine dwant_tb C (by omega) ?_;(conv=>whnf)))
  | ((with_reducible refine tckd 114 ?_);first | (refine dis_st C hG (by first | decide | exact cl_ne) (by omega) (fun hb hl hG=> ?_) (fun hb hG=> ?_)<;>(conv=>whnf)) | (refine dis_stf C hG (by first | decide | exact cl_ne) (by omega) (fun hG=> ?_) (fun hG=> ?_)<;>(conv=>whnf)) | (refine dis_tb C (by omega) ?_;(conv=>whnf)))
  | ((with_reducible refine tckd 86 ?_);first | (refine dwantK_st C hG (by decide) (by omega) (fun he=> ?_) (fun hl hG=> ?_)<;>(conv=>whnf)) | (refine dwantKind_tb C (by omega) ?_;(conv=>whnf)))
  | ((with_reducible refine tckd 118 ?_);first | (refine dbegins_st C hG (by omega) (fun hG=> ?_) (fun hG=> ?_)<;>(conv=>whnf)) | (refine dbegins_tb C (by omega) ?_;(conv=>whnf)))
  | ((with_reducible refine tckd 116 ?_);first | (refine dkind_st C hG (by decide) (by omega) (fun hl hG=> ?_) (fun hG=> ?_)<;>(conv=>whnf)) | (refine dkind_tb C (by omega) ?_;(conv=>whnf)))
  | ((with_reducible refine tckd 193 ?_);first | (refine doperator_st C hG (by omega) (fun e he hel=> ?_) (fun hG=> ?_) (fun op1 j1 hj0 hj1 hG=> ?_)<;>(conv=>whnf)) | (refine doperator_tb C (by omega) ?_;(conv=>whnf)))
  | ((with_reducible refine tckd 154 ?_);first | (refine daugment_st C hG (by omega) (fun ha hl hG=> ?_) (fun hG=> ?_)<;>(conv=>whnf)) | (refine daugment_tb C (by omega) ?_;(conv=>whnf)))
  | ((with_reducible refine tckd 122 ?_);first | (refine dsingle_st hG (fun hG=> ?_) (fun hG=> ?_)<;>(conv=>whnf)) | (refine dsingle_any fun b=> ?_;cases b<;>(conv=>whnf)))
  | ((with_reducible refine tckd 150 ?_);first | (refine dplace_st hG (fun hG=> ?_) (fun hG=> ?_)<;>(conv=>whnf)) | (refine dplace_any (.mk hgb) _ _ _ _ _ rfl _ _ fun b=> ?_;cases b<;>(conv=>whnf)))
  | ((with_reducible refine tckd 81 ?_);first | (refine drul_st ihf.expr hG (by trivial) rfl (fun e he hel kb lb xb ob gb hgb=> ?_) (by omega) (fun n1 l1 x1 o1 ks1 j1 hp1 hj1 hG=> ?_)<;>(try simp only[NT.min] at hp1)<;>(conv=>whnf)) | (refine dtal_st ihf.expr hG (by trivial) rfl (fun e he hel kb lb xb ob gb hgb=> ?_) (by omega) (fun n1 l1 x1 o1 ks1 j1 hp1 hj1 hG=> ?_)<;>(try simp only[NT.min] at hp1)<;>(conv=>whnf)) | (refine expr_b C _ _ _ (by omega) ?_;intro kb lb xb ob gb hgb;(conv=>whnf)))
  | ((with_reducible refine tckd 115 ?_);first | (refine drul_st ihf.or_ hG (by trivial) rfl (fun e he hel kb lb xb ob gb hgb=> ?_) (by omega) (fun n1 l1 x1 o1 ks1 j1 hp1 hj1 hG=> ?_)<;>(try simp only[NT.min] at hp1)<;>(conv=>whnf)) | (refine dtal_st ihf.or_ hG (by trivial) rfl (fun e he hel kb lb xb ob gb hgb=> ?_) (by omega) (fun n1 l1 x1 o1 ks1 j1 hp1 hj1 hG=> ?_)<;>(try simp only[NT.min] at hp1)<;>(conv=>whnf)) | (refine or__b C _ _ _ (by omega) ?_;intro kb lb xb ob gb hgb;(conv=>whnf)))
  | ((with_reducible refine tckd 149 ?_);first | (refine drul_st ihf.and_ hG (by trivial) rfl (fun e he hel kb lb xb ob gb hgb=> ?_) (by omega) (fun n1 l1 x1 o1 ks1 j1 hp1 hj1 hG=> ?_)<;>(try simp only[NT.min] at hp1)<;>(conv=>whnf)) | (refine dtal_st ihf.and_ hG (by trivial) rfl (fun e he hel kb lb xb ob gb hgb=> ?_) (by omega) (fun n1 l1 x1 o1 ks1 j1 hp1 hj1 hG=> ?_)<;>(try simp only[NT.min] at hp1)<;>(conv=>whnf)) | (refine and__b C _ _ _ (by omega) ?_;intro kb lb xb ob gb hgb;(conv=>whnf)))
  | ((with_reducible refine tckd 172 ?_);first | (refine drul_st ihf.not_ hG (by trivial) rfl (fun e he hel kb lb xb ob gb hgb=> ?_) (by omega) (fun n1 l1 x1 o1 ks1 j1 hp1 hj1 hG=> ?_)<;>(try simp only[NT.min] at hp1)<;>(conv=>whnf)) | (refine dtal_st ihf.not_ hG (by trivial) rfl (fun e he hel kb lb xb ob gb hgb=> ?_) (by omega) (fun n1 l1 x1 o1 ks1 j1 hp1 hj1 hG=> ?_)<;>(try simp only[NT.min] at hp1)<;>(conv=>whnf)) | (refine not__b C _ _ _ (by omega) ?_;intro kb lb xb ob gb hgb;(conv=>whnf)))
  | ((with_reducible refine tckd 186 ?_);first | (refine drul_st ihf.compare hG (by trivial) rfl (fun e he hel kb lb xb ob gb hgb=> ?_) (by omega) (fun n1 l1 x1 o1 ks1 j1 hp1 hj1 hG=> ?_)<;>(try simp only[NT.min] at hp1)<;>(conv=>whnf)) | (refine dtal_st ihf.compare hG (by trivial) rfl (fun e he hel kb lb xb ob gb hgb=> ?_) (by omega) (fun n1 l1 x1 o1 ks1 j1 hp1 hj1 hG=> ?_)<;>(try simp only[NT.min] at hp1)<;>(conv=>whnf)) | (refine compare_b C _ _ _ (by omega) ?_;intro kb lb xb ob gb hgb;(conv=>whnf)))
  | ((with_reducible refine tckd 192 ?_);first | (refine drul_st ihf.arith hG (by trivial) rfl (fun e he hel kb lb xb ob gb hgb=> ?_) (by omega) (fun n1 l1 x1 o1 ks1 j1 hp1 hj1 hG=> ?_)<;>(try simp only[NT.min] at hp1)<;>(conv=>whnf)) | (refine dtal_st ihf.arith hG (by trivial) rfl (fun e he hel kb lb xb ob gb hgb=> ?_) (by omega) (fun n1 l1 x1 o1 ks1 j1 hp1 hj1 hG=> ?_)<;>(try simp only[NT.min] at hp1)<;>(conv=>whnf)) | (refine arith_b C _ _ _ (by omega) ?_;intro kb lb xb ob gb hgb;(conv=>whnf)))
  | ((with_reducible refine tckd 199 ?_);first | (refine drul_st ihf.term hG (by trivial) rfl (fun e he hel kb lb xb ob gb hgb=> ?_) (by omega) (fun n1 l1 x1 o1 ks1 j1 hp1 hj1 hG=> ?_)<;>(try simp only[NT.min] at hp1)<;>(conv=>whnf)) | (refine dtal_st ihf.term hG (by trivial) rfl (fun e he hel kb lb xb ob gb hgb=> ?_) (by omega) (fun n1 l1 x1 o1 ks1 j1 hp1 hj1 hG=> ?_)<;>(try simp only[NT.min] at hp1)<;>(conv=>whnf)) | (refine term_b C _ _ _ (by omega) ?_;intro kb lb xb ob gb hgb;(conv=>whnf)))
  | ((with_reducible refine tckd 202 ?_);first | (refine drul_st ihf.factor hG (by trivial) rfl (fun e he hel kb lb xb ob gb hgb=> ?_) (by omega) (fun n1 l1 x1 o1 ks1 j1 hp1 hj1 hG=> ?_)<;>(try simp only[NT.min] at hp1)<;>(conv=>whnf)) | (refine dtal_st ihf.factor hG (by trivial) rfl (fun e he hel kb lb xb ob gb hgb=> ?_) (by omega) (fun n1 l1 x1 o1 ks1 j1 hp1 hj1 hG=> ?_)<;>(try simp only[NT.min] at hp1)<;>(conv=>whnf)) | (refine factor_b C _ _ _ (by omega) ?_;intro kb lb xb ob gb hgb;(conv=>whnf)))
  | ((with_reducible refine tckd 121 ?_);first | (refine drul_st ihf.primary hG (by trivial) rfl (fun e he hel kb lb xb ob gb hgb=> ?_) (by omega) (fun n1 l1 x1 o1 ks1 j1 hp1 hj1 hG=> ?_)<;>(try simp only[NT.min] at hp1)<;>(conv=>whnf)) | (refine dtal_st ihf.primary hG (by trivial) rfl (fun e he hel kb lb xb ob gb hgb=> ?_) (by omega) (fun n1 l1 x1 o1 ks1 j1 hp1 hj1 hG=> ?_)<;>(try simp only[NT.min] at hp1)<;>(conv=>whnf)) | (refine primary_b C _ _ _ (by omega) ?_;intro kb lb xb ob gb hgb;(conv=>whnf)))
  | ((with_reducible refine tckd 151 ?_);first | (refine drul_st ihf.atom hG (by trivial) rfl (fun e he hel kb lb xb ob gb hgb=> ?_) (by omega) (fun n1 l1 x1 o1 ks1 j1 hp1 hj1 hG=> ?_)<;>(try simp only[NT.min] at hp1)<;>(conv=>whnf)) | (refine dtal_st ihf.atom hG (by trivial) rfl (fun e he hel kb lb xb ob gb hgb=> ?_) (by omega) (fun n1 l1 x1 o1 ks1 j1 hp1 hj1 hG=> ?_)<;>(try simp only[NT.min] at hp1)<;>(conv=>whnf)) | (refine atom_b C _ _ _ (by omega) ?_;intro kb lb xb ob gb hgb;(conv=>whnf)))
  | ((with_reducible refine tckd 85 ?_);first | (refine drul_st ihf.exprs hG (by trivial) rfl (fun e he hel kb lb xb ob gb hgb=> ?_) (by omega) (fun n1 l1 x1 o1 ks1 j1 hp1 hj1 hG=> ?_)<;>(try simp only[NT.min] at hp1)<;>(conv=>whnf)) | (refine dtal_st ihf.exprs hG (by trivial) rfl (fun e he hel kb lb xb ob gb hgb=> ?_) (by omega) (fun n1 l1 x1 o1 ks1 j1 hp1 hj1 hG=> ?_)<;>(try simp only[NT.min] at hp1)<;>(conv=>whnf)) | (refine exprs_b C _ _ _ (by omega) ?_;intro kb lb xb ob gb hgb;(conv=>whnf)))
  | ((with_reducible refine tckd 117 ?_);first | (refine drul_st ihf.one hG (by trivial) rfl (fun e he hel kb lb xb ob gb hgb=> ?_) (by omega) (fun n1 l1 x1 o1 ks1 j1 hp1 hj1 hG=> ?_)<;>(try simp only[NT.min] at hp1)<;>(conv=>whnf)) | (refine dtal_st ihf.one hG (by trivial) rfl (fun e he hel kb lb xb ob gb hgb=> ?_) (by omega) (fun n1 l1 x1 o1 ks1 j1 hp1 hj1 hG=> ?_)<;>(try simp only[NT.min] at hp1)<;>(conv=>whnf)))
  | ((with_reducible refine tckd 84 ?_);first | (refine drul_st ihf.places hG (by trivial) rfl (fun e he hel kb lb xb ob gb hgb=> ?_) (by omega) (fun n1 l1 x1 o1 ks1 j1 hp1 hj1 hG=> ?_)<;>(try simp only[NT.min] at hp1)<;>(conv=>whnf)) | (refine dtal_st ihf.places hG (by trivial) rfl (fun e he hel kb lb xb ob gb hgb=> ?_) (by omega) (fun n1 l1 x1 o1 ks1 j1 hp1 hj1 hG=> ?_)<;>(try simp only[NT.min] at hp1)<;>(conv=>whnf)))
  | ((with_reducible refine tckd 90 ?_);first | (refine drul_st ihf.simple hG (by trivial) rfl (fun e he hel kb lb xb ob gb hgb=> ?_) (by omega) (fun n1 l1 x1 o1 ks1 j1 hp1 hj1 hG=> ?_)<;>(try simp only[NT.min] at hp1)<;>(conv=>whnf)) | (refine dtal_st ihf.simple hG (by trivial) rfl (fun e he hel kb lb xb ob gb hgb=> ?_) (by omega) (fun n1 l1 x1 o1 ks1 j1 hp1 hj1 hG=> ?_)<;>(try simp only[NT.min] at hp1)<;>(conv=>whnf)) | (refine simple_b C _ _ _ (by omega) ?_;intro kb lb xb ob gb hgb;(conv=>whnf)))
  | ((with_reducible refine tckd 123 ?_);first | (refine drul_st ihf.plain hG (by trivial) rfl (fun e he hel kb lb xb ob gb hgb=> ?_) (by omega) (fun n1 l1 x1 o1 ks1 j1 hp1 hj1 hG=> ?_)<;>(try simp only[NT.min] at hp1)<;>(conv=>whnf)) | (refine dtal_st ihf.plain hG (by trivial) rfl (fun e he hel kb lb xb ob gb hgb=> ?_) (by omega) (fun n1 l1 x1 o1 ks1 j1 hp1 hj1 hG=> ?_)<;>(try simp only[NT.min] at hp1)<;>(conv=>whnf)) | (refine plain_b C _ _ _ (by omega) ?_;intro kb lb xb ob gb hgb;(conv=>whnf)))
  | ((with_reducible refine tckd 153 ?_);first | (refine drul_st ihf.value hG (by trivial) rfl (fun e he hel kb lb xb ob gb hgb=> ?_) (by omega) (fun n1 l1 x1 o1 ks1 j1 hp1 hj1 hG=> ?_)<;>(try simp only[NT.min] at hp1)<;>(conv=>whnf)) | (refine dtal_st ihf.value hG (by trivial) rfl (fun e he hel kb lb xb ob gb hgb=> ?_) (by omega) (fun n1 l1 x1 o1 ks1 j1 hp1 hj1 hG=> ?_)<;>(try simp only[NT.min] at hp1)<;>(conv=>whnf)))
  | ((with_reducible refine tckd 83 ?_);first | (refine drul_st ihf.block hG (by trivial) rfl (fun e he hel kb lb xb ob gb hgb=> ?_) (by omega) (fun n1 l1 x1 o1 ks1 j1 hp1 hj1 hG=> ?_)<;>(try simp only[NT.min] at hp1)<;>(conv=>whnf)) | (refine dtal_st ihf.block hG (by trivial) rfl (fun e he hel kb lb xb ob gb hgb=> ?_) (by omega) (fun n1 l1 x1 o1 ks1 j1 hp1 hj1 hG=> ?_)<;>(try simp only[NT.min] at hp1)<;>(conv=>whnf)) | (refine drul_st ihf2.block hG (by trivial) rfl (fun e he hel kb lb xb ob gb hgb=> ?_) (by omega) (fun n1 l1 x1 o1 ks1 j1 hp1 hj1 hG=> ?_)<;>(try simp only[NT.min] at hp1)<;>(conv=>whnf)) | (refine dtal_st ihf2.block hG (by trivial) rfl (fun e he hel kb lb xb ob gb hgb=> ?_) (by omega) (fun n1 l1 x1 o1 ks1 j1 hp1 hj1 hG=> ?_)<;>(try simp only[NT.min] at hp1)<;>(conv=>whnf)) | (refine block_b C _ _ _ (by omega) ?_;intro kb lb xb ob gb hgb;(conv=>whnf)))
  | ((with_reducible refine tckd 45 ?_);first | (refine drul_st ihf.stmt hG (by trivial) rfl (fun e he hel kb lb xb ob gb hgb=> ?_) (by omega) (fun n1 l1 x1 o1 ks1 j1 hp1 hj1 hG=> ?_)<;>(try simp only[NT.min] at hp1)<;>(conv=>whnf)) | (refine dtal_st ihf.stmt hG (by trivial) rfl (fun e he hel kb lb xb ob gb hgb=> ?_) (by omega) (fun n1 l1 x1 o1 ks1 j1 hp1 hj1 hG=> ?_)<;>(try simp only[NT.min] at hp1)<;>(conv=>whnf)))
  | ((with_reducible refine tckd 87 ?_);first | (refine drul_st (ihf.params _ _ (by decide)) hG (by trivial) rfl (fun e he hel kb lb xb ob gb hgb=> ?_) (by omega) (fun n1 l1 x1 o1 ks1 j1 hp1 hj1 hG=> ?_)<;>(try simp only[NT.min] at hp1)<;>(conv=>whnf)) | (refine dtal_st (ihf.params _ _ (by decide)) hG (by trivial) rfl (fun e he hel kb lb xb ob gb hgb=> ?_) (by omega) (fun n1 l1 x1 o1 ks1 j1 hp1 hj1 hG=> ?_)<;>(try simp only[NT.min] at hp1)<;>(conv=>whnf)) | (refine params_b C _ _ _ (by omega) ?_;intro kb lb xb ob gb hgb;(conv=>whnf)))
  | ((with_reducible refine tckd 88 ?_);first | (refine dlst_st (ihf.row _ (by decide)) hG (by trivial) rfl (fun e he hel gb hgb hgl=> ?_) (by omega) (fun l1 j1 hp1 hj1 hb1 hG=> ?_)<;>(try simp only[NT.acc,Option.getD_some,List.length_nil] at hb1)<;>(conv=>whnf)))
  | ((with_reducible refine tckd 152 ?_);first | (refine drul_st (ihf.index _ _ _ _ _) hG (by trivial) rfl (fun e he hel kb lb xb ob gb hgb=> ?_) (by omega) (fun n1 l1 x1 o1 ks1 j1 hp1 hj1 hG=> ?_)<;>(try simp only[NT.min] at hp1)<;>(conv=>whnf)) | (refine dtal_st (ihf.index _ _ _ _ _) hG (by trivial) rfl (fun e he hel kb lb xb ob gb hgb=> ?_) (by omega) (fun n1 l1 x1 o1 ks1 j1 hp1 hj1 hG=> ?_)<;>(try simp only[NT.min] at hp1)<;>(conv=>whnf)))
  | ((with_reducible refine tckd 187 ?_);first | (refine dlst_st ihf.clauses hG (by trivial) rfl (fun e he hel gb hgb hgl=> ?_) (by omega) (fun l1 j1 hp1 hj1 hb1 hG=> ?_)<;>(try simp only[NT.acc,Option.getD_some,List.length_nil] at hb1)<;>(conv=>whnf)))
  | ((with_reducible refine tckd 174 ?_);first | (refine drul_st (ihf.list _) hG (by trivial) rfl (fun e he hel kb lb xb ob gb hgb=> ?_) (by omega) (fun n1 l1 x1 o1 ks1 j1 hp1 hj1 hG=> ?_)<;>(try simp only[NT.min] at hp1)<;>(conv=>whnf)) | (refine dtal_st (ihf.list _) hG (by trivial) rfl (fun e he hel kb lb xb ob gb hgb=> ?_) (by omega) (fun n1 l1 x1 o1 ks1 j1 hp1 hj1 hG=> ?_)<;>(try simp only[NT.min] at hp1)<;>(conv=>whnf)))
  | ((with_reducible refine tckd 175 ?_);first | (refine drul_st (ihf.braces _) hG (by trivial) rfl (fun e he hel kb lb xb ob gb hgb=> ?_) (by omega) (fun n1 l1 x1 o1 ks1 j1 hp1 hj1 hG=> ?_)<;>(try simp only[NT.min] at hp1)<;>(conv=>whnf)) | (refine dtal_st (ihf.braces _) hG (by trivial) rfl (fun e he hel kb lb xb ob gb hgb=> ?_) (by omega) (fun n1 l1 x1 o1 ks1 j1 hp1 hj1 hG=> ?_)<;>(try simp only[NT.min] at hp1)<;>(conv=>whnf)))
  | ((with_reducible refine tckd 120 ?_);first | (refine drul_st (ihf.names _ _) hG (by trivial) rfl (fun e he hel kb lb xb ob gb hgb=> ?_) (by omega) (fun n1 l1 x1 o1 ks1 j1 hp1 hj1 hG=> ?_)<;>(try simp only[NT.min] at hp1)<;>(conv=>whnf)) | (refine dtal_st (ihf.names _ _) hG (by trivial) rfl (fun e he hel kb lb xb ob gb hgb=> ?_) (by omega) (fun n1 l1 x1 o1 ks1 j1 hp1 hj1 hG=> ?_)<;>(try simp only[NT.min] at hp1)<;>(conv=>whnf)))
  | ((with_reducible refine tckd 119 ?_);first | (refine drul_st (ihf.maybe _ _ _) hG (by trivial) rfl (fun e he hel kb lb xb ob gb hgb=> ?_) (by omega) (fun n1 l1 x1 o1 ks1 j1 hp1 hj1 hG=> ?_)<;>(try simp only[NT.min] at hp1)<;>(conv=>whnf)) | (refine dtal_st (ihf.maybe _ _ _) hG (by trivial) rfl (fun e he hel kb lb xb ob gb hgb=> ?_) (by omega) (fun n1 l1 x1 o1 ks1 j1 hp1 hj1 hG=> ?_)<;>(try simp only[NT.min] at hp1)<;>(conv=>whnf)))
  | ((with_reducible refine tckd 80 ?_);first | (refine drul_st (ihf.ifs _) hG (by trivial) rfl (fun e he hel kb lb xb ob gb hgb=> ?_) (by omega) (fun n1 l1 x1 o1 ks1 j1 hp1 hj1 hG=> ?_)<;>(try simp only[NT.min] at hp1)<;>(conv=>whnf)) | (refine dtal_st (ihf.ifs _) hG (by trivial) rfl (fun e he hel kb lb xb ob gb hgb=> ?_) (by omega) (fun n1 l1 x1 o1 ks1 j1 hp1 hj1 hG=> ?_)<;>(try simp only[NT.min] at hp1)<;>(conv=>whnf)))
  | ((with_reducible refine tckd 89 ?_);first | (refine drul_st (ihf.tries _) hG (by trivial) rfl (fun e he hel kb lb xb ob gb hgb=> ?_) (by omega) (fun n1 l1 x1 o1 ks1 j1 hp1 hj1 hG=> ?_)<;>(try simp only[NT.min] at hp1)<;>(conv=>whnf)) | (refine dtal_st (ihf.tries _) hG (by trivial) rfl (fun e he hel kb lb xb ob gb hgb=> ?_) (by omega) (fun n1 l1 x1 o1 ks1 j1 hp1 hj1 hG=> ?_)<;>(try simp only[NT.min] at hp1)<;>(conv=>whnf)))
  | (intro (hmx:_≤maxLen);(conv=>whnf))
  | exact⟨m,[],by omega,rfl, .inl ⟨_,_,_,_,_,_,rfl,by omega,by omega,hG⟩⟩
  | exact⟨m,[],by omega,rfl, .inr ⟨_,_,_,_,_,_,rfl,by omega,he,(by repeat' first | assumption | exact ndG_nds _ | exact ndG_nd _ | exact nd_nil | refine nd_cons ?_ ?_ | refine nd_app ?_ ?_ | refine .mk ?_)⟩⟩
  | exact⟨m,[2],by omega,rfl, .inl ⟨_,_,_,_,_,acc++ [.mk n1 l1 x1 o1 ks1],_,_,(by rw[ndsS_snoc];rfl),by omega,by omega,(by simp only[List.length_append,List.length_cons,List.length_nil];omega),hG⟩⟩
  | exact⟨m,[2],by omega,rfl, .inr ⟨_,_,_,_,_,_,_,_,rfl,by omega,he,(by repeat' first | assumption | exact ndG_nds _ | exact ndG_nd _ | exact nd_nil | refine nd_cons ?_ ?_ | refine nd_app ?_ ?_ | refine .mk ?_)⟩⟩
  | exact⟨m,[2],by omega,rfl, .inl ⟨_,_,_,accV_app rfl,rfl,by omega,by omega,(by simp only[List.length_append,List.length_cons,List.length_nil];omega),hG⟩⟩
  | exact⟨m,[2],by omega,rfl, .inr ⟨_,_,_,_,_,rfl,by omega,he,(by repeat' first | assumption | exact ndG_nds _ | exact ndG_nd _ | exact nd_nil | refine nd_cons ?_ ?_ | refine nd_app ?_ ?_ | refine .mk ?_)⟩⟩
  | exact⟨m,[2],by omega,rfl, .inl ⟨_,_,_,rfl,accV_app rfl,rfl,by omega,by omega,(by simp only[List.length_append,List.length_cons,List.length_nil];omega),hG⟩⟩
  | exact⟨m,[2],by omega,rfl, .inr ⟨_,_,rfl,rfl,by omega,he,(by repeat' first | assumption | exact ndG_nds _ | exact ndG_nd _ | exact nd_nil | refine nd_cons ?_ ?_ | refine nd_app ?_ ?_ | refine .mk ?_),(by first | omega | simp only[List.length_append,List.length_cons,List.length_nil,ndsS_len] at *;omega)⟩⟩
  | exact⟨m,[3],by omega,rfl, .inl ⟨_,_,_,rfl,accV_app rfl,rfl,by omega,by omega,(by simp only[List.length_append,List.length_cons,List.length_nil];omega),hG⟩⟩
  | exact⟨m,[3],by omega,rfl, .inr ⟨_,_,rfl,rfl,by omega,he,(by repeat' first | assumption | exact ndG_nds _ | exact ndG_nd _ | exact nd_nil | refine nd_cons ?_ ?_ | refine nd_app ?_ ?_ | refine .mk ?_),(by first | omega | simp only[List.length_append,List.length_cons,List.length_nil,ndsS_len] at *;omega)⟩⟩
  | exact⟨m,[3],by omega,rfl, .inl ⟨acc++ [.mk 43 (nowT ts j).line [] (op1+1) [.mk n1 l1 x1 o1 ks1]],_,(by rw[ndsS_snoc];rfl),by omega,by omega,(by simp only[List.length_append,List.length_cons,List.length_nil];omega),hG⟩⟩
  | exact⟨m,[3],by omega,rfl, .inr ⟨_,_,_,_,rfl,by omega,he,(by repeat' first | assumption | exact ndG_nds _ | exact ndG_nd _ | exact nd_nil | refine nd_cons ?_ ?_ | refine nd_app ?_ ?_ | refine .mk ?_)⟩⟩
  | (refine ifT_c (fun h=> ?_) (fun h=> ?_);(have:acc= []:=by cases acc;rfl;(simp[ndsS] at h<;>omega));subst this;(conv=>whnf);exact hQ _ _ hG (by omega);(have:acc.isEmpty=false:=by cases acc;(simp[ndsS] at h<;>omega);rfl);rw[this] at hG;(conv=>whnf);exact hQ _ _ hG (by omega))
  | exact⟨m,[2],by omega,rfl, .inl ⟨_,_,_,_,_,_,_,_,_,_,acc++ [_,_],_,(by rw[ndsS_app];rfl),by omega,by omega,(by simp only[List.length_append,List.length_cons,List.length_nil];omega),hG⟩⟩
  | exact⟨m,[2],by omega,rfl, .inr ⟨_,_,_,_,_,_,_,_,_,_,_,_,rfl,by omega,he,(by repeat' first | assumption | exact ndG_nds _ | exact ndG_nd _ | exact nd_nil | refine nd_cons ?_ ?_ | refine nd_app ?_ ?_ | refine .mk ?_)⟩⟩
  | exact⟨m,[2],by omega,rfl, .inl ⟨_,_,_,_,_,acc++ [.mk n1 l1 x1 o1 ks1],_,_,(by rw[ndsS_snoc];rfl),by omega,by omega,by simp,(by simp only[List.length_append,List.length_cons,List.length_nil];omega),hG⟩⟩
  | (refine⟨rfl,acc.length-1,_,wr_dec hne hmx,ndsS_get (last_get htl),?_⟩;(conv=>whnf))
  | exact⟨m,[2],by omega,rfl, .inl ⟨_,_,_,_,accV_app rfl,rfl,by omega,by omega,(by simp only[List.length_append,List.length_cons,List.length_nil] at *;omega),hG⟩⟩
  | exact⟨m,[2],by omega,rfl, .inr ⟨_,_,_,rfl,by omega,he,(by repeat' first | assumption | exact ndG_nds _ | exact ndG_nd _ | exact nd_nil | refine nd_cons ?_ ?_ | refine nd_app ?_ ?_ | refine .mk ?_)⟩⟩
  | (refine⟨rfl,0,_,rfl,rfl,?_⟩;(conv=>whnf))
  | exact⟨m,[4],by omega,rfl, .inl ⟨acc++ [Nd.mk 21 (nowT ts j).line [] 0 [Nd.mk n1 l1 x1 o1 ks1]],_,true,rfl,(by rw[ndsS_snoc];rfl),by omega,by omega,(by simp only[List.length_append,List.length_cons,List.length_nil];omega),(by simp only[List.length_append,List.length_cons,List.length_nil];omega), .inr ⟨rfl,hG⟩⟩⟩
  | exact⟨m,[6],by omega,rfl, .inl ⟨acc++ [_],_,false,rfl,(by rw[ndsS_snoc];rfl),by omega,by omega,(by simp only[List.length_append,List.length_cons,List.length_nil];omega),(by simp only[List.length_append,List.length_cons,List.length_nil];omega), .inl ⟨rfl,hG⟩⟩⟩
  | exact⟨m,[4],by omega,rfl, .inr ⟨_,_,_,_,rfl,rfl,by omega,he,(by repeat' first | assumption | exact ndG_nds _ | exact ndG_nd _ | exact nd_nil | refine nd_cons ?_ ?_ | refine nd_app ?_ ?_ | refine .mk ?_)⟩⟩
  | exact⟨m,[6],by omega,rfl, .inr ⟨_,_,_,_,rfl,rfl,by omega,he,(by repeat' first | assumption | exact ndG_nds _ | exact ndG_nd _ | exact nd_nil | refine nd_cons ?_ ?_ | refine nd_app ?_ ?_ | refine .mk ?_)⟩⟩
  | (refine len1_c hG (by simp[ndsS_len];try omega) (fun hG=> ?_) (fun hG=> ?_)<;>(conv=>whnf))
  | (refine ifT_c (fun h=>by exfalso;simp[ndsS_len] at h;first | omega | (subst h;simp at hb1)) (fun h=> ?_);(conv=>whnf))
  | exact⟨m,[2],by omega,rfl, .inl ⟨_,_,_,_,_,_,_,_,_,_,acc++ [.mk n1 l1 x1 o1 ks1],_,_,(by rw[ndsS_snoc];rfl),by omega,by omega,(by simp only[List.length_append,List.length_cons,List.length_nil];omega),gd_pb1.2 hG⟩⟩
  | exact hQ _ _ (gd_pk1 hG) (by omega)
  | exact⟨m,[2],by omega,rfl, .inr ⟨_,_,_,_,_,_,_,_,_,_,_,_,_,rfl,by omega,he,(by repeat' first | assumption | exact ndG_nds _ | exact ndG_nd _ | exact nd_nil | refine nd_cons ?_ ?_ | refine nd_app ?_ ?_ | refine .mk ?_)⟩⟩
  | (refine⟨rfl,?_⟩;(conv=>whnf))
  | (refine⟨bdA (by simp only[List.length_append,List.length_cons,List.length_nil,ndsS_len];omega),?_⟩;(conv=>whnf))
  | exact hQ _ _ hG (by omega)
  | exact hE _ he (by omega) _ _ _ _ _ (by repeat' first | assumption | exact ndG_nds _ | exact ndG_nd _ | exact nd_nil | refine nd_cons ?_ ?_ | refine nd_app ?_ ?_ | refine .mk ?_)
  | exact hE _ hG (by omega) _ _ _ _ _ (by repeat' first | assumption | exact ndG_nds _ | exact ndG_nd _ | exact nd_nil | refine nd_cons ?_ ?_ | refine nd_app ?_ ?_ | refine .mk ?_)
  | exact hE _ he (by omega) _ (by repeat' first | assumption | exact ndG_nds _ | exact ndG_nd _ | exact nd_nil | refine nd_cons ?_ ?_ | refine nd_app ?_ ?_ | refine .mk ?_) (by first | omega | simp only[List.length_append,List.length_cons,List.length_nil,ndsS_len] at *;omega)
  | (refine tc_self (drd_wr C hl) ?_)
  | (refine ifT_c (fun h=>by exfalso;simp at h;omega) (fun h=> ?_);(conv=>whnf))
  | (refine ifT_c (fun h=> ?_) (fun h=>by exfalso;simp at h;omega);(conv=>whnf))
  | (refine q_eq ?_ ?_ (hQ _ _ hG (by omega))<;>first | rfl | exact sn_agg rfl | exact sn_row rfl | exact drd_wr C hl)
  | (have hG:=(hP2 _ _).1 hG;rcases f with _ | f;exact hG.elim;have ihf2:=ih f (by omega);simp only[gr] at hG)
  | (generalize hbb:((gs.length:Int)==Int.ofNat 1)=bb;cases bb<;>(conv=>whnf))
  | ((with_reducible refine ifT_c ?_ ?_)<;>intro hif<;>(conv=>whnf))
  | (refine loop_0 (fun m s=>(∃k l x o ks j,s=⟨0,[oRb sl j false,oN nzC,oN (nA k l x o ks)]⟩∧j≤ts.length∧m≤f∧Gd E P (gr ts m (.orL (.mk k l x o ks)) j))∨(∃k l x o gs j,s=⟨0,[oRb sl j true,oN nzC,oN (gC k l x o gs)]⟩∧j≤ts.length∧E j∧(∀g∈gs,NdG g))) f [] rfl (.inl ⟨_,_,_,_,_,_,rfl,by omega,Nat.le_refl _,hG⟩) ?_;rintro m f1 s (⟨k,l,x,o,ks,j,rfl,hj,hmf,hG⟩ | ⟨k,l,x,o,gs,j,rfl,hj,he,hgb⟩);rcases m with _ | m;exact hG.elim;have ihf:=ih m (by omega);simp only[gr] at hG;(conv=>whnf);rotate_left;(conv=>whnf))
  | (refine loop_0 (fun m s=>(∃k l x o ks j,s=⟨0,[oRb sl j false,oN nzC,oN (nA k l x o ks)]⟩∧j≤ts.length∧m≤f∧Gd E P (gr ts m (.andL (.mk k l x o ks)) j))∨(∃k l x o gs j,s=⟨0,[oRb sl j true,oN nzC,oN (gC k l x o gs)]⟩∧j≤ts.length∧E j∧(∀g∈gs,NdG g))) f [] rfl (.inl ⟨_,_,_,_,_,_,rfl,by omega,Nat.le_refl _,hG⟩) ?_;rintro m f1 s (⟨k,l,x,o,ks,j,rfl,hj,hmf,hG⟩ | ⟨k,l,x,o,gs,j,rfl,hj,he,hgb⟩);rcases m with _ | m;exact hG.elim;have ihf:=ih m (by omega);simp only[gr] at hG;(conv=>whnf);rotate_left;(conv=>whnf))
  | (refine loop_0 (fun m s=>(∃k l x o ks j,s=⟨0,[oRb sl j false,oN nzC,oN (nA k l x o ks)]⟩∧j≤ts.length∧m≤f∧Gd E P (gr ts m (.arithL (.mk k l x o ks)) j))∨(∃k l x o gs j,s=⟨0,[oRb sl j true,oN nzC,oN (gC k l x o gs)]⟩∧j≤ts.length∧E j∧(∀g∈gs,NdG g))) f [] rfl (.inl ⟨_,_,_,_,_,_,rfl,by omega,Nat.le_refl _,hG⟩) ?_;rintro m f1 s (⟨k,l,x,o,ks,j,rfl,hj,hmf,hG⟩ | ⟨k,l,x,o,gs,j,rfl,hj,he,hgb⟩);rcases m with _ | m;exact hG.elim;have ihf:=ih m (by omega);simp only[gr] at hG;(conv=>whnf);rotate_left;(conv=>whnf))
  | (refine loop_0 (fun m s=>(∃k l x o ks j,s=⟨0,[oRb sl j false,oN nzC,oN (nA k l x o ks)]⟩∧j≤ts.length∧m≤f∧Gd E P (gr ts m (.termL (.mk k l x o ks)) j))∨(∃k l x o gs j,s=⟨0,[oRb sl j true,oN nzC,oN (gC k l x o gs)]⟩∧j≤ts.length∧E j∧(∀g∈gs,NdG g))) f [] rfl (.inl ⟨_,_,_,_,_,_,rfl,by omega,Nat.le_refl _,hG⟩) ?_;rintro m f1 s (⟨k,l,x,o,ks,j,rfl,hj,hmf,hG⟩ | ⟨k,l,x,o,gs,j,rfl,hj,he,hgb⟩);rcases m with _ | m;exact hG.elim;have ihf:=ih m (by omega);simp only[gr] at hG;(conv=>whnf);rotate_left;(conv=>whnf))
  | (refine loop_0 (fun m s=>(∃k l x o ks j,s=⟨0,[oRb sl j false,oN nzC,oN (nA k l x o ks)]⟩∧j≤ts.length∧m≤f∧Gd E P (gr ts m (.primL (.mk k l x o ks)) j))∨(∃k l x o gs j,s=⟨0,[oRb sl j true,oN nzC,oN (gC k l x o gs)]⟩∧j≤ts.length∧E j∧(∀g∈gs,NdG g))) f [] rfl (.inl ⟨_,_,_,_,_,_,rfl,by omega,Nat.le_refl _,hG⟩) ?_;rintro m f1 s (⟨k,l,x,o,ks,j,rfl,hj,hmf,hG⟩ | ⟨k,l,x,o,gs,j,rfl,hj,he,hgb⟩);rcases m with _ | m;exact hG.elim;have ihf:=ih m (by omega);simp only[gr] at hG;(conv=>whnf);rotate_left;(conv=>whnf))
  | (refine loop_0 (fun m s=>(∃k l x o ks acc j ln,s=⟨1,[oRb sl j false,oN nzC,oN (nA k l x o ks),oN (nC 52 ln [] 0 (.own 0 26 5 (ndsS acc)))]⟩∧j≤ts.length∧m≤f∧2*acc.length≤j+1∧Gd E P (gr ts m (.exprsL ln acc) j))∨(∃k l x o gx j gs ln,s=⟨1,[oRb sl j true,oN nzC,oN (gC k l x o gx),oN (nG 52 ln ⟨⟨[]⟩⟩ 0 (.own 0 26 5 gs))]⟩∧j≤ts.length∧E j∧(∀g∈gs,NdG g))) f [0] rfl (.inl ⟨_,_,_,_,_,[.mk n1 l1 x1 o1 ks1],_,_,rfl,by omega,Nat.le_refl _,by simp only[List.length_cons,List.length_nil];omega,hG⟩) ?_;rintro m f1 s (⟨k,l,x,o,ks,acc,j,ln,rfl,hj,hmf,hb2,hG⟩ | ⟨k,l,x,o,c,j,gs,ln,rfl,hj,he,hgb⟩);rcases m with _ | m;exact hG.elim;have ihf:=ih m (by omega);simp only[gr] at hG;(conv=>whnf);rotate_left;(conv=>whnf))
  | (refine loop_0 (fun m s=>(∃k l x o ks acc j ln,s=⟨1,[oRb sl j false,oN nzC,oN (nA k l x o ks),oN (nC 52 ln [] 0 (.own 0 26 5 (ndsS acc)))]⟩∧j≤ts.length∧m≤f∧2*acc.length≤j+1∧Gd E P (gr ts m (.placesL ln acc) j))∨(∃k l x o gx j gs ln,s=⟨1,[oRb sl j true,oN nzC,oN (gC k l x o gx),oN (nG 52 ln ⟨⟨[]⟩⟩ 0 (.own 0 26 5 gs))]⟩∧j≤ts.length∧E j∧(∀g∈gs,NdG g))) f [0] rfl (.inl ⟨_,_,_,_,_,[.mk n1 l1 x1 o1 ks1],_,_,rfl,by omega,Nat.le_refl _,by simp only[List.length_cons,List.length_nil];omega,hG⟩) ?_;rintro m f1 s (⟨k,l,x,o,ks,acc,j,ln,rfl,hj,hmf,hb2,hG⟩ | ⟨k,l,x,o,c,j,gs,ln,rfl,hj,he,hgb⟩);rcases m with _ | m;exact hG.elim;have ihf:=ih m (by omega);simp only[gr] at hG;simp only[ite_andP] at hG;(conv=>whnf);rotate_left;(conv=>whnf))
  | (refine loop_0 (fun m s=>(∃acc j c,AccV acc c∧s=⟨1,[oRb sl j false,oN nzC,oN (nC k ln [] 0 c)]⟩∧j≤ts.length∧m≤f+1∧2*acc.length≤j∧Gd E P (gr ts m (.names k ln acc) j))∨(∃k j gs ln x0,s=⟨1,[oRb sl j true,oN nzC,oN (nG k ln x0 0 (.own 0 26 5 gs))]⟩∧j≤ts.length∧E j∧(∀g∈gs,NdG g))) (f+1) [99] rfl (.inl ⟨[],_,_, .inl ⟨rfl,rfl⟩,rfl,by omega,Nat.le_refl _,by simp only[List.length_nil];omega,hG0⟩) ?_;rintro m f1 s (⟨acc,j,c,hA,rfl,hj,hmf,hb2,hG⟩ | ⟨k0,j,gs,ln0,x0,rfl,hj,he,hgb⟩);rcases m with _ | m;exact hG.elim;have ihf:=ih m (by omega);simp only[gr] at hG;rcases hA with ⟨rfl,rfl⟩ | ⟨hne,rfl⟩;(conv=>whnf);rotate_left;(conv=>whnf);rotate_left;(conv=>whnf))
  | (refine loop_0 (fun m s=>(∃acc j c,AccV acc c∧s=⟨1,[oRb sl j false,oN nzC,oN (nC 23 ln [] 0 c)]⟩∧j≤ts.length∧m≤f+1∧2*acc.length≤j∧Gd E P (gr ts m (.params cl ln acc) j))∨(∃k j gs ln x0,s=⟨1,[oRb sl j true,oN nzC,oN (nG k ln x0 0 (.own 0 26 5 gs))]⟩∧j≤ts.length∧E j∧(∀g∈gs,NdG g))) (f+1) [99] rfl (.inl ⟨[],_,_, .inl ⟨rfl,rfl⟩,rfl,by omega,Nat.le_refl _,by simp only[List.length_nil];omega,hG0⟩) ?_;rintro m f1 s (⟨acc,j,c,hA,rfl,hj,hmf,hb2,hG⟩ | ⟨k0,j,gs,ln0,x0,rfl,hj,he,hgb⟩);rcases m with _ | m;exact hG.elim;have ihf:=ih m (by omega);simp only[gr] at hG;rcases hA with ⟨rfl,rfl⟩ | ⟨hne,rfl⟩;(conv=>whnf);rotate_left;(conv=>whnf);rotate_left;(conv=>whnf))
  | (refine loop_1 5 (fun m a s=>(∃acc j c,a= .r (.c c)∧AccV acc c∧s=⟨1,[oRb sl j false]⟩∧j≤ts.length∧m≤f+1∧2*acc.length≤j∧Gd E P (gr ts m (.row cl acc) j))∨(∃j gs,a= .r (.c (.own 0 26 5 gs))∧s=⟨1,[oRb sl j true]⟩∧j≤ts.length∧E j∧(∀g∈gs,NdG g)∧2*gs.length≤ts.length+2)) (f+1) [99] rfl (.inl ⟨[],_,_,rfl, .inl ⟨rfl,rfl⟩,rfl,by omega,Nat.le_refl _,by simp only[List.length_nil];omega,hG0⟩) ?_;rintro m a f1 s (⟨acc,j,c,rfl,hA,rfl,hj,hmf,hb2,hG⟩ | ⟨j,gs,rfl,rfl,hj,he,hgb,hgl⟩);rcases m with _ | m;exact hG.elim;have ihf:=ih m (by omega);simp only[gr] at hG;rcases hA with ⟨rfl,rfl⟩ | ⟨hne,rfl⟩;(conv=>whnf);rotate_left;(conv=>whnf);rotate_left;(conv=>whnf))
  | (refine loop_1 3 (fun m a s=>(∃acc j c,a= .r (.c c)∧AccV acc c∧s=⟨1,[oRb sl j false]⟩∧j≤ts.length∧m≤f+1∧2*acc.length≤j∧Gd E P (gr ts m (.clauses acc) j))∨(∃j gs,a= .r (.c (.own 0 26 5 gs))∧s=⟨1,[oRb sl j true]⟩∧j≤ts.length∧E j∧(∀g∈gs,NdG g)∧2*gs.length≤ts.length+2)) (f+1) [99] rfl (.inl ⟨[],_,_,rfl, .inl ⟨rfl,rfl⟩,rfl,by omega,Nat.le_refl _,by simp only[List.length_nil];omega,hG0⟩) ?_;rintro m a f1 s (⟨acc,j,c,rfl,hA,rfl,hj,hmf,hb2,hG⟩ | ⟨j,gs,rfl,rfl,hj,he,hgb,hgl⟩);rcases m with _ | m;exact hG.elim;have ihf:=ih m (by omega);simp only[gr] at hG;rcases hA with ⟨rfl,rfl⟩ | ⟨hne,rfl⟩;(conv=>whnf);rotate_left;(conv=>whnf);rotate_left;(conv=>whnf))
  | (refine loop_0 (fun m s=>(∃acc j,s=⟨1,[oRb sl j false,oN nzC,oN (nA n1 l1 x1 o1 ks1),oN (nC 42 l1 [] 0 (.own 0 26 5 (ndS (.mk n1 l1 x1 o1 ks1)::ndsS acc)))]⟩∧j≤ts.length∧m≤f∧2*acc.length+1≤j∧Gd E P (gr ts m (.cmpL (.mk n1 l1 x1 o1 ks1) acc) j))∨(∃j gs ln x0,s=⟨1,[oRb sl j true,oN nzC,oN (nA n1 l1 x1 o1 ks1),oN (nG 42 ln x0 0 (.own 0 26 5 gs))]⟩∧j≤ts.length∧E j∧(∀g∈gs,NdG g))) f [0] rfl (.inl ⟨[],_,rfl,by omega,Nat.le_refl _,by simp only[List.length_nil];omega,hG⟩) ?_;rintro m f1 s (⟨acc,j,rfl,hj,hmf,hb2,hG⟩ | ⟨j,gs,ln0,x0,rfl,hj,he,hgb⟩);rcases m with _ | m;exact hG.elim;have ihf:=ih m (by omega);simp only[gr] at hG;(conv=>whnf);rotate_left;(conv=>whnf))
  | (refine loop_0 (fun m s=>(∃ke le xe oe kse kv lv xv ov ksv acc j,s=⟨1,[oRb sl j false,oN nzC,oN (nA ke le xe oe kse),oN (nA kv lv xv ov ksv),oN (nC 54 ln [] 0 (.own 0 26 5 (ndsS acc)))]⟩∧j≤ts.length∧m≤f∧2*acc.length≤j+1∧Gd E P (gr ts m (.dictL ln acc) j))∨(∃ke le xe oe ce kv lv xv ov cv j gs,s=⟨1,[oRb sl j true,oN nzC,oN (gC ke le xe oe ce),oN (gC kv lv xv ov cv),oN (nG 54 ln ⟨⟨[]⟩⟩ 0 (.own 0 26 5 gs))]⟩∧j≤ts.length∧E j∧(∀g∈gs,NdG g))) f [0] rfl (.inl ⟨_,_,_,_,_,_,_,_,_,_,[_,_],_,rfl,by omega,Nat.le_refl _,by simp only[List.length_cons,List.length_nil];omega,hG⟩) ?_;rintro m f1 s (⟨ke,le,xe,oe,kse,kv,lv,xv,ov,ksv,acc,j,rfl,hj,hmf,hb2,hG⟩ | ⟨ke,le,xe,oe,ce,kv,lv,xv,ov,cv,j,gs,rfl,hj,he,hgb⟩);rcases m with _ | m;exact hG.elim;have ihf:=ih m (by omega);simp only[gr] at hG;(conv=>whnf);rotate_left;(conv=>whnf))
  | (refine loop_0 (fun m s=>(∃k l x o ks acc j ln,s=⟨1,[oRb sl j false,oN nzC,oN (nA k l x o ks),oN (nC 3 ln [] 0 (.own 0 26 5 (ndsS acc)))]⟩∧j≤ts.length∧m≤f∧acc≠ []∧2*acc.length≤j+1∧Gd E P (gr ts m (.asgL ln acc) j))∨(∃k l x o gx j gs ln,s=⟨1,[oRb sl j true,oN nzC,oN (gC k l x o gx),oN (nG 3 ln ⟨⟨[]⟩⟩ 0 (.own 0 26 5 gs))]⟩∧j≤ts.length∧E j∧(∀g∈gs,NdG g))) f [0] rfl (.inl ⟨_,_,_,_,_,[.mk n1 l1 x1 o1 ks1],_,_,rfl,by omega,Nat.le_refl _,by simp,by simp only[List.length_cons,List.length_nil];omega,hG⟩) ?_;rintro m f1 s (⟨k,l,x,o,ks,acc,j,ln,rfl,hj,hmf,hne,hb2,hG⟩ | ⟨k,l,x,o,c,j,gs,ln,rfl,hj,he,hgb⟩);rcases m with _ | m;exact hG.elim;have ihf:=ih m (by omega);obtain⟨⟨k2,l2,x2,o2,ks2⟩,htl⟩:=last_ne hne;simp only[gr,htl] at hG;(conv=>whnf);rotate_left;(conv=>whnf))
  | (refine loop_0 (fun m s=>(∃acc j c ln,AccV acc c∧s=⟨1,[oRb sl j false,oN nzC,oN (nC 1 ln [] 0 c)]⟩∧j≤ts.length∧m≤f∧2*acc.length≤j∧Gd E P (gr ts m (.blockL acc) j))∨(∃j gs ln,s=⟨1,[oRb sl j true,oN nzC,oN (nG 1 ln ⟨⟨[]⟩⟩ 0 (.own 0 26 5 gs))]⟩∧j≤ts.length∧E j∧(∀g∈gs,NdG g))) f [99] rfl (.inl ⟨[],_,_,_, .inl ⟨rfl,rfl⟩,rfl,by omega,Nat.le_refl _,by simp only[List.length_nil];omega,hG⟩) ?_;rintro m f1 s (⟨acc,j,c,ln,hA,rfl,hj,hmf,hb2,hG⟩ | ⟨j,gs,ln0,rfl,hj,he,hgb⟩);rcases m with _ | m;exact hG.elim;have ihf:=ih m (by omega);simp only[gr] at hG;rcases hA with ⟨rfl,rfl⟩ | ⟨hne,rfl⟩;rotate_left;rcases acc with _ | ⟨⟨k2,l2,x2,o2,ks2⟩,acc⟩;exact absurd rfl hne;(try simp only[List.length_cons,List.length_nil] at hb2);(conv=>whnf);rotate_left;(try simp only[List.length_cons,List.length_nil] at hb2);(conv=>whnf);rotate_left;(conv=>whnf))
  | (obtain⟨P2,hP2⟩ : ∃P2:List Nd→Nat→Prop,∀acc j,P2 acc j↔Gd E P (gr ts f (.triesF ln acc) j):=⟨_,fun _ _=>Iff.rfl⟩;have hG:Gd E P2 (gr ts f (.triesL [.mk n1 l1 x1 o1 ks1]) j1):=(gd_pb.1 hG).mono (fun _ h=>h) fun l j h=>(hP2 l j).2 h;refine loop_1 6 (fun m a s=>(∃acc j b,a=rS (.bool b)∧s=⟨1,[oRb sl j false,oN nzC,oN (nC 15 ln [] 0 (.own 0 26 5 (ndsS acc)))]⟩∧j≤ts.length∧m≤f∧1≤acc.length∧2*acc.length≤j+1∧((b=false∧Gd E P2 (gr ts m (.triesL acc) j))∨(b=true∧P2 acc j)))∨(∃j gs b ln,a=rS (.bool b)∧s=⟨1,[oRb sl j true,oN nzC,oN (nG 15 ln ⟨⟨[]⟩⟩ 0 (.own 0 26 5 gs))]⟩∧j≤ts.length∧E j∧(∀g∈gs,NdG g))) f [0] rfl (.inl ⟨[.mk n1 l1 x1 o1 ks1],_,false,rfl,rfl,by omega,Nat.le_refl _,Nat.le_refl _,by simp only[List.length_cons,List.length_nil];omega, .inl ⟨rfl,hG⟩⟩) ?_;rintro m a f1 s (⟨acc,j,b,rfl,rfl,hj,hmf,hb1,hb2,⟨rfl,hG⟩ | ⟨rfl,hG⟩⟩ | ⟨j,gs,b,ln0,rfl,rfl,hj,he,hgb⟩);rcases m with _ | m;exact hG.elim;have ihf:=ih m (by omega);simp only[gr] at hG;(conv=>whnf);rotate_left;have hG:=(hP2 _ _).1 hG;rcases f with _ | f;exact hG.elim;simp only[gr] at hG;have ihf:=ih f (by omega);(conv=>whnf);rotate_left;(conv=>whnf))
  | (refine loop_0 (fun m s=>(∃km lm xm om ksm kl ll xl ol ksl acc j ln,s=⟨1,[oRb sl j false,oN (nA k l x o ks),oN nzC,oN (nA km lm xm om ksm),oN (nA kl ll xl ol ksl),oN (nC 52 ln [] 0 (.own 0 26 5 (ndsS acc)))]⟩∧j≤ts.length∧m≤f∧2*acc.length≤j+1∧Gd E P (pb1 (gr ts m (.exprsL ln acc) j) fun t j2=>pk1 (nd 46 l [.mk k l x o ks,t]) j2))∨(∃km lm xm om cm kl ll xl ol cl j gs ln,s=⟨1,[oRb sl j true,oN (nA k l x o ks),oN nzC,oN (gC km lm xm om cm),oN (gC kl ll xl ol cl),oN (nG 52 ln ⟨⟨[]⟩⟩ 0 (.own 0 26 5 gs))]⟩∧j≤ts.length∧E j∧(∀g∈gs,NdG g))) f [0] rfl (.inl ⟨_,_,_,_,[],_,_,_,_,_,[.mk n1 l1 x1 o1 ks1],_,_,rfl,by omega,Nat.le_refl _,by simp only[List.length_cons,List.length_nil];omega,hG⟩) ?_;rintro m f1 s (⟨km,lm,xm,om,ksm,kl,ll,xl,ol,ksl,acc,j,ln,rfl,hj,hmf,hb2,hG⟩ | ⟨km,lm,xm,om,cm,kl,ll,xl,ol,cl,j,gs,ln,rfl,hj,he,hgb⟩);have hG:=gd_pb1.1 hG;rcases m with _ | m;exact hG.elim;have ihf:=ih m (by omega);simp only[gr] at hG;(conv=>whnf);rotate_left;(conv=>whnf))
  | (refine loop_once [] rfl ?_;intro f0;(conv=>whnf))):Pz:=hz
end Can
end Go.Proofs.YticlaccbodpkeaaGreatDoor
end
section
namespace Go.Proofs.YticlaccbodpkeaaGreatDoor
namespace Can
open Go Go.RowKit
set_option linter.unusedSimpArgs false
set_option linter.unusedVariables false
set_option maxRecDepth 4000
attribute [local irreducible] TC isT nowT begT placeN
section
variable {Z:TP} {X:Pan} {ts:List PT} {sl:Sl} {f:Nat}
set_option maxHeartbeats 8000000 in
theorem dw_expr(C:DCtx Z ts sl)(ih : ∀g,g≤f→DAll Z X ts sl g):DG Z X ts sl (f+1) .expr 81 [.ptr 0 0]:=by
 intro i Q R E P hi hG hE hQ
 have ihf:=ih f (Nat.le_refl f)
 have hln:=C.len
 have hG0:=hG
 simp only[gr] at hG
 refine tc_rG dtd_ok (by rfl) (by kernel_rfl) ?_
 conv in (rF _ _).body=>reduce
 conv in (rF _ _).res=>reduce
 conv=>whnf
 exact dw_go
set_option maxHeartbeats 8000000 in
theorem dw_or(C:DCtx Z ts sl)(ih : ∀g,g≤f→DAll Z X ts sl g):DG Z X ts sl (f+1) .or 115 [.ptr 0 0]:=by
 intro i Q R E P hi hG hE hQ
 have ihf:=ih f (Nat.le_refl f)
 have hln:=C.len
 have hG0:=hG
 simp only[gr] at hG
 refine tc_rG dtd_ok (by rfl) (by kernel_rfl) ?_
 conv in (rF _ _).body=>reduce
 conv in (rF _ _).res=>reduce
 conv=>whnf
 exact dw_go
set_option maxHeartbeats 8000000 in
theorem dw_not(C:DCtx Z ts sl)(ih : ∀g,g≤f→DAll Z X ts sl g):DG Z X ts sl (f+1) .not 172 [.ptr 0 0]:=by
 intro i Q R E P hi hG hE hQ
 have ihf:=ih f (Nat.le_refl f)
 have hln:=C.len
 have hG0:=hG
 simp only[gr] at hG
 refine tc_rG dtd_ok (by rfl) (by kernel_rfl) ?_
 conv in (rF _ _).body=>reduce
 conv in (rF _ _).res=>reduce
 conv=>whnf
 exact dw_go
set_option maxHeartbeats 8000000 in
theorem dw_one(C:DCtx Z ts sl)(ih : ∀g,g≤f→DAll Z X ts sl g):DG Z X ts sl (f+1) .one 117 [.ptr 0 0]:=by
 intro i Q R E P hi hG hE hQ
 have ihf:=ih f (Nat.le_refl f)
 have hln:=C.len
 have hG0:=hG
 simp only[gr] at hG
 refine tc_rG dtd_ok (by rfl) (by kernel_rfl) ?_
 conv in (rF _ _).body=>reduce
 conv in (rF _ _).res=>reduce
 conv=>whnf
 exact dw_go
set_option maxHeartbeats 8000000 in
theorem dw_simple(C:DCtx Z ts sl)(ih : ∀g,g≤f→DAll Z X ts sl g):DG Z X ts sl (f+1) .simple 90 [.ptr 0 0]:=by
 intro i Q R E P hi hG hE hQ
 have ihf:=ih f (Nat.le_refl f)
 have hln:=C.len
 have hG0:=hG
 simp only[gr] at hG
 refine tc_rG dtd_ok (by rfl) (by kernel_rfl) ?_
 conv in (rF _ _).body=>reduce
 conv in (rF _ _).res=>reduce
 conv=>whnf
 exact dw_go
set_option maxHeartbeats 8000000 in
theorem dw_value(C:DCtx Z ts sl)(ih : ∀g,g≤f→DAll Z X ts sl g):DG Z X ts sl (f+1) .value 153 [.ptr 0 0]:=by
 intro i Q R E P hi hG hE hQ
 have ihf:=ih f (Nat.le_refl f)
 have hln:=C.len
 have hG0:=hG
 simp only[gr] at hG
 refine tc_rG dtd_ok (by rfl) (by kernel_rfl) ?_
 conv in (rF _ _).body=>reduce
 conv in (rF _ _).res=>reduce
 conv=>whnf
 exact dw_go
set_option maxHeartbeats 8000000 in
theorem dw_maybe(C:DCtx Z ts sl)(ih : ∀g,g≤f→DAll Z X ts sl g) : ∀(k:Nat) (ln:Int) (all:Bool),DG Z X ts sl (f+1) (.maybe k ln all) 119 [.ptr 0 0,rS (.int .i64 (k:Nat)),rS (.int .i64 ln),rS (.bool all)]:=by
 intro k ln all i Q R E P hi hG hE hQ
 have ihf:=ih f (Nat.le_refl f)
 have hln:=C.len
 simp only[gr] at hG
 cases all
 all_goals simp only[Bool.false_eq_true,if_false,if_true] at hG
 all_goals
  refine tc_rG dtd_ok (by rfl) (by kernel_rfl) ?_
  conv in (rF _ _).body=>reduce
  conv in (rF _ _).res=>reduce
  conv=>whnf
  exact dw_go
set_option maxHeartbeats 8000000 in
theorem dw_tries(C:DCtx Z ts sl)(ih : ∀g,g≤f→DAll Z X ts sl g) : ∀(ln:Int),DG Z X ts sl (f+1) (.tries ln) 89 [.ptr 0 0,rS (.int .i64 ln)]:=by
 intro ln i Q R E P hi hG hE hQ
 have ihf:=ih f (Nat.le_refl f)
 have hln:=C.len
 have hG0:=hG
 simp only[gr] at hG
 refine tc_rG dtd_ok (by rfl) (by kernel_rfl) ?_
 conv in (rF _ _).body=>reduce
 conv in (rF _ _).res=>reduce
 conv=>whnf
 exact dw_go
end
end Can
end Go.Proofs.YticlaccbodpkeaaGreatDoor
end
section
namespace Go.Proofs.YticlaccbodpkeaaGreatDoor
namespace Can
open Go Go.RowKit
set_option linter.unusedSimpArgs false
set_option linter.unusedVariables false
set_option maxRecDepth 4000
attribute [local irreducible] TC isT nowT begT placeN
section
variable {Z:TP} {X:Pan} {ts:List PT} {sl:Sl} {f:Nat}
set_option maxHeartbeats 8000000 in
theorem dw_and(C:DCtx Z ts sl)(ih : ∀g,g≤f→DAll Z X ts sl g):DG Z X ts sl (f+1) .and 149 [.ptr 0 0]:=by
 intro i Q R E P hi hG hE hQ
 have ihf:=ih f (Nat.le_refl f)
 have hln:=C.len
 have hG0:=hG
 simp only[gr] at hG
 refine tc_rG dtd_ok (by rfl) (by kernel_rfl) ?_
 conv in (rF _ _).body=>reduce
 conv in (rF _ _).res=>reduce
 conv=>whnf
 exact dw_go
set_option maxHeartbeats 8000000 in
theorem dw_factor(C:DCtx Z ts sl)(ih : ∀g,g≤f→DAll Z X ts sl g):DG Z X ts sl (f+1) .factor 202 [.ptr 0 0]:=by
 intro i Q R E P hi hG hE hQ
 have ihf:=ih f (Nat.le_refl f)
 have hln:=C.len
 have hG0:=hG
 simp only[gr] at hG
 refine tc_rG dtd_ok (by rfl) (by kernel_rfl) ?_
 conv in (rF _ _).body=>reduce
 conv in (rF _ _).res=>reduce
 conv=>whnf
 exact dw_go
set_option maxHeartbeats 8000000 in
theorem dw_atom(C:DCtx Z ts sl)(ih : ∀g,g≤f→DAll Z X ts sl g):DG Z X ts sl (f+1) .atom 151 [.ptr 0 0]:=by
 intro i Q R E P hi hG hE hQ
 have ihf:=ih f (Nat.le_refl f)
 have hln:=C.len
 simp only[gr] at hG
 refine tc_rG dtd_ok (by rfl) (by kernel_rfl) ?_
 conv in (rF _ _).body=>reduce
 conv in (rF _ _).res=>reduce
 conv=>whnf
 refine dnow_tc C (by omega) ?_
 obtain⟨t,ht⟩ : ∃t,nowT ts i=t:=⟨_,rfl⟩
 have hlk:(nowT ts i).kind≠0→i<ts.length:=kd_lt
 rw[ht] at hG hlk⊢
 obtain⟨kd,lt,xt⟩:=t
 by_cases hk:4≤kd∧kd≤7
 ·have hl:i<ts.length:=hlk (by show kd≠0;omega)
  rw[if_pos hk] at hG
  obtain rfl | rfl | rfl | rfl:kd=4∨kd=5∨kd=6∨kd=7:=by omega
  all_goals
   (conv=>whnf)
   refine dleaf_tc hk.1 hk.2 ?_
   (conv=>whnf)
   repeat (refine⟨rfl,?_⟩;(conv=>whnf))
   exact q_eq rfl (drd_wr C hl) (hQ _ _ hG (by omega))
 ·rw[if_neg hk] at hG
  (conv=>whnf)
  exact dw_go
set_option maxHeartbeats 8000000 in
theorem dw_stmt(C:DCtx Z ts sl)(ih : ∀g,g≤f→DAll Z X ts sl g):DG Z X ts sl (f+1) .stmt 45 [.ptr 0 0]:=by
 intro i Q R E P hi hG hE hQ
 have ihf:=ih f (Nat.le_refl f)
 have hln:=C.len
 have hG0:=hG
 simp only[gr] at hG
 refine tc_rG dtd_ok (by rfl) (by kernel_rfl) ?_
 conv in (rF _ _).body=>reduce
 conv in (rF _ _).res=>reduce
 conv=>whnf
 exact dw_go
set_option maxHeartbeats 8000000 in
theorem dw_params(C:DCtx Z ts sl)(ih : ∀g,g≤f→DAll Z X ts sl g) : ∀(cl:List UInt8) (ln:Int),cl≠ []→DG Z X ts sl (f+1) (.params cl ln []) 87 [.ptr 0 0,rS (.int .i64 ln),rS (.string ⟨⟨cl⟩⟩)]:=by
 intro cl ln cl_ne i Q R E P hi hG hE hQ
 have ihf:=ih f (Nat.le_refl f)
 have hln:=C.len
 have hG0:=hG
 simp only[gr] at hG
 refine tc_rG dtd_ok (by rfl) (by kernel_rfl) ?_
 conv in (rF _ _).body=>reduce
 conv in (rF _ _).res=>reduce
 conv=>whnf
 exact dw_go
set_option maxHeartbeats 8000000 in
theorem dw_names(C:DCtx Z ts sl)(ih : ∀g,g≤f→DAll Z X ts sl g) : ∀(k:Nat) (ln:Int),DG Z X ts sl (f+1) (.names k ln []) 120 [.ptr 0 0,rS (.int .i64 (k:Nat)),rS (.int .i64 ln)]:=by
 intro k ln i Q R E P hi hG hE hQ
 have ihf:=ih f (Nat.le_refl f)
 have hln:=C.len
 have hG0:=hG
 simp only[gr] at hG
 refine tc_rG dtd_ok (by rfl) (by kernel_rfl) ?_
 conv in (rF _ _).body=>reduce
 conv in (rF _ _).res=>reduce
 conv=>whnf
 exact dw_go
end
end Can
end Go.Proofs.YticlaccbodpkeaaGreatDoor
end
section
namespace Go.Proofs.YticlaccbodpkeaaGreatDoor
namespace Can
open Go Go.RowKit
set_option linter.unusedSimpArgs false
set_option linter.unusedVariables false
set_option maxRecDepth 4000
attribute [local irreducible] TC isT nowT begT placeN
section
variable {Z:TP} {X:Pan} {ts:List PT} {sl:Sl} {f:Nat}
set_option maxHeartbeats 8000000 in
theorem dw_compare(C:DCtx Z ts sl)(ih : ∀g,g≤f→DAll Z X ts sl g):DG Z X ts sl (f+1) .compare 186 [.ptr 0 0]:=by
 intro i Q R E P hi hG hE hQ
 have ihf:=ih f (Nat.le_refl f)
 have hln:=C.len
 have hG0:=hG
 simp only[gr] at hG
 refine tc_rG dtd_ok (by rfl) (by kernel_rfl) ?_
 conv in (rF _ _).body=>reduce
 conv in (rF _ _).res=>reduce
 conv=>whnf
 exact dw_go
set_option maxHeartbeats 8000000 in
theorem dw_arith(C:DCtx Z ts sl)(ih : ∀g,g≤f→DAll Z X ts sl g):DG Z X ts sl (f+1) .arith 192 [.ptr 0 0]:=by
 intro i Q R E P hi hG hE hQ
 have ihf:=ih f (Nat.le_refl f)
 have hln:=C.len
 have hG0:=hG
 simp only[gr] at hG
 refine tc_rG dtd_ok (by rfl) (by kernel_rfl) ?_
 conv in (rF _ _).body=>reduce
 conv in (rF _ _).res=>reduce
 conv=>whnf
 exact dw_go
set_option maxHeartbeats 8000000 in
theorem dw_term(C:DCtx Z ts sl)(ih : ∀g,g≤f→DAll Z X ts sl g):DG Z X ts sl (f+1) .term 199 [.ptr 0 0]:=by
 intro i Q R E P hi hG hE hQ
 have ihf:=ih f (Nat.le_refl f)
 have hln:=C.len
 have hG0:=hG
 simp only[gr] at hG
 refine tc_rG dtd_ok (by rfl) (by kernel_rfl) ?_
 conv in (rF _ _).body=>reduce
 conv in (rF _ _).res=>reduce
 conv=>whnf
 exact dw_go
set_option maxHeartbeats 8000000 in
theorem dw_exprs(C:DCtx Z ts sl)(ih : ∀g,g≤f→DAll Z X ts sl g):DG Z X ts sl (f+1) .exprs 85 [.ptr 0 0]:=by
 intro i Q R E P hi hG hE hQ
 have ihf:=ih f (Nat.le_refl f)
 have hln:=C.len
 have hG0:=hG
 simp only[gr] at hG
 refine tc_rG dtd_ok (by rfl) (by kernel_rfl) ?_
 conv in (rF _ _).body=>reduce
 conv in (rF _ _).res=>reduce
 conv=>whnf
 exact dw_go
set_option maxHeartbeats 8000000 in
theorem dw_row(C:DCtx Z ts sl)(ih : ∀g,g≤f→DAll Z X ts sl g) : ∀(cl:List UInt8),cl≠ []→DGn Z X ts sl (f+1) (.row cl []) 88 [.ptr 0 0,rS (.string ⟨⟨cl⟩⟩)]:=by
 intro cl cl_ne i Q R E P hi hG hE hQ
 have ihf:=ih f (Nat.le_refl f)
 have hln:=C.len
 have hG0:=hG
 simp only[gr] at hG
 refine tc_rG dtd_ok (by rfl) (by kernel_rfl) ?_
 conv in (rF _ _).body=>reduce
 conv in (rF _ _).res=>reduce
 conv=>whnf
 exact dw_go
set_option maxHeartbeats 8000000 in
theorem dw_index(C:DCtx Z ts sl)(ih : ∀g,g≤f→DAll Z X ts sl g) : ∀(k:Nat) (l:Int) (x:List UInt8) (o:Nat) (ks:List Nd),DG Z X ts sl (f+1) (.index (.mk k l x o ks)) 152 [.ptr 0 0,ndA (.mk k l x o ks)]:=by
 intro k l x o ks i Q R E P hi hG hE hQ
 have ihf:=ih f (Nat.le_refl f)
 have hln:=C.len
 have hG0:=hG
 simp only[gr] at hG
 refine tc_rG dtd_ok (by rfl) (by kernel_rfl) ?_
 conv in (rF _ _).body=>reduce
 conv in (rF _ _).res=>reduce
 conv=>whnf
 exact dw_go
set_option maxHeartbeats 8000000 in
theorem dw_braces(C:DCtx Z ts sl)(ih : ∀g,g≤f→DAll Z X ts sl g) : ∀(ln:Int),DG Z X ts sl (f+1) (.braces ln) 175 [.ptr 0 0,rS (.int .i64 ln)]:=by
 intro ln i Q R E P hi hG hE hQ
 have ihf:=ih f (Nat.le_refl f)
 have hln:=C.len
 have hG0:=hG
 simp only[gr] at hG
 refine tc_rG dtd_ok (by rfl) (by kernel_rfl) ?_
 conv in (rF _ _).body=>reduce
 conv in (rF _ _).res=>reduce
 conv=>whnf
 exact dw_go
end
end Can
end Go.Proofs.YticlaccbodpkeaaGreatDoor
end
section
namespace Go.Proofs.YticlaccbodpkeaaGreatDoor
namespace Can
open Go Go.RowKit
set_option linter.unusedSimpArgs false
set_option linter.unusedVariables false
set_option maxRecDepth 4000
attribute [local irreducible] TC isT nowT begT placeN
section
variable {Z:TP} {X:Pan} {ts:List PT} {sl:Sl} {f:Nat}
set_option maxHeartbeats 8000000 in
theorem dw_primary(C:DCtx Z ts sl)(ih : ∀g,g≤f→DAll Z X ts sl g):DG Z X ts sl (f+1) .primary 121 [.ptr 0 0]:=by
 intro i Q R E P hi hG hE hQ
 have ihf:=ih f (Nat.le_refl f)
 have hln:=C.len
 have hG0:=hG
 simp only[gr] at hG
 refine tc_rG dtd_ok (by rfl) (by kernel_rfl) ?_
 conv in (rF _ _).body=>reduce
 conv in (rF _ _).res=>reduce
 conv=>whnf
 exact dw_go
set_option maxHeartbeats 8000000 in
theorem dw_places(C:DCtx Z ts sl)(ih : ∀g,g≤f→DAll Z X ts sl g):DG Z X ts sl (f+1) .places 84 [.ptr 0 0]:=by
 intro i Q R E P hi hG hE hQ
 have ihf:=ih f (Nat.le_refl f)
 have hln:=C.len
 have hG0:=hG
 simp only[gr] at hG
 refine tc_rG dtd_ok (by rfl) (by kernel_rfl) ?_
 conv in (rF _ _).body=>reduce
 conv in (rF _ _).res=>reduce
 conv=>whnf
 exact dw_go
set_option maxHeartbeats 8000000 in
theorem dw_plain(C:DCtx Z ts sl)(ih : ∀g,g≤f→DAll Z X ts sl g):DG Z X ts sl (f+1) .plain 123 [.ptr 0 0]:=by
 intro i Q R E P hi hG hE hQ
 have ihf:=ih f (Nat.le_refl f)
 have hln:=C.len
 have hG0:=hG
 simp only[gr] at hG
 refine tc_rG dtd_ok (by rfl) (by kernel_rfl) ?_
 conv in (rF _ _).body=>reduce
 conv in (rF _ _).res=>reduce
 conv=>whnf
 exact dw_go
set_option maxHeartbeats 8000000 in
theorem dw_block(C:DCtx Z ts sl)(ih : ∀g,g≤f→DAll Z X ts sl g):DG Z X ts sl (f+1) .block 83 [.ptr 0 0]:=by
 intro i Q R E P hi hG hE hQ
 have ihf:=ih f (Nat.le_refl f)
 have hln:=C.len
 have hG0:=hG
 simp only[gr] at hG
 refine tc_rG dtd_ok (by rfl) (by kernel_rfl) ?_
 conv in (rF _ _).body=>reduce
 conv in (rF _ _).res=>reduce
 conv=>whnf
 exact dw_go
set_option maxHeartbeats 8000000 in
theorem dw_clauses(C:DCtx Z ts sl)(ih : ∀g,g≤f→DAll Z X ts sl g):DGn Z X ts sl (f+1) (.clauses []) 187 [.ptr 0 0]:=by
 intro i Q R E P hi hG hE hQ
 have ihf:=ih f (Nat.le_refl f)
 have hln:=C.len
 have hG0:=hG
 simp only[gr] at hG
 refine tc_rG dtd_ok (by rfl) (by kernel_rfl) ?_
 conv in (rF _ _).body=>reduce
 conv in (rF _ _).res=>reduce
 conv=>whnf
 exact dw_go
set_option maxHeartbeats 8000000 in
theorem dw_list(C:DCtx Z ts sl)(ih : ∀g,g≤f→DAll Z X ts sl g) : ∀(ln:Int),DG Z X ts sl (f+1) (.list ln) 174 [.ptr 0 0,rS (.int .i64 ln)]:=by
 intro ln i Q R E P hi hG hE hQ
 have ihf:=ih f (Nat.le_refl f)
 have hln:=C.len
 have hG0:=hG
 simp only[gr] at hG
 refine tc_rG dtd_ok (by rfl) (by kernel_rfl) ?_
 conv in (rF _ _).body=>reduce
 conv in (rF _ _).res=>reduce
 conv=>whnf
 exact dw_go
set_option maxHeartbeats 8000000 in
theorem dw_ifs(C:DCtx Z ts sl)(ih : ∀g,g≤f→DAll Z X ts sl g) : ∀(ln:Int),DG Z X ts sl (f+1) (.ifs ln) 80 [.ptr 0 0,rS (.int .i64 ln)]:=by
 intro ln i Q R E P hi hG hE hQ
 have ihf:=ih f (Nat.le_refl f)
 have hln:=C.len
 have hG0:=hG
 simp only[gr] at hG
 refine tc_rG dtd_ok (by rfl) (by kernel_rfl) ?_
 conv in (rF _ _).body=>reduce
 conv in (rF _ _).res=>reduce
 conv=>whnf
 exact dw_go
end
end Can
end Go.Proofs.YticlaccbodpkeaaGreatDoor
end
section
namespace Go.Proofs.YticlaccbodpkeaaGreatDoor
namespace Can
open Go Go.RowKit
set_option linter.unusedSimpArgs false
set_option linter.unusedVariables false
set_option maxRecDepth 4000
attribute [local irreducible] TC isT nowT begT placeN
section
variable {Z:TP} {X:Pan} {ts:List PT} {sl:Sl} {f:Nat}
theorem dall0:DAll Z X ts sl 0:=by
 constructor
 all_goals (intros;intro i Q R E P hi hG hE hQ;exact hG.elim)
theorem dalls(C:DCtx Z ts sl)(ih : ∀g,g≤f→DAll Z X ts sl g):DAll Z X ts sl (f+1):=⟨dw_expr C ih,dw_or C ih,dw_and C ih,dw_not C ih,dw_compare C ih,dw_arith C ih,dw_term C ih,dw_factor C ih,dw_primary C ih,dw_atom C ih,dw_exprs C ih,dw_one C ih,dw_places C ih,dw_simple C ih,dw_plain C ih,dw_value C ih,dw_block C ih,dw_stmt C ih,dw_params C ih,dw_row C ih,dw_index C ih,dw_clauses C ih,dw_list C ih,dw_braces C ih,dw_names C ih,dw_maybe C ih,dw_ifs C ih,dw_tries C ih⟩
theorem dall(C:DCtx Z ts sl) : ∀f,DAll Z X ts sl f:=by
 intro f
 induction f using Nat.strongRecOn with
 | _ f ih=>
   cases f with
   | zero=>exact dall0
   | succ f=>exact dalls C fun g hg=>ih g (by omega)
end
end Can
end Go.Proofs.YticlaccbodpkeaaGreatDoor
end
section
namespace Go.Proofs.YticlaccbodpkeaaGreatDoor
namespace Can
open Go Go.RowKit
set_option linter.unusedSimpArgs false
set_option linter.unusedVariables false
set_option maxRecDepth 4000
attribute [local irreducible] TC isT nowT begT placeN
abbrev ndRV(n:Nd):RV:= .agg [cS (.int .i64 (n.kind:Nat)),cS (.int .i64 n.line),cS (.string ⟨⟨n.text⟩⟩),cS (.int .i64 (n.op:Nat)), .s (.row 5 (ndsS n.kids))]
theorem dparse_tc{Z:TP}{X:Pan}{ts:List PT}{sl:Sl}{R:Value→Prop}{Q:AV→List SV→Prop}(C:DCtx Z ts sl)(hQ : ∀n l e,parseT ts=(n,l,e)→Q (.tup [ndRV n, .c (cS (.int .i64 l)), .c (cS (.int .i64 e))]) []):TC Z (tblG Tryz.prog LG GG) X 23 [rS (.slice sl.q sl.n sl.c)] none Q R:=by
 have hG:=top_gd (ts:=ts)
 have hlen:=C.len
 obtain⟨E,hE⟩ : ∃E:Nat→Prop,E=fun e=>gr ts (ts.length*64+100) (.top []) 0=some (.error e):=⟨_,rfl⟩
 obtain⟨P,hP⟩ : ∃P:List Nd→Nat→Prop,P=fun l j=>gr ts (ts.length*64+100) (.top []) 0=some (.ok (l,j))∧htL l+1≤64*ts.length+2:=⟨_,rfl⟩
 rw[←hE,←hP] at hG
 refine tc_rG dtd_ok (by rfl) (by kernel_rfl) ?_
 conv in (rF _ _).body=>reduce
 conv in (rF _ _).res=>reduce
 conv=>whnf
 refine dnow_tc C (Nat.zero_le _) ?_
 conv=>whnf
 refine loop_0 (fun m s=>(∃acc j c,AccV acc c∧s=⟨1,[oN nzC,oRb sl j false,oN (nC 1 (hdLine (nowT ts 0).line acc) [] 0 c)]⟩∧j≤ts.length∧m≤ts.length*64+100∧2*acc.length≤j∧Gd E P (gr ts m (.top acc) j))∨(∃j gs ln,s=⟨1,[oN nzC,oRb sl j true,oN (nG 1 ln ⟨⟨[]⟩⟩ 0 (.own 0 26 5 gs))]⟩∧j≤ts.length∧E j)) (ts.length*64+100) [99] rfl (.inl ⟨[],_,_, .inl ⟨rfl,rfl⟩,rfl,by omega,Nat.le_refl _,by simp only[List.length_nil];omega,hG⟩) ?_
 rintro m f1 s (⟨acc,j,c,hA,rfl,hj,hmf,hb2,hG⟩ | ⟨j,gs,ln,rfl,hj,he⟩)
 rotate_left
 ·conv=>whnf
  refine dnow_tc C hj ?_
  conv=>whnf
  have h:=hQ zNd (nowT ts j).line 22 (by rw[hE] at he;unfold parseT;rw[he])
  exact h
 rcases m with _ | m
 ·exact hG.elim
 have ihm:=dall C (X:=X) m
 simp only[gr] at hG
 rcases hA with ⟨rfl,rfl⟩ | ⟨hne,rfl⟩
 rotate_left
 rcases acc with _ | ⟨⟨k2,l2,x2,o2,ks2⟩,acc⟩
 ·exact absurd rfl hne
 ·try simp only[List.length_cons,List.length_nil] at hb2
  (conv=>whnf)
  refine dnow_tc C (by omega) ?_
  (conv=>whnf)
  generalize hk:((nowT ts j).kind != Int.ofNat 0)=bb
  cases bb
  ·have hk0:(nowT ts j).kind=0:=by simpa using hk
   rw[if_pos hk0] at hG
   (conv=>whnf)
   rw[hP] at hG
   obtain⟨hgr,hht⟩:=hG
   refine dheight_tc (nsz (.mk 1 (hdLine (nowT ts 0).line (Nd.mk k2 l2 x2 o2 ks2::acc)) [] 0 (Nd.mk k2 l2 x2 o2 ks2::acc))+1) 1 (hdLine (nowT ts 0).line (Nd.mk k2 l2 x2 o2 ks2::acc)) [] 0 (Nd.mk k2 l2 x2 o2 ks2::acc) (Nat.lt_succ_self _) (by omega) _ _ ?_
   (conv=>whnf)
   refine ifT_c (fun h=> ?_) (fun h=> ?_)
   ·have h60:60<htL (Nd.mk k2 l2 x2 o2 ks2::acc)+1:=Int.ofNat_lt.1 (by simpa using h)
    (conv=>whnf)
    exact hQ zNd 0 11 (by unfold parseT;rw[hgr];exact if_pos h60)
   ·have h60 : ¬ 60<htL (Nd.mk k2 l2 x2 o2 ks2::acc)+1:=fun h2=>absurd (Int.ofNat_lt.2 h2) (by simpa using h)
    (conv=>whnf)
    exact hQ (nd 1 (hdLine (nowT ts 0).line (Nd.mk k2 l2 x2 o2 ks2::acc)) (Nd.mk k2 l2 x2 o2 ks2::acc)) 0 0 (by unfold parseT;rw[hgr];exact if_neg h60)
  ·have hk0 : ¬(nowT ts j).kind=0:=by simpa using hk
   rw[if_neg hk0] at hG
   have hlt:=kd_lt hk0
   (conv=>whnf)
   repeat' first
    | (refine drul_st ihm.stmt hG (by trivial) rfl (fun e he hel kb lb xb ob gb hgb=> ?_) (by omega) (fun n1 l1 x1 o1 ks1 j1 hp1 hj1 hG=> ?_)<;>(try simp only[NT.min] at hp1)<;>(conv=>whnf))
    | (intro (hmx:_≤maxLen);(conv=>whnf))
    | exact⟨m,[2],by omega,rfl, .inl ⟨_,_,_,accV_app rfl,rfl,by omega,by omega,(by simp only[List.length_append,List.length_cons,List.length_nil] at *;omega),hG⟩⟩
    | exact⟨m,[2],by omega,rfl, .inr ⟨_,_,_,rfl,by omega,he⟩⟩
    | (refine⟨rfl,0,_,rfl,rfl,?_⟩;(conv=>whnf))
    | (refine⟨rfl,?_⟩;(conv=>whnf))
    | (refine⟨bdA (by simp only[List.length_append,List.length_cons,List.length_nil,ndsS_len];omega),?_⟩;(conv=>whnf))
 ·try simp only[List.length_cons,List.length_nil] at hb2
  (conv=>whnf)
  refine dnow_tc C (by omega) ?_
  (conv=>whnf)
  generalize hk:((nowT ts j).kind != Int.ofNat 0)=bb
  cases bb
  ·have hk0:(nowT ts j).kind=0:=by simpa using hk
   rw[if_pos hk0] at hG
   (conv=>whnf)
   rw[hP] at hG
   obtain⟨hgr,hht⟩:=hG
   refine dheight_tc (nsz (.mk 1 (hdLine (nowT ts 0).line ([])) [] 0 ([]))+1) 1 (hdLine (nowT ts 0).line ([])) [] 0 ([]) (Nat.lt_succ_self _) (by omega) _ _ ?_
   (conv=>whnf)
   exact hQ (nd 1 (hdLine (nowT ts 0).line []) []) 0 0 (by unfold parseT;rw[hgr];rfl)
  ·have hk0 : ¬(nowT ts j).kind=0:=by simpa using hk
   rw[if_neg hk0] at hG
   have hlt:=kd_lt hk0
   (conv=>whnf)
   repeat' first
    | (refine drul_st ihm.stmt hG (by trivial) rfl (fun e he hel kb lb xb ob gb hgb=> ?_) (by omega) (fun n1 l1 x1 o1 ks1 j1 hp1 hj1 hG=> ?_)<;>(try simp only[NT.min] at hp1)<;>(conv=>whnf))
    | (intro (hmx:_≤maxLen);(conv=>whnf))
    | exact⟨m,[2],by omega,rfl, .inl ⟨_,_,_,accV_app rfl,rfl,by omega,by omega,(by simp only[List.length_append,List.length_cons,List.length_nil] at *;omega),hG⟩⟩
    | exact⟨m,[2],by omega,rfl, .inr ⟨_,_,_,rfl,by omega,he⟩⟩
    | (refine⟨rfl,0,_,rfl,rfl,?_⟩;(conv=>whnf))
    | (refine⟨rfl,?_⟩;(conv=>whnf))
    | (refine⟨bdA (by simp only[List.length_append,List.length_cons,List.length_nil,ndsS_len];omega),?_⟩;(conv=>whnf))
end Can
end Go.Proofs.YticlaccbodpkeaaGreatDoor
end
section
namespace Go.Proofs.YticlaccbodpkeaaGreatDoor
namespace Can
open Go Go.RowKit
set_option linter.unusedSimpArgs false
set_option linter.unusedVariables false
set_option maxRecDepth 4000
def PrQr (H:CH)(ts:List PT)(v:Value)(K:CH):Prop:=HExt H K∧∃os,v= .tuple #[.agg os.toArray, .int .i64 (parseT ts).2.1, .int .i64 (parseT ts).2.2]∧SVRs K (fun b=>H.nx≤b∧b<K.nx) (ndS (parseT ts).1) os
theorem ndRV_inv{K:CH}{E:TE}{n:Nd}{v:Value}(h:RVR K E (ndRV n) v) : ∃os,v= .agg os.toArray∧SVRs K (Frz K E) (ndS n) os:=by
 obtain⟨k,l,x,o,ks⟩:=n
 generalize hx:ndRV (.mk k l x o ks)=x at h
 cases h with
 | c=>cases hx
 | @agg cs vs h=>
   injection hx with hx
   subst hx
   refine⟨vs,rfl,?_⟩
   cases h with | cons a1 h=>
   cases h with | cons a2 h=>
   cases h with | cons a3 h=>
   cases h with | cons a4 h=>
   cases h with | cons a5 h=>
   cases h
   rw[cS_inv a1,cS_inv a2,cS_inv a3,cS_inv a4]
   refine .cons (.sc rfl) (.cons (.sc rfl) (.cons (.sc rfl) (.cons (.sc rfl) (.cons ?_ .nil))))
   cases a5 with
   | s h=>exact h
theorem rparse_wp{H:CH}{sl:Sl}{ts:List PT}(h:SlAt 3 CTk H sl.q sl.c ts)(hn:sl.n=ts.length)(hlen:ts.length≤4398046510976):WpF (tblG Tryz.prog LG GG) 23 [.slice sl.q sl.n sl.c] H fun v K=>PrQr H ts v K:=by
 have C:DCtx (prZ H sl) ts sl:=⟨prZ_ok h hn,hlen⟩
 have hT:=dparse_tc (X:=pX) (R:=fun _=>False) (Q:=fun a _=>a= .tup [ndRV (parseT ts).1, .c (cS (.int .i64 (parseT ts).2.1)), .c (cS (.int .i64 (parseT ts).2.2))]) C fun n l e he=>by rw[he]
 rcases hT H none (fun b=>b<H.nx) (fun _=>False) [.slice sl.q sl.n sl.c] (fun _ h=>⟨h,by simp⟩) (fun _ h=>h.elim) (fun b hb=>⟨prZ_in h hb,(by simp),id,rfl⟩) (.cons (rS_rel rfl) .nil) rfl (fun _ h=>h) with h | ⟨n,v,H',_,h⟩
 ·refine h.mono fun v K' ⟨h1,h2,hid',W',a,s',hW,h3,_,_,_,h4⟩=> ?_
  subst h4
  refine⟨⟨h1,fun b hb=>h2 b hb (by simp) id⟩,?_⟩
  cases h3 with
  | tup h3=>
    cases h3 with | cons a1 h3=>
    cases h3 with | cons a2 h3=>
    cases h3 with | cons a3 h3=>
    cases h3
    obtain⟨os,rfl,hs⟩:=ndRV_inv a1
    refine⟨os,?_,hs.mv fun b hb=>⟨⟨Nat.le_of_not_lt fun q=>hb.2.1 (hW.up b q),hb.1⟩,rfl⟩⟩
    cases a2 with | c a2=>
    cases a3 with | c a3=>
    rw[cS_inv a2,cS_inv a3]
 ·exact h.2.2.elim
end Can
end Go.Proofs.YticlaccbodpkeaaGreatDoor
end
section
namespace Go.Proofs.YticlaccbodpkeaaGreatDoor
namespace Can
open Go Go.RowKit
set_option linter.unusedSimpArgs false
set_option linter.unusedVariables false
set_option maxRecDepth 4000
def ptT (t:Tok):PT:=⟨t.kind,t.line,t.text⟩
theorem tokV_pt(t:Tok):tokV (ptT t)=tokC t:=rfl
theorem ptT_flat : ∀ts:List Tok,(ts.map ptT).flatMap tokV=ts.flatMap tokC
 | []=>rfl
 | t::ts=>by rw[List.map_cons,List.flatMap_cons,List.flatMap_cons,ptT_flat ts,tokV_pt]
theorem grw_pt{A K:CH}{v:Value}{ts:List Tok}(h:Grw A 85 3 tokC K v ts):Grw A 85 3 tokV K v (ts.map ptT):=by
 rcases h with ⟨rfl,rfl⟩ | ⟨b,kd,rfl,h1,h2,h3,h4⟩
 ·exact .inl ⟨rfl,rfl⟩
 ·exact .inr ⟨b,kd,by rw[List.length_map],h1,h2,by rw[ptT_flat];exact h3,h4⟩
def sourceT(src:List UInt8):Nd×Int×Int:=match lexT src with
 | .ok ts=>parseT (ts.map ptT)
 | .error y=>(zNd,y.1,y.2)
end Can
end Go.Proofs.YticlaccbodpkeaaGreatDoor
end
section
namespace Go.Proofs.YticlaccbodpkeaaGreatDoor
namespace Can
open Go Go.RowKit
set_option linter.unusedSimpArgs false
set_option linter.unusedVariables false
set_option maxRecDepth 4000
mutual
def sameN(ln:Bool):Nd→Nd→Bool
 | .mk k l x o ks, .mk k' l' x' o' ks'=>decide (k=k')&&decide (x=x')&&decide (o=o')&&decide (ks.length=ks'.length)&&(!ln||decide (l=l'))&&sameL ln ks ks'
def sameL(ln:Bool):List Nd→List Nd→Bool
 | n::ks,n'::ks'=>sameN ln n n'&&sameL ln ks ks'
 | _,_=>true
end
def LexF (args:List Value)(H:CH)(v:Value)(H':CH):Prop:=∀q c src,args= [.slice q src.length c]→SlAt 1 (CInt .u8) H q c (u8i src)→HExt H H'∧LexOut H H' v (lexT src)
def SP:Spec:=fun f args H v H'=>(f=38→∀(sl:Sl) (ts:List PT),args= [.slice sl.q sl.n sl.c]→SlAt 3 CTk H sl.q sl.c ts→sl.n=ts.length→ts.length≤4398046510976→PrQ2 H ts v H')∧(f=37→LexF args H v H')∧(f=23→∀(sl:Sl) (ts:List PT),args= [.slice sl.q sl.n sl.c]→SlAt 3 CTk H sl.q sl.c ts→sl.n=ts.length→ts.length≤4398046510976→PrQr H ts v H')∧(f=22→LexF args H v H')
noncomputable abbrev TL:Tbl:=tblS Tryz.prog LG GG [38,37,23,22] SP
theorem tl_ok{B:Nat}:TblOk Tryz.prog B TL:=tblS_ok GG_ok
theorem tok_inj{a b:PT}(h:tokV a=tokV b):a=b:=by
 cases a;cases b
 simp only[tokV,List.cons.injEq,Value.int.injEq,Value.string.injEq,true_and,and_true] at h
 obtain⟨rfl,rfl,h⟩:=h
 injection h with h
 injection h with h
 subst h;rfl
theorem slat_inj{H:CH}{q:Option Addr}{c:Nat}{ts us:List PT}(h:SlAt 3 CTk H q c ts)(g:SlAt 3 CTk H q c us)(hl:ts.length=us.length):ts=us:=by
 refine List.ext_getElem hl fun i h1 h2=> ?_
 obtain⟨l,o,os,e,kd,q1,o1,_,_,r1,_⟩:=tk_get h h1
 obtain⟨l',o',os',e',kd',q2,o2,_,_,r2,_⟩:=tk_get g h2
 rw[q1] at q2;cases q2
 rw[o1] at o2;cases o2
 exact tok_inj (r1.symm.trans r2)
theorem u8_inj{H:CH}{q:Option Addr}{c:Nat}{a b:List UInt8}(h:SlAt 1 (CInt .u8) H q c (u8i a))(g:SlAt 1 (CInt .u8) H q c (u8i b))(hl:a.length=b.length):a=b:=by
 have h1:=src_ints h
 have h2:=src_ints g
 rw[u8i_len] at h1 h2
 rw[hl,h2] at h1
 injection h1 with h1
 injection h1 with h1 _
 rw[flat_ints,flat_ints] at h1
 refine List.ext_getElem hl fun i i1 i2=> ?_
 have:=congrArg (fun l=>l[i]?) h1
 simp only[u8i,List.getElem?_map,List.getElem?_eq_getElem i1,List.getElem?_eq_getElem i2,Option.map_some,Option.some.injEq,Value.int.injEq,true_and] at this
 exact UInt8.toNat.inj (by omega)
theorem rlexf_wp{H:CH}{q:Option Addr}{c:Nat}{src:List UInt8}(h:SlAt 1 (CInt .u8) H q c (u8i src)):WpF TL 22 [.slice q src.length c] H fun v K=>HExt H K∧LexOut H K v (lexT src):=by
 obtain⟨v,K,h1,h2⟩:=tell_wp (T:=(tblG Tryz.prog LG GG)) (fun B=>tg_ok) (by kernel_rfl) (rlex_wp H h)
 refine wpF_tell rfl ⟨v,K,⟨fun e=>(by cases e),fun e=>(by cases e),fun e=>(by cases e),fun _ q' c' src' he h'=> ?_⟩,h2⟩ fun v K hS=>hS.2.2.2 rfl q c src rfl h
 simp only[List.cons.injEq,Value.slice.injEq,and_true] at he
 obtain⟨rfl,hl,rfl⟩:=he
 rw[u8_inj h' h hl.symm]
 exact h1
theorem rparse_tl{H:CH}{sl:Sl}{ts:List PT}(h:SlAt 3 CTk H sl.q sl.c ts)(hn:sl.n=ts.length)(hlen:ts.length≤4398046510976):WpF TL 23 [.slice sl.q sl.n sl.c] H fun v H'=>PrQr H ts v H':=by
 obtain⟨v,H',h1,h2⟩:=tell_wp (T:=(tblG Tryz.prog LG GG)) (fun B=>tg_ok) (by kernel_rfl) (rparse_wp h hn hlen)
 refine wpF_tell rfl ⟨v,H',⟨fun e=>(by cases e),fun e=>(by cases e),fun _ sl' ts' he h' hn' _=> ?_,fun e=>by cases e⟩,h2⟩ fun v H' hS=>hS.2.2.1 rfl sl ts rfl h hn hlen
 cases sl;cases sl'
 cases he
 rw[slat_inj h' h (hn'.symm.trans hn)]
 exact h1
theorem tc_rS{D:TD}{Z:TP}{X:Pan}(hD:TDOk TL D){R:Value→Prop}{f:Nat}(he:TL.ext f=false)(h:(resFunc Tryz.prog (fun N ops=>resD Tryz.prog N ops) f).isSome=true){args:List AV}{self:Self}{Q:AV→List SV→Prop}(k:twR Z TL X D R (rF Tryz.prog f).body (fun t=>args.getD t .bad) (st0 self) (finT (rF Tryz.prog f).res self Q)):TC Z TL X f args self Q R:=
 tc_in hD he (tbS_fn h) k
def D0:TD:=⟨[]⟩
theorem d0_ok:TDOk TL D0:=⟨fun f hf=>by cases hf⟩
theorem sameL_drop{ln:Bool}{ks ks':List Nd}{i:Nat}{t t':Nd}(h:ks[i]? = some t)(h':ks'[i]? = some t'):sameL ln (ks.drop i) (ks'.drop i)=(sameN ln t t'&&sameL ln (ks.drop (i+1)) (ks'.drop (i+1))):=by
 obtain⟨hi,rfl⟩:=List.getElem?_eq_some_iff.1 h
 obtain⟨hi',rfl⟩:=List.getElem?_eq_some_iff.1 h'
 rw[List.drop_eq_getElem_cons hi,List.drop_eq_getElem_cons hi']
 rfl
section
variable {Z:TP} {X:Pan}
attribute [local irreducible] TC
theorem same_tc(ln:Bool) : ∀(N:Nat) (k:Nat) (l:Int) (x:List UInt8) (o:Nat) (ks:List Nd) (k':Nat) (l':Int) (x':List UInt8) (o':Nat) (ks':List Nd),nsz (.mk k l x o ks)<N→∀(Q:AV→List SV→Prop) (R:Value→Prop),Q (rS (.bool (sameN ln (.mk k l x o ks) (.mk k' l' x' o' ks')))) []→TC Z TL X 9 [ndA (.mk k l x o ks),ndA (.mk k' l' x' o' ks'),rS (.bool ln)] none Q R:=by
 intro N
 induction N with
 | zero=>intro k l x o ks k' l' x' o' ks' h;exact absurd h (Nat.not_lt_zero _)
 | succ N ih=>
 intro k l x o ks k' l' x' o' ks' hN Q R hQ
 refine tc_rS d0_ok (by rfl) (by kernel_rfl) ?_
 conv in (rF _ _).body=>reduce
 conv in (rF _ _).res=>reduce
 conv=>whnf
 have hf:sameN ln (.mk k l x o ks) (.mk k' l' x' o' ks')=(decide (k=k')&&decide (x=x')&&decide (o=o')&&decide (ks.length=ks'.length)&&(!ln||decide (l=l'))&&sameL ln ks ks'):=rfl
 rw[hf] at hQ
 generalize h1:((k:Int) != (k':Int))=b1
 cases b1
 case true=>
  have:k≠k':=by have h : ¬(k:Int)=(k':Int):=(by simpa using h1);omega
  rw[decide_eq_false this] at hQ
  conv=>whnf
  exact hQ
 have e1:k=k':=by have h:(k:Int)=(k':Int):=(by simpa using h1);omega
 conv=>whnf
 generalize h2:(!((pS x).toList==(pS x').toList))=b2
 have pse : ∀a b:List UInt8,((pS a).toList==(pS b).toList)=decide (a=b):=fun a b=>by
  have h : ∀l:List UInt8,(pS l).toList=l:=fun l=>by simp[ByteArray.toList_eq]
  rw[h,h]
  by_cases e:a=b
  ·simp[e]
  ·rw[decide_eq_false e];simpa using e
 rw[pse] at h2
 cases b2
 case true=>
  have:x≠x':=by simpa using h2
  rw[decide_eq_true e1,decide_eq_false this] at hQ
  conv=>whnf
  exact hQ
 have e2:x=x':=by simpa using h2
 conv=>whnf
 generalize h3:((o:Int) != (o':Int))=b3
 cases b3
 case true=>
  have:o≠o':=by have h : ¬(o:Int)=(o':Int):=(by simpa using h3);omega
  rw[decide_eq_true e1,decide_eq_true e2,decide_eq_false this] at hQ
  conv=>whnf
  exact hQ
 have e3:o=o':=by have h:(o:Int)=(o':Int):=(by simpa using h3);omega
 conv=>whnf
 intro hm1
 conv=>whnf
 intro hm2
 conv=>whnf
 generalize h4:(((ndsS ks).length:Int) != ((ndsS ks').length:Int))=b4
 rw[ndsS_len,ndsS_len] at h4
 cases b4
 case true=>
  have:ks.length≠ks'.length:=by have h : ¬(ks.length:Int)=(ks'.length:Int):=(by simpa using h4);omega
  rw[decide_eq_true e1,decide_eq_true e2,decide_eq_true e3,decide_eq_false this] at hQ
  conv=>whnf
  exact hQ
 have e4:ks.length=ks'.length:=by have h:(ks.length:Int)=(ks'.length:Int):=(by simpa using h4);omega
 rw[decide_eq_true e1,decide_eq_true e2,decide_eq_true e3,decide_eq_true e4] at hQ
 have hb:l≠l'∧ln=true∨(!ln||decide (l=l'))=true:=by
  cases ln
  ·exact .inr rfl
  ·by_cases h:l=l'
   ·exact .inr (by simp[h])
   ·exact .inl ⟨h,rfl⟩
 rcases hb with ⟨hb,rfl⟩ | hb
 ·rw[decide_eq_false hb] at hQ
  conv=>whnf
  generalize h5:(l != l')=b5
  cases b5
  case false=>exact absurd (by simpa using h5) hb
  conv=>whnf
  exact hQ
 rw[hb] at hQ
 simp only[Bool.true_and] at hQ
 obtain⟨SL,hSL⟩ : ∃SL:List Nd→List Nd→Bool,SL=sameL ln:=⟨_,rfl⟩
 obtain⟨SN,hSN⟩ : ∃SN:Nd→Nd→Bool,SN=sameN ln:=⟨_,rfl⟩
 have hnil : ∀ys,SL [] ys=true:=fun ys=>by rw[hSL];rfl
 have hdr : ∀(i:Nat) (t t':Nd),ks[i]? = some t→ks'[i]? = some t'→SL (ks.drop i) (ks'.drop i)=(SN t t'&&SL (ks.drop (i+1)) (ks'.drop (i+1))):=fun i t t' h h'=>by rw[hSL,hSN];exact sameL_drop h h'
 rw[←hSL] at hQ
 cases ln
 rotate_left
 conv=>whnf
 generalize h5:(l != l')=b5
 cases b5
 rotate_left
 exact absurd (by simpa using hb) (by simpa using h5)
 all_goals
  conv=>whnf
  refine loop_1 7 (fun m a s=>∃i:Nat,a=rS (.int .i64 (i:Nat))∧s=⟨0,[oN (nA k l x o ks),oN (nA k' l' x' o' ks')]⟩∧m+i=ks.length∧SL ks ks'=SL (ks.drop i) (ks'.drop i)) ks.length [] rfl ⟨0,rfl,rfl,rfl,rfl⟩ ?_
  rintro m a f s ⟨i,rfl,rfl,hm,hp⟩
  conv=>whnf
  intro hmx
  conv=>whnf
  refine ifT_c (fun hc=> ?_) fun hc=> ?_
  ·have hi:i<ks.length:=by simp[ndsS_len] at hc;omega
   obtain⟨t,ht⟩ : ∃t,ks[i]? = some t:=⟨_,List.getElem?_eq_getElem hi⟩
   obtain⟨t',ht'⟩ : ∃t,ks'[i]? = some t:=⟨_,List.getElem?_eq_getElem (by omega)⟩
   rw[hdr i t t' ht ht'] at hp
   have hlt:=nsz_lt (List.mem_of_getElem? ht) (k:=k) (l:=l) (x:=x) (o:=o)
   obtain⟨k1,l1,x1,o1,ks1⟩:=t
   obtain⟨k2,l2,x2,o2,ks2⟩:=t'
   conv=>whnf
   refine⟨rfl,i,_,rfl,ndsS_get ht,?_⟩
   conv=>whnf
   refine⟨rfl,i,_,rfl,ndsS_get ht',?_⟩
   conv=>whnf
   refine ih k1 l1 x1 o1 ks1 k2 l2 x2 o2 ks2 (by omega) _ _ ?_
   conv=>whnf
   rw[←hSN]
   generalize hsm:SN (Nd.mk k1 l1 x1 o1 ks1) (Nd.mk k2 l2 x2 o2 ks2)=bs at hp⊢
   cases bs
   ·rw[Bool.false_and] at hp
    rw[hp] at hQ
    conv=>whnf
    exact hQ
   ·rw[Bool.true_and] at hp
    rw[ndsS_len] at hmx
    conv=>whnf
    exact⟨m-1,[],by omega,rfl,i+1,congrArg (fun n=>rS (.int .i64 n)) (wr_inc' hi hmx),rfl,by omega,hp⟩
  ·have hi:i=ks.length:=by simp[ndsS_len] at hc;omega
   subst hi
   have hp:SL ks ks'=true:=by rw[hp,List.drop_length];exact hnil _
   rw[hp] at hQ
   conv=>whnf
   exact hQ
end
end Can
end Go.Proofs.YticlaccbodpkeaaGreatDoor
end
section
namespace Go.Proofs.YticlaccbodpkeaaGreatDoor
namespace Can
open Go Go.RowKit
set_option linter.unusedSimpArgs false
set_option linter.unusedVariables false
set_option maxRecDepth 4000
theorem slat_row{K:CH}{b:Nat}{ts:List PT}{e:TypeId}{k:Kd}(hb:b<K.nx)(ho:K.ob b= .cells ((ts.map tokV).flatten) e k)(hl:ts.length≤maxLen):SlAt 3 CTk K (some ⟨b,0,none⟩) ts.length ts:=by
 have hfl:((ts.map tokV).flatten).length=ts.length*3:=by
  rw[flat_len' (sz:=3) (fun g hg=>by obtain⟨t,_,rfl⟩:=List.mem_map.1 hg;rfl),List.length_map]
 refine .inr ⟨b,0,_,e,k,rfl,hb,Nat.le_refl _,hl,ho,by omega,fun i h=> ?_⟩
 have hg:(ts.map tokV)[i]? = some (tokV ts[i]):=by simp[h]
 have:=(flat_grp (sz:=3) (gs:=ts.map tokV) (fun g hg=>by obtain⟨t,_,rfl⟩:=List.mem_map.1 hg;rfl) hg).1
 show((((ts.map tokV).flatten).drop (0+i*3)).take 3)=tokV ts[i]
 rw[Nat.zero_add]
 exact this
theorem nd_cells{K:CH}{A:Nat→Prop}{t:Nd}{os:List Value}(h:SVRs K A (ndS t) os) : ∃k l x o wa wn wc,os= [.int .i64 k, .int .i64 l, .string x, .int .i64 o, .slice wa wn wc]:=by
 cases t
 cases h with | cons a1 h=>
 cases h with | cons a2 h=>
 cases h with | cons a3 h=>
 cases h with | cons a4 h=>
 cases h with | cons a5 h=>
 cases h
 cases a1
 cases a2
 cases a3
 cases a4
 obtain⟨wa,wn,wc,rfl⟩:=row_slc a5
 exact⟨_,_,_,_,_,_,_,rfl⟩
theorem lexT_len'{src:List UInt8}{ts:List Tok}(h:lexT src= .ok ts):(ts.map ptT).length≤100000:=by
 rw[List.length_map];exact lexT_len h
theorem grw_tk'{A K:CH}{v:Value}{ts:List PT}(h:Grw A 85 3 tokV K v ts)(hm:ts.length≤9223372036854775807) : ∃q c,v= .slice q ts.length c∧SlAt 3 CTk K q c ts:=by
 rcases h with ⟨rfl,rfl⟩ | ⟨b,kd,rfl,h1,h2,h3,h4⟩
 ·exact⟨none,0,rfl, .inl ⟨rfl,rfl, .inl rfl⟩⟩
 ·refine⟨_,_,rfl,?_⟩
  have e:ts.flatMap tokV=(ts.map tokV).flatten:=by rw[List.flatMap_def]
  rw[e] at h3
  exact slat_row h2 h3 (by rw[maxLen_eq];exact hm)
end Can
end Go.Proofs.YticlaccbodpkeaaGreatDoor
end
section
namespace Go.Proofs.YticlaccbodpkeaaGreatDoor
namespace Can
open Go Go.RowKit
set_option linter.unusedSimpArgs false
set_option linter.unusedVariables false
set_option maxRecDepth 4000
theorem nd_inv{K:CH}{A:Nat→Prop}{k:Nat}{l:Int}{x:List UInt8}{o:Nat}{ks:List Nd}{rest:List SV}{os:List Value}(h:SVRs K A (ndS (.mk k l x o ks)++rest) os) : ∃w os',os= .int .i64 (k:Nat):: .int .i64 l:: .string ⟨⟨x⟩⟩:: .int .i64 (o:Nat)::w::os'∧SVR K A (.row 5 (ndsS ks)) w∧SVRs K A rest os':=by
 cases h with | cons a1 h=>
 cases h with | cons a2 h=>
 cases h with | cons a3 h=>
 cases h with | cons a4 h=>
 cases h with | cons a5 h=>
 cases a1
 cases a2
 cases a3
 cases a4
 exact⟨_,_,rfl,a5,h⟩
end Can
end Go.Proofs.YticlaccbodpkeaaGreatDoor
end
section
namespace Go.Proofs.YticlaccbodpkeaaGreatDoor
namespace Can
open Go Go.RowKit
set_option linter.unusedSimpArgs false
set_option linter.unusedVariables false
set_option maxRecDepth 4000
theorem nsame_wp(ln:Bool){K:CH}{A B:Nat→Prop}(hA : ∀b,A b→b<K.nx)(hB : ∀b,B b→b<K.nx){a b:Nd}{os os':List Value}(h:SVRs K A (ndS a) os)(h':SVRs K B (ndS b) os'):WpF TL 9 [.agg os.toArray, .agg os'.toArray, .bool ln] K fun v K'=>HExt K K'∧v= .bool (sameN ln a b):=by
 obtain⟨k,l,x,o,ks⟩:=a
 obtain⟨k',l',x',o',ks'⟩:=b
 obtain⟨w,_,rfl,hw,hn⟩:=nd_inv (rest:= []) (by simpa using h)
 cases hn
 obtain⟨w',_,rfl,hw',hn⟩:=nd_inv (rest:= []) (by simpa using h')
 cases hn
 have r1:=nd_rel hA (k:=k) (l:=l) (x:=x) (o:=o) hw
 have r2:=nd_rel hB (k:=k') (l:=l') (x:=x') (o:=o') hw'
 refine(tc_wp (X:=pX) (same_tc ln (nsz (.mk k l x o ks)+1) k l x o ks k' l' x' o' ks' (Nat.lt_succ_self _) (fun a _=>a=rS (.bool (sameN ln (.mk k l x o ks) (.mk k' l' x' o' ks')))) _ rfl) ?_).mono fun v K' ⟨h1,a,s',h2,h3⟩=>⟨h1,by subst h3;exact raw_rel h2 rfl⟩
 cases r1 with | cons r1 _=>
 cases r2 with | cons r2 _=>
 exact .cons r1 (.cons r2 (.cons (rS_rel rfl) .nil))
theorem ndsS_all{ks:List Nd} : ∀g∈ndsS ks,g.length=5:=by
 induction ks with
 | nil=>intro g hg;cases hg
 | cons n ks ih=>
   intro g hg
   rcases List.mem_cons.1 hg with rfl | hg
   ·exact ndS_len
   ·exact ih g hg
theorem svrs_grp{K:CH}{A:Nat→Prop}{ks:List Nd}{os:List Value}(h:SVRs K A (ndsS ks).flatten os):os.length=ks.length*5∧∀i t,ks[i]? = some t→i*5+5≤os.length∧SVRs K A (ndS t) ((os.drop (i*5)).take 5):=by
 have hl:os.length=ks.length*5:=by rw[h.r2.len,flat_len' ndsS_all,ndsS_len]
 refine⟨hl,fun i t ht=> ?_⟩
 have h1:=flat_grp (ndsS_all (ks:=ks)) (ndsS_get ht)
 rw[ndS_len] at h1
 have:=(h.r2.drop (i*5)).take 5
 rw[h1.1] at this
 exact⟨by obtain⟨hi,_⟩:=List.getElem?_eq_some_iff.1 ht;omega,this.svrs⟩
theorem row_at{K:CH}{A:Nat→Prop}{ks:List Nd}{w:Value}(h:SVR K A (.row 5 (ndsS ks)) w) : ∃q,w= .slice q ks.length ks.length∧ks.length≤maxLen∧(ks= []→q=none)∧∀i t,ks[i]? = some t→∃b cs e kd,q=some ⟨b,0,none⟩∧A b∧K.ob b= .cells cs e kd∧kd.isRo=false∧cs.length=ks.length*5∧i*5+5≤cs.length∧SVRs K A (ndS t) ((cs.drop (i*5)).take 5):=by
 have hl:(ndsS ks).length=ks.length:=ndsS_len
 generalize hg:ndsS ks=gs at h hl
 cases h with
 | row0=>
   have:ks= []:=List.length_eq_zero_iff.1 (by simpa using hl.symm)
   subst this
   exact⟨none,rfl,Nat.zero_le _,fun _=>rfl,fun i t h=>by simp at h⟩
 | row hne hb ho hk hg' hs=>
   rw[hl]
   refine⟨_,rfl,by rw[←hl];exact hne.2,fun e=> ?_,fun i t ht=> ?_⟩
   ·subst e;exact absurd (by rw[←hg];rfl) hne.1
   ·rw[←hg] at hs
    obtain⟨h1,h2⟩:=svrs_grp hs
    exact⟨_,_,_,_,rfl,hb,ho,hk,h1,(h2 i t ht).1,(h2 i t ht).2⟩
mutual
theorem sameN_refl{ln:Bool} : ∀t:Nd,sameN ln t t=true
 | .mk k l x o ks=>by
   simp only[sameN,sameL_refl ks,decide_true,Bool.or_true,Bool.and_true]
theorem sameL_refl{ln:Bool} : ∀ks:List Nd,sameL ln ks ks=true
 | []=>rfl
 | n::ks=>by
   show(sameN ln n n&&sameL ln ks ks)=true
   rw[sameN_refl n,sameL_refl ks];rfl
end
end Can
end Go.Proofs.YticlaccbodpkeaaGreatDoor
end
section
namespace Go.Proofs.YticlaccbodpkeaaGreatDoor
namespace Can
open Go Go.RowKit
set_option linter.unusedSimpArgs false
set_option linter.unusedVariables false
set_option maxRecDepth 4000
abbrev tx(x:Bs):ByteArray:=⟨⟨x⟩⟩
def itT (n:Nat):Bs:=Lib.itoa (n:Int)
def SR:Spec:=fun f args H v H'=>(f=26→∃n,args= [.int .i64 n]∧v= .string ⟨(Lib.itoa n).toArray⟩∧H'=H)∧
 (f=27→∃l k q c xs f,args= [.map (some l), .slice q xs.length c]∧NmAt H l f k∧PrmAt H q xs∧v= .map (some H.nx)∧H'=H.new (.fm (woF f xs) k))
noncomputable abbrev TRn:Tbl:=tblS Tryz.prog LG GG [26,27] SR
theorem tr_ok{B:Nat}:TblOk Tryz.prog B TRn:=tblS_ok GG_ok
theorem itoa_wp{H:CH}(h:PowAt H){n:Int}(h0 : -9223372036854775808≤n)(h1:n≤9223372036854775807):WpF TRn 26 [.int .i64 n] H fun v K=>v= .string ⟨(Lib.itoa n).toArray⟩∧K=H:=by
 refine wpF_tell (by rfl) ⟨_,_,⟨fun _=>⟨n,rfl,rfl,rfl⟩,fun e=>by cases e⟩,fun B=>itoa_call h n h0 h1⟩ fun v H' hS=> ?_
 obtain⟨n',e,h2,h3⟩:=hS.1 rfl
 cases e
 exact⟨h2,h3⟩
theorem nm_inj{H:CH}{l k k':Nat}{f f':ByteArray→Option Int}(h:NmAt H l f k)(h':NmAt H l f' k'):f=f'∧k=k':=by
 rcases h with h | ⟨h,rfl,rfl⟩<;>rcases h' with h' | ⟨h',rfl,rfl⟩
 ·rw[h] at h';cases h';exact⟨rfl,rfl⟩
 ·rw[h] at h';cases h'
 ·rw[h] at h';cases h'
 ·exact⟨rfl,rfl⟩
theorem prm_inj{H:CH}{q:Option Addr}{xs ys:List ByteArray}(h:PrmAt H q xs)(h':PrmAt H q ys)(hl:xs.length=ys.length):xs=ys:=by
 refine List.ext_getElem hl fun i h1 h2=> ?_
 obtain⟨p,o,cs,e,kd,u0,u1,u3,q4,n4,c4,rfl,a2,a3,_⟩:=h i h1
 obtain⟨p',o',cs',e',kd',_,_,_,_,_,_,b1,b2,b3,_⟩:=h' i h2
 cases b1
 rw[a2] at b2;cases b2
 rw[a3] at b3
 simp only[List.cons.injEq,Value.int.injEq,Value.string.injEq,true_and,and_true] at b3
 exact b3.2.2.1
theorem without_wp{H:CH}{l k m c:Nat}{f:ByteArray→Option Int}{q:Option Addr}{xs:List ByteArray}(hl:NmAt H l f k)(hm:xs.length=m)(hp:PrmAt H q xs) :
 WpF TRn 27 [.map (some l), .slice q m c] H fun v K=>v= .map (some H.nx)∧K=H.new (.fm (woF f xs) k):=by
 subst hm
 refine wpF_tell (by rfl) ⟨_,_,⟨fun e=>(by cases e),fun _=>⟨l,k,q,c,xs,f,rfl,hl,hp,rfl,rfl⟩⟩,fun B=>without_call hl rfl hp⟩ fun v H' hS=> ?_
 obtain⟨l',k',q',c',xs',f',e,g1,g2,g3,g4⟩:=hS.2 rfl
 simp only[List.cons.injEq,Value.map.injEq,Option.some.injEq,Value.slice.injEq,and_true] at e
 obtain⟨rfl,rfl,e2,rfl⟩:=e
 obtain⟨rfl,rfl⟩:=nm_inj hl g1
 obtain rfl:=prm_inj hp g2 e2
 exact⟨g3,g4⟩
def RF (ρ:Bs→Nat)(f:ByteArray→Option Int):Prop:=∀y,(f (tx y)).getD 0=(ρ y:Int)
theorem RF.nil:RF (fun _=>0) (fun _=>none):=fun _=>rfl
theorem RF.wo{ρ:Bs→Nat}{f:ByteArray→Option Int}(h:RF ρ f)(ps:List Nd):RF (wo ρ ps) (woF f (ps.map fun n=>tx n.text)):=fun y=>by
 unfold Can.wo woF
 by_cases hy:y∈ps.map Nd.text
 ·rw[if_pos hy,if_pos]
  ·rfl
  ·obtain⟨n,hn,e⟩:=List.mem_map.1 hy
   exact List.any_eq_true.2 ⟨tx n.text,List.mem_map.2 ⟨n,hn,rfl⟩,decide_eq_true (by rw[e])⟩
 ·rw[if_neg hy,if_neg]
  ·exact h y
  ·intro ha
   obtain⟨x,hx,e⟩:=List.any_eq_true.1 ha
   obtain⟨n,hn,rfl⟩:=List.mem_map.1 hx
   have e:=of_decide_eq_true e
   exact hy (List.mem_map.2 ⟨n,hn,congrArg (fun b:ByteArray=>b.data.toList) e⟩)
def txL (n:Nd):Prop:=n.text.length≤1099511627776
theorem prm_of{K:CH}{A:Nat→Prop}{ks:List Nd}{w:Value}(h:SVR K A (.row 5 (ndsS ks)) w)(ht : ∀n∈ks,txL n) : ∃q,w= .slice q ks.length ks.length∧PrmAt K q (ks.map fun n=>tx n.text):=by
 obtain⟨q,rfl,h1,h2,h3⟩:=row_at h
 refine⟨q,rfl,fun i hi=> ?_⟩
 have hi':i<ks.length:=by simpa using hi
 obtain⟨b,cs,e,kd,rfl,hA,hob,hro,hcl,h5,hs⟩:=h3 i ks[i] (List.getElem?_eq_getElem hi')
 have hmem:=ht ks[i] (List.getElem_mem hi')
 cases hn:ks[i] with
 | mk k l x o ks'=>
   rw[hn] at hs hmem
   obtain⟨w',os',e1,e2,e3⟩:=nd_inv (rest:= []) (by rw[List.append_nil];exact hs)
   have:os'= []:=by cases e3;rfl
   subst this
   obtain⟨q',rfl,_⟩:=row_at e2
   refine⟨b,0,cs,e,kd,(k:Nat),l,(o:Nat),q',ks'.length,ks'.length,rfl,hob,?_,?_⟩
   ·rw[Nat.zero_add,e1]
    simp[hn,Nd.text]
   ·simp only[List.getElem_map,hn]
    have:x.length≤1099511627776:=hmem
    show x.length≤maxLen
    rw[maxLen_eq];omega
theorem ndS_cells{K:CH}{A:Nat→Prop}{k:Nat}{l:Int}{x:Bs}{o:Nat}{ks:List Nd}{os:List Value}(h:SVRs K A (ndS (.mk k l x o ks)) os) : ∃q,os= [.int .i64 (k:Nat), .int .i64 l, .string (tx x), .int .i64 (o:Nat), .slice q ks.length ks.length]∧SVR K A (.row 5 (ndsS ks)) (.slice q ks.length ks.length):=by
 obtain⟨w,os',rfl,h2,h3⟩:=nd_inv (rest:= []) (by rw[List.append_nil];exact h)
 have:os'= []:=by cases h3;rfl
 subst this
 obtain⟨q,rfl,_⟩:=row_at h2
 exact⟨q,rfl,h2⟩
theorem zero_nd{K:CH}{A:Nat→Prop}:SVRs K A (ndS (.mk 0 0 [] 0 [])) [.int .i64 0, .int .i64 0, .string ⟨⟨[]⟩⟩, .int .i64 0, .slice none 0 0]:= .cons (.sc rfl) (.cons (.sc rfl) (.cons (.sc rfl) (.cons (.sc rfl) (.cons .row0 .nil))))
theorem kid_wp{K:CH}{A:Nat→Prop}{n:Nd}{os:List Value}(h:SVRs K A (ndS n) os)(hA : ∀b,A b→b<K.nx):WpF TRn 28 [.agg os.toArray, .int .i64 0] K fun v K'=>∃os',v= .agg os'.toArray∧HExt K K'∧SVRs K A (ndS (kid0 n.kids)) os':=by
 obtain⟨k,l,x,o,ks⟩:=n
 obtain⟨q,rfl,hrow⟩:=ndS_cells h
 obtain⟨q',e,hmx,hnil,hat⟩:=row_at hrow
 cases e
 cases ks with
 | nil=>
   obtain rfl:=hnil rfl
   refine wpF_rS (by rfl) (by kernel_rfl) ?_;(conv in (rF _ _).body=>reduce);(conv in (rF _ _).res=>reduce)
   refine rn0 ?_
   refine⟨_,rfl,by(repeat (first | assumption | exact HExt.refl _ | (refine HExt.set ?_ (by first | omega | (simp only[new_nx,set_nx];omega)) _) | (refine HExt.new ?_ _))),zero_nd⟩
 | cons n0 ks=>
   obtain⟨b,cs,e,kd,rfl,hAb,hob,hro,hcl,h5,hs⟩:=hat 0 n0 rfl
   have hb:=hA b hAb
   obtain⟨os',hos⟩ : ∃os',(cs.drop (0*5)).take 5=os':=⟨_,rfl⟩
   rw[hos] at hs
   have hln:os'.length=5:=by rw[←hos];simp;simp at h5;omega
   obtain⟨k',l',x',o',wa,wn,wc,eo⟩:=nd_cells hs
   have hcl':os'.all isCell=true:=by rw[eo];rfl
   have hc1:5≤cs.length:=by omega
   refine wpF_rS (by rfl) (by kernel_rfl) ?_;(conv in (rF _ _).body=>reduce);(conv in (rF _ _).res=>reduce)
   refine rn (an @hob (an @hos (an @hln (an @hcl' @hc1)))) ?_
   refine⟨os',by rw[List.take_of_length_le (by omega)],by(repeat (first | assumption | exact HExt.refl _ | (refine HExt.set ?_ (by first | omega | (simp only[new_nx,set_nx];omega)) _) | (refine HExt.new ?_ _))),hs⟩
end Can
end Go.Proofs.YticlaccbodpkeaaGreatDoor
end
section
namespace Go.Proofs.YticlaccbodpkeaaGreatDoor
namespace Can
open Go Go.RowKit
set_option linter.unusedSimpArgs false
set_option linter.unusedVariables false
set_option maxRecDepth 4000
structure HEx(c:Nat)(H K:CH):Prop where
 nx:H.nx≤K.nx
 ob : ∀l,l<H.nx→l≠c→K.ob l=H.ob l
theorem HEx.refl{c:Nat}(H:CH):HEx c H H:=⟨Nat.le_refl _,fun _ _ _=>rfl⟩
theorem HEx.trans{c:Nat}{A H K:CH}(h:HEx c A H)(k:HEx c H K):HEx c A K:=⟨Nat.le_trans h.nx k.nx,fun l hl hc=>(k.ob l (Nat.lt_of_lt_of_le hl h.nx) hc).trans (h.ob l hl hc)⟩
theorem HExt.ex{c:Nat}{H K:CH}(h:HExt H K):HEx c H K:=⟨h.nx,fun l hl _=>h.ob l hl⟩
theorem HEx.new{c:Nat}{A H:CH}(h:HEx c A H)(o:CObj):HEx c A (H.new o):=h.trans ((HExt.refl H).new o).ex
theorem HEx.set{c:Nat}{A H:CH}(h:HEx c A H){l:Nat}(hl:A.nx≤l∨l=c)(o:CObj):HEx c A (H.set l o):=⟨h.nx,fun k hk hc=>by simp only[CH.set];rw[if_neg (by omega)];exact h.ob k hk hc⟩
theorem HEx.ext{c:Nat}{H K:CH}(h:HEx c H K)(hc:H.nx≤c):HExt H K:=⟨h.nx,fun l hl=>h.ob l hl (by omega)⟩
abbrev pN(n:Nat):Value:= .pointer (some ⟨n,0,none⟩)
def upF (f:ByteArray→Option Int)(c:Nat)(x:Bs):ByteArray→Option Int:=fun t=>if t=tx x then some (c:Int) else f t
def ups (f:ByteArray→Option Int)(c:Nat)(xs:List Bs):ByteArray→Option Int:=xs.foldl (fun f x=>upF f c x) f
theorem ups_app{f:ByteArray→Option Int}{c:Nat}{xs ys:List Bs}:ups f c (xs++ys)=ups (ups f c xs) c ys:=List.foldl_append ..
theorem RF.up{ρ:Bs→Nat}{f:ByteArray→Option Int}(h:RF ρ f)(c:Nat)(x:Bs):RF (fun y=>if y=x then c else ρ y) (upF f c x):=fun y=>by
 unfold upF
 by_cases e:y=x
 ·subst e;simp
 ·have:tx y≠tx x:=fun h=>e (congrArg (fun b:ByteArray=>b.data.toList) h)
  simp only[if_neg e,if_neg this]
  exact h y
theorem RF.ups{c:Nat} : ∀ {xs:List Bs} {ρ:Bs→Nat} {f:ByteArray→Option Int},RF ρ f→RF (wi ρ xs c) (ups f c xs)
 | [],ρ,f,h=>fun y=>by simpa[wi,Can.ups] using h y
 | x::xs,ρ,f,h=>fun y=>by
   have:=RF.ups (xs:=xs) (c:=c) (h.up c x) y
   rw[show Can.ups f c (x::xs)=Can.ups (upF f c x) c xs from rfl,this]
   unfold wi
   by_cases e:y=x
   ·subst e;simp
   ·simp[e]
mutual
def txD:Nd→Prop
 | .mk _ _ x _ ks=>x.length≤1099511627776∧txDL ks
def txDL:List Nd→Prop
 | []=>True
 | n::ks=>txD n∧txDL ks
end
theorem txD_mem : ∀ {ks:List Nd} {n:Nd},txDL ks→n∈ks→txD n
 | m::ks,n,h,hn=>by
   rcases List.mem_cons.1 hn with rfl | hn
   ·exact h.1
   ·exact txD_mem h.2 hn
theorem txD_kid0{ks:List Nd}(h:txDL ks):txD (kid0 ks):=by
 cases ks with
 | nil=>exact⟨Nat.zero_le _,trivial⟩
 | cons n ks=>exact h.1
theorem ht_mem : ∀ {ks:List Nd} {n:Nd},n∈ks→htN n≤htL ks
 | m::ks,n,hn=>by
   simp only[htL]
   rcases List.mem_cons.1 hn with rfl | hn
   ·exact Nat.le_max_left _ _
   ·exact Nat.le_trans (ht_mem hn) (Nat.le_max_right _ _)
theorem with1_wp{K:CH}{x:Bs}{bc bm l c k:Nat}{f:ByteArray→Option Int}(hx:x.length≤1099511627776)(hc:K.ob bc= .cells [.int .i64 (c:Nat)] 3 .ex)(hm:K.ob bm= .cells [.map (some l)] 56 .ex)(hf:K.ob l= .fm f k)(hcb:c≤4611686018427387904)(hk:k≤4611686018427387904) :
 WpF TRn 49 [.string (tx x),pN bc,pN bm] K fun v K'=>K'=K.set l (.fm (upF f c x) (k+1)):=by
 have hs:(tx x).size≤9223372036854775807:=by show x.length≤_;omega
 have hw:(Lit.int .i64 (c:Nat)).wf=true:=by
  simp[Lit.wf,IntKind.min,IntKind.max,IntKind.signed,IntKind.bits]
  omega
 have hk1:k+1≤9223372036854775807:=by omega
 refine wpF_rS (by rfl) (by kernel_rfl) ?_;(conv in (rF _ _).body=>reduce);(conv in (rF _ _).res=>reduce)
 refine rn (an @hc (an @hm (an @hf (an @hs (an @hw @hk1))))) ?_
 rfl
theorem plcL_app : ∀ {a b:List Nd},plcL (a++b)=plcL a++plcL b
 | [],b=>rfl
 | n::a,b=>by simp only[List.cons_append,plcL,plcL_app,List.append_assoc]
theorem plcL_take{i:Nat}{ks:List Nd}:(plcL (ks.take i)).length≤(plcL ks).length:=by
 conv=>rhs;rw[←List.take_append_drop i ks,plcL_app,List.length_append]
 exact Nat.le_add_right _ _
def PlJ (K:CH)(l:Nat)(ks:List Nd)(f:ByteArray→Option Int)(c k n:Nat)(v:Value)(K1:CH):Prop:=∃i:Nat,n=ks.length-i∧i≤ks.length∧v= .int .i64 (i:Nat)∧HEx l K K1∧K1.ob l= .fm (ups f c (plcL (ks.take i))) (k+(plcL (ks.take i)).length)
theorem places_wp{bc bm l c:Nat}(hcb:c≤4611686018427387904) : ∀(N:Nat) (t:Nd),htN t≤N→txD t→∀(K:CH) (A:Nat→Prop) (os:List Value) (f:ByteArray→Option Int) (k:Nat),SVRs K A (ndS t) os→(∀b,A b→b<K.nx∧b≠l)→K.ob bc= .cells [.int .i64 (c:Nat)] 3 .ex→K.ob bm= .cells [.map (some l)] 56 .ex→K.ob l= .fm f k→bc<K.nx→bm<K.nx→l<K.nx→k+(plc t).length≤4611686018427387904→WpF TRn 48 [.agg os.toArray, .func (.func 49) #[] #[pN bc,pN bm]] K fun v K'=>HEx l K K'∧K'.ob l= .fm (ups f c (plc t)) (k+(plc t).length):=by
 intro N
 induction N with
 | zero=>intro t h;cases t;simp[htN] at h
 | succ N ih=>
 rintro⟨tk,tl,x,o,ks⟩ hN hT K A os f k hs hA hc hm hf hbc hbm hl hk
 obtain⟨q,rfl,hrow⟩:=ndS_cells hs
 obtain⟨q',e,hmx,hnil,hat⟩:=row_at hrow
 cases e
 rw[maxLen_eq] at hmx
 have hbl:bc≠l:=fun e=>by rw[e,hf] at hc;cases hc
 have hml:bm≠l:=fun e=>by rw[e,hf] at hm;cases hm
 by_cases h36:tk=36
 ·subst h36
  rw[plc,if_pos rfl] at hk
  refine wpF_rS (by rfl) (by kernel_rfl) ?_;(conv in (rF _ _).body=>reduce);(conv in (rF _ _).res=>reduce)
  refine rn0 ?_
  refine(with1_wp (K:=K.new _) (l:=l) (f:=f) (k:=k) hT.1 (by rw[new_ne (by omega)];exact hc) (by rw[new_ne (by omega)];exact hm) (by rw[new_ne (by omega)];exact hf) hcb (by simp at hk;omega)).mono fun v K' e=> ?_
  subst e
  refine rn0 ?_
  rw[plc,if_pos rfl]
  exact⟨((HEx.refl K).new _).set (.inr rfl) _,rfl⟩
 ·by_cases h5:tk=52∨tk=51
  ·rcases h5 with rfl | rfl
   all_goals
    rw[plc,if_neg (by decide),if_pos (by decide)] at hk⊢
    refine wpF_rS (by rfl) (by kernel_rfl) ?_;(conv in (rF _ _).body=>reduce);(conv in (rF _ _).res=>reduce)
    refine rn0 ?_
    refine loop_w (fun n fr K1=>PlJ K l ks f c k n (fr 20) K1) (n:=ks.length) ⟨0,rfl,Nat.zero_le _,by(refine rn0 ?_;all_goals rfl),(HEx.refl K).new _,by rw[new_ne (by omega),hf];rfl⟩ ?_
    rintro n fr K1 ⟨i,rfl,hi,f20,hx,ho⟩ hag
    by_cases hil:i<ks.length
    ·obtain⟨t,ht⟩ : ∃t,ks[i]? = some t:=⟨_,List.getElem?_eq_getElem hil⟩
     obtain⟨b,cs,e,kd,hqq,hb,ob,hkd,hcl,hc5,hst⟩:=hat i t ht
     have ob1:=(hx.ob b (hA b hb).1 (hA b hb).2).trans ob
     obtain⟨k',l',x',o',wa,wn,wc,hnc⟩:=nd_cells hst
     have hnx:=hx.nx
     have htk:ks.take (i+1)=ks.take i++ [t]:=by
      obtain⟨_,e⟩:=List.getElem?_eq_some_iff.1 ht
      rw[List.take_succ_eq_append_getElem hil,e]
     have hpl:plcL (ks.take (i+1))=plcL (ks.take i)++plc t:=by rw[htk,plcL_app];simp[plcL]
     have hle:=plcL_take (i:=i+1) (ks:=ks)
     rw[hpl,List.length_append] at hle
     have hcall:=ih t (Nat.le_trans (ht_mem (List.mem_of_getElem? ht)) (by simp only[htN] at hN;omega)) (txD_mem hT.2 (List.mem_of_getElem? ht)) (K1.new (.cells [.int .i64 k', .int .i64 l', .string x', .int .i64 o', .slice wa wn wc] 26 .ex)) A _ _ _ (hst.mv fun b hb=>⟨hb,by rw[new_ne (by have:=(hA b hb).1;omega)];exact hx.ob b (hA b hb).1 (hA b hb).2⟩) (fun b hb=>⟨by have:=(hA b hb).1;show b<K1.nx+1;omega,(hA b hb).2⟩) (by rw[new_ne (by omega),hx.ob bc hbc hbl];exact hc) (by rw[new_ne (by omega),hx.ob bm hbm hml];exact hm) (by rw[new_ne (by omega)];exact ho) (by show bc<K1.nx+1;omega) (by show bm<K1.nx+1;omega) (by show l<K1.nx+1;omega) (by omega)
     rw[hnc] at hcall
     refine rn (an @hag (an @f20 (an @hqq (an @ob1 (an @hnc (an @Nat.zero_add @new_set)))))) ?_
     refine hcall.mono fun v K2 ⟨hx2,ho2⟩=> ?_
     refine rn (an @hag @f20) ?_
     exact⟨ks.length-(i+1),by omega,i+1,rfl,hil,rfl,(hx.new _).trans hx2,by rw[ho2,hpl,ups_app,List.length_append,Nat.add_assoc]⟩
    ·have hil:i=ks.length:=by omega
     subst hil
     rw[List.take_length] at ho
     refine rn (an @hag @f20) ?_
     exact⟨hx,ho⟩
  ·refine wpF_rS (by rfl) (by kernel_rfl) ?_;(conv in (rF _ _).body=>reduce);(conv in (rF _ _).res=>reduce)
   refine rn0 ?_
   rw[plc,if_neg h36,if_neg h5]
   exact⟨(HEx.refl K).new _,hf⟩
theorem ownL_app : ∀ {a b:List Nd},ownL (a++b)=ownL a++ownL b
 | [],b=>rfl
 | n::a,b=>by simp only[List.cons_append,ownL,ownL_app,List.append_assoc]
theorem ownL_take{i:Nat}{ks:List Nd}:(ownL (ks.take i)).length≤(ownL ks).length:=by
 conv=>rhs;rw[←List.take_append_drop i ks,ownL_app,List.length_append]
 exact Nat.le_add_right _ _
theorem woF_nil{f:ByteArray→Option Int}:woF f []=f:=by
 funext s
 unfold woF
 rw[if_neg]
 simp
theorem NmAt.ext{K K':CH}{l k:Nat}{f:ByteArray→Option Int}(h:NmAt K l f k)(e:K'.ob l=K.ob l):NmAt K' l f k:=by unfold NmAt;rw[e];exact h
theorem prm_nil{K:CH}{q:Option Addr}:PrmAt K q []:=fun i h=>absurd h (Nat.not_lt_zero _)
def WiJ (K:CH)(ks:List Nd)(f:ByteArray→Option Int)(c k n:Nat)(v:Value)(K1:CH):Prop:=∃i:Nat,n=ks.length-i∧i≤ks.length∧v= .int .i64 (i:Nat)∧HExt K K1∧K.nx+3≤K1.nx∧K1.ob K.nx= .cells [.int .i64 (c:Nat)] 3 .ex∧K1.ob (K.nx+2)= .cells [.map (some (K.nx+1))] 56 .ex∧K1.ob (K.nx+1)= .fm (ups f c (ownL (ks.take i))) (k+(ownL (ks.take i)).length)
theorem with_wp{K:CH}{A:Nat→Prop}{ks:List Nd}{q:Option Addr}{l k c:Nat}{f:ByteArray→Option Int}(hrow:SVR K A (.row 5 (ndsS ks)) (.slice q ks.length ks.length))(hA : ∀b,A b→b<K.nx)(hT:txDL ks)(hf:NmAt K l f k)(hl:l<K.nx)(hcb:c≤4611686018427387904)(hk:k+(ownL ks).length≤4611686018427387904) :
 WpF TRn 29 [.map (some l), .slice q ks.length ks.length, .int .i64 (c:Nat)] K fun v K'=>∃l',v= .map (some l')∧HExt K K'∧K.nx≤l'∧l'<K'.nx∧K'.ob l'= .fm (ups f c (ownL ks)) (k+(ownL ks).length):=by
 obtain⟨q',e,hmx,hnil,hat⟩:=row_at hrow
 cases e
 rw[maxLen_eq] at hmx
 refine wpF_rS (by rfl) (by kernel_rfl) ?_;(conv in (rF _ _).body=>reduce);(conv in (rF _ _).res=>reduce)
 refine rn0 ?_
 refine(without_wp (xs:= []) (hf.ext (new_ne (by omega))) rfl prm_nil).mono fun v K0 ⟨e1,e2⟩=> ?_
 subst e1 e2
 rw[woF_nil]
 refine rn0 ?_
 refine loop_w (fun n fr K1=>WiJ K ks f c k n (fr 14) K1) (n:=ks.length) ⟨0,rfl,Nat.zero_le _,by(refine rn0 ?_;all_goals rfl),by(repeat (first | assumption | exact HExt.refl _ | (refine HExt.set ?_ (by first | omega | (simp only[new_nx,set_nx];omega)) _) | (refine HExt.new ?_ _))),Nat.le_refl _,by exact rz0,by exact rz0,by refine rn0 ?_;rfl⟩ ?_
 rintro n fr K1 ⟨i,rfl,hi,f14,hx,hn3,o0,o2,o1⟩ hag
 by_cases hil:i<ks.length
 ·obtain⟨t,ht⟩ : ∃t,ks[i]? = some t:=⟨_,List.getElem?_eq_getElem hil⟩
  obtain⟨b,cs,e,kd,hqq,hb,ob,hkd,hcl,hc5,hst⟩:=hat i t ht
  have hbK:=hA b hb
  have ob1:=(hx.ob b hbK).trans ob
  obtain⟨tk,tl,tx',to,tks⟩:=t
  obtain⟨tq,hnc,_⟩:=ndS_cells hst
  have htk:ks.take (i+1)=ks.take i++ [.mk tk tl tx' to tks]:=by
   obtain⟨_,e⟩:=List.getElem?_eq_some_iff.1 ht
   rw[List.take_succ_eq_append_getElem hil,e]
  have hpl:ownL (ks.take (i+1))=ownL (ks.take i)++(if tk=58 then plc (kid0 tks) else []):=by
   rw[htk,ownL_app]
   show _++((if tk=58 then plc (kid0 tks) else [])++ [])=_
   rw[List.append_nil]
  have hle:=ownL_take (i:=i+1) (ks:=ks)
  rw[hpl,List.length_append] at hle
  have hT':=txD_mem hT (List.mem_of_getElem? ht)
  by_cases h58:tk=58
  ·subst h58
   rw[if_pos rfl] at hpl hle
   have hkid:=kid_wp (K:=K1.new (.cells [.int .i64 ((58:Nat):Int), .int .i64 tl, .string (tx tx'), .int .i64 (to:Nat), .slice tq tks.length tks.length] 26 .ex)) (A:=A) (hst.mv fun b hb=>⟨hb,by rw[new_ne (by have:=(hA b hb);have:=hx.nx;omega)];exact hx.ob b (hA b hb)⟩) (fun b hb=>by have:=hA b hb;have:=hx.nx;show b<K1.nx+1;omega)
   rw[hnc] at hkid
   refine rn (an @hag (an @f14 (an @hqq (an @ob1 (an @hnc (an @Nat.zero_add @new_set)))))) ?_
   refine hkid.mono fun v K2 ⟨os2,e2,hx2,hs2⟩=> ?_
   subst e2
   refine rn @hag ?_
   have hx3:HExt K1 K2:=((HExt.refl K1).new _).trans hx2
   have hn2:=hx3.nx
   have hpw:=places_wp (bc:=K.nx) (bm:=K.nx+2) (l:=K.nx+1) hcb (htN (kid0 tks)) (kid0 tks) (Nat.le_refl _) (txD_kid0 hT'.2) K2 A os2 _ _ (hs2.mv fun b hb=>⟨hb,hx2.ob b (by have:=hA b hb;have:=hx.nx;show b<K1.nx+1;omega)⟩) (fun b hb=>by have:=hA b hb;have:=hx.nx;omega) ((hx3.ob _ (by omega)).trans o0) ((hx3.ob _ (by omega)).trans o2) ((hx3.ob _ (by omega)).trans o1) (by omega) (by omega) (by omega) (by omega)
   refine hpw.mono fun v K3 ⟨hx4,o4⟩=> ?_
   have hn4:=hx4.nx
   refine rn (an @hag @f14) ?_
   exact⟨ks.length-(i+1),by omega,i+1,rfl,hil,rfl,⟨by omega,fun b hb=>(hx4.ob b (by omega) (by omega)).trans ((hx3.ob b (by omega)).trans (hx.ob b hb))⟩,by omega,(hx4.ob _ (by omega) (by omega)).trans ((hx3.ob _ (by omega)).trans o0),(hx4.ob _ (by omega) (by omega)).trans ((hx3.ob _ (by omega)).trans o2),by rw[o4,hpl,ups_app,List.length_append,Nat.add_assoc]⟩
  ·rw[if_neg h58,List.append_nil] at hpl
   have e58:((tk:Nat):Int)≠58:=by omega
   refine rn (an @hag (an @f14 (an @hqq (an @ob1 (an @hnc (an @Nat.zero_add @new_set)))))) ?_
   exact⟨ks.length-(i+1),by omega,i+1,rfl,hil,rfl,hx.new _,Nat.le_succ_of_le hn3,(new_ne (by omega)).trans o0,(new_ne (by omega)).trans o2,by rw[hpl];exact(new_ne (by omega)).trans o1⟩
 ·have hil:i=ks.length:=by omega
  subst hil
  rw[List.take_length] at o1
  refine rn (an @hag (an @f14 @o2)) ?_
  exact⟨_,rfl,hx,by omega,by omega,o1⟩
end Can
end Go.Proofs.YticlaccbodpkeaaGreatDoor
end
section
namespace Go.Proofs.YticlaccbodpkeaaGreatDoor
namespace Can
set_option linter.unusedSimpArgs false
set_option linter.unusedVariables false
mutual
def kdN (B:Nat):Nd→Prop
 | .mk _ _ _ _ ks=>2*ks.length≤B+16∧kdL B ks
def kdL (B:Nat):List Nd→Prop
 | []=>True
 | n::ks=>kdN B n∧kdL B ks
end
mutual
theorem kdN_mono{B B':Nat}(h:B≤B') : ∀n:Nd,kdN B n→kdN B' n
 | .mk _ _ _ _ ks,g=>⟨Nat.le_trans g.1 (by omega),kdL_mono h ks g.2⟩
theorem kdL_mono{B B':Nat}(h:B≤B') : ∀l:List Nd,kdL B l→kdL B' l
 | [],_=>trivial
 | n::l,g=>⟨kdN_mono h n g.1,kdL_mono h l g.2⟩
end
theorem kdN_up{B B':Nat}{n:Nd}(g:kdN B n)(h:B≤B'):kdN B' n:=kdN_mono h n g
theorem kdL_up{B B':Nat}{l:List Nd}(g:kdL B l)(h:B≤B'):kdL B' l:=kdL_mono h l g
theorem kdL_app{B:Nat} : ∀ {a b:List Nd},kdL B (a++b)↔kdL B a∧kdL B b
 | [],b=>by simp[kdL]
 | n::a,b=>by simp only[List.cons_append,kdL,kdL_app,and_assoc]
theorem kdL_mem{B:Nat} : ∀ {l:List Nd} {n:Nd},kdL B l→n∈l→kdN B n
 | m::l,n,h,hn=>by
   rcases List.mem_cons.1 hn with rfl | hn
   ·exact h.1
   ·exact kdL_mem h.2 hn
def KB (L:Nat):PR→Prop
 | some (.ok (l,j))=>L≤j∧kdL j l∧2*l.length≤j+6
 | _=>True
theorem KB.weak{L L':Nat}{r:PR}(h:KB L' r)(hL:L≤L'):KB L r:=by
 match r,h with
 | none,_=>exact trivial
 | some (.error e),_=>exact trivial
 | some (.ok (l,j)),h=>exact⟨Nat.le_trans hL h.1,h.2⟩
theorem kb_if{c:Prop}[Decidable c]{L:Nat}{a b:PR}(h1:KB L a)(h2:KB L b):KB L (if c then a else b):=by
 split
 ·exact h1
 ·exact h2
theorem kb_wantB{ts:List PT}{s:List UInt8}{i L:Nat}{k:Nat→PR}(h:KB L (k (i+1))):KB L (wantB ts s i k):=kb_if h trivial
theorem kb_wantK{ts:List PT}{kd:Int}{i L:Nat}{k:List UInt8→Nat→PR}(h : ∀x,KB L (k x (i+1))):KB L (wantK ts kd i k):=kb_if (h _) trivial
theorem kb_pb{L L':Nat}{r:PR}{k:List Nd→Nat→PR}(h:KB L' r)(hk : ∀l j,L'≤j→kdL j l→2*l.length≤j+6→KB L (k l j)):KB L (pb r k):=by
 match r,h with
 | none,_=>exact trivial
 | some (.error e),_=>exact trivial
 | some (.ok (l,j)),h=>exact hk l j h.1 h.2.1 h.2.2
theorem kb_pb1{L L':Nat}{r:PR}{k:Nd→Nat→PR}(h:KB L' r)(hk : ∀n j,L'≤j→kdN j n→KB L (k n j)):KB L (pb1 r k):=kb_pb h fun l j h1 h2 _=>by
 match l,h2 with
 | [],_=>exact trivial
 | _::_::_,_=>exact trivial
 | [n],h2=>exact hk n j h1 h2.1
theorem kb_er{L e:Nat}:KB L (some (.error e)):=trivial
theorem kb_ok{L j:Nat}{l:List Nd}(h1:L≤j)(h2:kdL j l)(h3:2*l.length≤j+6):KB L (some (.ok (l,j))):=⟨h1,h2,h3⟩
theorem kb_pk{L j:Nat}{n:Nd}(h1:L≤j)(h2:kdN j n):KB L (pk1 n j):=⟨h1,⟨h2,trivial⟩,by simp⟩
def NT.kd(i:Nat):NT→Prop
 | .params _ _ acc | .row _ acc | .exprsL _ acc | .clauses acc | .dictL _ acc | .placesL _ acc | .names _ _ acc | .asgL _ acc | .blockL acc | .triesL acc | .top acc=>kdL i acc∧2*acc.length≤i+4
 | .triesF _ acc=>kdL i acc∧2*acc.length≤i+6
 | .cmpL n acc=>kdN i n∧kdL i acc∧2*acc.length≤i+4
 | .orL n | .andL n | .arithL n | .termL n | .primL n | .index n=>kdN i n
 | _=>True
def KbOk (ts:List PT)(f:Nat):Prop:=∀a i,a.kd i→KB (i+a.min) (gr ts f a i)
def opK (p:Nat):Except Nat (Nat×Nat)→Prop
 | .error _=>True
 | .ok (op,j)=>op≠0→p+1≤j
theorem opK_if{c:Prop}[Decidable c]{p:Nat}{a b:Except Nat (Nat×Nat)}(h1:opK p a)(h2:opK p b):opK p (if c then a else b):=by
 split
 ·exact h1
 ·exact h2
theorem opT_k(ts:List PT)(p:Nat):opK p (opT ts p):=by
 unfold opT
 repeat' first
  | (with_reducible refine opK_if ?_ ?_)
  | exact trivial
  | exact fun _=>Nat.le_refl _
  | exact fun h=>absurd rfl h
  | exact fun _=>(show p+1≤p+2 by omega)
theorem kb_op{ts:List PT}{p L:Nat}{A:PR}{B:Nat→Nat→PR}(hA:KB L A)(hB : ∀op j,p+1≤j→KB L (B op j)):KB L (match opT ts p with | .error e=>some (.error e) | .ok (0,_)=>A | .ok (op+1,j)=>B op j):=by
 have h:=opT_k ts p
 match opT ts p,h with
 | .error e,_=>exact trivial
 | .ok (0,_),_=>exact hA
 | .ok (op+1,j),h=>exact hB op j (h (by omega))
set_option maxHeartbeats 4000000 in
theorem gr_kd{ts:List PT} : ∀f,KbOk ts f:=by
 intro f
 induction f with
 | zero=>intro a i h;exact trivial
 | succ f ih=>
 have h1 : ∀a i L,a.kd i→L≤i+a.min→KB L (gr ts f a i):=fun a i L h hL=>(ih a i h).weak hL
 have hm : ∀(all:Bool) i,KB (i+1) (gr ts f (if all=true then .exprs else .expr) i):=fun all i=>by
  cases all
  ·exact ih .expr i trivial
  ·exact ih .exprs i trivial
 intro a i ha
 cases a
 case asgL l acc=>
  obtain⟨ha1,ha2⟩:=ha
  simp only[gr]
  refine kb_if ?_ (kb_pk (Nat.le_refl _) ⟨by omega,ha1⟩)
  cases hq:acc.getLast? with
  | none=>exact trivial
  | some n=>exact kb_if (kb_pb1 (ih .value (i+1) trivial) fun v j hj hv=>h1 _ _ _ ⟨kdL_app.2 ⟨kdL_mono (by have hj:i+1+1≤j:=hj;omega) _ ha1,hv,trivial⟩,by have hj:i+1+1≤j:=hj;simp only[List.length_append,List.length_cons,List.length_nil];omega⟩ (by have hj:i+1+1≤j:=hj;show i+0≤j+0;omega)) trivial
 case cmpL n acc=>
  obtain⟨hn,ha1,ha2⟩:=ha
  simp only[gr]
  refine kb_op (kb_pk (Nat.le_refl _) ?_) fun op j hj=>kb_pb1 (ih .arith j trivial) fun m k hk hm=>h1 _ _ _ ⟨kdN_up hn (by have hk:j+1≤k:=hk;omega),kdL_app.2 ⟨kdL_up ha1 (by have hk:j+1≤k:=hk;omega),⟨by simp,hm,trivial⟩,trivial⟩,by have hk:j+1≤k:=hk;simp only[List.length_append,List.length_cons,List.length_nil];omega⟩ (by have hk:j+1≤k:=hk;show i+0≤k+0;omega)
  split
  ·exact hn
  ·exact⟨by simp only[List.length_cons];omega,hn,ha1⟩
 all_goals simp only[NT.kd] at ha
 all_goals simp only[gr,NT.min]
 all_goals (repeat' first
  | exact kb_er
  | (simp only[NT.min] at hj)
  | (with_reducible refine kb_if ?_ ?_)
  | (with_reducible refine kb_op ?_ fun op j hj=> ?_)
  | (with_reducible refine kb_wantB ?_)
  | (with_reducible refine kb_wantK fun x=> ?_)
  | (with_reducible refine kb_pb1 (hm _ _) fun n j hj hn=> ?_)
  | (with_reducible refine kb_pb1 (h1 _ _ _ ?_ (Nat.le_refl _)) fun n j hj hn=> ?_)
  | (with_reducible refine kb_pb (h1 _ _ _ ?_ (Nat.le_refl _)) fun l j hj hn hl=> ?_)
  | (with_reducible refine kb_pk ?_ ?_)
  | (with_reducible refine kb_ok ?_ ?_ ?_)
  | (with_reducible refine h1 _ _ _ ?_ ?_)
  | (with_reducible assumption)
  | exact True.intro
  | omega
  | (obtain⟨ha1,ha2⟩:=ha)
  | (obtain⟨ha3,ha4⟩:=ha2)
  | (simp only[NT.min,NT.kd,kdL,kdN,kdL_app,List.length_append,List.length_cons,List.length_nil,and_true,true_and])
  | (refine⟨?_,?_⟩)
  | exact kdN_up (by with_reducible assumption) (by omega)
  | exact kdL_up (by with_reducible assumption) (by omega))
end Can
end Go.Proofs.YticlaccbodpkeaaGreatDoor
end
section
namespace Go.Proofs.YticlaccbodpkeaaGreatDoor
namespace Can
open Go Go.RowKit
set_option linter.unusedSimpArgs false
set_option linter.unusedVariables false
set_option maxRecDepth 4000
structure N5 where
 k:Int
 l:Int
 x:ByteArray
 o:Int
 a:Option Addr
 n:Nat
 c:Nat
def n5V (c:N5):List Value:= [.int .i64 c.k, .int .i64 c.l, .string c.x, .int .i64 c.o, .slice c.a c.n c.c]
theorem n5V_ok : ∀x:N5,(n5V x).length=5∧(n5V x).all isCell=true:=fun x=>⟨rfl,rfl⟩
theorem nd_n5{K:CH}{A:Nat→Prop}{t:Nd}{os:List Value}(h:SVRs K A (ndS t) os) : ∃c,os=n5V c:=by
 obtain⟨k,l,x,o,wa,wn,wc,rfl⟩:=nd_cells h
 exact⟨⟨k,l,x,o,wa,wn,wc⟩,rfl⟩
theorem optW_one{α:Type}{A K:CH}{e sz bytes:Nat}{f:α→List Value}(hf : ∀x,(f x).length=sz∧(f x).all isCell=true){v:Value}{xs:List α}{y:α}(hg:Grw A e sz f K v xs)(hb:(xs.length+1)*bytes≤140737488355328)(hm:xs.length+1≤9223372036854775807){us:List Value}(hu:us=f y)
 {Q:Value→CH→Prop} (k : ∀K',K'.ob K.nx= .cells ((xs++ [y]).flatMap f) e .gr→K'.nx=K.nx+1→(∀l,l<K.nx→(∀o n c,v≠ .slice (some ⟨l,o,none⟩) n c)→K'.ob l=K.ob l)→Q (.slice (some ⟨K.nx,0,none⟩) (xs.length+1) (xs.length+1)) K'):optW (appV e sz bytes v us 1 K) Q:=by
 subst hu
 have hall:=(hf y).2
 rcases hg with ⟨rfl,rfl⟩ | ⟨b,kd,rfl,h1,h2,h3,hkd⟩
 ·simp only[appV,Nat.one_ne_zero,if_false]
  rw[if_pos ⟨hall,by simpa using hb,by rw[maxLen_eq];omega⟩]
  exact k _ (by simp[new_get]) rfl fun l hl _=>by rw[new_get,if_neg (by omega)]
 ·have hlen:(xs.flatMap f).length=xs.length*sz:=flat_len (fun x=>(hf x).1) xs
  have hnx : ∀o,(appH (kd.isEx&&decide (xs.length<xs.length+1)) K b o).nx=K.nx+1:=fun o=>by unfold appH;split<;>rfl
  have hat : ∀o,(appH (kd.isEx&&decide (xs.length<xs.length+1)) K b o).ob K.nx=o:=fun o=>by
   unfold appH;split<;>(simp only[CH.new,CH.set];simp)
  have hot : ∀o l,l<K.nx→l≠b→(appH (kd.isEx&&decide (xs.length<xs.length+1)) K b o).ob l=K.ob l:=fun o l hl hb=>by
   unfold appH
   split
   ·rw[new_get,if_neg (by omega)]
   ·rw[new_get,if_neg (by show l≠K.nx;omega),set_get,if_neg hb]
  simp only[appV,h3,Nat.one_ne_zero,if_false]
  rw[if_pos ⟨trivial,trivial,hkd,by rw[hlen];exact Nat.le_refl _,hall,hb,by rw[maxLen_eq];exact hm⟩]
  refine k _ ?_ (hnx _) fun l hl hne=>hot _ l hl ?_
  ·rw[hat,←hlen,List.take_length,List.flatMap_append]
   simp
  ·rintro rfl
   exact hne _ _ _ rfl
abbrev offB(v:Value)(b:Nat):Prop:=∀o n c,v≠ .slice (some ⟨b,o,none⟩) n c
def L1 (N:Nat):Prop:=∀(n:Nd) (ρ:Bs→Nat) (c:Nat),SizeOf.sizeOf n<N→c≤(renP itT ρ c n).2∧(renP itT ρ c n).2≤c+szN n
def L2 (N:Nat):Prop:=∀(ks:List Nd) (ρ:Bs→Nat) (c:Nat),SizeOf.sizeOf ks<N→c≤(renL itT ρ c ks).2∧(renL itT ρ c ks).2≤c+szL ks
def L3 (N:Nat):Prop:=∀(ks:List Nd) (ρ ρ0:Bs→Nat) (f:Bool) (c:Nat),SizeOf.sizeOf ks<N→c≤(renC itT ρ ρ0 f c ks).2∧(renC itT ρ ρ0 f c ks).2≤c+szL ks
theorem renC_cons(it:Nat→Bs)(ρ ρ0:Bs→Nat)(f:Bool)(c:Nat)(n:Nd)(ns:List Nd):(∃k l x o p e,n= .mk k l x o [p,e]∧k=58∧f=true∧renC it ρ ρ0 f c (n::ns)=(.mk k l x o [(renP it ρ c p).1,(renP it ρ0 (renP it ρ c p).2 e).1]::(renC it ρ ρ0 false (renP it ρ0 (renP it ρ c p).2 e).2 ns).1,(renC it ρ ρ0 false (renP it ρ0 (renP it ρ c p).2 e).2 ns).2))∨(¬(n.kind=58∧f=true∧n.kids.length=2)∧renC it ρ ρ0 f c (n::ns)=((renP it ρ c n).1::(renC it ρ ρ0 f (renP it ρ c n).2 ns).1,(renC it ρ ρ0 f (renP it ρ c n).2 ns).2)):=by
 by_cases h2 : ∃a b,n.kids= [a,b]
 ·obtain⟨k,l,x,o,ks⟩:=n
  obtain⟨a,b,rfl⟩:=h2
  by_cases hk:k=58∧f=true
  ·refine .inl ⟨k,l,x,o,a,b,rfl,hk.1,hk.2,?_⟩
   rw[renC,if_pos hk]
  ·refine .inr ⟨fun h=>hk ⟨h.1,h.2.1⟩,?_⟩
   rw[renC,if_neg hk]
 ·refine .inr ⟨fun h=>h2 ?_,?_⟩
  ·match hn:n.kids,h.2.2 with
   | [a,b],_=>exact⟨a,b,rfl⟩
  ·rw[renC]
   exact fun k l x o p e h=>h2 ⟨p,e,by rw[h];rfl⟩
theorem ren_le(N:Nat):L1 N∧L2 N∧L3 N:=by
 induction N with
 | zero=>exact⟨fun _ _ _ h=>absurd h (Nat.not_lt_zero _),fun _ _ _ h=>absurd h (Nat.not_lt_zero _),fun _ _ _ _ _ h=>absurd h (Nat.not_lt_zero _)⟩
 | succ N ih=>
   obtain⟨i1,i2,i3⟩:=ih
   refine⟨fun n ρ c h=> ?_,fun ks ρ c h=> ?_,fun ks ρ ρ0 f c h=> ?_⟩
   ·obtain⟨k,l,x,o,ks⟩:=n
    have hs:SizeOf.sizeOf ks<N:=by simp at h;omega
    rw[renP,szN]
    split
    ·have:=i3 ks (wi ρ (ownL ks) (c+1)) ρ true (c+1) hs
     exact⟨by show c≤(renC itT _ _ _ _ _).2;omega,by show(renC itT _ _ _ _ _).2≤_;omega⟩
    ·have:=i2 ks (if k=8∨k=50 then wo ρ (kid0 ks).kids else ρ) c hs
     exact⟨by show c≤(renL itT _ _ _).2;omega,by show(renL itT _ _ _).2≤_;omega⟩
   ·cases ks with
    | nil=>exact⟨Nat.le_refl _,Nat.le_refl _⟩
    | cons n ks=>
      simp at h
      have h1:=i1 n ρ c (by omega)
      have h2:=i2 ks ρ (renP itT ρ c n).2 (by omega)
      rw[renL,szL]
      exact⟨by show c≤(renL itT _ _ _).2;omega,by show(renL itT _ _ _).2≤_;omega⟩
   ·cases ks with
    | nil=>exact⟨by simp[renC],by simp[renC,szL]⟩
    | cons n ks=>
      rcases renC_cons itT ρ ρ0 f c n ks with ⟨k,l,x,o,p,e,rfl,_,_,e1⟩ | ⟨_,e1⟩
      ·simp at h
       have h1:=i1 p ρ c (by omega)
       have h2:=i1 e ρ0 (renP itT ρ c p).2 (by omega)
       have h3:=i3 ks ρ ρ0 false (renP itT ρ0 (renP itT ρ c p).2 e).2 (by omega)
       rw[e1]
       simp only[szL,szN]
       exact⟨by show c≤(renC itT _ _ _ _ _).2;omega,by show(renC itT _ _ _ _ _).2≤_;omega⟩
      ·simp at h
       have h1:=i1 n ρ c (by omega)
       have h2:=i3 ks ρ ρ0 f (renP itT ρ c n).2 (by omega)
       rw[e1]
       simp only[szL]
       exact⟨by show c≤(renC itT _ _ _ _ _).2;omega,by show(renC itT _ _ _ _ _).2≤_;omega⟩
theorem renP_le(n:Nd)(ρ:Bs→Nat)(c:Nat):c≤(renP itT ρ c n).2∧(renP itT ρ c n).2≤c+szN n:=(ren_le (SizeOf.sizeOf n+1)).1 n ρ c (Nat.lt_succ_self _)
def AccAt(K0 K1:CH)(v:Value)(ns:List Nd):Prop:=∃acc:List N5,acc.length=ns.length∧(ns= []→v= .slice none 0 0)∧Grw K0 26 5 n5V K1 v acc∧SVRs K1 (fun b=>K0.nx≤b∧b<K1.nx∧offB v b) (ndsS ns).flatten (acc.flatMap n5V)
theorem AccAt.nil{K0 K1:CH}:AccAt K0 K1 (.slice none 0 0) []:=⟨[],rfl,fun _=>rfl, .inl ⟨rfl,rfl⟩, .nil⟩
theorem AccAt.blk{K0 K1:CH}{v:Value}{ns:List Nd}(h:AccAt K0 K1 v ns){b o n c:Nat}(e:v= .slice (some ⟨b,o,none⟩) n c):K0.nx≤b∧b<K1.nx:=by
 obtain⟨acc,_,_,hG,_⟩:=h
 rcases hG with ⟨_,g⟩ | ⟨b',kd',g,g1,g2,_⟩
 ·rw[g] at e;cases e
 ·rw[g] at e;cases e;exact⟨g1,g2⟩
theorem AccAt.mv{K0 K1 K2:CH}{v:Value}{ns:List Nd}(h:AccAt K0 K1 v ns)(hn:K1.nx≤K2.nx)(hx : ∀b,K0.nx≤b→b<K1.nx→K2.ob b=K1.ob b):AccAt K0 K2 v ns:=by
 obtain⟨acc,h1,h2,hG,hS⟩:=h
 refine⟨acc,h1,h2,?_,hS.mv fun b hb=>⟨⟨hb.1,by omega,hb.2.2⟩,hx b hb.1 hb.2.1⟩⟩
 rcases hG with g | ⟨b',kd',g,g1,g2,g3,g4⟩
 ·exact .inl g
 ·exact .inr ⟨b',kd',g,g1,by omega,(hx b' g1 g2).trans g3,g4⟩
theorem AccAt.ex{K0 K1 K2:CH}{v:Value}{ns:List Nd}(h:AccAt K0 K1 v ns){bc:Nat}(hx:HEx bc K1 K2)(hb:bc<K0.nx):AccAt K0 K2 v ns:=h.mv hx.nx fun b h1 h2=>hx.ob b h2 (by omega)
theorem AccAt.app{K0 K1:CH}{v:Value}{ns:List Nd}{n:Nd}{nd:N5}(h:AccAt K0 K1 v ns)(h0:K0.nx≤K1.nx)(hs:SVRs K1 (fun b=>K0.nx≤b∧b<K1.nx∧offB v b) (ndS n) (n5V nd))(hl:ns.length≤2199023255551){Q:Value→CH→Prop}(k : ∀v' K',K1.nx≤K'.nx→(∀l,l<K0.nx→K'.ob l=K1.ob l)→AccAt K0 K' v' (ns++ [n])→Q v' K'):optW (appV 26 5 64 v (n5V nd) 1 K1) Q:=by
 have hvb:= @AccAt.blk _ _ _ _ h
 obtain⟨acc,h1,h2,hG,hS⟩:=h
 refine optW_one (y:=nd) n5V_ok hG (by omega) (by omega) rfl fun K' k1 k2 k3=>k _ _ (by omega) (fun l hl=>k3 l (by omega) fun o n c e=>by have:=(hvb e).1;omega) ⟨acc++ [nd],by simp[h1],fun e=>by simp at e, .inr ⟨K1.nx, .gr,by simp,h0,by omega,k1,rfl⟩,?_⟩
 rw[ndsS_app,List.flatten_append,List.flatMap_append]
 refine SVRs.app (hS.mv fun b ⟨g1,g2,g3⟩=>⟨⟨g1,by omega,fun o n c e=>by cases e;omega⟩,k3 b g2 g3⟩) ?_
 have e1:(ndsS [n]).flatten=ndS n:=by simp[ndsS]
 have e2 : [nd].flatMap n5V=n5V nd:=by simp
 rw[e1,e2]
 exact hs.mv fun b ⟨g1,g2,g3⟩=>⟨⟨g1,by omega,fun o n c e=>by cases e;omega⟩,k3 b g2 g3⟩
theorem AccAt.done{K0 K1:CH}{v:Value}{ns:List Nd}(h:AccAt K0 K1 v ns)(hl:ns.length≤2199023255552) : ∃va,v= .slice va ns.length ns.length∧SVR K1 (fun b=>K0.nx≤b∧b<K1.nx) (.row 5 (ndsS ns)) v:=by
 obtain⟨acc,h1,h2,hG,hS⟩:=h
 by_cases hn:ns= []
 ·subst hn
  rw[h2 rfl]
  exact⟨none,rfl, .row0⟩
 ·rcases hG with ⟨e,rfl⟩ | ⟨b,kd,rfl,g1,g2,g3,g4⟩
  ·rw[e] at h1;exact absurd (List.length_eq_zero_iff.1 h1.symm) hn
  ·refine⟨_,by rw[h1],?_⟩
   have e:=SVR.row (A:=fun b=>K0.nx≤b∧b<K1.nx) (sz:=5) (gs:=ndsS ns) ⟨fun e=>hn (List.length_eq_zero_iff.1 (by rw[←ndsS_len (a:=ns),e];rfl)),by rw[ndsS_len,maxLen_eq];omega⟩ ⟨g1,g2⟩ g3 g4 ndsS_all (hS.mv fun b hb=>⟨⟨hb.1,hb.2.1⟩,rfl⟩) (fun _=>by rfl)
   rw[ndsS_len] at e
   rw[h1]
   exact e
structure WK(K:CH)(bc bw be c:Nat):Prop where
 c:K.ob bc= .cells [.int .i64 (c:Nat)] 3 .ex
 w : ∃e,K.ob bw= .cells [.func (.func 25) #[] #[pN bc,pN bw,pN be]] e .ex
 e : ∃e,K.ob be= .cells [.func (.func 24) #[] #[pN bw]] e .ex
 lt:bc<K.nx∧bw<K.nx∧be<K.nx
 pw:PowAt K
theorem WK.ex{K K':CH}{bc bw be c c':Nat}(h:WK K bc bw be c)(hx:HEx bc K K')(hc:K'.ob bc= .cells [.int .i64 (c':Nat)] 3 .ex):WK K' bc bw be c':=by
 obtain⟨e1,h1⟩:=h.w
 obtain⟨e2,h2⟩:=h.e
 obtain⟨p0,e3,h3⟩:=h.pw
 obtain⟨l1,l2,l3⟩:=h.lt
 have hn:=hx.nx
 have n1:bw≠bc:=fun e=>by rw[e,h.c] at h1;cases h1
 have n2:be≠bc:=fun e=>by rw[e,h.c] at h2;cases h2
 have n3:0≠bc:=fun e=>by rw[e,h.c] at h3;cases h3
 exact⟨hc,⟨e1,(hx.ob _ l2 n1).trans h1⟩,⟨e2,(hx.ob _ l3 n2).trans h2⟩,⟨by omega,by omega,by omega⟩,by omega,e3,(hx.ob _ p0 n3).trans h3⟩
theorem WK.hx{K K':CH}{bc bw be c:Nat}(h:WK K bc bw be c)(hx:HExt K K'):WK K' bc bw be c:=h.ex hx.ex ((hx.ob _ h.lt.1).trans h.c)
theorem NmAt.ex{K K':CH}{l k bc:Nat}{f:ByteArray→Option Int}(h:NmAt K l f k)(hl:l<K.nx)(hx:HEx bc K K')(hb : ∃cs e kd,K.ob bc= .cells cs e kd):NmAt K' l f k:=h.ext (hx.ob l hl fun e=>by
 obtain⟨cs,e',kd,hb⟩:=hb
 subst e
 rcases h with h | ⟨h,_⟩<;>(rw[hb] at h;cases h))
def RnQ (K:CH)(bc:Nat)(r:Nd×Nat)(v:Value)(K':CH):Prop:=HEx bc K K'∧K'.ob bc= .cells [.int .i64 (r.2:Nat)] 3 .ex∧∃os,v= .agg os.toArray∧SVRs K' (fun b=>K.nx≤b∧b<K'.nx) (ndS r.1) os
def WalkOk(S B bc bw be N:Nat):Prop:=∀(t:Nd),htN t≤N→szN t≤S→kdN B t→txD t→∀(K:CH) (A:Nat→Prop) (os:List Value) (ρ:Bs→Nat) (f:ByteArray→Option Int) (k l c:Nat),SVRs K A (ndS t) os→(∀b,A b→b<K.nx∧b≠bc)→WK K bc bw be c→NmAt K l f k→l<K.nx→RF ρ f→(∀y,ρ y≤c)→c+szN t≤2305843009213693952→k+N*S≤2305843009213693952→WpF TRn 25 [.agg os.toArray, .map (some l),pN bc,pN bw,pN be] K (RnQ K bc (renP itT ρ c t))
def EaQ (K:CH)(bc:Nat)(r:List Nd×Nat)(v:Value)(K':CH):Prop:=HEx bc K K'∧K'.ob bc= .cells [.int .i64 (r.2:Nat)] 3 .ex∧SVR K' (fun b=>K.nx≤b∧b<K'.nx) (.row 5 (ndsS r.1)) v
def EaJ (K0:CH)(bc bw be:Nat)(ρ:Bs→Nat)(c0:Nat)(ks:List Nd)(n:Nat)(v6 v11:Value)(K1:CH):Prop:=∃(i c:Nat) (ns:List Nd),n=ks.length-i∧i≤ks.length∧v11= .int .i64 (i:Nat)∧HEx bc K0 K1∧WK K1 bc bw be c∧c0≤c∧c+szL (ks.drop i)≤2305843009213693952∧ns.length=i∧AccAt K0 K1 v6 ns∧renL itT ρ c0 ks=(ns++(renL itT ρ c (ks.drop i)).1,(renL itT ρ c (ks.drop i)).2)
theorem each_wp{S B bc bw be N:Nat}(ih:WalkOk S B bc bw be N)(hB:B+16≤4398046511104){ks:List Nd}(hh:htL ks≤N)(hz:szL ks≤S)(hk1:2*ks.length≤B+16)(hk2:kdL B ks)(hT:txDL ks){K:CH}{A:Nat→Prop}{q:Option Addr}{ρ:Bs→Nat}{f:ByteArray→Option Int}{k l c:Nat}(hrow:SVR K A (.row 5 (ndsS ks)) (.slice q ks.length ks.length))(hA : ∀b,A b→b<K.nx∧b≠bc)(hw:WK K bc bw be c)(hf:NmAt K l f k)(hl:l<K.nx)(hr:RF ρ f)(hρ : ∀y,ρ y≤c)(hc:c+szL ks≤2305843009213693952)(hk:k+N*S≤2305843009213693952) :
 WpF TRn 24 [.slice q ks.length ks.length, .map (some l),pN bw] K (EaQ K bc (renL itT ρ c ks)):=by
 obtain⟨q',e,hmx,hnil,hat⟩:=row_at hrow
 cases e
 rw[maxLen_eq] at hmx
 refine wpF_rS (by rfl) (by kernel_rfl) ?_;(conv in (rF _ _).body=>reduce);(conv in (rF _ _).res=>reduce)
 refine rn0 ?_
 refine loop_w (fun n fr K1=>EaJ K bc bw be ρ c ks n (fr 6) (fr 11) K1) (n:=ks.length) ⟨0,c,[],rfl,Nat.zero_le _,by(refine rn0 ?_;all_goals rfl),HEx.refl K,hw,Nat.le_refl _,hc,rfl,by(refine rn0 ?_;exact AccAt.nil),rfl⟩ ?_
 rintro n fr K1 ⟨i,c1,ns,rfl,hi,f11,hx,hw1,hc1,hs1,hns,hacc,hren⟩ hag
 have hnx:=hx.nx
 obtain⟨lc,lw,le⟩:=hw.lt
 by_cases hil:i<ks.length
 ·obtain⟨t,ht⟩ : ∃t,ks[i]? = some t:=⟨_,List.getElem?_eq_getElem hil⟩
  obtain⟨b,cs,e,kd,hqq,hb,ob,hkd,hcl,hc5,hst⟩:=hat i t ht
  have ob1:=(hx.ob b (hA b hb).1 (hA b hb).2).trans ob
  obtain⟨k',l',x',o',wa,wn,wc,hnc⟩:=nd_cells hst
  have hmem:=List.mem_of_getElem? ht
  have hdr:ks.drop i=t::ks.drop (i+1):=by
   obtain⟨_,e⟩:=List.getElem?_eq_some_iff.1 ht
   rw[List.drop_eq_getElem_cons hil,e]
  obtain⟨ew,how⟩:=hw1.w
  have hsz:szN t+szL (ks.drop (i+1))=szL (ks.drop i):=by rw[hdr];rfl
  have hszt:szN t≤szL ks:=by
   have e:szL ks=szL (ks.take i)+szL (ks.drop i):=by rw[←szL_app,List.take_append_drop]
   omega
  have hx0:HExt K1 (K1.new (.cells [.int .i64 k', .int .i64 l', .string x', .int .i64 o', .slice wa wn wc] 26 .ex)):=(HExt.refl K1).new _
  have hcall:=ih t (Nat.le_trans (ht_mem hmem) hh) (by omega) (kdL_mem hk2 hmem) (txD_mem hT hmem) (K1.new (.cells [.int .i64 k', .int .i64 l', .string x', .int .i64 o', .slice wa wn wc] 26 .ex)) A _ ρ f k l c1 (hst.mv fun b hb=>⟨hb,(hx0.ob _ (by have:=(hA b hb).1;omega)).trans (hx.ob b (hA b hb).1 (hA b hb).2)⟩) (fun b hb=>⟨by have:=(hA b hb).1;show b<K1.nx+1;omega,(hA b hb).2⟩) (hw1.hx hx0) ((hf.ex hl hx ⟨_,_,_,hw.c⟩).ext (hx0.ob _ (by omega))) (by show l<K1.nx+1;omega) hr (fun y=>Nat.le_trans (hρ y) hc1) (by omega) hk
  rw[hnc] at hcall
  refine rn (an @hag (an @f11 (an @hqq (an @ob1 (an @hnc (an @how (an @Nat.zero_add @new_set))))))) ?_
  refine hcall.mono fun v K2 ⟨hx2,o2,os2,e2,hs2⟩=> ?_
  subst e2
  obtain⟨nd,rfl⟩:=nd_n5 hs2
  repeat' (first | (simp (disch:=first | omega | (decide +kernel)) only[↓RD,RU,↓putF_get,↓evF_t,new_get,aop,akV,isVal,Value.cells,ρ0,ρ1,ρ4,↓reduceIte,Nat.reduceEqDiff,Nat.reduceAdd,reduceCtorEq,ρ7,ρ8,srcR_c,ρ15,ρ16,ρ18,ρ19,ρ20,ρ25,ρ26,bldV,Nat.reduceLeDiff,appS_some,n5V,Nat.zero_mul,zeros]) | (with_reducible first | refine condK_dec (fun _=> ?_) fun _=> ?_ | refine grd_dec (fun _=> ?_) fun _=> ?_ | refine egrd_dec (fun _=> ?_) fun _=> ?_))
  have hn2:K1.nx+1≤K2.nx:=hx2.nx
  have hx3:HEx bc K1 K2:=hx0.ex.trans hx2
  have hx4:HExt K2 (K2.new (.cells (n5V nd) 26 .ex)):=(HExt.refl K2).new _
  have hx5:HEx bc K1 (K2.new (.cells (n5V nd) 26 .ex)):=hx3.trans hx4.ex
  refine AccAt.app (n:=(renP itT ρ c1 t).1) (hacc.ex hx5 lc) (by show K.nx≤K2.nx+1;omega) (hs2.mv fun b hb=>⟨⟨by have:=hb.1;have:K1.nx+1≤b:=this;omega,Nat.lt_succ_of_lt hb.2,fun o n c e=>by have:=(hacc.blk e).2;have:K1.nx+1≤b:=hb.1;omega⟩,hx4.ob b hb.2⟩) (by omega) fun v' K3 k1 k2 k3=> ?_
  refine rn (an @hag @f11) ?_
  have hx6:HEx bc K K3:=⟨Nat.le_trans (by show K.nx≤K2.nx+1;omega) k1,fun b hb hbc=>(k2 b hb).trans ((hx5.ob b (by omega) hbc).trans (hx.ob b hb hbc))⟩
  refine⟨ks.length-(i+1),by omega,i+1,(renP itT ρ c1 t).2,ns++ [(renP itT ρ c1 t).1],rfl,hil,rfl,hx6,hw.ex hx6 ((k2 bc lc).trans ((hx4.ob bc (by omega)).trans o2)),?_,?_,by simp[hns],k3,?_⟩
  ·exact Nat.le_trans hc1 (renP_le _ _ _).1
  ·have:=(renP_le t ρ c1).2
   omega
  ·rw[hren,hdr,renL]
   simp
 ·have hil:i=ks.length:=by omega
  subst hil
  rw[List.drop_length] at hren
  refine rn (an @hag @f11) ?_
  obtain⟨va,ev,hv⟩:=hacc.done (by omega)
  have e1:renL itT ρ c ks=(ns,c1):=by rw[hren];simp[renL]
  rw[e1]
  exact⟨hx,hw1.c,hv⟩
end Can
end Go.Proofs.YticlaccbodpkeaaGreatDoor
end
section
namespace Go.Proofs.YticlaccbodpkeaaGreatDoor
namespace Can
open Go Go.RowKit
set_option linter.unusedSimpArgs false
set_option linter.unusedVariables false
set_option maxRecDepth 4000
noncomputable def coL:RCode:=match (rF Tryz.prog 25).body with
 | .seq _ (.seq (.seq _ (.block _ (.seq _ (.cond _ _ (.seq _ (.cond _ _ (.seq _ (.cond _ (.seq _ (.seq _ (.seq _ (.seq _ (.seq _ (.seq (.seq _ (.block _ L)) _)))))) _)))))))) _)=>L
 | _=> .skip
def CoJ (K0:CH)(bc bw be:Nat)(σ ρ:Bs→Nat)(c0:Nat)(ks:List Nd)(n:Nat)(v10 v11 v55:Value)(K1:CH):Prop:=∃(i c:Nat) (first:Bool) (ns:List Nd),n=ks.length-i∧i≤ks.length∧v10= .bool first∧v55= .int .i64 (i:Nat)∧HEx bc K0 K1∧WK K1 bc bw be c∧c0≤c∧c+szL (ks.drop i)≤2305843009213693952∧ns.length=i∧AccAt K0 K1 v11 ns∧renC itT σ ρ true c0 ks=(ns++(renC itT σ ρ first c (ks.drop i)).1,(renC itT σ ρ first c (ks.drop i)).2)
theorem new_at{K:CH}{o:CObj}:(K.new o).ob K.nx=o:=by rw[new_get,if_pos rfl]
theorem zn1:List.drop 5 (zeros [.int .i64 0, .int .i64 0, .string ⟨⟨[]⟩⟩, .int .i64 0, .slice none 0 0] 5)= []:=rfl
theorem zn2:List.drop 5 (List.drop 5 (zeros [.int .i64 0, .int .i64 0, .string ⟨⟨[]⟩⟩, .int .i64 0, .slice none 0 0] (2*5)))= []:=rfl
theorem pair_acc{K K3 K4 K5 Kf:CH}{bc:Nat}{v:Value}{ns:List Nd}{n4 n5:N5}{a b:Nd}{k2 o2:Nat}{l2:Int}{x2:Bs}{oB oP o1 o2':CObj}(hacc:AccAt K K3 v ns)(hlc:bc<K.nx)(hnx:K.nx≤K3.nx)(hx4:HEx bc (K3.new oB) K4)(hx5:HEx bc (K4.new oP) K5)(hs4:SVRs K4 (fun b=>(K3.new oB).nx≤b∧b<K4.nx) (ndS a) (n5V n4))(hs5:SVRs K5 (fun b=>(K4.new oP).nx≤b∧b<K5.nx) (ndS b) (n5V n5))
 (e:Kf=((K5.new (.cells (n5V n4++n5V n5) 26 .ex)).set K3.nx o1).new o2'):AccAt K Kf v ns∧SVRs Kf (fun b=>K.nx≤b∧b<Kf.nx∧offB v b) (ndS (.mk k2 l2 x2 o2 [a,b])) (n5V ⟨(k2:Nat),l2,tx x2,(o2:Nat),some ⟨K5.nx,0,none⟩,2,2⟩)∧HEx bc K3 Kf∧Kf.nx=K5.nx+2∧Kf.ob bc=K5.ob bc:=by
 have n4':K3.nx+1≤K4.nx:=hx4.nx
 have n5':K4.nx+1≤K5.nx:=hx5.nx
 have hKf : ∀b,b<K5.nx→b≠K3.nx→Kf.ob b=K5.ob b:=fun b h1 h2=>by
  rw[e,new_ne (by show b≠K5.nx+1;omega),set_ne' h2,new_ne (by omega)]
 have hK5 : ∀b,b<K4.nx→b≠bc→K5.ob b=K4.ob b:=fun b h1 h2=>(hx5.ob b (by show b<K4.nx+1;omega) h2).trans (new_ne (by omega))
 have hK4 : ∀b,b<K3.nx→b≠bc→K4.ob b=K3.ob b:=fun b h1 h2=>(hx4.ob b (by show b<K3.nx+1;omega) h2).trans (new_ne (by omega))
 have hnf:Kf.nx=K5.nx+2:=by rw[e];rfl
 have hKr:Kf.ob K5.nx= .cells (n5V n4++n5V n5) 26 .ex:=by
  rw[e,new_ne (by show K5.nx≠K5.nx+1;omega),set_ne' (by omega),new_at]
 have hvb:= @AccAt.blk _ _ _ _ hacc
 have off : ∀b,K3.nx≤b→offB v b:=fun b hb o n c e=>by have:=(hvb e).2;omega
 have hx:HEx bc K3 Kf:=⟨by omega,fun b h1 h2=>(hKf b (by omega) (by omega)).trans ((hK5 b (by omega) h2).trans (hK4 b h1 h2))⟩
 refine⟨hacc.ex hx hlc, .cons (.sc rfl) (.cons (.sc rfl) (.cons (.sc rfl) (.cons (.sc rfl) (.cons (SVR.row (sz:=5) (gs:=ndsS [a,b]) ⟨fun h=>(by simp[ndsS] at h),by rw[ndsS_len,maxLen_eq];show 2≤_;omega⟩ ⟨by omega,by omega,off _ (by omega)⟩ hKr rfl ndsS_all ?_ (fun _=>by rfl)) .nil)))),hx,hnf,hKf bc (by omega) (by omega)⟩
 rw[show(ndsS [a,b]).flatten=ndS a++ndS b by simp[ndsS]]
 exact SVRs.app (hs4.mv fun b ⟨h1,h2⟩=>⟨⟨by have:K3.nx+1≤b:=h1;omega,by omega,off b (by have:K3.nx+1≤b:=h1;omega)⟩,(hKf b (by omega) (by have:K3.nx+1≤b:=h1;omega)).trans (hK5 b h2 (by have:K3.nx+1≤b:=h1;omega))⟩) (hs5.mv fun b ⟨h1,h2⟩=>⟨⟨by have:K4.nx+1≤b:=h1;omega,by omega,off b (by have:K4.nx+1≤b:=h1;omega)⟩,hKf b h2 (by have:K4.nx+1≤b:=h1;omega)⟩)
set_option maxHeartbeats 2000000 in
theorem comp_loop{S B bc bw be N:Nat}(hB:B+16≤4398046511104)(ih:WalkOk S B bc bw be N){ks:List Nd}(hh:htL ks≤N)(hz:szL ks≤S)(hk1:2*ks.length≤B+16)(hk2:kdL B ks)(hT:txDL ks){K:CH}{A:Nat→Prop}{q:Option Addr}{ρ σ:Bs→Nat}{f f1:ByteArray→Option Int}{k k1 l l1 c:Nat}(hrow:SVR K A (.row 5 (ndsS ks)) (.slice q ks.length ks.length))(hA : ∀b,A b→b<K.nx∧b≠bc)(hw:WK K bc bw be c)
 (hf:NmAt K l f k) (hl:l<K.nx) (hr:RF ρ f) (hρ : ∀y,ρ y≤c) (hf1:NmAt K l1 f1 k1) (hl1:l1<K.nx) (hr1:RF σ f1) (hσ : ∀y,σ y≤c) (hc:c+szL ks≤2305843009213693952) (hk:k+N*S≤2305843009213693952) (hk1':k1+N*S≤2305843009213693952) {fr:Fr} (f1':fr 1= .map (some l1)) (f3:fr 3=pN bw) (f9:fr 9= .map (some l)) (f53:fr 53= .slice q ks.length ks.length) (f54:fr 54= .int .i64 (ks.length:Nat)) (f10:fr 10= .bool true) (f11:fr 11= .slice none 0 0) (f55:fr 55= .int .i64 0) {Q:CExit→Fr→CH→Prop}
 (hQ : ∀fr' K3 ns c',fr' 5=fr 5→fr' 7=fr 7→HEx bc K K3→WK K3 bc bw be c'→AccAt K K3 (fr' 11) ns→renC itT σ ρ true c ks=(ns,c')→ns.length=ks.length→Q (.exit 1) fr' K3):WpR TRn coL fr K Q:=by
 obtain⟨q',e,hmx,hnil,hat⟩:=row_at hrow
 cases e
 rw[maxLen_eq] at hmx
 obtain⟨lc,lw,le⟩:=hw.lt
 have e:coL=_:=rfl
 conv at e=>rhs;reduce
 rw[e]
 clear e
 refine loop_w (fun n fr K3=>CoJ K bc bw be σ ρ c ks n (fr 10) (fr 11) (fr 55) K3) (n:=ks.length) ⟨0,c,true,[],rfl,Nat.zero_le _,f10,f55,HEx.refl K,hw,Nat.le_refl _,hc,rfl,by rw[f11];exact AccAt.nil,rfl⟩ ?_
 rintro n fr K3 ⟨i,c1,first,ns,rfl,hi,f10,f55,hx,hw3,hc1,hs1,hns,hacc,hren⟩ hag
 have hnx:=hx.nx
 have hKb : ∀b,A b→K3.ob b=K.ob b:=fun b hb=>hx.ob b (hA b hb).1 (hA b hb).2
 by_cases hil:i<ks.length
 ·obtain⟨t,ht⟩ : ∃t,ks[i]? = some t:=⟨_,List.getElem?_eq_getElem hil⟩
  obtain⟨b,cs,e,kd,hqq,hb,ob,hkd,hcl,hc5,hst⟩:=hat i t ht
  have ob1:=(hKb b hb).trans ob
  have hmem:=List.mem_of_getElem? ht
  have hdr:ks.drop i=t::ks.drop (i+1):=by
   obtain⟨_,e⟩:=List.getElem?_eq_some_iff.1 ht
   rw[List.drop_eq_getElem_cons hil,e]
  obtain⟨ew,how⟩:=hw3.w
  rw[hdr] at hren
  have hszt:szN t+szL (ks.drop (i+1))=szL (ks.drop i):=by rw[hdr];rfl
  have hszk:szL ks=szL (ks.take i)+szL (ks.drop i):=by rw[←szL_app,List.take_append_drop]
  have hht:=ht_mem hmem
  rcases renC_cons itT σ ρ first c1 t (ks.drop (i+1)) with ⟨k2,l2,x2,o2,p,ee,rfl,rfl,rfl,er⟩ | ⟨hno,er⟩
  ·obtain⟨tq,hnc,hrt⟩:=ndS_cells hst
   obtain⟨tq',e',_,_,hat2⟩:=row_at hrt
   cases e'
   obtain⟨b2,cs2,e2,kd2,rfl,hb2',ob2,_,hcl2,_,hsp⟩:=hat2 0 p rfl
   obtain⟨b3,cs3,e3,kd3,e4,_,ob3,_,_,_,hse⟩:=hat2 1 ee rfl
   cases e4
   rw[ob2] at ob3
   cases ob3
   obtain⟨np,hnp⟩:=nd_n5 hsp
   obtain⟨ne,hne⟩:=nd_n5 hse
   have hl10:cs2.length=10:=hcl2
   have ob2':=(hKb b2 hb2').trans ob2
   have hb2n:=(hA b2 hb2').1
   have h0:HExt K3 (K3.new (.cells [.int .i64 ((58:Nat):Int), .int .i64 l2, .string (tx x2), .int .i64 (o2:Nat), .slice (some ⟨b2,0,none⟩) 2 2] 26 .ex)):=(HExt.refl K3).new _
   have hszp:szN (.mk 58 l2 x2 o2 [p,ee])=szN p+(szN ee+0)+1:=rfl
   simp only[htN,htL] at hht
   have hkt:=(kdL_mem hk2 hmem).2
   have hTt:=(txD_mem hT hmem).2
   have hcall1:=ih p (by omega) (by omega) hkt.1 hTt.1 _ A _ σ f1 k1 l1 c1 (hsp.mv fun b hb=>⟨hb,(h0.ob b (by have:=(hA b hb).1;omega)).trans (hKb b hb)⟩) (fun b hb=>⟨by have:=(hA b hb).1;have:=h0.nx;omega,(hA b hb).2⟩) (hw3.hx h0) ((hf1.ex hl1 hx ⟨_,_,_,hw.c⟩).ext (h0.ob l1 (by omega))) (by have:=h0.nx;omega) hr1 (fun y=>Nat.le_trans (hσ y) hc1) (by omega) hk1'
   rw[hnp] at hcall1
   repeat' (first | (simp (disch:=first | omega | (decide +kernel)) only[↓RD,RU,↓putF_get,↓putF_none,↓evF_t,↓evF_c,new_get,pop,lop,aop,wop,akV,isVal,isCell,Value.cells,ρ0,ρ1,↓reduceIte,Nat.reduceEqDiff,Nat.reduceAdd,Int.reduceOfNat,ρ5,ρ6,ρ7,ρ8,ρ17,ρ19,ρ20,ρ21,ρ22,ρ23,Kd.isRo,ρ25,ρ26,Nat.reduceLeDiff,Int.reduceToNat,ρ28,ρ29,hag,f1',f3,f53,f54,f10,f55,hqq,ob1,hnc,how,new_set,ob2',hnp,hl10,n5V]) | (with_reducible first | refine condK_dec (fun _=> ?_) fun _=> ?_ | refine grd_dec (fun _=> ?_) fun _=> ?_ | refine egrd_dec (fun _=> ?_) fun _=> ?_))
   refine hcall1.mono fun v K4 ⟨hx4,oc4,os4,ev,hs4⟩=> ?_
   subst ev
   obtain⟨n4,rfl⟩:=nd_n5 hs4
   have hn4:K3.nx+1≤K4.nx:=hx4.nx
   have hw4:WK K4 bc bw be _:=(hw3.hx h0).ex hx4 oc4
   have hx34:HEx bc K3 K4:=h0.ex.trans hx4
   have oB4:=(hx4.ob K3.nx (Nat.lt_succ_self _) (by omega)).trans new_at
   have h4:HExt K4 (K4.new (.cells (n5V n4) 26 .ex)):=(HExt.refl K4).new _
   have hle1:=renP_le p σ c1
   obtain⟨ew4,how4⟩:=hw4.w
   have hcall2:=ih ee (by omega) (by omega) hkt.2.1 hTt.2.1 _ A _ ρ f k l _ (hse.mv fun b hb=>⟨hb,(h4.ob b (by have:=(hA b hb).1;omega)).trans ((hx34.ob b (by have:=(hA b hb).1;omega) (hA b hb).2).trans (hKb b hb))⟩) (fun b hb=>⟨by have:=(hA b hb).1;have:=h4.nx;omega,(hA b hb).2⟩) (hw4.hx h4) (((hf.ex hl hx ⟨_,_,_,hw.c⟩).ex (by omega) hx34 ⟨_,_,_,hw3.c⟩).ext (h4.ob l (by omega))) (by have:=h4.nx;omega) hr (fun y=>by have:=hρ y;omega) (by omega) hk
   rw[hne] at hcall2
   have ob24:=(hx34.ob b2 (by omega) (hA b2 hb2').2).trans ob2'
   repeat' (first | (simp (disch:=first | omega | (decide +kernel)) only[↓RD,RU,accW_f,isW,↓putF_get,↓putF_none,↓evF_t,↓evF_c,new_get,pop,lop,aop,wop,akV,isVal,isCell,Value.cells,ρ0,ρ1,↓reduceIte,Nat.reduceEqDiff,Nat.reduceAdd,ρ5,ρ6,ρ7,ρ8,ρ17,ρ19,ρ20,ρ21,ρ22,ρ23,Kd.isRo,ρ25,ρ26,Int.reduceToNat,hag,f3,f9,how4,oB4,ob24,hne,hl10,n5V,new_set]) | (with_reducible first | refine condK_dec (fun _=> ?_) fun _=> ?_ | refine grd_dec (fun _=> ?_) fun _=> ?_ | refine egrd_dec (fun _=> ?_) fun _=> ?_))
   refine hcall2.mono fun v K5 ⟨hx5,oc5,os5,ev,hs5⟩=> ?_
   subst ev
   obtain⟨n5,rfl⟩:=nd_n5 hs5
   have hn5:K4.nx+1≤K5.nx:=hx5.nx
   have oB5:=(hx5.ob K3.nx (by show K3.nx<K4.nx+1;omega) (by omega)).trans ((h4.ob _ (by omega)).trans oB4)
   have o45:=(hx5.ob K4.nx (Nat.lt_succ_self _) (by omega)).trans new_at
   repeat' (first | (simp (disch:=first | omega | (decide +kernel)) only[↓RD,RU,accW_t,accW_f,isW,↓putF_get,↓putF_none,↓evF_t,new_nx,set_nx,new_get,set_get,pop,lop,aop,wop,akV,isVal,isCell,Value.cells,ρ0,ρ1,ρ4,↓reduceIte,Nat.reduceEqDiff,Nat.reduceAdd,reduceCtorEq,ρ5,ρ6,ρ7,ρ8,srcR_c,ρ15,ρ17,ρ18,ρ19,ρ20,ρ21,ρ22,ρ23,Kd.isRo,ρ25,ρ26,bldV,Nat.reduceLeDiff,appS_some,oB5,o45,n5V,Nat.zero_mul,zn1,zn2]) | (with_reducible first | refine condK_dec (fun _=> ?_) fun _=> ?_ | refine grd_dec (fun _=> ?_) fun _=> ?_ | refine egrd_dec (fun _=> ?_) fun _=> ?_))
   obtain⟨g1,g2,g3,g4,g5⟩:=pair_acc (k2:=58) (l2:=l2) (x2:=x2) (o2:=o2) (K:=K) (o1:= .cells [.int .i64 ((58:Nat):Int), .int .i64 l2, .string (tx x2), .int .i64 (o2:Nat), .slice (some ⟨K5.nx,0,none⟩) 2 2] 26 .ex) (o2':= .cells [.int .i64 ((58:Nat):Int), .int .i64 l2, .string (tx x2), .int .i64 (o2:Nat), .slice (some ⟨K5.nx,0,none⟩) 2 2] 26 .ex) hacc lc hnx hx4 hx5 hs4 hs5 rfl
   have hle2:=renP_le ee ρ (renP itT σ c1 p).2
   refine AccAt.app (nd:=⟨((58:Nat):Int),l2,tx x2,(o2:Nat),some ⟨K5.nx,0,none⟩,2,2⟩) g1 (Nat.le_trans hnx g3.nx) g2 (by omega) fun v' K6 k1 k2 k3=> ?_
   refine rn (an @hag @f55) ?_
   have hx6:HEx bc K K6:=⟨Nat.le_trans hnx (Nat.le_trans g3.nx k1),fun b hb hbc=>(k2 b hb).trans ((g3.ob b (by omega) hbc).trans (hx.ob b hb hbc))⟩
   refine⟨ks.length-(i+1),by omega,i+1,(renP itT ρ (renP itT σ c1 p).2 ee).2,false,ns++ [.mk 58 l2 x2 o2 [(renP itT σ c1 p).1,(renP itT ρ (renP itT σ c1 p).2 ee).1]],rfl,hil,rfl,rfl,hx6,hw.ex hx6 ((k2 bc lc).trans (g5.trans oc5)),by omega,by omega,by simp[hns],k3,?_⟩
   rw[hren,er]
   simp
  ·obtain⟨tk,tl,tx',to,tks⟩:=t
   obtain⟨tq,hnc,hrt⟩:=ndS_cells hst
   have h0:HExt K3 (K3.new (.cells [.int .i64 (tk:Nat), .int .i64 tl, .string (tx tx'), .int .i64 (to:Nat), .slice tq tks.length tks.length] 26 .ex)):=(HExt.refl K3).new _
   have hcall:=ih (.mk tk tl tx' to tks) (by omega) (by omega) (kdL_mem hk2 hmem) (txD_mem hT hmem) _ A _ σ f1 k1 l1 c1 (hst.mv fun b hb=>⟨hb,(h0.ob b (by have:=(hA b hb).1;omega)).trans (hKb b hb)⟩) (fun b hb=>⟨by have:=(hA b hb).1;have:=h0.nx;omega,(hA b hb).2⟩) (hw3.hx h0) ((hf1.ex hl1 hx ⟨_,_,_,hw.c⟩).ext (h0.ob l1 (by omega))) (by have:=h0.nx;omega) hr1 (fun y=>Nat.le_trans (hσ y) hc1) (by omega) hk1'
   rw[hnc] at hcall
   have hno : ¬(tk=58∧first=true∧tks.length=2):=hno
   have hsp:tk≠58∨(tk=58∧(first=false∨(first=true∧tks.length≠2))):=by
    cases first<;>simp at hno⊢<;>omega
   rcases hsp with h58 | ⟨rfl,rfl | ⟨rfl,h2⟩⟩
   all_goals
    refine rn (an @hag (an @f1' (an @f3 (an @f9 (an @f53 (an @f54 (an @f10 (an @f55 (an @hqq (an @ob1 (an @hnc (an @how (an @Nat.zero_add @new_set))))))))))))) ?_
    refine hcall.mono fun v K4 ⟨hx4,oc4,os4,ev,hs4⟩=> ?_
    subst ev
    obtain⟨n4,rfl⟩:=nd_n5 hs4
    have hn4:K3.nx+1≤K4.nx:=hx4.nx
    have hx34:HEx bc K3 K4:=h0.ex.trans hx4
    repeat' (first | (simp (disch:=first | omega | (decide +kernel)) only[↓RD,RU,↓putF_get,↓evF_t,new_get,aop,akV,isVal,Value.cells,ρ0,ρ1,ρ4,↓reduceIte,Nat.reduceEqDiff,Nat.reduceAdd,reduceCtorEq,ρ7,ρ8,srcR_c,ρ15,ρ18,ρ25,ρ26,bldV,Nat.reduceLeDiff,appS_some,n5V,Nat.zero_mul,zn1]) | (with_reducible first | refine condK_dec (fun _=> ?_) fun _=> ?_ | refine grd_dec (fun _=> ?_) fun _=> ?_ | refine egrd_dec (fun _=> ?_) fun _=> ?_))
    have h4:HExt K4 (K4.new (.cells (n5V n4) 26 .ex)):=(HExt.refl K4).new _
    have h35:HEx bc K3 (K4.new (.cells (n5V n4) 26 .ex)):=hx34.trans h4.ex
    have hle1:=fun t=>renP_le t σ c1
    refine AccAt.app (nd:=n4) (hacc.ex h35 lc) (by show K.nx≤K4.nx+1;omega) (hs4.mv fun b hb=>⟨⟨by have:K3.nx+1≤b:=hb.1;omega,Nat.lt_succ_of_lt hb.2,fun o n c e=>by have:=(hacc.blk e).2;have:K3.nx+1≤b:=hb.1;omega⟩,h4.ob b hb.2⟩) (by omega) fun v' K6 k1 k2 k3=> ?_
    refine rn (an @hag @f55) ?_
    have hx6:HEx bc K K6:=⟨Nat.le_trans hnx (Nat.le_trans h35.nx k1),fun b hb hbc=>(k2 b hb).trans ((h35.ob b (by omega) hbc).trans (hx.ob b hb hbc))⟩
    refine⟨ks.length-(i+1),by omega,i+1,_,_,_,rfl,hil,by(refine rn (an @hag @f10) ?_;all_goals rfl),rfl,hx6,hw.ex hx6 ((k2 bc lc).trans ((h4.ob bc (by omega)).trans oc4)),Nat.le_trans hc1 (hle1 _).1,Nat.le_trans (Nat.add_le_add_right (hle1 _).2 _) (by omega),by simp[hns],k3,?_⟩
    rw[hren,er]
    simp
 ·have hil:i=ks.length:=by omega
  subst hil
  rw[List.drop_length] at hren
  refine rn (an @hag (an @f53 (an @f54 @f55))) ?_
  exact hQ _ _ ns c1 (by((first | assumption | simp only[putF_get,putF_none,Nat.reduceEqDiff,↓reduceIte]);exact hag 5 rfl)) (by((first | assumption | simp only[putF_get,putF_none,Nat.reduceEqDiff,↓reduceIte]);exact hag 7 rfl)) hx hw3 hacc (by rw[hren];simp[renC]) hns
end Can
end Go.Proofs.YticlaccbodpkeaaGreatDoor
end
section
namespace Go.Proofs.YticlaccbodpkeaaGreatDoor
namespace Can
open Go Go.RowKit
set_option linter.unusedSimpArgs false
set_option linter.unusedVariables false
set_option maxRecDepth 4000
theorem seq_mid{T:Tbl}{a b t:RCode}{fr:Fr}{H:CH}{Q:CExit→Fr→CH→Prop}(M:CExit→Fr→CH→Prop)(h1:WpR T (.seq a b) fr H M)(h2 : ∀x fr' H',M x fr' H'→SeqK T t Q x fr' H'):WpR T (.seq a (.seq b t)) fr H Q:=by
 rw[r_seq] at h1⊢
 refine h1.mono fun x fr' H' h=> ?_
 cases x with
 | normal=>
   rw[seqK_n] at h⊢
   rw[r_seq]
   exact WpR.mono h h2
 | ret=>exact h2 .ret fr' H' h
 | exit i=>exact h2 (.exit i) fr' H' h
theorem optV_eq{o o':Option Value}{K:Value→CH→Prop}{H:CH}(h:o=o')(g:optV o' K H):optV o K H:=h▸g
mutual
theorem plc_le : ∀n:Nd,(plc n).length≤szN n
 | .mk k l x o ks=>by
   rw[plc,szN]
   split
   ·simp
   ·split
    ·exact Nat.le_succ_of_le (plcL_le ks)
    ·simp
theorem plcL_le : ∀ks:List Nd,(plcL ks).length≤szL ks
 | []=>Nat.le_refl _
 | n::ks=>by
   rw[plcL,szL,List.length_append]
   have:=plc_le n
   have:=plcL_le ks
   omega
end
theorem szN_mk{k:Nat}{l:Int}{x:Bs}{o:Nat}{ks:List Nd}:szN (.mk k l x o ks)=szL ks+1:=rfl
theorem kid0_sz{ks:List Nd}:szN (kid0 ks)≤szL ks+1:=by
 cases ks with
 | nil=>exact Nat.le_refl _
 | cons n ks=>simp only[kid0,szL];omega
theorem own_le : ∀ks:List Nd,(ownL ks).length≤szL ks
 | []=>Nat.le_refl _
 | n::ks=>by
   rw[ownL,szL,List.length_append]
   have:=own_le ks
   obtain⟨k,l,x,o,ts⟩:=n
   have h1:=plc_le (kid0 ts)
   have h2:=kid0_sz (ks:=ts)
   rw[szN_mk]
   split
   ·show(plc (kid0 ts)).length+_≤_;omega
   ·simp;omega
theorem nd_le(u:Nat):Lib.nDigits u≤u+1:=by
 induction u using Nat.strongRecOn with
 | _ u ih=>
   by_cases h:u<10
   ·rw[Lib.nDigits_small h];omega
   ·rw[Lib.nDigits_big h]
    have:=ih (u / 10) (by omega)
    omega
theorem itT_le(n:Nat):(itT n).length≤n+1:=by
 unfold itT
 rw[Lib.itoa_nonneg,Lib.decDigits_length]
 exact nd_le n
theorem str_add{a b:ByteArray}(h:a.size+b.size≤9223372036854775807):svOf (binOp .add 0 (.string a) (.string b))=some (.string (a++b)):=by
 show svOf (Op.stringOp .add a b)=_
 simp only[Op.stringOp]
 rw[if_neg (by rw[show IntKind.i64.max=9223372036854775807 from rfl];omega)]
 rfl
def WkM (K:CH)(bc be c k:Nat)(t:Nd)(q:Option Addr)(r:Nd×Nat)(x:CExit)(fr:Fr)(H:CH):Prop:=
 (x= .normal∧∃(x':Bs) (l':Nat) (f':ByteArray→Option Int) (ρ':Bs→Nat),fr 1= .map (some l')∧fr 4=pN be∧fr 5=pN K.nx∧fr 7=pN (K.nx+1)∧HExt K H∧K.nx+2≤H.nx∧H.ob K.nx= .cells [.int .i64 (t.kind:Nat), .int .i64 t.line, .string (tx x'), .int .i64 (t.op:Nat), .slice q t.kids.length t.kids.length] 26 .ex∧H.ob (K.nx+1)= .cells [.int .i64 0, .int .i64 0, .string ⟨⟨[]⟩⟩, .int .i64 0, .slice none 0 0] 26 .ex∧NmAt H l' f' k∧l'<H.nx∧RF ρ' f'∧(∀y,ρ' y≤c)∧r=(.mk t.kind t.line x' t.op (renL itT ρ' c t.kids).1,(renL itT ρ' c t.kids).2))
 ∨(x= .ret∧FunK [.lda 5 7] (RnQ K bc r) x fr H)
theorem wi_le{ρ:Bs→Nat}{own:List Bs}{d c:Nat}(h1 : ∀y,ρ y≤c)(h2:d≤c) : ∀y,wi ρ own d y≤c:=fun y=>by
 unfold wi
 split
 ·exact h2
 ·exact h1 y
set_option maxHeartbeats 2000000 in
theorem walk_step{S B bc bw be N:Nat}(hB:B+16≤4398046511104)(ih:WalkOk S B bc bw be N):WalkOk S B bc bw be (N+1):=by
 rintro⟨tk,tl,x,o,ks⟩ hN hz hK hT K A os ρ f k l c hs hA hw hf hl hr hρ hc hk
 obtain⟨q,rfl,hrow⟩:=ndS_cells hs
 obtain⟨lc,lw,le⟩:=hw.lt
 obtain⟨q',e,hmx,hnil,hat⟩:=row_at hrow
 cases e
 rw[maxLen_eq] at hmx
 refine wpF_rS (by rfl) (by kernel_rfl) ?_;(conv in (rF _ _).body=>reduce);(conv in (rF _ _).res=>reduce)
 refine seq_mid (WkM K bc be c k (.mk tk tl x o ks) q (renP itT ρ c (.mk tk tl x o ks))) ?_ ?_
 ·by_cases h36:tk=36
  ·subst h36
   obtain⟨fx,hfx⟩ : ∃n:Nat,(f (tx x)).getD 0=(n:Int):=⟨_,hr x⟩
   have hlk:lkV 1 (.int .i64 0) false (.string (tx x)) (K.ob l)=some (.int .i64 (ρ x:Nat)):=by
    have:=hr x
    rcases hf with h | ⟨h,rfl,rfl⟩
    ·rw[h]
     show lkR _ _ (some ((f (tx x)).map fun n=>(0, .int .i64 n)))=_
     rw[←this]
     cases f (tx x)<;>rfl
    ·rw[h]
     show some (Value.int .i64 0)=_
     rw[←this];rfl
   repeat' (first | (simp (disch:=first | omega | (decide +kernel)) only[↓RD,RU,↓putF_get,↓evF_t,↓evF_c,new_nx,new_get,getD_zero,getD_succ,pop,lop,aop,akV,isVal,Value.cells,↓reduceIte,Nat.reduceEqDiff,Int.reduceOfNat,reduceCtorEq,ρ5,ρ6,ρ26,lkV,lkR,isKey,ρ28]) | (with_reducible first | refine condK_dec (fun _=> ?_) fun _=> ?_ | refine grd_dec (fun _=> ?_) fun _=> ?_ | refine egrd_dec (fun _=> ?_) fun _=> ?_))
   refine optV_eq hlk ?_
   repeat' (first | (simp (disch:=first | omega | (decide +kernel)) only[↓RD,RU,accW_f,isW,↓putF_get,↓evF_t,↓evF_c,pop,ρ0,ρ1,↓reduceIte,Nat.reduceEqDiff]) | (with_reducible first | refine condK_dec (fun _=> ?_) fun _=> ?_ | refine grd_dec (fun _=> ?_) fun _=> ?_ | refine egrd_dec (fun _=> ?_) fun _=> ?_))
   ·refine(itoa_wp ((hw.pw.hx ((HExt.refl K).new _)).hx ((HExt.refl _).new _)) (by omega) (by have:=hρ x;omega)).mono fun v K' ⟨e1,e2⟩=> ?_
    subst e1 e2
    have hil:=itT_le (ρ x)
    have hρx:=hρ x
    have hxl:x.length≤1099511627776:=hT.1
    have a1:svOf (binOp .add 0 (.string ⟨#[46]⟩) (.string ⟨(Lib.itoa (ρ x:Nat)).toArray⟩))=some (.string (tx ([46]++itT (ρ x)))):=str_add (a:=tx [46]) (b:=tx (itT (ρ x))) (by show 1+(itT (ρ x)).length≤_;omega)
    have a2:svOf (binOp .add 0 (.string (tx x)) (.string (tx ([46]++itT (ρ x)))))=some (.string (tx (x++([46]++itT (ρ x))))):=str_add (by show x.length+([46]++itT (ρ x)).length≤_;simp;omega)
    refine rn0 ?_
    refine optV_eq a1 ?_
    refine rn0 ?_
    refine optV_eq a2 ?_
    refine rn0 ?_
    refine .inl ⟨rfl,x++([46]++itT (ρ x)),l,f,ρ,by(exact rz0;all_goals rfl),by(exact rz0;all_goals rfl),by(exact rz0;all_goals rfl),by(exact rz0;all_goals rfl),by(repeat (first | assumption | exact HExt.refl _ | (refine HExt.set ?_ (by first | omega | (simp only[new_nx,set_nx];omega)) _) | (refine HExt.new ?_ _))),Nat.le_refl _,by(refine rn0 ?_;all_goals rfl),by repeat' (first | (simp (disch:=first | omega | (decide +kernel)) only[RU,new_nx,new_get,set_get,↓reduceIte]) | (with_reducible first | refine condK_dec (fun _=> ?_) fun _=> ?_ | refine grd_dec (fun _=> ?_) fun _=> ?_ | refine egrd_dec (fun _=> ?_) fun _=> ?_)),hf.ext (by repeat' (first | (simp (disch:=first | omega | (decide +kernel)) only[RU,new_nx,new_get,set_get]) | (with_reducible first | refine condK_dec (fun _=> ?_) fun _=> ?_ | refine grd_dec (fun _=> ?_) fun _=> ?_ | refine egrd_dec (fun _=> ?_) fun _=> ?_))),(by first | omega | (simp only[new_nx,set_nx];omega)),hr,hρ,?_⟩
    rw[renP,if_neg (by omega),if_neg (by omega),if_pos ⟨rfl,by omega⟩,List.append_assoc]
    rfl
   ·refine .inl ⟨rfl,x,l,f,ρ,by(exact rz0;all_goals rfl),by(exact rz0;all_goals rfl),by(exact rz0;all_goals rfl),by(exact rz0;all_goals rfl),by(repeat (first | assumption | exact HExt.refl _ | (refine HExt.set ?_ (by first | omega | (simp only[new_nx,set_nx];omega)) _) | (refine HExt.new ?_ _))),Nat.le_refl _,by(refine rn0 ?_;all_goals rfl),by exact rz0,hf.ext (by exact rz0),(by first | omega | (simp only[new_nx,set_nx];omega)),hr,hρ,?_⟩
    rw[renP,if_neg (by omega),if_neg (by omega),if_neg (by omega)]
    rfl
  ·by_cases h50:tk=50∨tk=8
   ·have hkid:=kid_wp (K:=(K.new (.cells [.int .i64 (tk:Nat), .int .i64 tl, .string (tx x), .int .i64 (o:Nat), .slice q ks.length ks.length] 26 .ex)).new (.cells [.int .i64 0, .int .i64 0, .string ⟨⟨[]⟩⟩, .int .i64 0, .slice none 0 0] 26 .ex)) (A:=A) (hs.mv fun b hb=>⟨hb,by have:=(hA b hb).1;rw[new_ne (by show b≠K.nx+1;omega),new_ne (by omega)]⟩) (fun b hb=>by have:=(hA b hb).1;show b<K.nx+1+1;omega)
    rcases h50 with rfl | rfl
    all_goals
     refine rn0 ?_
     refine hkid.mono fun v K2 ⟨os2,e2,hx2,hs2⟩=> ?_
     subst e2
     obtain⟨pk,pl,px,po,pks,hk0⟩ : ∃pk pl px po pks,kid0 ks= .mk pk pl px po pks:=by cases kid0 ks;exact⟨_,_,_,_,_,rfl⟩
     have hT0:=txD_kid0 hT.2
     have hs2':SVRs K2 A (ndS (kid0 ks)) os2:=hs2.mv fun b hb=>⟨hb,hx2.ob b (by have:=(hA b hb).1;show b<K.nx+1+1;omega)⟩
     rw[hk0] at hs2' hT0
     obtain⟨q2,rfl,hrow2⟩:=ndS_cells hs2'
     obtain⟨q3,e3,hp⟩:=prm_of hrow2 fun n hn=>by
      have:=txD_mem hT0.2 hn
      obtain⟨_,_,_,_,_⟩:=n
      exact this.1
     cases e3
     have hn2:K.nx+1+1≤K2.nx:=hx2.nx
     have hx3:HExt K K2:=(((HExt.refl K).new _).new _).trans hx2
     refine rn0 ?_
     refine(without_wp (hf.ext (hx3.ob _ hl)) (by simp) hp).mono fun v K3 ⟨e1,e2⟩=> ?_
     subst e1 e2
     refine rn0 ?_
     refine .inl ⟨rfl,x,K2.nx,_,wo ρ (kid0 ks).kids,by(exact rz0;all_goals rfl),by(exact rz0;all_goals rfl),by(exact rz0;all_goals rfl),by(exact rz0;all_goals rfl),hx3.new _,(by first | omega | (simp only[new_nx,set_nx];omega)),?_,?_, .inl (by rw[new_get,if_pos rfl]),(by first | omega | (simp only[new_nx,set_nx];omega)),by rw[hk0];exact hr.wo pks,fun y=> ?_,?_⟩
     ·rw[new_ne (by omega),hx2.ob _ (by show K.nx<K.nx+1+1;omega)];refine rn0 ?_;all_goals rfl
     ·rw[new_ne (by omega),hx2.ob _ (by show K.nx+1<K.nx+1+1;omega)];exact rz0;all_goals rfl
     ·unfold wo
      split
      ·omega
      ·exact hρ y
     ·rw[renP,if_neg (by omega),if_pos (by omega),if_neg (by omega)]
      rfl
   ·by_cases hco:tk=55∨tk=56∨tk=57
    ·have hcc:=hw.c
     have hb1:bc≠K.nx:=by omega
     have hb2:bc≠K.nx+1:=by omega
     have hwith:=with_wp (q:=q) (l:=l) (k:=k) (c:=c+1) (f:=f) (ks:=ks) (A:=A) (K:=((K.new (.cells [.int .i64 (tk:Nat), .int .i64 tl, .string (tx x), .int .i64 (o:Nat), .slice q ks.length ks.length] 26 .ex)).new (.cells [.int .i64 0, .int .i64 0, .string ⟨⟨[]⟩⟩, .int .i64 0, .slice none 0 0] 26 .ex)).set bc (.cells [.int .i64 ((c:Int)+1)] 3 .ex)) (hrow.mv fun b hb=>⟨hb,by have:=hA b hb;rw[set_ne' (by omega),new_ne (by show b≠K.nx+1;omega),new_ne (by omega)]⟩) (fun b hb=>by have:=(hA b hb).1;show b<K.nx+1+1;omega) hT.2 ((hf.ex (K':=((K.new _).new _).set bc _) hl ((((HEx.refl K).new _).new _).set (.inr rfl) _) ⟨_,_,_,hcc⟩)) (by show l<K.nx+1+1;omega) (by omega) (by have:=own_le ks;have:szL ks+1≤S:=hz;rw[Nat.succ_mul] at hk;omega)
     rcases hco with rfl | rfl | rfl
     all_goals
      refine rn (an @hcc (an @hb1 @hb2)) ?_
      refine hwith.mono fun v K2 ⟨l1,e1,hx2,hl1,hl1',o1⟩=> ?_
      subst e1
      have hn2:K.nx+1+1≤K2.nx:=hx2.nx
      have hl1:K.nx+1+1≤l1:=hl1
      have oB:=(hx2.ob K.nx (by show K.nx<K.nx+1+1;omega)).trans ((set_ne' (by omega)).trans ((new_ne (by show K.nx≠K.nx+1;omega)).trans (new_at)))
      have oZ:=(hx2.ob (K.nx+1) (by show K.nx+1<K.nx+1+1;omega)).trans ((set_ne' (by omega)).trans (new_at (K:=K.new _)))
      have oC:K2.ob bc= .cells [.int .i64 ((c+1:Nat):Int)] 3 .ex:=(hx2.ob bc (by show bc<K.nx+1+1;omega)).trans (by rw[set_get,if_pos rfl];rfl)
      have hxK:HEx bc K K2:=((((HEx.refl K).new _).new _).set (.inr rfl) _).trans hx2.ex
      have hw2:WK K2 bc bw be (c+1):=hw.ex hxK oC
      refine rn @oB ?_
      have ec:coL=_:=rfl
      conv at ec=>rhs;reduce
      simp only[Int.reduceOfNat,Int.reduceNegSucc] at ec
      rw[←ec]
      have hz':szL ks+1≤S:=hz
      have hc':c+(szL ks+1)≤2305843009213693952:=hc
      have hown:=own_le ks
      have hN':htL ks≤N:=by simp only[htN] at hN;omega
      have hks:k+S+N*S≤2305843009213693952:=by rw[Nat.succ_mul] at hk;omega
      refine comp_loop hB ih hN' (by omega) hK.1 hK.2 hT.2 (A:=A) (hrow.mv fun b hb=>⟨hb,hxK.ob b (hA b hb).1 (hA b hb).2⟩) (fun b hb=>⟨by have:=(hA b hb).1;omega,(hA b hb).2⟩) hw2 (hf.ex hl hxK ⟨_,_,_,hcc⟩) (by omega) hr (fun y=>Nat.le_trans (hρ y) (Nat.le_succ _)) (.inl o1) hl1' hr.ups (wi_le (fun y=>Nat.le_trans (hρ y) (Nat.le_succ _)) (Nat.le_refl _)) (by omega) (by omega) (by omega) (by exact rz0) (by exact rz0) (by exact rz0) (by exact rz0) (by exact rz0) (by exact rz0) (by exact rz0) (by exact rz0) fun fr K3 ns c' f5 f7 hx3 hw3 hacc hren hln=> ?_
      have f5':fr 5=pN K.nx:=f5.trans (by exact rz0)
      have f7':fr 7=pN (K.nx+1):=f7.trans (by exact rz0)
      obtain⟨va,f11,hv⟩:=hacc.done (by have:=hK.1;omega)
      have hn3:=hx3.nx
      have oB3:=(hx3.ob K.nx (by omega) (by omega)).trans oB
      have oZ3:=(hx3.ob (K.nx+1) (by omega) (by omega)).trans oZ
      refine rn (an @f5' (an @f7' (an @f11 (an @oB3 @oZ3)))) ?_
      refine .inr ⟨rfl,?_⟩
      refine rn (an @f5' (an @f7' (an @f11 (an @oB3 @oZ3)))) ?_
      rw[renP,if_pos (by decide)]
      have er:renC itT (wi ρ (ownL ks) (c+1)) ρ true (c+1) ks=(ns,c'):=hren
      have hx6:HEx bc K K3:=hxK.trans hx3
      refine⟨(hx6.set (by omega) _).set (by omega) _,?_,[_,_,_,_,_],rfl,?_⟩
      ·rw[set_ne' (by omega),set_ne' (by omega),er]
       exact hw3.c
      ·rw[er]
       rw[f11] at hv
       exact .cons (.sc rfl) (.cons (.sc rfl) (.cons (.sc rfl) (.cons (.sc rfl) (.cons (hv.mv fun b hb=>⟨⟨by omega,hb.2⟩,by rw[set_ne' (by omega),set_ne' (by omega)]⟩) .nil))))
    ·refine rn0 ?_
     refine .inl ⟨rfl,x,l,f,ρ,by(exact rz0;all_goals rfl),by(exact rz0;all_goals rfl),by(exact rz0;all_goals rfl),by(exact rz0;all_goals rfl),by(repeat (first | assumption | exact HExt.refl _ | (refine HExt.set ?_ (by first | omega | (simp only[new_nx,set_nx];omega)) _) | (refine HExt.new ?_ _))),Nat.le_refl _,by(refine rn0 ?_;all_goals rfl),by exact rz0,hf.ext (by exact rz0),(by first | omega | (simp only[new_nx,set_nx];omega)),hr,hρ,?_⟩
     rw[renP,if_neg hco,if_neg (by omega),if_neg (by omega)]
     rfl
 ·rintro x1 fr H (⟨rfl,x',l',f',ρ',f1,f4,f5,f7,hx,hn,o1,o2,hf',hl',hr',hρ',er⟩ | ⟨rfl,h⟩)
  ·rw[er]
   have o1:H.ob K.nx= .cells [.int .i64 (tk:Nat), .int .i64 tl, .string (tx x'), .int .i64 (o:Nat), .slice q ks.length ks.length] 26 .ex:=o1
   obtain⟨e4,o4⟩:=(hw.hx hx).e
   have hN':htL ks≤N:=by simp only[htN] at hN;omega
   have hz':szL ks+1≤S:=hz
   have hc':c+(szL ks+1)≤2305843009213693952:=hc
   have hks:k+N*S≤2305843009213693952:=by rw[Nat.succ_mul] at hk;omega
   have hcall:=each_wp ih hB hN' (by omega) hK.1 hK.2 hT.2 (K:=H) (A:=A) (hrow.mv fun b hb=>⟨hb,hx.ob b (hA b hb).1⟩) (fun b hb=>⟨by have:=(hA b hb).1;have:=hx.nx;omega,(hA b hb).2⟩) (hw.hx hx) hf' hl' hr' hρ' (by omega) hks
   refine rn (an @f1 (an @f4 (an @f5 (an @f7 (an @o1 (an @o2 @o4)))))) ?_
   refine hcall.mono fun v K2 ⟨hx2,o3,hv⟩=> ?_
   obtain⟨va,rfl,_⟩:=row_at hv
   have hn2:=hx2.nx
   have o1':=(hx2.ob _ (by omega) (by omega)).trans o1
   have o2':=(hx2.ob _ (by omega) (by omega)).trans o2
   refine rn (an @f1 (an @f4 (an @f5 (an @f7 (an @o1' @o2'))))) ?_
   have hx4:HEx bc K K2:=hx.ex.trans hx2
   refine⟨(hx4.set (by omega) _).set (by omega) _,?_,[_,_,_,_,_],rfl, .cons (.sc rfl) (.cons (.sc rfl) (.cons (.sc rfl) (.cons (.sc rfl) (.cons (hv.mv fun b hb=>⟨⟨by omega,hb.2⟩,?_⟩) .nil))))⟩
   ·rw[set_ne' (by omega),set_ne' (by omega)]
    exact o3
   ·rw[set_ne' (by omega),set_ne' (by omega)]
  ·exact h
theorem walk_ok{S B bc bw be:Nat}(hB:B+16≤4398046511104) : ∀N,WalkOk S B bc bw be N
 | 0=>fun t h=>by cases t;simp[htN] at h
 | N+1=>walk_step hB (walk_ok hB N)
abbrev ren0(t:Nd):Nd:=(renP itT (fun _=>0) 0 t).1
theorem rename_wp{B:Nat}(hB:B+16≤4398046511104){t:Nd}(hh:htN t≤1000)(hz:szN t≤1125899906842624)(hK:kdN B t)(hT:txD t){K:CH}{A:Nat→Prop}{os:List Value}(hs:SVRs K A (ndS t) os)(hA : ∀b,A b→b<K.nx)(hp:PowAt K):WpF TRn 10 [.agg os.toArray] K fun v K'=>HExt K K'∧∃os',v= .agg os'.toArray∧SVRs K' (fun b=>K.nx≤b∧b<K'.nx) (ndS (ren0 t)) os':=by
 obtain⟨nt,hnt⟩:=nd_n5 hs
 have hl5:os.length=5:=by rw[hnt];rfl
 have hc5:os.all isCell=true:=by rw[hnt];rfl
 have ht5:List.take 5 os=os:=List.take_of_length_le (by omega)
 refine wpF_rS (by rfl) (by kernel_rfl) ?_;(conv in (rF _ _).body=>reduce);(conv in (rF _ _).res=>reduce)
 refine rn (an @hl5 (an @hc5 @ht5)) ?_
 refine(walk_ok (S:=1125899906842624) (bc:=K.nx+1+1) (bw:=K.nx+1+1+1) (be:=K.nx+1+1+1+1) hB 1000 t hh hz hK hT _ A os (fun _=>0) (fun _=>none) 0 (K.nx+1+1+1+1+1) 0 (hs.mv fun b hb=>⟨hb,by have:=hA b hb;exact rz0⟩) (fun b hb=>⟨Nat.lt_of_lt_of_le (hA b hb) (by first | omega | (simp only[new_nx,set_nx];omega)),by have:=hA b hb;omega⟩) ⟨by(refine rn0 ?_;all_goals rfl),⟨_,by(refine rn0 ?_;all_goals rfl)⟩,⟨_,by(refine rn0 ?_;all_goals rfl)⟩,⟨(by first | omega | (simp only[new_nx,set_nx];omega)),(by first | omega | (simp only[new_nx,set_nx];omega)),(by first | omega | (simp only[new_nx,set_nx];omega))⟩,hp.hx (by(repeat (first | assumption | exact HExt.refl _ | (refine HExt.set ?_ (by first | omega | (simp only[new_nx,set_nx];omega)) _) | (refine HExt.new ?_ _))))⟩ (.inr ⟨by exact rz0,rfl,rfl⟩) (by first | omega | (simp only[new_nx,set_nx];omega)) RF.nil (fun _=>Nat.le_refl _) (by omega) (by omega)).mono fun v K2 ⟨hx2,o2,os2,ev,hs2⟩=> ?_
 subst ev
 have hn2:K.nx+1+1+1+1+1+1≤K2.nx:=hx2.nx
 obtain⟨n2,rfl⟩:=nd_n5 hs2
 have o1:K2.ob (K.nx+1)= .cells [.int .i64 0, .int .i64 0, .string ⟨⟨[]⟩⟩, .int .i64 0, .slice none 0 0] 26 .ex:=(hx2.ob (K.nx+1) (by first | omega | (simp only[new_nx,set_nx];omega)) (by omega)).trans (by(exact rz0;all_goals rfl))
 have hxK:HEx (K.nx+1+1) K K2:=HEx.trans (HExt.ex (by(repeat (first | assumption | exact HExt.refl _ | (refine HExt.set ?_ (by first | omega | (simp only[new_nx,set_nx];omega)) _) | (refine HExt.new ?_ _))))) hx2
 repeat' (first | (simp (disch:=first | omega | (decide +kernel)) only[↓RD,RU,↓putF_get,↓putF_none,↓evF_t,set_nx,set_get,lop,wop,resL,resV,tupleV,isVal,isCell,Value.cells,↓reduceIte,Nat.reduceEqDiff,Nat.reduceAdd,ρ7,ρ8,ρ15,ρ17,ρ18,ρ21,ρ22,ρ23,Kd.isRo,ρ25,ρ26,n5V,o1]) | (with_reducible first | refine condK_dec (fun _=> ?_) fun _=> ?_ | refine grd_dec (fun _=> ?_) fun _=> ?_ | refine egrd_dec (fun _=> ?_) fun _=> ?_))
 refine⟨(hxK.ext (by omega)).set (by omega) _,n5V n2,rfl,hs2.mv fun b hb=> ?_⟩
 have hb1:K.nx+1+1+1+1+1+1≤b:=hb.1
 exact⟨⟨by omega,hb.2⟩,set_ne' (by omega)⟩
end Can
end Go.Proofs.YticlaccbodpkeaaGreatDoor
end
section
namespace Go.Proofs.YticlaccbodpkeaaGreatDoor
namespace Can
open Go Go.RowKit
set_option linter.unusedSimpArgs false
set_option linter.unusedVariables false
set_option maxRecDepth 4000
theorem cutM{T:Tbl}{a t:RCode}{fr:Fr}{H:CH}{Q:CExit→Fr→CH→Prop}(M:CExit→Fr→CH→Prop)(h1:WpR T a fr H M)(h2 : ∀x fr' H',M x fr' H'→SeqK T t Q x fr' H'):WpR T (.seq a t) fr H Q:=by
 rw[r_seq]
 exact h1.mono h2
def stV (x:Bs):List Value:= [.string (tx x)]
theorem stV_ok : ∀x:Bs,(stV x).length=1∧(stV x).all isCell=true:=fun _=>⟨rfl,rfl⟩
theorem flat_st : ∀xs:List Bs,xs.flatMap stV=xs.map fun x=>Value.string (tx x)
 | []=>rfl
 | a::r=>by rw[List.flatMap_cons,flat_st];rfl
def NL (K:CH)(v:Value)(xs:List Bs):Prop:=∃q c,v= .slice q xs.length c∧SlAt 1 (fun _ cs x=>cs= [.string (tx x)]) K q c xs
theorem NL.nil{K:CH}:NL K (.slice none 0 0) []:=⟨none,0,rfl, .inl ⟨rfl,rfl, .inl rfl⟩⟩
theorem NL.ext{K K':CH}{v:Value}{xs:List Bs}(h:NL K v xs)(hx:HExt K K'):NL K' v xs:=by
 obtain⟨q,c,rfl,h⟩:=h
 exact⟨q,c,rfl,SlAt.good (fun _ _ _ _ _ h=>h) hx h⟩
theorem NL.mv{K K':CH}{v:Value}{xs:List Bs}(h:NL K v xs)(hn:K.nx≤K'.nx)(hx : ∀b,b<K.nx→(∃o n c,v= .slice (some ⟨b,o,none⟩) n c)→K'.ob b=K.ob b):NL K' v xs:=by
 obtain⟨q,c,rfl,h⟩:=h
 refine⟨q,c,rfl,?_⟩
 rcases h with h | ⟨l,o,os,e,kd,rfl,h1,h2,h3,h4,h5,h6⟩
 ·exact .inl h
 ·exact .inr ⟨l,o,os,e,kd,rfl,by omega,h2,h3,(hx l h1 ⟨_,_,_,rfl⟩).trans h4,h5,h6⟩
theorem NL.len{K:CH}{v:Value}{xs:List Bs}(h:NL K v xs) : ∃q c,v= .slice q xs.length c∧xs.length≤c∧c≤maxLen:=by
 obtain⟨q,c,rfl,h⟩:=h
 rcases h with ⟨rfl,rfl,_⟩ | ⟨l,o,os,e,kd,rfl,_,h2,h3,_⟩
 ·exact⟨q,0,rfl,Nat.le_refl _,Nat.zero_le _⟩
 ·exact⟨_,c,rfl,h2,h3⟩
theorem NL.cell{K:CH}{v:Value}{xs:List Bs}(h:NL K v xs){i:Nat}(hi:i<xs.length) : ∃l o c os e kd,v= .slice (some ⟨l,o,none⟩) xs.length c∧K.ob l= .cells os e kd∧o+xs.length≤os.length∧os[o+i]? = some (.string (tx xs[i])):=by
 obtain⟨q,c,rfl,h⟩:=h
 rcases h with ⟨rfl,_⟩ | ⟨l,o,os,e,kd,rfl,h1,h2,h3,h4,h5,h6⟩
 ·cases hi
 ·have g:=h6 i hi
  simp only[Nat.mul_one] at g h5
  rw[List.drop_eq_getElem_cons (by omega)] at g
  simp only[List.take_succ_cons,List.take_zero,List.cons.injEq,and_true] at g
  exact⟨l,o,c,os,e,kd,rfl,h4,h5,by rw[List.getElem?_eq_getElem (by omega),g]⟩
abbrev GrS(A K:CH)(v:Value)(xs:List Bs):Prop:=Grw A 9 1 stV K v xs
theorem GrS.nl{A K:CH}{v:Value}{xs:List Bs}(h:GrS A K v xs)(hm:xs.length≤9223372036854775807):NL K v xs:=by
 rcases h with ⟨rfl,rfl⟩ | ⟨b,kd,rfl,h1,h2,h3,h4⟩
 ·exact NL.nil
 ·rw[flat_st] at h3
  refine⟨_,_,rfl, .inr ⟨b,0,_,_,_,rfl,h2,Nat.le_refl _,by rw[maxLen_eq];omega,h3,by simp,fun i hi=> ?_⟩⟩
  rw[Nat.zero_add,Nat.mul_one,List.drop_eq_getElem_cons (by simpa using hi)]
  simp
structure GS(K K':CH)(v v':Value):Prop where
 nx:K.nx≤K'.nx
 ob : ∀b,b<K.nx→offB v b→K'.ob b=K.ob b
 off : ∀b,b<K.nx→offB v b→offB v' b
theorem GS.refl{K:CH}{v:Value}:GS K K v v:=⟨Nat.le_refl _,fun _ _ _=>rfl,fun _ _ h=>h⟩
theorem GS.trans{K K' K2:CH}{v v' v2:Value}(h:GS K K' v v')(g:GS K' K2 v' v2):GS K K2 v v2:=⟨Nat.le_trans h.nx g.nx,fun b hb ho=>(g.ob b (Nat.lt_of_lt_of_le hb h.nx) (h.off b hb ho)).trans (h.ob b hb ho),fun b hb ho=>g.off b (Nat.lt_of_lt_of_le hb h.nx) (h.off b hb ho)⟩
theorem GS.ext{K K':CH}{v:Value}(h:HExt K K'):GS K K' v v:=⟨h.nx,fun b hb _=>h.ob b hb,fun _ _ h=>h⟩
theorem Grw.nx{α:Type}{A:CH}{e sz:Nat}{f:α→List Value}{K K':CH}{v:Value}{xs:List α}(h:Grw A e sz f K v xs)(hn:K.nx≤K'.nx)(hx : ∀b,A.nx≤b→b<K.nx→(∃n c,v= .slice (some ⟨b,0,none⟩) n c)→K'.ob b=K.ob b):Grw A e sz f K' v xs:=by
 rcases h with h | ⟨b,kd,rfl,h1,h2,h3,h4⟩
 ·exact .inl h
 ·exact .inr ⟨b,kd,rfl,h1,by omega,(hx b h1 h2 ⟨_,_,rfl⟩).trans h3,h4⟩
def wth (xs:List Bs)(s:Bs):List Bs:=if s∈xs then xs else xs++ [s]
def wths (xs ys:List Bs):List Bs:=ys.foldl wth xs
theorem wths_app{xs ys zs:List Bs}:wths xs (ys++zs)=wths (wths xs ys) zs:=List.foldl_append ..
theorem mem_wth{xs:List Bs}{s y:Bs}:y∈wth xs s↔y∈xs∨y=s:=by
 unfold wth
 split
 ·exact⟨.inl,fun h=>h.elim id fun e=>e ▸ ‹_›⟩
 ·simp
theorem mem_wths{y:Bs} : ∀ {ys xs:List Bs},y∈wths xs ys↔y∈xs∨y∈ys
 | [],xs=>by simp[wths]
 | s::ys,xs=>by
   rw[show wths xs (s::ys)=wths (wth xs s) ys from rfl,mem_wths,mem_wth,List.mem_cons,or_assoc]
theorem wth_len{xs:List Bs}{s:Bs}:(wth xs s).length≤xs.length+1:=by
 unfold wth
 split
 ·omega
 ·simp
theorem wths_len : ∀ {ys xs:List Bs},(wths xs ys).length≤xs.length+ys.length
 | [],xs=>Nat.le_refl _
 | s::ys,xs=>by
   have h1:=wths_len (ys:=ys) (xs:=wth xs s)
   have h2:=wth_len (xs:=xs) (s:=s)
   rw[show wths xs (s::ys)=wths (wth xs s) ys from rfl,List.length_cons]
   omega
theorem has_wp{K:CH}{v:Value}{xs:List Bs}{s:Bs}(h:NL K v xs):WpF TRn 93 [v, .string (tx s)] K fun r K'=>r= .bool (decide (s∈xs))∧K'=K:=by
 obtain⟨q,c,hv,hc,hm⟩:=h.len
 rw[maxLen_eq] at hm
 refine wpF_rS (by rfl) (by kernel_rfl) ?_;(conv in (rF _ _).body=>reduce);(conv in (rF _ _).res=>reduce)
 refine rn @hv ?_
 refine loop_w (fun m fr K1=>∃i:Nat,m=xs.length-i∧i≤xs.length∧fr 5= .int .i64 (i:Nat)∧K1=K∧∀j (hj:j<xs.length),j<i→xs[j]≠s) (n:=xs.length) ⟨0,rfl,by omega,by(refine rn0 ?_;all_goals rfl),rfl,fun j _ h=>absurd h (by omega)⟩ ?_
 rintro m fr K1 ⟨i,rfl,hi,f5,rfl,hn⟩ hag
 by_cases hil:i<xs.length
 ·obtain⟨l,o,c1,os,e,kd,hv2,h4,h5,g⟩:=h.cell hil
  rw[hv] at hv2
  obtain⟨rfl,rfl⟩:q=some ⟨l,o,none⟩∧c=c1:=by cases hv2;exact⟨rfl,rfl⟩
  have hse:=str_eq (a:=xs[i]) (b:=s)
  by_cases he:xs[i]=s
  ·have hd:decide (s∈xs)=true:=decide_eq_true (he▸List.getElem_mem hil)
   rw[decide_eq_true he] at hse
   have hse:svOf (binOp .eql 0 (.string (tx xs[i])) (.string (tx s)))=some (.bool true):=hse
   repeat' (first | (simp (disch:=first | omega | (decide +kernel)) only[↓RD,RU,↓putF_get,↓evF_t,↓evF_c,getD_zero,getD_succ,pop,lop,resL,resV,tupleV,↓reduceIte,Nat.reduceEqDiff,reduceCtorEq,ρ29,hag,f5,h4,g,hse,hd]) | (with_reducible first | refine condK_dec (fun _=> ?_) fun _=> ?_ | refine grd_dec (fun _=> ?_) fun _=> ?_ | refine egrd_dec (fun _=> ?_) fun _=> ?_))
  ·rw[decide_eq_false he] at hse
   have hse:svOf (binOp .eql 0 (.string (tx xs[i])) (.string (tx s)))=some (.bool false):=hse
   refine rn (an @hag (an @f5 (an @h4 (an @g @hse)))) ?_
   all_goals exact⟨xs.length-(i+1),by omega,i+1,rfl,by omega,rfl,fun j hj hji=>by
    by_cases e:j=i
    ·subst e;exact he
    ·exact hn j hj (by omega)⟩
 ·have hd:decide (s∈xs)=false:=decide_eq_false fun hm=>by
   obtain⟨j,hj,e⟩:=List.getElem_of_mem hm
   exact hn j hj (by omega) e
  repeat' (first | (simp (disch:=first | omega | (decide +kernel)) only[↓RD,RU,↓putF_get,↓evF_t,↓evF_c,getD_zero,pop,resL,resV,tupleV,↓reduceIte,Nat.reduceEqDiff,reduceCtorEq,hag,f5,hd]) | (with_reducible first | refine condK_dec (fun _=> ?_) fun _=> ?_ | refine grd_dec (fun _=> ?_) fun _=> ?_ | refine egrd_dec (fun _=> ?_) fun _=> ?_))
theorem has_iff{K:CH}{v:Value}{xs:List Bs}{s:Bs}(h:NL K v xs){Q:Value→CH→Prop}:WpF TRn 93 [v, .string (tx s)] K Q↔Q (.bool (decide (s∈xs))) K:=wpF_iff (has_wp h)
theorem grs_one{A K:CH}{v:Value}{xs:List Bs}{y:Bs}(hg:GrS A K v xs)(hA:A.nx≤K.nx)(hb:xs.length+1≤4398046511104){us:List Value}(hu:us=stV y){Q:Value→CH→Prop}(k : ∀v' K',GrS A K' v' (xs++ [y])→GS K K' v v'→Q v' K'):optW (appV 9 1 16 v us 1 K) Q:=
 optW_one stV_ok hg (by omega) (by omega) hu fun K' k1 k2 k3=>k _ _ (.inr ⟨K.nx, .gr,by simp,hA,by omega,k1,rfl⟩) ⟨by omega,k3,fun b hb _ o n c e=>by cases e;omega⟩
theorem with7_wp{A K:CH}{v:Value}{xs:List Bs}{s:Bs}(hA:A.nx≤K.nx)(h:GrS A K v xs)(hl:xs.length+1≤4398046511104):WpF TRn 92 [v, .string (tx s)] K fun v' K'=>GrS A K' v' (wth xs s)∧GS K K' v v':=by
 obtain⟨q,c,hv,_,hm⟩:=(h.nl (by omega)).len
 refine wpF_rS (by rfl) (by kernel_rfl) ?_;(conv in (rF _ _).body=>reduce);(conv in (rF _ _).res=>reduce)
 refine rn0 ?_
 rw[has_iff (h.nl (by omega))]
 by_cases hs:s∈xs
 ·have hd:decide (s∈xs)=true:=decide_eq_true hs
  repeat' (first | (simp (disch:=first | omega | (decide +kernel)) only[↓RD,RU,↓putF_get,↓evF_t,getD_zero,pop,resL,resV,tupleV,↓reduceIte,reduceCtorEq]) | (with_reducible first | refine condK_dec (fun _=> ?_) fun _=> ?_ | refine grd_dec (fun _=> ?_) fun _=> ?_ | refine egrd_dec (fun _=> ?_) fun _=> ?_))
  unfold wth
  rw[if_pos hs]
  exact⟨h,GS.refl⟩
 ·have hd:decide (s∈xs)=false:=decide_eq_false hs
  repeat' (first | (simp (disch:=first | omega | (decide +kernel)) only[↓RD,RU,↓putF_get,↓evF_t,new_get,getD_zero,getD_succ,pop,aop,akV,isVal,Value.cells,ρ0,ρ1,ρ4,↓reduceIte,Nat.reduceEqDiff,reduceCtorEq,ρ7,ρ8,srcR_c,ρ15,ρ16,ρ18,ρ19,ρ20,ρ25,ρ26,bldV,Nat.reduceLeDiff,appS_some,zeros]) | (with_reducible first | refine condK_dec (fun _=> ?_) fun _=> ?_ | refine grd_dec (fun _=> ?_) fun _=> ?_ | refine egrd_dec (fun _=> ?_) fun _=> ?_))
  have e0:HExt K (K.new (.cells [.string (tx s)] 9 .ex)):=(HExt.refl K).new _
  refine grs_one (y:=s) (h.ext e0) (by show A.nx≤K.nx+1;omega) hl rfl fun v' K' h1 h2=> ?_
  refine rn0 ?_
  unfold wth
  rw[if_neg hs]
  exact⟨h1,(GS.ext e0).trans h2⟩
end Can
end Go.Proofs.YticlaccbodpkeaaGreatDoor
end
section
namespace Go.Proofs.YticlaccbodpkeaaGreatDoor
namespace Can
open Go Go.RowKit
set_option linter.unusedSimpArgs false
set_option linter.unusedVariables false
set_option maxRecDepth 4000
theorem kid7_wp{K:CH}{A:Nat→Prop}{n:Nd}{os:List Value}(h:SVRs K A (ndS n) os)(hA : ∀b,A b→b<K.nx):WpF TRn 52 [.agg os.toArray, .int .i64 0] K fun v K'=>∃os',v= .agg os'.toArray∧HExt K K'∧SVRs K A (ndS (kid0 n.kids)) os':=by
 obtain⟨k,l,x,o,ks⟩:=n
 obtain⟨q,rfl,hrow⟩:=ndS_cells h
 obtain⟨q',e,hmx,hnil,hat⟩:=row_at hrow
 cases e
 cases ks with
 | nil=>
   obtain rfl:=hnil rfl
   refine wpF_rS (by rfl) (by kernel_rfl) ?_;(conv in (rF _ _).body=>reduce);(conv in (rF _ _).res=>reduce)
   refine rn0 ?_
   refine⟨_,rfl,by(repeat (first | assumption | exact HExt.refl _ | (refine HExt.set ?_ (by first | omega | (simp only[new_nx,set_nx];omega)) _) | (refine HExt.new ?_ _))),zero_nd⟩
 | cons n0 ks=>
   obtain⟨b,cs,e,kd,rfl,hAb,hob,hro,hcl,h5,hs⟩:=hat 0 n0 rfl
   have hb:=hA b hAb
   obtain⟨os',hos⟩ : ∃os',(cs.drop (0*5)).take 5=os':=⟨_,rfl⟩
   rw[hos] at hs
   have hln:os'.length=5:=by rw[←hos];simp;simp at h5;omega
   obtain⟨k',l',x',o',wa,wn,wc,eo⟩:=nd_cells hs
   have hcl':os'.all isCell=true:=by rw[eo];rfl
   have hc1:5≤cs.length:=by omega
   refine wpF_rS (by rfl) (by kernel_rfl) ?_;(conv in (rF _ _).body=>reduce);(conv in (rF _ _).res=>reduce)
   refine rn (an @hob (an @hos (an @hln (an @hcl' @hc1)))) ?_
   refine⟨os',by rw[List.take_of_length_le (by omega)],by(repeat (first | assumption | exact HExt.refl _ | (refine HExt.set ?_ (by first | omega | (simp only[new_nx,set_nx];omega)) _) | (refine HExt.new ?_ _))),hs⟩
theorem GrS.off{A K:CH}{v:Value}{xs:List Bs}(h:GrS A K v xs){b:Nat}(hb:K.nx≤b):offB v b:=fun o n c e=>by
 rcases h with ⟨_,g⟩ | ⟨b',kd',g,g1,g2,_⟩
 ·rw[g] at e;cases e
 ·rw[g] at e;cases e;omega
theorem NL.off{K:CH}{v:Value}{xs:List Bs}(h:NL K v xs){b:Nat}(hb:K.nx≤b)(h0:0<K.nx):offB v b:=fun o n c e=>by
 obtain⟨q,c',rfl,h⟩:=h
 cases e
 rcases h with ⟨_,_,h | h | h⟩ | ⟨l,o,os,e,kd,h,h1,_⟩
 ·cases h
 ·cases h
 ·cases h
 ·cases h;omega
def PdJ (A K0:CH)(v:Value)(ks:List Nd)(xs:List Bs)(n:Nat)(v1 v5:Value)(K1:CH):Prop:=∃i:Nat,n=ks.length-i∧i≤ks.length∧v5= .int .i64 (i:Nat)∧GrS A K1 v1 (wths xs (plcL (ks.take i)))∧GS K0 K1 v v1
theorem placed_wp{A:CH} : ∀(N:Nat) (t:Nd),htN t≤N→∀(K:CH) (D:Nat→Prop) (os:List Value) (v:Value) (xs:List Bs),SVRs K D (ndS t) os→(∀b,D b→b<K.nx∧offB v b)→A.nx≤K.nx→GrS A K v xs→xs.length+(plc t).length≤4398046511104→WpF TRn 51 [.agg os.toArray,v] K fun v' K'=>GrS A K' v' (wths xs (plc t))∧GS K K' v v':=by
 intro N
 induction N with
 | zero=>intro t h;cases t;simp[htN] at h
 | succ N ih=>
 rintro⟨tk,tl,x,o,ks⟩ hN K D os v xs hs hD hA hg hk
 obtain⟨q,rfl,hrow⟩:=ndS_cells hs
 obtain⟨q',e,hmx,hnil,hat⟩:=row_at hrow
 cases e
 rw[maxLen_eq] at hmx
 have e0:HExt K (K.new (.cells [.int .i64 (tk:Nat), .int .i64 tl, .string (tx x), .int .i64 (o:Nat), .slice q ks.length ks.length] 26 .ex)):=(HExt.refl K).new _
 by_cases h36:tk=36
 ·subst h36
  rw[plc,if_pos rfl] at hk
  refine wpF_rS (by rfl) (by kernel_rfl) ?_;(conv in (rF _ _).body=>reduce);(conv in (rF _ _).res=>reduce)
  refine rn0 ?_
  refine(with7_wp (A:=A) (by show A.nx≤K.nx+1;omega) (hg.ext e0) (by simp at hk;omega)).mono fun v' K' ⟨h1,h2⟩=> ?_
  refine rn0 ?_
  rw[plc,if_pos rfl]
  exact⟨h1,(GS.ext e0).trans h2⟩
 ·by_cases h5:tk=52∨tk=51
  ·rcases h5 with rfl | rfl
   all_goals
    rw[plc,if_neg (by decide),if_pos (by decide)] at hk⊢
    refine wpF_rS (by rfl) (by kernel_rfl) ?_;(conv in (rF _ _).body=>reduce);(conv in (rF _ _).res=>reduce)
    refine rn0 ?_
    refine loop_w (fun n fr K1=>PdJ A (K.new _) v ks xs n (fr 1) (fr 5) K1) (n:=ks.length) ⟨0,rfl,Nat.zero_le _,by(refine rn0 ?_;all_goals rfl),by(refine rn0 ?_;exact hg.ext e0),by(refine rn0 ?_;exact GS.refl)⟩ ?_
    rintro n fr K1 ⟨i,rfl,hi,f5,hg1,hs1⟩ hag
    have hn1:K.nx+1≤K1.nx:=hs1.nx
    have obx:=(hs1.ob K.nx (Nat.lt_succ_self _) (hg.off (Nat.le_refl _))).trans new_at
    by_cases hil:i<ks.length
    ·obtain⟨t,ht⟩ : ∃t,ks[i]? = some t:=⟨_,List.getElem?_eq_getElem hil⟩
     obtain⟨b,cs,e,kd,hqq,hb,ob,hkd,hcl,hc5,hst⟩:=hat i t ht
     have hmv : ∀b,D b→K1.ob b=K.ob b:=fun b hb=>(hs1.ob b (Nat.lt_succ_of_lt (hD b hb).1) (hD b hb).2).trans (e0.ob b (hD b hb).1)
     have ob1:=(hmv b hb).trans ob
     obtain⟨k',l',x',o',wa,wn,wc,hnc⟩:=nd_cells hst
     have hpl:plcL (ks.take (i+1))=plcL (ks.take i)++plc t:=by
      obtain⟨_,e⟩:=List.getElem?_eq_some_iff.1 ht
      rw[List.take_succ_eq_append_getElem hil,e,plcL_app];simp[plcL]
     have hle:=plcL_take (i:=i+1) (ks:=ks)
     rw[hpl,List.length_append] at hle
     have hwl:=wths_len (xs:=xs) (ys:=plcL (ks.take i))
     have hcall:=ih t (Nat.le_trans (ht_mem (List.mem_of_getElem? ht)) (by simp only[htN] at hN;omega)) K1 D _ (fr 1) _ (hst.mv fun b hb=>⟨hb,hmv b hb⟩) (fun b hb=>⟨by have:=(hD b hb).1;omega,hs1.off b (Nat.lt_succ_of_lt (hD b hb).1) (hD b hb).2⟩) (by omega) hg1 (by omega)
     rw[hnc] at hcall
     refine rn (an @hag (an @f5 (an @obx (an @hqq (an @ob1 (an @hnc @Nat.zero_add)))))) ?_
     refine hcall.mono fun v K2 ⟨hg2,hs2⟩=> ?_
     refine rn (an @hag @f5) ?_
     exact⟨ks.length-(i+1),by omega,i+1,rfl,hil,rfl,by rw[hpl,wths_app];exact hg2,by rw[hqq] at hs1;exact hs1.trans hs2⟩
    ·have hil:i=ks.length:=by omega
     subst hil
     rw[List.take_length] at hg1
     refine rn (an @hag (an @f5 @obx)) ?_
     exact⟨hg1,(GS.ext e0).trans hs1⟩
  ·refine wpF_rS (by rfl) (by kernel_rfl) ?_;(conv in (rF _ _).body=>reduce);(conv in (rF _ _).res=>reduce)
   refine rn0 ?_
   rw[plc,if_neg h36,if_neg h5]
   exact⟨hg.ext e0,GS.ext e0⟩
end Can
end Go.Proofs.YticlaccbodpkeaaGreatDoor
end
section
namespace Go.Proofs.YticlaccbodpkeaaGreatDoor
namespace Can
set_option linter.unusedSimpArgs false
set_option linter.unusedVariables false
def tokOK(k:Nat)(x:List UInt8):Prop:=∃l n,tokT l=some (k,x,n)
def eK (n:Nd):Prop:=30≤n.kind∧n.kind≤57∧n.kind≠43∧n.kind≠48
def eKs (l:List Nd):Prop:=∀n∈l,eK n
def sK (n:Nd):Prop:=2≤n.kind∧n.kind≤20
def sKs (l:List Nd):Prop:=l≠ []∧∀n∈l,sK n
def hdF:List Nd→Bool
 | c::_=>decide (c.kind=58)
 | []=>false
def cKs (l:List Nd):Prop:=∀n∈l,n.kind=58∨n.kind=59
def vK (n:Nd):Prop:=eK n∨n.kind=60
def nmKs (l:List Nd):Prop:=∀n∈l,n.kind=36
def hdKs (l:List Nd):Prop:=∀n∈l,n.kind=21
def shp (k:Nat)(x:List UInt8)(o:Nat)(ks:List Nd):Prop:=
 (k=30∧tokOK 5 x∧o=0∧ks= [])∨(k=31∧tokOK 6 x∧o=0∧ks= [])∨(k=32∧tokOK 7 x∧o=0∧ks= [])∨(k=36∧tokOK 4 x∧o=0∧ks= [])∨
 ((k=33∨k=34∨k=35∨k=48∨k=11∨k=12∨k=13)∧x= []∧o=0∧ks= [])∨
 (k=37∧x= []∧1≤o∧o≤7∧∃a b,ks= [a,b]∧eK a∧eK b)∨(k=38∧x= []∧(o=1∨o=2)∧∃a,ks= [a]∧eK a)∨
 ((k=39∨k=40)∧x= []∧o=0∧∃a b,ks= [a,b]∧eK a∧eK b)∨(k=41∧x= []∧o=0∧∃a,ks= [a]∧eK a)∨
 (k=42∧x= []∧o=0∧∃a l,ks=a::l∧eK a∧l≠ []∧∀n∈l,n.kind=43)∨(k=43∧x= []∧1≤o∧o≤10∧∃a,ks= [a]∧eK a)∨
 (k=44∧x= []∧o=0∧∃a l,ks=a::l∧eK a∧eKs l)∨(k=45∧tokOK 4 x∧o=0∧∃a,ks= [a]∧eK a)∨(k=46∧x= []∧o=0∧∃a b,ks= [a,b]∧eK a∧eK b)∨
 (k=47∧x= []∧o=0∧∃a b c,ks= [a,b,c]∧eK a∧(eK b∨b.kind=48)∧(eK c∨c.kind=48))∨(k=49∧x= []∧o=0∧∃a b c,ks= [a,b,c]∧eK a∧eK b∧eK c)∨
 (k=50∧x= []∧o=0∧∃p e,ks= [p,e]∧p.kind=23∧eK e)∨(k=23∧x= []∧o=0∧nmKs ks)∨
 ((k=51∨k=52)∧x= []∧o=0∧eKs ks)∨(k=53∧x= []∧o=0∧ks≠ []∧eKs ks)∨(k=54∧x= []∧o=0∧ks.length % 2=0∧eKs ks)∨
 ((k=55∨k=56)∧x= []∧o=0∧∃e l,ks=e::l∧eK e∧hdF l=true∧cKs l)∨(k=57∧x= []∧o=0∧∃a b l,ks=a::b::l∧eK a∧eK b∧hdF l=true∧cKs l)∨
 (k=58∧x= []∧o=0∧∃a b,ks= [a,b]∧eK a∧placeN a=true∧eK b)∨(k=59∧x= []∧o=0∧∃a,ks= [a]∧eK a)∨
 ((k=60∨k=10∨k=14)∧x= []∧o=0∧(ks= []∨∃a,ks= [a]∧eK a))∨(k=20∧x= []∧o=0∧∃a,ks= [a]∧eK a)∨
 (k=2∧x= []∧o=0∧∃a,ks= [a]∧vK a)∨(k=3∧x= []∧o=0∧∃l v,ks=l++ [v]∧l≠ []∧vK v∧∀n∈l,eK n∧placeN n=true)∨
 (k=4∧x= []∧1≤o∧o≤7∧∃a b,ks= [a,b]∧eK a∧singleN a=true∧eK b)∨(k=19∧x= []∧o=0∧∃a,ks= [a]∧eK a∧singleN a=true)∨
 ((k=17∨k=18)∧x= []∧o=0∧ks≠ []∧nmKs ks)∨(k=1∧x= []∧o=0∧sKs ks)∨
 (k=5∧x= []∧o=0∧∃a b l,ks=a::b::l∧eK a∧b.kind=1∧(l= []∨∃e,l= [e]∧e.kind=1))∨(k=6∧x= []∧o=0∧∃a b,ks= [a,b]∧eK a∧b.kind=1)∨
 (k=7∧x= []∧o=0∧∃a b c,ks= [a,b,c]∧eK a∧placeN a=true∧eK b∧c.kind=1)∨(k=8∧tokOK 4 x∧o=0∧∃a b,ks= [a,b]∧a.kind=23∧b.kind=1)∨
 (k=9∧tokOK 4 x∧o=0∧∃a b,ks= [a,b]∧a.kind=24∧b.kind=1)∨(k=24∧x= []∧o=0∧eKs ks)∨
 (k=15∧x= []∧o=0∧∃b l,ks=b::l∧b.kind=1∧l≠ []∧∃h t,l=h++t∧hdKs h∧(∀n∈h.dropLast,n.kids.length=2)∧(t= []∨∃y,t= [y]∧y.kind=22))∨
 (k=21∧((x= []∧∃b,ks= [b]∧b.kind=1)∨((x= []∨tokOK 4 x)∧∃e b,ks= [e,b]∧eK e∧b.kind=1))∧o=0)∨(k=22∧x= []∧o=0∧∃b,ks= [b]∧b.kind=1)∨
 (k=16∧(x= []∨tokOK 4 x)∧o=0∧∃e b,ks= [e,b]∧eK e∧b.kind=1)
mutual
def wfN:Nd→Prop
 | .mk k _ x o ks=>shp k x o ks∧wfL ks
def wfL:List Nd→Prop
 | []=>True
 | n::ks=>wfN n∧wfL ks
end
theorem wfL_app : ∀ {a b:List Nd},wfL (a++b)↔wfL a∧wfL b
 | [],b=>by simp[wfL]
 | n::a,b=>by simp only[List.cons_append,wfL,wfL_app,and_assoc]
def TW (P:List Nd→Prop):PR→Prop
 | some (.ok (l,_))=>P l
 | _=>True
abbrev xE:List Nd→Prop:=fun l=>∃n,l= [n]∧wfN n∧eK n
abbrev xP:List Nd→Prop:=fun l=>∃n,l= [n]∧wfN n∧eK n∧placeN n=true
abbrev xV:List Nd→Prop:=fun l=>∃n,l= [n]∧wfN n∧vK n
abbrev xS:List Nd→Prop:=fun l=>∃n,l= [n]∧wfN n∧sK n
abbrev xK(k:Nat):List Nd→Prop:=fun l=>∃n,l= [n]∧wfN n∧n.kind=k
def NT.out(ts:List PT)(i:Nat):NT→List Nd→Prop
 | .one | .places | .placesL _ _=>xP
 | .value=>xV
 | .simple | .plain | .asgL _ _ | .stmt | .names _ _ _ | .ifs _ | .tries _ | .triesF _ _=>xS
 | .maybe k _ _=>xK k
 | .block | .blockL _=>xK 1
 | .params _ _ _=>xK 23
 | .row _ _=>fun l=>wfL l∧eKs l
 | .clauses acc=>fun l=>wfL l∧cKs l∧(acc= []→isT ts i s_for=true→hdF l=true)∧(acc≠ []→hdF l=hdF acc)
 | .triesL _=>fun l=>∃b h,l=b::h∧wfL l∧b.kind=1∧hdKs h∧∀n∈h.dropLast,n.kids.length=2
 | .top _=>fun l=>wfL l∧∀n∈l,sK n
 | _=>xE
def NT.inp(ts:List PT)(i:Nat):NT→Prop
 | .params _ _ acc=>wfL acc∧nmKs acc
 | .row _ acc | .exprsL _ acc=>wfL acc∧eKs acc
 | .orL n | .andL n | .arithL n | .termL n | .primL n | .index n=>wfN n∧eK n
 | .cmpL n acc=>wfN n∧eK n∧wfL acc∧∀m∈acc,m.kind=43
 | .clauses acc=>wfL acc∧cKs acc
 | .dictL _ acc=>wfL acc∧eKs acc∧acc.length % 2=0
 | .placesL _ acc=>wfL acc∧eKs acc∧placesN acc=true∧acc≠ []
 | .names k _ acc=>(k=17∨k=18)∧wfL acc∧nmKs acc
 | .maybe k _ _=>k=60∨k=10∨k=14
 | .asgL _ acc=>wfL acc∧(∃l v,acc=l++ [v]∧vK v∧∀n∈l,eK n∧placeN n=true)∧(2≤acc.length∨isT ts i s_asg=true)
 | .blockL acc=>wfL acc∧∀n∈acc,sK n
 | .triesL acc=>∃b h,acc=b::h∧wfL acc∧b.kind=1∧hdKs h∧∀n∈h,n.kids.length=2
 | .triesF _ acc=>∃b h,acc=b::h∧wfL acc∧b.kind=1∧hdKs h∧∀n∈h.dropLast,n.kids.length=2
 | .top acc=>wfL acc∧∀n∈acc,sK n
 | _=>True
def WfOk (ts:List PT)(f:Nat):Prop:=∀a i,a.inp ts i→TW (a.out ts i) (gr ts f a i)
theorem tw_if{c:Prop}[Decidable c]{P:List Nd→Prop}{a b:PR}(h1:c→TW P a)(h2 : ¬c→TW P b):TW P (if c then a else b):=by
 split
 ·exact h1 ‹_›
 ·exact h2 ‹_›
theorem tw_wantB{ts:List PT}{s:List UInt8}{i:Nat}{P:List Nd→Prop}{k:Nat→PR}(h:TW P (k (i+1))):TW P (wantB ts s i k):=tw_if (fun _=>h) fun _=>trivial
theorem tw_wantK{ts:List PT}{kd:Int}{i:Nat}{P:List Nd→Prop}{k:List UInt8→Nat→PR}(h:(nowT ts i).kind=kd→TW P (k (nowT ts i).text (i+1))):TW P (wantK ts kd i k):=tw_if h fun _=>trivial
theorem tw_pb{r:PR}{P Q:List Nd→Prop}{k:List Nd→Nat→PR}(h:TW Q r)(hk : ∀l j,Q l→TW P (k l j)):TW P (pb r k):=by
 match r,h with
 | none,_=>exact trivial
 | some (.error e),_=>exact trivial
 | some (.ok (l,j)),h=>exact hk l j h
theorem tw_pb1{r:PR}{P Q:List Nd→Prop}{k:Nd→Nat→PR}(h:TW Q r)(hk : ∀n j,Q [n]→TW P (k n j)):TW P (pb1 r k):=tw_pb h fun l j h2=>by
 match l,h2 with
 | [],_=>exact trivial
 | _::_::_,_=>exact trivial
 | [n],h2=>exact hk n j h2
theorem tw_er{P:List Nd→Prop}{e:Nat}:TW P (some (.error e)):=trivial
theorem tw_ok{P:List Nd→Prop}{j:Nat}{l:List Nd}(h2:P l):TW P (some (.ok (l,j))):=h2
theorem tw_pk{P:List Nd→Prop}{j:Nat}{n:Nd}(h2:P [n]):TW P (pk1 n j):=h2
theorem tw_op{ts:List PT}{p:Nat}{P:List Nd→Prop}{A:PR}{B:Nat→Nat→PR}(hA:TW P A)(hB : ∀op j,op+1≤10→TW P (B op j)):TW P (match opT ts p with | .error e=>some (.error e) | .ok (0,_)=>A | .ok (op+1,j)=>B op j):=by
 have h : ∀o j,opT ts p= .ok (o,j)→o≤10:=by
  intro o j h
  unfold opT at h
  (repeat' split at h)<;>first | (cases h;omega) | cases h
 match hq:opT ts p with
 | .error e=>exact trivial
 | .ok (0,_)=>exact hA
 | .ok (op+1,j)=>exact hB op j (h _ _ hq)
end Can
end Go.Proofs.YticlaccbodpkeaaGreatDoor
end
section
namespace Go.Proofs.YticlaccbodpkeaaGreatDoor
namespace Can
set_option linter.unusedSimpArgs false
set_option linter.unusedVariables false
variable (it:Nat→Bs)
def lamO (own:List Bs)(ps:List Nd):List Bs:=own.filter fun y=> !decide (y∈ps.map Nd.text)
mutual
def turn (own:List Bs)(t:Bs):Nd→Nd
 | .mk k l x o ks=>if k=36∧x∈own then .mk k l (x++t) o ks else .mk k l x o (turnL (if k=50 then lamO own (kid0 ks).kids else own) t ks)
def turnL(own:List Bs)(t:Bs):List Nd→List Nd
 | []=> []
 | n::ks=>turn own t n::turnL own t ks
end
def turnX(own:List Bs)(t:Bs):List Nd→List Nd
 | a::b::r=>turn own t a::b::turnL own t r
 | ks=>turnL own t ks
def turnC(own:List Bs)(t:Bs)(first:Bool):List Nd→List Nd
 | []=> []
 | .mk k l x o ks::ns=>if k=58∧first=true then .mk k l x o (turnX own t ks)::turnC own t false ns else turn own t (.mk k l x o ks)::turnC own t first ns
mutual
def renD (c:Nat):Nd→Nd×Nat
 | .mk k l x o ks=>if k=55∨k=56∨k=57 then
    let r:=renDL (c+1) ks
    (.mk k l x o (turnC (ownL r.1) (46::it (c+1)) true r.1),r.2)
   else
    let r:=renDL c ks
    (.mk k l x o r.1,r.2)
def renDL(c:Nat):List Nd→List Nd×Nat
 | []=>([],c)
 | n::ks=>let a:=renD c n;let r:=renDL a.2 ks;(a.1::r.1,r.2)
end
abbrev Lvs:=List (List Bs×Nat)
def rhoL:Lvs→Bs→Nat
 | [],_=>0
 | (o,i)::L,y=>if y∈o then i else rhoL L y
def tuA:Lvs→Nd→Nd
 | [],n=>n
 | (o,i)::L,n=>tuA L (turn o (46::it i) n)
def tuL:Lvs→List Nd→List Nd
 | [],n=>n
 | (o,i)::L,n=>tuL L (turnL o (46::it i) n)
def okLv (L:Lvs):Prop:=∀p∈L,0<p.2∧∀y∈p.1,(46:UInt8)∉y
def lamL (L:Lvs)(ps:List Nd):Lvs:=L.map fun p=>(lamO p.1 ps,p.2)
theorem rho_lam(ps:List Nd) : ∀(L:Lvs),rhoL (lamL L ps)=wo (rhoL L) ps
 | []=>by funext y;simp[lamL,rhoL,wo]
 | (o,i)::L=>by
   have ih:=rho_lam ps L
   funext y
   show(if y∈lamO o ps then i else rhoL (lamL L ps) y)=_
   rw[ih]
   unfold wo lamO
   simp only[rhoL,List.mem_filter,Bool.not_eq_true',decide_eq_false_iff_not]
   by_cases h:y∈ps.map Nd.text<;>by_cases h2:y∈o<;>simp[h,h2]
theorem tuL_nil : ∀(L:Lvs),tuL it L []= []
 | []=>rfl
 | (o,i)::L=>by simp only[tuL,turnL];exact tuL_nil L
theorem tuL_cons : ∀(L:Lvs) (n:Nd) (ks:List Nd),tuL it L (n::ks)=tuA it L n::tuL it L ks
 | [],_,_=>rfl
 | (o,i)::L,n,ks=>by simp only[tuL,turnL,tuA];exact tuL_cons L _ _
theorem tuA_mk{k:Nat}(h1:k≠36)(h2:k≠50)(l:Int)(x:Bs)(o:Nat) : ∀(L:Lvs) (ks:List Nd),tuA it L (.mk k l x o ks)= .mk k l x o (tuL it L ks)
 | [],_=>rfl
 | (w,i)::L,ks=>by
   simp only[tuA,tuL,turn,h1,h2,false_and,if_false]
   exact tuA_mk h1 h2 l x o L _
theorem tuA_pt{x t:Bs}(hd:(46:UInt8)∈x)(l:Int)(o:Nat) : ∀(L:Lvs),okLv L→tuA it L (.mk 36 l x o [])= .mk 36 l x o []
 | [],_=>rfl
 | (w,i)::L,h=>by
   have hx:x∉w:=fun e=>(h (w,i) (List.mem_cons_self ..)).2 x e hd
   simp only[tuA,turn,hx,and_false,if_false,turnL]
   exact tuA_pt (t:=t) hd l o L fun p hp=>h p (List.mem_cons_of_mem _ hp)
theorem tuA_name(x:Bs)(l:Int)(o:Nat) : ∀(L:Lvs),okLv L→tuA it L (.mk 36 l x o [])= .mk 36 l (if 0<rhoL L x then x++46::it (rhoL L x) else x) o []
 | [],_=>by simp[tuA,rhoL]
 | (w,i)::L,h=>by
   have h':okLv L:=fun p hp=>h p (List.mem_cons_of_mem _ hp)
   by_cases hx:x∈w
   ·have hi:=(h (w,i) (List.mem_cons_self ..)).1
    simp only[tuA,turn,hx,and_self,if_true,rhoL]
    rw[if_pos hi]
    exact tuA_pt it (t:= []) (by simp) l o L h'
   ·simp only[tuA,turn,hx,and_false,if_false,turnL,rhoL]
    exact tuA_name x l o L h'
theorem tuL_par(ps:List Nd)(hps : ∀n∈ps,n.kind=36∧n.kids= []) : ∀(qs:List Nd) (o:List Bs) (t:Bs),(∀n∈qs,n∈ps)→turnL (lamO o ps) t qs=qs
 | [],_,_,_=>rfl
 | n::qs,o,t,h=>by
   have hn:=h n (List.mem_cons_self ..)
   have h36:=hps n hn
   rw[turnL,tuL_par ps hps qs o t fun m hm=>h m (List.mem_cons_of_mem _ hm)]
   congr 1
   obtain⟨k,l,x,o',ks⟩:=n
   obtain⟨rfl,rfl⟩:k=36∧ks= []:=h36
   have hx:x∉lamO o ps:=fun e=>by
    unfold lamO at e
    have:=(List.mem_filter.1 e).2
    simp only[Bool.not_eq_true',decide_eq_false_iff_not] at this
    exact this (List.mem_map.2 ⟨_,hn,rfl⟩)
   simp only[turn,hx,and_false,if_false,turnL]
theorem tuA_lam(ps:List Nd)(hps : ∀n∈ps,n.kind=36∧n.kids= [])(l lp:Int)(x xp:Bs)(o op:Nat) : ∀(L:Lvs) (r:List Nd),tuA it L (.mk 50 l x o (.mk 23 lp xp op ps::r))= .mk 50 l x o (.mk 23 lp xp op ps::tuL it (lamL L ps) r)
 | [],_=>rfl
 | (w,i)::L,r=>by
   have e:turn w (46::it i) (.mk 50 l x o (.mk 23 lp xp op ps::r))= .mk 50 l x o (.mk 23 lp xp op ps::turnL (lamO w ps) (46::it i) r):=by
    simp only[turn,turnL,kid0,Nd.kids,show ¬((50:Nat)=36) by decide,show ¬((23:Nat)=36) by decide,show ¬((23:Nat)=50) by decide,false_and,if_false,if_true]
    rw[tuL_par ps hps ps w _ fun _ h=>h]
   rw[tuA,e]
   exact tuA_lam ps hps l lp x xp o op L _
theorem renD_kind(c:Nat) : ∀n:Nd,(renD it c n).1.kind=n.kind
 | .mk k l x o ks=>by
   rw[renD]
   split<;>rfl
theorem renDL_nil{c:Nat}:renDL it c []=([],c):=by rw[renDL]
theorem renDL_cons{c:Nat}{n:Nd}{ks:List Nd}:renDL it c (n::ks)=((renD it c n).1::(renDL it (renD it c n).2 ks).1,(renDL it (renD it c n).2 ks).2):=by rw[renDL]
theorem renD_no{c k:Nat}(h : ¬(k=55∨k=56∨k=57)){l:Int}{x:Bs}{o:Nat}{ks:List Nd}:renD it c (.mk k l x o ks)=(.mk k l x o (renDL it c ks).1,(renDL it c ks).2):=by rw[renD,if_neg h]
theorem plc_mk{k:Nat}{l:Int}{x:Bs}{o:Nat}{ks:List Nd}:plc (.mk k l x o ks)=if k=36 then [x] else if k=52∨k=51 then plcL ks else []:=by rw[plc]
def P1 (N:Nat):Prop:=∀(n:Nd) (c:Nat),SizeOf.sizeOf n<N→plc (renD it c n).1=plc n
def P2 (N:Nat):Prop:=∀(ks:List Nd) (c:Nat),SizeOf.sizeOf ks<N→plcL (renDL it c ks).1=plcL ks
theorem plc_all(N:Nat):P1 it N∧P2 it N:=by
 induction N with
 | zero=>exact⟨fun _ _ h=>absurd h (Nat.not_lt_zero _),fun _ _ h=>absurd h (Nat.not_lt_zero _)⟩
 | succ N ih=>
   refine⟨fun n c hN=> ?_,fun ks c hN=> ?_⟩
   ·obtain⟨k,l,x,o,ks⟩:=n
    have hs:SizeOf.sizeOf ks<N:=by simp at hN;omega
    by_cases hk:k=55∨k=56∨k=57
    ·rw[renD,if_pos hk]
     show plc (.mk k l x o _)=_
     rw[plc_mk,plc_mk,if_neg (by omega),if_neg (by omega),if_neg (by omega),if_neg (by omega)]
    ·rw[renD_no it hk]
     show plc (.mk k l x o (renDL it c ks).1)=_
     rw[plc_mk,plc_mk,ih.2 ks c hs]
   ·cases ks with
    | nil=>rw[renDL_nil]
    | cons n ks=>
      simp at hN
      rw[renDL_cons]
      show plcL ((renD it c n).1::(renDL it (renD it c n).2 ks).1)=_
      rw[plcL,plcL,ih.1 n c (by omega),ih.2 ks _ (by omega)]
theorem plc_ren(n:Nd)(c:Nat):plc (renD it c n).1=plc n:=(plc_all it (SizeOf.sizeOf n+1)).1 n c (Nat.lt_succ_self _)
theorem own_ren : ∀(ks:List Nd) (c:Nat),ownL (renDL it c ks).1=ownL ks
 | [],c=>by rw[renDL_nil]
 | n::ks,c=>by
   rw[renDL_cons]
   show ownL ((renD it c n).1::(renDL it (renD it c n).2 ks).1)=_
   rw[ownL,ownL,own_ren ks,renD_kind]
   congr 1
   by_cases h:n.kind=58
   ·rw[if_pos h,if_pos h]
    obtain⟨k,l,x,o,ks'⟩:=n
    obtain rfl:k=58:=h
    rw[renD_no it (by decide)]
    show plc (kid0 (renDL it c ks').1)=plc (kid0 ks')
    cases ks' with
    | nil=>rw[renDL_nil]
    | cons a r=>
      rw[renDL_cons]
      exact plc_ren it a c
   ·rw[if_neg h,if_neg h]
theorem nWal_ok{p:Nat→Bool} : ∀ {l:List UInt8},∀c∈l.take (nW p l),p c.toNat=true
 | [],c,hc=>(by cases hc)
 | a::l,c,hc=>by
   rw[nW] at hc
   split at hc
   ·rename_i ha
    rw[List.take_succ_cons] at hc
    rcases List.mem_cons.1 hc with rfl | hc
    ·exact ha
    ·exact nWal_ok c hc
   ·cases hc
theorem tok4_pt{x:Bs}(h:tokOK 4 x):(46:UInt8)∉x:=by
 obtain⟨l,n,h⟩:=h
 unfold tokT at h
 split at h
 ·simp only[Option.some.injEq,Prod.mk.injEq] at h
  obtain⟨_,rfl,_⟩:=h
  intro hx
  exact absurd (nWal_ok (p:=isAlN) _ hx) (by decide)
 ·split at h
  ·split at h
   ·cases h
   ·have:numK l≠4:=by
     unfold numK
     split<;>decide
    simp only[Option.some.injEq,Prod.mk.injEq] at h
    exact absurd h.1 this
  ·split at h
   ·cases hs:strT (hd l) (l.drop 1) with
    | none=>rw[hs] at h;cases h
    | some z=>rw[hs] at h;cases h
   ·cases hs:symN l with
    | none=>rw[hs] at h;cases h
    | some z=>rw[hs] at h;cases h
theorem wfL_mem : ∀ {ks:List Nd} {n:Nd},wfL ks→n∈ks→wfN n
 | m::ks,n,h,hn=>by
   rcases List.mem_cons.1 hn with rfl | hn
   ·exact h.1
   ·exact wfL_mem h.2 hn
theorem kids23{k:Nat}{x:Bs}{o:Nat}{ks:List Nd}(h:shp k x o ks)(hk:23≤k) : ∀n∈ks,23≤n.kind:=by
 unfold shp at h
 simp only[eK,eKs,cKs,nmKs,vK] at h
 intro n hn
 rcases h with h | h | h | h | h | h | h | h | h | h | h | h | h | h | h | h | h | h | h | h | h | h | h | h | h | h | h | h | h | h | h | h | h | h | h | h | h | h | h | h | h | h
 all_goals first
  | (exfalso;have:=h.1;omega)
  | (obtain⟨_,_,_,rfl⟩:=h;cases hn)
  | grind
theorem shp36{x:Bs}{o:Nat}{ks:List Nd}(h:shp 36 x o ks):ks= []∧tokOK 4 x:=by
 unfold shp at h
 simp at h
 exact⟨h.2.2,h.1⟩
theorem shp50{x:Bs}{o:Nat}{ks:List Nd}(h:shp 50 x o ks) : ∃p e,ks= [p,e]∧p.kind=23:=by
 unfold shp at h
 simp at h
 obtain⟨_,_,p,e,h1,h2,_⟩:=h
 exact⟨p,e,h1,h2⟩
theorem shp23{x:Bs}{o:Nat}{ks:List Nd}(h:shp 23 x o ks):nmKs ks:=by
 unfold shp at h
 simp at h
 exact h.2.2
theorem shp58{x:Bs}{o:Nat}{ks:List Nd}(h:shp 58 x o ks) : ∃a b,ks= [a,b]:=by
 unfold shp at h
 simp at h
 obtain⟨_,_,p,e,h1,_⟩:=h
 exact⟨p,e,h1⟩
theorem nm_wf{ps:List Nd}(h:nmKs ps)(hw:wfL ps) : ∀n∈ps,n.kind=36∧n.kids= []:=fun n hn=>by
 have h1:=h n hn
 have h2:=wfL_mem hw hn
 obtain⟨k,l,x,o,ks⟩:=n
 obtain rfl:k=36:=h1
 exact⟨rfl,(shp36 h2.1).1⟩
def Q1 (N:Nat):Prop:=∀(n:Nd),SizeOf.sizeOf n<N→wfN n→∀y∈plc n,(46:UInt8)∉y
def Q2 (N:Nat):Prop:=∀(ks:List Nd),SizeOf.sizeOf ks<N→wfL ks→∀y∈plcL ks,(46:UInt8)∉y
theorem plc_pt(N:Nat):Q1 N∧Q2 N:=by
 induction N with
 | zero=>exact⟨fun _ h=>absurd h (Nat.not_lt_zero _),fun _ h=>absurd h (Nat.not_lt_zero _)⟩
 | succ N ih=>
   refine⟨fun n hN hw y hy=> ?_,fun ks hN hw y hy=> ?_⟩
   ·obtain⟨k,l,x,o,ks⟩:=n
    have hs:SizeOf.sizeOf ks<N:=by simp at hN;omega
    rw[plc_mk] at hy
    split at hy
    ·rename_i h36
     subst h36
     rw[List.mem_singleton] at hy
     subst hy
     exact tok4_pt (shp36 hw.1).2
    ·split at hy
     ·exact ih.2 ks hs hw.2 y hy
     ·cases hy
   ·cases ks with
    | nil=>rw[plcL] at hy;cases hy
    | cons n ks=>
      simp at hN
      rw[plcL] at hy
      rcases List.mem_append.1 hy with hy | hy
      ·exact ih.1 n (by omega) hw.1 y hy
      ·exact ih.2 ks (by omega) hw.2 y hy
theorem own_pt : ∀ {ks:List Nd},wfL ks→∀y∈ownL ks,(46:UInt8)∉y
 | [],_,y,hy=>by rw[ownL] at hy;cases hy
 | n::ks,hw,y,hy=>by
   rw[ownL] at hy
   rcases List.mem_append.1 hy with hy | hy
   ·split at hy
    ·have hk:wfN (kid0 n.kids)∨n.kids= []:=by
      obtain⟨k,l,x,o,ks'⟩:=n
      cases ks' with
      | nil=>exact .inr rfl
      | cons a r=>exact .inl hw.1.2.1
     rcases hk with hk | hk
     ·exact(plc_pt (SizeOf.sizeOf (kid0 n.kids)+1)).1 _ (Nat.lt_succ_self _) hk y hy
     ·rw[hk] at hy
      simp[kid0,plc] at hy
    ·cases hy
   ·exact own_pt hw.2 y hy
theorem tuL_pars(ps:List Nd)(hps : ∀n∈ps,n.kind=36∧n.kids= []) : ∀(L:Lvs),tuL it (lamL L ps) ps=ps
 | []=>rfl
 | (o,i)::L=>by
   show tuL it (lamL L ps) (turnL (lamO o ps) (46::it i) ps)=ps
   rw[tuL_par ps hps ps o _ fun _ h=>h]
   exact tuL_pars ps hps L
theorem renDL_par(ps:List Nd)(hps : ∀n∈ps,n.kind=36∧n.kids= [])(c:Nat):renDL it c ps=(ps,c):=by
 induction ps with
 | nil=>rw[renDL_nil]
 | cons n ps ih=>
   have h1:=hps n (List.mem_cons_self ..)
   obtain⟨k,l,x,o,ks⟩:=n
   obtain⟨rfl,rfl⟩:k=36∧ks= []:=h1
   rw[renDL_cons,renD_no it (by decide),renDL_nil]
   show(_::(renDL it c ps).1,(renDL it c ps).2)=_
   rw[ih fun m hm=>hps m (List.mem_cons_of_mem _ hm)]
theorem okLv_lam{L:Lvs}(h:okLv L)(ps:List Nd):okLv (lamL L ps):=fun p hp=>by
 obtain⟨q,hq,rfl⟩:=List.mem_map.1 hp
 exact⟨(h q hq).1,fun y hy=>(h q hq).2 y (List.mem_filter.1 hy).1⟩
def M1 (N:Nat):Prop:=∀(n:Nd) (L:Lvs) (c:Nat),SizeOf.sizeOf n<N→wfN n→okLv L→(L= []∨23≤n.kind)→renP it (rhoL L) c n=(tuA it L (renD it c n).1,(renD it c n).2)
def M2 (N:Nat):Prop:=∀(ks:List Nd) (L:Lvs) (c:Nat),SizeOf.sizeOf ks<N→wfL ks→okLv L→(L= []∨∀n∈ks,23≤n.kind)→renL it (rhoL L) c ks=(tuL it L (renDL it c ks).1,(renDL it c ks).2)
def M3 (N:Nat):Prop:=∀(ks:List Nd) (L:Lvs) (w:List Bs) (i:Nat) (first:Bool) (c:Nat),SizeOf.sizeOf ks<N→wfL ks→okLv L→okLv ((w,i)::L)→(∀n∈ks,23≤n.kind)→renC it (rhoL ((w,i)::L)) (rhoL L) first c ks=(tuL it L (turnC w (46::it i) first (renDL it c ks).1),(renDL it c ks).2)
theorem m1_step{N:Nat}(ih2:M2 it N)(ih3:M3 it N):M1 it (N+1):=by
 intro n L c hN hw hL hk
 obtain⟨k,l,x,o,ks⟩:=n
 have hs:SizeOf.sizeOf ks<N:=by simp at hN;omega
 have hk':L= []∨23≤k:=hk
 have hkk:L= []∨∀n∈ks,23≤n.kind:=hk'.imp id fun h=>kids23 hw.1 h
 by_cases hc:k=55∨k=56∨k=57
 ·have ho:okLv ((ownL ks,c+1)::L):=fun p hp=>by
   rcases List.mem_cons.1 hp with rfl | hp
   ·exact⟨Nat.succ_pos _,own_pt hw.2⟩
   ·exact hL p hp
  have:=ih3 ks L (ownL ks) (c+1) true (c+1) hs hw.2 hL ho (kids23 hw.1 (by omega))
  rw[renP,if_pos hc,renD,if_pos hc]
  show(Nd.mk k l x o (renC it (rhoL ((ownL ks,c+1)::L)) (rhoL L) true (c+1) ks).1,_)=_
  rw[show wi (rhoL L) (ownL ks) (c+1)=rhoL ((ownL ks,c+1)::L) from rfl,this]
  show _=(tuA it L (.mk k l x o (turnC (ownL (renDL it (c+1) ks).1) (46::it (c+1)) true (renDL it (c+1) ks).1)),_)
  rw[tuA_mk it (by omega) (by omega),own_ren]
 ·by_cases h36:k=36
  ·subst h36
   obtain⟨rfl,ht⟩:=shp36 hw.1
   rw[renP,if_neg hc,renD_no it hc,renDL_nil,tuA_name it x l o L hL]
   simp[renL]
  ·by_cases h50:k=50
   ·subst h50
    obtain⟨p,e,rfl,hp⟩:=shp50 hw.1
    obtain⟨pk,lp,xp,op,ps⟩:=p
    obtain rfl:pk=23:=hp
    have hps:=nm_wf (shp23 hw.2.1.1) hw.2.1.2
    have hL':=okLv_lam hL ps
    have:=ih2 [.mk 23 lp xp op ps,e] (lamL L ps) c hs hw.2 hL' (.inr (kids23 hw.1 (by decide)))
    rw[renP,if_neg hc,renD_no it hc]
    show(Nd.mk 50 l (if (50:Nat)=36∧0<rhoL L x then x++ [46]++it (rhoL L x) else x) o (renL it (wo (rhoL L) ps) c [.mk 23 lp xp op ps,e]).1,(renL it (wo (rhoL L) ps) c [.mk 23 lp xp op ps,e]).2)=_
    rw[←rho_lam,this,if_neg (by omega)]
    simp only[renDL_cons,renDL_nil,renD_no it (show ¬((23:Nat)=55∨(23:Nat)=56∨(23:Nat)=57) by decide),renDL_par it ps hps]
    rw[tuA_lam it ps hps,tuL_cons,tuA_mk it (by decide) (by decide),tuL_pars it ps hps]
   ·rw[renP,if_neg hc,renD_no it hc]
    have e:renL it (if k=8∨k=50 then wo (rhoL L) (kid0 ks).kids else rhoL L) c ks=renL it (rhoL L) c ks:=by
     by_cases h8:k=8
     ·have hl:L= []:=hk'.resolve_right (by omega)
      subst hl
      rw[if_pos (.inl h8),←rho_lam]
      rfl
     ·rw[if_neg (by omega)]
    show(Nd.mk k l (if k=36∧0<rhoL L x then x++ [46]++it (rhoL L x) else x) o (renL it (if k=8∨k=50 then wo (rhoL L) (kid0 ks).kids else rhoL L) c ks).1,(renL it (if k=8∨k=50 then wo (rhoL L) (kid0 ks).kids else rhoL L) c ks).2)=_
    rw[e,ih2 ks L c hs hw.2 hL hkk,if_neg (by omega),tuA_mk it h36 h50]
theorem m2_step{N:Nat}(ih1:M1 it N)(ih2:M2 it N):M2 it (N+1):=by
 intro ks L c hN hw hL hk
 cases ks with
 | nil=>rw[renL,renDL_nil,tuL_nil]
 | cons n ks=>
   simp at hN
   rw[renL,renDL_cons]
   show(_::_,_)=_
   rw[ih1 n L c (by omega) hw.1 hL (hk.imp id fun h=>h n (List.mem_cons_self ..))]
   show(_::(renL it (rhoL L) (renD it c n).2 ks).1,(renL it (rhoL L) (renD it c n).2 ks).2)=_
   rw[ih2 ks L _ (by omega) hw.2 hL (hk.imp id fun h m hm=>h m (List.mem_cons_of_mem _ hm)),tuL_cons]
theorem renD_two{c:Nat}{l:Int}{x:Bs}{o:Nat}{p e:Nd}:renD it c (.mk 58 l x o [p,e])=(.mk 58 l x o [(renD it c p).1,(renD it (renD it c p).2 e).1],(renD it (renD it c p).2 e).2):=by
 rw[renD_no it (by decide),renDL_cons,renDL_cons,renDL_nil]
theorem m3_step{N:Nat}(ih1:M1 it N)(ih3:M3 it N):M3 it (N+1):=by
 intro ks L w i first c hN hw hL hL' hk
 cases ks with
 | nil=>rw[renDL_nil];simp[renC,turnC,tuL_nil]
 | cons n ks=>
   have hk1:=hk n (List.mem_cons_self ..)
   have hk2 : ∀m∈ks,23≤m.kind:=fun m hm=>hk m (List.mem_cons_of_mem _ hm)
   by_cases hf:n.kind=58∧first=true
   ·obtain⟨k,l,x,o,kk⟩:=n
    obtain⟨h58,rfl⟩:k=58∧first=true:=hf
    subst h58
    obtain⟨p,e,rfl⟩:=shp58 hw.1.1
    have h23:=kids23 hw.1.1 (by decide)
    simp at hN
    rw[renC,if_pos ⟨rfl,rfl⟩,renDL_cons,renD_two]
    have q1:=ih1 p ((w,i)::L) c (by omega) hw.1.2.1 hL' (.inr (h23 p (by simp)))
    have q2:=ih1 e L (renD it c p).2 (by omega) hw.1.2.2.1 hL (.inr (h23 e (by simp)))
    have q3:=ih3 ks L w i false (renD it (renD it c p).2 e).2 (by omega) hw.2 hL hL' hk2
    rw[q1]
    show(Nd.mk 58 l x o [_,(renP it (rhoL L) (renD it c p).2 e).1]::(renC it (rhoL ((w,i)::L)) (rhoL L) false (renP it (rhoL L) (renD it c p).2 e).2 ks).1,(renC it (rhoL ((w,i)::L)) (rhoL L) false (renP it (rhoL L) (renD it c p).2 e).2 ks).2)=_
    rw[q2]
    show(Nd.mk 58 l x o [_,_]::(renC it (rhoL ((w,i)::L)) (rhoL L) false (renD it (renD it c p).2 e).2 ks).1,(renC it (rhoL ((w,i)::L)) (rhoL L) false (renD it (renD it c p).2 e).2 ks).2)=_
    rw[q3]
    show _=(tuL it L (turnC w (46::it i) true (.mk 58 l x o [(renD it c p).1,(renD it (renD it c p).2 e).1]::(renDL it (renD it (renD it c p).2 e).2 ks).1)),_)
    rw[turnC,if_pos ⟨rfl,rfl⟩,tuL_cons,tuA_mk it (by decide) (by decide),turnX,turnL,tuL_cons,tuL_cons,tuL_nil]
    rfl
   ·have e1:renC it (rhoL ((w,i)::L)) (rhoL L) first c (n::ks)=((renP it (rhoL ((w,i)::L)) c n).1::(renC it (rhoL ((w,i)::L)) (rhoL L) first (renP it (rhoL ((w,i)::L)) c n).2 ks).1,(renC it (rhoL ((w,i)::L)) (rhoL L) first (renP it (rhoL ((w,i)::L)) c n).2 ks).2):=by
     obtain⟨k,l,x,o,kk⟩:=n
     by_cases h2 : ∃a b,kk= [a,b]
     ·obtain⟨a,b,rfl⟩:=h2
      have hf' : ¬(k=58∧first=true):=hf
      rw[renC,if_neg hf']
     ·rw[renC]
      exact fun k l x o p e h=>h2 ⟨p,e,by cases h;rfl⟩
    simp at hN
    have q1:=ih1 n ((w,i)::L) c (by omega) hw.1 hL' (.inr hk1)
    have q3:=ih3 ks L w i first (renD it c n).2 (by omega) hw.2 hL hL' hk2
    rw[e1,q1]
    show(_::(renC it (rhoL ((w,i)::L)) (rhoL L) first (renD it c n).2 ks).1,(renC it (rhoL ((w,i)::L)) (rhoL L) first (renD it c n).2 ks).2)=_
    rw[q3,renDL_cons]
    have hkd:=renD_kind it c n
    obtain⟨k',l',x',o',kk',hn'⟩ : ∃k l x o kk,(renD it c n).1= .mk k l x o kk:=by
     cases (renD it c n).1
     exact⟨_,_,_,_,_,rfl⟩
    show _=(tuL it L (turnC w (46::it i) first ((renD it c n).1::_)),_)
    rw[hn'] at hkd⊢
    rw[turnC,if_neg (by rw[←show k'=n.kind from hkd] at hf;exact hf),tuL_cons]
    rfl
theorem m_all(N:Nat):M1 it N∧M2 it N∧M3 it N:=by
 induction N with
 | zero=>exact⟨fun _ _ _ h=>absurd h (Nat.not_lt_zero _),fun _ _ _ h=>absurd h (Nat.not_lt_zero _),fun _ _ _ _ _ _ h=>absurd h (Nat.not_lt_zero _)⟩
 | succ N ih=>exact⟨m1_step it ih.2.1 ih.2.2,m2_step it ih.1 ih.2.1,m3_step it ih.1 ih.2.2⟩
end Can
end Go.Proofs.YticlaccbodpkeaaGreatDoor
end
section
namespace Go.Proofs.YticlaccbodpkeaaGreatDoor
namespace Can
set_option linter.unusedSimpArgs false
set_option linter.unusedVariables false
mutual
def lfN:Nd→Prop
 | .mk k _ _ _ ks=>((k=36→ks= [])∧(k=55∨k=56∨k=57→ks≠ []))∧(k=58→ks.length=2)∧lfL ks
def lfL:List Nd→Prop
 | []=>True
 | n::ks=>lfN n∧lfL ks
end
mutual
def txB (M:Nat):Nd→Prop
 | .mk _ _ x _ ks=>x.length≤M∧txBL M ks
def txBL (M:Nat):List Nd→Prop
 | []=>True
 | n::ks=>txB M n∧txBL M ks
end
theorem lfL_mem : ∀ {ks:List Nd} {n:Nd},lfL ks→n∈ks→lfN n
 | m::ks,n,h,hn=>by
   rcases List.mem_cons.1 hn with rfl | hn
   ·exact h.1
   ·exact lfL_mem h.2 hn
theorem txB_mem{M:Nat} : ∀ {ks:List Nd} {n:Nd},txBL M ks→n∈ks→txB M n
 | m::ks,n,h,hn=>by
   rcases List.mem_cons.1 hn with rfl | hn
   ·exact h.1
   ·exact txB_mem h.2 hn
theorem turnL_app(own:List Bs)(t:Bs) : ∀(a b:List Nd),turnL own t (a++b)=turnL own t a++turnL own t b
 | [],b=>rfl
 | n::a,b=>by simp only[List.cons_append,turnL,turnL_app own t a b]
theorem turnL_len(own:List Bs)(t:Bs) : ∀(a:List Nd),(turnL own t a).length=a.length
 | []=>rfl
 | n::a=>by simp only[turnL,List.length_cons,turnL_len own t a]
mutual
def nk:Nd→Nd
 | .mk k _ _ _ ks=> .mk k 0 [] 0 (nkL ks)
def nkL:List Nd→List Nd
 | []=> []
 | n::ks=>nk n::nkL ks
end
theorem nkL_len : ∀ks:List Nd,(nkL ks).length=ks.length
 | []=>rfl
 | n::ks=>by simp only[nkL,List.length_cons,nkL_len ks]
mutual
theorem nk_ht : ∀n:Nd,htN (nk n)=htN n
 | .mk k l x o ks=>by simp only[nk,htN,nkL_ht ks]
theorem nkL_ht : ∀ks:List Nd,htL (nkL ks)=htL ks
 | []=>rfl
 | n::ks=>by simp only[nkL,htL,nk_ht n,nkL_ht ks]
end
mutual
theorem nk_sz : ∀n:Nd,szN (nk n)=szN n
 | .mk k l x o ks=>by simp only[nk,szN,nkL_sz ks]
theorem nkL_sz : ∀ks:List Nd,szL (nkL ks)=szL ks
 | []=>rfl
 | n::ks=>by simp only[nkL,szL,nk_sz n,nkL_sz ks]
end
mutual
theorem nk_kd(B:Nat) : ∀n:Nd,kdN B (nk n)↔kdN B n
 | .mk k l x o ks=>by simp only[nk,kdN,nkL_len,nkL_kd B ks]
theorem nkL_kd(B:Nat) : ∀ks:List Nd,kdL B (nkL ks)↔kdL B ks
 | []=>Iff.rfl
 | n::ks=>by simp only[nkL,kdL,nk_kd B n,nkL_kd B ks]
end
theorem nkL_nil{ks:List Nd}:nkL ks= []↔ks= []:=by
 cases ks<;>simp[nkL]
mutual
theorem nk_lf : ∀n:Nd,lfN (nk n)↔lfN n
 | .mk k l x o ks=>by simp only[nk,lfN,nkL_len,nkL_lf ks,nkL_nil,ne_eq]
theorem nkL_lf : ∀ks:List Nd,lfL (nkL ks)↔lfL ks
 | []=>Iff.rfl
 | n::ks=>by simp only[nkL,lfL,nk_lf n,nkL_lf ks]
end
mutual
theorem nk_turn(own:List Bs)(t:Bs) : ∀n:Nd,nk (turn own t n)=nk n
 | .mk k l x o ks=>by
   rw[turn]
   split
   ·simp only[nk]
   ·simp only[nk]
    rw[nkL_turn _ t ks]
theorem nkL_turn(own:List Bs)(t:Bs) : ∀ks:List Nd,nkL (turnL own t ks)=nkL ks
 | []=>rfl
 | n::ks=>by simp only[turnL,nkL];rw[nk_turn own t n,nkL_turn own t ks]
end
theorem nkL_turnX(own:List Bs)(t:Bs)(ks:List Nd):nkL (turnX own t ks)=nkL ks:=by
 match ks with
 | []=>rfl
 | [a]=>exact nkL_turn own t [a]
 | a::b::r=>simp only[turnX,nkL];rw[nk_turn,nkL_turn]
theorem nkL_turnC(own:List Bs)(t:Bs) : ∀(ks:List Nd) (f:Bool),nkL (turnC own t f ks)=nkL ks
 | [],f=>by simp[turnC]
 | .mk k l x o ks::ns,f=>by
   rw[turnC]
   split
   ·simp only[nkL,nk]
    rw[nkL_turnX,nkL_turnC own t ns]
   ·simp only[nkL]
    rw[nk_turn,nkL_turnC own t ns]
variable (it:Nat→Bs)
mutual
theorem nk_ren(c:Nat) : ∀n:Nd,nk (renD it c n).1=nk n
 | .mk k l x o ks=>by
   rw[renD]
   split
   ·show nk (.mk k l x o (turnC _ _ true (renDL it (c+1) ks).1))=_
    simp only[nk]
    rw[nkL_turnC,nkL_ren (c+1) ks]
   ·show nk (.mk k l x o (renDL it c ks).1)=_
    simp only[nk]
    rw[nkL_ren c ks]
theorem nkL_ren(c:Nat) : ∀ks:List Nd,nkL (renDL it c ks).1=nkL ks
 | []=>by rw[renDL]
 | n::ks=>by
   rw[renDL]
   show nkL ((renD it c n).1::(renDL it (renD it c n).2 ks).1)=_
   simp only[nkL]
   rw[nk_ren c n,nkL_ren _ ks]
end
mutual
theorem txB_mono{M M':Nat}(h:M≤M') : ∀n:Nd,txB M n→txB M' n
 | .mk k l x o ks,g=>⟨Nat.le_trans g.1 h,txBL_mono h ks g.2⟩
theorem txBL_mono{M M':Nat}(h:M≤M') : ∀ks:List Nd,txBL M ks→txBL M' ks
 | [],_=>trivial
 | n::ks,g=>⟨txB_mono h n g.1,txBL_mono h ks g.2⟩
end
mutual
theorem txB_turn{M T:Nat}{t:Bs}(ht:t.length≤T) : ∀(n:Nd) (own:List Bs),txB M n→txB (M+T) (turn own t n)
 | .mk k l x o ks,own,g=>by
   rw[turn]
   split
   ·exact⟨by rw[List.length_append];have:=g.1;omega,txBL_mono (by omega) ks g.2⟩
   ·exact⟨Nat.le_trans g.1 (by omega),txBL_turn ht ks _ g.2⟩
theorem txBL_turn{M T:Nat}{t:Bs}(ht:t.length≤T) : ∀(ks:List Nd) (own:List Bs),txBL M ks→txBL (M+T) (turnL own t ks)
 | [],_,_=>trivial
 | n::ks,own,g=>⟨txB_turn ht n own g.1,txBL_turn ht ks own g.2⟩
end
theorem txBL_turnX{M T:Nat}{t:Bs}(ht:t.length≤T)(own:List Bs)(ks:List Nd)(g:txBL M ks):txBL (M+T) (turnX own t ks):=by
 match ks,g with
 | [],_=>trivial
 | [a],g=>exact txBL_turn ht [a] own g
 | a::b::r,g=>exact⟨txB_turn ht a own g.1,txB_mono (by omega) b g.2.1,txBL_turn ht r own g.2.2⟩
theorem txBL_turnC{M T:Nat}{t:Bs}(ht:t.length≤T)(own:List Bs) : ∀(ks:List Nd) (f:Bool),txBL M ks→txBL (M+T) (turnC own t f ks)
 | [],f,_=>by simp[turnC,txBL]
 | .mk k l x o ks::ns,f,g=>by
   rw[turnC]
   split
   ·exact⟨⟨Nat.le_trans g.1.1 (by omega),txBL_turnX ht own ks g.1.2⟩,txBL_turnC ht own ns _ g.2⟩
   ·exact⟨txB_turn ht _ own g.1,txBL_turnC ht own ns _ g.2⟩
mutual
theorem renD_le(c:Nat) : ∀n:Nd,c≤(renD it c n).2∧(renD it c n).2≤c+szN n
 | .mk k l x o ks=>by
   rw[renD,szN]
   split
   ·have:=renDL_le (c+1) ks
    exact⟨by show c≤(renDL it (c+1) ks).2;omega,by show(renDL it (c+1) ks).2≤_;omega⟩
   ·have:=renDL_le c ks
    exact⟨by show c≤(renDL it c ks).2;omega,by show(renDL it c ks).2≤_;omega⟩
theorem renDL_le(c:Nat) : ∀ks:List Nd,c≤(renDL it c ks).2∧(renDL it c ks).2≤c+szL ks
 | []=>by rw[renDL];exact⟨Nat.le_refl _,Nat.le_refl _⟩
 | n::ks=>by
   rw[renDL,szL]
   have h1:=renD_le c n
   have h2:=renDL_le (renD it c n).2 ks
   exact⟨by show c≤(renDL it (renD it c n).2 ks).2;omega,by show(renDL it (renD it c n).2 ks).2≤_;omega⟩
end
mutual
theorem txB_ren{M C T:Nat}(hT : ∀i,i≤C→(it i).length+1≤T) : ∀(n:Nd) (c:Nat),c+szN n≤C→txB M n→txB (M+htN n*T) (renD it c n).1
 | .mk k l x o ks,c,hc,g=>by
   rw[szN] at hc
   rw[renD,htN,Nat.succ_mul]
   split
   ·refine⟨Nat.le_trans g.1 (by omega),?_⟩
    rw[←Nat.add_assoc]
    exact txBL_turnC (by rw[List.length_cons];exact hT _ (by omega)) _ _ _ (txBL_ren hT ks (c+1) (by omega) g.2)
   ·exact⟨Nat.le_trans g.1 (by omega),txBL_mono (by omega) _ (txBL_ren hT ks c (by omega) g.2)⟩
theorem txBL_ren{M C T:Nat}(hT : ∀i,i≤C→(it i).length+1≤T) : ∀(ks:List Nd) (c:Nat),c+szL ks≤C→txBL M ks→txBL (M+htL ks*T) (renDL it c ks).1
 | [],c,_,_=>by rw[renDL];exact trivial
 | n::ks,c,hc,g=>by
   rw[szL] at hc
   rw[renDL,htL]
   have h1:=renD_le it c n
   refine⟨txB_mono (Nat.add_le_add_left (Nat.mul_le_mul_right _ (Nat.le_max_left _ _)) _) _ (txB_ren hT n c (by omega) g.1),txBL_mono (Nat.add_le_add_left (Nat.mul_le_mul_right _ (Nat.le_max_right _ _)) _) _ (txBL_ren hT ks _ (by omega) g.2)⟩
end
theorem lamO_mem{a b ps}(h : ∀y:Bs,y∈a↔y∈b)(y:Bs):y∈lamO a ps↔y∈lamO b ps:=by
 unfold lamO
 rw[List.mem_filter,List.mem_filter,h]
mutual
theorem turn_congr(t:Bs) : ∀(n:Nd) (a b:List Bs),(∀y,y∈a↔y∈b)→turn a t n=turn b t n
 | .mk k l x o ks,a,b,h=>by
   rw[turn,turn]
   simp only[h x]
   split
   ·rfl
   ·congr 1
    split
    ·exact turnL_congr t ks _ _ (lamO_mem h)
    ·exact turnL_congr t ks a b h
theorem turnL_congr(t:Bs) : ∀(ks:List Nd) (a b:List Bs),(∀y,y∈a↔y∈b)→turnL a t ks=turnL b t ks
 | [],_,_,_=>rfl
 | n::ks,a,b,h=>by rw[turnL,turnL,turn_congr t n a b h,turnL_congr t ks a b h]
end
theorem turnC_congr(t:Bs){a b:List Bs}(h : ∀y,y∈a↔y∈b) : ∀(ks:List Nd) (f:Bool),turnC a t f ks=turnC b t f ks
 | [],f=>by rw[turnC,turnC]
 | .mk k l x o ks::ns,f=>by
   rw[turnC,turnC,turnC_congr t h ns,turnC_congr t h ns,turn_congr t _ a b h]
   have e:turnX a t ks=turnX b t ks:=by
    match ks with
    | []=>rfl
    | [n]=>exact turnL_congr t [n] a b h
    | n::m::r=>simp only[turnX];rw[turn_congr t n a b h,turnL_congr t r a b h]
   rw[e]
theorem shpC{k:Nat}{x:Bs}{o:Nat}{ks:List Nd}(h:shp k x o ks)(hk:k=55∨k=56∨k=57):ks≠ []:=by
 rcases hk with rfl | rfl | rfl
 all_goals
  unfold shp at h
  simp at h
  rintro rfl
  simp at h
theorem wf_lf : ∀n:Nd,wfN n→lfN n
 | .mk k l x o ks,h=>by
   refine⟨⟨fun e=> ?_,fun e=>shpC h.1 e⟩,fun e=> ?_,wf_lfL ks h.2⟩
   ·subst e;exact(shp36 h.1).1
   ·subst e
    obtain⟨a,b,rfl⟩:=shp58 h.1
    rfl
where wf_lfL : ∀ks:List Nd,wfL ks→lfL ks
 | [],_=>trivial
 | n::ks,h=>⟨wf_lf n h.1,wf_lfL ks h.2⟩
end Can
end Go.Proofs.YticlaccbodpkeaaGreatDoor
end
