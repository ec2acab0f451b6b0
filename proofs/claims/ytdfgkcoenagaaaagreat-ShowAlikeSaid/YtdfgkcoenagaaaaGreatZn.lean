/- Parse, the program: its rules, as runs over trees, along the grammar. (Printed by tools/genpw3.py.). Parse, the program: all its rules, along the grammar. (Printed by tools/genpw3.py.). Parse, the program: parse.Parse, ahead of its deferred call. Parse, the program: parse.Parse answers parseT. Parse, its laws: the sources of the example, where Lex is told. Canonical runs: a table with functions of which it is told what they do. Over any program. -/
import Derived.Test.YtdfgkcoenagaaaaGreatZm
import Derived.Test.YtdfgkcoenagaaaaGreatZi
import Derived.Test.YtdfgkcoenagaaaaGreatZd
section
namespace Go.Proofs.YtdfgkcoenagaaaaGreat
namespace Can
open Go Go.RowKit
set_option linter.unusedSimpArgs false
set_option linter.unusedVariables false
set_option maxRecDepth 4000
attribute [local irreducible] TC isT nowT begT placeN
structure PAll(Z:TP)(X:Pan)(W:Int→Value)(ts:List PT)(sl:Sl)(g:Nat):Prop where
 expr:PC Z X W ts sl g .expr 35 [.ptr 0 0] ans1
 or_:PC Z X W ts sl g .or 62 [.ptr 0 0] ans1
 and_:PC Z X W ts sl g .and 81 [.ptr 0 0] ans1
 not_:PC Z X W ts sl g .not 96 [.ptr 0 0] ans1
 compare:PC Z X W ts sl g .compare 105 [.ptr 0 0] ans1
 arith:PC Z X W ts sl g .arith 110 [.ptr 0 0] ans1
 term:PC Z X W ts sl g .term 113 [.ptr 0 0] ans1
 factor:PC Z X W ts sl g .factor 114 [.ptr 0 0] ans1
 primary:PC Z X W ts sl g .primary 69 [.ptr 0 0] ans1
 atom:PC Z X W ts sl g .atom 83 [.ptr 0 0] ans1
 exprs:PC Z X W ts sl g .exprs 39 [.ptr 0 0] ans1
 one:PC Z X W ts sl g .one 65 [.ptr 0 0] ans1
 places:PC Z X W ts sl g .places 38 [.ptr 0 0] ans1
 simple:PC Z X W ts sl g .simple 44 [.ptr 0 0] ans1
 plain:PC Z X W ts sl g .plain 71 [.ptr 0 0] ans1
 value:PC Z X W ts sl g .value 85 [.ptr 0 0] ans1
 block:PC Z X W ts sl g .block 37 [.ptr 0 0] ans1
 stmt:PC Z X W ts sl g .stmt 23 [.ptr 0 0] ans1
 params : ∀(cl:List UInt8) (ln:Int),cl≠ []→PC Z X W ts sl g (.params cl ln []) 41 [.ptr 0 0,rS (.int .i64 ln),rS (.string ⟨⟨cl⟩⟩)] ans1
 row : ∀(cl:List UInt8),cl≠ []→PC Z X W ts sl g (.row cl []) 42 [.ptr 0 0,rS (.string ⟨⟨cl⟩⟩)] ansL
 index : ∀(k:Nat) (l:Int) (x:List UInt8) (o:Nat) (ks:List Nd),PC Z X W ts sl g (.index (.mk k l x o ks)) 84 [.ptr 0 0,ndA (.mk k l x o ks)] ans1
 clauses:PC Z X W ts sl g (.clauses []) 106 [.ptr 0 0] ansL
 list : ∀(ln:Int),PC Z X W ts sl g (.list ln) 98 [.ptr 0 0,rS (.int .i64 ln)] ans1
 braces : ∀(ln:Int),PC Z X W ts sl g (.braces ln) 99 [.ptr 0 0,rS (.int .i64 ln)] ans1
 names : ∀(k:Nat) (ln:Int),PC Z X W ts sl g (.names k ln []) 68 [.ptr 0 0,rS (.int .i64 (k:Nat)),rS (.int .i64 ln)] ans1
 maybe : ∀(k:Nat) (ln:Int) (all:Bool),PC Z X W ts sl g (.maybe k ln all) 67 [.ptr 0 0,rS (.int .i64 (k:Nat)),rS (.int .i64 ln),rS (.bool all)] ans1
 ifs : ∀(ln:Int),PC Z X W ts sl g (.ifs ln) 34 [.ptr 0 0,rS (.int .i64 ln)] ans1
 tries : ∀(ln:Int),PC Z X W ts sl g (.tries ln) 43 [.ptr 0 0,rS (.int .i64 ln)] ans1
theorem tck{Z:TP}{X:Pan}{args:List AV}{self:Self}{Q:AV→List SV→Prop}{R:Value→Prop}(g:FuncId)(h:TC Z (tblG Tryz.prog LG GG) X g args self Q R):TC Z (tblG Tryz.prog LG GG) X g args self Q R:=h
set_option maxRecDepth 1000000 in
theorem pw_go{Pz:Prop}(hz:Pz:=by
 repeat' first
  | ((with_reducible refine tck 33 ?_);first | (refine has_st C hG (by first | decide | exact cl_ne) (by omega) (fun hl hG=> ?_) (fun hG=> ?_)<;>(conv=>whnf)))
  | ((with_reducible refine tck 22 ?_);first | (refine now_tc C (by omega) ?_;(conv=>whnf)))
  | ((with_reducible refine tck 36 ?_);first | (refine want_st C hG (by first | decide | exact cl_ne) (by omega) (by intro e he;first | exact hE e he | exact⟨True.intro,hE e he⟩) ?_;intro hl hG;(conv=>whnf)) | (refine want_kn C (by decide) (by omega) hb ?_;intro hl;(conv=>whnf)))
  | ((with_reducible refine tck 61 ?_);first | (refine is_st C hG (by first | decide | exact cl_ne) (by omega) (fun hb hl hG=> ?_) (fun hb hG=> ?_)<;>(conv=>whnf)) | (refine is_stf C hG (by first | decide | exact cl_ne) (by omega) (fun hG=> ?_) (fun hG=> ?_)<;>(conv=>whnf)))
  | ((with_reducible refine tck 40 ?_);first | (refine wantK_st C hG (by decide) (by omega) (by intro e he;first | exact hE e he | exact⟨True.intro,hE e he⟩) ?_;intro hl hG;(conv=>whnf)))
  | ((with_reducible refine tck 66 ?_);first | (refine begins_st C hG (by omega) (fun hG=> ?_) (fun hG=> ?_)<;>(conv=>whnf)))
  | ((with_reducible refine tck 64 ?_);first | (refine kind_st C hG (by decide) (by omega) (fun hl hG=> ?_) (fun hG=> ?_)<;>(conv=>whnf)))
  | ((with_reducible refine tck 35 ?_);first | (refine rul_st ihf.expr hG (by trivial) rfl (by intro e he;first | exact hE e he | exact⟨True.intro,hE e he⟩) (by omega) ?_;intro n1 l1 x1 o1 ks1 j1 hp1 hj1 hG;simp only[NT.min] at hp1;(conv=>whnf)) | (refine tal_st ihf.expr hG (by trivial) rfl (by intro e he;first | exact hE e he | exact⟨True.intro,hE e he⟩) (by omega) ?_;intro n1 l1 x1 o1 ks1 j1 hp1 hj1 hG;simp only[NT.min] at hp1;(conv=>whnf)))
  | ((with_reducible refine tck 62 ?_);first | (refine rul_st ihf.or_ hG (by trivial) rfl (by intro e he;first | exact hE e he | exact⟨True.intro,hE e he⟩) (by omega) ?_;intro n1 l1 x1 o1 ks1 j1 hp1 hj1 hG;simp only[NT.min] at hp1;(conv=>whnf)) | (refine tal_st ihf.or_ hG (by trivial) rfl (by intro e he;first | exact hE e he | exact⟨True.intro,hE e he⟩) (by omega) ?_;intro n1 l1 x1 o1 ks1 j1 hp1 hj1 hG;simp only[NT.min] at hp1;(conv=>whnf)))
  | ((with_reducible refine tck 81 ?_);first | (refine rul_st ihf.and_ hG (by trivial) rfl (by intro e he;first | exact hE e he | exact⟨True.intro,hE e he⟩) (by omega) ?_;intro n1 l1 x1 o1 ks1 j1 hp1 hj1 hG;simp only[NT.min] at hp1;(conv=>whnf)) | (refine tal_st ihf.and_ hG (by trivial) rfl (by intro e he;first | exact hE e he | exact⟨True.intro,hE e he⟩) (by omega) ?_;intro n1 l1 x1 o1 ks1 j1 hp1 hj1 hG;simp only[NT.min] at hp1;(conv=>whnf)))
  | ((with_reducible refine tck 96 ?_);first | (refine rul_st ihf.not_ hG (by trivial) rfl (by intro e he;first | exact hE e he | exact⟨True.intro,hE e he⟩) (by omega) ?_;intro n1 l1 x1 o1 ks1 j1 hp1 hj1 hG;simp only[NT.min] at hp1;(conv=>whnf)) | (refine tal_st ihf.not_ hG (by trivial) rfl (by intro e he;first | exact hE e he | exact⟨True.intro,hE e he⟩) (by omega) ?_;intro n1 l1 x1 o1 ks1 j1 hp1 hj1 hG;simp only[NT.min] at hp1;(conv=>whnf)))
  | ((with_reducible refine tck 105 ?_);first | (refine rul_st ihf.compare hG (by trivial) rfl (by intro e he;first | exact hE e he | exact⟨True.intro,hE e he⟩) (by omega) ?_;intro n1 l1 x1 o1 ks1 j1 hp1 hj1 hG;simp only[NT.min] at hp1;(conv=>whnf)) | (refine tal_st ihf.compare hG (by trivial) rfl (by intro e he;first | exact hE e he | exact⟨True.intro,hE e he⟩) (by omega) ?_;intro n1 l1 x1 o1 ks1 j1 hp1 hj1 hG;simp only[NT.min] at hp1;(conv=>whnf)))
  | ((with_reducible refine tck 110 ?_);first | (refine rul_st ihf.arith hG (by trivial) rfl (by intro e he;first | exact hE e he | exact⟨True.intro,hE e he⟩) (by omega) ?_;intro n1 l1 x1 o1 ks1 j1 hp1 hj1 hG;simp only[NT.min] at hp1;(conv=>whnf)) | (refine tal_st ihf.arith hG (by trivial) rfl (by intro e he;first | exact hE e he | exact⟨True.intro,hE e he⟩) (by omega) ?_;intro n1 l1 x1 o1 ks1 j1 hp1 hj1 hG;simp only[NT.min] at hp1;(conv=>whnf)))
  | ((with_reducible refine tck 113 ?_);first | (refine rul_st ihf.term hG (by trivial) rfl (by intro e he;first | exact hE e he | exact⟨True.intro,hE e he⟩) (by omega) ?_;intro n1 l1 x1 o1 ks1 j1 hp1 hj1 hG;simp only[NT.min] at hp1;(conv=>whnf)) | (refine tal_st ihf.term hG (by trivial) rfl (by intro e he;first | exact hE e he | exact⟨True.intro,hE e he⟩) (by omega) ?_;intro n1 l1 x1 o1 ks1 j1 hp1 hj1 hG;simp only[NT.min] at hp1;(conv=>whnf)))
  | ((with_reducible refine tck 114 ?_);first | (refine rul_st ihf.factor hG (by trivial) rfl (by intro e he;first | exact hE e he | exact⟨True.intro,hE e he⟩) (by omega) ?_;intro n1 l1 x1 o1 ks1 j1 hp1 hj1 hG;simp only[NT.min] at hp1;(conv=>whnf)) | (refine tal_st ihf.factor hG (by trivial) rfl (by intro e he;first | exact hE e he | exact⟨True.intro,hE e he⟩) (by omega) ?_;intro n1 l1 x1 o1 ks1 j1 hp1 hj1 hG;simp only[NT.min] at hp1;(conv=>whnf)))
  | ((with_reducible refine tck 69 ?_);first | (refine rul_st ihf.primary hG (by trivial) rfl (by intro e he;first | exact hE e he | exact⟨True.intro,hE e he⟩) (by omega) ?_;intro n1 l1 x1 o1 ks1 j1 hp1 hj1 hG;simp only[NT.min] at hp1;(conv=>whnf)) | (refine tal_st ihf.primary hG (by trivial) rfl (by intro e he;first | exact hE e he | exact⟨True.intro,hE e he⟩) (by omega) ?_;intro n1 l1 x1 o1 ks1 j1 hp1 hj1 hG;simp only[NT.min] at hp1;(conv=>whnf)))
  | ((with_reducible refine tck 83 ?_);first | (refine rul_st ihf.atom hG (by trivial) rfl (by intro e he;first | exact hE e he | exact⟨True.intro,hE e he⟩) (by omega) ?_;intro n1 l1 x1 o1 ks1 j1 hp1 hj1 hG;simp only[NT.min] at hp1;(conv=>whnf)) | (refine tal_st ihf.atom hG (by trivial) rfl (by intro e he;first | exact hE e he | exact⟨True.intro,hE e he⟩) (by omega) ?_;intro n1 l1 x1 o1 ks1 j1 hp1 hj1 hG;simp only[NT.min] at hp1;(conv=>whnf)))
  | ((with_reducible refine tck 39 ?_);first | (refine rul_st ihf.exprs hG (by trivial) rfl (by intro e he;first | exact hE e he | exact⟨True.intro,hE e he⟩) (by omega) ?_;intro n1 l1 x1 o1 ks1 j1 hp1 hj1 hG;simp only[NT.min] at hp1;(conv=>whnf)) | (refine tal_st ihf.exprs hG (by trivial) rfl (by intro e he;first | exact hE e he | exact⟨True.intro,hE e he⟩) (by omega) ?_;intro n1 l1 x1 o1 ks1 j1 hp1 hj1 hG;simp only[NT.min] at hp1;(conv=>whnf)))
  | ((with_reducible refine tck 65 ?_);first | (refine rul_st ihf.one hG (by trivial) rfl (by intro e he;first | exact hE e he | exact⟨True.intro,hE e he⟩) (by omega) ?_;intro n1 l1 x1 o1 ks1 j1 hp1 hj1 hG;simp only[NT.min] at hp1;(conv=>whnf)) | (refine tal_st ihf.one hG (by trivial) rfl (by intro e he;first | exact hE e he | exact⟨True.intro,hE e he⟩) (by omega) ?_;intro n1 l1 x1 o1 ks1 j1 hp1 hj1 hG;simp only[NT.min] at hp1;(conv=>whnf)))
  | ((with_reducible refine tck 38 ?_);first | (refine rul_st ihf.places hG (by trivial) rfl (by intro e he;first | exact hE e he | exact⟨True.intro,hE e he⟩) (by omega) ?_;intro n1 l1 x1 o1 ks1 j1 hp1 hj1 hG;simp only[NT.min] at hp1;(conv=>whnf)) | (refine tal_st ihf.places hG (by trivial) rfl (by intro e he;first | exact hE e he | exact⟨True.intro,hE e he⟩) (by omega) ?_;intro n1 l1 x1 o1 ks1 j1 hp1 hj1 hG;simp only[NT.min] at hp1;(conv=>whnf)))
  | ((with_reducible refine tck 44 ?_);first | (refine rul_st ihf.simple hG (by trivial) rfl (by intro e he;first | exact hE e he | exact⟨True.intro,hE e he⟩) (by omega) ?_;intro n1 l1 x1 o1 ks1 j1 hp1 hj1 hG;simp only[NT.min] at hp1;(conv=>whnf)) | (refine tal_st ihf.simple hG (by trivial) rfl (by intro e he;first | exact hE e he | exact⟨True.intro,hE e he⟩) (by omega) ?_;intro n1 l1 x1 o1 ks1 j1 hp1 hj1 hG;simp only[NT.min] at hp1;(conv=>whnf)))
  | ((with_reducible refine tck 71 ?_);first | (refine rul_st ihf.plain hG (by trivial) rfl (by intro e he;first | exact hE e he | exact⟨True.intro,hE e he⟩) (by omega) ?_;intro n1 l1 x1 o1 ks1 j1 hp1 hj1 hG;simp only[NT.min] at hp1;(conv=>whnf)) | (refine tal_st ihf.plain hG (by trivial) rfl (by intro e he;first | exact hE e he | exact⟨True.intro,hE e he⟩) (by omega) ?_;intro n1 l1 x1 o1 ks1 j1 hp1 hj1 hG;simp only[NT.min] at hp1;(conv=>whnf)))
  | ((with_reducible refine tck 85 ?_);first | (refine rul_st ihf.value hG (by trivial) rfl (by intro e he;first | exact hE e he | exact⟨True.intro,hE e he⟩) (by omega) ?_;intro n1 l1 x1 o1 ks1 j1 hp1 hj1 hG;simp only[NT.min] at hp1;(conv=>whnf)) | (refine tal_st ihf.value hG (by trivial) rfl (by intro e he;first | exact hE e he | exact⟨True.intro,hE e he⟩) (by omega) ?_;intro n1 l1 x1 o1 ks1 j1 hp1 hj1 hG;simp only[NT.min] at hp1;(conv=>whnf)))
  | ((with_reducible refine tck 37 ?_);first | (refine rul_st ihf.block hG (by trivial) rfl (by intro e he;first | exact hE e he | exact⟨True.intro,hE e he⟩) (by omega) ?_;intro n1 l1 x1 o1 ks1 j1 hp1 hj1 hG;simp only[NT.min] at hp1;(conv=>whnf)) | (refine tal_st ihf.block hG (by trivial) rfl (by intro e he;first | exact hE e he | exact⟨True.intro,hE e he⟩) (by omega) ?_;intro n1 l1 x1 o1 ks1 j1 hp1 hj1 hG;simp only[NT.min] at hp1;(conv=>whnf)) | (refine rul_st ihf2.block hG (by trivial) rfl (by intro e he;first | exact hE e he | exact⟨True.intro,hE e he⟩) (by omega) ?_;intro n1 l1 x1 o1 ks1 j1 hp1 hj1 hG;simp only[NT.min] at hp1;(conv=>whnf)))
  | ((with_reducible refine tck 23 ?_);first | (refine rul_st ihf.stmt hG (by trivial) rfl (by intro e he;first | exact hE e he | exact⟨True.intro,hE e he⟩) (by omega) ?_;intro n1 l1 x1 o1 ks1 j1 hp1 hj1 hG;simp only[NT.min] at hp1;(conv=>whnf)) | (refine tal_st ihf.stmt hG (by trivial) rfl (by intro e he;first | exact hE e he | exact⟨True.intro,hE e he⟩) (by omega) ?_;intro n1 l1 x1 o1 ks1 j1 hp1 hj1 hG;simp only[NT.min] at hp1;(conv=>whnf)))
  | ((with_reducible refine tck 41 ?_);first | (refine rul_st (ihf.params _ _ (by decide)) hG (by trivial) rfl (by intro e he;first | exact hE e he | exact⟨True.intro,hE e he⟩) (by omega) ?_;intro n1 l1 x1 o1 ks1 j1 hp1 hj1 hG;simp only[NT.min] at hp1;(conv=>whnf)) | (refine tal_st (ihf.params _ _ (by decide)) hG (by trivial) rfl (by intro e he;first | exact hE e he | exact⟨True.intro,hE e he⟩) (by omega) ?_;intro n1 l1 x1 o1 ks1 j1 hp1 hj1 hG;simp only[NT.min] at hp1;(conv=>whnf)))
  | ((with_reducible refine tck 42 ?_);first | (refine lst_st (ihf.row _ (by decide)) hG (by trivial) rfl (by intro e he;first | exact hE e he | exact⟨True.intro,hE e he⟩) (by omega) ?_;intro l1 j1 hp1 hj1 hb1 hG;simp only[NT.acc,Option.getD_some,List.length_nil] at hb1;(conv=>whnf)))
  | ((with_reducible refine tck 84 ?_);first | (refine rul_st (ihf.index _ _ _ _ _) hG (by trivial) rfl (by intro e he;first | exact hE e he | exact⟨True.intro,hE e he⟩) (by omega) ?_;intro n1 l1 x1 o1 ks1 j1 hp1 hj1 hG;simp only[NT.min] at hp1;(conv=>whnf)) | (refine tal_st (ihf.index _ _ _ _ _) hG (by trivial) rfl (by intro e he;first | exact hE e he | exact⟨True.intro,hE e he⟩) (by omega) ?_;intro n1 l1 x1 o1 ks1 j1 hp1 hj1 hG;simp only[NT.min] at hp1;(conv=>whnf)))
  | ((with_reducible refine tck 106 ?_);first | (refine lst_st ihf.clauses hG (by trivial) rfl (by intro e he;first | exact hE e he | exact⟨True.intro,hE e he⟩) (by omega) ?_;intro l1 j1 hp1 hj1 hb1 hG;simp only[NT.acc,Option.getD_some,List.length_nil] at hb1;(conv=>whnf)))
  | ((with_reducible refine tck 98 ?_);first | (refine rul_st (ihf.list _) hG (by trivial) rfl (by intro e he;first | exact hE e he | exact⟨True.intro,hE e he⟩) (by omega) ?_;intro n1 l1 x1 o1 ks1 j1 hp1 hj1 hG;simp only[NT.min] at hp1;(conv=>whnf)) | (refine tal_st (ihf.list _) hG (by trivial) rfl (by intro e he;first | exact hE e he | exact⟨True.intro,hE e he⟩) (by omega) ?_;intro n1 l1 x1 o1 ks1 j1 hp1 hj1 hG;simp only[NT.min] at hp1;(conv=>whnf)))
  | ((with_reducible refine tck 99 ?_);first | (refine rul_st (ihf.braces _) hG (by trivial) rfl (by intro e he;first | exact hE e he | exact⟨True.intro,hE e he⟩) (by omega) ?_;intro n1 l1 x1 o1 ks1 j1 hp1 hj1 hG;simp only[NT.min] at hp1;(conv=>whnf)) | (refine tal_st (ihf.braces _) hG (by trivial) rfl (by intro e he;first | exact hE e he | exact⟨True.intro,hE e he⟩) (by omega) ?_;intro n1 l1 x1 o1 ks1 j1 hp1 hj1 hG;simp only[NT.min] at hp1;(conv=>whnf)))
  | ((with_reducible refine tck 68 ?_);first | (refine rul_st (ihf.names _ _) hG (by trivial) rfl (by intro e he;first | exact hE e he | exact⟨True.intro,hE e he⟩) (by omega) ?_;intro n1 l1 x1 o1 ks1 j1 hp1 hj1 hG;simp only[NT.min] at hp1;(conv=>whnf)) | (refine tal_st (ihf.names _ _) hG (by trivial) rfl (by intro e he;first | exact hE e he | exact⟨True.intro,hE e he⟩) (by omega) ?_;intro n1 l1 x1 o1 ks1 j1 hp1 hj1 hG;simp only[NT.min] at hp1;(conv=>whnf)))
  | ((with_reducible refine tck 67 ?_);first | (refine rul_st (ihf.maybe _ _ _) hG (by trivial) rfl (by intro e he;first | exact hE e he | exact⟨True.intro,hE e he⟩) (by omega) ?_;intro n1 l1 x1 o1 ks1 j1 hp1 hj1 hG;simp only[NT.min] at hp1;(conv=>whnf)) | (refine tal_st (ihf.maybe _ _ _) hG (by trivial) rfl (by intro e he;first | exact hE e he | exact⟨True.intro,hE e he⟩) (by omega) ?_;intro n1 l1 x1 o1 ks1 j1 hp1 hj1 hG;simp only[NT.min] at hp1;(conv=>whnf)))
  | ((with_reducible refine tck 34 ?_);first | (refine rul_st (ihf.ifs _) hG (by trivial) rfl (by intro e he;first | exact hE e he | exact⟨True.intro,hE e he⟩) (by omega) ?_;intro n1 l1 x1 o1 ks1 j1 hp1 hj1 hG;simp only[NT.min] at hp1;(conv=>whnf)) | (refine tal_st (ihf.ifs _) hG (by trivial) rfl (by intro e he;first | exact hE e he | exact⟨True.intro,hE e he⟩) (by omega) ?_;intro n1 l1 x1 o1 ks1 j1 hp1 hj1 hG;simp only[NT.min] at hp1;(conv=>whnf)))
  | ((with_reducible refine tck 43 ?_);first | (refine rul_st (ihf.tries _) hG (by trivial) rfl (by intro e he;first | exact hE e he | exact⟨True.intro,hE e he⟩) (by omega) ?_;intro n1 l1 x1 o1 ks1 j1 hp1 hj1 hG;simp only[NT.min] at hp1;(conv=>whnf)) | (refine tal_st (ihf.tries _) hG (by trivial) rfl (by intro e he;first | exact hE e he | exact⟨True.intro,hE e he⟩) (by omega) ?_;intro n1 l1 x1 o1 ks1 j1 hp1 hj1 hG;simp only[NT.min] at hp1;(conv=>whnf)))
  | ((with_reducible refine tck 70 ?_);first | (refine single_st hG (fun hG=> ?_) (fun hG=> ?_)<;>(conv=>whnf)))
  | ((with_reducible refine tck 82 ?_);first | (refine place_st hG (fun hG=> ?_) (fun hG=> ?_)<;>(conv=>whnf)))
  | ((with_reducible refine tck 111 ?_);first | (refine operator_st C hG (by omega) (by intro e he;first | exact hE e he | exact⟨True.intro,hE e he⟩) (fun hG=> ?_) (fun op1 j1 hj0 hj1 hG=> ?_)<;>(conv=>whnf)))
  | ((with_reducible refine tck 86 ?_);first | (refine augment_st C hG (by omega) (fun ha hl hG=> ?_) (fun hG=> ?_)<;>(conv=>whnf)))
  | ((with_reducible refine tck 63 ?_);first | (refine fail_st C (by omega) hG (by intro e he;first | exact hE e he | exact⟨True.intro,hE e he⟩)))
  | (intro (hmx:_≤maxLen);(conv=>whnf))
  | exact⟨m,[],by omega,rfl,_,_,_,_,_,_,rfl,by omega,by omega,hG⟩
  | exact⟨m,[2],by omega,rfl,_,_,_,_,_,acc++ [.mk n1 l1 x1 o1 ks1],_,_,(by rw[ndsS_snoc];rfl),by omega,by omega,(by simp only[List.length_append,List.length_cons,List.length_nil];omega),hG⟩
  | exact⟨m,[2],by omega,rfl,_,_,_,accV_app rfl,rfl,by omega,by omega,(by simp only[List.length_append,List.length_cons,List.length_nil];omega),hG⟩
  | exact⟨m,[2],by omega,rfl,_,_,_,rfl,accV_app rfl,rfl,by omega,by omega,(by simp only[List.length_append,List.length_cons,List.length_nil];omega),hG⟩
  | exact⟨m,[3],by omega,rfl,_,_,_,rfl,accV_app rfl,rfl,by omega,by omega,(by simp only[List.length_append,List.length_cons,List.length_nil];omega),hG⟩
  | exact⟨m,[3],by omega,rfl,acc++ [.mk 43 (nowT ts j).line [] (op1+1) [.mk n1 l1 x1 o1 ks1]],_,(by rw[ndsS_snoc];rfl),by omega,by omega,(by simp only[List.length_append,List.length_cons,List.length_nil];omega),hG⟩
  | (refine ifT_c (fun h=> ?_) (fun h=> ?_);(have:acc= []:=by cases acc;rfl;(simp[ndsS] at h<;>omega));subst this;(conv=>whnf);exact hQ _ _ hG (by omega);(have:acc.isEmpty=false:=by cases acc;(simp[ndsS] at h<;>omega);rfl);rw[this] at hG;(conv=>whnf);exact hQ _ _ hG (by omega))
  | exact⟨m,[2],by omega,rfl,_,_,_,_,_,_,_,_,_,_,acc++ [_,_],_,(by rw[ndsS_app];rfl),by omega,by omega,(by simp only[List.length_append,List.length_cons,List.length_nil];omega),hG⟩
  | exact⟨m,[2],by omega,rfl,_,_,_,_,_,acc++ [.mk n1 l1 x1 o1 ks1],_,_,(by rw[ndsS_snoc];rfl),by omega,by omega,by simp,(by simp only[List.length_append,List.length_cons,List.length_nil];omega),hG⟩
  | (refine⟨rfl,acc.length-1,_,wr_dec hne hmx,ndsS_get (last_get htl),?_⟩;(conv=>whnf))
  | exact⟨m,[2],by omega,rfl,_,_,_,_,accV_app rfl,rfl,by omega,by omega,(by simp only[List.length_append,List.length_cons,List.length_nil] at *;omega),hG⟩
  | (refine⟨rfl,0,_,rfl,rfl,?_⟩;(conv=>whnf))
  | exact⟨m,[4],by omega,rfl,acc++ [Nd.mk 21 (nowT ts j).line [] 0 [Nd.mk n1 l1 x1 o1 ks1]],_,true,rfl,(by rw[ndsS_snoc];rfl),by omega,by omega,(by simp only[List.length_append,List.length_cons,List.length_nil];omega),(by simp only[List.length_append,List.length_cons,List.length_nil];omega), .inr ⟨rfl,hG⟩⟩
  | exact⟨m,[6],by omega,rfl,acc++ [_],_,false,rfl,(by rw[ndsS_snoc];rfl),by omega,by omega,(by simp only[List.length_append,List.length_cons,List.length_nil];omega),(by simp only[List.length_append,List.length_cons,List.length_nil];omega), .inl ⟨rfl,hG⟩⟩
  | (refine len1_c hG (by simp[ndsS_len];try omega) (fun hG=> ?_) (fun hG=> ?_)<;>(conv=>whnf))
  | (refine ifT_c (fun h=>by exfalso;simp[ndsS_len] at h;first | omega | (subst h;simp at hb1)) (fun h=> ?_);(conv=>whnf))
  | exact⟨m,[2],by omega,rfl,_,_,_,_,_,_,_,_,_,_,acc++ [.mk n1 l1 x1 o1 ks1],_,_,(by rw[ndsS_snoc];rfl),by omega,by omega,(by simp only[List.length_append,List.length_cons,List.length_nil];omega),gd_pb1.2 hG⟩
  | exact hQ _ _ (gd_pk1 hG) (by omega)
  | (refine⟨rfl,?_⟩;(conv=>whnf))
  | (refine⟨bdA (by simp only[List.length_append,List.length_cons,List.length_nil,ndsS_len];omega),?_⟩;(conv=>whnf))
  | exact hQ _ _ hG (by omega)
  | (refine tc_self (rd_wr C hl) ?_)
  | (refine ifT_c (fun h=>by exfalso;simp at h;omega) (fun h=> ?_);(conv=>whnf))
  | (refine ifT_c (fun h=> ?_) (fun h=>by exfalso;simp at h;omega);(conv=>whnf))
  | (refine q_eq ?_ ?_ (hQ _ _ hG (by omega))<;>first | rfl | exact sn_agg rfl | exact sn_row rfl | exact rd_wr C hl)
  | (have hG:=(hP2 _ _).1 hG;rcases f with _ | f;exact hG.elim;have ihf2:=ih f (by omega);simp only[gr] at hG)
  | (refine loop_0 (fun m s=>∃k l x o ks j,s=⟨0,[oR sl j,oN nzC,oN (nA k l x o ks)]⟩∧j≤ts.length∧m≤f∧Gd E P (gr ts m (.orL (.mk k l x o ks)) j)) f [] rfl ⟨_,_,_,_,_,_,rfl,by omega,Nat.le_refl _,hG⟩ ?_;rintro m f1 s ⟨k,l,x,o,ks,j,rfl,hj,hmf,hG⟩;rcases m with _ | m;exact hG.elim;have ihf:=ih m (by omega);simp only[gr] at hG;(conv=>whnf))
  | (refine loop_0 (fun m s=>∃k l x o ks j,s=⟨0,[oR sl j,oN nzC,oN (nA k l x o ks)]⟩∧j≤ts.length∧m≤f∧Gd E P (gr ts m (.andL (.mk k l x o ks)) j)) f [] rfl ⟨_,_,_,_,_,_,rfl,by omega,Nat.le_refl _,hG⟩ ?_;rintro m f1 s ⟨k,l,x,o,ks,j,rfl,hj,hmf,hG⟩;rcases m with _ | m;exact hG.elim;have ihf:=ih m (by omega);simp only[gr] at hG;(conv=>whnf))
  | (refine loop_0 (fun m s=>∃k l x o ks j,s=⟨0,[oR sl j,oN nzC,oN (nA k l x o ks)]⟩∧j≤ts.length∧m≤f∧Gd E P (gr ts m (.arithL (.mk k l x o ks)) j)) f [] rfl ⟨_,_,_,_,_,_,rfl,by omega,Nat.le_refl _,hG⟩ ?_;rintro m f1 s ⟨k,l,x,o,ks,j,rfl,hj,hmf,hG⟩;rcases m with _ | m;exact hG.elim;have ihf:=ih m (by omega);simp only[gr] at hG;(conv=>whnf))
  | (refine loop_0 (fun m s=>∃k l x o ks j,s=⟨0,[oR sl j,oN nzC,oN (nA k l x o ks)]⟩∧j≤ts.length∧m≤f∧Gd E P (gr ts m (.termL (.mk k l x o ks)) j)) f [] rfl ⟨_,_,_,_,_,_,rfl,by omega,Nat.le_refl _,hG⟩ ?_;rintro m f1 s ⟨k,l,x,o,ks,j,rfl,hj,hmf,hG⟩;rcases m with _ | m;exact hG.elim;have ihf:=ih m (by omega);simp only[gr] at hG;(conv=>whnf))
  | (refine loop_0 (fun m s=>∃k l x o ks j,s=⟨0,[oR sl j,oN nzC,oN (nA k l x o ks)]⟩∧j≤ts.length∧m≤f∧Gd E P (gr ts m (.primL (.mk k l x o ks)) j)) f [] rfl ⟨_,_,_,_,_,_,rfl,by omega,Nat.le_refl _,hG⟩ ?_;rintro m f1 s ⟨k,l,x,o,ks,j,rfl,hj,hmf,hG⟩;rcases m with _ | m;exact hG.elim;have ihf:=ih m (by omega);simp only[gr] at hG;(conv=>whnf))
  | (refine loop_0 (fun m s=>∃k l x o ks acc j ln,s=⟨1,[oR sl j,oN nzC,oN (nA k l x o ks),oN (nC 52 ln [] 0 (.own 0 26 5 (ndsS acc)))]⟩∧j≤ts.length∧m≤f∧2*acc.length≤j+1∧Gd E P (gr ts m (.exprsL ln acc) j)) f [0] rfl ⟨_,_,_,_,_,[.mk n1 l1 x1 o1 ks1],_,_,rfl,by omega,Nat.le_refl _,by simp only[List.length_cons,List.length_nil];omega,hG⟩ ?_;rintro m f1 s ⟨k,l,x,o,ks,acc,j,ln,rfl,hj,hmf,hb2,hG⟩;rcases m with _ | m;exact hG.elim;have ihf:=ih m (by omega);simp only[gr] at hG;(conv=>whnf))
  | (refine loop_0 (fun m s=>∃k l x o ks acc j ln,s=⟨1,[oR sl j,oN nzC,oN (nA k l x o ks),oN (nC 52 ln [] 0 (.own 0 26 5 (ndsS acc)))]⟩∧j≤ts.length∧m≤f∧2*acc.length≤j+1∧Gd E P (gr ts m (.placesL ln acc) j)) f [0] rfl ⟨_,_,_,_,_,[.mk n1 l1 x1 o1 ks1],_,_,rfl,by omega,Nat.le_refl _,by simp only[List.length_cons,List.length_nil];omega,hG⟩ ?_;rintro m f1 s ⟨k,l,x,o,ks,acc,j,ln,rfl,hj,hmf,hb2,hG⟩;rcases m with _ | m;exact hG.elim;have ihf:=ih m (by omega);simp only[gr] at hG;simp only[ite_andP] at hG;(conv=>whnf))
  | (refine loop_0 (fun m s=>∃acc j c,AccV acc c∧s=⟨1,[oR sl j,oN nzC,oN (nC k ln [] 0 c)]⟩∧j≤ts.length∧m≤f+1∧2*acc.length≤j∧Gd E P (gr ts m (.names k ln acc) j)) (f+1) [99] rfl ⟨[],_,_, .inl ⟨rfl,rfl⟩,rfl,by omega,Nat.le_refl _,by simp only[List.length_nil];omega,hG0⟩ ?_;rintro m f1 s ⟨acc,j,c,hA,rfl,hj,hmf,hb2,hG⟩;rcases m with _ | m;exact hG.elim;have ihf:=ih m (by omega);simp only[gr] at hG;rcases hA with ⟨rfl,rfl⟩ | ⟨hne,rfl⟩;all_goals (conv=>whnf))
  | (refine loop_0 (fun m s=>∃acc j c,AccV acc c∧s=⟨1,[oR sl j,oN nzC,oN (nC 23 ln [] 0 c)]⟩∧j≤ts.length∧m≤f+1∧2*acc.length≤j∧Gd E P (gr ts m (.params cl ln acc) j)) (f+1) [99] rfl ⟨[],_,_, .inl ⟨rfl,rfl⟩,rfl,by omega,Nat.le_refl _,by simp only[List.length_nil];omega,hG0⟩ ?_;rintro m f1 s ⟨acc,j,c,hA,rfl,hj,hmf,hb2,hG⟩;rcases m with _ | m;exact hG.elim;have ihf:=ih m (by omega);simp only[gr] at hG;rcases hA with ⟨rfl,rfl⟩ | ⟨hne,rfl⟩;all_goals (conv=>whnf))
  | (refine loop_1 5 (fun m a s=>∃acc j c,a= .r (.c c)∧AccV acc c∧s=⟨1,[oR sl j]⟩∧j≤ts.length∧m≤f+1∧2*acc.length≤j∧Gd E P (gr ts m (.row cl acc) j)) (f+1) [99] rfl ⟨[],_,_,rfl, .inl ⟨rfl,rfl⟩,rfl,by omega,Nat.le_refl _,by simp only[List.length_nil];omega,hG0⟩ ?_;rintro m a f1 s ⟨acc,j,c,rfl,hA,rfl,hj,hmf,hb2,hG⟩;rcases m with _ | m;exact hG.elim;have ihf:=ih m (by omega);simp only[gr] at hG;rcases hA with ⟨rfl,rfl⟩ | ⟨hne,rfl⟩;all_goals (conv=>whnf))
  | (refine loop_1 3 (fun m a s=>∃acc j c,a= .r (.c c)∧AccV acc c∧s=⟨1,[oR sl j]⟩∧j≤ts.length∧m≤f+1∧2*acc.length≤j∧Gd E P (gr ts m (.clauses acc) j)) (f+1) [99] rfl ⟨[],_,_,rfl, .inl ⟨rfl,rfl⟩,rfl,by omega,Nat.le_refl _,by simp only[List.length_nil];omega,hG0⟩ ?_;rintro m a f1 s ⟨acc,j,c,rfl,hA,rfl,hj,hmf,hb2,hG⟩;rcases m with _ | m;exact hG.elim;have ihf:=ih m (by omega);simp only[gr] at hG;rcases hA with ⟨rfl,rfl⟩ | ⟨hne,rfl⟩;all_goals (conv=>whnf))
  | (refine loop_0 (fun m s=>∃acc j,s=⟨1,[oR sl j,oN nzC,oN (nA n1 l1 x1 o1 ks1),oN (nC 42 l1 [] 0 (.own 0 26 5 (ndS (.mk n1 l1 x1 o1 ks1)::ndsS acc)))]⟩∧j≤ts.length∧m≤f∧2*acc.length+1≤j∧Gd E P (gr ts m (.cmpL (.mk n1 l1 x1 o1 ks1) acc) j)) f [0] rfl ⟨[],_,rfl,by omega,Nat.le_refl _,by simp only[List.length_nil];omega,hG⟩ ?_;rintro m f1 s ⟨acc,j,rfl,hj,hmf,hb2,hG⟩;rcases m with _ | m;exact hG.elim;have ihf:=ih m (by omega);simp only[gr] at hG;(conv=>whnf))
  | (refine loop_0 (fun m s=>∃ke le xe oe kse kv lv xv ov ksv acc j,s=⟨1,[oR sl j,oN nzC,oN (nA ke le xe oe kse),oN (nA kv lv xv ov ksv),oN (nC 54 ln [] 0 (.own 0 26 5 (ndsS acc)))]⟩∧j≤ts.length∧m≤f∧2*acc.length≤j+1∧Gd E P (gr ts m (.dictL ln acc) j)) f [0] rfl ⟨_,_,_,_,_,_,_,_,_,_,[_,_],_,rfl,by omega,Nat.le_refl _,by simp only[List.length_cons,List.length_nil];omega,hG⟩ ?_;rintro m f1 s ⟨ke,le,xe,oe,kse,kv,lv,xv,ov,ksv,acc,j,rfl,hj,hmf,hb2,hG⟩;rcases m with _ | m;exact hG.elim;have ihf:=ih m (by omega);simp only[gr] at hG;(conv=>whnf))
  | (refine loop_0 (fun m s=>∃k l x o ks acc j ln,s=⟨1,[oR sl j,oN nzC,oN (nA k l x o ks),oN (nC 3 ln [] 0 (.own 0 26 5 (ndsS acc)))]⟩∧j≤ts.length∧m≤f∧acc≠ []∧2*acc.length≤j+1∧Gd E P (gr ts m (.asgL ln acc) j)) f [0] rfl ⟨_,_,_,_,_,[.mk n1 l1 x1 o1 ks1],_,_,rfl,by omega,Nat.le_refl _,by simp,by simp only[List.length_cons,List.length_nil];omega,hG⟩ ?_;rintro m f1 s ⟨k,l,x,o,ks,acc,j,ln,rfl,hj,hmf,hne,hb2,hG⟩;rcases m with _ | m;exact hG.elim;have ihf:=ih m (by omega);obtain⟨⟨k2,l2,x2,o2,ks2⟩,htl⟩:=last_ne hne;simp only[gr,htl] at hG;(conv=>whnf))
  | (refine loop_0 (fun m s=>∃acc j c ln,AccV acc c∧s=⟨1,[oR sl j,oN nzC,oN (nC 1 ln [] 0 c)]⟩∧j≤ts.length∧m≤f∧2*acc.length≤j∧Gd E P (gr ts m (.blockL acc) j)) f [99] rfl ⟨[],_,_,_, .inl ⟨rfl,rfl⟩,rfl,by omega,Nat.le_refl _,by simp only[List.length_nil];omega,hG⟩ ?_;rintro m f1 s ⟨acc,j,c,ln,hA,rfl,hj,hmf,hb2,hG⟩;rcases m with _ | m;exact hG.elim;have ihf:=ih m (by omega);simp only[gr] at hG;rcases hA with ⟨rfl,rfl⟩ | ⟨hne,rfl⟩;rotate_left;rcases acc with _ | ⟨⟨k2,l2,x2,o2,ks2⟩,acc⟩;exact absurd rfl hne;all_goals (try simp only[List.length_cons,List.length_nil] at hb2);all_goals (conv=>whnf))
  | (obtain⟨P2,hP2⟩ : ∃P2:List Nd→Nat→Prop,∀acc j,P2 acc j↔Gd E P (gr ts f (.triesF ln acc) j):=⟨_,fun _ _=>Iff.rfl⟩;have hG:Gd E P2 (gr ts f (.triesL [.mk n1 l1 x1 o1 ks1]) j1):=(gd_pb.1 hG).mono (fun _ h=>h) fun l j h=>(hP2 l j).2 h;refine loop_1 6 (fun m a s=>∃acc j b,a=rS (.bool b)∧s=⟨1,[oR sl j,oN nzC,oN (nC 15 ln [] 0 (.own 0 26 5 (ndsS acc)))]⟩∧j≤ts.length∧m≤f∧1≤acc.length∧2*acc.length≤j+1∧((b=false∧Gd E P2 (gr ts m (.triesL acc) j))∨(b=true∧P2 acc j))) f [0] rfl ⟨[.mk n1 l1 x1 o1 ks1],_,false,rfl,rfl,by omega,Nat.le_refl _,Nat.le_refl _,by simp only[List.length_cons,List.length_nil];omega, .inl ⟨rfl,hG⟩⟩ ?_;rintro m a f1 s ⟨acc,j,b,rfl,rfl,hj,hmf,hb1,hb2,⟨rfl,hG⟩ | ⟨rfl,hG⟩⟩;rcases m with _ | m;exact hG.elim;have ihf:=ih m (by omega);simp only[gr] at hG;(conv=>whnf);rotate_left;have hG:=(hP2 _ _).1 hG;rcases f with _ | f;exact hG.elim;simp only[gr] at hG;have ihf:=ih f (by omega);(conv=>whnf))
  | (refine loop_0 (fun m s=>∃km lm xm om ksm kl ll xl ol ksl acc j ln,s=⟨1,[oR sl j,oN (nA k l x o ks),oN nzC,oN (nA km lm xm om ksm),oN (nA kl ll xl ol ksl),oN (nC 52 ln [] 0 (.own 0 26 5 (ndsS acc)))]⟩∧j≤ts.length∧m≤f∧2*acc.length≤j+1∧Gd E P (pb1 (gr ts m (.exprsL ln acc) j) fun t j2=>pk1 (nd 46 l [.mk k l x o ks,t]) j2)) f [0] rfl ⟨_,_,_,_,[],_,_,_,_,_,[.mk n1 l1 x1 o1 ks1],_,_,rfl,by omega,Nat.le_refl _,by simp only[List.length_cons,List.length_nil];omega,hG⟩ ?_;rintro m f1 s ⟨km,lm,xm,om,ksm,kl,ll,xl,ol,ksl,acc,j,ln,rfl,hj,hmf,hb2,hG⟩;have hG:=gd_pb1.1 hG;rcases m with _ | m;exact hG.elim;have ihf:=ih m (by omega);simp only[gr] at hG;(conv=>whnf))):Pz:=hz
section
variable {Z:TP} {X:Pan} {W:Int→Value} {ts:List PT} {sl:Sl} {f:Nat}
set_option maxHeartbeats 8000000 in
theorem pw_expr(C:PCtx Z X W ts sl)(ih : ∀g,g≤f→PAll Z X W ts sl g):PC Z X W ts sl (f+1) .expr 35 [.ptr 0 0] ans1:=by
 intro i Q R E P hi hG hE hQ
 have ihf:=ih f (Nat.le_refl f)
 have hln:=C.len
 have hG0:=hG
 simp only[gr] at hG
 refine tc_rG dt_ok (by rfl) (by kernel_rfl) ?_
 conv in (rF _ _).body=>reduce
 conv in (rF _ _).res=>reduce
 conv=>whnf
 exact pw_go
set_option maxHeartbeats 8000000 in
theorem pw_or(C:PCtx Z X W ts sl)(ih : ∀g,g≤f→PAll Z X W ts sl g):PC Z X W ts sl (f+1) .or 62 [.ptr 0 0] ans1:=by
 intro i Q R E P hi hG hE hQ
 have ihf:=ih f (Nat.le_refl f)
 have hln:=C.len
 have hG0:=hG
 simp only[gr] at hG
 refine tc_rG dt_ok (by rfl) (by kernel_rfl) ?_
 conv in (rF _ _).body=>reduce
 conv in (rF _ _).res=>reduce
 conv=>whnf
 exact pw_go
set_option maxHeartbeats 8000000 in
theorem pw_and(C:PCtx Z X W ts sl)(ih : ∀g,g≤f→PAll Z X W ts sl g):PC Z X W ts sl (f+1) .and 81 [.ptr 0 0] ans1:=by
 intro i Q R E P hi hG hE hQ
 have ihf:=ih f (Nat.le_refl f)
 have hln:=C.len
 have hG0:=hG
 simp only[gr] at hG
 refine tc_rG dt_ok (by rfl) (by kernel_rfl) ?_
 conv in (rF _ _).body=>reduce
 conv in (rF _ _).res=>reduce
 conv=>whnf
 exact pw_go
set_option maxHeartbeats 8000000 in
theorem pw_not(C:PCtx Z X W ts sl)(ih : ∀g,g≤f→PAll Z X W ts sl g):PC Z X W ts sl (f+1) .not 96 [.ptr 0 0] ans1:=by
 intro i Q R E P hi hG hE hQ
 have ihf:=ih f (Nat.le_refl f)
 have hln:=C.len
 have hG0:=hG
 simp only[gr] at hG
 refine tc_rG dt_ok (by rfl) (by kernel_rfl) ?_
 conv in (rF _ _).body=>reduce
 conv in (rF _ _).res=>reduce
 conv=>whnf
 exact pw_go
set_option maxHeartbeats 8000000 in
theorem pw_compare(C:PCtx Z X W ts sl)(ih : ∀g,g≤f→PAll Z X W ts sl g):PC Z X W ts sl (f+1) .compare 105 [.ptr 0 0] ans1:=by
 intro i Q R E P hi hG hE hQ
 have ihf:=ih f (Nat.le_refl f)
 have hln:=C.len
 have hG0:=hG
 simp only[gr] at hG
 refine tc_rG dt_ok (by rfl) (by kernel_rfl) ?_
 conv in (rF _ _).body=>reduce
 conv in (rF _ _).res=>reduce
 conv=>whnf
 exact pw_go
set_option maxHeartbeats 8000000 in
theorem pw_arith(C:PCtx Z X W ts sl)(ih : ∀g,g≤f→PAll Z X W ts sl g):PC Z X W ts sl (f+1) .arith 110 [.ptr 0 0] ans1:=by
 intro i Q R E P hi hG hE hQ
 have ihf:=ih f (Nat.le_refl f)
 have hln:=C.len
 have hG0:=hG
 simp only[gr] at hG
 refine tc_rG dt_ok (by rfl) (by kernel_rfl) ?_
 conv in (rF _ _).body=>reduce
 conv in (rF _ _).res=>reduce
 conv=>whnf
 exact pw_go
set_option maxHeartbeats 8000000 in
theorem pw_term(C:PCtx Z X W ts sl)(ih : ∀g,g≤f→PAll Z X W ts sl g):PC Z X W ts sl (f+1) .term 113 [.ptr 0 0] ans1:=by
 intro i Q R E P hi hG hE hQ
 have ihf:=ih f (Nat.le_refl f)
 have hln:=C.len
 have hG0:=hG
 simp only[gr] at hG
 refine tc_rG dt_ok (by rfl) (by kernel_rfl) ?_
 conv in (rF _ _).body=>reduce
 conv in (rF _ _).res=>reduce
 conv=>whnf
 exact pw_go
set_option maxHeartbeats 8000000 in
theorem pw_factor(C:PCtx Z X W ts sl)(ih : ∀g,g≤f→PAll Z X W ts sl g):PC Z X W ts sl (f+1) .factor 114 [.ptr 0 0] ans1:=by
 intro i Q R E P hi hG hE hQ
 have ihf:=ih f (Nat.le_refl f)
 have hln:=C.len
 have hG0:=hG
 simp only[gr] at hG
 refine tc_rG dt_ok (by rfl) (by kernel_rfl) ?_
 conv in (rF _ _).body=>reduce
 conv in (rF _ _).res=>reduce
 conv=>whnf
 exact pw_go
set_option maxHeartbeats 8000000 in
theorem pw_primary(C:PCtx Z X W ts sl)(ih : ∀g,g≤f→PAll Z X W ts sl g):PC Z X W ts sl (f+1) .primary 69 [.ptr 0 0] ans1:=by
 intro i Q R E P hi hG hE hQ
 have ihf:=ih f (Nat.le_refl f)
 have hln:=C.len
 have hG0:=hG
 simp only[gr] at hG
 refine tc_rG dt_ok (by rfl) (by kernel_rfl) ?_
 conv in (rF _ _).body=>reduce
 conv in (rF _ _).res=>reduce
 conv=>whnf
 exact pw_go
set_option maxHeartbeats 8000000 in
theorem pw_atom(C:PCtx Z X W ts sl)(ih : ∀g,g≤f→PAll Z X W ts sl g):PC Z X W ts sl (f+1) .atom 83 [.ptr 0 0] ans1:=by
 intro i Q R E P hi hG hE hQ
 have ihf:=ih f (Nat.le_refl f)
 have hln:=C.len
 simp only[gr] at hG
 refine tc_rG dt_ok (by rfl) (by kernel_rfl) ?_
 conv in (rF _ _).body=>reduce
 conv in (rF _ _).res=>reduce
 conv=>whnf
 refine now_tc C (by omega) ?_
 obtain⟨t,ht⟩ : ∃t,nowT ts i=t:=⟨_,rfl⟩
 have hlk:(nowT ts i).kind≠0→i<ts.length:=kd_lt
 rw[ht] at hG hlk⊢
 obtain⟨kd,lt,xt⟩:=t
 by_cases hk:4≤kd∧kd≤7
 ·have hl:i<ts.length:=hlk (by show kd≠0;omega)
  rw[if_pos hk] at hG
  obtain rfl | rfl | rfl | rfl:kd=4∨kd=5∨kd=6∨kd=7:=by omega
  all_goals
   (conv=>whnf)
   refine leaf_tc hk.1 hk.2 ?_
   (conv=>whnf)
   repeat (refine⟨rfl,?_⟩;(conv=>whnf))
   exact q_eq rfl (rd_wr C hl) (hQ _ _ hG (by omega))
 ·rw[if_neg hk] at hG
  (conv=>whnf)
  exact pw_go
set_option maxHeartbeats 8000000 in
theorem pw_exprs(C:PCtx Z X W ts sl)(ih : ∀g,g≤f→PAll Z X W ts sl g):PC Z X W ts sl (f+1) .exprs 39 [.ptr 0 0] ans1:=by
 intro i Q R E P hi hG hE hQ
 have ihf:=ih f (Nat.le_refl f)
 have hln:=C.len
 have hG0:=hG
 simp only[gr] at hG
 refine tc_rG dt_ok (by rfl) (by kernel_rfl) ?_
 conv in (rF _ _).body=>reduce
 conv in (rF _ _).res=>reduce
 conv=>whnf
 exact pw_go
set_option maxHeartbeats 8000000 in
theorem pw_one(C:PCtx Z X W ts sl)(ih : ∀g,g≤f→PAll Z X W ts sl g):PC Z X W ts sl (f+1) .one 65 [.ptr 0 0] ans1:=by
 intro i Q R E P hi hG hE hQ
 have ihf:=ih f (Nat.le_refl f)
 have hln:=C.len
 have hG0:=hG
 simp only[gr] at hG
 refine tc_rG dt_ok (by rfl) (by kernel_rfl) ?_
 conv in (rF _ _).body=>reduce
 conv in (rF _ _).res=>reduce
 conv=>whnf
 exact pw_go
set_option maxHeartbeats 8000000 in
theorem pw_places(C:PCtx Z X W ts sl)(ih : ∀g,g≤f→PAll Z X W ts sl g):PC Z X W ts sl (f+1) .places 38 [.ptr 0 0] ans1:=by
 intro i Q R E P hi hG hE hQ
 have ihf:=ih f (Nat.le_refl f)
 have hln:=C.len
 have hG0:=hG
 simp only[gr] at hG
 refine tc_rG dt_ok (by rfl) (by kernel_rfl) ?_
 conv in (rF _ _).body=>reduce
 conv in (rF _ _).res=>reduce
 conv=>whnf
 exact pw_go
set_option maxHeartbeats 8000000 in
theorem pw_simple(C:PCtx Z X W ts sl)(ih : ∀g,g≤f→PAll Z X W ts sl g):PC Z X W ts sl (f+1) .simple 44 [.ptr 0 0] ans1:=by
 intro i Q R E P hi hG hE hQ
 have ihf:=ih f (Nat.le_refl f)
 have hln:=C.len
 have hG0:=hG
 simp only[gr] at hG
 refine tc_rG dt_ok (by rfl) (by kernel_rfl) ?_
 conv in (rF _ _).body=>reduce
 conv in (rF _ _).res=>reduce
 conv=>whnf
 exact pw_go
set_option maxHeartbeats 8000000 in
theorem pw_plain(C:PCtx Z X W ts sl)(ih : ∀g,g≤f→PAll Z X W ts sl g):PC Z X W ts sl (f+1) .plain 71 [.ptr 0 0] ans1:=by
 intro i Q R E P hi hG hE hQ
 have ihf:=ih f (Nat.le_refl f)
 have hln:=C.len
 have hG0:=hG
 simp only[gr] at hG
 refine tc_rG dt_ok (by rfl) (by kernel_rfl) ?_
 conv in (rF _ _).body=>reduce
 conv in (rF _ _).res=>reduce
 conv=>whnf
 exact pw_go
set_option maxHeartbeats 8000000 in
theorem pw_value(C:PCtx Z X W ts sl)(ih : ∀g,g≤f→PAll Z X W ts sl g):PC Z X W ts sl (f+1) .value 85 [.ptr 0 0] ans1:=by
 intro i Q R E P hi hG hE hQ
 have ihf:=ih f (Nat.le_refl f)
 have hln:=C.len
 have hG0:=hG
 simp only[gr] at hG
 refine tc_rG dt_ok (by rfl) (by kernel_rfl) ?_
 conv in (rF _ _).body=>reduce
 conv in (rF _ _).res=>reduce
 conv=>whnf
 exact pw_go
set_option maxHeartbeats 8000000 in
theorem pw_block(C:PCtx Z X W ts sl)(ih : ∀g,g≤f→PAll Z X W ts sl g):PC Z X W ts sl (f+1) .block 37 [.ptr 0 0] ans1:=by
 intro i Q R E P hi hG hE hQ
 have ihf:=ih f (Nat.le_refl f)
 have hln:=C.len
 have hG0:=hG
 simp only[gr] at hG
 refine tc_rG dt_ok (by rfl) (by kernel_rfl) ?_
 conv in (rF _ _).body=>reduce
 conv in (rF _ _).res=>reduce
 conv=>whnf
 exact pw_go
set_option maxHeartbeats 8000000 in
theorem pw_stmt(C:PCtx Z X W ts sl)(ih : ∀g,g≤f→PAll Z X W ts sl g):PC Z X W ts sl (f+1) .stmt 23 [.ptr 0 0] ans1:=by
 intro i Q R E P hi hG hE hQ
 have ihf:=ih f (Nat.le_refl f)
 have hln:=C.len
 have hG0:=hG
 simp only[gr] at hG
 refine tc_rG dt_ok (by rfl) (by kernel_rfl) ?_
 conv in (rF _ _).body=>reduce
 conv in (rF _ _).res=>reduce
 conv=>whnf
 exact pw_go
set_option maxHeartbeats 8000000 in
theorem pw_params(C:PCtx Z X W ts sl)(ih : ∀g,g≤f→PAll Z X W ts sl g) : ∀(cl:List UInt8) (ln:Int),cl≠ []→PC Z X W ts sl (f+1) (.params cl ln []) 41 [.ptr 0 0,rS (.int .i64 ln),rS (.string ⟨⟨cl⟩⟩)] ans1:=by
 intro cl ln cl_ne i Q R E P hi hG hE hQ
 have ihf:=ih f (Nat.le_refl f)
 have hln:=C.len
 have hG0:=hG
 simp only[gr] at hG
 refine tc_rG dt_ok (by rfl) (by kernel_rfl) ?_
 conv in (rF _ _).body=>reduce
 conv in (rF _ _).res=>reduce
 conv=>whnf
 exact pw_go
set_option maxHeartbeats 8000000 in
theorem pw_row(C:PCtx Z X W ts sl)(ih : ∀g,g≤f→PAll Z X W ts sl g) : ∀(cl:List UInt8),cl≠ []→PC Z X W ts sl (f+1) (.row cl []) 42 [.ptr 0 0,rS (.string ⟨⟨cl⟩⟩)] ansL:=by
 intro cl cl_ne i Q R E P hi hG hE hQ
 have ihf:=ih f (Nat.le_refl f)
 have hln:=C.len
 have hG0:=hG
 simp only[gr] at hG
 refine tc_rG dt_ok (by rfl) (by kernel_rfl) ?_
 conv in (rF _ _).body=>reduce
 conv in (rF _ _).res=>reduce
 conv=>whnf
 exact pw_go
set_option maxHeartbeats 8000000 in
theorem pw_index(C:PCtx Z X W ts sl)(ih : ∀g,g≤f→PAll Z X W ts sl g) : ∀(k:Nat) (l:Int) (x:List UInt8) (o:Nat) (ks:List Nd),PC Z X W ts sl (f+1) (.index (.mk k l x o ks)) 84 [.ptr 0 0,ndA (.mk k l x o ks)] ans1:=by
 intro k l x o ks i Q R E P hi hG hE hQ
 have ihf:=ih f (Nat.le_refl f)
 have hln:=C.len
 have hG0:=hG
 simp only[gr] at hG
 refine tc_rG dt_ok (by rfl) (by kernel_rfl) ?_
 conv in (rF _ _).body=>reduce
 conv in (rF _ _).res=>reduce
 conv=>whnf
 exact pw_go
set_option maxHeartbeats 8000000 in
theorem pw_clauses(C:PCtx Z X W ts sl)(ih : ∀g,g≤f→PAll Z X W ts sl g):PC Z X W ts sl (f+1) (.clauses []) 106 [.ptr 0 0] ansL:=by
 intro i Q R E P hi hG hE hQ
 have ihf:=ih f (Nat.le_refl f)
 have hln:=C.len
 have hG0:=hG
 simp only[gr] at hG
 refine tc_rG dt_ok (by rfl) (by kernel_rfl) ?_
 conv in (rF _ _).body=>reduce
 conv in (rF _ _).res=>reduce
 conv=>whnf
 exact pw_go
set_option maxHeartbeats 8000000 in
theorem pw_list(C:PCtx Z X W ts sl)(ih : ∀g,g≤f→PAll Z X W ts sl g) : ∀(ln:Int),PC Z X W ts sl (f+1) (.list ln) 98 [.ptr 0 0,rS (.int .i64 ln)] ans1:=by
 intro ln i Q R E P hi hG hE hQ
 have ihf:=ih f (Nat.le_refl f)
 have hln:=C.len
 have hG0:=hG
 simp only[gr] at hG
 refine tc_rG dt_ok (by rfl) (by kernel_rfl) ?_
 conv in (rF _ _).body=>reduce
 conv in (rF _ _).res=>reduce
 conv=>whnf
 exact pw_go
set_option maxHeartbeats 8000000 in
theorem pw_braces(C:PCtx Z X W ts sl)(ih : ∀g,g≤f→PAll Z X W ts sl g) : ∀(ln:Int),PC Z X W ts sl (f+1) (.braces ln) 99 [.ptr 0 0,rS (.int .i64 ln)] ans1:=by
 intro ln i Q R E P hi hG hE hQ
 have ihf:=ih f (Nat.le_refl f)
 have hln:=C.len
 have hG0:=hG
 simp only[gr] at hG
 refine tc_rG dt_ok (by rfl) (by kernel_rfl) ?_
 conv in (rF _ _).body=>reduce
 conv in (rF _ _).res=>reduce
 conv=>whnf
 exact pw_go
set_option maxHeartbeats 8000000 in
theorem pw_names(C:PCtx Z X W ts sl)(ih : ∀g,g≤f→PAll Z X W ts sl g) : ∀(k:Nat) (ln:Int),PC Z X W ts sl (f+1) (.names k ln []) 68 [.ptr 0 0,rS (.int .i64 (k:Nat)),rS (.int .i64 ln)] ans1:=by
 intro k ln i Q R E P hi hG hE hQ
 have ihf:=ih f (Nat.le_refl f)
 have hln:=C.len
 have hG0:=hG
 simp only[gr] at hG
 refine tc_rG dt_ok (by rfl) (by kernel_rfl) ?_
 conv in (rF _ _).body=>reduce
 conv in (rF _ _).res=>reduce
 conv=>whnf
 exact pw_go
set_option maxHeartbeats 8000000 in
theorem pw_maybe(C:PCtx Z X W ts sl)(ih : ∀g,g≤f→PAll Z X W ts sl g) : ∀(k:Nat) (ln:Int) (all:Bool),PC Z X W ts sl (f+1) (.maybe k ln all) 67 [.ptr 0 0,rS (.int .i64 (k:Nat)),rS (.int .i64 ln),rS (.bool all)] ans1:=by
 intro k ln all i Q R E P hi hG hE hQ
 have ihf:=ih f (Nat.le_refl f)
 have hln:=C.len
 simp only[gr] at hG
 cases all
 all_goals simp only[Bool.false_eq_true,if_false,if_true] at hG
 all_goals
  refine tc_rG dt_ok (by rfl) (by kernel_rfl) ?_
  conv in (rF _ _).body=>reduce
  conv in (rF _ _).res=>reduce
  conv=>whnf
  exact pw_go
set_option maxHeartbeats 8000000 in
theorem pw_ifs(C:PCtx Z X W ts sl)(ih : ∀g,g≤f→PAll Z X W ts sl g) : ∀(ln:Int),PC Z X W ts sl (f+1) (.ifs ln) 34 [.ptr 0 0,rS (.int .i64 ln)] ans1:=by
 intro ln i Q R E P hi hG hE hQ
 have ihf:=ih f (Nat.le_refl f)
 have hln:=C.len
 have hG0:=hG
 simp only[gr] at hG
 refine tc_rG dt_ok (by rfl) (by kernel_rfl) ?_
 conv in (rF _ _).body=>reduce
 conv in (rF _ _).res=>reduce
 conv=>whnf
 exact pw_go
set_option maxHeartbeats 8000000 in
theorem pw_tries(C:PCtx Z X W ts sl)(ih : ∀g,g≤f→PAll Z X W ts sl g) : ∀(ln:Int),PC Z X W ts sl (f+1) (.tries ln) 43 [.ptr 0 0,rS (.int .i64 ln)] ans1:=by
 intro ln i Q R E P hi hG hE hQ
 have ihf:=ih f (Nat.le_refl f)
 have hln:=C.len
 have hG0:=hG
 simp only[gr] at hG
 refine tc_rG dt_ok (by rfl) (by kernel_rfl) ?_
 conv in (rF _ _).body=>reduce
 conv in (rF _ _).res=>reduce
 conv=>whnf
 exact pw_go
end
end Can
end Go.Proofs.YtdfgkcoenagaaaaGreat
end
section
namespace Go.Proofs.YtdfgkcoenagaaaaGreat
namespace Can
open Go Go.RowKit
set_option linter.unusedSimpArgs false
set_option linter.unusedVariables false
set_option maxRecDepth 4000
attribute [local irreducible] TC isT nowT begT placeN
section
variable {Z:TP} {X:Pan} {W:Int→Value} {ts:List PT} {sl:Sl} {f:Nat}
theorem pall0:PAll Z X W ts sl 0:=by
 constructor
 all_goals (intros;intro i Q R E P hi hG hE hQ;exact hG.elim)
theorem palls(C:PCtx Z X W ts sl)(ih : ∀g,g≤f→PAll Z X W ts sl g):PAll Z X W ts sl (f+1):=⟨pw_expr C ih,pw_or C ih,pw_and C ih,pw_not C ih,pw_compare C ih,pw_arith C ih,pw_term C ih,pw_factor C ih,pw_primary C ih,pw_atom C ih,pw_exprs C ih,pw_one C ih,pw_places C ih,pw_simple C ih,pw_plain C ih,pw_value C ih,pw_block C ih,pw_stmt C ih,pw_params C ih,pw_row C ih,pw_index C ih,pw_clauses C ih,pw_list C ih,pw_braces C ih,pw_names C ih,pw_maybe C ih,pw_ifs C ih,pw_tries C ih⟩
theorem pall(C:PCtx Z X W ts sl) : ∀f,PAll Z X W ts sl f:=by
 intro f
 induction f using Nat.strongRecOn with
 | _ f ih=>
   cases f with
   | zero=>exact pall0
   | succ f=>exact palls C fun g hg=>ih g (by omega)
end
end Can
end Go.Proofs.YtdfgkcoenagaaaaGreat
end
section
namespace Go.Proofs.YtdfgkcoenagaaaaGreat
namespace Can
open Go Go.RowKit
set_option linter.unusedSimpArgs false
set_option linter.unusedVariables false
set_option maxRecDepth 4000
def zNd:Nd:= .mk 0 0 [] 0 []
def parseT(ts:List PT):Nd×Int×Int:=match gr ts (ts.length*64+100) (.top []) 0 with
 | some (.ok (l,_))=>if 60<htL l+1 then (zNd,0,11) else (nd 1 (hdLine (nowT ts 0).line l) l,0,0)
 | some (.error e)=>(zNd,(nowT ts e).line,22)
 | none=>(zNd,0,0)
noncomputable def prP:List Item×List Item×RCode×RCode×RCode:=match (rF Tryz.prog 11).body with
 | .seq (.reg a) (.seq (.reg b) (.seq .bad (.seq c (.seq d e))))=>(a,b,c,d,e)
 | _=>([],[], .skip, .skip, .skip)
theorem pr_body:(rF Tryz.prog 11).body= .seq (.reg prP.1) (.seq (.reg prP.2.1) (.seq .bad (.seq prP.2.2.1 (.seq prP.2.2.2.1 prP.2.2.2.2)))):=by kernel_rfl
theorem pr_res:(rF Tryz.prog 11).res= [.lda 5 2, .ld 3, .ld 4]:=by kernel_rfl
def prK (H:CH)(sl:Sl):CH:=(((H.new (.cells [.int .i64 0, .int .i64 0, .string ⟨⟨[]⟩⟩, .int .i64 0, .slice none 0 0] 26 .ex)).new (.cells [.int .i64 0] 3 .ex)).new (.cells [.int .i64 0] 27 .ex)).new (rpC sl 0)
abbrev pP(l:Nat):Value:= .pointer (some ⟨l,0,none⟩)
theorem pr_r0{H:CH}{fr:Fr}{sl:Sl}(h0:fr 0= .slice sl.q sl.n sl.c):WpR (tblG Tryz.prog LG GG) (.reg prP.1) fr H fun x fr1 H1=>x= .normal∧WpR (tblG Tryz.prog LG GG) (.reg prP.2.1) fr1 H1 fun x fr2 H2=>x= .normal∧fr2 2=pP H.nx∧fr2 3=pP (H.nx+1)∧fr2 4=pP (H.nx+2)∧fr2 5=pP (H.nx+3)∧H2=prK H sl:=by
 have e1:prP.1=_:=rfl
 conv at e1=>rhs;reduce
 have e2:prP.2.1=_:=rfl
 conv at e2=>rhs;reduce
 rw[e1,e2]
 repeat' (first | (simp (disch:=first | omega | (decide +kernel)) only[↓RD,RU,↓putF_get,↓evF_t,new_nx,pop,aop,akV,isVal,Value.cells,ρ0,ρ1,ρ4,↓reduceIte,Nat.reduceEqDiff,Nat.reduceAdd,Int.reduceOfNat,reduceCtorEq,ρ7,ρ8,ρ17,ρ18,ρ19,ρ20,ρ25,ρ26,bldV,Nat.reduceLeDiff,h0]) | (with_reducible first | refine condK_dec (fun _=> ?_) fun _=> ?_ | refine grd_dec (fun _=> ?_) fun _=> ?_ | refine egrd_dec (fun _=> ?_) fun _=> ?_))
 rfl
def prZ (H:CH)(sl:Sl):TP:= .plain (fun b=>∃o,sl.q=some ⟨b,o,none⟩) H.ob
theorem prZ_in{H:CH}{sl:Sl}{ts:List PT}(h:SlAt 3 CTk H sl.q sl.c ts){b:Nat}(hb:(prZ H sl).N b):b<H.nx:=by
 obtain⟨o,ho⟩:=hb
 rcases h with ⟨_,_,h | h | h⟩ | ⟨l,o',os,e,k,q,hl,_⟩
 ·rw[h] at ho;cases ho
 ·rw[h] at ho;cases ho
 ·rw[h] at ho;cases ho
 ·rw[q] at ho;cases ho;exact hl
theorem prZ_ok{H:CH}{sl:Sl}{ts:List PT}(h:SlAt 3 CTk H sl.q sl.c ts)(hn:sl.n=ts.length):TkZ (prZ H sl) sl ts:=by
 refine⟨hn,fun l o q=>⟨o,q⟩,fun K hK=> ?_⟩
 rcases h with ⟨h1,h2,h3⟩ | ⟨l,o,os,e,k,q,h1,h2,h3,h4,h5,h6⟩
 ·exact .inl ⟨h1,h2,h3⟩
 ·obtain⟨g1,g2⟩:=hK l ⟨o,q⟩
  exact .inr ⟨l,o,os,e,k,q,g1,h2,h3,g2.trans h4,h5,h6⟩
def prF (H:CH):TFr:=fun t=> [.bad, .bad,rS (pP H.nx),rS (pP (H.nx+1)),rS (pP (H.nx+2)), .ptr 0 0].getD t .bad
theorem prK_nx{H:CH}{sl:Sl}:(prK H sl).nx=H.nx+4:=rfl
theorem prK_old{H:CH}{sl:Sl}{b:Nat}(hb:b<H.nx):(prK H sl).ob b=H.ob b:=by
 unfold prK
 rw[new_ne (by simp only[new_nx];omega),new_ne (by simp only[new_nx];omega),new_ne (by simp only[new_nx];omega),new_ne (by omega)]
theorem prK_r{H:CH}{sl:Sl}:(prK H sl).ob (H.nx+3)=rpC sl 0:=new_get.trans (if_pos rfl)
theorem pr_start{H:CH}{sl:Sl}{ts:List PT}(h:SlAt 3 CTk H sl.q sl.c ts){cfr:Fr}(c2:cfr 2=pP H.nx)(c3:cfr 3=pP (H.nx+1))(c4:cfr 4=pP (H.nx+2))(c5:cfr 5=pP (H.nx+3)) :
 TR (prZ H sl) (prK H sl) (some (H.nx+3)) (fun _=>False) (prK H sl) (st0 (rdR sl 0)) (prF H) cfr (E0 (some (H.nx+3)) fun b=>b<H.nx+4∧b≠H.nx+3):=by
 have t0:TR (prZ H sl) (prK H sl) (some (H.nx+3)) (fun _=>False) (prK H sl) (st0 (rdR sl 0)) (fun t=>([]:List AV).getD t .bad) (fun t=>([]:List Value).getD t undef) (E0 (some (H.nx+3)) fun b=>b<H.nx+4∧b≠H.nx+3):=by
  refine TR.start (e:=none) (W:=fun _=>False) (fun b hb=>⟨hb.1,fun e=>hb.2 (by cases e;rfl)⟩) (fun _ h=>h.elim) (fun b hb=> ?_) .nil (self_mk (by rw[prK_nx];omega) prK_r) (.inl ⟨rfl,fun _ h=>h⟩)
  have:=prZ_in h hb
  exact⟨by rw[prK_nx];omega,fun e=>by cases e;omega,id,prK_old this⟩
 refine { t0 with frm:=fun t=> ?_ }
 match t with
 | 0=>exact .bad
 | 1=>exact .bad
 | 2=>rw[c2];exact rS_rel rfl
 | 3=>rw[c3];exact rS_rel rfl
 | 4=>rw[c4];exact rS_rel rfl
 | 5=>rw[c5];exact .ptr rfl
 | n+6=>exact .bad
theorem set_ne'{K:CH}{p b:Nat}{o:CObj}(h:b≠p):(K.set p o).ob b=K.ob b:=by
 simp only[CH.set]
 rw[if_neg h]
theorem tc_wp{T:Tbl}{X:Pan}{f:FuncId}{args:List AV}{Q:AV→List SV→Prop}(h:TC (.plain (fun _=>False) fun _=> .dead) T X f args none Q fun _=>False){K:CH}{vs:List Value}(hv:R2 (AVR K (E0 none fun _=>False)) args vs):WpF T f vs K fun v K'=>HExt K K'∧∃a s',AVR K' (E0 none fun _=>False) a v∧Q a s':=by
 rcases h K none (fun _=>False) (fun _=>False) vs (fun _ h=>h.elim) (fun _ h=>h) (fun _ h=>h.elim) hv rfl (fun _ h=>h) with h | ⟨n,v,H',_,h⟩
 ·exact h.mono fun v K' ⟨h1,h2,hid',W',a,s',_,h3,hc,_,_,h4⟩=>⟨⟨h1,fun b hb=>h2 b hb (by simp) id⟩,a,s',h3.mv0 hc (fun _=>rfl) fun b hb=>⟨⟨hb.1,id,hb.2.2⟩,rfl⟩,h4⟩
 ·exact h.2.2.elim
attribute [local irreducible] TC isT nowT begT placeN
theorem pr_t3{Z:TP}{X:Pan}{W:Int→Value}{ts:List PT}{sl:Sl}{H:CH}{R:Value→Prop}(C:PCtx Z X W ts sl):twR Z (tblG Tryz.prog LG GG) X DT R prP.2.2.1 (prF H) (st0 (rdR sl 0)) fun x fr st=>x= .normal∧(∃nt v,st=⟨nt,[(v,59,(oR sl 0).2.2),(v,26,nC 1 (nowT ts 0).line [] 0 (.s (.row 5 [])))]⟩)∧fr 2=rS (pP H.nx)∧fr 3=rS (pP (H.nx+1))∧fr 4=rS (pP (H.nx+2))∧fr 5= .ptr 0 0∧fr 6= .ptr 1 0:=by
 have e:prP.2.2.1=_:=rfl
 conv at e=>rhs;reduce
 rw[e]
 clear e
 conv=>whnf
 refine now_tc C (Nat.zero_le _) ?_
 conv=>whnf
 exact⟨rfl,⟨_,_,rfl⟩,rfl,rfl,rfl,rfl,rfl⟩
def prG (H:CH):TFr:=fun t=> [.bad, .bad,rS (pP H.nx),rS (pP (H.nx+1)),rS (pP (H.nx+2)), .ptr 0 0, .ptr 1 0].getD t .bad
def AccT (acc:List Nd)(c:CV):Prop:=(acc= []∧c= .s (.row 5 []))∨∃t,c= .own t 26 5 (ndsS acc)
theorem pr_tL{Z:TP}{X:Pan}{W:Int→Value}{ts:List PT}{sl:Sl}{H:CH}{R:Value→Prop}(C:PCtx Z X W ts sl){f nt v:Nat}(ih : ∀m,m<f→PAll Z X W ts sl m){E:Nat→Prop}{P:List Nd→Nat→Prop}(hG:Gd E P (gr ts f (.top []) 0))(hE : ∀e,E e→R (W (nowT ts e).line)) :
 twR Z (tblG Tryz.prog LG GG) X DT R prP.2.2.2.1 (prG H) ⟨nt,[(v,59,(oR sl 0).2.2),(v,26,nC 1 (nowT ts 0).line [] 0 (.s (.row 5 [])))]⟩ fun x fr st=>x= .normal∧(∃l j nt u v c,P l j∧AccT l c∧st=⟨nt,[(u,59,(oR sl j).2.2),(v,26,nC 1 (hdLine (nowT ts 0).line l) [] 0 c)]⟩)∧fr 2=rS (pP H.nx)∧fr 3=rS (pP (H.nx+1))∧fr 4=rS (pP (H.nx+2))∧fr 6= .ptr 1 0:=by
 have e:prP.2.2.2.1=_:=rfl
 conv at e=>rhs;reduce
 rw[e]
 clear e
 have hlen:=C.len
 conv=>whnf
 refine loop_0 (fun m s=>∃acc j c,AccV acc c∧s=⟨1,[oR sl j,oN (nC 1 (hdLine (nowT ts 0).line acc) [] 0 c)]⟩∧j≤ts.length∧m≤f∧2*acc.length≤j∧Gd E P (gr ts m (.top acc) j)) f [99] rfl ⟨[],_,_, .inl ⟨rfl,rfl⟩,rfl,by omega,Nat.le_refl _,by simp only[List.length_nil];omega,hG⟩ ?_
 rintro m f1 s ⟨acc,j,c,hA,rfl,hj,hmf,hb2,hG⟩
 rcases m with _ | m
 ·exact hG.elim
 have ihm:=ih m (by omega)
 simp only[gr] at hG
 rcases hA with ⟨rfl,rfl⟩ | ⟨hne,rfl⟩
 rotate_left
 rcases acc with _ | ⟨⟨k2,l2,x2,o2,ks2⟩,acc⟩
 ·exact absurd rfl hne
 all_goals
  try simp only[List.length_cons,List.length_nil] at hb2
  (conv=>whnf)
  refine now_tc C (by omega) ?_
  (conv=>whnf)
  generalize hk:((nowT ts j).kind != Int.ofNat 0)=bb
  cases bb
  ·have hk0:(nowT ts j).kind=0:=by simpa using hk
   rw[if_pos hk0] at hG
   (conv=>whnf)
   first
    | exact⟨rfl,⟨_,_,_,_,_,_,hG, .inr ⟨_,rfl⟩,rfl⟩,rfl,rfl,rfl,rfl⟩
    | exact⟨rfl,⟨_,_,_,_,_,_,hG, .inl ⟨rfl,rfl⟩,rfl⟩,rfl,rfl,rfl,rfl⟩
  ·have hk0 : ¬(nowT ts j).kind=0:=by simpa using hk
   rw[if_neg hk0] at hG
   have hlt:=kd_lt hk0
   (conv=>whnf)
   repeat' first
    | (refine rul_st ihm.stmt hG (by trivial) rfl (by intro e he;first | exact hE e he | exact⟨True.intro,hE e he⟩) (by omega) ?_;intro n1 l1 x1 o1 ks1 j1 hp1 hj1 hG;simp only[NT.min] at hp1;(conv=>whnf))
    | (intro (hmx:_≤maxLen);(conv=>whnf))
    | exact⟨m,[2],by omega,rfl,_,_,_,accV_app rfl,rfl,by omega,by omega,(by simp only[List.length_append,List.length_cons,List.length_nil] at *;omega),hG⟩
    | (refine⟨rfl,0,_,rfl,rfl,?_⟩;(conv=>whnf))
    | (refine⟨rfl,?_⟩;(conv=>whnf))
    | (refine⟨bdA (by simp only[List.length_append,List.length_cons,List.length_nil,ndsS_len];omega),?_⟩;(conv=>whnf))
theorem row_slc{K:CH}{A:Nat→Prop}{sz:Nat}{gs:List (List SV)}{w:Value}(h:SVR K A (.row sz gs) w) : ∃a n c,w= .slice a n c:=by
 cases h with
 | row0=>exact⟨_,_,_,rfl⟩
 | row=>exact⟨_,_,_,rfl⟩
theorem nd_rel{K:CH}{A:Nat→Prop}(hA : ∀b,A b→b<K.nx){k:Nat}{l:Int}{x:List UInt8}{o:Nat}{ks:List Nd}{w:Value}(hw:SVR K A (.row 5 (ndsS ks)) w):R2 (AVR K (E0 none fun _=>False)) [ndA (.mk k l x o ks)] [.agg #[.int .i64 (k:Nat), .int .i64 l, .string ⟨⟨x⟩⟩, .int .i64 (o:Nat),w]]:=by
 refine .cons ?_ .nil
 have hw':SVR K (Frz K (E0 none fun _=>False)) (.row 5 (ndsS ks)) w:=hw.mv fun b hb=>⟨⟨hA b hb,fun h=>h,(fun _ q=>(by cases q)),fun o q=>(by
  have q:(if o=0 then none else none)=some b:=q
  split at q<;>cases q)⟩,rfl⟩
 exact .r (.agg (vs:= [.int .i64 (k:Nat), .int .i64 l, .string ⟨⟨x⟩⟩, .int .i64 (o:Nat),w]) (.cons (.s (.sc rfl)) (.cons (.s (.sc rfl)) (.cons (.s (.sc rfl)) (.cons (.s (.sc rfl)) (.cons (.s hw') .nil))))))
theorem height_wp{K:CH}{A:Nat→Prop}(hA : ∀b,A b→b<K.nx){k:Nat}{l:Int}{x:List UInt8}{o:Nat}{ks:List Nd}{w:Value}(hw:SVR K A (.row 5 (ndsS ks)) w)(hh:htL ks+1≤9223372036854775807):WpF (tblG Tryz.prog LG GG) 12 [.agg #[.int .i64 (k:Nat), .int .i64 l, .string ⟨⟨x⟩⟩, .int .i64 (o:Nat),w]] K fun v K'=>HExt K K'∧v= .int .i64 (htL ks+1:Nat):=
 (tc_wp (X:=pX) (height_tc (nsz (.mk k l x o ks)+1) k l x o ks (Nat.lt_succ_self _) hh (fun a _=>a=rS (.int .i64 (htL ks+1:Nat))) _ rfl) (nd_rel hA hw)).mono fun v K' ⟨h1,a,s',h2,h3⟩=>⟨h1,by subst h3;exact raw_rel h2 rfl⟩
def PrO (H:CH)(t:Nd)(ln er:Int)(vs:List Value)(K':CH):Prop:=HExt H K'∧∃os,vs= [.agg os.toArray, .int .i64 ln, .int .i64 er]∧SVRs K' (fun b=>H.nx≤b∧b<K'.nx) (ndS t) os
def TyV (vs:List Value)(K':CH):Prop:=∀a0 a1 a2 a3 b n c r,vs= .agg #[a0,a1,a2,a3, .slice (some ⟨b,0,none⟩) n c]::r→∃cs kd,K'.ob b= .cells cs 26 kd
theorem pr_rest{H K:CH}{fr:Fr}{b:Nat}{l:List Nd}{ln:Int}{w:Value}(h2:fr 2=pP H.nx)(h3:fr 3=pP (H.nx+1))(h4:fr 4=pP (H.nx+2))(h6:fr 6=pP b)(o2:K.ob H.nx= .cells [.int .i64 0, .int .i64 0, .string ⟨⟨[]⟩⟩, .int .i64 0, .slice none 0 0] 26 .ex)(o3:K.ob (H.nx+1)= .cells [.int .i64 0] 3 .ex)(o4:K.ob (H.nx+2)= .cells [.int .i64 0] 27 .ex)
 (o6:K.ob b= .cells [.int .i64 1, .int .i64 ln, .string ⟨⟨[]⟩⟩, .int .i64 0,w] 26 .ex) (hn:H.nx+4≤K.nx) (hb:b<K.nx) (hb4:H.nx+4≤b) (hw:SVR K (fun b=>H.nx+4≤b∧b<K.nx) (.row 5 (ndsS l)) w) (hh:htL l+1≤9223372036854775807) (hold : ∀b,b<H.nx→K.ob b=H.ob b) (hty : ∀b n c,w= .slice (some ⟨b,0,none⟩) n c→b<K.nx∧H.nx+4≤b∧∃cs kd,K.ob b= .cells cs 26 kd) :
 WpR (tblG Tryz.prog LG GG) prP.2.2.2.2 fr K fun x fr' K'=>x= .ret∧∃vs,resL fr' K' [.lda 5 2, .ld 3, .ld 4]=some vs∧PrO H (if 60<htL l+1 then zNd else .mk 1 ln [] 0 l) 0 (if 60<htL l+1 then 11 else 0) vs K'∧TyV vs K':=by
 obtain⟨wa,wn,wc,rfl⟩ : ∃a n c,w= .slice a n c:=by
  exact row_slc hw
 have e:prP.2.2.2.2=_:=rfl
 conv at e=>rhs;reduce
 rw[e]
 clear e
 repeat' (first | (simp (disch:=first | omega | (decide +kernel)) only[↓RD,RU,↓putF_get,↓evF_t,lop,resL,resV,ρ0,ρ1,↓reduceIte,Nat.reduceAdd,Int.reduceOfNat,ρ7,ρ8,ρ15,ρ18,h6,o6]) | (with_reducible first | refine condK_dec (fun _=> ?_) fun _=> ?_ | refine grd_dec (fun _=> ?_) fun _=> ?_ | refine egrd_dec (fun _=> ?_) fun _=> ?_))
 refine(height_wp (k:=1) (x:= []) (o:=0) (fun _ h=>h.2) hw hh).mono fun v K4 ⟨hx,e⟩=> ?_
 subst e
 have g2:=(hx.ob _ (show H.nx<K.nx by omega)).trans o2
 have g3:=(hx.ob _ (show H.nx+1<K.nx by omega)).trans o3
 have g4:=(hx.ob _ (show H.nx+2<K.nx by omega)).trans o4
 have g6:=(hx.ob _ hb).trans o6
 have hnx:=hx.nx
 have hH4:HExt H K4:=⟨by omega,fun b hb=>(hx.ob b (by omega)).trans (hold b hb)⟩
 by_cases h60:60<htL l+1
 ·have hb1:decide ((60:Int)<((htL l+1:Nat):Int))=true:=decide_eq_true (by omega)
  repeat' (first | (simp (disch:=first | omega | (decide +kernel)) only[↓RD,RU,↓putF_get,↓putF_none,↓evF_t,↓evF_c,set_get,pop,wop,isVal,isCell,Value.cells,ρ1,ρ4,↓reduceIte,Nat.reduceEqDiff,Nat.reduceAdd,ρ5,ρ7,ρ8,ρ15,ρ17,ρ18,ρ21,ρ22,ρ23,Kd.isRo,ρ25,ρ26,bldV,h2,h3,h4,g2,g3,g4]) | (with_reducible first | refine condK_dec (fun _=> ?_) fun _=> ?_ | refine grd_dec (fun _=> ?_) fun _=> ?_ | refine egrd_dec (fun _=> ?_) fun _=> ?_))
  refine⟨_,rfl,⟨((hH4.set (Nat.le_refl _) _).set (by omega) _).set (by omega) _,_,rfl, .cons (.sc rfl) (.cons (.sc rfl) (.cons (.sc rfl) (.cons (.sc rfl) (.cons .row0 .nil))))⟩,?_⟩
  intro a0 a1 a2 a3 b n c r e
  simp at e
 ·have hb1:decide ((60:Int)<((htL l+1:Nat):Int))=false:=decide_eq_false (by omega)
  repeat' (first | (simp (disch:=first | omega | (decide +kernel)) only[↓RD,RU,↓putF_get,↓putF_none,↓evF_t,↓evF_c,set_get,pop,lop,wop,isVal,isCell,Value.cells,↓reduceIte,Nat.reduceEqDiff,Nat.reduceAdd,ρ5,ρ7,ρ8,ρ15,ρ17,ρ18,ρ21,ρ22,ρ23,Kd.isRo,ρ25,ρ26,h2,h3,h4,h6,g2,g3,g4,g6]) | (with_reducible first | refine condK_dec (fun _=> ?_) fun _=> ?_ | refine grd_dec (fun _=> ?_) fun _=> ?_ | refine egrd_dec (fun _=> ?_) fun _=> ?_))
  refine⟨_,rfl,⟨((hH4.set (Nat.le_refl _) _).set (by omega) _).set (by omega) _,_,rfl, .cons (.sc rfl) (.cons (.sc rfl) (.cons (.sc rfl) (.cons (.sc rfl) (.cons (hw.mv fun b hb=>⟨⟨by omega,Nat.lt_of_lt_of_le hb.2 hnx⟩,?_⟩) .nil))))⟩,?_⟩
  ·rw[set_ne' (by omega),set_ne' (by omega),set_ne' (by omega)]
   exact hx.ob b hb.2
  ·intro a0 a1 a2 a3 b n c r e
   simp only[List.cons.injEq,Value.agg.injEq,Array.mk.injEq] at e
   obtain⟨⟨_,_,_,_,e,_⟩,_⟩:=e
   obtain⟨q1,q2,cs,kd,q3⟩:=hty b n c e
   exact⟨cs,kd,by rw[set_ne' (by omega),set_ne' (by omega),set_ne' (by omega),hx.ob b q1];exact q3⟩
end Can
end Go.Proofs.YtdfgkcoenagaaaaGreat
end
section
namespace Go.Proofs.YtdfgkcoenagaaaaGreat
namespace Can
open Go Go.RowKit
set_option linter.unusedSimpArgs false
set_option linter.unusedVariables false
set_option maxRecDepth 4000
theorem gd_eval{H K:CH}{l:Int}(o2:K.ob H.nx= .cells [.int .i64 0, .int .i64 0, .string ⟨⟨[]⟩⟩, .int .i64 0, .slice none 0 0] 26 .ex)(o3:K.ob (H.nx+1)= .cells [.int .i64 0] 3 .ex)(o4:K.ob (H.nx+2)= .cells [.int .i64 0] 27 .ex)(hn:H.nx+4≤K.nx) :
 gdG [pP H.nx,pP (H.nx+1),pP (H.nx+2)] (wrV l) K ((((gdH K l).set H.nx (.cells [.int .i64 0, .int .i64 0, .string ⟨⟨[]⟩⟩, .int .i64 0, .slice none 0 0] 26 .ex)).set (H.nx+1) (.cells [.int .i64 l] 3 .ex)).set (H.nx+2) (.cells [.int .i64 22] 27 .ex)):=by
 refine⟨rfl,l,rfl,?_⟩
 unfold gdH
 conv in gdD=>reduce
 have hn0:H.nx≠K.nx:=by omega
 have hn1:H.nx+1≠K.nx:=by omega
 have hn2:H.nx+2≠K.nx:=by omega
 repeat' (first | (simp (disch:=first | omega | (decide +kernel)) only[↓RD,RU,accW_t,accW_f,isW,↓putF_get,↓putF_none,↓evF_t,↓evF_c,new_get,set_get,getD_zero,getD_succ,pop,lop,wop,isVal,isCell,Value.cells,ρ1,ρ4,↓reduceIte,Nat.reduceEqDiff,Nat.reduceAdd,Int.reduceOfNat,reduceCtorEq,ρ5,ρ6,ρ7,ρ8,ρ17,ρ19,ρ20,ρ21,ρ22,ρ23,Kd.isRo,ρ25,ρ26,bldV,ρ28,o2,o3,o4,hn0,hn1,hn2]) | (with_reducible first | refine condK_dec (fun _=> ?_) fun _=> ?_ | refine grd_dec (fun _=> ?_) fun _=> ?_ | refine egrd_dec (fun _=> ?_) fun _=> ?_))
theorem fn_ok{P:Program}{f:Nat}(h:(resFunc P (fun N ops=>resD P N ops) f).isSome=true):FuncOk P f (rF P f):=by
 refine resFunc_ok (fun N ops d h=>resD_ok h) (rd:=fun N ops=>resD P N ops) ?_
 unfold rF
 cases hr:resFunc P (fun N ops=>resD P N ops) f with
 | none=>rw[hr] at h;cases h
 | some r=>rfl
theorem prK_2{H:CH}{sl:Sl}:(prK H sl).ob H.nx= .cells [.int .i64 0, .int .i64 0, .string ⟨⟨[]⟩⟩, .int .i64 0, .slice none 0 0] 26 .ex:=by
 unfold prK
 rw[new_ne (by simp only[new_nx];omega),new_ne (by simp only[new_nx];omega),new_ne (by simp only[new_nx];omega)]
 exact new_get.trans (if_pos rfl)
theorem prK_3{H:CH}{sl:Sl}:(prK H sl).ob (H.nx+1)= .cells [.int .i64 0] 3 .ex:=by
 unfold prK
 rw[new_ne (by simp only[new_nx];omega),new_ne (by simp only[new_nx];omega)]
 exact new_get.trans (if_pos rfl)
theorem prK_4{H:CH}{sl:Sl}:(prK H sl).ob (H.nx+2)= .cells [.int .i64 0] 27 .ex:=by
 unfold prK
 rw[new_ne (by simp only[new_nx];omega)]
 exact new_get.trans (if_pos rfl)
def PrQ2 (H:CH)(ts:List PT)(v:Value)(H':CH):Prop:=∃vs,v=tupleV vs∧PrO H (parseT ts).1 (parseT ts).2.1 (parseT ts).2.2 vs H'∧TyV vs H'
def PrQ (H:CH)(ts:List PT)(v:Value)(H':CH):Prop:=∃vs,v=tupleV vs∧PrO H (parseT ts).1 (parseT ts).2.1 (parseT ts).2.2 vs H'
theorem top_gd{ts:List PT}:Gd (fun e=>gr ts (ts.length*64+100) (.top []) 0=some (.error e)) (fun l j=>gr ts (ts.length*64+100) (.top []) 0=some (.ok (l,j))∧htL l+1≤64*ts.length+2) (gr ts (ts.length*64+100) (.top []) 0):=by
 have h1:=gr_gd (ts:=ts) (ts.length*64+100) (.top []) 0 trivial (Nat.zero_le _) (by simp only[NT.rank];omega)
 have h2:=gr_ht (ts:=ts) (ts.length*64+100) (.top []) 0 trivial (Nat.zero_le _) (by simp only[NT.rank];omega)
 match h:gr ts (ts.length*64+100) (.top []) 0,h1,h2 with
 | some (.error e),_,_=>exact rfl
 | some (.ok (l,j)),h1,h2=>
   refine⟨rfl,?_⟩
   have h3:szL l+64*0+0≤0+64*j+0:=h2
   have h4:=h1.2.1
   have h5:=ht_szL l
   omega
theorem cS_inv{K:CH}{E:TE}{v w:Value}(h:CVR K E (cS v) w):w=v:=by
 cases h with
 | s h=>cases h;rfl
theorem own_row{K:CH}{E:TE}{A:Nat→Prop}{t sz:Nat}{e:TypeId}{gs:List (List SV)}{w:Value}(h:CVR K E (.own t e sz gs) w)(h1 : ∀b,Frz K E b→A b)(h2 : ∀b,E.σ t=some b→A b):SVR K A (.row sz gs) w:=by
 cases h with
 | own0=>exact .row0
 | own hne hb ho hk hg hs ht=>exact .row hne (h2 _ hb) ho hk hg (hs.mv fun b hb=>⟨h1 b hb,rfl⟩) ht
theorem parse_call{H:CH}{sl:Sl}{ts:List PT}(h:SlAt 3 CTk H sl.q sl.c ts)(hn:sl.n=ts.length)(hlen:ts.length≤4398046510976) : ∃v H',PrQ2 H ts v H'∧∀B,CallC Tryz.prog B 11 [.slice sl.q sl.n sl.c] H v H':=by
 refine guard_calls (T:=(tblG Tryz.prog LG GG)) (X:=pX) (G:=gdG) (g:=20) (d:=10) (x1:=2) (x2:=3) (x3:=4) (fun B=>tg_ok) (fun B f args H v H'=>fail_ok) (fn_ok (by kernel_rfl)) pr_body (by rfl) (by kernel_rfl) (Nat.lt_of_lt_of_eq (by decide:10<37) (by kernel_rfl:37=(rF Tryz.prog 11).ntmps)) gd_ret (fun B=>gd_pan) ?_
 refine(pr_r0 (sl:=sl) rfl).mono fun x fr1 H1 ⟨hx,hw⟩=>⟨hx,hw.mono fun x fr2 H2 ⟨hx,c2,c3,c4,c5,e⟩=>⟨hx,?_⟩⟩
 subst e
 have C:=pctx (prZ_ok h hn) hlen
 have hc : ∀t,t≠10→putF fr2 (some 10) undef t=fr2 t:=fun t ht=>if_neg ht
 have t0:=pr_start (cfr:=putF fr2 (some 10) undef) h ((hc 2 (by decide)).trans c2) ((hc 3 (by decide)).trans c3) ((hc 4 (by decide)).trans c4) ((hc 5 (by decide)).trans c5)
 let Rp:Value→Prop:=fun v=>∃e,gr ts (ts.length*64+100) (.top []) 0=some (.error e)∧v=wrV (nowT ts e).line
 have hpan : ∀v K3,PX (prK H sl) (some (H.nx+3)) (fun _=>False) Rp v K3→∃H4,gdG [fr2 2,fr2 3,fr2 4] v K3 H4∧∃vs,resL (mskF (.seq prP.2.2.1 (.seq prP.2.2.2.1 prP.2.2.2.2)) (putF fr2 (some 10) undef)) H4 (rF Tryz.prog 11).res=some vs∧PrQ2 H ts (tupleV vs) H4:=by
  rintro v K3 ⟨g1,g2,e,hg,rfl⟩
  rw[prK_nx] at g1 g2
  have o2:=(g2 H.nx (by omega) (fun e=>by injection e;omega) id).trans prK_2
  have o3:=(g2 (H.nx+1) (by omega) (fun e=>by injection e;omega) id).trans prK_3
  have o4:=(g2 (H.nx+2) (by omega) (fun e=>by injection e;omega) id).trans prK_4
  rw[c2,c3,c4]
  refine⟨_,gd_eval o2 o3 o4 g1,?_⟩
  have hH3:HExt H K3:=⟨by omega,fun b hb=>(g2 b (by omega) (fun e=>by injection e;omega) id).trans (prK_old hb)⟩
  have hm : ∀t,t≠10→(wrR (.seq prP.2.2.1 (.seq prP.2.2.2.1 prP.2.2.2.2))).elem t=false→mskF (.seq prP.2.2.1 (.seq prP.2.2.2.1 prP.2.2.2.2)) (putF fr2 (some 10) undef) t=fr2 t:=fun t ht hw=>by
   unfold mskF
   rw[hw]
   exact hc t ht
  have m2:=(hm 2 (by decide) (by kernel_rfl)).trans c2
  have m3:=(hm 3 (by decide) (by kernel_rfl)).trans c3
  have m4:=(hm 4 (by decide) (by kernel_rfl)).trans c4
  rw[pr_res]
  unfold gdH
  have hn0:H.nx≠K3.nx:=by omega
  have hn1:H.nx+1≠K3.nx:=by omega
  have hn2:H.nx+2≠K3.nx:=by omega
  repeat' (first | (simp (disch:=first | omega | (decide +kernel)) only[RU,↓evF_t,set_get,lop,resL,resV,tupleV,↓reduceIte,Nat.reduceEqDiff,Nat.reduceAdd,ρ5,ρ7,ρ8,ρ15,ρ18,m2,m3,m4]) | (with_reducible first | refine condK_dec (fun _=> ?_) fun _=> ?_ | refine grd_dec (fun _=> ?_) fun _=> ?_ | refine egrd_dec (fun _=> ?_) fun _=> ?_))
  refine⟨_,rfl,[_,_,_],rfl,?_⟩
  have ht:parseT ts=(zNd,(nowT ts e).line,22):=by unfold parseT;rw[hg]
  rw[ht]
  refine⟨⟨((((hH3.new _).set (by omega) _).set (Nat.le_refl _) _).set (by omega) _).set (by omega) _,_,rfl, .cons (.sc rfl) (.cons (.sc rfl) (.cons (.sc rfl) (.cons (.sc rfl) (.cons .row0 .nil))))⟩,?_⟩
  intro a0 a1 a2 a3 b n c r e
  simp at e
 refine wxR_seq ((twR_sound dt_ok t0 (pr_t3 (R:=Rp) C)).mono ?_ hpan)
 rintro x cfr3 K3 ⟨fr3,st3,E3,t1,s1,rfl,⟨nt,u,rfl⟩,g2,g3,g4,g5,g6⟩
 have t1':TR (prZ H sl) (prK H sl) (some (H.nx+3)) (fun _=>False) K3 ⟨nt,[(u,59,(oR sl 0).2.2),(u,26,nC 1 (nowT ts 0).line [] 0 (.s (.row 5 [])))]⟩ (prG H) cfr3 E3:=by
  refine { t1 with frm:=fun t=> ?_ }
  match t with
  | 0=>exact .bad
  | 1=>exact .bad
  | 2=>have:=t1.frm 2;rw[g2] at this;exact this
  | 3=>have:=t1.frm 3;rw[g3] at this;exact this
  | 4=>have:=t1.frm 4;rw[g4] at this;exact this
  | 5=>have:=t1.frm 5;rw[g5] at this;exact this
  | 6=>have:=t1.frm 6;rw[g6] at this;exact this
  | n+7=>exact .bad
 show WxR (tblG Tryz.prog LG GG) pX (.seq prP.2.2.2.1 prP.2.2.2.2) cfr3 K3 _ _
 refine wxR_seq ((twR_sound dt_ok t1' (pr_tL C (fun m _=>pall C m) top_gd fun e he=>⟨e,he,rfl⟩)).mono ?_ hpan)
 rintro x cfr4 K4 ⟨fr4,st4,E4,t2,s2,rfl,⟨l,j,nt2,u1,u2,c,⟨hgr,hht⟩,hacc,rfl⟩,g2,g3,g4,g6⟩
 have hp : ∀t l,fr4 t=rS (pP l)→cfr4 t=pP l:=fun t l e=>by
  have:=t2.frm t
  rw[e] at this
  exact raw_rel this rfl
 have hhid : ∀b,b<H.nx+4∧b≠H.nx+3→E4.hid b:=fun b hb=>s2.hid b (s1.hid b hb)
 have hr0:E4.ρ 0=some (H.nx+3):=s2.rho _ _ (s1.rho _ _ rfl)
 obtain⟨b,os,hb1,hb2,hb3⟩:=t2.obs 1 _ _ _ rfl
 have h6:cfr4 6=pP b:=by
  have:=t2.frm 6
  rw[g6] at this
  obtain⟨b',q1,q2⟩:=this.ptr_inv
  rw[hb1] at q1;cases q1
  exact q2
 obtain⟨hbn,hbk,_⟩:=t2.rho 1 b hb1
 have hne3:b≠H.nx+3:=fun e=>by
  have:=t2.rinj 0 1 b (by rw[hr0,e]) hb1
  cases this
 have hb4:H.nx+4≤b:=by
  rcases hbk with q | q
  ·rw[prK_nx] at q;exact q
  ·injection q with q;exact absurd q.symm hne3
 have hnx:=t2.nx
 rw[prK_nx] at hnx
 have hfz : ∀b,Frz K4 E4 b→H.nx+4≤b∧b<K4.nx:=fun b ⟨f1,f2,f3,f4⟩=>by
  have:b≠H.nx+3:=fun e=>f4 0 (by rw[hr0,e])
  have f2 : ¬(b<H.nx+4∧b≠H.nx+3):=fun q=>f2 (hhid b q)
  exact⟨by omega,f1⟩
 have hkeep : ∀b,b<H.nx+3→K4.ob b=(prK H sl).ob b:=fun b hb=>t2.keep b (by rw[prK_nx];omega) (fun e=>by injection e;omega) id
 have hw : ∀w,CVR K4 E4 c w→SVR K4 (fun b=>H.nx+4≤b∧b<K4.nx) (.row 5 (ndsS l)) w:=fun w hc=>by
  rcases hacc with ⟨rfl,rfl⟩ | ⟨t,rfl⟩
  ·cases hc with
   | s h=>exact h.mv fun b hb=>⟨hfz b hb,rfl⟩
  ·exact own_row hc hfz fun b hb=>⟨by have:=(t2.sig t b hb).1;rw[prK_nx] at this;exact this,(t2.sig t b hb).2.1⟩
 have hty : ∀w,CVR K4 E4 c w→∀b n c',w= .slice (some ⟨b,0,none⟩) n c'→b<K4.nx∧H.nx+4≤b∧∃cs kd,K4.ob b= .cells cs 26 kd:=fun w hc b n c' ew=>by
  subst ew
  rcases hacc with ⟨rfl,rfl⟩ | ⟨t,rfl⟩
  ·cases hc with
   | s h=>cases h with | row hne _ _ _ _ _=>exact absurd rfl hne.1
  ·generalize ndsS l=gs at hc
   cases hc with
   | own hne hb ho hk hg hs=>exact⟨(t2.sig t b hb).2.1,by have:=(t2.sig t b hb).1;rw[prK_nx] at this;exact this,_,_,ho⟩
 cases hb3 with | cons a1 hb3=>
 cases hb3 with | cons a2 hb3=>
 cases hb3 with | cons a3 hb3=>
 cases hb3 with | cons a4 hb3=>
 cases hb3 with | cons a5 hb3=>
 cases hb3
 have e1:=cS_inv a1
 have e2:=cS_inv a2
 have e3:=cS_inv a3
 have e4:=cS_inv a4
 subst e1 e2 e3 e4
 refine .inl ((pr_rest (H:=H) (hp 2 _ g2) (hp 3 _ g3) (hp 4 _ g4) h6 ((hkeep _ (by omega)).trans prK_2) ((hkeep _ (by omega)).trans prK_3) ((hkeep _ (by omega)).trans prK_4) hb2 hnx hbn hb4 (hw _ a5) (by omega) (fun b hb=>(hkeep b (by omega)).trans (prK_old hb)) (hty _ a5)).mono fun x fr' K' ⟨q1,vs,q2,q3,q4⟩=>⟨.inr q1,vs,?_,vs,rfl,?_,q4⟩)
 ·rw[pr_res];exact q2
 ·have ht:parseT ts=if 60<htL l+1 then (zNd,0,11) else (nd 1 (hdLine (nowT ts 0).line l) l,0,0):=by unfold parseT;rw[hgr]
  rw[ht]
  by_cases h60:60<htL l+1
  ·rw[if_pos h60,if_pos h60] at q3
   rw[if_pos h60]
   exact q3
  ·rw[if_neg h60,if_neg h60] at q3
   rw[if_neg h60]
   exact q3
end Can
end Go.Proofs.YtdfgkcoenagaaaaGreat
end
section
namespace Go.Proofs.YtdfgkcoenagaaaaGreat
namespace Can
open Go Go.RowKit
set_option linter.unusedSimpArgs false
set_option linter.unusedVariables false
set_option maxRecDepth 4000
def bsV (l:List UInt8):List Value:=l.map fun b=> .int .u8 b.toNat
def ptT (t:Tok):PT:=⟨t.kind,t.line,t.text⟩
theorem tokV_pt(t:Tok):tokV (ptT t)=tokC t:=rfl
theorem ptT_flat : ∀ts:List Tok,(ts.map ptT).flatMap tokV=ts.flatMap tokC
 | []=>rfl
 | t::ts=>by rw[List.map_cons,List.flatMap_cons,List.flatMap_cons,ptT_flat ts,tokV_pt]
theorem grw_pt{A K:CH}{v:Value}{ts:List Tok}(h:Grw A 65 3 tokC K v ts):Grw A 65 3 tokV K v (ts.map ptT):=by
 rcases h with ⟨rfl,rfl⟩ | ⟨b,kd,rfl,h1,h2,h3,h4⟩
 ·exact .inl ⟨rfl,rfl⟩
 ·exact .inr ⟨b,kd,by rw[List.length_map],h1,h2,by rw[ptT_flat];exact h3,h4⟩
def sourceT(src:List UInt8):Nd×Int×Int:=match lexT src with
 | .ok ts=>parseT (ts.map ptT)
 | .error y=>(zNd,y.1,y.2)
theorem slat_bs{H:CH}{p:Nat}{src:List UInt8}{e:TypeId}{k:Kd}(hp:p<H.nx)(h:H.ob p= .cells (bsV src) e k)(hl:src.length≤maxLen):SlAt 1 (CInt .u8) H (some ⟨p,0,none⟩) src.length (u8i src):=by
 refine .inr ⟨p,0,_,e,k,rfl,hp,by rw[u8i_len];exact Nat.le_refl _,hl,h,by rw[u8i_len];simp[bsV],fun i hi=> ?_⟩
 rw[u8i_len] at hi
 have e1:(bsV src).drop (0+i*1)= .int .u8 (src[i].toNat:Nat)::(bsV src).drop (i+1):=by
  rw[Nat.zero_add,Nat.mul_one,List.drop_eq_getElem_cons (by simpa[bsV] using hi)]
  simp[bsV]
 refine⟨?_,?_⟩
 ·rw[e1]
  simp[u8i]
 ·have:=src[i].toNat_lt
  simp only[u8i,List.getElem_map]
  show decide _=true
  have e2:IntKind.u8.max=255:=by decide
  simp[Lit.wf,e2]
  omega
end Can
end Go.Proofs.YtdfgkcoenagaaaaGreat
end
section
namespace Go.Proofs.YtdfgkcoenagaaaaGreat
namespace Can
open Go Go.RowKit
set_option linter.unusedSimpArgs false
set_option linter.unusedVariables false
variable {P:Program}
abbrev Spec:=FuncId→List Value→CH→Value→CH→Prop
open Classical in
noncomputable def tell(P:Program)(S:Spec)(f:FuncId)(args:List Value)(H:CH):Option (Value×CH):=
 if h : ∃r:Value×CH,S f args H r.1 r.2∧∀B,CallC P B f args H r.1 r.2 then some h.choose else none
noncomputable def tblS(P:Program)(L:List FuncId)(G:FuncId→List Value→Option Value)(LS:List FuncId)(S:Spec):Tbl:=
 ⟨resFunc P (fun N ops=>resD P N ops),resLoop P (fun N ops=>resD P N ops),fun f=>LS.elem f||L.elem f,⟨fun f args H=>if LS.elem f then tell P S f args H else (G f args).map fun v=>(v,H),fun _ _ _=>none⟩⟩
theorem tblS_ok{B:Nat}{L:List FuncId}{G:FuncId→List Value→Option Value}{LS:List FuncId}{S:Spec}(hG : ∀f args v,G f args=some v→PureOk P f args v):TblOk P B (tblS P L G LS S):=by
 refine⟨(tblG_ok (B:=B) (L:=L) hG).fn,(tblG_ok (B:=B) (L:=L) hG).loop,⟨fun f args H v H' h=> ?_,fun l args H v H' h=>(by cases h)⟩⟩
 have h':(if LS.elem f then tell P S f args H else (G f args).map fun v=>(v,H))=some (v,H'):=h
 split at h'
 ·unfold tell at h'
  split at h'
  ·rename_i hx
   have hc:=hx.choose_spec.2 B
   rw[Option.some.inj h'] at hc
   exact .inl ⟨hc.1,hc.2⟩
  ·cases h'
 ·exact(tblG_ok (B:=B) (L:=L) hG).ext.1 f args H v H' h'
theorem wpF_tell{L:List FuncId}{G:FuncId→List Value→Option Value}{LS:List FuncId}{S:Spec}{f:FuncId}(hf:LS.elem f=true){args:List Value}{H:CH}{Q:Value→CH→Prop}(h : ∃v H',S f args H v H'∧∀B,CallC P B f args H v H')(hQ : ∀v H',S f args H v H'→Q v H'):WpF (tblS P L G LS S) f args H Q:=by
 obtain⟨v,H',h1,h2⟩:=h
 have hx : ∃r:Value×CH,S f args H r.1 r.2∧∀B,CallC P B f args H r.1 r.2:=⟨(v,H'),h1,h2⟩
 refine⟨1,hx.choose.1,hx.choose.2,?_,hQ _ _ hx.choose_spec.1⟩
 simp only[evFn,evH]
 have he:(tblS P L G LS S).ext f=true:=by show(LS.elem f||L.elem f)=true;rw[hf];rfl
 rw[if_pos he]
 show(if LS.elem f then tell P S f args H else (G f args).map fun v=>(v,H))=_
 rw[if_pos hf]
 unfold tell
 rw[dif_pos hx]
theorem wpF_GS{L:List FuncId}{G:FuncId→List Value→Option Value}{LS:List FuncId}{S:Spec}{f:FuncId}{args:List Value}{v:Value}(hs:LS.elem f=false)(hf:L.elem f=true)(hv:G f args=some v){H:CH}{Q:Value→CH→Prop}:WpF (tblS P L G LS S) f args H Q↔Q v H:=by
 have hev : ∀n,evFn (tblS P L G LS S) (n+1) f args H=some (v,H):=fun n=>by
  simp only[evFn,evH]
  have he:(tblS P L G LS S).ext f=true:=by show(LS.elem f||L.elem f)=true;rw[hf,hs];rfl
  rw[if_pos he]
  show(if LS.elem f then tell P S f args H else (G f args).map fun v=>(v,H))=_
  rw[if_neg (by rw[hs];decide),hv];rfl
 constructor
 ·rintro⟨n,u,H',h1,h2⟩
  cases n with
  | zero=>simp[evFn,evH] at h1
  | succ n=>rw[hev n] at h1;cases h1;exact h2
 ·exact fun h=>⟨1,v,H,hev 0,h⟩
theorem tbS_fn{L:List FuncId}{G:FuncId→List Value→Option Value}{LS:List FuncId}{S:Spec}{f:Nat}(h:(resFunc P (fun N ops=>resD P N ops) f).isSome=true):(tblS P L G LS S).fn f=some (rF P f):=by
 unfold rF
 show resFunc P (fun N ops=>resD P N ops) f=some ((resFunc P (fun N ops=>resD P N ops) f).getD ⟨0,[], .skip⟩)
 cases hr:resFunc P (fun N ops=>resD P N ops) f with
 | none=>rw[hr] at h;cases h
 | some r=>rfl
theorem wpF_rS{L:List FuncId}{G:FuncId→List Value→Option Value}{LS:List FuncId}{S:Spec}{f:Nat}(he:(LS.elem f||L.elem f)=false)(h:(resFunc P (fun N ops=>resD P N ops) f).isSome=true){args:List Value}{H:CH}{Q:Value→CH→Prop}(k:WpR (tblS P L G LS S) (rF P f).body (fun t=>args.getD t undef) H (FunK (rF P f).res Q)):WpF (tblS P L G LS S) f args H Q:=
 wpF_in he (tbS_fn h) k
theorem tell_wp{T:Tbl}(hT : ∀B,TblOk P B T){f:FuncId}{args:List Value}{H:CH}{Q:Value→CH→Prop}(hc:callable P f=true)(h:WpF T f args H Q) : ∃v H',Q v H'∧∀B,CallC P B f args H v H':=by
 obtain⟨n,v,H',h1,h2⟩:=h
 exact⟨v,H',h2,fun B=>⟨hc,fun β w args' hS ha=>callsIn_wide.2 (calls_of_ev (hT B) h1 hS ha hc)⟩⟩
end Can
end Go.Proofs.YtdfgkcoenagaaaaGreat
end
