/- Flow: what an instruction's fields are for; the calls that are told by evaluation. -/
import Derived.Test.YtapcoeecjlkdgaaCanPu
import Derived.Test.YtapcoeecjlkdgaaChecked
namespace Go.Proofs.Ytapcoeecjlkdgaa
namespace Can
open Go Go.RowKit
set_option linter.unusedSimpArgs false
set_option linter.unusedVariables false
set_option maxRecDepth 4000
/-- The flags of the operations, 0 to 44: bit 1: D, 2: A, 3: B, 4: T, 5 to 9: of L. -/
def tabF : List Nat := [0, 1024, 32770, 2050, 6, 2, 4098, 4100, 4096, 2, 6, 12, 4, 8194, 32782, 32774, 32782, 6, 16, 20, 20, 38, 4102, 4108, 14, 140, 12, 262, 34, 34, 34, 66, 12, 12, 4100, 36, 16898, 4130, 6, 22, 6, 4, 4, 14, 32770]
def knF (op : Int) : Bool := decide (0 ≤ op ∧ op ≤ 44)
def fb (n : Nat) (op : Int) : Bool := knF op && (tabF.getD op.toNat 0).testBit n
def rlF (op : Int) : Int := if fb 5 op then -2 else if fb 6 op then -3 else if fb 7 op then 1 else if fb 8 op then 2 else if fb 9 op then -4 else -1
def rkF (op : Int) : Int := if fb 10 op then 1 else if fb 11 op then 2 else if fb 12 op then 3 else if fb 13 op then 4 else if fb 14 op then 5 else if fb 15 op then 10 else 0
def loF (op : Int) : Int := if op = 14 ∨ op = 15 ∨ op = 16 then 1 else 0
def hiF (op : Int) : Int := if op = 2 then 2 else if op = 14 then 7 else if op = 15 then 2 else if op = 16 then 10 else if op = 44 then 34 else 0
/-- Is L named? -/
def fL (op : Int) : Bool := decide (rlF op ≠ -1)
/-- May it take memory? -/
def alF (op : Int) : Bool := knF op && !([0, 1, 2, 5, 18] : List Int).elem op
theorem fb_out {n : Nat} {op : Int} (h : ¬ (0 ≤ op ∧ op ≤ 44)) : fb n op = false := by simp [fb, knF, h]
noncomputable def rowV (op : Int) : Value := .agg #[.bool (knF op), .bool (fb 1 op), .bool (fb 2 op), .bool (fb 3 op), .bool (fb 4 op), .int .i64 (rlF op), .int .i64 (rkF op), .int .i64 (loF op), .int .i64 (hiF op)]
def flV (op : Int) : Int := if knF op then (tabF.getD op.toNat 0 : Nat) + 1 else 0
noncomputable def atV (f : FuncId) (v : Int → Value) (n : Nat) : Bool := match runC Try.prog 6 f [.int .i64 n] with
  | some u => eqV u (v n)
  | none => false
theorem row_tab : (List.range 45).all (atV 31 rowV) = true := by kernel_rfl
theorem fl_tab : (List.range 45).all (atV 37 fun op => .int .i64 (flV op)) = true := by kernel_rfl
theorem al_tab : (List.range 45).all (atV 25 fun op => .bool (alF op)) = true := by kernel_rfl
theorem ral_tab : (List.range 45).all (atV 17 fun op => .bool (alF op)) = true := by kernel_rfl
theorem wp_tab {f : FuncId} {v : Int → Value} (h : (List.range 45).all (atV f v) = true) {op : Int} (ho : 0 ≤ op ∧ op ≤ 44) : WpF (tbl Try.prog) f [.int .i64 op] noH fun u _ => u = v op := by
  have h1 := List.all_eq_true.1 h op.toNat (List.mem_range.2 (by omega))
  have e : ((op.toNat : Nat) : Int) = op := by omega
  unfold atV at h1
  rw [e] at h1
  split at h1
  · rename_i u hu
    have := wpF_runC hu
    rw [eqV_ok h1] at this
    exact this
  · cases h1
theorem row_out {op : Int} (h : ¬ (0 ≤ op ∧ op ≤ 44)) : WpF (tbl Try.prog) 31 [.int .i64 op] noH fun u _ => u = rowV op := by
  have e : rowV op = .agg #[.bool false, .bool false, .bool false, .bool false, .bool false, .int .i64 (-1), .int .i64 0, .int .i64 0, .int .i64 0] := by
    have h2 : knF op = false := by simp [knF, h]
    simp only [rowV, rlF, rkF, loF, hiF, fb_out h, h2]
    simp only [Bool.false_eq_true, if_false]
    rw [if_neg (by omega), if_neg (by omega), if_neg (by omega), if_neg (by omega), if_neg (by omega), if_neg (by omega)]
  rw [e]
  refine wpF_rF (by kernel_rfl) ?_; (conv in (rF _ _).body => reduce); (conv in (rF _ _).res => reduce)
  repeat' (first | (simp (disch := first | omega | (decide +kernel) | (repeat (first | assumption | exact HExt.refl _ | (refine HExt.set ?_ (by first | omega | (simp only [new_nx, set_nx]; omega)) _) | (refine HExt.new ?_ _)))) only [↓RD, RU, accW_t, accW_f, isW, ↓putF_get, ↓putF_none, ↓evF_t, ↓evF_c, ↓evF_f, new_nx, set_nx, new_get, set_get, getD_zero, getD_succ, u_not, pop, lop, aop, wop, resL, resV, tupleV, akV, isVal, isCell, Value.cells, List.map_cons, List.map_nil, Bool.not_true, Bool.not_false, Option.map_some, ↓reduceIte, Nat.reduceEqDiff, Nat.reduceAdd, Int.reduceOfNat, Int.reduceNegSucc, reduceCtorEq, List.getElem?_cons_zero, List.getElem?_cons_succ, List.length_cons, List.length_nil, srcR_c, src_n, src_v, src_s, bnd, lenV, capV, Option.isSome_none, Option.isNone_none, Option.isSome_some, Option.isNone_some, Bool.true_or, Bool.false_or, List.take_succ_cons, List.take_zero, List.drop_succ_cons, List.drop_zero, List.cons_append, List.nil_append, List.drop_nil, List.all_cons, List.all_nil, Bool.true_and, Kd.isRo, List.size_toArray, List.toList_toArray, bldV, Nat.reduceLeDiff, Int.reduceMul, Int.reduceAdd, Int.reduceSub, Int.reduceToNat, maxLen_eq, zeros_one, appS_some, appV_n, appV_v, appH_t, appH_f, Kd.isEx, Bool.false_and, partV, Nat.add_zero, Int.toNat_natCast]) | (with_reducible refine condK_dec (fun _ => ?_) (fun _ => ?_)) | (with_reducible refine grd_dec (fun _ => ?_) (fun _ => ?_)) | (with_reducible refine egrd_dec (fun _ => ?_) (fun _ => ?_)))
theorem fl_out {op : Int} (h : ¬ (0 ≤ op ∧ op ≤ 44)) : WpF (tbl Try.prog) 37 [.int .i64 op] noH fun u _ => u = .int .i64 (flV op) := by
  have e : flV op = 0 := by have h2 : knF op = false := by simp [knF, h]
                            simp [flV, h2]
  rw [e]
  refine wpF_rF (by kernel_rfl) ?_; (conv in (rF _ _).body => reduce); (conv in (rF _ _).res => reduce)
  repeat' (first | (simp (disch := first | omega | (decide +kernel) | (repeat (first | assumption | exact HExt.refl _ | (refine HExt.set ?_ (by first | omega | (simp only [new_nx, set_nx]; omega)) _) | (refine HExt.new ?_ _)))) only [↓RD, RU, accW_t, accW_f, isW, ↓putF_get, ↓putF_none, ↓evF_t, ↓evF_c, ↓evF_f, new_nx, set_nx, new_get, set_get, getD_zero, getD_succ, u_not, pop, lop, aop, wop, resL, resV, tupleV, akV, isVal, isCell, Value.cells, List.map_cons, List.map_nil, Bool.not_true, Bool.not_false, Option.map_some, ↓reduceIte, Nat.reduceEqDiff, Nat.reduceAdd, Int.reduceOfNat, Int.reduceNegSucc, reduceCtorEq, List.getElem?_cons_zero, List.getElem?_cons_succ, List.length_cons, List.length_nil, srcR_c, src_n, src_v, src_s, bnd, lenV, capV, Option.isSome_none, Option.isNone_none, Option.isSome_some, Option.isNone_some, Bool.true_or, Bool.false_or, List.take_succ_cons, List.take_zero, List.drop_succ_cons, List.drop_zero, List.cons_append, List.nil_append, List.drop_nil, List.all_cons, List.all_nil, Bool.true_and, Kd.isRo, List.size_toArray, List.toList_toArray, bldV, Nat.reduceLeDiff, Int.reduceMul, Int.reduceAdd, Int.reduceSub, Int.reduceToNat, maxLen_eq, zeros_one, appS_some, appV_n, appV_v, appH_t, appH_f, Kd.isEx, Bool.false_and, partV, Nat.add_zero, Int.toNat_natCast]) | (with_reducible refine condK_dec (fun _ => ?_) (fun _ => ?_)) | (with_reducible refine grd_dec (fun _ => ?_) (fun _ => ?_)) | (with_reducible refine egrd_dec (fun _ => ?_) (fun _ => ?_)))
theorem kn_out {op : Int} (h : ¬ (0 ≤ op ∧ op ≤ 44)) : knF op = false := by simp [knF, h]
theorem al_out {op : Int} (h : ¬ (0 ≤ op ∧ op ≤ 44)) : alF op = false := by simp [alF, kn_out h]
theorem fl_pure (op : Int) : PureOk Try.prog 37 [.int .i64 op] (.int .i64 (flV op)) := by
  refine pure_of (fun B => tbl_ok) (by kernel_rfl) rfl rfl ?_
  by_cases h : 0 ≤ op ∧ op ≤ 44
  · exact wp_tab (v := fun op => .int .i64 (flV op)) fl_tab h
  · exact fl_out h
theorem row_pure (op : Int) : PureOk Try.prog 31 [.int .i64 op] (rowV op) := by
  refine pure_of (fun B => tbl_ok) (by kernel_rfl) rfl rfl ?_
  by_cases h : 0 ≤ op ∧ op ≤ 44
  · exact wp_tab row_tab h
  · exact row_out h
/-- A first table: for those that call these. -/
def L0 : List FuncId := [31, 37]
noncomputable def G0 (f : FuncId) (args : List Value) : Option Value := match args with
  | [.int .i64 op] => if f = 31 then some (rowV op) else if f = 37 then some (.int .i64 (flV op)) else none
  | _ => none
theorem G0_ok : ∀ f args v, G0 f args = some v → PureOk Try.prog f args v := by
  intro f args v h
  unfold G0 at h
  split at h
  · split at h
    · rename_i e; subst e; cases h; exact row_pure _
    · split at h
      · rename_i e; subst e; cases h; exact fl_pure _
      · cases h
  · cases h
theorem row0 {op : Int} {H : CH} {Q : Value → CH → Prop} : WpF (tblG Try.prog L0 G0) 31 [.int .i64 op] H Q ↔ Q (rowV op) H := wpF_G (by rfl) (by rfl)
theorem fl0 {op : Int} {H : CH} {Q : Value → CH → Prop} : WpF (tblG Try.prog L0 G0) 37 [.int .i64 op] H Q ↔ Q (.int .i64 (flV op)) H := wpF_G (by rfl) (by rfl)
theorem al_pure (op : Int) : PureOk Try.prog 25 [.int .i64 op] (.bool (alF op)) := by
  by_cases h : 0 ≤ op ∧ op ≤ 44
  · exact pure_of (fun B => tbl_ok) (by kernel_rfl) rfl rfl (wp_tab (v := fun op => .bool (alF op)) al_tab h)
  · refine pure_of (T := tblG Try.prog L0 G0) (fun B => tblG_ok G0_ok) (by kernel_rfl) rfl rfl ?_
    rw [al_out h]
    have e : flV op = 0 := by simp [flV, kn_out h]
    refine wpF_rG (by rfl) (by kernel_rfl) ?_; (conv in (rF _ _).body => reduce); (conv in (rF _ _).res => reduce)
    repeat' (first | (simp (disch := first | omega | (decide +kernel) | (repeat (first | assumption | exact HExt.refl _ | (refine HExt.set ?_ (by first | omega | (simp only [new_nx, set_nx]; omega)) _) | (refine HExt.new ?_ _)))) only [↓RD, RU, accW_t, accW_f, isW, ↓putF_get, ↓putF_none, ↓evF_t, ↓evF_c, ↓evF_f, new_nx, set_nx, new_get, set_get, getD_zero, getD_succ, u_not, pop, lop, aop, wop, resL, resV, tupleV, akV, isVal, isCell, Value.cells, List.map_cons, List.map_nil, Bool.not_true, Bool.not_false, Option.map_some, ↓reduceIte, Nat.reduceEqDiff, Nat.reduceAdd, Int.reduceOfNat, Int.reduceNegSucc, reduceCtorEq, List.getElem?_cons_zero, List.getElem?_cons_succ, List.length_cons, List.length_nil, srcR_c, src_n, src_v, src_s, bnd, lenV, capV, Option.isSome_none, Option.isNone_none, Option.isSome_some, Option.isNone_some, Bool.true_or, Bool.false_or, List.take_succ_cons, List.take_zero, List.drop_succ_cons, List.drop_zero, List.cons_append, List.nil_append, List.drop_nil, List.all_cons, List.all_nil, Bool.true_and, Kd.isRo, List.size_toArray, List.toList_toArray, bldV, Nat.reduceLeDiff, Int.reduceMul, Int.reduceAdd, Int.reduceSub, Int.reduceToNat, maxLen_eq, zeros_one, appS_some, appV_n, appV_v, appH_t, appH_f, Kd.isEx, Bool.false_and, partV, Nat.add_zero, Int.toNat_natCast, fl0, e]) | (with_reducible refine condK_dec (fun _ => ?_) (fun _ => ?_)) | (with_reducible refine grd_dec (fun _ => ?_) (fun _ => ?_)) | (with_reducible refine egrd_dec (fun _ => ?_) (fun _ => ?_)))
theorem ral_pure (op : Int) : PureOk Try.prog 17 [.int .i64 op] (.bool (alF op)) := by
  by_cases h : 0 ≤ op ∧ op ≤ 44
  · exact pure_of (fun B => tbl_ok) (by kernel_rfl) rfl rfl (wp_tab (v := fun op => .bool (alF op)) ral_tab h)
  · refine pure_of (T := tblG Try.prog L0 G0) (fun B => tblG_ok G0_ok) (by kernel_rfl) rfl rfl ?_
    rw [al_out h]
    refine wpF_rG (by rfl) (by kernel_rfl) ?_; (conv in (rF _ _).body => reduce); (conv in (rF _ _).res => reduce)
    repeat' (first | (simp (disch := first | omega | (decide +kernel) | (repeat (first | assumption | exact HExt.refl _ | (refine HExt.set ?_ (by first | omega | (simp only [new_nx, set_nx]; omega)) _) | (refine HExt.new ?_ _)))) only [↓RD, RU, accW_t, accW_f, isW, ↓putF_get, ↓putF_none, ↓evF_t, ↓evF_c, ↓evF_f, new_nx, set_nx, new_get, set_get, getD_zero, getD_succ, u_not, pop, lop, aop, wop, resL, resV, tupleV, akV, isVal, isCell, Value.cells, List.map_cons, List.map_nil, Bool.not_true, Bool.not_false, Option.map_some, ↓reduceIte, Nat.reduceEqDiff, Nat.reduceAdd, Int.reduceOfNat, Int.reduceNegSucc, reduceCtorEq, List.getElem?_cons_zero, List.getElem?_cons_succ, List.length_cons, List.length_nil, srcR_c, src_n, src_v, src_s, bnd, lenV, capV, Option.isSome_none, Option.isNone_none, Option.isSome_some, Option.isNone_some, Bool.true_or, Bool.false_or, List.take_succ_cons, List.take_zero, List.drop_succ_cons, List.drop_zero, List.cons_append, List.nil_append, List.drop_nil, List.all_cons, List.all_nil, Bool.true_and, Kd.isRo, List.size_toArray, List.toList_toArray, bldV, Nat.reduceLeDiff, Int.reduceMul, Int.reduceAdd, Int.reduceSub, Int.reduceToNat, maxLen_eq, zeros_one, appS_some, appV_n, appV_v, appH_t, appH_f, Kd.isEx, Bool.false_and, partV, Nat.add_zero, Int.toNat_natCast, row0, rowV, kn_out h]) | (with_reducible refine condK_dec (fun _ => ?_) (fun _ => ?_)) | (with_reducible refine grd_dec (fun _ => ?_) (fun _ => ?_)) | (with_reducible refine egrd_dec (fun _ => ?_) (fun _ => ?_)))
def LG : List FuncId := [31, 37, 25, 17, 8]
noncomputable def GG (f : FuncId) (args : List Value) : Option Value := match args with
  | [.int .i64 op] => if f = 31 then some (rowV op) else if f = 37 then some (.int .i64 (flV op)) else if f = 25 then some (.bool (alF op)) else if f = 17 then some (.bool (alF op)) else none
  | [] => if f = 8 then some (.bool true) else none
  | _ => none
theorem known_run : runC Try.prog 12 8 [] = some (.bool true) := by kernel_rfl
theorem GG_ok : ∀ f args v, GG f args = some v → PureOk Try.prog f args v := by
  intro f args v h
  unfold GG at h
  split at h
  · split at h
    · rename_i e; subst e; cases h; exact row_pure _
    · split at h
      · rename_i e; subst e; cases h; exact fl_pure _
      · split at h
        · rename_i e; subst e; cases h; exact al_pure _
        · split at h
          · rename_i e; subst e; cases h; exact ral_pure _
          · cases h
  · split at h
    · rename_i e; subst e; cases h; exact pure_of (fun B => tbl_ok) (by kernel_rfl) rfl rfl (wpF_runC known_run)
    · cases h
  · cases h
theorem tg_ok {B : Nat} : TblOk Try.prog B (tblG Try.prog LG GG) := tblG_ok GG_ok
section
variable {op : Int} {H : CH} {Q : Value → CH → Prop}
theorem row_iff : WpF (tblG Try.prog LG GG) 31 [.int .i64 op] H Q ↔ Q (rowV op) H := wpF_G (by rfl) (by rfl)
theorem fl_iff : WpF (tblG Try.prog LG GG) 37 [.int .i64 op] H Q ↔ Q (.int .i64 (flV op)) H := wpF_G (by rfl) (by rfl)
theorem al_iff : WpF (tblG Try.prog LG GG) 25 [.int .i64 op] H Q ↔ Q (.bool (alF op)) H := wpF_G (by rfl) (by rfl)
theorem ral_iff : WpF (tblG Try.prog LG GG) 17 [.int .i64 op] H Q ↔ Q (.bool (alF op)) H := wpF_G (by rfl) (by rfl)
theorem known_iff : WpF (tblG Try.prog LG GG) 8 [] H Q ↔ Q (.bool true) H := wpF_G (by rfl) (by rfl)
end
end Can
end Go.Proofs.Ytapcoeecjlkdgaa
