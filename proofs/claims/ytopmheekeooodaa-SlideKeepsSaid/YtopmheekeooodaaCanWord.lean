/- Words: what the functions of package word and of its reference compute, as canonical runs. -/
import Derived.Test.YtopmheekeooodaaCanRun
import Derived.Test.YtopmheekeooodaaChecked
import Derived.Test.YtopmheekeooodaaPuK
namespace Go.Proofs.Ytopmheekeooodaa
namespace Can
open Go Go.RowKit
set_option linter.unusedSimpArgs false
set_option linter.unusedVariables false
set_option maxRecDepth 4000
/-- The signed number of a word. -/
def sgn (a : Int) : Int := if a < 9223372036854775808 then a else a - 18446744073709551616
def okA (a : Int) : Bool := decide (1 ≤ a ∧ a < 1048576)
def okN (a : Int) : Bool := decide (-999999999999999999 ≤ a ∧ a ≤ 999999999999999999)
def okC (a : Int) : Bool := decide (0 ≤ a ∧ a ≤ 3)
def kindF (a : Int) : Int :=
  if a % 4 = 0 then (if okA (a / 4) then 0 else 3)
  else if a % 4 = 1 then (if okN (sgn a / 4) then 1 else 3)
  else if a % 4 = 2 then (if okC (a / 4) then 2 else 3) else 3
def nAt (a : Int) : Int := if kindF a = 0 then a / 4 else 0
def eAt (a : Int) : Int := if kindF a = 0 then 0 else 9
theorem w_sgn {a : Int} (h0 : 0 ≤ a) (h1 : a < 18446744073709551616) : IntKind.i64.wrap a = sgn a := by
  rw [IntKind.wrap_i64]; unfold sgn; split <;> omega
theorem sgn_lo {a : Int} (h0 : 0 ≤ a) (h1 : a < 18446744073709551616) : -9223372036854775808 ≤ sgn a ∧ sgn a ≤ 9223372036854775807 := by unfold sgn; split <;> omega
theorem HExt.r {H : CH} : HExt H H := HExt.refl H
theorem kind_wp (w : Int) (H : CH) (h0 : 0 ≤ w) (h1 : w < 18446744073709551616) : WpF (tblG Try.prog LG GG) 24 [.int .u64 w] H fun v K => v = .int .i64 (kindF w) ∧ K = H := by
  have hs := sgn_lo h0 h1
  refine wpF_rG (by rfl) (by kernel_rfl) ?_; (conv in (rF _ _).body => reduce); (conv in (rF _ _).res => reduce)
  repeat' (first | (simp (disch := first | omega | (decide +kernel) | (repeat first | assumption | exact HExt.refl _ | refine HExt.set ?_ (by first | omega | (simp only [new_nx, set_nx]; omega)) _ | refine HExt.new ?_ _)) only [↓RD, RU, accW_t, accW_f, isW, ↓putF_get, ↓putF_none, ↓evF_t, ↓evF_c, ↓evF_f, new_nx, set_nx, new_get, set_get, getD_zero, getD_succ, u_not, pop, lop, aop, wop, resL, resV, tupleV, akV, isVal, isCell, Value.cells, ρ0, ρ1, ρ2, ρ3, ρ4, ↓reduceIte, Nat.reduceEqDiff, Nat.reduceAdd, Int.reduceOfNat, Int.reduceNegSucc, reduceCtorEq, ρ5, ρ6, ρ7, ρ8, srcR_c, src_n, src_v, src_s, bnd, lenV, capV, ρ9, ρ10, ρ11, ρ12, ρ13, ρ14, ρ15, ρ16, ρ17, ρ18, ρ19, ρ20, ρ21, ρ22, ρ23, ρ24, Kd.isRo, ρ25, ρ26, bldV, Nat.reduceLeDiff, Int.reduceMul, Int.reduceAdd, Int.reduceSub, Int.reduceToNat, maxLen_eq, zeros_one, appS_some, appV_n, appV_v, appH_t, appH_f, Kd.isEx, ρ27, partV, CH.set_set, lkV, lkR, isKey, mupV, nxtV, ρ28, ρ29, w_sgn]) | (with_reducible first | refine condK_dec (fun _ => ?_) fun _ => ?_ | refine grd_dec (fun _ => ?_) fun _ => ?_ | refine egrd_dec (fun _ => ?_) fun _ => ?_))
  all_goals (refine congrArg _ ?_; simp only [kindF, okA, okN, okC, decide_eq_true_eq]; (repeat' split) <;> first | rfl | omega)
theorem kind_iff {w : Int} {H : CH} {Q : Value → CH → Prop} (h0 : 0 ≤ w) (h1 : w < 18446744073709551616) : WpF (tblG Try.prog LG GG) 24 [.int .u64 w] H Q ↔ Q (.int .i64 (kindF w)) H := wpF_iff (kind_wp w H h0 h1)
theorem at_wp (w : Int) (H : CH) (h0 : 0 ≤ w) (h1 : w < 18446744073709551616) : WpF (tblG Try.prog LG GG) 25 [.int .u64 w] H fun v K => v = .tuple #[.int .i64 (nAt w), .int .i64 (eAt w)] ∧ K = H := by
  refine wpF_rG (by rfl) (by kernel_rfl) ?_; (conv in (rF _ _).body => reduce); (conv in (rF _ _).res => reduce)
  repeat' (first | (simp (disch := first | omega | (decide +kernel) | (repeat first | assumption | exact HExt.refl _ | refine HExt.set ?_ (by first | omega | (simp only [new_nx, set_nx]; omega)) _ | refine HExt.new ?_ _)) only [↓RD, RU, accW_t, accW_f, isW, ↓putF_get, ↓putF_none, ↓evF_t, ↓evF_c, ↓evF_f, new_nx, set_nx, new_get, set_get, getD_zero, getD_succ, u_not, pop, lop, aop, wop, resL, resV, tupleV, akV, isVal, isCell, Value.cells, ρ0, ρ1, ρ2, ρ3, ρ4, ↓reduceIte, Nat.reduceEqDiff, Nat.reduceAdd, Int.reduceOfNat, Int.reduceNegSucc, reduceCtorEq, ρ5, ρ6, ρ7, ρ8, srcR_c, src_n, src_v, src_s, bnd, lenV, capV, ρ9, ρ10, ρ11, ρ12, ρ13, ρ14, ρ15, ρ16, ρ17, ρ18, ρ19, ρ20, ρ21, ρ22, ρ23, ρ24, Kd.isRo, ρ25, ρ26, bldV, Nat.reduceLeDiff, Int.reduceMul, Int.reduceAdd, Int.reduceSub, Int.reduceToNat, maxLen_eq, zeros_one, appS_some, appV_n, appV_v, appH_t, appH_f, Kd.isEx, ρ27, partV, CH.set_set, lkV, lkR, isKey, mupV, nxtV, ρ28, ρ29, kind_iff]) | (with_reducible first | refine condK_dec (fun _ => ?_) fun _ => ?_ | refine grd_dec (fun _ => ?_) fun _ => ?_ | refine egrd_dec (fun _ => ?_) fun _ => ?_))
  all_goals (simp only [nAt, eAt]; (repeat' split) <;> first | rfl | omega)
theorem at_iff {w : Int} {H : CH} {Q : Value → CH → Prop} (h0 : 0 ≤ w) (h1 : w < 18446744073709551616) : WpF (tblG Try.prog LG GG) 25 [.int .u64 w] H Q ↔ Q (.tuple #[.int .i64 (nAt w), .int .i64 (eAt w)]) H := wpF_iff (at_wp w H h0 h1)
end Can
end Go.Proofs.Ytopmheekeooodaa
