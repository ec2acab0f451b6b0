/- The functions of package word and of its reference, each by what it computes. -/
import Derived.Test.YtmbddecfilaleaaRows
import Derived.WalkKit
import Derived.ProofKit
import Derived.OpenShut
import Derived.Lib.Hide
namespace Go.Proofs.Ytmbddecfilaleaa
open Go.ChangeShapes Go.WideShapes Go.ChangeAt Go.RowKit
set_option linter.unusedSimpArgs false
set_option linter.unusedVariables false

theorem ret_int {k : IntKind} {a b : Int} (h : a = b) : Ending.returned (.int k a) = .returned (.int k b) := by rw [h]
theorem ret_two {k l : IntKind} {a b c d : Int} (h : a = b) (g : c = d) : Ending.returned (.tuple #[.int k a, .int l c]) = .returned (.tuple #[.int k b, .int l d]) := by rw [h, g]

/-- The signed number of a word. -/
def sgn (a : Int) : Int := if a < 9223372036854775808 then a else a - 18446744073709551616
def okA (a : Int) : Bool := decide (1 ≤ a ∧ a < 1048576)
def okN (a : Int) : Bool := decide (-999999999999999999 ≤ a ∧ a ≤ 999999999999999999)
def okC (a : Int) : Bool := decide (0 ≤ a ∧ a ≤ 3)
def wAddr (a : Int) : Int := if okA a then 4 * a else 0
def eAddr (a : Int) : Int := if okA a then 0 else 1
def wSmall (a : Int) : Int := if okN a then (4 * a + 1) % 18446744073709551616 else 0
def eSmall (a : Int) : Int := if okN a then 0 else 7
def wConst (a : Int) : Int := if okC a then 4 * a + 2 else 0
def eConst (a : Int) : Int := if okC a then 0 else 1
def kindF (a : Int) : Int :=
  if a % 4 = 0 then (if okA (a / 4) then 0 else 3)
  else if a % 4 = 1 then (if okN (sgn a / 4) then 1 else 3)
  else if a % 4 = 2 then (if okC (a / 4) then 2 else 3) else 3
def nAt (a : Int) : Int := if kindF a = 0 then a / 4 else 0
def eAt (a : Int) : Int := if kindF a = 0 then 0 else 9
def nNum (a : Int) : Int := if kindF a = 1 then sgn a / 4 else 0
def eNum (a : Int) : Int := if kindF a = 1 then 0 else 9
def nWhich (a : Int) : Int := if kindF a = 2 then a / 4 else 0
def eWhich (a : Int) : Int := if kindF a = 2 then 0 else 9

theorem and3 (a : Int) (h0 : 0 ≤ a) (h1 : a < 18446744073709551616) : bits .and .u64 a 3 = a % 4 := by
  rw [u64_and a 3 h0 h1 (by omega) (by omega), show (3 : Int).toNat = 3 from rfl, nat_mask2]; omega
theorem or1 (a : Int) (h0 : 0 ≤ a) (h1 : a < 18446744073709551616) (h : a % 4 = 0) : bits .or .u64 a 1 = a + 1 := by
  rw [u64_or a 1 h0 h1 (by omega) (by omega), show (1 : Int).toNat = 1 from rfl, nat_join 2 a.toNat 1 (by omega) (by decide)]; omega
theorem or2 (a : Int) (h0 : 0 ≤ a) (h1 : a < 18446744073709551616) (h : a % 4 = 0) : bits .or .u64 a 2 = a + 2 := by
  rw [u64_or a 2 h0 h1 (by omega) (by omega), show (2 : Int).toNat = 2 from rfl, nat_join 2 a.toNat 2 (by omega) (by decide)]; omega
theorem wrap_sgn (a : Int) (h0 : 0 ≤ a) (h1 : a < 18446744073709551616) : wrap64 a = sgn a := by
  unfold sgn wrap64; split <;> omega

set_option maxHeartbeats 400000 in
theorem addr_any (a : Int) (w : World) (h0 : -9223372036854775808 ≤ a) (h1 : a < 9223372036854775808) :
    Calls Try.prog 10 #[.int .i64 a] w fun e w' => e = .returned (.tuple #[.int .u64 (wAddr a), .int .i64 (eAddr a)]) ∧ w' = w := by
  by_cases g0 : 1 ≤ a <;> by_cases g1 : a < 1048576
  all_goals
    go_enter Try.func10, Try.ntmps10
    go_wp2
    all_goals
      go_ret2
      refine ⟨ret_two ?_ ?_, rfl⟩ <;> (try simp only [IntKind.wrap_u64, wAddr, eAddr, okA, wSmall, eSmall, okN, wConst, eConst, okC, kindF, nAt, eAt, nNum, eNum, nWhich, eWhich, sgn, decide_eq_true_eq, beq_iff_eq, beq_eq_false_iff_ne, ne_eq] at *) <;> (repeat' split) <;> omega

set_option maxHeartbeats 400000 in
theorem raddr_any (a : Int) (w : World) (h0 : -9223372036854775808 ≤ a) (h1 : a < 9223372036854775808) :
    Calls Try.prog 11 #[.int .i64 a] w fun e w' => e = .returned (.tuple #[.int .u64 (wAddr a), .int .i64 (eAddr a)]) ∧ w' = w := by
  by_cases g0 : 1 ≤ a <;> by_cases g1 : a < 1048576
  all_goals
    go_enter Try.func11, Try.ntmps11
    go_wp2
    all_goals
      go_ret2
      refine ⟨ret_two ?_ ?_, rfl⟩ <;> (try simp only [IntKind.wrap_u64, wAddr, eAddr, okA, wSmall, eSmall, okN, wConst, eConst, okC, kindF, nAt, eAt, nNum, eNum, nWhich, eWhich, sgn, decide_eq_true_eq, beq_iff_eq, beq_eq_false_iff_ne, ne_eq] at *) <;> (repeat' split) <;> omega

set_option maxHeartbeats 400000 in
theorem const_any (a : Int) (w : World) (h0 : -9223372036854775808 ≤ a) (h1 : a < 9223372036854775808) :
    Calls Try.prog 13 #[.int .i64 a] w fun e w' => e = .returned (.tuple #[.int .u64 (wConst a), .int .i64 (eConst a)]) ∧ w' = w := by
  have hb : 0 ≤ a → a ≤ 3 → bits .or .u64 (a * 4) 2 = a * 4 + 2 := fun x y => or2 _ (by omega) (by omega) (by omega)
  by_cases g0 : 0 ≤ a <;> by_cases g1 : a ≤ 3
  all_goals
    go_enter Try.func13, Try.ntmps13
    go_wp2
    all_goals
      go_ret2
      refine ⟨ret_two ?_ ?_, rfl⟩ <;> (try simp only [IntKind.wrap_u64, wAddr, eAddr, okA, wSmall, eSmall, okN, wConst, eConst, okC, kindF, nAt, eAt, nNum, eNum, nWhich, eWhich, sgn, decide_eq_true_eq, beq_iff_eq, beq_eq_false_iff_ne, ne_eq] at *) <;> (repeat' split) <;> omega

set_option maxHeartbeats 400000 in
theorem rconst_any (a : Int) (w : World) (h0 : -9223372036854775808 ≤ a) (h1 : a < 9223372036854775808) :
    Calls Try.prog 14 #[.int .i64 a] w fun e w' => e = .returned (.tuple #[.int .u64 (wConst a), .int .i64 (eConst a)]) ∧ w' = w := by
  by_cases g0 : 0 ≤ a <;> by_cases g1 : a ≤ 3
  all_goals
    go_enter Try.func14, Try.ntmps14
    go_wp2
    all_goals
      go_ret2
      refine ⟨ret_two ?_ ?_, rfl⟩ <;> (try simp only [IntKind.wrap_u64, wAddr, eAddr, okA, wSmall, eSmall, okN, wConst, eConst, okC, kindF, nAt, eAt, nNum, eNum, nWhich, eWhich, sgn, decide_eq_true_eq, beq_iff_eq, beq_eq_false_iff_ne, ne_eq] at *) <;> (repeat' split) <;> omega

set_option maxHeartbeats 400000 in
theorem small_any (a : Int) (w : World) (h0 : -9223372036854775808 ≤ a) (h1 : a < 9223372036854775808) :
    Calls Try.prog 9 #[.int .i64 a] w fun e w' => e = .returned (.tuple #[.int .u64 (wSmall a), .int .i64 (eSmall a)]) ∧ w' = w := by
  have hb : bits .or .u64 (IntKind.u64.wrap (IntKind.u64.wrap a * 4)) 1 = IntKind.u64.wrap (IntKind.u64.wrap a * 4) + 1 := or1 _ (by rw [IntKind.wrap_u64]; omega) (by rw [IntKind.wrap_u64]; omega) (by rw [IntKind.wrap_u64]; omega)
  by_cases g0 : -999999999999999999 ≤ a <;> by_cases g1 : a ≤ 999999999999999999
  all_goals
    go_enter Try.func9, Try.ntmps9
    go_wp2
    all_goals
      go_ret2
      refine ⟨ret_two ?_ ?_, rfl⟩ <;> (try simp only [IntKind.wrap_u64, wAddr, eAddr, okA, wSmall, eSmall, okN, wConst, eConst, okC, kindF, nAt, eAt, nNum, eNum, nWhich, eWhich, sgn, decide_eq_true_eq, beq_iff_eq, beq_eq_false_iff_ne, ne_eq] at *) <;> (repeat' split) <;> omega

set_option maxHeartbeats 400000 in
theorem rsmall_any (a : Int) (w : World) (h0 : -9223372036854775808 ≤ a) (h1 : a < 9223372036854775808) :
    Calls Try.prog 12 #[.int .i64 a] w fun e w' => e = .returned (.tuple #[.int .u64 (wSmall a), .int .i64 (eSmall a)]) ∧ w' = w := by
  by_cases g0 : -999999999999999999 ≤ a <;> by_cases g1 : a ≤ 999999999999999999 <;> by_cases g2 : a < 0
  all_goals
    go_enter Try.func12, Try.ntmps12
    go_wp2
    all_goals
      go_ret2
      refine ⟨ret_two ?_ ?_, rfl⟩ <;> (try simp only [IntKind.wrap_u64, wAddr, eAddr, okA, wSmall, eSmall, okN, wConst, eConst, okC, kindF, nAt, eAt, nNum, eNum, nWhich, eWhich, sgn, decide_eq_true_eq, beq_iff_eq, beq_eq_false_iff_ne, ne_eq] at *) <;> (repeat' split) <;> omega

set_option maxHeartbeats 400000 in
theorem kind_any (a : Int) (w : World) (h0 : 0 ≤ a) (h1 : a < 18446744073709551616) :
    Calls Try.prog 15 #[.int .u64 a] w fun e w' => e = .returned (.int .i64 (kindF a)) ∧ w' = w := by
  have hb := and3 a h0 h1
  have hw := wrap_sgn a h0 h1
  go_enter Try.func15, Try.ntmps15
  go_wp2
  all_goals
    go_ret
    refine ⟨ret_int ?_, rfl⟩ <;> clear hb hw <;> (try simp only [IntKind.wrap_u64, wAddr, eAddr, okA, wSmall, eSmall, okN, wConst, eConst, okC, kindF, nAt, eAt, nNum, eNum, nWhich, eWhich, sgn, decide_eq_true_eq, beq_iff_eq, beq_eq_false_iff_ne, ne_eq] at *) <;> (by_cases hc : a < 9223372036854775808) <;> (first | simp only [if_pos hc] at * | simp only [if_neg hc] at * | skip) <;> (repeat' split) <;> (try simp only [decide_eq_true_eq] at *) <;> omega

set_option maxHeartbeats 400000 in
theorem number_any (a : Int) (w : World) (h0 : 0 ≤ a) (h1 : a < 18446744073709551616) (h4 : a % 4 = 1) :
    Calls Try.prog 23 #[.int .u64 a] w fun e w' => e = .returned (.int .i64 (sgn a / 4)) ∧ w' = w := by
  by_cases g0 : 9223372036854775808 < a
  · have hb : IntKind.u64.wrap (IntKind.u64.wrap (-a) + 1) = 18446744073709551617 - a := by rw [IntKind.wrap_u64, IntKind.wrap_u64]; omega
    go_enter Try.func23, Try.ntmps23
    go_wp2
    go_ret
    refine ⟨ret_int ?_, rfl⟩
    clear hb; unfold sgn; rw [if_neg (by omega)]; omega
  · go_enter Try.func23, Try.ntmps23
    go_wp2
    go_ret
    refine ⟨ret_int ?_, rfl⟩
    unfold sgn; rw [if_pos (by omega)]

set_option maxHeartbeats 400000 in
theorem rkind_any (a : Int) (w : World) (h0 : 0 ≤ a) (h1 : a < 18446744073709551616) :
    Calls Try.prog 16 #[.int .u64 a] w fun e w' => e = .returned (.int .i64 (kindF a)) ∧ w' = w := by
  by_cases g : a % 4 = 1
  all_goals
    go_enter Try.func16, Try.ntmps16
    go_wp2_with (go_at_call 23; refine (number_any _ _ h0 h1 g).mono ?_; rintro e w' ⟨rfl, rfl⟩)
    all_goals
      go_ret
      refine ⟨ret_int ?_, rfl⟩ <;> (try simp only [IntKind.wrap_u64, wAddr, eAddr, okA, wSmall, eSmall, okN, wConst, eConst, okC, kindF, nAt, eAt, nNum, eNum, nWhich, eWhich, sgn, decide_eq_true_eq, beq_iff_eq, beq_eq_false_iff_ne, ne_eq] at *) <;> (by_cases hc : a < 9223372036854775808) <;> (first | simp only [if_pos hc] at * | simp only [if_neg hc] at * | skip) <;> (repeat' split) <;> (try simp only [decide_eq_true_eq] at *) <;> omega

set_option maxHeartbeats 400000 in
theorem at_any (a : Int) (w : World) (h0 : 0 ≤ a) (h1 : a < 18446744073709551616) :
    Calls Try.prog 17 #[.int .u64 a] w fun e w' => e = .returned (.tuple #[.int .i64 (nAt a), .int .i64 (eAt a)]) ∧ w' = w := by
  have hs : sgn a = wrap64 a := (wrap_sgn a h0 h1).symm
  have H := Lib.hid hs; clear hs
  by_cases g : kindF a = 0
  all_goals
    go_enter Try.func17, Try.ntmps17
    go_wp2_with (first | (go_at_call 15; refine (kind_any _ _ h0 h1).mono ?_; rintro e w' ⟨rfl, rfl⟩) | (go_at_call 23; refine (number_any _ _ h0 h1 (by unfold kindF at g; (repeat' split at g) <;> omega)).mono ?_; rintro e w' ⟨rfl, rfl⟩))
    go_ret2
    refine ⟨ret_two ?_ ?_, rfl⟩ <;> simp only [nAt, eAt, nNum, eNum, nWhich, eWhich, g, if_true, if_false] <;> first | rfl | rw [H.out] | (unfold kindF at g; (repeat' split at g) <;> omega)

set_option maxHeartbeats 400000 in
theorem rat_any (a : Int) (w : World) (h0 : 0 ≤ a) (h1 : a < 18446744073709551616) :
    Calls Try.prog 18 #[.int .u64 a] w fun e w' => e = .returned (.tuple #[.int .i64 (nAt a), .int .i64 (eAt a)]) ∧ w' = w := by
  have hs : sgn a = wrap64 a := (wrap_sgn a h0 h1).symm
  have H := Lib.hid hs; clear hs
  by_cases g : kindF a = 0
  all_goals
    go_enter Try.func18, Try.ntmps18
    go_wp2_with (first | (go_at_call 16; refine (rkind_any _ _ h0 h1).mono ?_; rintro e w' ⟨rfl, rfl⟩) | (go_at_call 23; refine (number_any _ _ h0 h1 (by unfold kindF at g; (repeat' split at g) <;> omega)).mono ?_; rintro e w' ⟨rfl, rfl⟩))
    go_ret2
    refine ⟨ret_two ?_ ?_, rfl⟩ <;> simp only [nAt, eAt, nNum, eNum, nWhich, eWhich, g, if_true, if_false] <;> first | rfl | rw [H.out] | (unfold kindF at g; (repeat' split at g) <;> omega)

set_option maxHeartbeats 400000 in
theorem num_any (a : Int) (w : World) (h0 : 0 ≤ a) (h1 : a < 18446744073709551616) :
    Calls Try.prog 19 #[.int .u64 a] w fun e w' => e = .returned (.tuple #[.int .i64 (nNum a), .int .i64 (eNum a)]) ∧ w' = w := by
  have hs : sgn a = wrap64 a := (wrap_sgn a h0 h1).symm
  have H := Lib.hid hs; clear hs
  by_cases g : kindF a = 1
  all_goals
    go_enter Try.func19, Try.ntmps19
    go_wp2_with (first | (go_at_call 15; refine (kind_any _ _ h0 h1).mono ?_; rintro e w' ⟨rfl, rfl⟩) | (go_at_call 23; refine (number_any _ _ h0 h1 (by unfold kindF at g; (repeat' split at g) <;> omega)).mono ?_; rintro e w' ⟨rfl, rfl⟩))
    go_ret2
    refine ⟨ret_two ?_ ?_, rfl⟩ <;> simp only [nAt, eAt, nNum, eNum, nWhich, eWhich, g, if_true, if_false] <;> first | rfl | rw [H.out] | (unfold kindF at g; (repeat' split at g) <;> omega)

set_option maxHeartbeats 400000 in
theorem rnum_any (a : Int) (w : World) (h0 : 0 ≤ a) (h1 : a < 18446744073709551616) :
    Calls Try.prog 20 #[.int .u64 a] w fun e w' => e = .returned (.tuple #[.int .i64 (nNum a), .int .i64 (eNum a)]) ∧ w' = w := by
  have hs : sgn a = wrap64 a := (wrap_sgn a h0 h1).symm
  have H := Lib.hid hs; clear hs
  by_cases g : kindF a = 1
  all_goals
    go_enter Try.func20, Try.ntmps20
    go_wp2_with (first | (go_at_call 16; refine (rkind_any _ _ h0 h1).mono ?_; rintro e w' ⟨rfl, rfl⟩) | (go_at_call 23; refine (number_any _ _ h0 h1 (by unfold kindF at g; (repeat' split at g) <;> omega)).mono ?_; rintro e w' ⟨rfl, rfl⟩))
    go_ret2
    refine ⟨ret_two ?_ ?_, rfl⟩ <;> simp only [nAt, eAt, nNum, eNum, nWhich, eWhich, g, if_true, if_false] <;> first | rfl | rw [H.out] | (unfold kindF at g; (repeat' split at g) <;> omega)

set_option maxHeartbeats 400000 in
theorem which_any (a : Int) (w : World) (h0 : 0 ≤ a) (h1 : a < 18446744073709551616) :
    Calls Try.prog 21 #[.int .u64 a] w fun e w' => e = .returned (.tuple #[.int .i64 (nWhich a), .int .i64 (eWhich a)]) ∧ w' = w := by
  have hs : sgn a = wrap64 a := (wrap_sgn a h0 h1).symm
  have H := Lib.hid hs; clear hs
  by_cases g : kindF a = 2
  all_goals
    go_enter Try.func21, Try.ntmps21
    go_wp2_with (first | (go_at_call 15; refine (kind_any _ _ h0 h1).mono ?_; rintro e w' ⟨rfl, rfl⟩) | (go_at_call 23; refine (number_any _ _ h0 h1 (by unfold kindF at g; (repeat' split at g) <;> omega)).mono ?_; rintro e w' ⟨rfl, rfl⟩))
    go_ret2
    refine ⟨ret_two ?_ ?_, rfl⟩ <;> simp only [nAt, eAt, nNum, eNum, nWhich, eWhich, g, if_true, if_false] <;> first | rfl | rw [H.out] | (unfold kindF at g; (repeat' split at g) <;> omega)

set_option maxHeartbeats 400000 in
theorem rwhich_any (a : Int) (w : World) (h0 : 0 ≤ a) (h1 : a < 18446744073709551616) :
    Calls Try.prog 22 #[.int .u64 a] w fun e w' => e = .returned (.tuple #[.int .i64 (nWhich a), .int .i64 (eWhich a)]) ∧ w' = w := by
  have hs : sgn a = wrap64 a := (wrap_sgn a h0 h1).symm
  have H := Lib.hid hs; clear hs
  by_cases g : kindF a = 2
  all_goals
    go_enter Try.func22, Try.ntmps22
    go_wp2_with (first | (go_at_call 16; refine (rkind_any _ _ h0 h1).mono ?_; rintro e w' ⟨rfl, rfl⟩) | (go_at_call 23; refine (number_any _ _ h0 h1 (by unfold kindF at g; (repeat' split at g) <;> omega)).mono ?_; rintro e w' ⟨rfl, rfl⟩))
    go_ret2
    refine ⟨ret_two ?_ ?_, rfl⟩ <;> simp only [nAt, eAt, nNum, eNum, nWhich, eWhich, g, if_true, if_false] <;> first | rfl | rw [H.out] | (unfold kindF at g; (repeat' split at g) <;> omega)

set_option maxHeartbeats 400000 in
theorem known_any (w : World) :
    Calls Try.prog 8 #[] w fun e w' => e = .returned (.bool true) ∧ w' = w := by
  go_enter Try.func8, Try.ntmps8
  go_wp2
  go_ret
  exact ⟨rfl, rfl⟩
end Go.Proofs.Ytmbddecfilaleaa
