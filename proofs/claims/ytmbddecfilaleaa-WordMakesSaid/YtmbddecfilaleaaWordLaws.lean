/- The walks of the five laws of layer 1: each returns true, and leaves the memory as it was. -/
import Derived.Test.YtmbddecfilaleaaWord
namespace Go.Proofs.Ytmbddecfilaleaa
open Go.ChangeShapes Go.WideShapes Go.ChangeAt Go.RowKit
set_option linter.unusedSimpArgs false
set_option linter.unusedVariables false

set_option maxHeartbeats 400000 in
theorem makes_walk (a0 : Int) (h0 : -9223372036854775808 ≤ a0) (h1 : a0 < 9223372036854775808) (w : World) :
    Calls Try.prog 4 #[.int .i64 a0] w fun e w' => e = .returned (.bool true) ∧ w' = w := by
  go_enter Try.func4, Try.ntmps4
  go_wp2_with (first
    | (go_at_call 8; refine (known_any _).mono ?_; rintro e w' ⟨rfl, rfl⟩)
    | (go_at_call 10; refine (addr_any _ _ h0 h1).mono ?_; rintro e w' ⟨rfl, rfl⟩)
    | (go_at_call 11; refine (raddr_any _ _ h0 h1).mono ?_; rintro e w' ⟨rfl, rfl⟩)
    | (go_at_call 9; refine (small_any _ _ h0 h1).mono ?_; rintro e w' ⟨rfl, rfl⟩)
    | (go_at_call 12; refine (rsmall_any _ _ h0 h1).mono ?_; rintro e w' ⟨rfl, rfl⟩)
    | (go_at_call 13; refine (const_any _ _ h0 h1).mono ?_; rintro e w' ⟨rfl, rfl⟩)
    | (go_at_call 14; refine (rconst_any _ _ h0 h1).mono ?_; rintro e w' ⟨rfl, rfl⟩))
  all_goals go_ret
  all_goals exact ⟨rfl, rfl⟩

set_option maxHeartbeats 400000 in
theorem reads_walk (a0 : Int) (h0 : 0 ≤ a0) (h1 : a0 < 18446744073709551616) (w : World) :
    Calls Try.prog 5 #[.int .u64 a0] w fun e w' => e = .returned (.bool true) ∧ w' = w := by
  go_enter Try.func5, Try.ntmps5
  go_wp2_with (first
    | (go_at_call 8; refine (known_any _).mono ?_; rintro e w' ⟨rfl, rfl⟩)
    | (go_at_call 15; refine (kind_any _ _ h0 h1).mono ?_; rintro e w' ⟨rfl, rfl⟩)
    | (go_at_call 16; refine (rkind_any _ _ h0 h1).mono ?_; rintro e w' ⟨rfl, rfl⟩)
    | (go_at_call 17; refine (at_any _ _ h0 h1).mono ?_; rintro e w' ⟨rfl, rfl⟩)
    | (go_at_call 18; refine (rat_any _ _ h0 h1).mono ?_; rintro e w' ⟨rfl, rfl⟩)
    | (go_at_call 19; refine (num_any _ _ h0 h1).mono ?_; rintro e w' ⟨rfl, rfl⟩)
    | (go_at_call 20; refine (rnum_any _ _ h0 h1).mono ?_; rintro e w' ⟨rfl, rfl⟩)
    | (go_at_call 21; refine (which_any _ _ h0 h1).mono ?_; rintro e w' ⟨rfl, rfl⟩)
    | (go_at_call 22; refine (rwhich_any _ _ h0 h1).mono ?_; rintro e w' ⟨rfl, rfl⟩))
  all_goals go_ret
  all_goals exact ⟨rfl, rfl⟩

theorem rises_small (a : Int) (h : eSmall a = 0) (g : eSmall (a + 1) = 0) : (IntKind.u64.wrap (wSmall (a + 1) - wSmall a) != 4) = false := by
  rw [bne_eq_false_iff_eq, IntKind.wrap_u64]
  unfold eSmall at h g; unfold wSmall
  split at h <;> split at g <;> first | omega | (rename_i x y; rw [if_pos x, if_pos y]; simp only [okN, decide_eq_true_eq] at x y; omega)
theorem rises_addr (a : Int) (h : eAddr a = 0) (g : eAddr (a + 1) = 0) : (IntKind.u64.wrap (wAddr (a + 1) - wAddr a) == 4) = true := by
  rw [beq_iff_eq, IntKind.wrap_u64]
  unfold eAddr at h g; unfold wAddr
  split at h <;> split at g <;> first | omega | (rename_i x y; rw [if_pos x, if_pos y]; simp only [okA, decide_eq_true_eq] at x y; omega)

set_option maxHeartbeats 400000 in
theorem rises_walk (a0 : Int) (h0 : -9223372036854775808 ≤ a0) (h1 : a0 < 9223372036854775808) (w : World) :
    Calls Try.prog 3 #[.int .i64 a0] w fun e w' => e = .returned (.bool true) ∧ w' = w := by
  by_cases hr : 4611686018427387904 < a0
  · go_enter Try.func3, Try.ntmps3
    go_wp2_with (first
    | (go_at_call 8; refine (known_any _).mono ?_; rintro e w' ⟨rfl, rfl⟩))
    all_goals go_ret
    all_goals exact ⟨rfl, rfl⟩
  · by_cases hr2 : a0 < -4611686018427387904
    · go_enter Try.func3, Try.ntmps3
      go_wp2_with (first
    | (go_at_call 8; refine (known_any _).mono ?_; rintro e w' ⟨rfl, rfl⟩))
      all_goals go_ret
      all_goals exact ⟨rfl, rfl⟩
    · have hA := rises_addr a0
      have hS := rises_small a0
      go_enter Try.func3, Try.ntmps3
      go_wp2_with (first
    | (go_at_call 8; refine (known_any _).mono ?_; rintro e w' ⟨rfl, rfl⟩)
    | (go_at_call 10; refine (addr_any _ _ (by omega) (by omega)).mono ?_; rintro e w' ⟨rfl, rfl⟩)
    | (go_at_call 9; refine (small_any _ _ (by omega) (by omega)).mono ?_; rintro e w' ⟨rfl, rfl⟩))
      all_goals go_ret
      all_goals exact ⟨rfl, rfl⟩

theorem wAddr_range (a : Int) : 0 ≤ wAddr a ∧ wAddr a < 18446744073709551616 := by
  unfold wAddr; split
  · rename_i x; simp only [okA, decide_eq_true_eq] at x; omega
  · omega
theorem wSmall_range (a : Int) : 0 ≤ wSmall a ∧ wSmall a < 18446744073709551616 := by
  unfold wSmall; split <;> omega
theorem wConst_range (a : Int) : 0 ≤ wConst a ∧ wConst a < 18446744073709551616 := by
  unfold wConst; split
  · rename_i x; simp only [okC, decide_eq_true_eq] at x; omega
  · omega
theorem kind_addr (a : Int) (h : eAddr a = 0) : kindF (wAddr a) = 0 ∧ wAddr a = 4 * a := by
  unfold eAddr at h
  split at h
  · rename_i x
    have e : wAddr a = 4 * a := by unfold wAddr; rw [if_pos x]
    refine ⟨?_, e⟩
    rw [e]; unfold kindF; rw [if_pos (by omega), if_pos]
    rw [show 4 * a / 4 = a from by omega]; exact x
  · omega
theorem kind_const (a : Int) (h : eConst a = 0) : kindF (wConst a) = 2 ∧ wConst a = 4 * a + 2 := by
  unfold eConst at h
  split at h
  · rename_i x
    have e : wConst a = 4 * a + 2 := by unfold wConst; rw [if_pos x]
    refine ⟨?_, e⟩
    rw [e]; unfold kindF; rw [if_neg (by omega), if_neg (by omega), if_pos (by omega), if_pos]
    rw [show (4 * a + 2) / 4 = a from by omega]; exact x
  · omega
theorem kind_small (a : Int) (h : eSmall a = 0) : kindF (wSmall a) = 1 ∧ sgn (wSmall a) / 4 = a := by
  unfold eSmall at h
  split at h
  · rename_i x
    have e : wSmall a = (4 * a + 1) % 18446744073709551616 := by unfold wSmall; rw [if_pos x]
    have x' := x
    simp only [okN, decide_eq_true_eq] at x'
    have g : sgn (wSmall a) / 4 = a := by rw [e]; unfold sgn; split <;> omega
    refine ⟨?_, g⟩
    unfold kindF; rw [if_neg (by rw [e]; omega), if_pos (by rw [e]; omega), if_pos]
    rw [g]; exact x
  · omega
theorem back_addr (a : Int) (h : eAddr a = 0) : nAt (wAddr a) = a ∧ eAt (wAddr a) = 0 ∧ eNum (wAddr a) = 9 ∧ eWhich (wAddr a) = 9 := by
  obtain ⟨k, e⟩ := kind_addr a h
  unfold nAt eAt eNum eWhich; rw [k]
  refine ⟨?_, rfl, rfl, rfl⟩
  rw [e, if_pos rfl]; omega
theorem back_const (a : Int) (h : eConst a = 0) : nWhich (wConst a) = a ∧ eWhich (wConst a) = 0 ∧ eNum (wConst a) = 9 ∧ eAt (wConst a) = 9 := by
  obtain ⟨k, e⟩ := kind_const a h
  unfold nWhich eAt eNum eWhich; rw [k]
  refine ⟨?_, rfl, rfl, rfl⟩
  rw [e, if_pos rfl]; omega
theorem back_small (a : Int) (h : eSmall a = 0) : nNum (wSmall a) = a ∧ eNum (wSmall a) = 0 ∧ eAt (wSmall a) = 9 ∧ eWhich (wSmall a) = 9 := by
  obtain ⟨k, e⟩ := kind_small a h
  unfold nNum eAt eNum eWhich; rw [k]
  refine ⟨?_, rfl, rfl, rfl⟩
  rw [if_pos rfl]; exact e

set_option maxHeartbeats 400000 in
theorem back_walk (a0 : Int) (h0 : -9223372036854775808 ≤ a0) (h1 : a0 < 9223372036854775808) (w : World) :
    Calls Try.prog 6 #[.int .i64 a0] w fun e w' => e = .returned (.bool true) ∧ w' = w := by
  have hA : ¬ eAddr a0 = 0 ∨ _ := (Decidable.em (eAddr a0 = 0)).symm.imp id fun h => And.intro h (back_addr a0 h)
  have hS : ¬ eSmall a0 = 0 ∨ _ := (Decidable.em (eSmall a0 = 0)).symm.imp id fun h => And.intro h (back_small a0 h)
  have hC : ¬ eConst a0 = 0 ∨ _ := (Decidable.em (eConst a0 = 0)).symm.imp id fun h => And.intro h (back_const a0 h)
  obtain ⟨ra, ra'⟩ := wAddr_range a0
  obtain ⟨rs, rs'⟩ := wSmall_range a0
  obtain ⟨rc, rc'⟩ := wConst_range a0
  rcases hA with cA | ⟨cA, a1, a2, a3, a4⟩ <;> rcases hS with cS | ⟨cS, s1, s2, s3, s4⟩ <;> rcases hC with cC | ⟨cC, c1, c2, c3, c4⟩
  all_goals
    go_enter Try.func6, Try.ntmps6
    go_wp2_with (first
      | (go_at_call 8; refine (known_any _).mono ?_; rintro e w' ⟨rfl, rfl⟩)
      | (go_at_call 10; refine (addr_any _ _ h0 h1).mono ?_; rintro e w' ⟨rfl, rfl⟩)
      | (go_at_call 9; refine (small_any _ _ h0 h1).mono ?_; rintro e w' ⟨rfl, rfl⟩)
      | (go_at_call 13; refine (const_any _ _ h0 h1).mono ?_; rintro e w' ⟨rfl, rfl⟩)
      | (go_at_call 17; refine (at_any _ _ (by assumption) (by assumption)).mono ?_; rintro e w' ⟨rfl, rfl⟩)
      | (go_at_call 19; refine (num_any _ _ (by assumption) (by assumption)).mono ?_; rintro e w' ⟨rfl, rfl⟩)
      | (go_at_call 21; refine (which_any _ _ (by assumption) (by assumption)).mono ?_; rintro e w' ⟨rfl, rfl⟩))
    all_goals go_ret
    all_goals exact ⟨rfl, rfl⟩

theorem one_addr (a : Int) (h0 : 0 ≤ a) (h : kindF a = 0) : eAt a = 0 ∧ eAddr (nAt a) = 0 ∧ wAddr (nAt a) = a ∧ -9223372036854775808 ≤ nAt a ∧ nAt a < 9223372036854775808 := by
  unfold eAt nAt; rw [if_pos h, if_pos h]
  unfold kindF at h
  split at h
  · split at h
    · rename_i x y
      unfold eAddr wAddr; rw [if_pos y, if_pos y]
      simp only [okA, decide_eq_true_eq] at y; omega
    · omega
  · (repeat' split at h) <;> omega
theorem one_const (a : Int) (h0 : 0 ≤ a) (h : kindF a = 2) : eWhich a = 0 ∧ eConst (nWhich a) = 0 ∧ wConst (nWhich a) = a ∧ -9223372036854775808 ≤ nWhich a ∧ nWhich a < 9223372036854775808 := by
  unfold eWhich nWhich; rw [if_pos h, if_pos h]
  unfold kindF at h
  (repeat' split at h) <;> try omega
  rename_i x y
  unfold eConst wConst; rw [if_pos y, if_pos y]
  simp only [okC, decide_eq_true_eq] at y; omega
theorem one_small (a : Int) (h0 : 0 ≤ a) (h1 : a < 18446744073709551616) (h : kindF a = 1) : eNum a = 0 ∧ eSmall (nNum a) = 0 ∧ wSmall (nNum a) = a ∧ -9223372036854775808 ≤ nNum a ∧ nNum a < 9223372036854775808 := by
  unfold eNum nNum; rw [if_pos h, if_pos h]
  unfold kindF at h
  (repeat' split at h) <;> try omega
  rename_i x y
  unfold eSmall wSmall; rw [if_pos y, if_pos y]
  simp only [okN, decide_eq_true_eq] at y
  refine ⟨rfl, rfl, ?_, by omega, by omega⟩
  unfold sgn; split <;> omega
theorem one_none (a : Int) (h : kindF a = 3) : eAt a = 9 ∧ eNum a = 9 ∧ eWhich a = 9 := by
  unfold eAt eNum eWhich; rw [h]; exact ⟨rfl, rfl, rfl⟩
theorem kind_four (a : Int) : kindF a = 0 ∨ kindF a = 1 ∨ kindF a = 2 ∨ kindF a = 3 := by
  unfold kindF; (repeat' split) <;> omega

set_option maxHeartbeats 400000 in
theorem one_walk (a0 : Int) (h0 : 0 ≤ a0) (h1 : a0 < 18446744073709551616) (w : World) :
    Calls Try.prog 7 #[.int .u64 a0] w fun e w' => e = .returned (.bool true) ∧ w' = w := by
  rcases kind_four a0 with k | k | k | k
  · obtain ⟨p1, p2, p3, p4, p5⟩ := one_addr a0 h0 k
    go_enter Try.func7, Try.ntmps7
    go_wp2_with (first
      | (go_at_call 8; refine (known_any _).mono ?_; rintro e w' ⟨rfl, rfl⟩)
      | (go_at_call 15; refine (kind_any _ _ h0 h1).mono ?_; rintro e w' ⟨rfl, rfl⟩)
      | (go_at_call 17; refine (at_any _ _ h0 h1).mono ?_; rintro e w' ⟨rfl, rfl⟩)
      | (go_at_call 10; refine (addr_any _ _ p4 p5).mono ?_; rintro e w' ⟨rfl, rfl⟩))
    all_goals go_ret
    all_goals exact ⟨rfl, rfl⟩
  · obtain ⟨p1, p2, p3, p4, p5⟩ := one_small a0 h0 h1 k
    go_enter Try.func7, Try.ntmps7
    go_wp2_with (first
      | (go_at_call 8; refine (known_any _).mono ?_; rintro e w' ⟨rfl, rfl⟩)
      | (go_at_call 15; refine (kind_any _ _ h0 h1).mono ?_; rintro e w' ⟨rfl, rfl⟩)
      | (go_at_call 19; refine (num_any _ _ h0 h1).mono ?_; rintro e w' ⟨rfl, rfl⟩)
      | (go_at_call 9; refine (small_any _ _ p4 p5).mono ?_; rintro e w' ⟨rfl, rfl⟩))
    all_goals go_ret
    all_goals exact ⟨rfl, rfl⟩
  · obtain ⟨p1, p2, p3, p4, p5⟩ := one_const a0 h0 k
    go_enter Try.func7, Try.ntmps7
    go_wp2_with (first
      | (go_at_call 8; refine (known_any _).mono ?_; rintro e w' ⟨rfl, rfl⟩)
      | (go_at_call 15; refine (kind_any _ _ h0 h1).mono ?_; rintro e w' ⟨rfl, rfl⟩)
      | (go_at_call 21; refine (which_any _ _ h0 h1).mono ?_; rintro e w' ⟨rfl, rfl⟩)
      | (go_at_call 13; refine (const_any _ _ p4 p5).mono ?_; rintro e w' ⟨rfl, rfl⟩))
    all_goals go_ret
    all_goals exact ⟨rfl, rfl⟩
  · obtain ⟨p1, p2, p3⟩ := one_none a0 k
    go_enter Try.func7, Try.ntmps7
    go_wp2_with (first
      | (go_at_call 8; refine (known_any _).mono ?_; rintro e w' ⟨rfl, rfl⟩)
      | (go_at_call 15; refine (kind_any _ _ h0 h1).mono ?_; rintro e w' ⟨rfl, rfl⟩)
      | (go_at_call 17; refine (at_any _ _ h0 h1).mono ?_; rintro e w' ⟨rfl, rfl⟩)
      | (go_at_call 19; refine (num_any _ _ h0 h1).mono ?_; rintro e w' ⟨rfl, rfl⟩)
      | (go_at_call 21; refine (which_any _ _ h0 h1).mono ?_; rintro e w' ⟨rfl, rfl⟩))
    all_goals go_ret
    all_goals exact ⟨rfl, rfl⟩
end Go.Proofs.Ytmbddecfilaleaa
