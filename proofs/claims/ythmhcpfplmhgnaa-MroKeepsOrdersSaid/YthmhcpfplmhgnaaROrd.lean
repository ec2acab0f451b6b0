/- The reference's Order, and the chapter's examples. -/
import Derived.Test.YthmhcpfplmhgnaaOrders
namespace Go.Proofs.Ythmhcpfplmhgnaa
open Go.ChangeShapes Go.WideShapes Go.ChangeAt Go.RowKit
set_option linter.unusedSimpArgs false
set_option linter.unusedVariables false

set_option maxHeartbeats 1600000 in
theorem rord_any (S : Nat → Prop) (v : Value) (bs : List (List Int)) (c : Int) (w : World) (h : RRows S w [v] bs) (hS : ∀ b, S b → b < w.heap.size) :
    Calls Try.prog 8 #[v, .int .i64 c] w (Answered (ansF bs c) w) := by
  obtain ⟨a, cap, rfl, hcap, hmax⟩ := h.form
  unfold maxLen at hmax
  by_cases h1 : c < 0
  · go_enter Try.func8, Try.ntmps8
    go_wp2
    go_ret2
    exact Answered.nil (ansF_arg (.inl h1)) (Below.refl _ _)
  by_cases h2 : (bs.length : Int) ≤ c
  · go_enter Try.func8, Try.ntmps8
    go_wp2
    go_ret2
    exact Answered.nil (ansF_arg (.inr h2)) (Below.refl _ _)
  have hc : ¬ (c < 0 ∨ (bs.length : Int) ≤ c) := by omega
  by_cases h3 : 200 < bs.length
  · have h3z : (200 : Int) < (bs.length : Int) := by omega
    go_enter Try.func8, Try.ntmps8
    go_wp2
    go_ret2
    exact Answered.nil (ansF_long hc h3) (Below.refl _ _)
  have h3z : ¬ (200 : Int) < (bs.length : Int) := by omega
  have HC := Lib.hid hc; clear hc
  by_cases h4 : Fits bs
  · obtain ⟨n, rfl⟩ : ∃ n : Nat, c = n := ⟨c.toNat, by omega⟩
    go_enter Try.func8, Try.ntmps8
    go_wp2_with (go_at_call 16; refine (fit_any S _ bs _ h).mono ?_; rintro e w' ⟨b, rfl, hb, q, rfl⟩; obtain rfl : b = true := hb.2 h4; clear hb)
    refine (orders_any S _ bs _ (RRows.good.keep ((Quiet.drewN w q).agree S) h) hS h4 (by omega)).mono ?_
    rintro e w1 ⟨u, rfl, hE, hB⟩
    obtain ⟨g, cap', val, rfl, hcell, hent⟩ := hE.at n (by omega)
    obtain ⟨av, nv, cv, rfl, hnil⟩ := hent.nil_iff
    have hB' : Below w.heap.size w w1 := (below_drewN (Below.refl w.heap.size w) q).trans hB
    cases ho : ordF bs n with
    | none =>
      simp only [id, ho, Option.isSome_none] at hnil
      have hneq : ∀ w, (binOp .eql 24 (.slice av nv cv) (.slice none 0 0)).run Try.prog w = .ok (.bool true) w := fun w => by
        rw [Lib.run_eql_slice_nil (P := Try.prog) w 24 3 av nv cv 0 0 Try.underlying24]
        cases av <;> simp_all
      have HO := Lib.hid (And.intro ho hnil); clear ho hnil
      go_wp2
      go_ret2
      exact Answered.nil (ansF_none HC.out h3 h4 HO.out.1) hB'
    | some l =>
      simp only [id, ho, Option.isSome_some] at hnil
      have hneq : ∀ w, (binOp .eql 24 (.slice av nv cv) (.slice none 0 0)).run Try.prog w = .ok (.bool false) w := fun w => by
        rw [Lib.run_eql_slice_nil (P := Try.prog) w 24 3 av nv cv 0 0 Try.underlying24]
        cases av <;> simp_all
      obtain ⟨l', hl', _, hr'⟩ : ∃ l', l' = l ∧ l ≠ [] ∧ OwnInts (fun _ => False) w.heap.size w1 (.slice av nv cv) l := by
        rcases hent with ⟨h', _⟩ | ⟨l2, h1', h2', h3'⟩
        · simp only [id] at h'; rw [ho] at h'; cases h'
        · simp only [id] at h1'; rw [ho] at h1'
          obtain rfl := Option.some.inj h1'
          exact ⟨l, rfl, h2', h3'.avoid fun _ _ h => h.elim⟩
      have HO := Lib.hid (And.intro ho hnil); clear ho hnil hl'
      go_wp2
      go_ret2
      exact Answered.some (ansF_some HC.out h3 h4 HO.out.1) hr' hB'
  · go_enter Try.func8, Try.ntmps8
    go_wp2_with (go_at_call 16; refine (fit_any S _ bs _ h).mono ?_; rintro e w' ⟨b, rfl, hb, q, rfl⟩; obtain rfl : b = false := by cases b <;> simp_all)
    go_ret2
    exact Answered.nil (ansF_form HC.out h3 h4) (Quiet.below (by first | exact Quiet.refl _ | exact Quiet.drewN _ _ | exact (Quiet.drewN _ _).more _) _)
end Go.Proofs.Ythmhcpfplmhgnaa
