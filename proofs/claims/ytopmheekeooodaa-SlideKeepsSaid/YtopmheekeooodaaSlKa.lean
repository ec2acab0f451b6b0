/- Slide: what is found of a memory in form, in short. -/
import Derived.Test.YtopmheekeooodaaSlReach
namespace Go.Proofs.Ytopmheekeooodaa
namespace Can
open Go Go.RowKit
set_option linter.unusedSimpArgs false
set_option linter.unusedVariables false
set_option maxRecDepth 4000
theorem rcL_bound {ws roots : List Int} {tn : Nat} {ls : List Nat} (hF : Form ws tn ls) : (intsN (rcL ws roots ls)).length ≤ 1048576 := by
  have e1 : (intsN (rcL ws roots ls)).length = (rcL ws roots ls).length := by simp [intsN]
  have := rcL_len (ws := ws) (roots := roots) (ls := ls)
  have := hF.ch.len
  have := hF.top
  have := hF.len
  omega
theorem rcL_wf {ws roots : List Int} {tn : Nat} {ls : List Nat} (hF : Form ws tn ls) : ∀ x ∈ intsN (rcL ws roots ls), (Lit.int .i64 x).wf = true := by
  intro x hx
  obtain ⟨a, ha, rfl⟩ := List.mem_map.1 hx
  have hal : a ∈ ls := by unfold rcL at ha; exact (List.mem_filter.1 ha).1
  have := obj_lt2 hF hal
  simp [Lit.wf, IntKind.min, IntKind.max, IntKind.signed, IntKind.bits]; omega
theorem rt_ok {ws roots : List Int} {tn : Nat} {ls : List Nat} (hrs : ∀ w ∈ roots, 0 ≤ w ∧ w < 18446744073709551616) (hf : formF ws tn = some (intsN ls)) (h : rtB ws tn roots = true) : RtOk ls roots := fun w hwm => by
  unfold rtB at h
  rw [hf] at h
  have h := List.all_eq_true.1 h w hwm
  have hwu := hrs w hwm
  rw [Int.toNat_natCast] at h
  unfold refOk at h
  split at h
  · cases h
  · rename_i h3
    refine ⟨h3, fun h0 => ?_⟩
    rw [if_pos h0, decide_eq_true_eq] at h
    exact (mem_intsN_adr hwu.1).1 h.2
theorem form_top {ws : List Int} {top : Int} {l : List Int} (h : formF ws top = some l) : ∃ tn : Nat, top = (tn : Int) := by
  unfold formF at h
  split at h
  · cases h
  · rename_i hg
    exact ⟨top.toNat, by omega⟩
theorem slice_all {l o n c sz : Nat} {lo hi : Int} (h1 : 0 ≤ lo) (h2 : lo ≤ hi) (h3 : hi ≤ c) : sliceV sz (.slice (some ⟨l, o, none⟩) n c) lo hi c false = some (.slice (some ⟨l, o + lo.toNat * sz, none⟩) (hi - lo).toNat ((c : Int) - lo).toNat) := by
  unfold sliceV
  simp only [Bool.false_eq_true, if_false]
  rw [if_pos (by omega)]
  by_cases h : lo = (c : Int)
  · rw [if_pos h]
    have e1 : (hi - lo).toNat = 0 := by omega
    have e2 : ((c : Int) - lo).toNat = 0 := by omega
    rw [e1, e2]
  · rw [if_neg h]
/-- The queue. -/
def Todo (K : CH) (lo : Nat) (v : Value) (pend : List Int) : Prop := ∃ x o c cs kd, v = .slice (some ⟨x, o, none⟩) pend.length c ∧ lo ≤ x ∧ x < K.nx ∧ K.ob x = .cells cs 42 kd ∧ pend.length ≤ c ∧ c ≤ maxLen ∧ o + pend.length ≤ cs.length ∧ (∀ i, i < pend.length → cs[o + i]? = some (.int .u64 (pend.getD i 0))) ∧ (pend ≠ [] → kd = .gr)
end Can
end Go.Proofs.Ytopmheekeooodaa
