/- Flow: an instruction that becomes one that does nothing, in plain terms. -/
import Derived.Test.YtapcoeecjlkdgaaFlPthF
namespace Go.Proofs.Ytapcoeecjlkdgaa
namespace Can
open Go Go.RowKit
set_option linter.unusedSimpArgs false
set_option linter.unusedVariables false
set_option maxRecDepth 4000
def setI (F : Fn') (a : Nat) : Fn' := { F with ins := F.ins.set a default }
theorem setI_len {F : Fn'} {a : Nat} : (setI F a).ins.length = F.ins.length := by simp [setI]
theorem setI_at {F : Fn'} {a k : Nat} : (setI F a).ins.getD k default = if k = a then default else F.ins.getD k default := by
  simp only [setI, List.getD_eq_getElem?_getD, List.getElem?_set]
  by_cases e : a = k
  · subst e
    by_cases h : a < F.ins.length
    · simp [h]
    · simp [h]
  · rw [if_neg e, if_neg (by omega)]
theorem nop_op : (default : Ins).op = 0 := rfl
theorem nop_reads : readsF default = [] := by decide
theorem nop_writes : writesF default = [] := by decide
theorem nop_al : alF 0 = false := by decide
theorem setI_hdlFrom {F : Fn'} {a : Nat} {x : Int} : ∀ n k, hdlFrom (setI F a) x n k = hdlFrom F x n k
  | 0, k => rfl
  | n + 1, k => by
    simp only [hdlFrom]
    rw [setI_hdlFrom n (k + 1)]
    rfl
theorem less_ways {F : Fn'} {a k : Nat} (h : k ≠ a) : waysF (setI F a) (k : Int) = waysF F (k : Int) := by
  have hi : insAt (setI F a) (k : Int) = insAt F (k : Int) := by
    unfold insAt
    rw [setI_at, if_neg (by simpa using h)]
  have hh : hdlF (setI F a) (k : Int) = hdlF F (k : Int) := by
    unfold hdlF
    rw [hi, setI_len, setI_hdlFrom]
    rfl
  unfold waysF
  rw [hi, hh, setI_len]
  rfl
theorem next_of {a n : Nat} (h : a < n) (hn : n ≤ 9223372036854775807) : nextF (a : Int) = (a : Int) + 1 := by
  unfold nextF; rw [if_pos (by omega)]
theorem less_nop {F : Fn'} {a : Nat} (h : a < F.ins.length) (hn : F.ins.length ≤ 9223372036854775807) : waysF (setI F a) (a : Int) = [((a : Int) + 1, [])] := by
  have hi : insAt (setI F a) (a : Int) = default := by
    unfold insAt
    rw [setI_at, if_pos (by simp)]
  have hh : hdlF (setI F a) (a : Int) = -1 := by
    unfold hdlF
    rw [hi, nop_op, nop_al]
    simp
  have hg : goesF default (a : Int) = [(a : Int) + 1] := by
    unfold goesF
    rw [nop_op, next_of h hn]
    simp
  unfold waysF
  rw [hi, hh, hg, setI_len, if_pos (by omega), nop_writes]
  simp
theorem less_next {F : Fn'} {a : Nat} (h : a < F.ins.length) (hn : F.ins.length ≤ 9223372036854775807) (ho : (F.ins.getD a default).op ≠ 18 ∧ (F.ins.getD a default).op ≠ 41 ∧ (F.ins.getD a default).op ≠ 42) : ((a : Int) + 1, writesF (F.ins.getD a default)) ∈ waysF F (a : Int) := by
  have hi : insAt F (a : Int) = F.ins.getD a default := by unfold insAt; rfl
  have hg : ∃ l, goesF (F.ins.getD a default) (a : Int) = ((a : Int) + 1) :: l := by
    unfold goesF
    rw [if_neg ho.1, if_neg (by omega), next_of h hn]
    split
    · exact ⟨_, rfl⟩
    · exact ⟨_, rfl⟩
  obtain ⟨l, hg⟩ := hg
  unfold waysF
  rw [if_pos (by omega), hi, hg]
  apply List.mem_append_left
  simp only [List.zipIdx_cons, List.map_cons]
  refine List.mem_cons.2 (.inl ?_)
  rw [if_pos ⟨trivial, ho.1⟩]
theorem less_lv {F : Fn'} {a : Nat} (h : a < F.ins.length) (hn : F.ins.length ≤ 9223372036854775807) (ho : (F.ins.getD a default).op ≠ 18 ∧ (F.ins.getD a default).op ≠ 41 ∧ (F.ins.getD a default).op ≠ 42) {k r : Nat} (hl : Lv (setI F a) k r) (hw : (r : Int) ∉ writesF (F.ins.getD a default)) : Lv F k r := by
  induction hl with
  | @read j r hj hr =>
    rw [setI_at] at hr
    rw [setI_len] at hj
    split at hr
    · rw [nop_reads] at hr; cases hr
    · exact .read hj hr
  | @step j r p hp hl hw2 ih =>
    by_cases e : j = a
    · subst e
      rw [less_nop h hn] at hp
      simp at hp
      subst hp
      have h1 := ih hw
      simp only at h1
      exact .step (less_next h hn ho) (by simpa using h1) hw
    · rw [less_ways e] at hp
      exact .step hp (ih hw) hw2
theorem less_sound {F : Fn'} {a : Nat} (hs : soundF F = true) (h : a + 1 < F.ins.length) (hn : F.ins.length ≤ 9223372036854775807) : soundF (setI F a) = true := by
  simp only [soundF, Bool.and_eq_true] at hs ⊢
  refine ⟨?_, range_all.2 fun k hk => ?_, range_all.2 fun k hk => ?_⟩
  · have := hs.1
    unfold headF at this ⊢
    rw [setI_len]
    exact this
  · rw [setI_len] at hk
    have h1 := range_all.1 hs.2.1 k hk
    unfold okAt at h1 ⊢
    rw [setI_at, setI_len]
    by_cases e : k = a
    · subst e
      rw [if_pos rfl, nop_reads, nop_writes]
      have hg : goesF default (k : Int) = [(k : Int) + 1] := by
        unfold goesF
        rw [nop_op, next_of (show k < F.ins.length by omega) hn]
        simp
      rw [hg]
      simp [inF]
      omega
    · rw [if_neg e]; exact h1
  · have h1 := range_all.1 hs.2.2 k hk
    unfold okR at h1 ⊢
    rw [setI_len]
    exact h1
end Can
end Go.Proofs.Ytapcoeecjlkdgaa
