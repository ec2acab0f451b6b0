/- Slide: lists that grow while other names turn. -/
import Derived.Test.YtopmheekeooodaaSlRight
namespace Go.Proofs.Ytopmheekeooodaa
namespace Can
open Go Go.RowKit
set_option linter.unusedSimpArgs false
set_option linter.unusedVariables false
set_option maxRecDepth 4000
/-- An append, with what becomes of the row. -/
theorem grw_app2 {α : Type} {A K : CH} {e sz bytes : Nat} {f : α → List Value} (hf : ∀ x, (f x).length = sz ∧ (f x).all isCell = true) {v : Value} {xs ys : List α} (hg : Grw A e sz f K v xs) (hA : A.nx ≤ K.nx) (hb : (xs.length + ys.length) * bytes ≤ 140737488355328) (hm : xs.length + ys.length ≤ 9223372036854775807) :
    ∃ v' K', appV e sz bytes v (ys.flatMap f) ys.length K = some (v', K') ∧ Grw A e sz f K' v' (xs ++ ys) ∧ K.nx ≤ K'.nx ∧ (∀ l, l < K.nx → (∀ o n c, v ≠ .slice (some ⟨l, o, none⟩) n c) → K'.ob l = K.ob l) ∧ (∀ x o n c, v' = .slice (some ⟨x, o, none⟩) n c → K.nx ≤ x ∨ ∃ o n c, v = .slice (some ⟨x, o, none⟩) n c) := by
  have hall : (ys.flatMap f).all isCell = true := by
    rw [List.all_eq_true]; intro x hx
    obtain ⟨y, _, hy⟩ := List.mem_flatMap.1 hx
    exact List.all_eq_true.1 (hf y).2 x hy
  rcases hg with ⟨rfl, rfl⟩ | ⟨b, kd, rfl, h1, h2, h3, hkd⟩
  · by_cases h0 : ys.length = 0
    · have : ys = [] := List.length_eq_zero_iff.1 h0
      subst this
      exact ⟨_, K, by simp [appV], .inl ⟨rfl, rfl⟩, Nat.le_refl _, fun _ _ _ => rfl, fun x o n c h => by cases h⟩
    · refine ⟨_, _, by simp only [appV, h0, if_false]; rw [if_pos ⟨hall, by simpa using hb, by rw [maxLen_eq]; simpa using hm⟩], .inr ⟨K.nx, .gr, by simp, hA, Nat.lt_succ_self _, by simp [new_get], rfl⟩, Nat.le_succ _, fun l hl _ => by rw [new_get, if_neg (by omega)], fun x o n c h => .inl (by cases h; exact Nat.le_refl _)⟩
  · by_cases h0 : ys.length = 0
    · have : ys = [] := List.length_eq_zero_iff.1 h0
      subst this
      exact ⟨.slice (some ⟨b, 0, none⟩) xs.length xs.length, K, by simp [appV, h3], .inr ⟨b, kd, by simp, h1, h2, by simpa using h3, hkd⟩, Nat.le_refl _, fun _ _ _ => rfl, fun x o n c h => .inr ⟨_, _, _, h⟩⟩
    · have hlen : (xs.flatMap f).length = xs.length * sz := flat_len (fun x => (hf x).1) xs
      have hnx : ∀ o, (appH (kd.isEx && decide (xs.length < xs.length + ys.length)) K b o).nx = K.nx + 1 := fun o => by unfold appH; split <;> rfl
      have hat : ∀ o, (appH (kd.isEx && decide (xs.length < xs.length + ys.length)) K b o).ob K.nx = o := fun o => by
        unfold appH; split <;> (simp only [CH.new, CH.set]; simp)
      have hot : ∀ o l, l < K.nx → l ≠ b → (appH (kd.isEx && decide (xs.length < xs.length + ys.length)) K b o).ob l = K.ob l := fun o l hl hb => by
        unfold appH
        split
        · rw [new_get, if_neg (by omega)]
        · rw [new_get, if_neg (by show l ≠ K.nx; omega), set_get, if_neg hb]
      have hnr : (kd.isEx && decide (xs.length + ys.length ≤ xs.length)) = false := by rw [decide_eq_false (by omega), Bool.and_false]
      refine ⟨_, _, by simp only [appV, h3, h0, if_false, hnr, Bool.false_eq_true]; rw [if_pos ⟨trivial, trivial, hkd, by rw [hlen]; exact Nat.le_refl _, hall, hb, by rw [maxLen_eq]; exact hm⟩], .inr ⟨K.nx, .gr, by simp, hA, ?_, ?_, rfl⟩, ?_, fun l hl hne => ?_, fun x o n c h => .inl (by cases h; exact Nat.le_refl _)⟩
      · rw [hnx]; exact Nat.lt_succ_self _
      · rw [hat, ← hlen, List.take_length, List.flatMap_append]
      · rw [hnx]; exact Nat.le_succ _
      · refine hot _ l hl ?_
        rintro rfl
        exact hne _ _ _ rfl
theorem app2 {A K : CH} {v : Value} {xs ys : List Int} {us : List Value} {m : Nat} (hg : Grw A 3 1 (ints .i64) K v xs) (hA : A.nx ≤ K.nx) (hb : (xs.length + ys.length) * 8 ≤ 140737488355328) (hu : us = ys.flatMap (ints .i64)) (hl : m = ys.length)
    {Q : Value → CH → Prop} (k : ∀ v' K', Grw A 3 1 (ints .i64) K' v' (xs ++ ys) → K.nx ≤ K'.nx → (∀ l, l < K.nx → (∀ o n c, v ≠ .slice (some ⟨l, o, none⟩) n c) → K'.ob l = K.ob l) → (∀ x o n c, v' = .slice (some ⟨x, o, none⟩) n c → K.nx ≤ x ∨ ∃ o n c, v = .slice (some ⟨x, o, none⟩) n c) → Q v' K') : optW (appV 3 1 8 v us m K) Q := by
  subst hu hl
  obtain ⟨v', K', h1, h2, h3, h4, h5⟩ := grw_app2 (ints_ok .i64) hg hA hb (by omega)
  rw [h1]
  exact k v' K' h2 h3 h4 h5
theorem Grw.mv {α : Type} {A : CH} {e sz : Nat} {f : α → List Value} {K K' : CH} {v : Value} {xs : List α} (h : Grw A e sz f K v xs) (hk : ∀ x, A.nx ≤ x → x < K.nx → K'.ob x = K.ob x) (hn : K.nx ≤ K'.nx) : Grw A e sz f K' v xs := by
  rcases h with h | ⟨b, kd, h0, h1, h2, h3, h4⟩
  · exact .inl h
  · exact .inr ⟨b, kd, h0, h1, Nat.lt_of_lt_of_le h2 hn, (hk b h1 h2).trans h3, h4⟩
theorem Grw.row {α : Type} {A : CH} {e sz : Nat} {f : α → List Value} {K : CH} {v : Value} {xs : List α} (h : Grw A e sz f K v xs) {x o n c : Nat} (hv : v = .slice (some ⟨x, o, none⟩) n c) : A.nx ≤ x ∧ x < K.nx := by
  subst hv
  rcases h with ⟨_, h⟩ | ⟨b, kd, h0, h1, h2, h3, h4⟩
  · cases h
  · cases h0; exact ⟨h1, h2⟩
theorem app2u {A K : CH} {v : Value} {xs ys : List Int} {us : List Value} {m : Nat} (hg : Grw A 42 1 (ints .u64) K v xs) (hA : A.nx ≤ K.nx) (hb : (xs.length + ys.length) * 8 ≤ 140737488355328) (hu : us = ys.flatMap (ints .u64)) (hl : m = ys.length)
    {Q : Value → CH → Prop} (k : ∀ v' K', Grw A 42 1 (ints .u64) K' v' (xs ++ ys) → K.nx ≤ K'.nx → (∀ l, l < K.nx → (∀ o n c, v ≠ .slice (some ⟨l, o, none⟩) n c) → K'.ob l = K.ob l) → (∀ x o n c, v' = .slice (some ⟨x, o, none⟩) n c → K.nx ≤ x ∨ ∃ o n c, v = .slice (some ⟨x, o, none⟩) n c) → Q v' K') : optW (appV 42 1 8 v us m K) Q := by
  subst hu hl
  obtain ⟨v', K', h1, h2, h3, h4, h5⟩ := grw_app2 (ints_ok .u64) hg hA hb (by omega)
  rw [h1]
  exact k v' K' h2 h3 h4 h5
/-- Not in an older row. -/
theorem Grw.notLow {α : Type} {A : CH} {e sz : Nat} {f : α → List Value} {K : CH} {v : Value} {xs : List α} (h : Grw A e sz f K v xs) {x : Nat} (hx : x < A.nx) : ∀ o n c, v ≠ .slice (some ⟨x, o, none⟩) n c := fun o n c e => by
  have := (h.row e).1; omega
end Can
end Go.Proofs.Ytopmheekeooodaa
