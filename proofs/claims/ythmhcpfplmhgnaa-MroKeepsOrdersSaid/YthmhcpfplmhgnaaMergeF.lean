/- The merge of lists, as a function of lists. Plain. -/
import Derived.Test.YthmhcpfplmhgnaaFits
namespace Go.Proofs.Ythmhcpfplmhgnaa
set_option linter.unusedSimpArgs false
set_option linter.unusedVariables false

/-- The head of a list, if no list has it behind its beginning. -/
def candF (ls : List (List Int)) : List Int → Option Int
  | [] => none
  | c :: _ => if ls.any (fun o => tailF o c) then none else some c
/-- The first of them. -/
def pickF (ls : List (List Int)) : List (List Int) → Option Int
  | [] => none
  | l :: r => match candF ls l with
    | some c => some c
    | none => pickF ls r
def cutF (c : Int) : List Int → List Int
  | [] => []
  | x :: t => if x = c then t else x :: t
def total (ls : List (List Int)) : Nat := (ls.map List.length).sum
def noneLeft (ls : List (List Int)) : Bool := ls.all List.isEmpty
def mergeF : Nat → List (List Int) → List Int × Bool
  | 0, ls => ([], noneLeft ls)
  | n + 1, ls => match pickF ls ls with
    | none => ([], noneLeft ls)
    | some c => (c :: (mergeF n (ls.map (cutF c))).1, (mergeF n (ls.map (cutF c))).2)
def mergeL (ls : List (List Int)) : List Int × Bool := mergeF (total ls) ls

theorem cutF_le (c : Int) (l : List Int) : (cutF c l).length ≤ l.length := by
  cases l with
  | nil => simp [cutF]
  | cons x t => simp only [cutF]; split <;> simp
theorem total_cut_le (c : Int) : ∀ ls : List (List Int), total (ls.map (cutF c)) ≤ total ls
  | [] => Nat.le_refl _
  | l :: r => by
    have := total_cut_le c r
    have h := cutF_le c l
    simp only [total, List.map_cons, List.sum_cons] at *; omega
theorem pickF_mem {ls : List (List Int)} {c : Int} : ∀ {r : List (List Int)}, pickF ls r = some c → ∃ t, (c :: t) ∈ r ∧ ls.any (fun o => tailF o c) = false
  | [], h => by simp [pickF] at h
  | l :: r, h => by
    unfold pickF at h
    cases hc : candF ls l with
    | none =>
      rw [hc] at h
      obtain ⟨t, ht, ha⟩ := pickF_mem h
      exact ⟨t, List.mem_cons_of_mem _ ht, ha⟩
    | some d =>
      rw [hc] at h
      simp only [Option.some.injEq] at h
      subst h
      cases l with
      | nil => simp [candF] at hc
      | cons x t =>
        simp only [candF] at hc
        split at hc
        · cases hc
        · rename_i hn
          simp only [Option.some.injEq] at hc
          subst hc
          exact ⟨t, by simp, by simpa using hn⟩
theorem total_cut_lt {c : Int} {t : List Int} : ∀ {ls : List (List Int)}, (c :: t) ∈ ls → total (ls.map (cutF c)) < total ls
  | [], h => by simp at h
  | l :: r, h => by
    rcases List.mem_cons.1 h with rfl | h
    · have := total_cut_le c r
      simp only [total, List.map_cons, List.sum_cons, cutF, if_true, List.length_cons] at *; omega
    · have := total_cut_lt h
      have h' := cutF_le c l
      simp only [total, List.map_cons, List.sum_cons] at *; omega
theorem total_pick {ls : List (List Int)} {c : Int} (h : pickF ls ls = some c) : total (ls.map (cutF c)) < total ls := by
  obtain ⟨t, ht, _⟩ := pickF_mem h
  exact total_cut_lt ht
theorem mergeF_fuel : ∀ (n m : Nat) (ls : List (List Int)), total ls ≤ n → total ls ≤ m → mergeF n ls = mergeF m ls
  | 0, 0, _, _, _ => rfl
  | 0, m + 1, ls, h, _ => by
    cases hp : pickF ls ls with
    | none => simp [mergeF, hp]
    | some c => have := total_pick hp; omega
  | n + 1, 0, ls, _, h => by
    cases hp : pickF ls ls with
    | none => simp [mergeF, hp]
    | some c => have := total_pick hp; omega
  | n + 1, m + 1, ls, h, h' => by
    cases hp : pickF ls ls with
    | none => simp [mergeF, hp]
    | some c =>
      have := total_pick hp
      simp only [mergeF, hp]
      rw [mergeF_fuel n m _ (by omega) (by omega)]
theorem mergeL_none {ls : List (List Int)} (h : pickF ls ls = none) : mergeL ls = ([], noneLeft ls) := by
  unfold mergeL
  cases total ls <;> simp [mergeF, h]
theorem mergeL_some {ls : List (List Int)} {c : Int} (h : pickF ls ls = some c) : mergeL ls = (c :: (mergeL (ls.map (cutF c))).1, (mergeL (ls.map (cutF c))).2) := by
  have ht := total_pick h
  unfold mergeL
  obtain ⟨n, hn⟩ : ∃ n, total ls = n + 1 := ⟨total ls - 1, by omega⟩
  rw [hn]
  simp only [mergeF, h]
  rw [mergeF_fuel n (total (ls.map (cutF c))) _ (by omega) (Nat.le_refl _)]
/-- All that is merged stood in a list. -/
theorem mergeF_mem : ∀ (n : Nat) (ls : List (List Int)) (x : Int), x ∈ (mergeF n ls).1 → ∃ l ∈ ls, x ∈ l
  | 0, _, _, h => by simp [mergeF] at h
  | n + 1, ls, x, h => by
    unfold mergeF at h
    cases hp : pickF ls ls with
    | none => rw [hp] at h; simp at h
    | some c =>
      rw [hp] at h
      obtain ⟨t, ht, _⟩ := pickF_mem hp
      rcases List.mem_cons.1 h with rfl | h
      · exact ⟨_, ht, by simp⟩
      · obtain ⟨l, hl, hx⟩ := mergeF_mem n _ x h
        obtain ⟨l', hl', rfl⟩ := List.mem_map.1 hl
        refine ⟨l', hl', ?_⟩
        cases l' with
        | nil => simp [cutF] at hx
        | cons y t =>
          simp only [cutF] at hx
          split at hx
          · exact List.mem_cons_of_mem _ hx
          · exact hx
theorem mergeF_len : ∀ (n : Nat) (ls : List (List Int)), (mergeF n ls).1.length ≤ n
  | 0, _ => by simp [mergeF]
  | n + 1, ls => by
    unfold mergeF
    cases hp : pickF ls ls with
    | none => simp
    | some c => have := mergeF_len n (ls.map (cutF c)); simp; omega
end Go.Proofs.Ythmhcpfplmhgnaa
