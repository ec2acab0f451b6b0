/- The orders of all classes, as a function of the bases. Plain. -/
import Derived.Test.YthmhcpfplmhgnaaMergeF
namespace Go.Proofs.Ythmhcpfplmhgnaa
set_option linter.unusedSimpArgs false
set_option linter.unusedVariables false

/-- The orders of the bases of a row: none if one has none. -/
def rowsF (f : Nat → Option (List Int)) : List Int → Option (List (List Int))
  | [] => some []
  | b :: r => match f b.toNat with
    | none => none
    | some l => match rowsF f r with
      | none => none
      | some ls => some (l :: ls)
def stepF (f : Nat → Option (List Int)) (row : List Int) (c : Nat) : Option (List Int) :=
  match rowsF f row with
  | none => none
  | some ls => if (mergeL (ls ++ [row])).2 then some ((c : Int) :: (mergeL (ls ++ [row])).1) else none
/-- The orders of the classes from 0 on to c - 1. -/
def tabF (bs : List (List Int)) : Nat → List (Option (List Int))
  | 0 => []
  | c + 1 => tabF bs c ++ [stepF (fun b => (tabF bs c).getD b none) (bs.getD c []) c]
def ordF (bs : List (List Int)) (c : Nat) : Option (List Int) := (tabF bs (c + 1)).getD c none

theorem tabF_len (bs : List (List Int)) : ∀ c, (tabF bs c).length = c
  | 0 => rfl
  | c + 1 => by simp [tabF, tabF_len bs c]
theorem tabF_at (bs : List (List Int)) : ∀ (c b : Nat), b < c → (tabF bs c).getD b none = ordF bs b
  | 0, b, h => absurd h (Nat.not_lt_zero _)
  | c + 1, b, h => by
    by_cases e : b = c
    · subst e; rfl
    · have ih := tabF_at bs c b (by omega)
      rw [← ih]
      simp only [tabF, List.getD_eq_getElem?_getD]
      rw [List.getElem?_append_left (by rw [tabF_len]; omega)]
theorem rowsF_congr {f g : Nat → Option (List Int)} : ∀ (row : List Int), (∀ b ∈ row, f b.toNat = g b.toNat) → rowsF f row = rowsF g row
  | [], _ => rfl
  | b :: r, h => by
    unfold rowsF
    rw [h b (by simp), rowsF_congr r (fun x hx => h x (List.mem_cons_of_mem _ hx))]
theorem ordF_step {bs : List (List Int)} (hf : Fits bs) (c : Nat) (hc : c < bs.length) : ordF bs c = stepF (ordF bs) bs[c] c := by
  unfold ordF
  rw [tabF]
  rw [List.getD_eq_getElem?_getD, List.getElem?_append_right (by rw [tabF_len]; exact Nat.le_refl _), tabF_len, Nat.sub_self]
  simp only [List.getElem?_cons_zero, Option.getD_some]
  have hbs : bs.getD c [] = bs[c] := by simp [List.getD_eq_getElem?_getD, hc]
  rw [hbs]
  unfold stepF
  rw [rowsF_congr (g := ordF bs) bs[c] (fun b hb => by
    have := (hf c hc).2 b hb
    exact tabF_at bs c b.toNat (by omega))]
  rfl
theorem rowsF_some {f : Nat → Option (List Int)} : ∀ {row : List Int} {ls : List (List Int)}, rowsF f row = some ls → ls.length = row.length ∧ ∀ i (h1 : i < row.length) (h2 : i < ls.length), f row[i].toNat = some ls[i]
  | [], ls, h => by simp [rowsF] at h; subst h; simp
  | b :: r, ls, h => by
    unfold rowsF at h
    cases hb : f b.toNat with
    | none => simp [hb] at h
    | some l =>
      cases hr : rowsF f r with
      | none => simp [hb, hr] at h
      | some ls' =>
        simp [hb, hr] at h
        subst h
        obtain ⟨h1, h2⟩ := rowsF_some hr
        refine ⟨by simp [h1], fun i hi hi' => ?_⟩
        cases i with
        | zero => simpa using hb
        | succ i => simpa using h2 i (by simpa using hi) (by simpa using hi')
theorem rowsF_none {f : Nat → Option (List Int)} : ∀ {row : List Int} (i : Nat) (h : i < row.length), f row[i].toNat = none → rowsF f row = none
  | [], i, h, _ => absurd h (Nat.not_lt_zero _)
  | b :: r, 0, _, h => by simp at h; simp [rowsF, h]
  | b :: r, i + 1, hi, h => by
    have := rowsF_none (row := r) i (by simpa using hi) (by simpa using h)
    unfold rowsF
    cases f b.toNat <;> simp [this]
theorem rowsF_take {f : Nat → Option (List Int)} : ∀ {row : List Int} {ls : List (List Int)}, ls.length = row.length → (∀ i (h1 : i < row.length) (h2 : i < ls.length), f row[i].toNat = some ls[i]) → rowsF f row = some ls
  | [], ls, hl, _ => by cases ls <;> simp at hl; rfl
  | b :: r, [], hl, _ => by simp at hl
  | b :: r, l :: ls, hl, h => by
    have h0 := h 0 (by simp) (by simp)
    have ih := rowsF_take (f := f) (row := r) (ls := ls) (by simpa using hl) (fun i h1 h2 => by have := h (i + 1) (by simpa using h1) (by simpa using h2); simpa only [List.getElem_cons_succ] using this)
    simp only [List.getElem_cons_zero] at h0
    simp [rowsF, h0, ih]

/-- What an order holds: numbers from 0 on to its class, and it is no longer than all lists that were merged. -/
theorem ordF_mem {bs : List (List Int)} (hf : Fits bs) : ∀ (n c : Nat), c < n → c < bs.length → ∀ l, ordF bs c = some l → ∀ x ∈ l, 0 ≤ x ∧ x ≤ c
  | 0, c, h, _ => absurd h (Nat.not_lt_zero _)
  | n + 1, c, h, hc => by
    intro l hl x hx
    rw [ordF_step hf c hc] at hl
    unfold stepF at hl
    cases hr : rowsF (ordF bs) bs[c] with
    | none => rw [hr] at hl; cases hl
    | some ls =>
      rw [hr] at hl
      obtain ⟨h1, h2⟩ := rowsF_some hr
      simp only at hl
      split at hl
      · simp only [Option.some.injEq] at hl
        subst hl
        rcases List.mem_cons.1 hx with rfl | hx
        · omega
        · obtain ⟨l', hl', hxl⟩ := mergeF_mem _ _ x hx
          rcases List.mem_append.1 hl' with hl' | hl'
          · obtain ⟨i, hi, rfl⟩ := List.getElem_of_mem hl'
            have hb := (hf c hc).2 bs[c][i] (List.getElem_mem _)
            have := ordF_mem hf n bs[c][i].toNat (by omega) (by omega) _ (h2 i (by omega) hi) x hxl
            omega
          · simp only [List.mem_singleton] at hl'
            subst hl'
            have := (hf c hc).2 x hxl
            omega
      · cases hl
theorem ordF_head {bs : List (List Int)} (hf : Fits bs) (c : Nat) (hc : c < bs.length) {l : List Int} (h : ordF bs c = some l) : ∃ t, l = (c : Int) :: t := by
  rw [ordF_step hf c hc] at h
  unfold stepF at h
  cases hr : rowsF (ordF bs) bs[c] with
  | none => rw [hr] at h; cases h
  | some ls =>
    rw [hr] at h
    simp only at h
    split at h
    · simp only [Option.some.injEq] at h; exact ⟨_, h.symm⟩
    · cases h

/-- Numbers below n, none twice: at most n. -/
theorem nodup_len : ∀ (n : Nat) (l : List Int), l.Nodup → (∀ x ∈ l, 0 ≤ x ∧ x < n) → l.length ≤ n
  | 0, l, _, h => by
    cases l with
    | nil => simp
    | cons x t => have := h x (by simp); omega
  | n + 1, l, hn, h => by
    have h1 := nodup_len n (l.erase (n : Int)) (hn.erase _) (fun x hx => by
      have hx' := List.mem_of_mem_erase hx
      have hne : x ≠ (n : Int) := by
        intro e; subst e
        exact (List.Nodup.not_mem_erase hn) hx
      have := h x hx'
      omega)
    rw [List.length_erase] at h1
    split at h1 <;> omega
theorem cut_gone {ls : List (List Int)} {c : Int} (h : ls.any (fun o => tailF o c) = false) : ∀ l ∈ ls.map (cutF c), c ∉ l := by
  intro l hl hc
  obtain ⟨l', hl', rfl⟩ := List.mem_map.1 hl
  have ht : tailF l' c = false := by
    have := List.any_eq_false.1 h l' hl'
    simpa using this
  have ht' : c ∉ l'.tail := fun hm => by
    unfold tailF at ht
    rw [(hasF_iff _ _).2 hm] at ht; cases ht
  cases l' with
  | nil => simp [cutF] at hc
  | cons y t =>
    simp only [cutF] at hc
    simp only [List.tail_cons] at ht'
    split at hc
    · exact ht' hc
    · rename_i hy
      rcases List.mem_cons.1 hc with e | hc
      · exact hy e.symm
      · exact ht' hc
theorem mergeF_nodup : ∀ (n : Nat) (ls : List (List Int)), (mergeF n ls).1.Nodup
  | 0, _ => by simp [mergeF]
  | n + 1, ls => by
    unfold mergeF
    cases hp : pickF ls ls with
    | none => simp
    | some c =>
      obtain ⟨t, _, ha⟩ := pickF_mem hp
      refine List.nodup_cons.2 ⟨fun hm => ?_, mergeF_nodup n _⟩
      obtain ⟨l, hl, hc⟩ := mergeF_mem n _ c hm
      exact cut_gone ha l hl hc
theorem ordF_len {bs : List (List Int)} (hf : Fits bs) (c : Nat) (hc : c < bs.length) {l : List Int} (h : ordF bs c = some l) : l.length ≤ c + 1 := by
  have hm := ordF_mem hf (c + 1) c (by omega) hc l h
  rw [ordF_step hf c hc] at h
  unfold stepF at h
  cases hr : rowsF (ordF bs) bs[c] with
  | none => rw [hr] at h; cases h
  | some ls =>
    rw [hr] at h
    obtain ⟨h1, h2⟩ := rowsF_some hr
    simp only at h
    split at h
    · simp only [Option.some.injEq] at h
      subst h
      have hb : ((mergeL (ls ++ [bs[c]])).1).length ≤ c := by
        refine nodup_len c _ (mergeF_nodup _ _) (fun x hx => ?_)
        obtain ⟨l', hl', hxl⟩ := mergeF_mem _ _ x hx
        rcases List.mem_append.1 hl' with hl' | hl'
        · obtain ⟨i, hi, rfl⟩ := List.getElem_of_mem hl'
          have hb := (hf c hc).2 bs[c][i] (List.getElem_mem _)
          have := ordF_mem hf (c + 1) bs[c][i].toNat (by omega) (by omega) _ (h2 i (by omega) hi) x hxl
          omega
        · simp only [List.mem_singleton] at hl'
          subst hl'
          have := (hf c hc).2 x hxl
          omega
      simp; omega
    · cases h
theorem row_len {bs : List (List Int)} (hf : Fits bs) (c : Nat) (hc : c < bs.length) : bs[c].length ≤ c := nodup_len c _ (hf c hc).1 (hf c hc).2
theorem total_le (m : Nat) : ∀ ls : List (List Int), (∀ l ∈ ls, l.length ≤ m) → total ls ≤ ls.length * m
  | [], _ => by simp [total]
  | l :: r, h => by
    have h1 := total_le m r (fun x hx => h x (List.mem_cons_of_mem _ hx))
    have h2 := h l (by simp)
    simp only [total, List.map_cons, List.sum_cons, List.length_cons] at *
    rw [Nat.add_mul]; omega
/-- What goes into the merge of a class is small. -/
theorem rows_small {bs : List (List Int)} (hf : Fits bs) (hb : bs.length ≤ 200) (c : Nat) (hc : c < bs.length) {ls : List (List Int)} (hl : ls.length ≤ bs[c].length) (h : ∀ i (h1 : i < bs[c].length) (h2 : i < ls.length), ordF bs bs[c][i].toNat = some ls[i]) :
    total (ls ++ [bs[c]]) ≤ 1000000 ∧ (ls ++ [bs[c]]).length ≤ 1000000 := by
  have hr := row_len hf c hc
  have hlen : (ls ++ [bs[c]]).length ≤ 201 := by simp; omega
  have := total_le 201 (ls ++ [bs[c]]) (fun l hm => by
    rcases List.mem_append.1 hm with hm | hm
    · obtain ⟨i, hi, rfl⟩ := List.getElem_of_mem hm
      have hb' := (hf c hc).2 (bs[c][i]'(by omega)) (List.getElem_mem _)
      have := ordF_len hf (bs[c][i]'(by omega)).toNat (by omega) (h i (by omega) hi)
      omega
    · simp only [List.mem_singleton] at hm
      subst hm; omega)
  refine ⟨Nat.le_trans this (Nat.le_trans (Nat.mul_le_mul_right _ hlen) (by decide)), by omega⟩
end Go.Proofs.Ythmhcpfplmhgnaa
