/- Mro, plain: orders of classes as functions of lists. No program in sight. -/
import Derived.WalkKit
namespace Go.Proofs.Ythmhcpfplmhgnaa
namespace Can
set_option linter.unusedSimpArgs false
set_option linter.unusedVariables false
/-- Where a number stands first; -1: nowhere. -/
def idxF (v : Int) : List Int → Int
  | [] => -1
  | x :: l => if v = x then 0 else if idxF v l < 0 then -1 else idxF v l + 1
theorem idxF_neg (v : Int) : ∀ l : List Int, (idxF v l < 0 ↔ v ∉ l) ∧ -1 ≤ idxF v l ∧ idxF v l < l.length
  | [] => by simp [idxF]
  | x :: l => by
    obtain ⟨h1, h2, h3⟩ := idxF_neg v l
    unfold idxF
    by_cases e : v = x
    · simp [e]
    · by_cases g : idxF v l < 0
      · simp [e, g, h1.1 g]; omega
      · have : v ∈ l := by
          have := mt h1.2 g
          simpa using this
        simp [e, g, this]; omega
theorem idxF_at (v : Int) : ∀ (l : List Int) (k : Nat) (h : k < l.length), (∀ j (hj : j < l.length), j < k → l[j] ≠ v) → l[k] = v → idxF v l = k
  | [], k, h, _, _ => absurd h (Nat.not_lt_zero _)
  | x :: l, 0, _, _, e => by simp only [List.getElem_cons_zero] at e; simp [idxF, e]
  | x :: l, k + 1, h, hn, e => by
    have h0 := hn 0 (by simp) (by omega)
    simp only [List.getElem_cons_zero] at h0
    have ih := idxF_at v l k (by simpa using h) (fun j hj hjk => by have := hn (j + 1) (by simp; omega) (by omega); simpa using this) (by simpa using e)
    have h0' : ¬ v = x := fun e => h0 e.symm
    unfold idxF
    rw [if_neg h0', if_neg (by omega), ih]; omega
theorem idxF_none (v : Int) (l : List Int) (hn : ∀ j (hj : j < l.length), l[j] ≠ v) : idxF v l = -1 := by
  have := idxF_neg v l
  have h : v ∉ l := by
    intro h
    obtain ⟨j, hj, e⟩ := List.getElem_of_mem h
    exact hn j hj e
  have := this.1.2 h
  omega
def hasF (v : Int) (l : List Int) : Bool := decide (0 ≤ idxF v l)
theorem hasF_iff (v : Int) (l : List Int) : hasF v l = true ↔ v ∈ l := by
  unfold hasF
  have := (idxF_neg v l).1
  by_cases h : v ∈ l
  · simp [h]
    rw [← Int.not_lt]
    intro g; exact this.1 g h
  · simp [h]
    have := this.2 h; omega
def tailF (l : List Int) (c : Int) : Bool := hasF c l.tail
/-- A class's bases fit: no number twice, each from 0 on and below the class. -/
def GoodRow (c : Nat) (l : List Int) : Prop := l.Nodup ∧ ∀ x ∈ l, 0 ≤ x ∧ x < c
def Fits (bs : List (List Int)) : Prop := ∀ c (h : c < bs.length), GoodRow c bs[c]
theorem nodup_take {l : List Int} (h : l.Nodup) (i : Nat) (hi : i < l.length) : l[i] ∉ l.take i := by
  intro hm
  obtain ⟨j, hj, e⟩ := List.getElem_of_mem hm
  have hj' : j < i := by simp at hj; omega
  rw [List.getElem_take] at e
  have := (List.getElem_inj h).1 e
  omega
theorem nodup_drop {l : List Int} (h : l.Nodup) (i : Nat) (hi : i < l.length) : l[i] ∉ l.drop (i + 1) := by
  intro hm
  obtain ⟨j, hj, e⟩ := List.getElem_of_mem hm
  have hj' : j < l.length - (i + 1) := by simpa using hj
  rw [List.getElem_drop] at e
  have := (List.getElem_inj h).1 e
  omega
theorem nodup_of_take {l : List Int} (h : ∀ i (hi : i < l.length), l[i] ∉ l.take i) : l.Nodup := by
  rw [List.nodup_iff_pairwise_ne, List.pairwise_iff_getElem]
  intro i j hi hj hij e
  exact h j hj (List.mem_iff_getElem.2 ⟨i, by simp; omega, by rw [List.getElem_take]; exact e⟩)
theorem nodup_of_drop {l : List Int} (h : ∀ i (hi : i < l.length), l[i] ∉ l.drop (i + 1)) : l.Nodup := by
  rw [List.nodup_iff_pairwise_ne, List.pairwise_iff_getElem]
  intro i j hi hj hij e
  exact h i hi (List.mem_iff_getElem.2 ⟨j - (i + 1), by simp; omega, by rw [List.getElem_drop]; simp only [show i + 1 + (j - (i + 1)) = j from by omega]; exact e.symm⟩)
/-- The head of a list, if no list has it behind its beginning. -/
def candF (ls : List (List Int)) : List Int → Option Int
  | [] => none
  | c :: _ => if ls.any (fun o => tailF o c) then none else some c
/-- The first of them. -/
def pickF (ls : List (List Int)) : List (List Int) → Option Int
  | [] => none
  | l :: r => match candF ls l with
    | some c => some c
    | none => pickF ls r
def cutF (c : Int) : List Int → List Int
  | [] => []
  | x :: t => if x = c then t else x :: t
def total (ls : List (List Int)) : Nat := (ls.map List.length).sum
def noneLeft (ls : List (List Int)) : Bool := ls.all List.isEmpty
def mergeF : Nat → List (List Int) → List Int × Bool
  | 0, ls => ([], noneLeft ls)
  | n + 1, ls => match pickF ls ls with
    | none => ([], noneLeft ls)
    | some c => (c :: (mergeF n (ls.map (cutF c))).1, (mergeF n (ls.map (cutF c))).2)
def mergeL (ls : List (List Int)) : List Int × Bool := mergeF (total ls) ls
theorem cutF_le (c : Int) (l : List Int) : (cutF c l).length ≤ l.length := by
  cases l with
  | nil => simp [cutF]
  | cons x t => simp only [cutF]; split <;> simp
theorem total_cut_le (c : Int) : ∀ ls : List (List Int), total (ls.map (cutF c)) ≤ total ls
  | [] => Nat.le_refl _
  | l :: r => by
    have := total_cut_le c r
    have h := cutF_le c l
    simp only [total, List.map_cons, List.sum_cons] at *; omega
theorem pickF_mem {ls : List (List Int)} {c : Int} : ∀ {r : List (List Int)}, pickF ls r = some c → ∃ t, (c :: t) ∈ r ∧ ls.any (fun o => tailF o c) = false
  | [], h => by simp [pickF] at h
  | l :: r, h => by
    unfold pickF at h
    cases hc : candF ls l with
    | none =>
      rw [hc] at h
      obtain ⟨t, ht, ha⟩ := pickF_mem h
      exact ⟨t, List.mem_cons_of_mem _ ht, ha⟩
    | some d =>
      rw [hc] at h
      simp only [Option.some.injEq] at h
      subst h
      cases l with
      | nil => simp [candF] at hc
      | cons x t =>
        simp only [candF] at hc
        split at hc
        · cases hc
        · rename_i hn
          simp only [Option.some.injEq] at hc
          subst hc
          exact ⟨t, by simp, by simpa using hn⟩
theorem total_cut_lt {c : Int} {t : List Int} : ∀ {ls : List (List Int)}, (c :: t) ∈ ls → total (ls.map (cutF c)) < total ls
  | [], h => by simp at h
  | l :: r, h => by
    rcases List.mem_cons.1 h with rfl | h
    · have := total_cut_le c r
      simp only [total, List.map_cons, List.sum_cons, cutF, if_true, List.length_cons] at *; omega
    · have := total_cut_lt h
      have h' := cutF_le c l
      simp only [total, List.map_cons, List.sum_cons] at *; omega
theorem total_pick {ls : List (List Int)} {c : Int} (h : pickF ls ls = some c) : total (ls.map (cutF c)) < total ls := by
  obtain ⟨t, ht, _⟩ := pickF_mem h
  exact total_cut_lt ht
theorem mergeF_fuel : ∀ (n m : Nat) (ls : List (List Int)), total ls ≤ n → total ls ≤ m → mergeF n ls = mergeF m ls
  | 0, 0, _, _, _ => rfl
  | 0, m + 1, ls, h, _ => by
    cases hp : pickF ls ls with
    | none => simp [mergeF, hp]
    | some c => have := total_pick hp; omega
  | n + 1, 0, ls, _, h => by
    cases hp : pickF ls ls with
    | none => simp [mergeF, hp]
    | some c => have := total_pick hp; omega
  | n + 1, m + 1, ls, h, h' => by
    cases hp : pickF ls ls with
    | none => simp [mergeF, hp]
    | some c =>
      have := total_pick hp
      simp only [mergeF, hp]
      rw [mergeF_fuel n m _ (by omega) (by omega)]
theorem mergeL_none {ls : List (List Int)} (h : pickF ls ls = none) : mergeL ls = ([], noneLeft ls) := by
  unfold mergeL
  cases total ls <;> simp [mergeF, h]
theorem mergeL_some {ls : List (List Int)} {c : Int} (h : pickF ls ls = some c) : mergeL ls = (c :: (mergeL (ls.map (cutF c))).1, (mergeL (ls.map (cutF c))).2) := by
  have ht := total_pick h
  unfold mergeL
  obtain ⟨n, hn⟩ : ∃ n, total ls = n + 1 := ⟨total ls - 1, by omega⟩
  rw [hn]
  simp only [mergeF, h]
  rw [mergeF_fuel n (total (ls.map (cutF c))) _ (by omega) (Nat.le_refl _)]
/-- All that is merged stood in a list. -/
theorem mergeF_mem : ∀ (n : Nat) (ls : List (List Int)) (x : Int), x ∈ (mergeF n ls).1 → ∃ l ∈ ls, x ∈ l
  | 0, _, _, h => by simp [mergeF] at h
  | n + 1, ls, x, h => by
    unfold mergeF at h
    cases hp : pickF ls ls with
    | none => rw [hp] at h; simp at h
    | some c =>
      rw [hp] at h
      obtain ⟨t, ht, _⟩ := pickF_mem hp
      rcases List.mem_cons.1 h with rfl | h
      · exact ⟨_, ht, by simp⟩
      · obtain ⟨l, hl, hx⟩ := mergeF_mem n _ x h
        obtain ⟨l', hl', rfl⟩ := List.mem_map.1 hl
        refine ⟨l', hl', ?_⟩
        cases l' with
        | nil => simp [cutF] at hx
        | cons y t =>
          simp only [cutF] at hx
          split at hx
          · exact List.mem_cons_of_mem _ hx
          · exact hx
theorem mergeF_len : ∀ (n : Nat) (ls : List (List Int)), (mergeF n ls).1.length ≤ n
  | 0, _ => by simp [mergeF]
  | n + 1, ls => by
    unfold mergeF
    cases hp : pickF ls ls with
    | none => simp
    | some c => have := mergeF_len n (ls.map (cutF c)); simp; omega
theorem pick_skip {ls : List (List Int)} {k : Nat} (hk : k < ls.length) (hp : pickF ls ls = pickF ls (ls.drop k)) (hc : candF ls ls[k] = none) : pickF ls ls = pickF ls (ls.drop (k + 1)) := by
  rw [hp, List.drop_eq_getElem_cons hk, pickF, hc]
theorem pick_here {ls : List (List Int)} {k : Nat} {c : Int} (hk : k < ls.length) (hp : pickF ls ls = pickF ls (ls.drop k)) (hc : candF ls ls[k] = some c) : pickF ls ls = some c := by
  rw [hp, List.drop_eq_getElem_cons hk, pickF, hc]
theorem noneLeft_take (ls : List (List Int)) (k : Nat) (hk : k < ls.length) : noneLeft (ls.take (k + 1)) = (noneLeft (ls.take k) && ls[k].isEmpty) := by
  unfold noneLeft; rw [List.take_succ_eq_append_getElem hk, List.all_append]; simp
/-- The lists, cut at their heads as far as the j-th. -/
def cutTo (c : Int) (j : Nat) (ls : List (List Int)) : List (List Int) := (ls.take j).map (cutF c) ++ ls.drop j
theorem cutTo_len (c : Int) (j : Nat) (ls : List (List Int)) (hj : j ≤ ls.length) : (cutTo c j ls).length = ls.length := by simp [cutTo]; omega
theorem cutTo_at (c : Int) (j : Nat) (ls : List (List Int)) (hj : j < ls.length) (h : j < (cutTo c j ls).length) : (cutTo c j ls)[j] = ls[j] := by
  simp only [cutTo]
  rw [List.getElem_append_right (by simp; omega)]
  simp [show min j ls.length = j from by omega]
theorem cutTo_succ (c : Int) (j : Nat) (ls : List (List Int)) (hj : j < ls.length) : cutTo c (j + 1) ls = (cutTo c j ls).set j (cutF c ls[j]) := by
  unfold cutTo
  rw [List.take_succ_eq_append_getElem hj, List.map_append, List.set_append_right _ _ (by simp; omega)]
  simp only [List.length_map, List.length_take, show min j ls.length = j from by omega, Nat.sub_self]
  rw [List.drop_eq_getElem_cons hj]
  simp only [List.set_cons_zero, List.append_assoc, List.singleton_append, List.map_cons, List.map_nil]
theorem cutTo_all (c : Int) (ls : List (List Int)) : cutTo c ls.length ls = ls.map (cutF c) := by simp [cutTo]
theorem cutF_same {c : Int} {l : List Int} (h : ∀ x, l.head? = some x → x ≠ c) : cutF c l = l := by
  cases l with
  | nil => rfl
  | cons x t => simp only [cutF]; rw [if_neg (h x rfl)]
/-- The orders of the bases of a row: none if one has none. -/
def rowsF (f : Nat → Option (List Int)) : List Int → Option (List (List Int))
  | [] => some []
  | b :: r => match f b.toNat with
    | none => none
    | some l => match rowsF f r with
      | none => none
      | some ls => some (l :: ls)
def stepF (f : Nat → Option (List Int)) (row : List Int) (c : Nat) : Option (List Int) :=
  match rowsF f row with
  | none => none
  | some ls => if (mergeL (ls ++ [row])).2 then some ((c : Int) :: (mergeL (ls ++ [row])).1) else none
/-- The orders of the classes from 0 on to c - 1. -/
def tabF (bs : List (List Int)) : Nat → List (Option (List Int))
  | 0 => []
  | c + 1 => tabF bs c ++ [stepF (fun b => (tabF bs c).getD b none) (bs.getD c []) c]
def ordF (bs : List (List Int)) (c : Nat) : Option (List Int) := (tabF bs (c + 1)).getD c none
theorem tabF_len (bs : List (List Int)) : ∀ c, (tabF bs c).length = c
  | 0 => rfl
  | c + 1 => by simp [tabF, tabF_len bs c]
theorem tabF_at (bs : List (List Int)) : ∀ (c b : Nat), b < c → (tabF bs c).getD b none = ordF bs b
  | 0, b, h => absurd h (Nat.not_lt_zero _)
  | c + 1, b, h => by
    by_cases e : b = c
    · subst e; rfl
    · have ih := tabF_at bs c b (by omega)
      rw [← ih]
      simp only [tabF, List.getD_eq_getElem?_getD]
      rw [List.getElem?_append_left (by rw [tabF_len]; omega)]
theorem rowsF_congr {f g : Nat → Option (List Int)} : ∀ (row : List Int), (∀ b ∈ row, f b.toNat = g b.toNat) → rowsF f row = rowsF g row
  | [], _ => rfl
  | b :: r, h => by
    unfold rowsF
    rw [h b (by simp), rowsF_congr r (fun x hx => h x (List.mem_cons_of_mem _ hx))]
theorem ordF_step {bs : List (List Int)} (hf : Fits bs) (c : Nat) (hc : c < bs.length) : ordF bs c = stepF (ordF bs) bs[c] c := by
  unfold ordF
  rw [tabF]
  rw [List.getD_eq_getElem?_getD, List.getElem?_append_right (by rw [tabF_len]; exact Nat.le_refl _), tabF_len, Nat.sub_self]
  simp only [List.getElem?_cons_zero, Option.getD_some]
  have hbs : bs.getD c [] = bs[c] := by simp [List.getD_eq_getElem?_getD, hc]
  rw [hbs]
  unfold stepF
  rw [rowsF_congr (g := ordF bs) bs[c] (fun b hb => by
    have := (hf c hc).2 b hb
    exact tabF_at bs c b.toNat (by omega))]
  rfl
theorem rowsF_some {f : Nat → Option (List Int)} : ∀ {row : List Int} {ls : List (List Int)}, rowsF f row = some ls → ls.length = row.length ∧ ∀ i (h1 : i < row.length) (h2 : i < ls.length), f row[i].toNat = some ls[i]
  | [], ls, h => by simp [rowsF] at h; subst h; simp
  | b :: r, ls, h => by
    unfold rowsF at h
    cases hb : f b.toNat with
    | none => simp [hb] at h
    | some l =>
      cases hr : rowsF f r with
      | none => simp [hb, hr] at h
      | some ls' =>
        simp [hb, hr] at h
        subst h
        obtain ⟨h1, h2⟩ := rowsF_some hr
        refine ⟨by simp [h1], fun i hi hi' => ?_⟩
        cases i with
        | zero => simpa using hb
        | succ i => simpa using h2 i (by simpa using hi) (by simpa using hi')
theorem rowsF_none {f : Nat → Option (List Int)} : ∀ {row : List Int} (i : Nat) (h : i < row.length), f row[i].toNat = none → rowsF f row = none
  | [], i, h, _ => absurd h (Nat.not_lt_zero _)
  | b :: r, 0, _, h => by simp at h; simp [rowsF, h]
  | b :: r, i + 1, hi, h => by
    have := rowsF_none (row := r) i (by simpa using hi) (by simpa using h)
    unfold rowsF
    cases f b.toNat <;> simp [this]
theorem rowsF_take {f : Nat → Option (List Int)} : ∀ {row : List Int} {ls : List (List Int)}, ls.length = row.length → (∀ i (h1 : i < row.length) (h2 : i < ls.length), f row[i].toNat = some ls[i]) → rowsF f row = some ls
  | [], ls, hl, _ => by cases ls <;> simp at hl; rfl
  | b :: r, [], hl, _ => by simp at hl
  | b :: r, l :: ls, hl, h => by
    have h0 := h 0 (by simp) (by simp)
    have ih := rowsF_take (f := f) (row := r) (ls := ls) (by simpa using hl) (fun i h1 h2 => by have := h (i + 1) (by simpa using h1) (by simpa using h2); simpa only [List.getElem_cons_succ] using this)
    simp only [List.getElem_cons_zero] at h0
    simp [rowsF, h0, ih]
/-- What an order holds: numbers from 0 on to its class, and it is no longer than all lists that were merged. -/
theorem ordF_mem {bs : List (List Int)} (hf : Fits bs) : ∀ (n c : Nat), c < n → c < bs.length → ∀ l, ordF bs c = some l → ∀ x ∈ l, 0 ≤ x ∧ x ≤ c
  | 0, c, h, _ => absurd h (Nat.not_lt_zero _)
  | n + 1, c, h, hc => by
    intro l hl x hx
    rw [ordF_step hf c hc] at hl
    unfold stepF at hl
    cases hr : rowsF (ordF bs) bs[c] with
    | none => rw [hr] at hl; cases hl
    | some ls =>
      rw [hr] at hl
      obtain ⟨h1, h2⟩ := rowsF_some hr
      simp only at hl
      split at hl
      · simp only [Option.some.injEq] at hl
        subst hl
        rcases List.mem_cons.1 hx with rfl | hx
        · omega
        · obtain ⟨l', hl', hxl⟩ := mergeF_mem _ _ x hx
          rcases List.mem_append.1 hl' with hl' | hl'
          · obtain ⟨i, hi, rfl⟩ := List.getElem_of_mem hl'
            have hb := (hf c hc).2 bs[c][i] (List.getElem_mem _)
            have := ordF_mem hf n bs[c][i].toNat (by omega) (by omega) _ (h2 i (by omega) hi) x hxl
            omega
          · simp only [List.mem_singleton] at hl'
            subst hl'
            have := (hf c hc).2 x hxl
            omega
      · cases hl
theorem ordF_head {bs : List (List Int)} (hf : Fits bs) (c : Nat) (hc : c < bs.length) {l : List Int} (h : ordF bs c = some l) : ∃ t, l = (c : Int) :: t := by
  rw [ordF_step hf c hc] at h
  unfold stepF at h
  cases hr : rowsF (ordF bs) bs[c] with
  | none => rw [hr] at h; cases h
  | some ls =>
    rw [hr] at h
    simp only at h
    split at h
    · simp only [Option.some.injEq] at h; exact ⟨_, h.symm⟩
    · cases h
/-- Numbers below n, none twice: at most n. -/
theorem nodup_len : ∀ (n : Nat) (l : List Int), l.Nodup → (∀ x ∈ l, 0 ≤ x ∧ x < n) → l.length ≤ n
  | 0, l, _, h => by
    cases l with
    | nil => simp
    | cons x t => have := h x (by simp); omega
  | n + 1, l, hn, h => by
    have h1 := nodup_len n (l.erase (n : Int)) (hn.erase _) (fun x hx => by
      have hx' := List.mem_of_mem_erase hx
      have hne : x ≠ (n : Int) := by
        intro e; subst e
        exact (List.Nodup.not_mem_erase hn) hx
      have := h x hx'
      omega)
    rw [List.length_erase] at h1
    split at h1 <;> omega
theorem cut_gone {ls : List (List Int)} {c : Int} (h : ls.any (fun o => tailF o c) = false) : ∀ l ∈ ls.map (cutF c), c ∉ l := by
  intro l hl hc
  obtain ⟨l', hl', rfl⟩ := List.mem_map.1 hl
  have ht : tailF l' c = false := by
    have := List.any_eq_false.1 h l' hl'
    simpa using this
  have ht' : c ∉ l'.tail := fun hm => by
    unfold tailF at ht
    rw [(hasF_iff _ _).2 hm] at ht; cases ht
  cases l' with
  | nil => simp [cutF] at hc
  | cons y t =>
    simp only [cutF] at hc
    simp only [List.tail_cons] at ht'
    split at hc
    · exact ht' hc
    · rename_i hy
      rcases List.mem_cons.1 hc with e | hc
      · exact hy e.symm
      · exact ht' hc
theorem mergeF_nodup : ∀ (n : Nat) (ls : List (List Int)), (mergeF n ls).1.Nodup
  | 0, _ => by simp [mergeF]
  | n + 1, ls => by
    unfold mergeF
    cases hp : pickF ls ls with
    | none => simp
    | some c =>
      obtain ⟨t, _, ha⟩ := pickF_mem hp
      refine List.nodup_cons.2 ⟨fun hm => ?_, mergeF_nodup n _⟩
      obtain ⟨l, hl, hc⟩ := mergeF_mem n _ c hm
      exact cut_gone ha l hl hc
theorem ordF_len {bs : List (List Int)} (hf : Fits bs) (c : Nat) (hc : c < bs.length) {l : List Int} (h : ordF bs c = some l) : l.length ≤ c + 1 := by
  have hm := ordF_mem hf (c + 1) c (by omega) hc l h
  rw [ordF_step hf c hc] at h
  unfold stepF at h
  cases hr : rowsF (ordF bs) bs[c] with
  | none => rw [hr] at h; cases h
  | some ls =>
    rw [hr] at h
    obtain ⟨h1, h2⟩ := rowsF_some hr
    simp only at h
    split at h
    · simp only [Option.some.injEq] at h
      subst h
      have hb : ((mergeL (ls ++ [bs[c]])).1).length ≤ c := by
        refine nodup_len c _ (mergeF_nodup _ _) (fun x hx => ?_)
        obtain ⟨l', hl', hxl⟩ := mergeF_mem _ _ x hx
        rcases List.mem_append.1 hl' with hl' | hl'
        · obtain ⟨i, hi, rfl⟩ := List.getElem_of_mem hl'
          have hb := (hf c hc).2 bs[c][i] (List.getElem_mem _)
          have := ordF_mem hf (c + 1) bs[c][i].toNat (by omega) (by omega) _ (h2 i (by omega) hi) x hxl
          omega
        · simp only [List.mem_singleton] at hl'
          subst hl'
          have := (hf c hc).2 x hxl
          omega
      simp; omega
    · cases h
theorem row_len {bs : List (List Int)} (hf : Fits bs) (c : Nat) (hc : c < bs.length) : bs[c].length ≤ c := nodup_len c _ (hf c hc).1 (hf c hc).2
theorem total_le (m : Nat) : ∀ ls : List (List Int), (∀ l ∈ ls, l.length ≤ m) → total ls ≤ ls.length * m
  | [], _ => by simp [total]
  | l :: r, h => by
    have h1 := total_le m r (fun x hx => h x (List.mem_cons_of_mem _ hx))
    have h2 := h l (by simp)
    simp only [total, List.map_cons, List.sum_cons, List.length_cons] at *
    rw [Nat.add_mul]; omega
/-- What goes into the merge of a class is small. -/
theorem rows_small {bs : List (List Int)} (hf : Fits bs) (hb : bs.length ≤ 200) (c : Nat) (hc : c < bs.length) {ls : List (List Int)} (hl : ls.length ≤ bs[c].length) (h : ∀ i (h1 : i < bs[c].length) (h2 : i < ls.length), ordF bs bs[c][i].toNat = some ls[i]) :
    total (ls ++ [bs[c]]) ≤ 1000000 ∧ (ls ++ [bs[c]]).length ≤ 1000000 := by
  have hr := row_len hf c hc
  have hlen : (ls ++ [bs[c]]).length ≤ 201 := by simp; omega
  have := total_le 201 (ls ++ [bs[c]]) (fun l hm => by
    rcases List.mem_append.1 hm with hm | hm
    · obtain ⟨i, hi, rfl⟩ := List.getElem_of_mem hm
      have hb' := (hf c hc).2 (bs[c][i]'(by omega)) (List.getElem_mem _)
      have := ordF_len hf (bs[c][i]'(by omega)).toNat (by omega) (h i (by omega) hi)
      omega
    · simp only [List.mem_singleton] at hm
      subst hm; omega)
  refine ⟨Nat.le_trans this (Nat.le_trans (Nat.mul_le_mul_right _ hlen) (by decide)), by omega⟩
end Can
end Go.Proofs.Ythmhcpfplmhgnaa
