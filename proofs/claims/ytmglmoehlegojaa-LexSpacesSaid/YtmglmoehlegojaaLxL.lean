/- Lex: what stands behind a row's end turns nothing in it. No program in sight. -/
import Derived.Test.YtmglmoehlegojaaLxF
namespace Go.Proofs.Ytmglmoehlegojaa
namespace Can
set_option linter.unusedSimpArgs false
set_option linter.unusedVariables false
/-- What may stand behind a row: nothing, or its end. -/
def Nl (u : List UInt8) : Prop := u = [] ∨ ∃ r, u = 10 :: r
theorem Nl.hd {u : List UInt8} (h : Nl u) : hd u = 0 ∨ hd u = 10 := by
  rcases h with rfl | ⟨r, rfl⟩
  · exact .inl rfl
  · exact .inr rfl
theorem hd_app {t u : List UInt8} (h : Nl u) : hd (t ++ u) = hd t ∨ (t = [] ∧ hd (t ++ u) = 10) := by
  cases t with
  | nil =>
    rcases h.hd with g | g
    · exact .inl g
    · exact .inr ⟨rfl, g⟩
  | cons c r => exact .inl rfl
/-- A test that tells the end of a row from nothing not. -/
theorem p_app {α : Type} {p : Nat → α} {t u : List UInt8} (h : Nl u) (hp : p 10 = p 0) : p (hd (t ++ u)) = p (hd t) := by
  rcases hd_app (t := t) h with g | ⟨rfl, g⟩
  · rw [g]
  · rw [g, hp]; rfl
theorem nW_app {p : Nat → Bool} (hp : p 10 = false) : ∀ {t u : List UInt8}, Nl u → nW p (t ++ u) = nW p t
  | [], u, h => by
    rcases h with rfl | ⟨r, rfl⟩
    · rfl
    · show nW p (10 :: r) = 0
      rw [nW, if_neg (by show ¬ p 10 = true; simp [hp])]
  | c :: t, u, h => by
    simp only [List.cons_append, nW]
    rw [nW_app hp h]
theorem drop_app {t u : List UInt8} {j : Nat} (h : j ≤ t.length) : (t ++ u).drop j = t.drop j ++ u := List.drop_append_of_le_length h
theorem digN_app {t u : List UInt8} (h : Nl u) : digN (t ++ u) = digN t := nW_app (by decide) h
theorem digN_len {t : List UInt8} : digN t ≤ t.length := nW_le
theorem hd_ne {t : List UInt8} (h : hd t ≠ 0) : 1 ≤ t.length := hd_pos h
theorem dig_len {t : List UInt8} {j : Nat} (h : isDigN (hd (t.drop j)) = true) : j + 1 ≤ t.length := by
  have : hd (t.drop j) ≠ 0 := fun e => by rw [e] at h; cases h
  have := hd_pos this
  simp at this; omega
theorem fracN_app {t u : List UInt8} (h : Nl u) : fracN (t ++ u) = fracN t := by
  unfold fracN
  by_cases c : hd t = 46
  · have hl := hd_ne (t := t) (by omega)
    have e1 : hd (t ++ u) = 46 := by
      rcases hd_app (t := t) h with g | ⟨rfl, g⟩
      · rw [g, c]
      · cases c
    rw [drop_app hl, p_app (p := isDigN) h (by decide), digN_app h, e1, c]
  · have e1 : hd (t ++ u) ≠ 46 := by
      rcases hd_app (t := t) h with g | ⟨rfl, g⟩
      · rw [g]; exact c
      · rw [g]; decide
    rw [if_neg (fun g => e1 g.1), if_neg (fun g => c g.1)]
theorem expN_app {t u : List UInt8} (h : Nl u) : expN (t ++ u) = expN t := by
  unfold expN
  by_cases c : hd t = 101
  · have hl := hd_ne (t := t) (by omega)
    have e1 : hd (t ++ u) = 101 := by
      rcases hd_app (t := t) h with g | ⟨rfl, g⟩
      · rw [g, c]
      · cases c
    rw [if_pos e1, if_pos c, drop_app hl, p_app (p := isDigN) h (by decide), digN_app h]
    have e2 : (hd (t.drop 1 ++ u) = 43 ∨ hd (t.drop 1 ++ u) = 45) ↔ (hd (t.drop 1) = 43 ∨ hd (t.drop 1) = 45) := by
      exact decide_eq_decide.1 (p_app (p := fun n => decide (n = 43 ∨ n = 45)) (t := t.drop 1) h (by decide))
    by_cases c2 : hd (t.drop 1) = 43 ∨ hd (t.drop 1) = 45
    · have hl2 : 2 ≤ t.length := by
        have := hd_ne (t := t.drop 1) (by omega)
        simp at this; omega
      rw [drop_app hl2, p_app (p := isDigN) h (by decide), digN_app h]
      simp only [e2]
    · by_cases cd : isDigN (hd (t.drop 1)) = true
      · rw [if_pos cd, if_pos cd]
      · rw [if_neg cd, if_neg cd, if_neg (fun g => c2 (e2.1 g.1)), if_neg (fun g => c2 g.1)]
  · have e1 : hd (t ++ u) ≠ 101 := by
      rcases hd_app (t := t) h with g | ⟨rfl, g⟩
      · rw [g]; exact c
      · rw [g]; decide
    rw [if_neg e1, if_neg c]
theorem fracN_len {l : List UInt8} : fracN l ≤ l.length := by
  unfold fracN
  split
  · rename_i g
    have h1 := dig_len g.2
    have := digN_len (t := l.drop 1)
    simp only [List.length_drop] at this; omega
  · omega
theorem expN_len {l : List UInt8} : expN l ≤ l.length := by
  unfold expN
  have h1 := digN_len (t := l.drop 1)
  have h2 := digN_len (t := l.drop 2)
  simp only [List.length_drop] at h1 h2
  split
  · split
    · rename_i g; have := dig_len g; omega
    · split
      · rename_i g; have := dig_len g.2; omega
      · omega
  · omega
theorem numA_len {l : List UInt8} : numA l ≤ l.length := by
  have h1 := digN_len (t := l)
  have h2 := fracN_len (l := l.drop (digN l))
  simp only [List.length_drop] at h2
  unfold numA; omega
theorem numN_len {l : List UInt8} : numN l ≤ l.length := by
  have h1 := numA_len (l := l)
  have h3 := expN_len (l := l.drop (numA l))
  simp only [List.length_drop] at h3
  unfold numN; omega
theorem numA_app {t u : List UInt8} (h : Nl u) : numA (t ++ u) = numA t := by
  unfold numA
  rw [digN_app h, drop_app digN_len, fracN_app h]
theorem numN_app {t u : List UInt8} (h : Nl u) : numN (t ++ u) = numN t := by
  unfold numN
  rw [numA_app h, drop_app numA_len, expN_app h]
theorem numK_app {t u : List UInt8} (h : Nl u) : numK (t ++ u) = numK t := by
  unfold numK
  rw [digN_app h, numA_app h, drop_app digN_len, drop_app numA_len, fracN_app h, expN_app h]
theorem numBad_app {t u : List UInt8} (h : Nl u) (ht : 0 < t.length) : numBad (t ++ u) = numBad t := by
  unfold numBad
  rw [numN_app h, numK_app h, drop_app numN_len, p_app (p := isLetN) h (by decide), p_app (p := fun n => decide (n = 46)) h (by decide)]
  have : hd (t ++ u) = hd t := by
    rcases hd_app (t := t) h with g | ⟨rfl, _⟩
    · exact g
    · simp at ht
  rw [this]
theorem escN_app {t u : List UInt8} (h : Nl u) : escN (t ++ u) = escN t := by
  unfold escN
  by_cases c : hd t = 120
  · have hl := hd_ne (t := t) (by omega)
    have e1 : hd (t ++ u) = 120 := by
      rcases hd_app (t := t) h with g | ⟨rfl, g⟩
      · rw [g, c]
      · cases c
    rw [if_pos e1, if_pos c, drop_app hl, p_app (p := hexN) h (by decide)]
    by_cases c2 : hexN (hd (t.drop 1)) < 16
    · have hl2 : 2 ≤ t.length := by
        have : hd (t.drop 1) ≠ 0 := fun e => by rw [e] at c2; exact absurd c2 (by decide)
        have := hd_ne this
        simp at this; omega
      rw [drop_app hl2, p_app (p := hexN) h (by decide)]
    · rw [if_neg (fun g => c2 g.1), if_neg (fun g => c2 g.1)]
  · have e1 : hd (t ++ u) ≠ 120 := by
      rcases hd_app (t := t) h with g | ⟨rfl, g⟩
      · rw [g]; exact c
      · rw [g]; decide
    rw [if_neg e1, if_neg c, p_app (p := stdN) h (by decide)]
theorem escN_len {l : List UInt8} {b n : Nat} (h : escN l = some (b, n)) : n ≤ l.length := by
  unfold escN at h
  split at h
  · split at h
    · rename_i g
      cases h
      have h2 : hd (l.drop 2) ≠ 0 := fun e => by have := g.2; rw [e] at this; exact absurd this (by decide)
      have := hd_pos h2
      simp at this; omega
    · cases h
  · split at h
    · rename_i g1 g
      cases h
      have h0 : hd l ≠ 0 := fun e => g (by rw [e]; decide)
      exact hd_pos h0
    · cases h
theorem strN_app {q : Nat} (hq : 32 ≤ q) : ∀ {f : Nat} {t u : List UInt8}, Nl u → strN q f (t ++ u) = strN q f t
  | 0, _, _, _ => rfl
  | f + 1, t, u, h => by
    by_cases ht : t = []
    · subst ht
      have : hd u = 0 ∨ hd u = 10 := h.hd
      simp only [List.nil_append, strN]
      rw [if_neg (by omega), if_pos (by omega), if_neg (by show ¬ (0 = q); omega), if_pos (by show 0 < 32; decide)]
    · have hl : 1 ≤ t.length := by
        cases t with
        | nil => exact absurd rfl ht
        | cons c r => simp
      have he : hd (t ++ u) = hd t := by
        rcases hd_app (t := t) h with g | ⟨rfl, _⟩
        · exact g
        · exact absurd rfl ht
      simp only [strN]
      rw [he, drop_app hl, strN_app hq h, escN_app h]
      cases hes : escN (t.drop 1) with
      | none => rfl
      | some x =>
        have := escN_len hes
        simp only [List.length_drop] at this
        simp only
        rw [drop_app (by omega), strN_app hq h]
theorem strN_fuel' {q : Nat} : ∀ {f g : Nat} {l : List UInt8}, l.length < f → l.length < g → strN q f l = strN q g l
  | 0, _, _, h, _ => absurd h (by omega)
  | _, 0, _, _, h => absurd h (by omega)
  | f + 1, g + 1, l, hf, hg => by
    unfold strN
    by_cases c1 : hd l = q
    · rw [if_pos c1, if_pos c1]
    rw [if_neg c1, if_neg c1]
    by_cases c2 : hd l < 32
    · rw [if_pos c2, if_pos c2]
    rw [if_neg c2, if_neg c2]
    have hl : 0 < l.length := hd_pos (by omega)
    by_cases c3 : hd l = 92
    · rw [if_neg (by simpa using c3), if_neg (by simpa using c3)]
      cases escN (l.drop 1) with
      | none => rfl
      | some x =>
        simp only
        rw [strN_fuel' (f := f) (g := g) (by simp; omega) (by simp; omega)]
    · rw [if_pos c3, if_pos c3, strN_fuel' (f := f) (g := g) (by simp; omega) (by simp; omega)]
theorem strT_app {q : Nat} (hq : 32 ≤ q) {t u : List UInt8} (h : Nl u) : strT q (t ++ u) = strT q t := by
  unfold strT
  rw [strN_app hq h]
  exact strN_fuel' (by simp; omega) (by omega)
theorem take_app {t u : List UInt8} {n : Nat} (h : n ≤ t.length) : (t ++ u).take n = t.take n := List.take_append_of_le_length h
/-- A row of bytes without the end of a row in it. -/
theorem take_mem {t u : List UInt8} (h : Nl u) {n : Nat} {S : List (List UInt8)} (hS : ∀ x ∈ S, x.length = n ∧ (10 : UInt8) ∉ x) : (t ++ u).take n ∈ S ↔ t.take n ∈ S := by
  by_cases hl : n ≤ t.length
  · rw [take_app hl]
  · have e2 : t.take n = t := List.take_of_length_le (by omega)
    constructor
    · intro hm
      obtain ⟨h1, h2⟩ := hS _ hm
      rcases h with rfl | ⟨r, rfl⟩
      · simp at h1; omega
      · exact absurd (by
          rw [List.take_append, e2]
          refine List.mem_append_right _ ?_
          obtain ⟨k, hk⟩ : ∃ k, n - t.length = k + 1 := ⟨n - t.length - 1, by omega⟩
          rw [hk]; simp) h2
    · intro hm
      have := (hS _ hm).1
      simp at this; omega
theorem symN_app {t u : List UInt8} (h : Nl u) : symN (t ++ u) = symN t := by
  have h3 : ∀ x ∈ S3, x.length = 3 ∧ (10 : UInt8) ∉ x := by decide
  have h2 : ∀ x ∈ S2, x.length = 2 ∧ (10 : UInt8) ∉ x := by decide
  have h1 := p_app (p := fun n => decide (n ∈ S1.map UInt8.toNat)) (t := t) h (by decide)
  have h1' := decide_eq_decide.1 h1
  unfold symN
  simp only [take_mem h h3, take_mem h h2, h1']
theorem symN_len {l : List UInt8} {n : Nat} (h : symN l = some n) : n ≤ l.length ∧ 0 < n := by
  have h3 : ∀ x ∈ S3, x.length = 3 := by decide
  have h2 : ∀ x ∈ S2, x.length = 2 := by decide
  unfold symN at h
  split at h
  · rename_i g; cases h
    have := h3 _ g
    simp at this; omega
  · split at h
    · rename_i g; cases h
      have := h2 _ g
      simp at this; omega
    · split at h
      · rename_i g; cases h
        have : hd l ≠ 0 := fun e => by rw [e] at g; revert g; decide
        have := hd_pos this
        omega
      · cases h
theorem strN_len {q : Nat} : ∀ {f : Nat} {l x : List UInt8} {n : Nat}, 32 ≤ q → strN q f l = some (x, n) → n ≤ l.length
  | 0, _, _, _, _, h => by cases h
  | f + 1, l, x, n, hq, h => by
    simp only [strN] at h
    split at h
    · rename_i c; cases h; exact hd_pos (by omega)
    · split at h
      · cases h
      · rename_i c1 c2
        have hl : 0 < l.length := hd_pos (by omega)
        split at h
        · rw [Option.map_eq_some_iff] at h
          obtain ⟨⟨y, k⟩, h1, h2⟩ := h
          cases h2
          have := strN_len hq h1
          simp only [List.length_drop] at this
          show k + 1 ≤ _
          omega
        · cases hes : escN (l.drop 1) with
          | none => rw [hes] at h; cases h
          | some z =>
            obtain ⟨b, e⟩ := z
            rw [hes] at h
            simp only at h
            rw [Option.map_eq_some_iff] at h
            obtain ⟨⟨y, k⟩, h1, h2⟩ := h
            cases h2
            have h3 := strN_len hq h1
            have h4 := escN_len hes
            simp only [List.length_drop] at h3 h4
            show k + (1 + e) ≤ _
            omega
theorem nWal_app {t u : List UInt8} (h : Nl u) : nW isAlN (t ++ u) = nW isAlN t := nW_app (by decide) h
theorem tokT_app {t u : List UInt8} (h : Nl u) (ht : 0 < t.length) : tokT (t ++ u) = tokT t := by
  have he : hd (t ++ u) = hd t := by
    rcases hd_app (t := t) h with g | ⟨rfl, _⟩
    · exact g
    · simp at ht
  unfold tokT
  rw [he, nWal_app h, take_app nW_le, numBad_app h ht, numK_app h, numN_app h, take_app numN_len, symN_app h, drop_app ht]
  by_cases c : hd t = 39 ∨ hd t = 34
  · rw [if_pos c, if_pos c, strT_app (by omega) h]
  · rw [if_neg c, if_neg c]
    cases hs : symN t with
    | none => rfl
    | some n =>
      simp only [Option.map_some]
      rw [take_app (symN_len hs).1]
/-- A token takes a byte at least, and no more than there are. -/
theorem tokT_len {l : List UInt8} {k n : Nat} {x : List UInt8} (h : tokT l = some (k, x, n)) : 0 < n ∧ n ≤ l.length := by
  unfold tokT at h
  split at h
  · rename_i g
    cases h
    have hl : 0 < l.length := hd_pos fun e => by rw [e] at g; cases g
    have := nW_yes (p := isAlN) (l := l) (j := 0) hl (by simp [isAlN, g])
    simp only [List.drop_zero] at this
    exact ⟨by omega, nW_le⟩
  · split at h
    · rename_i g
      split at h
      · cases h
      · cases h
        have hl : 0 < l.length := hd_pos fun e => by rw [e] at g; cases g
        have := nW_yes (p := isDigN) (l := l) (j := 0) hl (by simpa using g)
        simp only [List.drop_zero] at this
        refine ⟨?_, numN_len⟩
        unfold numN numA digN
        omega
    · split at h
      · rename_i g
        rw [Option.map_eq_some_iff] at h
        obtain ⟨⟨y, m⟩, h1, h2⟩ := h
        cases h2
        have hl : 0 < l.length := hd_pos (by omega)
        have := strN_len (by omega) h1
        simp only [List.length_drop] at this
        show 0 < m + 1 ∧ m + 1 ≤ _
        omega
      · rw [Option.map_eq_some_iff] at h
        obtain ⟨m, h1, h2⟩ := h
        cases h2
        have := symN_len h1
        omega
theorem blkN_app {t u : List UInt8} (h : Nl u) : blkN (t ++ u) = blkN t := by
  unfold blkN
  rw [nW_app (by decide) h, drop_app nW_le, nW_app (p := fun n => decide (n ≠ 10)) (by decide) h]
  have := p_app (p := fun n => decide (n = 35)) (t := t.drop (nW (fun n => decide (n = 32)) t)) h (by decide)
  simp only [decide_eq_decide.1 this]
theorem blkN_len {t : List UInt8} : blkN t ≤ t.length := by
  have h1 := nW_le (p := fun n => decide (n = 32)) (l := t)
  unfold blkN
  split
  · have := nW_le (p := fun n => decide (n ≠ 10)) (l := t.drop (nW (fun n => decide (n = 32)) t))
    simp only [List.length_drop] at this
    omega
  · exact h1
end Can
end Go.Proofs.Ytmglmoehlegojaa
