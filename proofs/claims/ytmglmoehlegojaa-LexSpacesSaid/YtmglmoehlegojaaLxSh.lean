/- Lex, plain: lines counted on; rows that are blank. -/
import Derived.Test.YtmglmoehlegojaaLxCa
namespace Go.Proofs.Ytmglmoehlegojaa
namespace Can
set_option linter.unusedSimpArgs false
set_option linter.unusedVariables false
def shT (s : Nat) (t : Tok) : Tok := ⟨t.kind, t.line + s, t.text⟩
theorem toks_sh {s line : Nat} : ∀ {f : Nat} {t : List UInt8} {d : Nat}, toks (line + s) f t d = (toks line f t d).map fun y => (y.1.map (shT s), y.2)
  | 0, _, _ => rfl
  | f + 1, t, d => by
    simp only [toks]
    split
    · rfl
    · cases tokT (t.drop (blkN t)) with
      | none => rfl
      | some z =>
        obtain ⟨k, x, n⟩ := z
        simp only
        rw [toks_sh (f := f)]
        cases toks line f (t.drop (blkN t + n)) (depT d k x) <;> simp [shT]
theorem indT_sh {s line n : Nat} {st : List Nat} : indT (line + s) st n = ((indT line st n).1.map (shT s), (indT line st n).2) := by
  unfold indT
  split
  · simp [shT]
  · simp [shT]
def shR (s : Nat) : Except (Nat × Nat) (List Tok × List Nat) → Except (Nat × Nat) (List Tok × List Nat)
  | .error e => .error (e.1 + s, e.2)
  | .ok y => .ok (y.1.map (shT s), y.2)
theorem rowT_sh {s line d : Nat} {t : List UInt8} {st : List Nat} : rowT (line + s) t d st = match rowT line t d st with
    | .error e => .error e
    | .ok (x, d', st') => .ok (x.map (shT s), d', st') := by
  unfold rowT
  rw [indT_sh]
  by_cases h1 : t.length ≤ blkN t
  · rw [if_pos h1, if_pos h1]; rfl
  · rw [if_neg h1, if_neg h1]
    by_cases h2 : d = 0 ∧ (indT line st (blkN t)).2.headD 0 ≠ blkN t
    · rw [if_pos h2, if_pos h2]
    · rw [if_neg h2, if_neg h2, toks_sh]
      cases toks line (t.length + 1) t d with
      | none => rfl
      | some y =>
        obtain ⟨ts, d'⟩ := y
        simp only [Option.map_some, Except.ok.injEq, Prod.mk.injEq, and_true]
        simp only [List.map_append]
        congr 1
        · congr 1
          split <;> rfl
        · split <;> simp [shT]
theorem rowsT_sh {s : Nat} : ∀ {ts : List (List UInt8)} {line d : Nat} {st : List Nat}, rowsT (line + s) ts d st = shR s (rowsT line ts d st)
  | [], line, d, st => rfl
  | t :: ts, line, d, st => by
    rw [rowsT_cons, rowsT_cons, rowT_sh]
    cases hr : rowT line t d st with
    | error e => rfl
    | ok y =>
      obtain ⟨x, d', st'⟩ := y
      simp only
      rw [show line + s + 1 = line + 1 + s by omega, rowsT_sh]
      cases rowsT (line + 1) ts d' st' with
      | error e => rfl
      | ok z => simp [mp2, shR]
theorem endT_sh {s n : Nat} {st : List Nat} : endT (n + s) st = (endT n st).map (shT s) := by
  unfold endT; simp [shT]
theorem nW_space {k : Nat} {r : List UInt8} (hr : hd r ≠ 32) : nW (fun n => decide (n = 32)) (List.replicate k (UInt8.ofNat 32) ++ r) = k := by
  induction k with
  | zero => exact nW_no (.inr (by simpa using hr))
  | succ k ih =>
    rw [List.replicate_succ, List.cons_append]
    show (if decide ((UInt8.ofNat 32).toNat = 32) = true then _ else _) = _
    rw [if_pos (by decide), ih]
theorem nW_allp {p : Nat → Bool} : ∀ {l : List UInt8}, (∀ c ∈ l, p c.toNat = true) → nW p l = l.length
  | [], _ => rfl
  | c :: r, h => by
    simp only [nW]
    rw [if_pos (h c (by simp)), nW_allp fun x hx => h x (by simp [hx])]
    rfl
/-- A row of blanks and a comment. -/
theorem blk_note {k : Nat} {w : List UInt8} (hw : ∀ x ∈ w, x.toNat ≠ 10) : blkN (List.replicate k (UInt8.ofNat 32) ++ UInt8.ofNat 35 :: w) = k + 1 + w.length := by
  have h1 : nW (fun n => decide (n = 32)) (List.replicate k (UInt8.ofNat 32) ++ UInt8.ofNat 35 :: w) = k := nW_space (by show (UInt8.ofNat 35).toNat ≠ 32; decide)
  have h2 : (List.replicate k (UInt8.ofNat 32) ++ UInt8.ofNat 35 :: w).drop k = UInt8.ofNat 35 :: w := by
    rw [List.drop_left' (by simp)]
  unfold blkN
  rw [h1, h2, if_pos (by show (UInt8.ofNat 35).toNat = 35; decide)]
  rw [nW_allp]
  · simp; omega
  · intro c hc
    rcases List.mem_cons.1 hc with rfl | hc
    · decide
    · simpa using hw c hc
theorem blk_sp {k : Nat} : blkN (List.replicate k (UInt8.ofNat 32)) = k := by
  have h1 : nW (fun n => decide (n = 32)) (List.replicate k (UInt8.ofNat 32)) = k := by
    have := @nW_space k [] (by show (0 : Nat) ≠ 32; decide)
    simpa using this
  unfold blkN
  rw [h1, List.drop_eq_nil_of_le (by simp), if_neg (by show (0 : Nat) ≠ 35; decide)]
theorem row_blank {line d : Nat} {t : List UInt8} {st : List Nat} (h : t.length ≤ blkN t) : rowT line t d st = .ok ([], d, st) := by
  unfold rowT; rw [if_pos h]
theorem rows_blank {line d : Nat} {t : List UInt8} {ts : List (List UInt8)} {st : List Nat} (h : t.length ≤ blkN t) : rowsT line (t :: ts) d st = rowsT (line + 1) ts d st := by
  have hm : ∀ r, mp2 [] r = r := fun r => by cases r <;> rfl
  rw [rowsT_cons, row_blank h]
  exact hm _
theorem split_ne : ∀ {src : List UInt8}, splitN src ≠ []
  | [] => by simp [splitN]
  | c :: r => by
    simp only [splitN]
    split
    · simp
    · split <;> simp
/-- A cut at a line's end. -/
theorem split_app {more : List UInt8} : ∀ {src : List UInt8}, splitN (src ++ UInt8.ofNat 10 :: more) = splitN src ++ splitN more
  | [] => by
    show (if (UInt8.ofNat 10).toNat = 10 then _ else _) = _
    rw [if_pos (by decide)]; rfl
  | c :: r => by
    rw [List.cons_append]
    simp only [splitN]
    rw [split_app (src := r)]
    split
    · rfl
    · cases h : splitN r with
      | nil => exact absurd h split_ne
      | cons a b => rfl
theorem split_row : ∀ {t : List UInt8}, (∀ x ∈ t, x.toNat ≠ 10) → splitN t = [t]
  | [], _ => rfl
  | c :: r, h => by
    simp only [splitN]
    rw [if_neg (h c (by simp)), split_row fun x hx => h x (by simp [hx])]
def lexSh (s : Nat) : Except (Nat × Nat) (List Tok) → Except (Nat × Nat) (List Tok)
  | .error e => .error (e.1 + s, e.2)
  | .ok y => .ok (y.map (shT s))
/-- Three rows that are blank, ahead. -/
theorem lex_note {w src : List UInt8} (hw : ∀ x ∈ w, x.toNat ≠ 10) (hl : ([10, 32, 32, 32, 10, 32, 32, 35, 32] ++ w ++ [10] ++ src).length ≤ 20000) : lexT ([10, 32, 32, 32, 10, 32, 32, 35, 32] ++ w ++ [10] ++ src) = lexSh 3 (lexT src) := by
  have hs : splitN ([10, 32, 32, 32, 10, 32, 32, 35, 32] ++ w ++ [10] ++ src) = [] :: [32, 32, 32] :: ([32, 32, 35, 32] ++ w) :: splitN src := by
    have e : ([10, 32, 32, 32, 10, 32, 32, 35, 32] ++ w ++ [10] ++ src : List UInt8) = [] ++ UInt8.ofNat 10 :: ([32, 32, 32] ++ UInt8.ofNat 10 :: (([32, 32, 35, 32] ++ w) ++ UInt8.ofNat 10 :: src)) := by
      simp only [List.append_assoc, List.cons_append, List.nil_append]; rfl
    rw [e, split_app, split_app, split_app, split_row (t := []) (by simp), split_row (t := [32, 32, 32]) (by decide), split_row (t := [32, 32, 35, 32] ++ w)]
    · rfl
    · intro x hx
      rcases List.mem_append.1 hx with hx | hx
      · exact (by decide : ∀ y ∈ ([32, 32, 35, 32] : List UInt8), y.toNat ≠ 10) x hx
      · exact hw x hx
  have hl2 : src.length ≤ 20000 := by simp at hl; omega
  unfold lexT
  rw [if_neg (by omega), if_neg (by omega), hs]
  have b1 : blkN [] = 0 := rfl
  have b2 : blkN [32, 32, 32] = 3 := @blk_sp 3
  have b3 : blkN ([32, 32, 35, 32] ++ w) = 4 + w.length := by
    have := @blk_note 2 (32 :: w) (by
      intro x hx
      rcases List.mem_cons.1 hx with rfl | hx
      · decide
      · exact hw x hx)
    rw [show ([32, 32, 35, 32] ++ w : List UInt8) = List.replicate 2 (UInt8.ofNat 32) ++ UInt8.ofNat 35 :: 32 :: w from rfl, this]
    simp; omega
  rw [rows_blank (t := []) (by rw [b1]; exact Nat.le_refl _), rows_blank (by rw [b2]; exact Nat.le_refl _), rows_blank (by rw [b3]; simp; omega), show 1 + 1 + 1 + 1 = 1 + 3 from rfl, rowsT_sh]
  cases hr : rowsT 1 (splitN src) 0 [0] with
  | error e => rfl
  | ok y =>
    obtain ⟨x, st⟩ := y
    simp only [shR, lexSh, List.length_cons, List.map_append]
    rw [show (splitN src).length + 1 + 1 + 1 = (splitN src).length + 3 by omega, endT_sh]
theorem rowsT_err2 : ∀ {ts : List (List UInt8)} {line d : Nat} {st : List Nat} {e : Nat × Nat}, rowsT line ts d st = .error e → line ≤ e.1 ∧ (e.2 = 20 ∨ e.2 = 21)
  | [], line, d, st, e, h => by cases h
  | t :: ts, line, d, st, e, h => by
    rw [rowsT_cons] at h
    cases hr : rowT line t d st with
    | error e' => rw [hr] at h; cases h; exact ⟨Nat.le_refl _, rowT_err hr⟩
    | ok y =>
      obtain ⟨x, d', st'⟩ := y
      rw [hr] at h
      simp only at h
      cases hs : rowsT (line + 1) ts d' st' with
      | error e2 =>
        rw [hs] at h
        cases h
        have := rowsT_err2 hs
        omega
      | ok z => rw [hs] at h; cases h
theorem lexT_err2 {src : List UInt8} {e : Nat × Nat} (hl : src.length ≤ 20000) (h : lexT src = .error e) : 1 ≤ e.1 ∧ (e.2 = 20 ∨ e.2 = 21) := by
  unfold lexT at h
  rw [if_neg (by omega)] at h
  cases hr : rowsT 1 (splitN src) 0 [0] with
  | error e' => rw [hr] at h; cases h; exact rowsT_err2 hr
  | ok y => rw [hr] at h; cases h
end Can
end Go.Proofs.Ytmglmoehlegojaa
