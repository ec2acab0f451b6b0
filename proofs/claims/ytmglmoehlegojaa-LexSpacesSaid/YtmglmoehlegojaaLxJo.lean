/- Lex, plain: two sources, one behind the other. -/
import Derived.Test.YtmglmoehlegojaaLxSh
namespace Go.Proofs.Ytmglmoehlegojaa
namespace Can
set_option linter.unusedSimpArgs false
set_option linter.unusedVariables false
theorem tokT_kind {l : List UInt8} {k n : Nat} {x : List UInt8} (h : tokT l = some (k, x, n)) : 4 ≤ k := by
  unfold tokT at h
  split at h
  · cases h; split <;> decide
  · split at h
    · split at h
      · cases h
      · cases h; unfold numK; split <;> decide
    · split at h
      · cases hs : strT (hd l) (l.drop 1) with
        | none => rw [hs] at h; cases h
        | some y => rw [hs] at h; cases h; decide
      · cases hs : symN l with
        | none => rw [hs] at h; cases h
        | some y => rw [hs] at h; cases h; decide
theorem toks_kind {line : Nat} : ∀ {f : Nat} {t : List UInt8} {d d' : Nat} {x : List Tok}, toks line f t d = some (x, d') → (∀ y ∈ x, 4 ≤ y.kind) ∧ (¬ t.length ≤ blkN t → x ≠ [])
  | 0, _, _, _, _, h => by cases h
  | f + 1, t, d, d', x, h => by
    simp only [toks] at h
    split at h
    · rename_i hb
      cases h
      exact ⟨fun y hy => (by cases hy), fun g => absurd hb g⟩
    · cases ht : tokT (t.drop (blkN t)) with
      | none => rw [ht] at h; cases h
      | some z =>
        obtain ⟨k, y, n⟩ := z
        rw [ht] at h
        simp only at h
        rw [Option.map_eq_some_iff] at h
        obtain ⟨⟨xs, e⟩, h1, h2⟩ := h
        cases h2
        have ih := (toks_kind h1).1
        refine ⟨fun y hy => ?_, fun _ g => by cases g⟩
        rcases List.mem_cons.1 hy with rfl | hy
        · exact tokT_kind ht
        · exact ih y hy
/-- What is open: nothing but the last is 0. -/
def StOk (st : List Nat) : Prop := ∃ u, st = u ++ [0] ∧ ∀ x ∈ u, 0 < x
theorem StOk.init : StOk [0] := ⟨[], rfl, fun x hx => by cases hx⟩
theorem StOk.ind {line n : Nat} {st : List Nat} (h : StOk st) : StOk (indT line st n).2 := by
  obtain ⟨u, rfl, hu⟩ := h
  unfold indT
  split
  · rename_i hn
    exact ⟨n :: u, rfl, fun x hx => by
      rcases List.mem_cons.1 hx with rfl | hx
      · omega
      · exact hu x hx⟩
  · show StOk (List.dropWhile _ _)
    rename_i hn
    clear hn
    induction u with
    | nil => exact ⟨[], rfl, hu⟩
    | cons a u ih =>
      rw [List.cons_append, List.dropWhile_cons]
      split
      · exact ih fun x hx => hu x (by simp [hx])
      · exact ⟨a :: u, rfl, hu⟩
theorem StOk.pop {line : Nat} {st : List Nat} (h : StOk st) : indT line st 0 = (List.replicate (st.length - 1) ⟨3, line, []⟩, [0]) := by
  obtain ⟨u, rfl, hu⟩ := h
  unfold indT
  rw [if_neg (by omega)]
  have h1 : (u ++ [0]).takeWhile (fun x => decide (0 < x)) = u := by
    rw [List.takeWhile_append_of_pos (by intro x hx; simpa using hu x hx)]
    simp
  have h2 : (u ++ [0]).dropWhile (fun x => decide (0 < x)) = [0] := by
    rw [List.dropWhile_append_of_pos (by intro x hx; simpa using hu x hx)]
    simp
  rw [h1, h2]
  simp
/-- Rows, and the depth behind them. -/
def rowsD : Nat → List (List UInt8) → Nat → List Nat → Except (Nat × Nat) (List Tok × Nat × List Nat)
  | _, [], d, st => .ok ([], d, st)
  | line, t :: ts, d, st => match rowT line t d st with
    | .error e => .error (line, e)
    | .ok (x, d', st') => match rowsD (line + 1) ts d' st' with
      | .error e => .error e
      | .ok (y, z) => .ok (x ++ y, z)
theorem rowsT_app : ∀ {A B : List (List UInt8)} {line d : Nat} {st : List Nat}, rowsT line (A ++ B) d st = match rowsD line A d st with
    | .error e => .error e
    | .ok (x, d', st') => mp2 x (rowsT (line + A.length) B d' st')
  | [], B, line, d, st => by
    simp only [List.nil_append, rowsD, List.length_nil, Nat.add_zero]
    cases rowsT line B d st <;> rfl
  | t :: A, B, line, d, st => by
    rw [List.cons_append, rowsT_cons]
    simp only [rowsD]
    cases hr : rowT line t d st with
    | error e => rfl
    | ok y =>
      obtain ⟨x, d', st'⟩ := y
      simp only
      rw [rowsT_app (A := A)]
      cases rowsD (line + 1) A d' st' with
      | error e => rfl
      | ok z =>
        obtain ⟨z1, z2, z3⟩ := z
        simp only [List.length_cons]
        rw [mp2_mp2, show line + 1 + A.length = line + (A.length + 1) by omega]
/-- How a row's tokens end. -/
theorem rowT_end {line d d' : Nat} {t : List UInt8} {st st' : List Nat} {x : List Tok} (h : rowT line t d st = .ok (x, d', st')) (hs : StOk st) : StOk st' ∧ ((x = [] ∧ d' = d) ∨ ∃ x0 z, x = x0 ++ [z] ∧ (d' = 0 → z.kind = 1) ∧ (d' ≠ 0 → 4 ≤ z.kind)) := by
  unfold rowT at h
  split at h
  · cases h; exact ⟨hs, .inl ⟨rfl, rfl⟩⟩
  · rename_i hb
    split at h
    · cases h
    · split at h
      · cases h
      · rename_i ts d1 ht
        obtain ⟨k1, k2⟩ := toks_kind ht
        have hne := k2 hb
        cases h
        refine ⟨by
          split
          · exact hs.ind
          · exact hs, .inr ?_⟩
        by_cases h0 : d' = 0
        · rw [if_pos h0]
          exact ⟨_, _, rfl, fun _ => rfl, fun g => absurd h0 g⟩
        · rw [if_neg h0, List.append_nil]
          refine ⟨(if d = 0 then (indT line st (blkN t)).1 else []) ++ ts.dropLast, ts.getLast hne, ?_, fun g => absurd g h0, fun _ => k1 _ (List.getLast_mem hne)⟩
          rw [List.append_assoc, List.dropLast_concat_getLast hne]
theorem rowsD_end : ∀ {ts : List (List UInt8)} {line d d' : Nat} {st st' : List Nat} {x : List Tok}, rowsD line ts d st = .ok (x, d', st') → StOk st → StOk st' ∧ ((x = [] ∧ d' = d) ∨ ∃ x0 z, x = x0 ++ [z] ∧ (d' = 0 → z.kind = 1) ∧ (d' ≠ 0 → 4 ≤ z.kind))
  | [], line, d, d', st, st', x, h, hs => by cases h; exact ⟨hs, .inl ⟨rfl, rfl⟩⟩
  | t :: ts, line, d, d', st, st', x, h, hs => by
    simp only [rowsD] at h
    cases hr : rowT line t d st with
    | error e => rw [hr] at h; cases h
    | ok y =>
      obtain ⟨x1, d1, st1⟩ := y
      rw [hr] at h
      simp only at h
      cases hq : rowsD (line + 1) ts d1 st1 with
      | error e => rw [hq] at h; cases h
      | ok z =>
        obtain ⟨x2, d2, st2⟩ := z
        rw [hq] at h
        cases h
        obtain ⟨g1, g2⟩ := rowT_end hr hs
        obtain ⟨g3, g4⟩ := rowsD_end hq g1
        refine ⟨g3, ?_⟩
        rcases g4 with ⟨rfl, rfl⟩ | ⟨x0, z, rfl, g5⟩
        · rw [List.append_nil]; exact g2
        · exact .inr ⟨x1 ++ x0, z, by rw [List.append_assoc], g5⟩
/-- Rows behind what is open, if nothing begins ahead of their first token. -/
theorem rows_join {R : Nat} {st st2 : List Nat} (hs : StOk st) : ∀ {ts : List (List UInt8)} {line : Nat} {y : List Tok}, rowsT line ts 0 [0] = .ok (y, st2) → (∀ z ∈ y.head?, z.kind ≠ 2) → ∃ z st3 os, rowsT line ts 0 st = .ok (z, st3) ∧ z ++ endT R st3 = os ++ (y ++ endT R st2) ∧ os.length = st.length - 1 ∧ ∀ o ∈ os, o.kind = 3
  | [], line, y, h, hy => by
    cases h
    exact ⟨[], st, List.replicate (st.length - 1) ⟨3, R, []⟩, rfl, by simp [endT], by simp, fun o ho => by rw [List.eq_of_mem_replicate ho]⟩
  | t :: ts, line, y, h, hy => by
    by_cases hb : t.length ≤ blkN t
    · rw [rows_blank hb] at h
      obtain ⟨z, st3, os, h1, h2⟩ := rows_join hs h hy
      exact ⟨z, st3, os, by rw [rows_blank hb]; exact h1, h2⟩
    · rw [rowsT_cons] at h
      cases hr : rowT line t 0 [0] with
      | error e => rw [hr] at h; cases h
      | ok q =>
        obtain ⟨x1, d1, st1⟩ := q
        rw [hr] at h
        simp only at h
        cases hq : rowsT (line + 1) ts d1 st1 with
        | error e => rw [hq] at h; cases h
        | ok w =>
          obtain ⟨y2, st4⟩ := w
          rw [hq] at h
          simp only [mp2, Except.ok.injEq, Prod.mk.injEq] at h
          obtain ⟨rfl, rfl⟩ := h
          by_cases h0 : 0 < blkN t
          · have hi : indT line [0] (blkN t) = ([⟨2, line, []⟩], [blkN t, 0]) := by unfold indT; rw [if_pos (show [0].headD 0 < blkN t from h0)]
            unfold rowT at hr
            rw [if_neg hb, hi, if_neg (by simp)] at hr
            split at hr
            · cases hr
            · cases hr
              exact absurd rfl (hy ⟨2, line, []⟩ (by simp))
          · have hz : blkN t = 0 := by omega
            have hi : indT line [0] (blkN t) = ([], [0]) := by rw [hz]; exact StOk.init.pop
            have hi2 : indT line st (blkN t) = (List.replicate (st.length - 1) ⟨3, line, []⟩, [0]) := by rw [hz]; exact hs.pop
            have hr2 : rowT line t 0 st = .ok (List.replicate (st.length - 1) ⟨3, line, []⟩ ++ x1, d1, st1) := by
              unfold rowT at hr ⊢
              rw [if_neg hb, hi, if_neg (by simp [hz])] at hr
              rw [if_neg hb, hi2, if_neg (by simp [hz])]
              split at hr
              · cases hr
              · cases hr
                simp
            refine ⟨List.replicate (st.length - 1) ⟨3, line, []⟩ ++ x1 ++ y2, st4, List.replicate (st.length - 1) ⟨3, line, []⟩, ?_, ?_, by simp, fun o ho => by rw [List.eq_of_mem_replicate ho]⟩
            · rw [rowsT_cons, hr2]
              simp only
              rw [hq]; rfl
            · simp only [List.append_assoc]
theorem toks_line {line : Nat} : ∀ {f : Nat} {t : List UInt8} {d d' : Nat} {x : List Tok}, toks line f t d = some (x, d') → ∀ y ∈ x, y.line = line
  | 0, _, _, _, _, h => by cases h
  | f + 1, t, d, d', x, h => by
    simp only [toks] at h
    split at h
    · cases h
      intro y hy; cases hy
    · cases ht : tokT (t.drop (blkN t)) with
      | none => rw [ht] at h; cases h
      | some z =>
        obtain ⟨k, y, n⟩ := z
        rw [ht] at h
        simp only at h
        rw [Option.map_eq_some_iff] at h
        obtain ⟨⟨xs, e⟩, h1, h2⟩ := h
        cases h2
        intro y hy
        rcases List.mem_cons.1 hy with rfl | hy
        · rfl
        · exact toks_line h1 y hy
theorem rowT_line {line d d' : Nat} {t : List UInt8} {st st' : List Nat} {x : List Tok} (h : rowT line t d st = .ok (x, d', st')) : ∀ y ∈ x, y.line = line := by
  unfold rowT at h
  split at h
  · cases h; intro y hy; cases hy
  · split at h
    · cases h
    · split at h
      · cases h
      · rename_i ts d1 ht
        cases h
        intro y hy
        simp only [List.mem_append] at hy
        rcases hy with (hy | hy) | hy
        · split at hy
          · unfold indT at hy
            split at hy
            · simp at hy; rw [hy]
            · rw [List.eq_of_mem_replicate hy]
          · cases hy
        · exact toks_line ht y hy
        · split at hy
          · simp at hy; rw [hy]
          · cases hy
theorem rowsT_line : ∀ {ts : List (List UInt8)} {line d : Nat} {st st' : List Nat} {x : List Tok}, rowsT line ts d st = .ok (x, st') → ∀ y ∈ x, y.line < line + ts.length
  | [], line, d, st, st', x, h => by cases h; intro y hy; cases hy
  | t :: ts, line, d, st, st', x, h => by
    rw [rowsT_cons] at h
    cases hr : rowT line t d st with
    | error e => rw [hr] at h; cases h
    | ok q =>
      obtain ⟨x1, d1, st1⟩ := q
      rw [hr] at h
      simp only at h
      cases hq : rowsT (line + 1) ts d1 st1 with
      | error e => rw [hq] at h; cases h
      | ok w =>
        rw [hq] at h
        cases h
        intro y hy
        rcases List.mem_append.1 hy with hy | hy
        · rw [rowT_line hr y hy]; simp
        · have := rowsT_line hq y hy
          simp only [List.length_cons]; omega
theorem lexT_line {src : List UInt8} {ts : List Tok} (h : lexT src = .ok ts) : ∀ y ∈ ts, y.line ≤ 20001 := by
  have hs := splitN_sum (src := src)
  unfold lexT at h
  split at h
  · cases h
  · cases hr : rowsT 1 (splitN src) 0 [0] with
    | error e => rw [hr] at h; cases h
    | ok w =>
      rw [hr] at h
      cases h
      intro y hy
      rcases List.mem_append.1 hy with hy | hy
      · have := rowsT_line hr y hy; omega
      · unfold endT at hy
        rcases List.mem_append.1 hy with hy | hy
        · rw [List.eq_of_mem_replicate hy]; simp only; omega
        · simp at hy; rw [hy]; simp only; omega
/-- Two sources: the first one ends with a line's end. -/
theorem lex_join {src more : List UInt8} {a b : List Tok} (ha : lexT (src ++ [10]) = .ok a) (hb : lexT more = .ok b) (hl : src.length + 1 + more.length ≤ 20000) (h2 : ∀ z ∈ b.head?, z.kind ≠ 2) :
    ∃ n x k, a = x ++ (List.replicate k ⟨3, n + 1, []⟩ ++ [⟨0, n + 1, []⟩]) ∧ n ≤ 20000 ∧ ((x ≠ [] ∧ ∃ x0 z, x = x0 ++ [z] ∧ z.kind ≠ 1 ∧ z.kind ≠ 3) ∨
      ((x = [] ∨ ∃ x0 z, x = x0 ++ [z] ∧ z.kind = 1) ∧ ∃ os, os.length = k ∧ (∀ o ∈ os, o.kind = 3) ∧ lexT (src ++ [10] ++ more) = .ok (x ++ os ++ b.map (shT n)))) := by
  have hn : (splitN src).length ≤ 20000 := by
    have := splitN_sum (src := src)
    omega
  have e10 : (src ++ [10] : List UInt8) = src ++ UInt8.ofNat 10 :: [] := rfl
  unfold lexT at ha hb
  rw [if_neg (by simp; omega), e10, split_app, rowsT_app] at ha
  rw [if_neg (by omega)] at hb
  cases hD : rowsD 1 (splitN src) 0 [0] with
  | error e => rw [hD] at ha; cases ha
  | ok q =>
    obtain ⟨x, d, st⟩ := q
    rw [hD] at ha
    simp only at ha
    rw [show splitN [] = [[]] from rfl, rows_blank (t := []) (show 0 ≤ _ from Nat.zero_le _)] at ha
    simp only [rowsT, mp2, List.append_nil, List.length_append, List.length_singleton] at ha
    cases ha
    obtain ⟨hs, hx⟩ := rowsD_end hD StOk.init
    refine ⟨(splitN src).length, x, st.length - 1, rfl, hn, ?_⟩
    cases hr : rowsT 1 (splitN more) 0 [0] with
    | error e => rw [hr] at hb; cases hb
    | ok q =>
      obtain ⟨y, st2⟩ := q
      rw [hr] at hb
      cases hb
      have hy : ∀ z ∈ y.head?, z.kind ≠ 2 := by
        cases y with
        | nil => intro z hz; cases hz
        | cons c r => exact h2
      have main : d = 0 → ∃ os : List Tok, os.length = st.length - 1 ∧ (∀ o ∈ os, o.kind = 3) ∧ lexT (src ++ [10] ++ more) = .ok (x ++ os ++ (y ++ endT (splitN more).length st2).map (shT (splitN src).length)) := fun h0 => by
        subst h0
        have hsh : rowsT (1 + (splitN src).length) (splitN more) 0 [0] = .ok (y.map (shT (splitN src).length), st2) := by rw [rowsT_sh, hr]; rfl
        obtain ⟨z, st3, os, g1, g2, g3, g4⟩ := rows_join (R := (splitN more).length + (splitN src).length) hs hsh (by
          cases y with
          | nil => intro z hz; cases hz
          | cons c r => intro z hz; simp only [List.map_cons, List.head?_cons, Option.mem_def, Option.some.injEq] at hz; subst hz; exact hy c (by simp))
        refine ⟨os, g3, g4, ?_⟩
        unfold lexT
        rw [if_neg (by simp; omega), show (src ++ [10] ++ more : List UInt8) = src ++ UInt8.ofNat 10 :: more by rw [List.append_assoc]; rfl, split_app, rowsT_app, hD]
        simp only
        rw [g1]
        simp only [mp2, List.length_append]
        rw [Nat.add_comm (splitN src).length, List.append_assoc, g2, List.map_append, endT_sh, List.append_assoc]
      by_cases h0 : d = 0
      · refine .inr ⟨?_, main h0⟩
        rcases hx with ⟨hx, _⟩ | ⟨x0, z, hx, g1, _⟩
        · exact .inl hx
        · exact .inr ⟨x0, z, hx, g1 h0⟩
      · rcases hx with ⟨_, hx⟩ | ⟨x0, z, hx, _, g2⟩
        · exact absurd hx h0
        · have := g2 h0
          exact .inl ⟨by rw [hx]; simp, x0, z, hx, by omega, by omega⟩
end Can
end Go.Proofs.Ytmglmoehlegojaa
