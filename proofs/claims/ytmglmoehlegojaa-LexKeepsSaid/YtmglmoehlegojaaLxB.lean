/- Lex: what is answered, token by token: the plain law of blocks. -/
import Derived.Test.YtmglmoehlegojaaLxV
namespace Go.Proofs.Ytmglmoehlegojaa
namespace Can
open Go Go.RowKit
set_option linter.unusedSimpArgs false
set_option linter.unusedVariables false
/-- A token that may stand within. -/
def tkB (rows : Nat) (t : Tok) : Bool := decide (t.kind ≤ 9 ∧ t.kind ≠ 0 ∧ t.line ≤ rows ∧ (t.kind < 4 → t.text = []) ∧ (t.kind = 4 → nameB t.text = true ∧ t.text.length ≤ 20000) ∧ (t.kind = 8 → t.text ∈ wordsL) ∧ (t.kind = 9 → t.text ∈ symsL))
def dpK (d k : Nat) : Option Nat := if k = 2 then some (d + 1) else if k = 3 then (if d = 0 then none else some (d - 1)) else some d
def runB (rows : Nat) : Nat → Nat → List Tok → Option (Nat × Nat)
  | d, l, [] => some (d, l)
  | d, l, t :: ts => if l ≤ t.line ∧ tkB rows t = true then match dpK d t.kind with
    | some e => runB rows e t.line ts
    | none => none else none
theorem runB_app {rows : Nat} : ∀ {a b : List Tok} {d l : Nat}, runB rows d l (a ++ b) = (runB rows d l a).bind fun y => runB rows y.1 y.2 b
  | [], _, _, _ => rfl
  | t :: a, b, d, l => by
    simp only [List.cons_append, runB]
    split
    · cases dpK d t.kind with
      | none => rfl
      | some e => exact runB_app
    · rfl
theorem runB_two {rows : Nat} {a b : List Tok} {d l d1 l1 : Nat} (h : runB rows d l a = some (d1, l1)) : runB rows d l (a ++ b) = runB rows d1 l1 b := by
  rw [runB_app, h]; rfl
theorem nW_all {p : Nat → Bool} : ∀ {l : List UInt8}, ∀ c ∈ l.take (nW p l), p c.toNat = true
  | [], c, h => by cases h
  | a :: r, c, h => by
    simp only [nW] at h
    split at h
    · rename_i hp
      rw [List.take_succ_cons] at h
      rcases List.mem_cons.1 h with rfl | h
      · exact hp
      · exact nW_all c h
    · cases h
theorem name_ok {l : List UInt8} (h : isLetN (hd l) = true) (hw : ¬ l.take (nW isAlN l) ∈ wordsL) : nameB (l.take (nW isAlN l)) = true := by
  cases l with
  | nil => cases h
  | cons c r =>
    have hc : isLetN c.toNat = true := h
    have ha : isAlN c.toNat = true := by simp [isAlN, hc]
    have e : hd ((c :: r).take (nW isAlN (c :: r))) = c.toNat := by
      simp only [nW]
      rw [if_pos ha, List.take_succ_cons]; rfl
    unfold nameB
    rw [e, hc, decide_eq_false hw]
    simp only [Bool.not_false, Bool.true_and, List.all_eq_true]
    exact nW_all
theorem sym_ok {l : List UInt8} {n : Nat} (h : symN l = some n) : l.take n ∈ symsL := by
  unfold symN at h
  unfold symsL
  simp only [List.mem_append]
  split at h
  · cases h; exact .inl (.inl ‹_›)
  · split at h
    · cases h; exact .inl (.inr ‹_›)
    · split at h
      · rename_i h1 h2 h3
        cases h
        right
        obtain ⟨c, hc, e⟩ := List.mem_map.1 h3
        cases l with
        | nil => simp only [hd] at e; revert hc e; revert c; decide
        | cons a r =>
          have : c = a := UInt8.toNat_inj.1 e
          subst this
          exact List.mem_map.2 ⟨c, hc, rfl⟩
      · cases h
theorem tok_ok {l : List UInt8} {k n line rows : Nat} {x : List UInt8} (h : tokT l = some (k, x, n)) (hl : l.length ≤ 20000) (hr : line ≤ rows) : tkB rows ⟨k, line, x⟩ = true ∧ 4 ≤ k := by
  unfold tokT at h
  unfold tkB
  simp only [decide_eq_true_eq]
  split at h
  · rename_i h1
    cases h
    by_cases hw : l.take (nW isAlN l) ∈ wordsL
    · rw [if_pos hw]
      exact ⟨⟨by omega, by omega, hr, fun h => by omega, fun h => by omega, fun _ => hw, fun h => by omega⟩, by omega⟩
    · rw [if_neg hw]
      exact ⟨⟨by omega, by omega, hr, fun h => by omega, fun _ => ⟨name_ok h1 hw, by simp; omega⟩, fun h => by omega, fun h => by omega⟩, by omega⟩
  · split at h
    · split at h
      · cases h
      · cases h
        have : numK l = 5 ∨ numK l = 6 := by unfold numK; split <;> simp
        exact ⟨⟨by omega, by omega, hr, fun h => by omega, fun h => by omega, fun h => by omega, fun h => by omega⟩, by omega⟩
    · split at h
      · rw [Option.map_eq_some_iff] at h
        obtain ⟨y, _, e⟩ := h
        cases e
        exact ⟨⟨by omega, by omega, hr, fun h => by omega, fun h => by omega, fun h => by omega, fun h => by omega⟩, by omega⟩
      · rw [Option.map_eq_some_iff] at h
        obtain ⟨y, hy, e⟩ := h
        cases e
        exact ⟨⟨by omega, by omega, hr, fun h => by omega, fun h => by omega, fun h => by omega, fun _ => sym_ok hy⟩, by omega⟩
theorem toks_run {line rows D : Nat} (hr : line ≤ rows) : ∀ {f : Nat} {t : List UInt8} {d d' l : Nat} {x : List Tok}, toks line f t d = some (x, d') → t.length ≤ 20000 → l ≤ line → ∃ l', l' ≤ line ∧ runB rows D l x = some (D, l')
  | 0, _, _, _, _, _, h, _, _ => by cases h
  | f + 1, t, d, d', l, x, h, ht, hl => by
    simp only [toks] at h
    split at h
    · cases h; exact ⟨l, hl, rfl⟩
    · cases hk : tokT (t.drop (blkN t)) with
      | none => rw [hk] at h; cases h
      | some z =>
        obtain ⟨k, y, n⟩ := z
        rw [hk] at h
        simp only at h
        rw [Option.map_eq_some_iff] at h
        obtain ⟨⟨xs, e⟩, h1, h2⟩ := h
        cases h2
        obtain ⟨g1, g2⟩ := tok_ok hk (by simp; omega) hr
        obtain ⟨l', g3, g4⟩ := toks_run (D := D) hr h1 (by simp; omega) (Nat.le_refl line)
        refine ⟨l', g3, ?_⟩
        simp only [runB]
        rw [if_pos ⟨hl, g1⟩]
        have : dpK D k = some D := by
          unfold dpK
          rw [if_neg (by omega), if_neg (by omega)]
        rw [this]
        exact g4
theorem outs_run {line rows : Nat} (hr : line ≤ rows) : ∀ {k d l : Nat}, l ≤ line → k ≤ d → ∃ l', l' ≤ line ∧ runB rows d l (List.replicate k ⟨3, line, []⟩) = some (d - k, l')
  | 0, d, l, hl, _ => ⟨l, hl, rfl⟩
  | k + 1, d, l, hl, hk => by
    obtain ⟨l', h1, h2⟩ := outs_run (k := k) (d := d - 1) (l := line) hr (Nat.le_refl _) (by omega)
    refine ⟨l', h1, ?_⟩
    rw [List.replicate_succ]
    simp only [runB]
    have : tkB rows ⟨3, line, []⟩ = true := by simp [tkB, hr]
    rw [if_pos ⟨hl, this⟩]
    have : dpK d 3 = some (d - 1) := by
      unfold dpK
      rw [if_neg (by omega), if_pos rfl, if_neg (by omega)]
    rw [this]
    simp only
    rw [h2]
    congr 2
    omega
theorem indT_run {line rows n l : Nat} (hr : line ≤ rows) (hl : l ≤ line) {st : List Nat} (hz : st.getLast? = some 0) : ∃ l', l' ≤ line ∧ runB rows (st.length - 1) l (indT line st n).1 = some ((indT line st n).2.length - 1, l') := by
  have hp : 0 < st.length := by
    cases st with
    | nil => cases hz
    | cons a b => simp
  have hd := indT_last (line := line) (n := n) hz
  unfold indT at hd ⊢
  split
  · refine ⟨line, Nat.le_refl _, ?_⟩
    simp only [runB]
    have : tkB rows ⟨2, line, []⟩ = true := by simp [tkB, hr]
    rw [if_pos ⟨hl, this⟩]
    have : dpK (st.length - 1) 2 = some (st.length - 1 + 1) := by
      unfold dpK
      rw [if_pos rfl]
    rw [this]
    simp only [List.length_cons]
    congr 2
    omega
  · rename_i hc
    rw [if_neg hc] at hd
    have h1 : (st.takeWhile fun x => decide (n < x)).length + (st.dropWhile fun x => decide (n < x)).length = st.length := by
      rw [← List.length_append, List.takeWhile_append_dropWhile]
    have h2 : 0 < (st.dropWhile fun x => decide (n < x)).length := by
      cases hq : st.dropWhile fun x => decide (n < x) with
      | nil => simp only [hq] at hd; cases hd
      | cons a b => simp
    obtain ⟨l', g1, g2⟩ := outs_run (k := (st.takeWhile fun x => decide (n < x)).length) (d := st.length - 1) hr hl (by omega)
    refine ⟨l', g1, ?_⟩
    rw [g2]
    congr 2
    show _ = (st.dropWhile fun x => decide (n < x)).length - 1
    omega
theorem rowT_run {line rows l d d' : Nat} {t : List UInt8} {st st' : List Nat} {x : List Tok} (h : rowT line t d st = .ok (x, d', st')) (hz : st.getLast? = some 0) (hr : line ≤ rows) (hl : l ≤ line) (ht : t.length ≤ 20000) : ∃ l', l' ≤ line ∧ runB rows (st.length - 1) l x = some (st'.length - 1, l') := by
  unfold rowT at h
  split at h
  · cases h; exact ⟨l, hl, rfl⟩
  · split at h
    · cases h
    · split at h
      · cases h
      · rename_i ts d1 hts
        cases h
        have h1 : ∃ l1, l1 ≤ line ∧ runB rows (st.length - 1) l (if d = 0 then (indT line st (blkN t)).1 else []) = some ((if d = 0 then (indT line st (blkN t)).2 else st).length - 1, l1) := by
          split
          · exact indT_run hr hl hz
          · exact ⟨l, hl, rfl⟩
        obtain ⟨l1, g1, g2⟩ := h1
        obtain ⟨l2, g3, g4⟩ := toks_run (D := (if d = 0 then (indT line st (blkN t)).2 else st).length - 1) hr hts ht g1
        have h2 := runB_two (b := ts) g2
        rw [g4] at h2
        by_cases hd0 : d' = 0
        · rw [if_pos hd0]
          refine ⟨line, Nat.le_refl _, ?_⟩
          rw [runB_two h2]
          simp only [runB]
          have : tkB rows ⟨1, line, []⟩ = true := by simp [tkB, hr]
          rw [if_pos ⟨g3, this⟩]
          rfl
        · rw [if_neg hd0]
          refine ⟨l2, g3, ?_⟩
          rw [List.append_nil]; exact h2
theorem rowsT_run {rows : Nat} : ∀ {ts : List (List UInt8)} {line d l : Nat} {st st' : List Nat} {x : List Tok}, rowsT line ts d st = .ok (x, st') → st.getLast? = some 0 → line + ts.length ≤ rows + 1 → l ≤ line → (∀ t ∈ ts, t.length ≤ 20000) → st'.getLast? = some 0 ∧ ∃ l', l' ≤ max l rows ∧ runB rows (st.length - 1) l x = some (st'.length - 1, l')
  | [], line, d, l, st, st', x, h, hz, hr, hl, ht => by
    cases h
    exact ⟨hz, l, Nat.le_max_left _ _, rfl⟩
  | t :: ts, line, d, l, st, st', x, h, hz, hr, hl, ht => by
    rw [rowsT_cons] at h
    simp only [List.length_cons] at hr
    cases hq : rowT line t d st with
    | error e => rw [hq] at h; cases h
    | ok y =>
      obtain ⟨a, d1, st1⟩ := y
      rw [hq] at h
      simp only at h
      cases hw : rowsT (line + 1) ts d1 st1 with
      | error e => rw [hw] at h; cases h
      | ok z =>
        obtain ⟨b, st2⟩ := z
        rw [hw] at h
        cases h
        obtain ⟨l1, g1, g2⟩ := rowT_run hq hz (rows := rows) (by omega) hl (ht t (by simp))
        obtain ⟨h3, l2, h4, h5⟩ := rowsT_run (rows := rows) hw (rowT_ok hq hz).2.2 (by omega) (l := l1) (by omega) (fun t h => ht t (by simp [h]))
        refine ⟨h3, l2, by omega, ?_⟩
        rw [runB_two g2]
        exact h5
theorem splitN_mem : ∀ {src : List UInt8}, ∀ t ∈ splitN src, t.length ≤ src.length
  | [], t, h => by simp [splitN] at h; subst h; simp
  | c :: r, t, h => by
    simp only [splitN] at h
    split at h
    · rcases List.mem_cons.1 h with rfl | h
      · simp
      · have := splitN_mem t h; simp; omega
    · have ih := fun t h => splitN_mem (src := r) t h
      split at h
      · rename_i a b hq
        rcases List.mem_cons.1 h with rfl | h
        · have := ih a (by rw [hq]; simp); simp; omega
        · have := ih t (by rw [hq]; simp [h]); simp; omega
      · simp at h; subst h; simp
theorem splitN_len : ∀ {src : List UInt8}, (splitN src).length = src.countP (fun c => decide (c.toNat = 10)) + 1
  | [] => rfl
  | c :: r => by
    simp only [splitN]
    rw [List.countP_cons]
    have ih := splitN_len (src := r)
    split
    · rename_i h
      rw [List.length_cons, ih, decide_eq_true h]; rfl
    · rename_i h
      rw [decide_eq_false h]
      split
      · rename_i a b hq
        rw [hq] at ih
        simpa using ih
      · rename_i hq
        exact absurd hq splitN_ne
/-- What is answered. -/
theorem lexT_run {src : List UInt8} {ts : List Tok} (h : lexT src = .ok ts) : ∃ body l, ts = body ++ [⟨0, (splitN src).length, []⟩] ∧ runB (splitN src).length 0 1 body = some (0, l) ∧ l ≤ (splitN src).length := by
  unfold lexT at h
  split at h
  · cases h
  · rename_i hs
    cases hq : rowsT 1 (splitN src) 0 [0] with
    | error e => rw [hq] at h; cases h
    | ok y =>
      obtain ⟨x, st⟩ := y
      rw [hq] at h
      cases h
      have hp : 0 < (splitN src).length := List.length_pos_iff.2 splitN_ne
      obtain ⟨h1, l1, h2, h3⟩ := rowsT_run (rows := (splitN src).length) (l := 1) hq rfl (by omega) (Nat.le_refl _) (fun t h => by have := splitN_mem t h; omega)
      obtain ⟨l2, h4, h5⟩ := outs_run (rows := (splitN src).length) (line := (splitN src).length) (k := st.length - 1) (d := st.length - 1) (l := l1) (Nat.le_refl _) (by omega) (Nat.le_refl _)
      refine ⟨x ++ List.replicate (st.length - 1) ⟨3, (splitN src).length, []⟩, l2, ?_, ?_, h4⟩
      · unfold endT; rw [List.append_assoc]
      · rw [runB_two (show runB _ 0 1 x = _ from h3), h5, Nat.sub_self]
theorem rowsT_err : ∀ {ts : List (List UInt8)} {line d : Nat} {st : List Nat} {e : Nat × Nat}, rowsT line ts d st = .error e → line ≤ e.1 ∧ e.1 < line + ts.length ∧ (e.2 = 20 ∨ e.2 = 21)
  | [], line, d, st, e, h => by cases h
  | t :: ts, line, d, st, e, h => by
    rw [rowsT_cons] at h
    cases hq : rowT line t d st with
    | error e' =>
      rw [hq] at h; cases h
      exact ⟨Nat.le_refl _, by simp, rowT_err hq⟩
    | ok y =>
      obtain ⟨a, d1, st1⟩ := y
      rw [hq] at h
      simp only at h
      cases hw : rowsT (line + 1) ts d1 st1 with
      | error e1 =>
        rw [hw] at h; cases h
        obtain ⟨h1, h2, h3⟩ := rowsT_err hw
        exact ⟨by omega, by simp only [List.length_cons]; omega, h3⟩
      | ok z => rw [hw] at h; cases h
theorem lexT_err {src : List UInt8} {e : Nat × Nat} (h : lexT src = .error e) : (20000 < src.length ∧ e = (0, 24)) ∨ (src.length ≤ 20000 ∧ (e.2 = 20 ∨ e.2 = 21) ∧ 1 ≤ e.1 ∧ e.1 ≤ (splitN src).length) := by
  unfold lexT at h
  split at h
  · cases h; exact .inl ⟨‹_›, rfl⟩
  · cases hq : rowsT 1 (splitN src) 0 [0] with
    | error e1 =>
      rw [hq] at h; cases h
      obtain ⟨h1, h2, h3⟩ := rowsT_err hq
      exact .inr ⟨by omega, h3, h1, by omega⟩
    | ok y => rw [hq] at h; cases h
end Can
end Go.Proofs.Ytmglmoehlegojaa
