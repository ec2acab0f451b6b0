/- Slide: where the survivors go, and what the memory is behind a collection; plain. -/
import Derived.Test.YtopmheekeooodaaSlMark
namespace Go.Proofs.Ytopmheekeooodaa
namespace Can
set_option linter.unusedSimpArgs false
set_option linter.unusedVariables false
/-- The first free place behind what survives of the first k objects. -/
noncomputable def Pk (ws roots : List Int) (ls : List Nat) (k : Nat) : Nat := 1 + ((rcL ws roots (ls.take k)).map (szN ws)).sum
/-- Where an object goes. -/
noncomputable def nto (ws roots : List Int) (ls : List Nat) (a : Nat) : Nat := Pk ws roots ls (ls.idxOf a)
noncomputable def turnF (ws roots : List Int) (ls : List Nat) (w : Int) : Int := if kindF w = 0 then 4 * (nto ws roots ls (adr w) : Int) else w
noncomputable def objW (ws roots : List Int) (ls : List Nat) (a j : Nat) : Int := if 2 ≤ j ∧ j < 2 + tgN ws a then turnF ws roots ls (wd ws (a + j)) else wd ws (a + j)
/-- The memory behind a collection. -/
noncomputable def colF (ws roots : List Int) (ls : List Nat) (i : Nat) : Int :=
  match (rcL ws roots ls).find? (fun a => decide (nto ws roots ls a ≤ i ∧ i < nto ws roots ls a + szN ws a)) with
  | some a => objW ws roots ls a (i - nto ws roots ls a)
  | none => 0
theorem rc_snoc {ws roots : List Int} {ls : List Nat} {k a : Nat} (h : ls[k]? = some a) : (Rc ws roots a → rcL ws roots (ls.take (k + 1)) = rcL ws roots (ls.take k) ++ [a]) ∧ (¬ Rc ws roots a → rcL ws roots (ls.take (k + 1)) = rcL ws roots (ls.take k)) := by
  obtain ⟨hk, rfl⟩ := List.getElem?_eq_some_iff.1 h
  unfold rcL
  rw [List.take_succ_eq_append_getElem hk, List.filter_append]
  constructor
  · intro hr; simp [hr]
  · intro hr; simp [hr]
theorem Pk_zero {ws roots : List Int} {ls : List Nat} : Pk ws roots ls 0 = 1 := rfl
theorem Pk_yes {ws roots : List Int} {ls : List Nat} {k a : Nat} (h : ls[k]? = some a) (hr : Rc ws roots a) : Pk ws roots ls (k + 1) = Pk ws roots ls k + szN ws a := by
  unfold Pk
  rw [(rc_snoc h).1 hr, List.map_append, List.sum_append]
  simp; omega
theorem Pk_no {ws roots : List Int} {ls : List Nat} {k a : Nat} (h : ls[k]? = some a) (hr : ¬ Rc ws roots a) : Pk ws roots ls (k + 1) = Pk ws roots ls k := by
  unfold Pk
  rw [(rc_snoc h).2 hr]
theorem Pk_step {ws roots : List Int} {ls : List Nat} {k : Nat} : Pk ws roots ls k ≤ Pk ws roots ls (k + 1) := by
  by_cases hk : k < ls.length
  · have h : ls[k]? = some ls[k] := List.getElem?_eq_getElem hk
    by_cases hr : Rc ws roots ls[k]
    · rw [Pk_yes h hr]; omega
    · rw [Pk_no h hr]; exact Nat.le_refl _
  · unfold Pk
    rw [List.take_of_length_le (by omega), List.take_of_length_le (by omega)]
    exact Nat.le_refl _
theorem Pk_mono {ws roots : List Int} {ls : List Nat} {k k' : Nat} (h : k ≤ k') : Pk ws roots ls k ≤ Pk ws roots ls k' := by
  induction h with
  | refl => exact Nat.le_refl _
  | step _ ih => exact Nat.le_trans ih Pk_step
theorem Pk_pos {ws roots : List Int} {ls : List Nat} {k : Nat} : 1 ≤ Pk ws roots ls k := by unfold Pk; omega
theorem idx_at {ls : List Nat} (hn : ls.Nodup) {k a : Nat} (h : ls[k]? = some a) : ls.idxOf a = k := by
  obtain ⟨hk, rfl⟩ := List.getElem?_eq_some_iff.1 h
  have h1 := List.idxOf_lt_length_of_mem (List.getElem_mem hk)
  have h2 := List.getElem_idxOf h1
  have hp := List.pairwise_iff_getElem.1 hn
  rcases Nat.lt_trichotomy (ls.idxOf ls[k]) k with h3 | h3 | h3
  · exact absurd h2 (hp _ _ h1 hk h3)
  · exact h3
  · exact absurd h2.symm (hp _ _ hk h1 h3)
theorem at_idx {ls : List Nat} {a : Nat} (h : a ∈ ls) : ls[ls.idxOf a]? = some a := by
  have h1 := List.idxOf_lt_length_of_mem h
  rw [List.getElem?_eq_getElem h1, List.getElem_idxOf h1]
theorem nto_at {ws roots : List Int} {ls : List Nat} (hn : ls.Nodup) {k a : Nat} (h : ls[k]? = some a) : nto ws roots ls a = Pk ws roots ls k := by
  unfold nto; rw [idx_at hn h]
theorem nto_next {ws roots : List Int} {ls : List Nat} {a b : Nat} (ha : a ∈ ls) (hb : b ∈ ls) (hra : Rc ws roots a) (h : ls.idxOf a < ls.idxOf b) : nto ws roots ls a + szN ws a ≤ nto ws roots ls b := by
  unfold nto
  rw [← Pk_yes (at_idx ha) hra]
  exact Pk_mono h
theorem nto_end {ws roots : List Int} {ls : List Nat} {a : Nat} (ha : a ∈ ls) (hra : Rc ws roots a) : nto ws roots ls a + szN ws a ≤ Pk ws roots ls ls.length := by
  unfold nto
  rw [← Pk_yes (at_idx ha) hra]
  exact Pk_mono (List.idxOf_lt_length_of_mem ha)
theorem nto_pos {ws roots : List Int} {ls : List Nat} {a : Nat} : 1 ≤ nto ws roots ls a := Pk_pos
theorem Ch.pos {sz : Nat → Nat} {tn s : Nat} {l : List Nat} (h : Ch sz tn s l) : ∀ k, k ≤ l.length → l.getD k tn = s + ((l.take k).map sz).sum := by
  induction h with
  | nil => intro k hk; simp at hk; subst hk; rfl
  | @cons a l h hr ih =>
    intro k hk
    cases k with
    | zero => simp
    | succ k =>
      have := ih k (by simpa using hk)
      simp only [List.getD_cons_succ, List.take_succ_cons, List.map_cons, List.sum_cons]
      omega
theorem sum_filter_le {p : Nat → Bool} {f : Nat → Nat} : ∀ {l : List Nat}, ((l.filter p).map f).sum ≤ (l.map f).sum
  | [] => by simp
  | a :: l => by
    have := sum_filter_le (p := p) (f := f) (l := l)
    rw [List.filter_cons]
    split
    · simp only [List.map_cons, List.sum_cons]; omega
    · simp only [List.map_cons, List.sum_cons]; omega
theorem Pk_le {ws roots : List Int} {tn : Nat} {ls : List Nat} (hF : Form ws tn ls) {k : Nat} (hk : k ≤ ls.length) : Pk ws roots ls k ≤ ls.getD k tn := by
  rw [hF.ch.pos k hk]
  unfold Pk rcL
  have := sum_filter_le (p := fun a => @decide (Rc ws roots a) (Classical.propDecidable _)) (f := szN ws) (l := ls.take k)
  omega
theorem nto_le {ws roots : List Int} {tn : Nat} {ls : List Nat} (hF : Form ws tn ls) {a : Nat} (ha : a ∈ ls) : nto ws roots ls a ≤ a := by
  have h1 := at_idx ha
  have h2 := List.idxOf_lt_length_of_mem ha
  have := Pk_le (roots := roots) hF (Nat.le_of_lt h2)
  rw [List.getD_eq_getElem?_getD, h1] at this
  exact this
theorem Pk_top {ws roots : List Int} {tn : Nat} {ls : List Nat} (hF : Form ws tn ls) : Pk ws roots ls ls.length ≤ tn := by
  have := Pk_le (roots := roots) hF (Nat.le_refl ls.length)
  rwa [List.getD_eq_getElem?_getD, List.getElem?_eq_none (Nat.le_refl _)] at this
theorem nto_inj {ws roots : List Int} {tn : Nat} {ls : List Nat} (hF : Form ws tn ls) {a b i : Nat} (ha : a ∈ ls) (hb : b ∈ ls) (hra : Rc ws roots a) (hrb : Rc ws roots b) (h1 : nto ws roots ls a ≤ i ∧ i < nto ws roots ls a + szN ws a) (h2 : nto ws roots ls b ≤ i ∧ i < nto ws roots ls b + szN ws b) : a = b := by
  rcases Nat.lt_trichotomy (ls.idxOf a) (ls.idxOf b) with h | h | h
  · have := nto_next ha hb hra h; omega
  · have e1 := at_idx ha
    have e2 := at_idx hb
    rw [h, e2] at e1
    exact (Option.some.inj e1).symm
  · have := nto_next hb ha hrb h; omega
theorem mem_rc {ws roots : List Int} {ls : List Nat} {a : Nat} : a ∈ rcL ws roots ls ↔ a ∈ ls ∧ Rc ws roots a := by
  unfold rcL
  rw [List.mem_filter]
  simp
theorem colF_at {ws roots : List Int} {tn : Nat} {ls : List Nat} (hF : Form ws tn ls) {a j : Nat} (ha : a ∈ ls) (hr : Rc ws roots a) (hj : j < szN ws a) : colF ws roots ls (nto ws roots ls a + j) = objW ws roots ls a j := by
  unfold colF
  have : (rcL ws roots ls).find? (fun x => decide (nto ws roots ls x ≤ nto ws roots ls a + j ∧ nto ws roots ls a + j < nto ws roots ls x + szN ws x)) = some a := by
    cases h : (rcL ws roots ls).find? (fun x => decide (nto ws roots ls x ≤ nto ws roots ls a + j ∧ nto ws roots ls a + j < nto ws roots ls x + szN ws x)) with
    | none =>
      have := List.find?_eq_none.1 h a (mem_rc.2 ⟨ha, hr⟩)
      simp only [decide_eq_true_eq] at this
      omega
    | some x =>
      have h1 := List.find?_some h
      have h2 := mem_rc.1 (List.mem_of_find?_eq_some h)
      simp only [decide_eq_true_eq] at h1
      rw [nto_inj hF h2.1 ha h2.2 hr h1 ⟨by omega, by omega⟩]
  rw [this]
  show objW ws roots ls a (nto ws roots ls a + j - nto ws roots ls a) = _
  rw [Nat.add_sub_cancel_left]
theorem colF_zero {ws roots : List Int} {ls : List Nat} : colF ws roots ls 0 = 0 := by
  unfold colF
  rw [List.find?_eq_none.2]
  intro x _
  have := nto_pos (ws := ws) (roots := roots) (ls := ls) (a := x)
  simp only [decide_eq_true_eq]; omega
theorem colF_hi {ws roots : List Int} {ls : List Nat} {i : Nat} (h : Pk ws roots ls ls.length ≤ i) : colF ws roots ls i = 0 := by
  unfold colF
  rw [List.find?_eq_none.2]
  intro x hx
  have h1 := mem_rc.1 hx
  have := nto_end h1.1 h1.2
  simp only [decide_eq_true_eq]; omega
/-- Every place below the end belongs to a survivor. -/
theorem colF_cover {ws roots : List Int} {ls : List Nat} (hn : ls.Nodup) : ∀ {k : Nat}, k ≤ ls.length → ∀ i, 1 ≤ i → i < Pk ws roots ls k → ∃ a ∈ ls, Rc ws roots a ∧ nto ws roots ls a ≤ i ∧ i < nto ws roots ls a + szN ws a ∧ ls.idxOf a < k
  | 0, _, i, h1, h2 => by rw [Pk_zero] at h2; omega
  | k + 1, hk, i, h1, h2 => by
    by_cases h : i < Pk ws roots ls k
    · obtain ⟨a, g1, g2, g3, g4, g5⟩ := colF_cover hn (Nat.le_of_succ_le hk) i h1 h
      exact ⟨a, g1, g2, g3, g4, by omega⟩
    · have hg : ls[k]? = some ls[k] := List.getElem?_eq_getElem hk
      by_cases hr : Rc ws roots ls[k]
      · rw [Pk_yes hg hr] at h2
        have e := nto_at (ws := ws) (roots := roots) hn hg
        exact ⟨_, List.getElem_mem hk, hr, by omega, by omega, by rw [idx_at hn hg]; omega⟩
      · rw [Pk_no hg hr] at h2; omega
theorem ite_iff {α : Type} {p q : Prop} {_ : Decidable p} {_ : Decidable q} {x y : α} (h : p ↔ q) : (if p then x else y) = if q then x else y := by
  by_cases hp : p
  · rw [if_pos hp, if_pos (h.1 hp)]
  · rw [if_neg hp, if_neg (fun hq => hp (h.2 hq))]
/-- A memory, object by object. -/
structure Sp (ws : List Int) (tn : Nat) (ls : List Nat) (f : Nat → Int) (G : Nat → Nat → Int) : Prop where
  z : f 0 = 0
  ob : ∀ a ∈ ls, ∀ j, j < szN ws a → f (a + j) = G a j
  hi : ∀ i, tn ≤ i → f i = 0
theorem obj_split {ws : List Int} {tn : Nat} {ls : List Nat} (hF : Form ws tn ls) {a b i j : Nat} (ha : a ∈ ls) (hb : b ∈ ls) (hi : i < szN ws a) (hj : j < szN ws b) (h : a + i = b + j) : a = b ∧ i = j := by
  by_cases e : a = b
  · exact ⟨e, by omega⟩
  · rcases hF.ch.sep ha hb e with h1 | h1 <;> omega
theorem Sp.up {ws : List Int} {tn : Nat} {ls : List Nat} (hF : Form ws tn ls) {f : Nat → Int} {G : Nat → Nat → Int} (h : Sp ws tn ls f G) {a j : Nat} (ha : a ∈ ls) (hj : j < szN ws a) (x : Int) : Sp ws tn ls (upF f (a + j) x) (fun a' j' => if a' = a ∧ j' = j then x else G a' j') := by
  have h1 := hF.ch.mem a ha
  refine ⟨?_, fun b hb i hi => ?_, fun i hi => ?_⟩
  · unfold upF; rw [if_neg (by omega)]; exact h.z
  · unfold upF
    by_cases e : b + i = a + j
    · obtain ⟨e1, e2⟩ := obj_split hF hb ha hi hj e
      rw [if_pos e, if_pos ⟨e1, e2⟩]
    · rw [if_neg e, if_neg (fun h => e (by rw [h.1, h.2]))]
      exact h.ob b hb i hi
  · unfold upF; rw [if_neg (by omega)]; exact h.hi i hi
theorem Sp.congr {ws : List Int} {tn : Nat} {ls : List Nat} {f : Nat → Int} {G G' : Nat → Nat → Int} (h : Sp ws tn ls f G) (hg : ∀ a ∈ ls, ∀ j, j < szN ws a → G a j = G' a j) : Sp ws tn ls f G' :=
  ⟨h.z, fun a ha j hj => (h.ob a ha j hj).trans (hg a ha j hj), h.hi⟩
open Classical in
noncomputable def G1 (ws roots : List Int) (a j : Nat) : Int := if j = 0 then wd ws a + (if Rc ws roots a then mkB else 0) else wd ws (a + j)
open Classical in
noncomputable def GA (ws roots : List Int) (ls : List Nat) (k a j : Nat) : Int := if j = 1 ∧ Rc ws roots a ∧ ls.idxOf a < k then (nto ws roots ls a : Int) else G1 ws roots a j
open Classical in
noncomputable def GB (ws roots : List Int) (ls : List Nat) (k m a j : Nat) : Int := if (2 ≤ j ∧ j < 2 + tgN ws a) ∧ Rc ws roots a ∧ (ls.idxOf a < k ∨ (ls.idxOf a = k ∧ j < 2 + m)) then turnF ws roots ls (wd ws (a + j)) else GA ws roots ls ls.length a j
theorem sp_mk {ws roots : List Int} {tn : Nat} {ls : List Nat} (hF : Form ws tn ls) : Sp ws tn ls (mkF ws roots ls) (GA ws roots ls 0) := by
  refine ⟨?_, fun a ha j hj => ?_, fun i hi => ?_⟩
  · unfold mkF
    rw [if_neg (fun h => by have := hF.ch.mem 0 h.1; omega), hF.w0]; rfl
  · have hGA : GA ws roots ls 0 a j = G1 ws roots a j := by unfold GA; rw [if_neg (fun h => absurd h.2.2 (Nat.not_lt_zero _))]
    rw [hGA]
    unfold mkF G1
    by_cases hj0 : j = 0
    · subst hj0
      rw [if_pos rfl, Nat.add_zero]
      by_cases hr : Rc ws roots a
      · rw [if_pos ⟨ha, hr⟩, if_pos hr]
      · rw [if_neg (fun h => hr h.2), if_neg hr]
    · rw [if_neg hj0, if_neg (fun h => by
        have := obj_split hF h.1 ha (i := 0) (by have := hF.ch.mem _ h.1; omega) hj (by omega)
        omega), Int.add_zero]
  · unfold mkF
    rw [if_neg (fun h => by have := hF.ch.mem i h.1; omega), hF.zer i hi]; rfl
theorem GA_head {ws roots : List Int} {ls : List Nat} {k a : Nat} (ha : a ∈ ls) : GA ws roots ls k a 0 = mkF ws roots ls a := by
  unfold GA G1 mkF
  rw [if_neg (fun h => by have := h.1; omega), if_pos rfl]
  by_cases hr : Rc ws roots a
  · rw [if_pos hr, if_pos ⟨ha, hr⟩]
  · rw [if_neg hr, if_neg (fun h => hr h.2)]
theorem GA_one {ws roots : List Int} {ls : List Nat} {a : Nat} (ha : a ∈ ls) (hr : Rc ws roots a) : GA ws roots ls ls.length a 1 = (nto ws roots ls a : Int) := by
  unfold GA
  rw [if_pos ⟨rfl, hr, List.idxOf_lt_length_of_mem ha⟩]
theorem GB_head {ws roots : List Int} {ls : List Nat} {k m a : Nat} (ha : a ∈ ls) : GB ws roots ls k m a 0 = mkF ws roots ls a := by
  unfold GB
  rw [if_neg (fun h => by have := h.1.1; omega)]; exact GA_head ha
theorem GB_one {ws roots : List Int} {ls : List Nat} {k m a : Nat} (ha : a ∈ ls) (hr : Rc ws roots a) : GB ws roots ls k m a 1 = (nto ws roots ls a : Int) := by
  unfold GB
  rw [if_neg (fun h => by have := h.1.1; omega)]; exact GA_one ha hr
theorem GB_todo {ws roots : List Int} {ls : List Nat} {k m a : Nat} (h : ls[k]? = some a) (hn : ls.Nodup) : GB ws roots ls k m a (2 + m) = wd ws (a + (2 + m)) := by
  have hi := idx_at hn h
  unfold GB GA G1
  rw [if_neg (fun h => by have := h.2.2; omega), if_neg (fun h => by have := h.1; omega), if_neg (by omega)]
theorem GB_fin {ws roots : List Int} {ls : List Nat} {a j : Nat} (ha : a ∈ ls) (hr : Rc ws roots a) (hj : 2 ≤ j) : GB ws roots ls ls.length 0 a j = objW ws roots ls a j := by
  have := List.idxOf_lt_length_of_mem ha
  unfold GB objW
  by_cases h : 2 ≤ j ∧ j < 2 + tgN ws a
  · rw [if_pos ⟨h, hr, .inl this⟩, if_pos h]
  · rw [if_neg (fun h' => h h'.1), if_neg h]
    unfold GA G1
    rw [if_neg (fun h => by have := h.1; omega), if_neg (by omega)]
theorem GA_step {ws roots : List Int} {ls : List Nat} (hn : ls.Nodup) {k a : Nat} (h : ls[k]? = some a) : ∀ b ∈ ls, ∀ j, (Rc ws roots a → (if b = a ∧ j = 1 then (nto ws roots ls a : Int) else GA ws roots ls k b j) = GA ws roots ls (k + 1) b j) ∧ (¬ Rc ws roots a → GA ws roots ls k b j = GA ws roots ls (k + 1) b j) := by
  intro b hb j
  have hi := idx_at hn h
  have key : b ≠ a → (ls.idxOf b < k ↔ ls.idxOf b < k + 1) := fun hne => by
    constructor
    · intro h'; omega
    · intro h'
      by_cases e : ls.idxOf b = k
      · have := at_idx hb
        rw [e, h] at this
        exact absurd (Option.some.inj this).symm hne
      · omega
  constructor
  · intro hr
    by_cases e : b = a
    · subst e
      unfold GA
      by_cases h1 : j = 1
      · rw [if_pos ⟨rfl, h1⟩, if_pos ⟨h1, hr, by omega⟩]
      · rw [if_neg (fun h' => h1 h'.2), if_neg (fun h' => h1 h'.1), if_neg (fun h' => h1 h'.1)]
    · rw [if_neg (fun h' => e h'.1)]
      unfold GA
      exact ite_iff (by rw [key e])
  · intro hr
    by_cases e : b = a
    · subst e
      unfold GA
      rw [if_neg (fun h' => hr h'.2.1), if_neg (fun h' => hr h'.2.1)]
    · unfold GA
      exact ite_iff (by rw [key e])
theorem GB_zero {ws roots : List Int} {ls : List Nat} : ∀ a j, GB ws roots ls 0 0 a j = GA ws roots ls ls.length a j := by
  intro a j
  unfold GB
  rw [if_neg (fun h => by have := h.2.2; have := h.1; omega)]
theorem GB_step {ws roots : List Int} {ls : List Nat} (hn : ls.Nodup) {k m a : Nat} (h : ls[k]? = some a) (hr : Rc ws roots a) (hm : m < tgN ws a) : ∀ b ∈ ls, ∀ j, (if b = a ∧ j = 2 + m then turnF ws roots ls (wd ws (a + (2 + m))) else GB ws roots ls k m b j) = GB ws roots ls k (m + 1) b j := by
  intro b hb j
  have hi := idx_at hn h
  by_cases e : b = a
  · subst e
    unfold GB
    by_cases h1 : j = 2 + m
    · subst h1
      rw [if_pos ⟨rfl, rfl⟩, if_pos ⟨by omega, hr, .inr ⟨hi, by omega⟩⟩]
    · rw [if_neg (fun h' => h1 h'.2)]
      have : ((2 ≤ j ∧ j < 2 + tgN ws b) ∧ Rc ws roots b ∧ (ls.idxOf b < k ∨ ls.idxOf b = k ∧ j < 2 + m)) ↔ ((2 ≤ j ∧ j < 2 + tgN ws b) ∧ Rc ws roots b ∧ (ls.idxOf b < k ∨ ls.idxOf b = k ∧ j < 2 + (m + 1))) := by
        constructor
        · rintro ⟨g1, g2, g3⟩; exact ⟨g1, g2, by omega⟩
        · rintro ⟨g1, g2, g3⟩; exact ⟨g1, g2, by omega⟩
      exact ite_iff this
  · rw [if_neg (fun h' => e h'.1)]
    have hne : ls.idxOf b ≠ k := fun e' => by
      have := at_idx hb
      rw [e', h] at this
      exact e (Option.some.inj this).symm
    unfold GB
    exact ite_iff (by simp only [hne, false_and, or_false])
theorem GB_next {ws roots : List Int} {ls : List Nat} (hn : ls.Nodup) {k m a : Nat} (h : ls[k]? = some a) (hm : Rc ws roots a → m = tgN ws a) : ∀ b ∈ ls, ∀ j, GB ws roots ls k m b j = GB ws roots ls (k + 1) 0 b j := by
  intro b hb j
  have hi := idx_at hn h
  unfold GB
  by_cases e : b = a
  · subst e
    have : ((2 ≤ j ∧ j < 2 + tgN ws b) ∧ Rc ws roots b ∧ (ls.idxOf b < k ∨ ls.idxOf b = k ∧ j < 2 + m)) ↔ ((2 ≤ j ∧ j < 2 + tgN ws b) ∧ Rc ws roots b ∧ (ls.idxOf b < k + 1 ∨ ls.idxOf b = k + 1 ∧ j < 2 + 0)) := by
      constructor
      · rintro ⟨g1, g2, g3⟩; exact ⟨g1, g2, by omega⟩
      · rintro ⟨g1, g2, g3⟩; have := hm g2; exact ⟨g1, g2, by omega⟩
    exact ite_iff this
  · have hne : ls.idxOf b ≠ k := fun e' => by
      have := at_idx hb
      rw [e', h] at this
      exact e (Option.some.inj this).symm
    have : ((2 ≤ j ∧ j < 2 + tgN ws b) ∧ Rc ws roots b ∧ (ls.idxOf b < k ∨ ls.idxOf b = k ∧ j < 2 + m)) ↔ ((2 ≤ j ∧ j < 2 + tgN ws b) ∧ Rc ws roots b ∧ (ls.idxOf b < k + 1 ∨ ls.idxOf b = k + 1 ∧ j < 2 + 0)) := by
      constructor
      · rintro ⟨g1, g2, g3⟩; exact ⟨g1, g2, by omega⟩
      · rintro ⟨g1, g2, g3⟩; exact ⟨g1, g2, by omega⟩
    exact ite_iff this
end Can
end Go.Proofs.Ytopmheekeooodaa
