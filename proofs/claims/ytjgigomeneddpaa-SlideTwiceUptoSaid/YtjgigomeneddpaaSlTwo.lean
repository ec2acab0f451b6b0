/- Slide: a collection behind a collection; plain. -/
import Derived.Test.YtjgigomeneddpaaSlNew
namespace Go.Proofs.Ytjgigomeneddpaa
namespace Can
set_option linter.unusedSimpArgs false
set_option linter.unusedVariables false
section
variable {ws roots some : List Int} {tn : Nat} {ls : List Nat}
theorem rc_sub (hs : ∀ w ∈ some, w ∈ roots) {a : Nat} (h : Rc ws some a) : Rc ws roots a := by
  induction h with
  | root h hk => exact .root (hs _ h) hk
  | step h hi hk ih => exact .step ih hi hk
theorem two_rcL (hF : Form ws tn ls) (hr : RtOk ls roots) (hs : ∀ w ∈ some, w ∈ roots) : rcL (colL ws roots ls) (some.map (turnF ws roots ls)) (newL ws roots ls) = (rcL ws some ls).map (nto ws roots ls) := by
  have h1 : rcL ws some ls = (rcL ws roots ls).filter fun a => @decide (Rc ws some a) (Classical.propDecidable _) := by
    unfold rcL
    rw [List.filter_filter]
    apply List.filter_congr
    intro a ha
    by_cases h : Rc ws some a
    · simp [h, rc_sub hs h]
    · simp [h]
  rw [h1]
  unfold newL
  unfold rcL
  rw [List.filter_map]
  congr 1
  apply List.filter_congr
  intro a ha
  have hma : a ∈ rcL ws roots ls := ha
  have hm := mem_rc.1 hma
  simp only [Function.comp, decide_eq_decide]
  rw [new_rc hF hr hs]
  constructor
  · rintro ⟨b, hb, e⟩
    have hbr := rc_sub hs hb
    rw [nto_one hF hm.1 (hbr.mem hF hr) hm.2 hbr e]
    exact hb
  · exact fun h => ⟨a, h, rfl⟩
theorem two_Qk (hF : Form ws tn ls) (hr : RtOk ls roots) (hs : ∀ w ∈ some, w ∈ roots) (i : Nat) : Qk (colL ws roots ls) (some.map (turnF ws roots ls)) (newL ws roots ls) i = Qk ws some ls i := by
  unfold Qk
  rw [two_rcL hF hr hs, ← List.map_take, List.map_map]
  congr 2
  apply List.map_congr_left
  intro a ha
  have hm := mem_rc.1 (List.mem_of_mem_take ha)
  exact (new_sz hF hm.1 (rc_sub hs hm.2)).1
theorem two_Pk (hF : Form ws tn ls) (hr : RtOk ls roots) (hs : ∀ w ∈ some, w ∈ roots) : Pk (colL ws roots ls) (some.map (turnF ws roots ls)) (newL ws roots ls) (newL ws roots ls).length = Pk ws some ls ls.length := by
  rw [← Qk_end, ← Qk_end, two_Qk hF hr hs, two_rcL hF hr hs, List.length_map]
theorem two_nto (hF : Form ws tn ls) (hu : ∀ x ∈ ws, 0 ≤ x ∧ x < 18446744073709551616) (hr : RtOk ls roots) (hs : ∀ w ∈ some, w ∈ roots) {a : Nat} (ha : a ∈ ls) (h : Rc ws some a) : nto (colL ws roots ls) (some.map (turnF ws roots ls)) (newL ws roots ls) (nto ws roots ls a) = nto ws some ls a := by
  obtain ⟨i, hi⟩ := List.getElem?_of_mem (mem_rc.2 ⟨ha, h⟩)
  have h2 : (rcL (colL ws roots ls) (some.map (turnF ws roots ls)) (newL ws roots ls))[i]? = Option.some (nto ws roots ls a) := by rw [two_rcL hF hr hs, List.getElem?_map, hi]; rfl
  rw [Qk_nto (new_form (roots := roots) hF hu) h2, Qk_nto hF hi, two_Qk hF hr hs]
theorem turnF_0 {w : Int} (h : kindF w = 0) : turnF ws roots ls w = 4 * (nto ws roots ls (adr w) : Int) := by unfold turnF; rw [if_pos h]
theorem two_turn (hF : Form ws tn ls) (hu : ∀ x ∈ ws, 0 ≤ x ∧ x < 18446744073709551616) (hr : RtOk ls roots) (hs : ∀ w ∈ some, w ∈ roots) {w : Int} (hk : kindF w ≠ 3) (h : kindF w = 0 → adr w ∈ ls ∧ Rc ws some (adr w)) : turnF (colL ws roots ls) (some.map (turnF ws roots ls)) (newL ws roots ls) (turnF ws roots ls w) = turnF ws some ls w := by
  have ht := turn_kind (roots := roots) hF hk fun h0 => ⟨(h h0).1, rc_sub hs (h h0).2⟩
  by_cases h0 : kindF w = 0
  · have e := two_nto hF hu hr hs (h h0).1 (h h0).2
    rw [turnF_0 (ht.1.trans h0), ht.2 h0, e, turnF_0 h0]
  · have e1 : turnF ws roots ls w = w := by unfold turnF; rw [if_neg h0]
    rw [e1]
    unfold turnF
    rw [if_neg h0, if_neg h0]
theorem two_obj (hF : Form ws tn ls) (hu : ∀ x ∈ ws, 0 ≤ x ∧ x < 18446744073709551616) (hr : RtOk ls roots) (hs : ∀ w ∈ some, w ∈ roots) {a j : Nat} (ha : a ∈ ls) (h : Rc ws some a) (hj : j < szN ws a) : objW (colL ws roots ls) (some.map (turnF ws roots ls)) (newL ws roots ls) (nto ws roots ls a) j = objW ws some ls a j := by
  have hra := rc_sub hs h
  have hin := (new_in hF ha hra hj).2
  unfold objW
  rw [(new_sz hF ha hra).2, hin]
  by_cases hf : 2 ≤ j ∧ j < 2 + tgN ws a
  · have e : objW ws roots ls a j = turnF ws roots ls (wd ws (a + j)) := by unfold objW; rw [if_pos hf]
    rw [if_pos hf, if_pos hf, e]
    have hg := fld_rc hF ha h (i := j - 2) (by omega)
    have e2 : a + 2 + (j - 2) = a + j := by omega
    rw [e2] at hg
    exact two_turn hF hu hr hs hg.1 hg.2
  · have e : objW ws roots ls a j = wd ws (a + j) := by unfold objW; rw [if_neg hf]
    rw [if_neg hf, if_neg hf, e]
theorem two_col (hF : Form ws tn ls) (hu : ∀ x ∈ ws, 0 ≤ x ∧ x < 18446744073709551616) (hr : RtOk ls roots) (hs : ∀ w ∈ some, w ∈ roots) (i : Nat) : colF (colL ws roots ls) (some.map (turnF ws roots ls)) (newL ws roots ls) i = colF ws some ls i := by
  have hNF := new_form (roots := roots) hF hu
  by_cases h0 : i = 0
  · subst h0; rw [colF_zero, colF_zero]
  by_cases hi : i < Pk ws some ls ls.length
  · obtain ⟨a, ha, hra, h1, h2, _⟩ := colF_cover (ws := ws) (roots := some) hF.ch.nodup (Nat.le_refl _) i (by omega) hi
    obtain ⟨j, rfl⟩ : ∃ j, i = nto ws some ls a + j := ⟨i - nto ws some ls a, by omega⟩
    rw [colF_at hF ha hra (by omega)]
    have hr1 := rc_sub hs hra
    have hnl : nto ws roots ls a ∈ newL ws roots ls := mem_new.2 ⟨a, ha, hr1, rfl⟩
    have hnr := (new_rc hF hr hs).2 ⟨a, hra, rfl⟩
    have := colF_at (roots := some.map (turnF ws roots ls)) hNF hnl hnr (j := j) (by rw [(new_sz hF ha hr1).1]; omega)
    rw [two_nto hF hu hr hs ha hra] at this
    rw [this]
    exact two_obj hF hu hr hs ha hra (by omega)
  · rw [colF_hi (by rw [two_Pk hF hr hs]; omega), colF_hi (by omega)]
theorem two_colL (hF : Form ws tn ls) (hu : ∀ x ∈ ws, 0 ≤ x ∧ x < 18446744073709551616) (hr : RtOk ls roots) (hs : ∀ w ∈ some, w ∈ roots) : colL (colL ws roots ls) (some.map (turnF ws roots ls)) (newL ws roots ls) = colL ws some ls := by
  have e : colF (colL ws roots ls) (some.map (turnF ws roots ls)) (newL ws roots ls) = colF ws some ls := funext fun i => two_col hF hu hr hs i
  have hl : (colL ws roots ls).length = ws.length := colL_len
  have e2 : ∀ ws roots ls, colL ws roots ls = (List.range ws.length).map (colF ws roots ls) := fun _ _ _ => rfl
  rw [e2 (colL ws roots ls), e, hl]; rfl
theorem two_roots (hF : Form ws tn ls) (hu : ∀ x ∈ ws, 0 ≤ x ∧ x < 18446744073709551616) (hr : RtOk ls roots) (hs : ∀ w ∈ some, w ∈ roots) : (some.map (turnF ws roots ls)).map (turnF (colL ws roots ls) (some.map (turnF ws roots ls)) (newL ws roots ls)) = some.map (turnF ws some ls) := by
  rw [List.map_map]
  apply List.map_congr_left
  intro w hw
  have h := hr w (hs w hw)
  exact two_turn hF hu hr hs h.1 fun h0 => ⟨h.2 h0, .root hw h0⟩
end
end Can
end Go.Proofs.Ytjgigomeneddpaa
