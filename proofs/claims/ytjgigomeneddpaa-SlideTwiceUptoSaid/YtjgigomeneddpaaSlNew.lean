/- Slide: the memory behind a collection is in form, and all of it is reached; plain. -/
import Derived.Test.YtjgigomeneddpaaSlColLaw
namespace Go.Proofs.Ytjgigomeneddpaa
namespace Can
set_option linter.unusedSimpArgs false
set_option linter.unusedVariables false
/-- The objects behind a collection. -/
noncomputable def newL (ws roots : List Int) (ls : List Nat) : List Nat := (rcL ws roots ls).map (nto ws roots ls)
section
variable {ws roots : List Int} {tn : Nat} {ls : List Nat}
theorem kind4 {m : Nat} (h1 : 1 ≤ m) (h2 : m < 1048576) : kindF (4 * (m : Int)) = 0 ∧ adr (4 * (m : Int)) = m := by
  have e : (4 * (m : Int)) / 4 = (m : Int) := by omega
  constructor
  · unfold kindF
    rw [if_pos (by omega), e, if_pos]
    unfold okA
    exact decide_eq_true (by omega)
  · unfold adr; rw [e]; omega
theorem turn_kind (hF : Form ws tn ls) {w : Int} (hk : kindF w ≠ 3) (hr : kindF w = 0 → adr w ∈ ls ∧ Rc ws roots (adr w)) : kindF (turnF ws roots ls w) = kindF w ∧ (kindF w = 0 → adr (turnF ws roots ls w) = nto ws roots ls (adr w)) := by
  unfold turnF
  by_cases h0 : kindF w = 0
  · rw [if_pos h0, h0]
    have h1 := nto_pos (ws := ws) (roots := roots) (ls := ls) (a := adr w)
    have h2 := nto_lt (roots := roots) hF (hr h0).1
    exact ⟨(kind4 h1 h2).1, fun _ => (kind4 h1 h2).2⟩
  · rw [if_neg h0]
    exact ⟨rfl, fun h => absurd h h0⟩
theorem new_in (hF : Form ws tn ls) {a : Nat} (ha : a ∈ ls) (hr : Rc ws roots a) {j : Nat} (hj : j < szN ws a) : nto ws roots ls a + j < ws.length ∧ wd (colL ws roots ls) (nto ws roots ls a + j) = objW ws roots ls a j := by
  have h1 := nto_end ha hr
  have h2 := Pk_top (roots := roots) hF
  have h3 := hF.top
  have h : nto ws roots ls a + j < ws.length := by omega
  exact ⟨h, by rw [colL_wd h, colF_at hF ha hr hj]⟩
theorem new_head (hF : Form ws tn ls) {a : Nat} (ha : a ∈ ls) (hr : Rc ws roots a) : wd (colL ws roots ls) (nto ws roots ls a) = wd ws a := by
  have := (new_in hF ha hr (j := 0) (by have := hF.ch.mem a ha; omega)).2
  rw [Nat.add_zero] at this
  rw [this]
  unfold objW
  rw [if_neg (by omega)]; rfl
theorem new_sz (hF : Form ws tn ls) {a : Nat} (ha : a ∈ ls) (hr : Rc ws roots a) : szN (colL ws roots ls) (nto ws roots ls a) = szN ws a ∧ tgN (colL ws roots ls) (nto ws roots ls a) = tgN ws a := by
  unfold szN tgN
  rw [new_head hF ha hr]
  exact ⟨rfl, rfl⟩
theorem new_fld (hF : Form ws tn ls) {a : Nat} (ha : a ∈ ls) (hr : Rc ws roots a) {i : Nat} (hi : i < tgN ws a) : wd (colL ws roots ls) (nto ws roots ls a + 2 + i) = turnF ws roots ls (wd ws (a + 2 + i)) := by
  have hs := isObj_sz (hF.ob a ha)
  have := (new_in hF ha hr (j := 2 + i) (by omega)).2
  rw [← Nat.add_assoc] at this
  rw [this]
  unfold objW
  rw [if_pos (by omega), ← Nat.add_assoc]
theorem fld_rc (hF : Form ws tn ls) {a : Nat} (ha : a ∈ ls) (hr : Rc ws roots a) {i : Nat} (hi : i < tgN ws a) : kindF (wd ws (a + 2 + i)) ≠ 3 ∧ (kindF (wd ws (a + 2 + i)) = 0 → adr (wd ws (a + 2 + i)) ∈ ls ∧ Rc ws roots (adr (wd ws (a + 2 + i)))) := by
  have := hF.fld a ha i hi
  exact ⟨this.1, fun h => ⟨this.2 h, .step hr hi h⟩⟩
theorem mem_new : ∀ {x : Nat}, x ∈ newL ws roots ls ↔ ∃ a ∈ ls, Rc ws roots a ∧ x = nto ws roots ls a := by
  intro x
  unfold newL
  rw [List.mem_map]
  constructor
  · rintro ⟨a, ha, rfl⟩
    have := mem_rc.1 ha
    exact ⟨a, this.1, this.2, rfl⟩
  · rintro ⟨a, h1, h2, rfl⟩
    exact ⟨a, mem_rc.2 ⟨h1, h2⟩, rfl⟩
theorem new_ch (hF : Form ws tn ls) : ∀ {i : Nat}, i ≤ (rcL ws roots ls).length → Ch (szN (colL ws roots ls)) (Pk ws roots ls ls.length) (Qk ws roots ls i) (((rcL ws roots ls).drop i).map (nto ws roots ls)) := by
  intro i hi
  induction h : (rcL ws roots ls).length - i generalizing i with
  | zero =>
    have : i = (rcL ws roots ls).length := by omega
    subst this
    rw [List.drop_length, Qk_end]
    exact .nil
  | succ m ih =>
    have hil : i < (rcL ws roots ls).length := by omega
    obtain ⟨a, ha⟩ : ∃ a, (rcL ws roots ls)[i]? = some a := ⟨_, List.getElem?_eq_getElem hil⟩
    obtain ⟨hi', e⟩ := List.getElem?_eq_some_iff.1 ha
    have hm := mem_rc.1 (List.mem_of_getElem? ha)
    rw [List.drop_eq_getElem_cons hil, e, List.map_cons, ← Qk_nto hF ha]
    have hs := (new_sz (roots := roots) hF hm.1 hm.2).1
    refine .cons (by rw [hs]; exact (hF.ch.mem a hm.1).2.1) ?_
    have := ih (i := i + 1) (by omega) (by omega)
    rw [Qk_succ ha, ← Qk_nto hF ha] at this
    rw [hs]
    exact this
theorem new_form (hF : Form ws tn ls) (hu : ∀ x ∈ ws, 0 ≤ x ∧ x < 18446744073709551616) : Form (colL ws roots ls) (Pk ws roots ls ls.length) (newL ws roots ls) := by
  have hl := hF.len
  have ht := hF.top
  have hP := Pk_top (roots := roots) hF
  have hP1 := Pk_pos (ws := ws) (roots := roots) (ls := ls) (k := ls.length)
  refine ⟨by rw [colL_len]; exact hl, by rw [colL_len]; omega, ?_, ?_, fun x hx => ?_, fun x hx i hi => ?_, fun i hi => ?_⟩
  · rw [colL_wd (by omega), colF_zero]
  · have := new_ch (roots := roots) hF (i := 0) (Nat.zero_le _)
    rw [List.drop_zero] at this
    exact this
  · obtain ⟨a, ha, hr, rfl⟩ := mem_new.1 hx
    have hs := isObj_sz (hF.ob a ha)
    have hp := isObj_parts (hF.ob a ha)
    have ho := okH_parts hp.2.2.2.1
    have he := nto_end ha hr
    have hn := nto_pos (ws := ws) (roots := roots) (ls := ls) (a := a)
    have h1 := (new_in hF ha hr (j := 1) (by omega)).2
    have h1' : objW ws roots ls a 1 = 0 := by
      unfold objW
      rw [if_neg (by omega)]; exact hs.2.2.2.1
    have hsn : hdS (wd ws a) = (szN ws a : Int) := by unfold szN; omega
    unfold isObj
    rw [new_head hF ha hr, h1, h1']
    rw [Bool.and_eq_true, Bool.and_eq_true]
    refine ⟨⟨decide_eq_true (by omega), ?_⟩, decide_eq_true ⟨hs.2.2.2.2.1, rfl⟩⟩
    unfold okH
    exact decide_eq_true ⟨ho.1, ho.2.1, by omega⟩
  · obtain ⟨a, ha, hr, rfl⟩ := mem_new.1 hx
    rw [(new_sz hF ha hr).2] at hi
    have hf := fld_rc hF ha hr hi
    rw [new_fld hF ha hr hi]
    have hk := turn_kind (roots := roots) hF hf.1 hf.2
    rw [hk.1]
    refine ⟨hf.1, fun h0 => ?_⟩
    rw [hk.2 h0]
    obtain ⟨g1, g2⟩ := hf.2 h0
    exact mem_new.2 ⟨_, g1, g2, rfl⟩
  · by_cases h : i < ws.length
    · rw [colL_wd h, colF_hi hi]
    · unfold wd
      rw [List.getD_eq_getElem?_getD, List.getElem?_eq_none (by rw [colL_len]; omega)]; rfl
theorem new_rt (hF : Form ws tn ls) (hr : RtOk ls roots) : RtOk (newL ws roots ls) (roots.map (turnF ws roots ls)) := by
  intro w hw
  obtain ⟨v, hv, rfl⟩ := List.mem_map.1 hw
  have h := hr v hv
  have hk := turn_kind (roots := roots) hF h.1 fun h0 => ⟨h.2 h0, .root hv h0⟩
  rw [hk.1]
  refine ⟨h.1, fun h0 => ?_⟩
  rw [hk.2 h0]
  exact mem_new.2 ⟨_, h.2 h0, .root hv h0, rfl⟩
theorem nto_one (hF : Form ws tn ls) {a b : Nat} (ha : a ∈ ls) (hb : b ∈ ls) (hra : Rc ws roots a) (hrb : Rc ws roots b) (h : nto ws roots ls a = nto ws roots ls b) : a = b :=
  nto_inj hF ha hb hra hrb (i := nto ws roots ls a) ⟨Nat.le_refl _, by have := hF.ch.mem a ha; omega⟩ ⟨by omega, by have := hF.ch.mem b hb; omega⟩
/-- What is reached behind a collection, from some of its roots. -/
theorem new_rc (hF : Form ws tn ls) (hr : RtOk ls roots) {some : List Int} (hs : ∀ w ∈ some, w ∈ roots) {x : Nat} : Rc (colL ws roots ls) (some.map (turnF ws roots ls)) x ↔ ∃ a, Rc ws some a ∧ x = nto ws roots ls a := by
  have sub : ∀ {a}, Rc ws some a → Rc ws roots a := fun {a} h => by
    induction h with
    | root h hk => exact .root (hs _ h) hk
    | step h hi hk ih => exact .step ih hi hk
  constructor
  · intro h
    induction h with
    | root h hk =>
      obtain ⟨v, hv, rfl⟩ := List.mem_map.1 h
      have g := hr v (hs v hv)
      have hkk := turn_kind (roots := roots) hF g.1 fun h0 => ⟨g.2 h0, .root (hs v hv) h0⟩
      rw [hkk.1] at hk
      exact ⟨_, .root hv hk, hkk.2 hk⟩
    | @step y i h hi hk ih =>
      obtain ⟨a, ha, rfl⟩ := ih
      have hra := sub ha
      have hm := hra.mem hF hr
      rw [(new_sz hF hm hra).2] at hi
      have hf := fld_rc hF hm hra hi
      rw [new_fld hF hm hra hi] at hk ⊢
      have hkk := turn_kind (roots := roots) hF hf.1 hf.2
      rw [hkk.1] at hk
      exact ⟨_, .step ha hi hk, hkk.2 hk⟩
  · rintro ⟨a, ha, rfl⟩
    induction ha with
    | @root w h hk =>
      have g := hr w (hs w h)
      have hkk := turn_kind (roots := roots) hF g.1 fun h0 => ⟨g.2 h0, .root (hs w h) h0⟩
      rw [← hkk.2 hk]
      exact .root (List.mem_map_of_mem h) (by rw [hkk.1]; exact hk)
    | @step a i h hi hk ih =>
      have hra := sub h
      have hm := hra.mem hF hr
      have hf := fld_rc hF hm hra hi
      have hkk := turn_kind (roots := roots) hF hf.1 hf.2
      have := Rc.step ih (i := i) (by rw [(new_sz hF hm hra).2]; exact hi) (by rw [new_fld hF hm hra hi, hkk.1]; exact hk)
      rw [new_fld hF hm hra hi, hkk.2 hk] at this
      exact this
/-- All of it is reached. -/
theorem new_all (hF : Form ws tn ls) (hr : RtOk ls roots) : rcL (colL ws roots ls) (roots.map (turnF ws roots ls)) (newL ws roots ls) = newL ws roots ls := by
  unfold rcL
  rw [List.filter_eq_self]
  intro x hx
  obtain ⟨a, ha, h1, rfl⟩ := mem_new.1 hx
  simp only [decide_eq_true_eq]
  exact (new_rc hF hr (some := roots) fun w h => h).2 ⟨a, h1, rfl⟩
end
end Can
end Go.Proofs.Ytjgigomeneddpaa
