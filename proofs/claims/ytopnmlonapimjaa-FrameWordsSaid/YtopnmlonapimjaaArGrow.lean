/- Arena, plain: a memory in form stays in form where an object is laid, or an item of an object turns. -/
import Derived.Test.YtopnmlonapimjaaArAlloc
namespace Go.Proofs.Ytopnmlonapimjaa
namespace Can
open Go Go.RowKit
set_option linter.unusedSimpArgs false
set_option linter.unusedVariables false
set_option maxRecDepth 4000
theorem form_parts {ws : List Int} {top : Int} {l : List Int} (h : formF ws top = some l) : 2 ≤ ws.length ∧ ws.length ≤ 1048576 ∧ 1 ≤ top ∧ top ≤ ws.length ∧ wd ws 0 = 0 ∧ chainG ws top.toNat 1 = some l ∧ refsOk ws top.toNat l l = true ∧ zerosOk ws top.toNat = true := by
  unfold formF at h
  split at h
  · cases h
  · rename_i hg
    cases hc : chainG ws top.toNat 1 with
    | none => rw [hc] at h; cases h
    | some l' =>
      rw [hc] at h
      simp only [finF] at h
      split at h
      · rename_i h2
        cases h
        simp only [Bool.and_eq_true] at h2
        exact ⟨by omega, by omega, by omega, by omega, Decidable.byContradiction fun h0 => hg (.inr (.inr (.inr (.inr h0)))), rfl, h2.1, h2.2⟩
      · cases h
theorem form_mk {ws : List Int} {top : Nat} {l : List Int} (h1 : 2 ≤ ws.length) (h2 : ws.length ≤ 1048576) (h3 : 1 ≤ top) (h4 : top ≤ ws.length) (h5 : wd ws 0 = 0) (h6 : chainG ws top 1 = some l) (h7 : refsOk ws top l l = true) (h8 : zerosOk ws top = true) : formF ws top = some l := by
  unfold formF
  rw [if_neg (by omega), Int.toNat_natCast, h6]
  simp only [finF, h7, h8, Bool.and_self, if_true]
theorem isObj_mk {ws : List Int} {top a : Nat} (h1 : 3 ≤ top) (h2 : 1 ≤ a) (h3 : a + 1 < top) (h4 : okH (wd ws a) top a = true) (h5 : wd ws a / 72057594037927936 = 0) (h6 : wd ws (a + 1) = 0) : isObj ws top a = true := by
  unfold isObj
  rw [h4]
  simp [h1, h2, h3, h5, h6]
/-- The objects of a chain, one by one. -/
theorem chain_mem {ws : List Int} {top : Nat} : ∀ {n a : Nat} {l : List Int}, chainF ws top n a = some l → ∀ x ∈ l, ∃ y : Nat, x = (y : Int) ∧ a ≤ y ∧ y < top ∧ isObj ws top y = true
  | 0, a, l, h, x, hx => by
    unfold chainF at h
    split at h
    · cases h; cases hx
    · cases h
  | n + 1, a, l, h, x, hx => by
    unfold chainF at h
    split at h
    · cases h; cases hx
    · rename_i hlt
      split at h
      · rename_i ho
        rw [Option.map_eq_some_iff] at h
        obtain ⟨l', h1, rfl⟩ := h
        rcases List.mem_cons.1 hx with rfl | hx
        · exact ⟨a, rfl, Nat.le_refl _, by omega, ho⟩
        · obtain ⟨y, e, h2, h3, h4⟩ := chain_mem h1 x hx
          exact ⟨y, e, by omega, h3, h4⟩
      · cases h
/-- Two objects of a chain lie apart. -/
theorem chain_apart {ws : List Int} {top : Nat} : ∀ {n a : Nat} {l : List Int}, chainF ws top n a = some l → ∀ x ∈ l, ∀ y ∈ l, x = y ∨ x + hdS (wd ws x.toNat) ≤ y ∨ y + hdS (wd ws y.toNat) ≤ x
  | 0, a, l, h, x, hx, y, hy => by
    unfold chainF at h
    split at h
    · cases h; cases hx
    · cases h
  | n + 1, a, l, h, x, hx, y, hy => by
    unfold chainF at h
    split at h
    · cases h; cases hx
    · split at h
      · rename_i ho
        have hp := okH_parts (isObj_parts ho).2.2.2.1
        rw [Option.map_eq_some_iff] at h
        obtain ⟨l', h1, rfl⟩ := h
        rcases List.mem_cons.1 hx with rfl | hx <;> rcases List.mem_cons.1 hy with rfl | hy
        · exact .inl rfl
        · obtain ⟨z, rfl, h2, _⟩ := chain_mem h1 y hy
          refine .inr (.inl ?_)
          rw [Int.toNat_natCast]; omega
        · obtain ⟨z, rfl, h2, _⟩ := chain_mem h1 x hx
          refine .inr (.inr ?_)
          rw [Int.toNat_natCast]; omega
        · exact chain_apart h1 x hx y hy
      · cases h
/-- A chain whose words stay goes on behind its end. -/
theorem chain_on {ws ws' : List Int} {top top' : Nat} (ht : top ≤ top') : ∀ {n a : Nat} {l : List Int}, top - a ≤ n → a ≤ top → chainF ws top n a = some l → (∀ i, a ≤ i → i < top → wd ws' i = wd ws i) → chainG ws' top' a = (chainG ws' top' top).map (l ++ ·)
  | 0, a, l, hn, ha, h, hw => by
    unfold chainF at h
    split at h
    · cases h
      rw [show a = top by omega]
      cases chainG ws' top' top <;> simp
    · cases h
  | n + 1, a, l, hn, ha, h, hw => by
    unfold chainF at h
    split at h
    · cases h
      rw [show a = top by omega]
      cases chainG ws' top' top <;> simp
    · split at h
      · rename_i hlt ho
        have hi := isObj_parts ho
        have hp := okH_parts hi.2.2.2.1
        rw [Option.map_eq_some_iff] at h
        obtain ⟨l', h1, rfl⟩ := h
        have e0 : wd ws' a = wd ws a := hw a (Nat.le_refl _) (by omega)
        have e1 : wd ws' (a + 1) = wd ws (a + 1) := hw (a + 1) (by omega) (by omega)
        have ho' : isObj ws' top' a = true := isObj_mk (by omega) hi.2.1 (by omega) (by
          rw [e0]
          have := of_decide_eq_true (show decide _ = true from hi.2.2.2.1)
          exact decide_eq_true ⟨this.1, this.2.1, by omega⟩) (by rw [e0]; exact hi.2.2.2.2.1) (by rw [e1]; exact hi.2.2.2.2.2)
        rw [chainG_step (by omega) ho', e0, chain_on ht (by omega) (by omega) h1 (fun i h2 h3 => hw i (by omega) h3), Option.map_map]
        congr 1
      · cases h
theorem refOk_mono {top top' : Nat} {l l' : List Int} {w : Int} (ht : top ≤ top') (hl : ∀ x ∈ l, x ∈ l') (h : refOk top l w = true) : refOk top' l' w = true := by
  unfold refOk at h ⊢
  split at h
  · cases h
  · rename_i h3
    rw [if_neg h3]
    split at h
    · rename_i h0
      rw [if_pos h0]
      have := of_decide_eq_true h
      exact decide_eq_true ⟨by omega, hl _ this.2⟩
    · rename_i h0
      rw [if_neg h0]
theorem obj_each {ws : List Int} {tn x : Nat} {ls : List Int} (h : objOk ws tn ls x = true) {i : Nat} (hi : (i : Int) < hdT (wd ws x)) : refOk tn ls (wd ws (x + 2 + i)) = true := by
  unfold objOk at h
  rw [List.all_eq_true] at h
  exact h _ (List.mem_map.2 ⟨i, List.mem_range.2 (by omega), rfl⟩)
theorem obj_mk {ws : List Int} {tn x : Nat} {ls : List Int} (h : ∀ i : Nat, (i : Int) < hdT (wd ws x) → refOk tn ls (wd ws (x + 2 + i)) = true) : objOk ws tn ls x = true := by
  unfold objOk
  rw [List.all_eq_true]
  intro y hy
  obtain ⟨i, hi, rfl⟩ := List.mem_map.1 hy
  have := List.mem_range.1 hi
  exact h i (by omega)
theorem zeros_each {ws : List Int} {tn : Nat} (h : zerosOk ws tn = true) {i : Nat} (hi : tn ≤ i) (hl : i < ws.length) : wd ws i = 0 := by
  unfold zerosOk at h
  rw [List.all_eq_true] at h
  have := h ws[i] (by rw [List.mem_iff_getElem]; exact ⟨i - tn, by simp; omega, by simp only [List.getElem_drop]; congr 1; omega⟩)
  unfold wd
  rw [List.getD_eq_getElem?_getD, List.getElem?_eq_getElem hl]
  simpa using this
theorem hd_lay {k tg sz : Nat} (h1 : k ≤ 255) (h2 : tg < 16777216) (h3 : sz < 16777216) : hdK ((k : Int) + 256 * tg + 4294967296 * (sz : Int)) = k ∧ hdT ((k : Int) + 256 * tg + 4294967296 * (sz : Int)) = tg ∧ hdS ((k : Int) + 256 * tg + 4294967296 * (sz : Int)) = sz ∧ ((k : Int) + 256 * tg + 4294967296 * (sz : Int)) / 72057594037927936 = 0 := by
  unfold hdK hdT hdS
  refine ⟨?_, ?_, ?_, ?_⟩ <;> omega
theorem form_lay {ws : List Int} {t k tg rw : Nat} {l : List Int} (h : formF ws t = some l) (h3 : 1 ≤ k) (h4 : k ≤ 255) (h5 : tg ≤ 1048576) (h6 : rw ≤ 1048576) (h7 : t + (2 + tg + rw) ≤ ws.length) :
    formF (layF ws t k tg rw) ((t + (2 + tg + rw) : Nat) : Int) = some (l ++ [(t : Int)]) := by
  obtain ⟨g1, g2, g3, g4, g5, g6, g7, g8⟩ := form_parts h
  rw [Int.toNat_natCast] at g6 g7 g8
  have hlt : ∀ i, i < t → wd (layF ws t k tg rw) i = wd ws i := fun i hi => by rw [lay_wd (by omega), if_neg (by omega)]
  have ht : wd (layF ws t k tg rw) t = (k : Int) + 256 * tg + 4294967296 * ((2 + tg + rw : Nat) : Int) := by rw [lay_wd (by omega), if_pos (by omega), if_pos rfl]
  have hd := hd_lay (k := k) (tg := tg) (sz := 2 + tg + rw) h4 (by omega) (by omega)
  have hz : wd ws (t + 1) = 0 → wd (layF ws t k tg rw) (t + 1) = 0 := fun _ => by rw [lay_wd (by omega), if_pos (by omega), if_neg (by omega), if_neg (by omega)]
  have hz1 := hz (zeros_each g8 (by omega) (by omega))
  have ho : isObj (layF ws t k tg rw) (t + (2 + tg + rw)) t = true := isObj_mk (by omega) (by omega) (by omega) (by
    rw [ht]; unfold okH; rw [hd.1, hd.2.1, hd.2.2.1]; exact decide_eq_true ⟨by omega, by omega, by omega⟩) (by rw [ht]; exact hd.2.2.2) hz1
  refine form_mk (by rw [lay_len]; omega) (by rw [lay_len]; omega) (by omega) (by rw [lay_len]; omega) (by rw [hlt 0 (by omega)]; exact g5) ?_ ?_ ?_
  · rw [chain_on (ws := ws) (top := t) (by omega) (Nat.le_refl _) (by omega) g6 (fun i _ hi => hlt i hi), chainG_step (by omega) ho, ht, hd.2.2.1, Int.toNat_natCast, chainG_end (Nat.le_refl _)]
    rfl
  · unfold refsOk
    rw [List.all_eq_true]
    intro x hx
    rcases List.mem_append.1 hx with hx | hx
    · obtain ⟨y, rfl, h1, h2, h3⟩ := chain_mem g6 x hx
      rw [Int.toNat_natCast]
      have hp := okH_parts (isObj_parts h3).2.2.2.1
      refine obj_mk fun i hi => ?_
      rw [hlt y h2] at hi
      rw [hlt _ (by omega)]
      unfold refsOk at g7
      rw [List.all_eq_true] at g7
      have := g7 _ hx
      rw [Int.toNat_natCast] at this
      exact refOk_mono (by omega) (fun x hx => List.mem_append_left _ hx) (obj_each this hi)
    · rw [List.mem_singleton] at hx
      subst hx
      rw [Int.toNat_natCast]
      refine obj_mk fun i hi => ?_
      rw [ht, hd.2.1] at hi
      rw [lay_wd (by omega), if_pos (by omega), if_neg (by omega), if_pos (by omega)]
      rfl
  · refine zeros_yes fun i hi => ?_
    rw [lay_len] at hi
    rw [lay_wd (by omega), if_neg (by omega)]
    exact zeros_each g8 (by omega) (by omega)
theorem wd_set' {us : List Int} {a i : Nat} {x : Int} (h : i ≠ a) : wd (us.set a x) i = wd us i := by
  unfold wd
  simp only [List.getD_eq_getElem?_getD, List.getElem?_set]
  rw [if_neg (by omega)]
/-- An item of an object turns. -/
theorem form_set {ws : List Int} {t a : Nat} {j : Nat} {l : List Int} {x : Int} (h : formF ws t = some l) (ha : (a : Int) ∈ l) (h1 : 2 ≤ j) (h2 : (j : Int) < hdS (wd ws a)) (hr : (j : Int) < 2 + hdT (wd ws a) → refOk t l x = true) : formF (ws.set (a + j) x) t = some l := by
  obtain ⟨g1, g2, g3, g4, g5, g6, g7, g8⟩ := form_parts h
  rw [Int.toNat_natCast] at g6 g7 g8
  obtain ⟨y, hy, hya, hyt, hyo⟩ := chain_mem g6 _ ha
  have : y = a := by omega
  subst this
  have hp := okH_parts (isObj_parts hyo).2.2.2.1
  have ap := chain_apart g6
  have hhd : ∀ z : Nat, (z : Int) ∈ l → z ≠ y + j ∧ z + 1 ≠ y + j := fun z hz => by
    obtain ⟨z', e, _, _, hzo⟩ := chain_mem g6 _ hz
    have : z' = z := by omega
    subst this
    have hq := okH_parts (isObj_parts hzo).2.2.2.1
    have := ap _ ha _ hz
    simp only [Int.toNat_natCast] at this
    omega
  have hch : ∀ {n b : Nat} {l' : List Int}, chainF ws t n b = some l' → (∀ z ∈ l', z ∈ l) → chainF (ws.set (y + j) x) t n b = some l' := by
    intro n
    induction n with
    | zero => intro b l' h _; exact h
    | succ n ih =>
      intro b l' h hs
      unfold chainF at h ⊢
      split at h
      · rename_i hlt; rw [if_pos hlt]; exact h
      · rename_i hlt
        rw [if_neg hlt]
        split at h
        · rename_i ho
          rw [Option.map_eq_some_iff] at h
          obtain ⟨l'', h1, rfl⟩ := h
          have hb := hhd b (hs _ (List.mem_cons_self ..))
          have hi := isObj_parts ho
          have e0 : wd (ws.set (y + j) x) b = wd ws b := wd_set' hb.1
          have e1 : wd (ws.set (y + j) x) (b + 1) = wd ws (b + 1) := wd_set' hb.2
          have ho' : isObj (ws.set (y + j) x) t b = true := isObj_mk hi.1 hi.2.1 hi.2.2.1 (by rw [e0]; exact hi.2.2.2.1) (by rw [e0]; exact hi.2.2.2.2.1) (by rw [e1]; exact hi.2.2.2.2.2)
          rw [if_pos ho', e0, ih h1 (fun z hz => hs z (List.mem_cons_of_mem _ hz))]
          rfl
        · cases h
  have hz0 : wd (ws.set (y + j) x) 0 = wd ws 0 := wd_set' (by omega)
  refine form_mk (by simpa using g1) (by simpa using g2) (by omega) (by rw [List.length_set]; omega) (by rw [hz0]; exact g5) (hch g6 (fun z hz => hz)) ?_ ?_
  · unfold refsOk
    rw [List.all_eq_true]
    intro z hz
    obtain ⟨z', rfl, _, _, hzo⟩ := chain_mem g6 _ hz
    have hq := okH_parts (isObj_parts hzo).2.2.2.1
    have hb := hhd z' hz
    have hap := ap _ ha _ hz
    simp only [Int.toNat_natCast] at hap
    rw [Int.toNat_natCast]
    unfold refsOk at g7
    rw [List.all_eq_true] at g7
    have hg := g7 _ hz
    rw [Int.toNat_natCast] at hg
    refine obj_mk fun i hi => ?_
    rw [wd_set' hb.1] at hi
    by_cases e : z' + 2 + i = y + j
    · have : z' = y := by omega
      subst this
      rw [e, wd_set (by omega), if_pos rfl]
      exact hr (by omega)
    · rw [wd_set' e]
      exact obj_each hg hi
  · refine zeros_yes fun i hi => ?_
    rw [List.length_set] at hi
    rw [wd_set' (by omega)]
    exact zeros_each g8 (by omega) (by omega)
end Can
end Go.Proofs.Ytopnmlonapimjaa
