/- Slide: a memory in form as a row of objects; what is reached; plain. -/
import Derived.Test.YtopmheekeooodaaArForm
namespace Go.Proofs.Ytopmheekeooodaa
namespace Can
set_option linter.unusedSimpArgs false
set_option linter.unusedVariables false
def szN (ws : List Int) (a : Nat) : Nat := (hdS (wd ws a)).toNat
def tgN (ws : List Int) (a : Nat) : Nat := (hdT (wd ws a)).toNat
def adr (w : Int) : Nat := (w / 4).toNat
/-- Objects one behind the other, up to tn. -/
inductive Ch (sz : Nat → Nat) (tn : Nat) : Nat → List Nat → Prop where
  | nil : Ch sz tn tn []
  | cons {a : Nat} {l : List Nat} (h : 2 ≤ sz a) (hr : Ch sz tn (a + sz a) l) : Ch sz tn a (a :: l)
theorem Ch.le {sz : Nat → Nat} {tn a : Nat} {l : List Nat} (h : Ch sz tn a l) : a ≤ tn := by
  induction h with
  | nil => exact Nat.le_refl _
  | cons h hr ih => omega
theorem Ch.mem {sz : Nat → Nat} {tn a : Nat} {l : List Nat} (h : Ch sz tn a l) : ∀ x ∈ l, a ≤ x ∧ 2 ≤ sz x ∧ x + sz x ≤ tn := by
  induction h with
  | nil => intro x hx; cases hx
  | cons h hr ih =>
    intro x hx
    rcases List.mem_cons.1 hx with rfl | hx
    · exact ⟨Nat.le_refl _, h, hr.le⟩
    · have := ih x hx; omega
theorem Ch.apart {sz : Nat → Nat} {tn a : Nat} {l : List Nat} (h : Ch sz tn a l) : l.Pairwise fun x y => x + sz x ≤ y := by
  induction h with
  | nil => exact .nil
  | cons h hr ih => exact List.pairwise_cons.2 ⟨fun y hy => (hr.mem y hy).1, ih⟩
theorem Ch.cover {sz : Nat → Nat} {tn a : Nat} {l : List Nat} (h : Ch sz tn a l) : ∀ i, a ≤ i → i < tn → ∃ x ∈ l, x ≤ i ∧ i < x + sz x := by
  induction h with
  | nil => intro i h1 h2; omega
  | @cons a l h hr ih =>
    intro i h1 h2
    by_cases hi : i < a + sz a
    · exact ⟨a, List.mem_cons_self .., h1, hi⟩
    · obtain ⟨x, hx, h3⟩ := ih i (by omega) h2
      exact ⟨x, List.mem_cons_of_mem _ hx, h3⟩
theorem Ch.sep {sz : Nat → Nat} {tn a : Nat} {l : List Nat} (h : Ch sz tn a l) {x y : Nat} (hx : x ∈ l) (hy : y ∈ l) (hne : x ≠ y) : x + sz x ≤ y ∨ y + sz y ≤ x := by
  have hp := h.apart
  obtain ⟨i, hi, rfl⟩ := List.getElem_of_mem hx
  obtain ⟨j, hj, rfl⟩ := List.getElem_of_mem hy
  rw [List.pairwise_iff_getElem] at hp
  rcases Nat.lt_trichotomy i j with h1 | h1 | h1
  · exact .inl (hp i j hi hj h1)
  · subst h1; exact absurd rfl hne
  · exact .inr (hp j i hj hi h1)
theorem Ch.nodup {sz : Nat → Nat} {tn a : Nat} {l : List Nat} (h : Ch sz tn a l) : l.Nodup := by
  induction h with
  | nil => exact .nil
  | @cons a l h hr ih => exact List.nodup_cons.2 ⟨fun hm => by have := (hr.mem _ hm).1; omega, ih⟩
theorem Ch.mono {sz sz' : Nat → Nat} {tn a : Nat} {l : List Nat} (h : Ch sz tn a l) (hs : ∀ x ∈ l, sz' x = sz x) : Ch sz' tn a l := by
  induction h with
  | nil => exact .nil
  | @cons a l h hr ih =>
    have h1 := hs a (List.mem_cons_self ..)
    exact .cons (by omega) (by rw [h1]; exact ih fun x hx => hs x (List.mem_cons_of_mem _ hx))
theorem Ch.len {sz : Nat → Nat} {tn a : Nat} {l : List Nat} (h : Ch sz tn a l) : 2 * l.length + a ≤ tn := by
  induction h with
  | nil => simp
  | cons h hr ih => simp only [List.length_cons]; omega
theorem Ch.inj {sz : Nat → Nat} {tn a : Nat} {l l' : List Nat} (h : Ch sz tn a l) (k : Ch sz tn a l') : l = l' := by
  induction h generalizing l' with
  | nil =>
    cases k with
    | nil => rfl
    | cons h hr => have := hr.le; omega
  | cons h hr ih =>
    cases k with
    | nil => have := hr.le; omega
    | cons h' hr' => rw [ih hr']
/-- A memory in form; its objects. -/
structure Form (ws : List Int) (tn : Nat) (ls : List Nat) : Prop where
  len : 2 ≤ ws.length ∧ ws.length ≤ 1048576
  top : 1 ≤ tn ∧ tn ≤ ws.length
  w0 : wd ws 0 = 0
  ch : Ch (szN ws) tn 1 ls
  ob : ∀ a ∈ ls, isObj ws tn a = true
  fld : ∀ a ∈ ls, ∀ i, i < tgN ws a → kindF (wd ws (a + 2 + i)) ≠ 3 ∧ (kindF (wd ws (a + 2 + i)) = 0 → adr (wd ws (a + 2 + i)) ∈ ls)
  zer : ∀ i, tn ≤ i → wd ws i = 0
def intsN (l : List Nat) : List Int := l.map fun (x : Nat) => (x : Int)
theorem mem_intsN {l : List Nat} {a : Nat} : (a : Int) ∈ intsN l ↔ a ∈ l := by
  simp only [intsN, List.mem_map]
  constructor
  · rintro ⟨x, hx, e⟩; have : x = a := by omega
    exact this ▸ hx
  · exact fun h => ⟨a, h, rfl⟩
theorem mem_intsN_adr {l : List Nat} {w : Int} (h : 0 ≤ w) : w / 4 ∈ intsN l ↔ adr w ∈ l := by
  have : w / 4 = (adr w : Int) := by unfold adr; omega
  rw [this, mem_intsN]
theorem isObj_sz {ws : List Int} {tn a : Nat} (h : isObj ws tn a = true) : 2 + tgN ws a ≤ szN ws a ∧ a + szN ws a ≤ tn ∧ 1 ≤ a ∧ wd ws (a + 1) = 0 ∧ wd ws a / 72057594037927936 = 0 ∧ 0 < hdK (wd ws a) := by
  have h1 := isObj_parts h
  have h2 := okH_parts h1.2.2.2.1
  unfold tgN szN
  omega
theorem chainF_ch {ws : List Int} {tn : Nat} : ∀ {n a : Nat} {l : List Int}, a ≤ tn → chainF ws tn n a = some l → ∃ ls, l = intsN ls ∧ Ch (szN ws) tn a ls ∧ ∀ x ∈ ls, isObj ws tn x = true
  | 0, a, l, ha, h => by
    unfold chainF at h
    split at h
    · cases h
      have : a = tn := by omega
      subst this
      exact ⟨[], rfl, .nil, fun x hx => by cases hx⟩
    · cases h
  | n + 1, a, l, ha, h => by
    unfold chainF at h
    split at h
    · cases h
      have : a = tn := by omega
      subst this
      exact ⟨[], rfl, .nil, fun x hx => by cases hx⟩
    · split at h
      · rename_i ho
        rw [Option.map_eq_some_iff] at h
        obtain ⟨l', h1, rfl⟩ := h
        have hz := isObj_sz ho
        obtain ⟨ls, rfl, hc, hob⟩ := chainF_ch (show a + (hdS (wd ws a)).toNat ≤ tn from hz.2.1) h1
        refine ⟨a :: ls, rfl, .cons (by omega) hc, fun x hx => ?_⟩
        rcases List.mem_cons.1 hx with rfl | hx
        · exact ho
        · exact hob x hx
      · cases h
theorem ch_chainG {ws : List Int} {tn a : Nat} {ls : List Nat} (h : Ch (szN ws) tn a ls) (ho : ∀ x ∈ ls, isObj ws tn x = true) : chainG ws tn a = some (intsN ls) := by
  induction h with
  | nil => exact chainG_end (Nat.le_refl _)
  | @cons a l h hr ih =>
    have h1 := ho a (List.mem_cons_self ..)
    have h2 := isObj_sz h1
    rw [chainG_step (by omega) h1]
    have := ih fun x hx => ho x (List.mem_cons_of_mem _ hx)
    show Option.map _ (chainG ws tn (a + szN ws a)) = _
    rw [this]; rfl
theorem wd_nonneg {ws : List Int} (hw : ∀ x ∈ ws, 0 ≤ x ∧ x < 18446744073709551616) (i : Nat) : 0 ≤ wd ws i ∧ wd ws i < 18446744073709551616 := by
  unfold wd
  rw [List.getD_eq_getElem?_getD]
  cases h : ws[i]? with
  | none => simp
  | some x => exact hw x (List.mem_of_getElem? h)
theorem form_of {ws : List Int} {tn : Nat} {l : List Int} (hw : ∀ x ∈ ws, 0 ≤ x ∧ x < 18446744073709551616) (h : formF ws tn = some l) : ∃ ls, l = intsN ls ∧ Form ws tn ls := by
  unfold formF at h
  split at h
  · cases h
  · rename_i hg
    rw [Int.toNat_natCast] at h
    cases hc : chainG ws tn 1 with
    | none => rw [hc] at h; cases h
    | some l' =>
      rw [hc] at h
      simp only [finF] at h
      split at h
      · rename_i hr
        cases h
        obtain ⟨ls, rfl, hch, hob⟩ := chainF_ch (show 1 ≤ tn by omega) (show chainF ws tn (tn - 1) 1 = some l from hc)
        simp only [Bool.and_eq_true] at hr
        refine ⟨ls, rfl, by omega, by omega, by omega, hch, hob, fun a ha i hi => ?_, fun i hi => ?_⟩
        · have h1 := hr.1
          unfold refsOk at h1
          rw [List.all_eq_true] at h1
          have h2 := h1 _ (mem_intsN.2 ha)
          rw [Int.toNat_natCast] at h2
          unfold objOk at h2
          rw [List.all_eq_true] at h2
          have h3 := h2 _ (List.mem_map.2 ⟨i, List.mem_range.2 hi, rfl⟩)
          have hn := wd_nonneg hw (a + 2 + i)
          unfold refOk at h3
          split at h3
          · cases h3
          · rename_i hk
            refine ⟨hk, fun h0 => ?_⟩
            rw [if_pos h0, decide_eq_true_eq] at h3
            exact (mem_intsN_adr hn.1).1 h3.2
        · have h1 := hr.2
          unfold zerosOk at h1
          rw [List.all_eq_true] at h1
          unfold wd
          rw [List.getD_eq_getElem?_getD]
          cases hx : ws[i]? with
          | none => rfl
          | some x =>
            have hx' : x ∈ ws.drop tn := by
              rw [List.mem_iff_getElem?]
              exact ⟨i - tn, by rw [List.getElem?_drop, Nat.add_sub_cancel' hi]; exact hx⟩
            simpa using h1 x hx'
      · cases h
theorem form_mk {ws : List Int} {tn : Nat} {ls : List Nat} (hw : ∀ x ∈ ws, 0 ≤ x ∧ x < 18446744073709551616) (h : Form ws tn ls) : formF ws tn = some (intsN ls) := by
  have hl := h.len
  have ht := h.top
  have h0 := h.w0
  unfold formF
  rw [if_neg (by omega), Int.toNat_natCast, ch_chainG h.ch h.ob]
  simp only [finF]
  rw [if_pos]
  rw [Bool.and_eq_true]
  constructor
  · unfold refsOk
    rw [List.all_eq_true]
    intro x hx
    obtain ⟨a, ha, rfl⟩ := List.mem_map.1 hx
    rw [Int.toNat_natCast]
    unfold objOk
    rw [List.all_eq_true]
    intro y hy
    obtain ⟨i, hi, rfl⟩ := List.mem_map.1 hy
    have h1 := h.fld a ha i (List.mem_range.1 hi)
    have hn := wd_nonneg hw (a + 2 + i)
    unfold refOk
    rw [if_neg h1.1]
    split
    · rename_i hk
      have h2 := h1.2 hk
      have h3 := isObj_sz (h.ob _ h2)
      refine decide_eq_true ⟨?_, (mem_intsN_adr hn.1).2 h2⟩
      unfold adr at h3; omega
    · rfl
  · unfold zerosOk
    rw [List.all_eq_true]
    intro x hx
    obtain ⟨i, hi⟩ := List.mem_iff_getElem?.1 hx
    rw [List.getElem?_drop] at hi
    have := h.zer (tn + i) (by omega)
    unfold wd at this
    rw [List.getD_eq_getElem?_getD, hi] at this
    simpa using this
/-- What is reached. -/
inductive Rc (ws roots : List Int) : Nat → Prop where
  | root {w : Int} (h : w ∈ roots) (hk : kindF w = 0) : Rc ws roots (adr w)
  | step {a i : Nat} (h : Rc ws roots a) (hi : i < tgN ws a) (hk : kindF (wd ws (a + 2 + i)) = 0) : Rc ws roots (adr (wd ws (a + 2 + i)))
/-- Roots that are right. -/
def RtOk (ls : List Nat) (roots : List Int) : Prop := ∀ w ∈ roots, kindF w ≠ 3 ∧ (kindF w = 0 → adr w ∈ ls)
theorem Rc.mem {ws roots : List Int} {tn : Nat} {ls : List Nat} (hF : Form ws tn ls) (hr : RtOk ls roots) {a : Nat} (h : Rc ws roots a) : a ∈ ls := by
  induction h with
  | root h hk => exact (hr _ h).2 hk
  | step h hi hk ih => exact (hF.fld _ ih _ hi).2 hk
open Classical in
/-- The objects that are reached, rising. -/
noncomputable def rcL (ws roots : List Int) (ls : List Nat) : List Nat := ls.filter fun a => decide (Rc ws roots a)
open Classical in
theorem mem_rcL {ws roots : List Int} {tn : Nat} {ls : List Nat} (hF : Form ws tn ls) (hr : RtOk ls roots) {a : Nat} : a ∈ rcL ws roots ls ↔ Rc ws roots a := by
  unfold rcL
  rw [List.mem_filter, decide_eq_true_eq]
  exact ⟨fun h => h.2, fun h => ⟨h.mem hF hr, h⟩⟩
end Can
end Go.Proofs.Ytopmheekeooodaa
