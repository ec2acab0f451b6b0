/- What an order keeps: the rows of the bases and the bases' orders stand in it, in their order. Plain. -/
import Derived.Test.YthmhcpfplmhgnaaOrderF
namespace Go.Proofs.Ythmhcpfplmhgnaa
set_option linter.unusedSimpArgs false
set_option linter.unusedVariables false

theorem mergeF_sub : ∀ (n : Nat) (ls : List (List Int)), (mergeF n ls).2 = true → ∀ l ∈ ls, l.Sublist (mergeF n ls).1
  | 0, ls, h, l, hl => by
    simp only [mergeF] at h ⊢
    have := List.all_eq_true.1 h l hl
    have : l = [] := by simpa using this
    rw [this]; exact List.nil_sublist _
  | n + 1, ls, h, l, hl => by
    unfold mergeF at h ⊢
    cases hp : pickF ls ls with
    | none =>
      rw [hp] at h
      simp only at h ⊢
      have := List.all_eq_true.1 h l hl
      have : l = [] := by simpa using this
      rw [this]; exact List.nil_sublist _
    | some c =>
      rw [hp] at h
      simp only at h ⊢
      have ih := mergeF_sub n _ h (cutF c l) (List.mem_map.2 ⟨l, hl, rfl⟩)
      cases l with
      | nil => exact List.nil_sublist _
      | cons x t =>
        simp only [cutF] at ih
        split at ih
        · rename_i e; subst e; exact ih.cons_cons x
        · exact ih.cons c
/-- What stands in an order has an order of its own, which stands in it as its row does. -/
theorem ordF_keeps {bs : List (List Int)} (hf : Fits bs) : ∀ (n c : Nat), c < n → c < bs.length → ∀ l, ordF bs c = some l →
    ∀ k : Nat, (k : Int) ∈ l → ∃ (h : k < bs.length) (lk : List Int), ordF bs k = some lk ∧ lk.Sublist l ∧ bs[k].Sublist l
  | 0, c, h, _ => absurd h (Nat.not_lt_zero _)
  | n + 1, c, h, hc => by
    intro l hl k hk
    have hl0 := hl
    rw [ordF_step hf c hc] at hl
    unfold stepF at hl
    cases hr : rowsF (ordF bs) bs[c] with
    | none => rw [hr] at hl; cases hl
    | some ls =>
      rw [hr] at hl
      obtain ⟨h1, h2⟩ := rowsF_some hr
      simp only at hl
      split at hl
      · rename_i hm
        simp only [Option.some.injEq] at hl
        have hsub := mergeF_sub _ _ hm
        have hrow : bs[c].Sublist l := by rw [← hl]; exact (hsub _ (by simp)).cons _
        have hords : ∀ i (hi : i < bs[c].length) (hi' : i < ls.length), ls[i].Sublist l := fun i hi hi' => by
          rw [← hl]; exact (hsub _ (List.mem_append_left _ (List.getElem_mem _))).cons _
        rw [← hl] at hk
        rcases List.mem_cons.1 hk with hk | hk
        · have : k = c := by omega
          subst this
          exact ⟨hc, l, hl0, List.Sublist.refl _, hrow⟩
        · obtain ⟨l', hl', hkl⟩ := mergeF_mem _ _ _ hk
          have hmem : ∃ i, ∃ (hi : i < bs[c].length) (hi' : i < ls.length), (k : Int) ∈ ls[i] := by
            rcases List.mem_append.1 hl' with hl' | hl'
            · obtain ⟨i, hi, e⟩ := List.getElem_of_mem hl'
              exact ⟨i, by omega, hi, by rw [e]; exact hkl⟩
            · simp only [List.mem_singleton] at hl'
              subst hl'
              obtain ⟨i, hi, e⟩ := List.getElem_of_mem hkl
              have ho := h2 i hi (by omega)
              have hb := (hf c hc).2 bs[c][i] (List.getElem_mem _)
              obtain ⟨t, ht⟩ := ordF_head hf bs[c][i].toNat (by omega) ho
              exact ⟨i, hi, by omega, by rw [ht, e]; simp⟩
          obtain ⟨i, hi, hi', hki⟩ := hmem
          have hb := (hf c hc).2 bs[c][i] (List.getElem_mem _)
          obtain ⟨hkb, lk, e1, e2, e3⟩ := ordF_keeps hf n bs[c][i].toNat (by omega) (by omega) _ (h2 i hi hi') k hki
          exact ⟨hkb, lk, e1, e2.trans (hords i hi hi'), e3.trans (hords i hi hi')⟩
      · cases hl
/-- A set that has the class, and with a class its bases, has its whole order. -/
theorem ordF_closed {bs : List (List Int)} (hf : Fits bs) (A : Int → Prop) : ∀ (n c : Nat), c < n → c < bs.length → A c → (∀ k : Nat, (h : k < bs.length) → k ≤ c → A k → ∀ b ∈ bs[k], A b) → ∀ l, ordF bs c = some l → ∀ x ∈ l, A x
  | 0, c, h, _ => absurd h (Nat.not_lt_zero _)
  | n + 1, c, h, hc => by
    intro hA hcl l hl x hx
    rw [ordF_step hf c hc] at hl
    unfold stepF at hl
    cases hr : rowsF (ordF bs) bs[c] with
    | none => rw [hr] at hl; cases hl
    | some ls =>
      rw [hr] at hl
      obtain ⟨h1, h2⟩ := rowsF_some hr
      simp only at hl
      split at hl
      · simp only [Option.some.injEq] at hl
        rw [← hl] at hx
        rcases List.mem_cons.1 hx with rfl | hx
        · exact hA
        · obtain ⟨l', hl', hxl⟩ := mergeF_mem _ _ _ hx
          rcases List.mem_append.1 hl' with hl' | hl'
          · obtain ⟨i, hi, rfl⟩ := List.getElem_of_mem hl'
            have hi' : i < bs[c].length := by omega
            have hb := (hf c hc).2 bs[c][i] (List.getElem_mem _)
            have hAb := hcl c hc (Nat.le_refl _) hA bs[c][i] (List.getElem_mem _)
            refine ordF_closed hf A n bs[c][i].toNat (by omega) (by omega) ?_ (fun k hk hkc => hcl k hk (by omega)) _ (h2 i hi' hi) x hxl
            rw [Int.toNat_of_nonneg hb.1]; exact hAb
          · simp only [List.mem_singleton] at hl'
            subst hl'
            exact hcl c hc (Nat.le_refl _) hA x hxl
      · cases hl
theorem ordF_nodup {bs : List (List Int)} (hf : Fits bs) (c : Nat) (hc : c < bs.length) {l : List Int} (h : ordF bs c = some l) : l.Nodup := by
  rw [ordF_step hf c hc] at h
  unfold stepF at h
  cases hr : rowsF (ordF bs) bs[c] with
  | none => rw [hr] at h; cases h
  | some ls =>
    rw [hr] at h
    obtain ⟨h1, h2⟩ := rowsF_some hr
    simp only at h
    split at h
    · simp only [Option.some.injEq] at h
      rw [← h]
      refine List.nodup_cons.2 ⟨fun hm => ?_, mergeF_nodup _ _⟩
      obtain ⟨l', hl', hxl⟩ := mergeF_mem _ _ _ hm
      rcases List.mem_append.1 hl' with hl' | hl'
      · obtain ⟨i, hi, rfl⟩ := List.getElem_of_mem hl'
        have hb := (hf c hc).2 (bs[c][i]'(by omega)) (List.getElem_mem _)
        have := ordF_mem hf (c + 1) (bs[c][i]'(by omega)).toNat (by omega) (by omega) _ (h2 i (by omega) hi) _ hxl
        omega
      · simp only [List.mem_singleton] at hl'
        subst hl'
        have := (hf c hc).2 _ hxl
        omega
    · cases h
/-- In a list without a number twice, a sublist's numbers stand one behind the other. -/
theorem idxF_append_right (x : Int) : ∀ (p q : List Int), x ∉ p → x ∈ q → idxF x (p ++ q) = p.length + idxF x q
  | [], q, _, _ => by simp
  | y :: p, q, hp, hq => by
    have h0 : ¬ x = y := fun e => hp (by simp [e])
    have ih := idxF_append_right x p q (fun h => hp (List.mem_cons_of_mem _ h)) hq
    have hpos : 0 ≤ idxF x q := by
      have := (idxF_neg x q).1
      rcases Int.lt_or_le (idxF x q) 0 with h | h
      · exact absurd hq (this.1 h)
      · exact h
    simp only [List.cons_append, idxF, if_neg h0, ih]
    rw [if_neg (by omega)]; simp; omega
theorem keepsF_sub : ∀ (p q o : List Int), (p ++ q).Nodup → o.Sublist q → ∀ t : Int, t < p.length → keepsF (p ++ q) t o = true
  | p, q, [], _, _, t, _ => rfl
  | p, [], x :: o, _, hs, t, _ => by cases hs
  | p, y :: q, x :: o, hn, hs, t, ht => by
    have hn' : ((p ++ [y]) ++ q).Nodup := by simpa using hn
    cases hs with
    | cons _ hs' =>
      have := keepsF_sub (p ++ [y]) q (x :: o) hn' hs' t (by simp; omega)
      simpa using this
    | cons_cons _ hs' =>
      have hyp : y ∉ p := by
        intro h
        have := (List.nodup_append.1 hn).2.2 y h y (by simp)
        exact this rfl
      have e : idxF y (p ++ y :: q) = p.length := by
        rw [idxF_append_right y p _ hyp (by simp)]; simp [idxF]
      unfold keepsF
      rw [e, if_neg (by omega)]
      have := keepsF_sub (p ++ [y]) q o hn' hs' p.length (by simp; omega)
      simpa using this
theorem keepsF_of_sub {l o : List Int} (hn : l.Nodup) (hs : o.Sublist l) : keepsF l (-1) o = true := by
  simpa using keepsF_sub [] l o (by simpa using hn) hs (-1) (by simp)
theorem len_of_subset : ∀ (a b : List Int), a.Nodup → (∀ x ∈ a, x ∈ b) → a.length ≤ b.length
  | [], b, _, _ => Nat.zero_le _
  | x :: a, b, hn, h => by
    obtain ⟨hx, hn'⟩ := List.nodup_cons.1 hn
    have hxb := h x (by simp)
    have ih := len_of_subset a (b.erase x) hn' (fun y hy => by
      have hne : y ≠ x := fun e => hx (e ▸ hy)
      exact (List.mem_erase_of_ne hne).2 (h y (List.mem_cons_of_mem _ hy)))
    rw [List.length_erase_of_mem hxb] at ih
    have : 0 < b.length := List.length_pos_of_mem hxb
    simp; omega
end Go.Proofs.Ythmhcpfplmhgnaa
