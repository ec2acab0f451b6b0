/- Mro: what is known; order. -/
import Derived.Test.YthmhcpfplmhgnaaMrB
namespace Go.Proofs.Ythmhcpfplmhgnaa
namespace Can
open Go Go.RowKit
set_option linter.unusedSimpArgs false
set_option linter.unusedVariables false
set_option maxRecDepth 4000
theorem IL.blk {K : CH} {v : Value} {xs : List Int} (h : IL K v xs) {x o n c : Nat} (e : v = .slice (some ⟨x, o, none⟩) n c) : ∃ os t kd, x < K.nx ∧ K.ob x = .cells os t kd ∧ (kd = .ro ∨ t = 3) := by
  obtain ⟨q, c', rfl, h, hk⟩ := h
  cases e
  rcases h with ⟨_, _, h | h | h⟩ | ⟨l, o', os, t, kd, h0, h1, h2, h3, h4, _⟩
  · cases h
  · cases h
  · cases h
  · cases h0
    refine ⟨os, t, kd, h1, h4, ?_⟩
    simp only [okSl, h4] at hk
    cases kd <;> first | exact .inl rfl | exact .inr (by simpa using hk)
theorem IL.ne {K : CH} {v : Value} {xs : List Int} (h : IL K v xs) {b : Nat} {us : List Value} {kd : Kd} (hb : K.ob b = .cells us 24 kd) (hr : kd.isRo = false) {x o n c : Nat} (e : v = .slice (some ⟨x, o, none⟩) n c) : x ≠ b := by
  obtain ⟨os, t, kd', _, g1, g2⟩ := h.blk e
  rintro rfl
  rw [hb] at g1
  obtain ⟨_, h2, h3⟩ := CObj.cells.inj g1
  rcases g2 with g | g
  · rw [h3, g] at hr; cases hr
  · rw [g] at h2; revert h2; decide
/-- What reads stays where cells stay. -/
theorem IL.mvc {K K' : CH} {v : Value} {xs : List Int} (h : IL K v xs) (hn : K.nx ≤ K'.nx) {b : Nat} {us : List Value} {kd : Kd} (hb : K.ob b = .cells us 24 kd) (hr : kd.isRo = false) (hk : ∀ l os t k, l < K.nx → l ≠ b → K.ob l = .cells os t k → K'.ob l = K.ob l) : IL K' v xs :=
  h.mv hn fun x o n c e => by
    obtain ⟨os, t, kd', g0, g1, _⟩ := h.blk e
    exact hk x os t kd' g0 (h.ne hb hr e) g1
theorem IL.mvd {K K' : CH} {v : Value} {xs : List Int} (h : IL K v xs) (hn : K.nx ≤ K'.nx) (hk : ∀ l os t k, l < K.nx → K.ob l = .cells os t k → K'.ob l = K.ob l) : IL K' v xs :=
  h.mv hn fun x o n c e => by
    obtain ⟨os, t, kd', g0, g1, _⟩ := h.blk e
    exact hk x os t kd' g0 g1
theorem ints_src {A K : CH} {v : Value} {xs : List Int} (h : Grw A 3 1 (ints .i64) K v xs) : srcCells K 1 v = some (xs.flatMap (ints .i64), xs.length) := by
  rcases h with ⟨rfl, rfl⟩ | ⟨b, kd, rfl, h1, h2, h3, h4⟩
  · rfl
  · rw [src_r]
    by_cases h0 : xs.length = 0
    · rw [if_pos h0]
      have : xs = [] := List.length_eq_zero_iff.1 h0
      subst this; rfl
    · rw [if_neg h0, h3, srcR_c, if_pos (by rw [flat_ints]; simp)]
      simp only [flat_ints, List.drop_zero, Nat.mul_one]
      rw [List.take_of_length_le (by simp)]
theorem grw_il {A K : CH} {v : Value} {xs : List Int} (hm : xs.length ≤ 2000000) (hw : ∀ x ∈ xs, -9223372036854775808 ≤ x ∧ x ≤ 9223372036854775807) (h : Grw A 3 1 (ints .i64) K v xs) : IL K v xs := by
  rcases h with ⟨rfl, rfl⟩ | ⟨b, kd, rfl, h1, h2, h3, h4⟩
  · exact ⟨_, 0, rfl, .inl ⟨rfl, rfl, .inl rfl⟩, rfl⟩
  · refine ⟨_, _, rfl, .inr ⟨b, 0, _, _, _, rfl, h2, Nat.le_refl _, by rw [maxLen_eq]; omega, h3, by rw [flat_ints]; simp, fun i hi => ?_⟩, ?_⟩
    · rw [flat_ints]
      refine ⟨?_, ?_⟩
      · simp only [Nat.zero_add, Nat.mul_one]
        rw [List.drop_eq_getElem_cons (by simpa using hi)]
        simp only [List.take_succ_cons, List.take_zero]
        simp
      · have := hw _ (List.getElem_mem hi)
        simp [Lit.wf, IntKind.min, IntKind.max, IntKind.signed, IntKind.bits]; omega
    · simp only [okSl, h3]
      cases kd <;> simp
def KeysI (es : List MapEntry) : Prop := ∀ e ∈ es, ∃ z, e.key = .int .i64 z
theorem find_push {c : Int} {e : MapEntry} {z : Int} (he : e.key = .int .i64 z) : ∀ {es : List MapEntry} {i : Nat}, KeysI es → findK 0 (.int .i64 c) (es ++ [e]) i = match findK 0 (.int .i64 c) es i with
    | some none => if c = z then some (some (i + es.length, e.val)) else some none
    | r => r
  | [], i, _ => by
    simp only [List.nil_append, findK, he, sameK, if_true]
    by_cases g : c = z
    · subst g; simp
    · have : (c == z) = false := by simpa using g
      simp [this, g]
  | a :: es, i, h => by
    obtain ⟨y, hy⟩ := h a (by simp)
    simp only [List.cons_append, findK, hy, sameK, if_true]
    by_cases g : c = y
    · subst g; simp
    · have : (c == y) = false := by simpa using g
      rw [this]
      simp only
      rw [find_push he fun x hx => h x (by simp [hx])]
      simp only [List.length_cons]
      rw [show i + 1 + es.length = i + (es.length + 1) by omega]
/-- What is known of the orders. -/
def KnAt (A K : CH) (r : Nat) (bs : List (List Int)) (es : Array MapEntry) : Prop := A.nx ≤ r ∧ r < K.nx ∧ (∃ ck, K.ob r = .map es ck) ∧ KeysI es.toList ∧
  ∀ c : Nat, findK 0 (.int .i64 c) es.toList 0 = some none ∨ ∃ j u l, findK 0 (.int .i64 c) es.toList 0 = some (some (j, u)) ∧ ordF bs c = some l ∧ l ≠ [] ∧ Grw A 3 1 (ints .i64) K u l
theorem KnAt.mv {A K K' : CH} {r : Nat} {bs : List (List Int)} {es : Array MapEntry} (h : KnAt A K r bs es) (hn : K.nx ≤ K'.nx) (hr : K'.ob r = K.ob r) (hk : ∀ l os k, l < K.nx → K.ob l = .cells os 3 k → K'.ob l = K.ob l) : KnAt A K' r bs es := by
  obtain ⟨h1, h2, ⟨ck, h3⟩, h4, h5⟩ := h
  refine ⟨h1, Nat.lt_of_lt_of_le h2 hn, ⟨ck, hr.trans h3⟩, h4, fun c => ?_⟩
  rcases h5 c with g | ⟨j, u, l, g1, g2, g3, g4⟩
  · exact .inl g
  · refine .inr ⟨j, u, l, g1, g2, g3, ?_⟩
    rcases g4 with g | ⟨b, kd, e, a1, a2, a3, a4⟩
    · exact .inl g
    · exact .inr ⟨b, kd, e, a1, Nat.lt_of_lt_of_le a2 hn, (hk b _ _ a2 a3).trans a3, a4⟩
def rowC (x : Option Addr × Nat × Nat) : List Value := [.slice x.1 x.2.1 x.2.2]
theorem rowC_ok : ∀ x, (rowC x).length = 1 ∧ (rowC x).all isCell = true := fun _ => ⟨rfl, rfl⟩
theorem flat_row {us : List (Option Addr × Nat × Nat)} : us.flatMap rowC = us.map fun x => .slice x.1 x.2.1 x.2.2 := by
  induction us with
  | nil => rfl
  | cons a l ih => rw [List.flatMap_cons, ih]; rfl
/-- Lists, as they are gathered. -/
def OrL (A K : CH) (v : Value) (ls : List (List Int)) : Prop := ∃ us : List (Option Addr × Nat × Nat), Grw A 24 1 rowC K v us ∧ us.length = ls.length ∧ ∀ (i : Nat) (u : Option Addr × Nat × Nat) (l : List Int), us[i]? = some u → ls[i]? = some l → IL K (.slice u.1 u.2.1 u.2.2) l
theorem OrL.mv {A K K' : CH} {v : Value} {ls : List (List Int)} (h : OrL A K v ls) (hn : K.nx ≤ K'.nx) (hk : ∀ l os t k, l < K.nx → K.ob l = .cells os t k → K'.ob l = K.ob l) : OrL A K' v ls := by
  obtain ⟨us, h1, h2, h3⟩ := h
  refine ⟨us, ?_, h2, fun i u l hu hl => (h3 i u l hu hl).mvd hn hk⟩
  rcases h1 with g | ⟨b, kd, e, a1, a2, a3, a4⟩
  · exact .inl g
  · exact .inr ⟨b, kd, e, a1, Nat.lt_of_lt_of_le a2 hn, (hk b _ _ _ a2 a3).trans a3, a4⟩
/-- One list more. -/
theorem OrL.push {A K : CH} {v : Value} {ls : List (List Int)} (h : OrL A K v ls) (hA : HExt A K) (hb : ls.length ≤ 1000000) {a : Option Addr} {n c : Nat} {l : List Int} (hu : IL K (.slice a n c) l) {Q : Value → CH → Prop}
    (k : ∀ v' K', OrL A K' v' (ls ++ [l]) → HExt A K' → K.nx ≤ K'.nx → (∀ l os t k, l < K.nx → (t ≠ 24 ∨ k = .ro) → K.ob l = .cells os t k → K'.ob l = K.ob l) → (∀ l es ck, l < K.nx → K.ob l = .map es ck → K'.ob l = K.ob l) → Q v' K') : optW (appV 24 1 24 v [.slice a n c] 1 K) Q := by
  obtain ⟨us, h1, h2, h3⟩ := h
  have hne : ∀ l, (∀ os k, K.ob l = .cells os 24 k → k = .ro) → ∀ o n c, v ≠ .slice (some ⟨l, o, none⟩) n c := fun l hl o n c e => by
    rcases h1 with ⟨_, g⟩ | ⟨b, kd, g, a1, a2, a3, a4⟩
    · rw [g] at e; cases e
    · rw [g] at e; cases e
      have := hl _ _ a3
      rw [this] at a4; cases a4
  refine optW_app rowC_ok (ys := [(a, n, c)]) h1 hA (by simp only [List.length_singleton]; omega) (by simp only [List.length_singleton]; omega) rfl rfl fun v' K' j1 j2 j3 j4 => ?_
  have hcell : ∀ l os t k, l < K.nx → (t ≠ 24 ∨ k = .ro) → K.ob l = .cells os t k → K'.ob l = K.ob l := fun l os t k hl ht ho => j4 l hl (hne l fun os' k' ho' => by
    rw [ho] at ho'
    obtain ⟨_, e2, e3⟩ := CObj.cells.inj ho'
    rcases ht with ht | ht
    · exact absurd e2 ht
    · rw [← e3]; exact ht)
  have hIL : ∀ {w : Value} {xs : List Int}, IL K w xs → IL K' w xs := fun g => g.mv j3 fun x o n c e => by
    obtain ⟨os, t, kd, g0, g1, g2⟩ := g.blk e
    exact hcell x os t kd g0 (by
      rcases g2 with g2 | g2
      · exact .inr g2
      · left; rw [g2]; decide) g1
  refine k v' K' ⟨us ++ [(a, n, c)], j1, by simp [h2], fun i u m hu hm => ?_⟩ j2 j3 hcell fun l es ck hl ho => j4 l hl (hne l fun os k' ho' => by rw [ho] at ho'; cases ho')
  by_cases hi : i < us.length
  · rw [List.getElem?_append_left hi] at hu
    rw [List.getElem?_append_left (by omega)] at hm
    exact hIL (h3 i u m hu hm)
  · rw [List.getElem?_append_right (by omega)] at hu hm
    rw [h2] at hu
    obtain ⟨e, _⟩ := List.getElem?_eq_some_iff.1 hu
    simp only [List.length_singleton] at e
    rw [show i - ls.length = 0 by omega] at hu hm
    cases hu; cases hm
    exact hIL (by assumption)
end Can
end Go.Proofs.Ythmhcpfplmhgnaa
