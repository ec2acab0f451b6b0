/- Mro: rows with room; MroKeeps walked. -/
import Derived.Test.YthmhcpfplmhgnaaMrQ
namespace Go.Proofs.Ythmhcpfplmhgnaa
namespace Can
open Go Go.RowKit
set_option linter.unusedSimpArgs false
set_option linter.unusedVariables false
set_option maxRecDepth 4000
theorem HExt.dead {A H : CH} (h : HExt A H) {l : Nat} (hl : A.nx ≤ l) (o : CObj) : HExt A ((H.set l .dead).new o) := (h.set hl _).new _
def inC (xs : List Int) : List Value := xs.map (.int .i64)
theorem inC_len {xs : List Int} : (inC xs).length = xs.length := by simp [inC]
theorem inC_cell {xs : List Int} : (inC xs).all isCell = true := by
  rw [List.all_eq_true]
  intro x hx
  obtain ⟨c, _, rfl⟩ := List.mem_map.1 hx
  rfl
theorem il_src {K : CH} {v : Value} {xs : List Int} (h : IL K v xs) : srcCells K 1 v = some (inC xs, xs.length) := by
  obtain ⟨q, c, rfl, h, _⟩ := h
  rw [src_ints h, flat_ints]; rfl
theorem room1 {H : CH} {v : Value} {xs : List Int} (h : IL H v xs) (hm : xs.length ≤ 1048576) :
    ∃ l1 c1 cs kd K2, appS (srcCells (H.new (.cells (zeros [.int .i64 0] (xs.length + 2)) 3 .ex)) 1 v) 3 1 8 (.slice (some ⟨H.nx, 0, none⟩) 0 (xs.length + 2)) (H.new (.cells (zeros [.int .i64 0] (xs.length + 2)) 3 .ex)) = some (.slice (some ⟨l1, 0, none⟩) xs.length c1, K2) ∧ K2.ob l1 = .cells cs 3 kd ∧ kd.isRo = false ∧ cs.take xs.length = inC xs ∧ xs.length ≤ cs.length ∧ H.nx ≤ l1 ∧ l1 < K2.nx ∧ HExt H K2 := by
  obtain ⟨n3, hn3⟩ : ∃ n3, (xs.length + 2) = n3 := ⟨_, rfl⟩
  have hn3' : n3 = xs.length + 2 := by omega
  rw [hn3]
  obtain ⟨K1, hK1⟩ : ∃ K1, H.new (.cells (zeros [.int .i64 0] n3) 3 .ex) = K1 := ⟨_, rfl⟩
  have hx : HExt H K1 := by rw [← hK1]; exact (HExt.refl H).new _
  have hob : K1.ob H.nx = .cells (zeros [.int .i64 0] n3) 3 .ex := by rw [← hK1]; exact new_get.trans (if_pos rfl)
  have hnx : K1.nx = H.nx + 1 := by rw [← hK1]; rfl
  rw [hK1, il_src (h.ext hx), appS_some, appV_r, hob, appR_c]
  by_cases h0 : xs.length = 0
  · have : xs = [] := List.length_eq_zero_iff.1 h0
    subst this
    rw [if_pos (show ([] : List Int).length = 0 from rfl)]
    exact ⟨H.nx, n3, _, .ex, K1, rfl, hob, rfl, rfl, by simp, Nat.le_refl _, by omega, hx⟩
  · rw [if_neg h0, if_pos ⟨rfl, rfl, rfl, by simp, inC_cell, by omega, by rw [maxLen_eq]; omega⟩]
    have : (Kd.ex.isEx && decide (n3 < 0 + xs.length)) = false := by rw [decide_eq_false (by omega)]; rfl
    rw [this, appH_f, Nat.zero_add]
    refine ⟨K1.nx, _, _, .gr, _, rfl, new_get.trans (if_pos rfl), rfl, ?_, ?_, by omega, by simp only [new_nx, set_nx]; omega, hx.dead (Nat.le_refl _) _⟩
    · simp only [Nat.zero_mul, List.take_zero, List.nil_append]
      exact List.take_of_length_le (by rw [inC_len]; exact Nat.le_refl _)
    · simp only [Nat.zero_mul, List.take_zero, List.nil_append, inC_len, Nat.le_refl]
theorem room2 {H K3 : CH} {xs : List Int} (hm : xs.length ≤ 1048576) {l1 c1 : Nat} {cs : List Value} {kd : Kd} (hob : K3.ob l1 = .cells cs 3 kd) (hro : kd.isRo = false) (ht : cs.take xs.length = inC xs) (hl : xs.length ≤ cs.length) (h1 : H.nx ≤ l1) (hx : HExt H K3) :
    ∃ R K4, appV 3 1 8 (.slice (some ⟨l1, 0, none⟩) xs.length c1) [.int .i64 (-7), .int .i64 (-7)] 2 K3 = some (.slice (some ⟨R, 0, none⟩) (xs.length + 2) (xs.length + 2), K4) ∧ K4.ob R = .cells (inC xs ++ [.int .i64 (-7), .int .i64 (-7)]) 3 .gr ∧ H.nx ≤ R ∧ R < K4.nx ∧ HExt H K4 := by
  rw [appV_r, hob, appR_c, if_neg (by decide), if_pos ⟨rfl, rfl, hro, by omega, by decide, by omega, by rw [maxLen_eq]; omega⟩]
  rw [Nat.mul_one, ht]
  have h3 := hx.nx
  cases (kd.isEx && decide (c1 < xs.length + 2)) with
  | true => exact ⟨K3.nx, _, rfl, by rw [appH_t]; exact new_get.trans (if_pos rfl), h3, by rw [appH_t]; simp only [new_nx]; omega, by rw [appH_t]; exact hx.new _⟩
  | false => exact ⟨K3.nx, _, rfl, by rw [appH_f]; exact new_get.trans (if_pos rfl), h3, by rw [appH_f]; simp only [new_nx, set_nx]; omega, by rw [appH_f]; exact hx.dead h1 _⟩
theorem room_slc {R n m n' : Nat} (hm : m ≤ n + 2) : sliceV 1 (.slice (some ⟨R, 0, none⟩) n' (n + 2)) ((0 : Nat) : Int) (m : Int) ((n + 2 : Nat) : Int) false = some (.slice (some ⟨R, 0, none⟩) m (n + 2)) := by
  simp only [sliceV]
  rw [if_pos (by omega), if_neg (by omega)]
  congr 2
theorem okSl_of {K : CH} {b o n c e : Nat} {os : List Value} {kd : Kd} (h : K.ob b = .cells os e kd) : okSl K e (.slice (some ⟨b, o, none⟩) n c) = true := by
  simp only [okSl, h]
  cases kd <;> simp
/-- A row with room behind it. -/
def InR (A K : CH) (u : Option Addr × Nat × Nat) (row : List Int) : Prop := ∃ b kd, u = (some ⟨b, 0, none⟩, row.length, row.length + 2) ∧ A.nx ≤ b ∧ b < K.nx ∧ K.ob b = .cells (inC row ++ [.int .i64 (-7), .int .i64 (-7)]) 3 kd ∧ kd.isRo = false
theorem InR.il {A K : CH} {u : Option Addr × Nat × Nat} {row : List Int} (h : InR A K u row) (hm : row.length ≤ 1048576) (hw : ∀ x ∈ row, -9223372036854775808 ≤ x ∧ x ≤ 9223372036854775807) : IL K (.slice u.1 u.2.1 u.2.2) row := by
  obtain ⟨b, kd, rfl, h1, h2, h3, h4⟩ := h
  refine ⟨_, _, rfl, .inr ⟨b, 0, _, _, _, rfl, h2, Nat.le_add_right _ _, by rw [maxLen_eq]; show row.length + 2 ≤ _; omega, h3, by simp [inC], fun i hi => ⟨?_, ?_⟩⟩, ?_⟩
  · simp only [Nat.zero_add, Nat.mul_one]
    rw [List.drop_eq_getElem_cons (by simp [inC]; omega)]
    simp only [List.take_succ_cons, List.take_zero]
    rw [List.getElem_append_left (by simp [inC]; omega)]
    simp [inC]
  · have := hw _ (List.getElem_mem hi)
    simp [Lit.wf, IntKind.min, IntKind.max, IntKind.signed, IntKind.bits]; omega
  · simp only [okSl, h3]
    cases kd <;> simp
theorem InR.mv {A K K' : CH} {u : Option Addr × Nat × Nat} {row : List Int} (h : InR A K u row) (hn : K.nx ≤ K'.nx) (hk : ∀ l os k, l < K.nx → K.ob l = .cells os 3 k → K'.ob l = K.ob l) : InR A K' u row := by
  obtain ⟨b, kd, e, h1, h2, h3, h4⟩ := h
  exact ⟨b, kd, e, h1, Nat.lt_of_lt_of_le h2 hn, (hk b _ _ h2 h3).trans h3, h4⟩
/-- Rows that are gathered. -/
def RwL (P : CH → Option Addr × Nat × Nat → List Int → Prop) (A K : CH) (v : Value) (ls : List (List Int)) : Prop := ∃ us : List (Option Addr × Nat × Nat), Grw A 24 1 rowC K v us ∧ us.length = ls.length ∧ ∀ (i : Nat) (u : Option Addr × Nat × Nat) (l : List Int), us[i]? = some u → ls[i]? = some l → P K u l
theorem RwL.mv {P : CH → Option Addr × Nat × Nat → List Int → Prop} {A K K' : CH} {v : Value} {ls : List (List Int)} (h : RwL P A K v ls) (hn : K.nx ≤ K'.nx) (hP : ∀ u l, P K u l → P K' u l) (hk : ∀ b n c, v = .slice (some ⟨b, 0, none⟩) n c → b < K.nx → K'.ob b = K.ob b) : RwL P A K' v ls := by
  obtain ⟨us, h1, h2, h3⟩ := h
  refine ⟨us, ?_, h2, fun i u l hu hl => hP u l (h3 i u l hu hl)⟩
  rcases h1 with g | ⟨b, kd, e, a1, a2, a3, a4⟩
  · exact .inl g
  · exact .inr ⟨b, kd, e, a1, Nat.lt_of_lt_of_le a2 hn, (hk b _ _ e a2).trans a3, a4⟩
/-- An append of something: the row is new. -/
theorem optW_fresh {α : Type} {A K : CH} {e sz bytes : Nat} {f : α → List Value} (hf : ∀ x, (f x).length = sz ∧ (f x).all isCell = true) {v : Value} {xs ys : List α} (hg : Grw A e sz f K v xs) (hA : HExt A K) (hb : (xs.length + ys.length) * bytes ≤ 140737488355328) (hm : xs.length + ys.length ≤ 9223372036854775807) (h0 : ys.length ≠ 0) {us : List Value} {m : Nat} (hu : us = ys.flatMap f) (hl : m = ys.length)
    {Q : Value → CH → Prop} (k : ∀ n K', Grw A e sz f K' (.slice (some ⟨K.nx, 0, none⟩) n n) (xs ++ ys) → HExt A K' → K.nx < K'.nx → (∀ l, l < K.nx → (∀ o n c, v ≠ .slice (some ⟨l, o, none⟩) n c) → K'.ob l = K.ob l) → Q (.slice (some ⟨K.nx, 0, none⟩) n n) K') : optW (appV e sz bytes v us m K) Q := by
  subst hu hl
  have hall : (ys.flatMap f).all isCell = true := by
    rw [List.all_eq_true]; intro x hx
    obtain ⟨y, _, hy⟩ := List.mem_flatMap.1 hx
    exact List.all_eq_true.1 (hf y).2 x hy
  rcases hg with ⟨rfl, rfl⟩ | ⟨b, kd, rfl, h1, h2, h3, hkd⟩
  · rw [appV_n, if_neg h0, if_pos ⟨hall, by simpa using hb, by rw [maxLen_eq]; simpa using hm⟩, optW_some]
    exact k _ _ (.inr ⟨K.nx, .gr, by simp, hA.nx, Nat.lt_succ_self _, by simp [new_get], rfl⟩) (hA.new _) (Nat.lt_succ_self _) fun l hl _ => by rw [new_get, if_neg (by omega)]
  · have hlen : (xs.flatMap f).length = xs.length * sz := flat_len (fun x => (hf x).1) xs
    have hnx : ∀ o, (appH (kd.isEx && decide (xs.length < xs.length + ys.length)) K b o).nx = K.nx + 1 := fun o => by unfold appH; split <;> rfl
    have hat : ∀ o, (appH (kd.isEx && decide (xs.length < xs.length + ys.length)) K b o).ob K.nx = o := fun o => by
      unfold appH; split <;> (simp only [CH.new, CH.set]; simp)
    have hot : ∀ o l, l < K.nx → l ≠ b → (appH (kd.isEx && decide (xs.length < xs.length + ys.length)) K b o).ob l = K.ob l := fun o l hl hb => by
      unfold appH
      split
      · rw [new_get, if_neg (by omega)]
      · rw [new_get, if_neg (by show l ≠ K.nx; omega), set_get, if_neg hb]
    rw [appV_r, h3, appR_c, if_neg h0, if_pos ⟨rfl, rfl, hkd, by rw [hlen]; exact Nat.le_refl _, hall, hb, by rw [maxLen_eq]; exact hm⟩, optW_some]
    refine k _ _ (.inr ⟨K.nx, .gr, by simp, hA.nx, ?_, ?_, rfl⟩) ?_ ?_ fun l hl hne => ?_
    · rw [hnx]; exact Nat.lt_succ_self _
    · rw [hat, ← hlen, List.take_length, List.flatMap_append]
    · refine ⟨by rw [hnx]; exact Nat.le_succ_of_le hA.nx, fun l hl => ?_⟩
      rw [hot _ l (Nat.lt_of_lt_of_le hl hA.nx) (by omega)]
      exact hA.ob l hl
    · rw [hnx]; exact Nat.lt_succ_self _
    · refine hot _ l hl ?_
      rintro rfl
      exact hne _ _ _ rfl
/-- One row more. -/
theorem RwL.push {P : CH → Option Addr × Nat × Nat → List Int → Prop} {A K : CH} {v : Value} {ls : List (List Int)} (h : RwL P A K v ls) (hA : HExt A K) (hb : ls.length ≤ 1048576) {a : Option Addr} {n c : Nat} {l : List Int}
    (hP : ∀ K' : CH, K.nx ≤ K'.nx → (∀ l os k, l < K.nx → K.ob l = .cells os 3 k → K'.ob l = K.ob l) → (∀ u l, P K u l → P K' u l)) (hu : P K (a, n, c) l) {Q : Value → CH → Prop}
    (k : ∀ m K', RwL P A K' (.slice (some ⟨K.nx, 0, none⟩) m m) (ls ++ [l]) → HExt A K' → K.nx < K'.nx → (∀ l os k, l < K.nx → K.ob l = .cells os 3 k → K'.ob l = K.ob l) → (∀ l, l < K.nx → (∀ o n c, v ≠ .slice (some ⟨l, o, none⟩) n c) → K'.ob l = K.ob l) → Q (.slice (some ⟨K.nx, 0, none⟩) m m) K') : optW (appV 24 1 24 v [.slice a n c] 1 K) Q := by
  obtain ⟨us, h1, h2, h3⟩ := h
  refine optW_fresh rowC_ok (ys := [(a, n, c)]) h1 hA (by simp only [List.length_singleton]; omega) (by simp only [List.length_singleton]; omega) (by simp) rfl rfl fun m K' j1 j2 j3 j4 => ?_
  have hcell : ∀ l os k, l < K.nx → K.ob l = .cells os 3 k → K'.ob l = K.ob l := fun l os k hl ho => j4 l hl fun o n c e => by
    rcases h1 with ⟨_, g⟩ | ⟨b, kd, g, a1, a2, a3, a4⟩
    · rw [g] at e; cases e
    · rw [g] at e; cases e
      rw [ho] at a3
      have := (CObj.cells.inj a3).2.1
      revert this; decide
  refine k m K' ⟨us ++ [(a, n, c)], j1, by simp [h2], fun i u m hu' hm => ?_⟩ j2 j3 hcell j4
  have hPP := hP K' (Nat.le_of_lt j3) hcell
  by_cases hi : i < us.length
  · rw [List.getElem?_append_left hi] at hu'
    rw [List.getElem?_append_left (by omega)] at hm
    exact hPP _ _ (h3 i u m hu' hm)
  · rw [List.getElem?_append_right (by omega)] at hu' hm
    rw [h2] at hu'
    obtain ⟨e, _⟩ := List.getElem?_eq_some_iff.1 hu'
    simp only [List.length_singleton] at e
    rw [show i - ls.length = 0 by omega] at hu' hm
    cases hu'; cases hm
    exact hPP _ _ hu
end Can
end Go.Proofs.Ythmhcpfplmhgnaa
