/- Flow: Live's memory: the rows of words. -/
import Derived.Test.YtapcoeecjlkdgaaFlLvF
namespace Go.Proofs.Ytapcoeecjlkdgaa
namespace Can
open Go Go.RowKit
set_option linter.unusedSimpArgs false
set_option linter.unusedVariables false
theorem ways_ws {F : Fn'} (hs : soundF F = true) {x : Int} {p : Int × List Int} (hp : p ∈ waysF F x) {r : Int} (hr : r ∈ p.2) : 0 ≤ r ∧ r < F.regs := by
  unfold waysF at hp
  split at hp
  case isFalse => cases hp
  rename_i hin
  simp only [soundF, Bool.and_eq_true] at hs
  rcases List.mem_append.1 hp with hp | hp
  · rw [List.mem_map] at hp
    obtain ⟨q, hq, rfl⟩ := hp
    have h1 := range_all.1 hs.2.1 x.toNat (by omega)
    simp only [okAt, Bool.and_eq_true] at h1
    have h2 := h1.1
    simp only at hr
    split at hr
    · have h3 := List.all_eq_true.1 h2 r (List.mem_append_right _ (by unfold insAt at hr; exact hr))
      simpa using h3
    · cases hr
  · split at hp
    · rename_i hh
      simp at hp
      subst hp
      simp at hr
      subst hr
      have hhl := hdl_lt (F := F) (a := x)
      have h1 := range_all.1 hs.2.2 (hdlF F x).toNat (by omega)
      have h2 := of_decide_eq_true h1
      exact ⟨h2.2.2.2.2.2.1, h2.2.2.2.2.2.2⟩
    · cases hp
theorem reads_in {F : Fn'} (hs : soundF F = true) {j : Nat} (hj : j < F.ins.length) {r : Int} (hr : r ∈ readsF (F.ins.getD j default)) : 0 ≤ r ∧ r < F.regs := by
  simp only [soundF, Bool.and_eq_true] at hs
  have h1 := range_all.1 hs.2.1 j hj
  simp only [okAt, Bool.and_eq_true] at h1
  have h3 := List.all_eq_true.1 h1.1 r (List.mem_append_left _ hr)
  simpa using h3
def outC (W n : Nat) (rows : List Nat) : List Value := rows.map (fun b => Value.slice (some ⟨b, 0, none⟩) W W) ++ List.replicate (n - rows.length) (.slice none 0 0)
theorem outC_len {W n : Nat} {rows : List Nat} (h : rows.length ≤ n) : (outC W n rows).length = n := by simp [outC]; omega
theorem outC_get {W n i : Nat} {rows : List Nat} (h : i < rows.length) : (outC W n rows)[i]? = some (.slice (some ⟨rows.getD i 0, 0, none⟩) W W) := by
  unfold outC
  rw [List.getElem?_append_left (by simpa using h)]
  simp [List.getD, List.getElem?_eq_getElem h]
theorem outC_push {W n j b : Nat} {rows : List Nat} (h : rows.length = j) (hj : j < n) : setCells (outC W n rows) j [.slice (some ⟨b, 0, none⟩) W W] = outC W n (rows ++ [b]) := by
  subst h
  unfold outC setCells
  simp only [List.length_cons, List.length_nil, List.map_append, List.map_cons, List.map_nil, List.length_append]
  rw [List.take_append_of_le_length (by simp), List.take_of_length_le (by simp), List.drop_append, List.drop_of_length_le (by simp)]
  simp
  omega
theorem outC_nil (W n : Nat) : zeros [.slice none 0 0] n = outC W n [] := by
  unfold zeros outC
  apply List.ext_getElem
  · simp
  · intro i h1 h2; simp [Nat.mod_one]
structure LS (K1 : CH) (n W : Nat) (rows : List Nat) (mm : List (List Nat)) (K : CH) : Prop where
  ext : HExt K1 K
  nx : K1.nx + 2 ≤ K.nx
  out : K.ob K1.nx = .cells (outC W n rows) 36 .ex
  c5 : K.ob (K1.nx + 1) = .cells [.slice (some ⟨K1.nx, 0, none⟩) n n] 29 .ex
  le : rows.length ≤ n
  len : rows.length = mm.length
  nd : rows.Nodup
  lo : ∀ x ∈ rows, K1.nx + 2 ≤ x ∧ x < K.nx
  row : ∀ i, i < rows.length → K.ob (rows.getD i 0) = .cells (wordC (mm.getD i [])) 40 .ex
  wl : ∀ i, i < rows.length → (mm.getD i []).length = W
  w64 : ∀ i, i < rows.length → W64 (mm.getD i [])
theorem getD_mem {rows : List Nat} {i : Nat} (h : i < rows.length) : rows.getD i 0 ∈ rows := by
  simp [List.getD, List.getElem?_eq_getElem h]
theorem nd_inj {rows : List Nat} (h : rows.Nodup) {i j : Nat} (hi : i < rows.length) (hj : j < rows.length) (e : rows.getD i 0 = rows.getD j 0) : i = j := by
  simp only [List.getD, List.getElem?_eq_getElem hi, List.getElem?_eq_getElem hj, Option.getD_some] at e
  have hp := List.pairwise_iff_getElem.1 h
  rcases Nat.lt_trichotomy i j with h1 | h1 | h1
  · exact absurd e (hp i j hi hj h1)
  · exact h1
  · exact absurd e.symm (hp j i hj hi h1)
theorem LS.at {K1 K : CH} {n W : Nat} {rows : List Nat} {mm : List (List Nat)} (h : LS K1 n W rows mm K) {i : Nat} (hi : i < rows.length) : K1.nx + 2 ≤ rows.getD i 0 ∧ rows.getD i 0 < K.nx := h.lo _ (getD_mem hi)
/-- The same, where only other names have turned. -/
theorem LS.mv {K1 K K' : CH} {n W : Nat} {rows : List Nat} {mm : List (List Nat)} (h : LS K1 n W rows mm K) (hn : K.nx ≤ K'.nx) (hk : ∀ x, x < K.nx → (x < K1.nx + 2 ∨ x ∈ rows) → K'.ob x = K.ob x) : LS K1 n W rows mm K' := by
  have hnx := h.nx
  refine ⟨⟨Nat.le_trans h.ext.nx hn, fun x hx => (hk x (by omega) (.inl (by omega))).trans (h.ext.ob x hx)⟩, by omega, (hk _ (by omega) (.inl (by omega))).trans h.out, (hk _ (by omega) (.inl (by omega))).trans h.c5, h.le, h.len, h.nd, fun x hx => ?_, fun i hi => (hk _ (h.at hi).2 (.inr (getD_mem hi))).trans (h.row i hi), h.wl, h.w64⟩
  have := h.lo x hx
  omega
theorem getD_setM {mm : List (List Nat)} {j i : Nat} {ws : List Nat} (h : j < mm.length) : (mm.set j ws).getD i [] = if i = j then ws else mm.getD i [] := by
  simp only [List.getD_eq_getElem?_getD, List.getElem?_set]
  by_cases e : j = i
  · subst e; simp [h]
  · rw [if_neg e, if_neg (by omega)]
/-- One row written. -/
theorem LS.put {K1 K : CH} {n W : Nat} {rows : List Nat} {mm : List (List Nat)} (h : LS K1 n W rows mm K) {i b : Nat} (hb : rows.getD i 0 = b) (hi : i < rows.length) {ws : List Nat} (hl : ws.length = W) (hw : W64 ws) : LS K1 n W rows (mm.set i ws) (K.set b (.cells (wordC ws) 40 .ex)) := by
  subst hb
  have hnx := h.nx
  have hlo := h.at hi
  have hlen := h.len
  refine ⟨⟨h.ext.nx, fun x hx => ?_⟩, h.nx, ?_, ?_, h.le, by simp [h.len], h.nd, h.lo, fun j hj => ?_, fun j hj => ?_, fun j hj => ?_⟩
  · rw [set_get, if_neg (by omega)]; exact h.ext.ob x hx
  · rw [set_get, if_neg (by omega)]; exact h.out
  · rw [set_get, if_neg (by omega)]; exact h.c5
  · rw [getD_setM (by omega), set_get]
    by_cases e : j = i
    · subst e; rw [if_pos rfl, if_pos rfl]
    · rw [if_neg (fun e' => e (nd_inj h.nd hj hi e')), if_neg e]; exact h.row j hj
  · rw [getD_setM (by omega)]; split
    · exact hl
    · exact h.wl j hj
  · rw [getD_setM (by omega)]; split
    · exact hw
    · exact h.w64 j hj
/-- One row more. -/
theorem LS.push {K1 K : CH} {n W : Nat} {rows : List Nat} {mm : List (List Nat)} (h : LS K1 n W rows mm K) (hlt : rows.length < n) {b : Nat} (hb : K.nx ≤ b) {K' : CH} (hn : b < K'.nx) {ws : List Nat} (hl : ws.length = W) (hw : W64 ws) (ho : K'.ob K1.nx = .cells (outC W n (rows ++ [b])) 36 .ex) (hr : K'.ob b = .cells (wordC ws) 40 .ex) (hk : ∀ x, x < K.nx → x ≠ K1.nx → K'.ob x = K.ob x) : LS K1 n W (rows ++ [b]) (mm ++ [ws]) K' := by
  have hnx := h.nx
  have hlen := h.len
  have g1 : ∀ i, i < rows.length → (rows ++ [b]).getD i 0 = rows.getD i 0 := fun i hi => by
    simp only [List.getD_eq_getElem?_getD]; rw [List.getElem?_append_left hi]
  have g2 : ∀ i, i < rows.length → (mm ++ [ws]).getD i [] = mm.getD i [] := fun i hi => by
    simp only [List.getD_eq_getElem?_getD]; rw [List.getElem?_append_left (by omega)]
  have g3 : (rows ++ [b]).getD rows.length 0 = b := by simp
  have g4 : (mm ++ [ws]).getD rows.length [] = ws := by rw [hlen]; simp
  refine ⟨⟨by have := h.ext.nx; omega, fun x hx => (hk x (by omega) (by omega)).trans (h.ext.ob x hx)⟩, by omega, ho, (hk _ (by omega) (by omega)).trans h.c5, by simp; omega, by simp [hlen], ?_, fun x hx => ?_, fun i hi => ?_, fun i hi => ?_, fun i hi => ?_⟩
  · rw [List.nodup_append]
    refine ⟨h.nd, by simp, fun x hx y hy => ?_⟩
    simp at hy
    have := h.lo x hx
    omega
  · rcases List.mem_append.1 hx with hx | hx
    · have := h.lo x hx; omega
    · simp at hx; omega
  all_goals
    by_cases e : i < rows.length
    · simp only [g1 i e, g2 i e]
      first
        | exact (hk _ (h.at e).2 (by have := (h.at e).1; omega)).trans (h.row i e)
        | exact h.wl i e
        | exact h.w64 i e
    · have e' : i = rows.length := by simp at hi; omega
      subst e'
      simp only [g3, g4]
      first | exact hr | exact hl | exact hw
def tot (mm : List (List Nat)) : Nat := (mm.map List.sum).sum
theorem sum_set : ∀ {l : List Nat} {i x : Nat}, i < l.length → (l.set i x).sum + l.getD i 0 = l.sum + x
  | [], i, x, h => by simp at h
  | a :: l, 0, x, h => by simp; omega
  | a :: l, i + 1, x, h => by
    have := sum_set (l := l) (i := i) (x := x) (by simpa using h)
    simp at this ⊢
    omega
theorem tot_set : ∀ {mm : List (List Nat)} {i : Nat} {ws : List Nat}, i < mm.length → tot (mm.set i ws) + (mm.getD i []).sum = tot mm + ws.sum
  | [], i, ws, h => by simp at h
  | a :: l, 0, ws, h => by simp [tot]; omega
  | a :: l, i + 1, ws, h => by
    have := tot_set (mm := l) (i := i) (ws := ws) (by simpa using h)
    simp [tot] at this ⊢
    omega
theorem sum_leB {l : List Nat} {B : Nat} (h : ∀ x ∈ l, x ≤ B) : l.sum ≤ l.length * B := by
  induction l with
  | nil => simp
  | cons a l ih =>
    have h1 := h a (by simp)
    have h2 := ih fun x hx => h x (by simp [hx])
    simp only [List.sum_cons, List.length_cons, Nat.add_mul, Nat.one_mul]
    omega
theorem LS.tot_le {K1 K : CH} {n W : Nat} {rows : List Nat} {mm : List (List Nat)} (h : LS K1 n W rows mm K) : tot mm ≤ rows.length * (W * 18446744073709551616) := by
  unfold tot
  have h1 := sum_leB (l := mm.map List.sum) (B := W * 18446744073709551616) fun x hx => by
    rw [List.mem_map] at hx
    obtain ⟨ws, hw, rfl⟩ := hx
    obtain ⟨i, hi, rfl⟩ := List.getElem_of_mem hw
    have hi' : i < rows.length := by rw [h.len]; exact hi
    have e : mm.getD i [] = mm[i] := by simp [List.getD, List.getElem?_eq_getElem hi]
    have h2 := h.wl i hi'
    have h3 := h.w64 i hi'
    rw [e] at h2 h3
    have := sum_leB (l := mm[i]) (B := 18446744073709551616) fun x hx => Nat.le_of_lt (h3 x hx)
    rw [h2] at this
    exact this
  rw [List.length_map, ← h.len] at h1
  exact h1
theorem or_stay {x u : Nat} (h : x ^^^ (x &&& u) = 0) : u ||| x = u := by
  apply Nat.eq_of_testBit_eq
  intro k
  have := congrArg (fun y => Nat.testBit y k) h
  simp only [Nat.testBit_xor, Nat.testBit_and, Nat.zero_testBit] at this
  rw [Nat.testBit_or]
  cases hx : x.testBit k <;> cases hu : u.testBit k <;> simp [hx, hu] at this ⊢
theorem or_more {x u : Nat} (h : x ^^^ (x &&& u) ≠ 0) : u < u ||| x := by
  rcases Nat.lt_or_eq_of_le (Nat.left_le_or (n := u) (m := x)) with h1 | h1
  · exact h1
  · exfalso
    apply h
    apply Nat.eq_of_testBit_eq
    intro k
    have := congrArg (fun y => Nat.testBit y k) h1
    simp only [Nat.testBit_or] at this
    rw [Nat.testBit_xor, Nat.testBit_and, Nat.zero_testBit]
    cases hx : x.testBit k <;> cases hu : u.testBit k <;> simp [hx, hu] at this ⊢
end Can
end Go.Proofs.Ytapcoeecjlkdgaa
