/- Flow: what is live, in plain terms; words of bits. -/
import Derived.Test.YtapcoeecjlkdgaaFlRchF
namespace Go.Proofs.Ytapcoeecjlkdgaa
namespace Can
open Go Go.RowKit
set_option linter.unusedSimpArgs false
set_option linter.unusedVariables false
inductive Lv (F : Fn') : Nat → Nat → Prop where
  | read {j r : Nat} (hj : j < F.ins.length) (hr : (r : Int) ∈ readsF (F.ins.getD j default)) : Lv F j r
  | step {j r : Nat} {p : Int × List Int} (hp : p ∈ waysF F j) (h : Lv F p.1.toNat r) (hw : (r : Int) ∉ p.2) : Lv F j r
def wordC (ws : List Nat) : List Value := ws.map fun (x : Nat) => .int .u64 (x : Int)
def bitW (ws : List Nat) (r : Nat) : Bool := (ws.getD (r / 64) 0).testBit (r % 64)
def bitM (mm : List (List Nat)) (j r : Nat) : Bool := bitW (mm.getD j []) r
def W64 (ws : List Nat) : Prop := ∀ w ∈ ws, w < 18446744073709551616
theorem wordC_len {ws : List Nat} : (wordC ws).length = ws.length := by simp [wordC]
theorem wordC_get {ws : List Nat} {i : Nat} (h : i < ws.length) : (wordC ws)[i]? = some (.int .u64 ((ws.getD i 0 : Nat) : Int)) := by
  simp [wordC, List.getD, List.getElem?_eq_getElem h]
theorem wordC_set {ws : List Nat} {i x : Nat} (h : i < ws.length) : setCells (wordC ws) i [.int .u64 (x : Int)] = wordC (ws.set i x) := by
  unfold wordC
  exact set_map (f := fun (x : Nat) => Value.int .u64 (x : Int)) h
theorem wordC_zeros (n : Nat) : zeros [.int .u64 0] n = wordC (List.replicate n 0) := by
  unfold zeros wordC
  apply List.ext_getElem
  · simp
  · intro i h1 h2; simp [Nat.mod_one]
theorem W64.get {ws : List Nat} (h : W64 ws) (i : Nat) : ws.getD i 0 < 18446744073709551616 := by
  by_cases hi : i < ws.length
  · simp only [List.getD, List.getElem?_eq_getElem hi, Option.getD_some]; exact h _ (List.getElem_mem hi)
  · simp [List.getD, List.getElem?_eq_none (Nat.le_of_not_lt hi)]
theorem W64.set {ws : List Nat} (h : W64 ws) {i x : Nat} (hx : x < 18446744073709551616) : W64 (ws.set i x) := fun w hw => by
  rcases List.mem_or_eq_of_mem_set hw with hw | rfl
  · exact h w hw
  · exact hx
theorem W64.rep (n : Nat) : W64 (List.replicate n 0) := fun w hw => by
  rw [(List.mem_replicate.1 hw).2]; decide
theorem bitW_rep (n r : Nat) : bitW (List.replicate n 0) r = false := by
  unfold bitW
  by_cases h : r / 64 < n
  · simp [List.getD, h]
  · simp [List.getD, h]
theorem bitW_set {ws : List Nat} {i x r : Nat} (h : i < ws.length) : bitW (ws.set i x) r = if r / 64 = i then x.testBit (r % 64) else bitW ws r := by
  unfold bitW
  simp only [List.getD_eq_getElem?_getD, List.getElem?_set]
  by_cases e : i = r / 64
  · subst e; simp [h]
  · rw [if_neg e, if_neg (by omega)]
theorem or_lt {a b : Nat} (ha : a < 18446744073709551616) (hb : b < 18446744073709551616) : a ||| b < 18446744073709551616 := Nat.or_lt_two_pow (n := 64) ha hb
theorem xor_and_lt {a b : Nat} (ha : a < 18446744073709551616) : a ^^^ (a &&& b) < 18446744073709551616 := Nat.xor_lt_two_pow (n := 64) ha (Nat.lt_of_le_of_lt Nat.and_le_left ha)
theorem pow_lt {k : Nat} (h : k < 64) : 2 ^ k < 18446744073709551616 := by
  have : 2 ^ k < 2 ^ 64 := Nat.pow_lt_pow_right (by decide) h
  simpa using this
/-- A bit laid. -/
theorem bitW_or {ws : List Nat} {r s : Nat} (h : r / 64 < ws.length) : bitW (ws.set (r / 64) (ws.getD (r / 64) 0 ||| 2 ^ (r % 64))) s = (bitW ws s || decide (s = r)) := by
  rw [bitW_set h]
  split
  · rename_i e
    rw [Nat.testBit_or, Nat.testBit_two_pow]
    unfold bitW
    rw [e]
    congr 1
    rw [Bool.eq_iff_iff, decide_eq_true_iff, decide_eq_true_iff]
    omega
  · rename_i e
    have : s ≠ r := fun h => e (by rw [h])
    simp [this]
/-- A bit struck. -/
theorem bitW_clr {ws : List Nat} {r s : Nat} (h : r / 64 < ws.length) : bitW (ws.set (r / 64) (ws.getD (r / 64) 0 ^^^ (ws.getD (r / 64) 0 &&& 2 ^ (r % 64)))) s = (bitW ws s && !decide (s = r)) := by
  rw [bitW_set h]
  split
  · rename_i e
    rw [Nat.testBit_xor, Nat.testBit_and, Nat.testBit_two_pow]
    unfold bitW
    rw [e]
    have h1 : decide (r % 64 = s % 64) = decide (s = r) := by
      rw [Bool.eq_iff_iff, decide_eq_true_iff, decide_eq_true_iff]; omega
    rw [h1]
    cases (ws.getD (r / 64) 0).testBit (s % 64) <;> cases decide (s = r) <;> rfl
  · rename_i e
    have : s ≠ r := fun h => e (by rw [h])
    simp [this]
theorem bitW_orw {ws : List Nat} {i x s : Nat} (h : i < ws.length) : bitW (ws.set i (ws.getD i 0 ||| x)) s = (bitW ws s || (decide (s / 64 = i) && x.testBit (s % 64))) := by
  rw [bitW_set h]
  split
  · rename_i e
    rw [Nat.testBit_or]
    unfold bitW
    rw [e]; simp
  · rename_i e; simp [e]
theorem bitM_set {mm : List (List Nat)} {j s : Nat} {ws : List Nat} {i : Nat} (h : j < mm.length) : bitM (mm.set j ws) i s = if i = j then bitW ws s else bitM mm i s := by
  unfold bitM
  simp only [List.getD_eq_getElem?_getD, List.getElem?_set]
  by_cases e : j = i
  · subst e; simp [h]
  · rw [if_neg e, if_neg (by omega)]
/-- The live relation is what such maps hold. -/
theorem lv_of {F : Fn'} {mm : List (List Nat)} (hr : ∀ j r : Nat, j < F.ins.length → (r : Int) ∈ readsF (F.ins.getD j default) → bitM mm j r = true) (hc : ∀ (j r : Nat) (p : Int × List Int), p ∈ waysF F j → bitM mm p.1.toNat r = true → (r : Int) ∉ p.2 → bitM mm j r = true) {j r : Nat} (h : Lv F j r) : bitM mm j r = true := by
  induction h with
  | read hj h => exact hr _ _ hj h
  | step hp h hw ih => exact hc _ _ _ hp ih hw
theorem words_ext {ws us : List Nat} (hl : ws.length = us.length) (h1 : W64 ws) (h2 : W64 us) (h : ∀ r, bitW ws r = bitW us r) : ws = us := by
  apply List.ext_getElem hl
  intro i hi hj
  apply Nat.eq_of_testBit_eq
  intro k
  by_cases hk : k < 64
  · have := h (64 * i + k)
    unfold bitW at this
    have e1 : (64 * i + k) / 64 = i := by omega
    have e2 : (64 * i + k) % 64 = k := by omega
    rw [e1, e2] at this
    simpa [List.getD, List.getElem?_eq_getElem hi, List.getElem?_eq_getElem hj] using this
  · have a : ws[i] < 2 ^ k := Nat.lt_of_lt_of_le (h1 _ (List.getElem_mem hi)) (by
      have : 2 ^ 64 ≤ 2 ^ k := Nat.pow_le_pow_right (by decide) (by omega)
      simpa using this)
    have b : us[i] < 2 ^ k := Nat.lt_of_lt_of_le (h2 _ (List.getElem_mem hj)) (by
      have : 2 ^ 64 ≤ 2 ^ k := Nat.pow_le_pow_right (by decide) (by omega)
      simpa using this)
    rw [Nat.testBit_lt_two_pow a, Nat.testBit_lt_two_pow b]
/-! The operations on words. -/
theorem b_orN {a b : Nat} (ha : a < 18446744073709551616) (hb : b < 18446744073709551616) : svOf (binOp .or 0 (.int .u64 (a : Int)) (.int .u64 (b : Int))) = some (.int .u64 ((a ||| b : Nat) : Int)) := by
  rw [b_or_u64 (by omega) (by omega) (by omega) (by omega)]; simp
theorem u64_max_sub {a b : Nat} (ha : a < 18446744073709551616) (hb : b < 18446744073709551616) : a &&& (18446744073709551615 - b) = a ^^^ (a &&& b) := by
  apply Nat.eq_of_testBit_eq
  intro k
  rw [Nat.testBit_and, Nat.testBit_xor, Nat.testBit_and]
  have e : (18446744073709551615 : Nat) - b = 2 ^ 64 - (b + 1) := by omega
  rw [e, Nat.testBit_two_pow_sub_succ (by simpa using hb)]
  by_cases hk : k < 64
  · simp [hk]
    cases a.testBit k <;> cases b.testBit k <;> rfl
  · have : a.testBit k = false := Nat.testBit_lt_two_pow (Nat.lt_of_lt_of_le ha (by
      have : 2 ^ 64 ≤ 2 ^ k := Nat.pow_le_pow_right (by decide) (by omega)
      simpa using this))
    simp [this]
theorem b_andNotN {a b : Nat} (ha : a < 18446744073709551616) (hb : b < 18446744073709551616) : svOf (binOp .andNot 0 (.int .u64 (a : Int)) (.int .u64 (b : Int))) = some (.int .u64 ((a ^^^ (a &&& b) : Nat) : Int)) := by
  have h : svOf (binOp .andNot 0 (.int .u64 (a : Int)) (.int .u64 (b : Int))) = some (.int .u64 (bits .andNot .u64 (a : Int) (b : Int))) := by
    simp [binOp, Op.intBits, svOf, Pure.pure, bits]
  rw [h, u64_andNot_nat a b ha hb, u64_max_sub ha hb]
theorem b_shlN {k : Nat} (hk : k < 64) : svOf (binOp .shl 0 (.int .u64 1) (.int .i64 (k : Int))) = some (.int .u64 ((2 ^ k : Nat) : Int)) := by
  rw [b_shl (by omega)]
  have h1 : min ((k : Int).toNat) IntKind.u64.bits = k := by simp [IntKind.bits]; omega
  have h2 := pow_lt hk
  rw [h1, Int.one_mul]
  congr 2
  have : ((2 : Int) ^ k) = ((2 ^ k : Nat) : Int) := by simp
  rw [this]
  obtain ⟨p, hp⟩ : ∃ p : Nat, 2 ^ k = p := ⟨_, rfl⟩
  rw [hp] at h2 ⊢
  rw [IntKind.wrap_u64]
  omega
theorem q64 {r : Nat} : ((r : Int).tdiv 64) = ((r / 64 : Nat) : Int) := by
  rw [Int.tdiv_eq_ediv_of_nonneg (by omega)]; simp
theorem r64 {r : Nat} : ((r : Int).tmod 64) = ((r % 64 : Nat) : Int) := by
  rw [Int.tmod_eq_emod_of_nonneg (by omega)]; simp
end Can
end Go.Proofs.Ytapcoeecjlkdgaa
