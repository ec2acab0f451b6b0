/- Roots, plain: how many bits a word has; OnesCount64's steps. -/
import Derived.Test.YtapcoeecjlkdgaaFlPthF
namespace Go.Proofs.Ytapcoeecjlkdgaa
namespace Can
open Go Go.RowKit
set_option linter.unusedSimpArgs false
set_option linter.unusedVariables false
/-- The bits of a number that are below 2^n, counted. -/
def pcR : Nat → Nat → Nat
  | 0, _ => 0
  | n + 1, x => x % 2 + pcR n (x / 2)
def bitN (b : Bool) : Nat := if b then 1 else 0
theorem pcR_succ : ∀ (k w : Nat), pcR (k + 1) w = pcR k w + bitN (w.testBit k)
  | 0, w => by
    simp only [pcR, Nat.testBit_zero, bitN]
    rcases Nat.mod_two_eq_zero_or_one w with h | h <;> simp [h]
  | k + 1, w => by
    show w % 2 + pcR (k + 1) (w / 2) = (w % 2 + pcR k (w / 2)) + _
    rw [pcR_succ k (w / 2), Nat.testBit_succ]; omega
theorem pcR_split : ∀ (m n b y : Nat), b < 2 ^ m → pcR (m + n) (b + 2 ^ m * y) = pcR m b + pcR n y
  | 0, n, b, y, h => by
    have : b = 0 := by simpa using h
    subst this; simp [pcR]
  | m + 1, n, b, y, h => by
    rw [show m + 1 + n = (m + n) + 1 by omega]
    have e : 2 ^ (m + 1) = 2 * 2 ^ m := by rw [Nat.pow_succ, Nat.mul_comm]
    have h2 : (b + 2 ^ (m + 1) * y) % 2 = b % 2 := by rw [e, Nat.mul_assoc]; omega
    have h3 : (b + 2 ^ (m + 1) * y) / 2 = b / 2 + 2 ^ m * y := by rw [e, Nat.mul_assoc]; omega
    show (b + 2 ^ (m + 1) * y) % 2 + pcR (m + n) ((b + 2 ^ (m + 1) * y) / 2) = (b % 2 + pcR m (b / 2)) + pcR n y
    rw [h2, h3, pcR_split m n (b / 2) y (by rw [e] at h; omega)]; omega
theorem and_byte {b m y n : Nat} (hb : b < 256) (hm : m < 256) : (b + 256 * y) &&& (m + 256 * n) = (b &&& m) + 256 * (y &&& n) := by
  have hbm : b &&& m < 2 ^ 8 := Nat.lt_of_le_of_lt Nat.and_le_left hb
  apply Nat.eq_of_testBit_eq
  intro k
  have e1 := Nat.testBit_two_pow_mul_add y (show b < 2 ^ 8 from hb) k
  have e2 := Nat.testBit_two_pow_mul_add n (show m < 2 ^ 8 from hm) k
  have e3 := Nat.testBit_two_pow_mul_add (y &&& n) hbm k
  rw [Nat.testBit_and, show b + 256 * y = 2 ^ 8 * y + b by omega, show m + 256 * n = 2 ^ 8 * n + m by omega, show (b &&& m) + 256 * (y &&& n) = 2 ^ 8 * (y &&& n) + (b &&& m) by omega, e1, e2, e3]
  split
  · rw [Nat.testBit_and]
  · rw [Nat.testBit_and]
def M0 : Nat → Nat
  | 0 => 0
  | n + 1 => 85 + 256 * M0 n
def M1 : Nat → Nat
  | 0 => 0
  | n + 1 => 51 + 256 * M1 n
def M2 : Nat → Nat
  | 0 => 0
  | n + 1 => 15 + 256 * M2 n
theorem M0_s {n : Nat} : M0 (n + 1) = 85 + 256 * M0 n := rfl
theorem M1_s {n : Nat} : M1 (n + 1) = 51 + 256 * M1 n := rfl
theorem M2_s {n : Nat} : M2 (n + 1) = 15 + 256 * M2 n := rfl
def s1 (n y : Nat) : Nat := (y / 2 &&& M0 n) + (y &&& M0 n)
def s2 (n y : Nat) : Nat := (y / 4 &&& M1 n) + (y &&& M1 n)
def s3 (n y : Nat) : Nat := (y / 16 + y) &&& M2 n
def f1 (b : Nat) : Nat := (b / 2 &&& 85) + (b &&& 85)
def f2 (b : Nat) : Nat := (b / 4 &&& 51) + (b &&& 51)
theorem t1 : ∀ b < 256, ∀ e < 2, (b / 2 + 128 * e) &&& 85 = b / 2 &&& 85 := by decide +kernel
theorem t2 : ∀ b < 256, ∀ e < 4, (b / 4 + 64 * e) &&& 51 = b / 4 &&& 51 := by decide +kernel
theorem t3 : ∀ b < 256, f1 b < 256 ∧ f2 (f1 b) ≤ 68 ∧ f2 (f1 b) % 16 ≤ 4 ∧ (f2 (f1 b) + f2 (f1 b) / 16) % 16 = pcR 8 b ∧ pcR 8 b ≤ 8 := by decide +kernel
theorem s1_step {n b y : Nat} (hb : b < 256) : s1 (n + 1) (b + 256 * y) = f1 b + 256 * s1 n y := by
  unfold s1 f1
  rw [M0_s, and_byte hb (by decide), show (b + 256 * y) / 2 = (b / 2 + 128 * (y % 2)) + 256 * (y / 2) by omega, and_byte (by omega) (by decide), t1 b hb (y % 2) (by omega)]
  omega
theorem s2_step {n b y : Nat} (hb : b < 256) : s2 (n + 1) (b + 256 * y) = f2 b + 256 * s2 n y := by
  unfold s2 f2
  rw [M1_s, and_byte hb (by decide), show (b + 256 * y) / 4 = (b / 4 + 64 * (y % 4)) + 256 * (y / 4) by omega, and_byte (by omega) (by decide), t2 b hb (y % 4) (by omega)]
  omega
theorem and15 {a : Nat} : a &&& 15 = a % 16 := Nat.and_two_pow_sub_one_eq_mod a 4
theorem s3_step {n c y : Nat} (hc : c ≤ 68) (hy : y % 16 ≤ 4) : s3 (n + 1) (c + 256 * y) = (c + c / 16) % 16 + 256 * s3 n y := by
  unfold s3
  rw [M2_s, show (c + 256 * y) / 16 + (c + 256 * y) = (c + c / 16 + 16 * (y % 16)) + 256 * (y / 16 + y) by omega, and_byte (by omega) (by decide), and15]
  congr 1
  omega
def b8 (a b c d e f g h : Nat) : Nat := a + 256 * (b + 256 * (c + 256 * (d + 256 * (e + 256 * (f + 256 * (g + 256 * (h + 256 * 0)))))))
theorem m0_8 : M0 8 = 6148914691236517205 := by decide +kernel
theorem m1_8 : M1 8 = 3689348814741910323 := by decide +kernel
theorem m2_8 : M2 8 = 1085102592571150095 := by decide +kernel
theorem low_f {a y : Nat} (h : a % 16 ≤ 4) : (a + 256 * y) % 16 ≤ 4 := by omega
theorem steps {a b c d e f g h : Nat} (ha : a < 256) (hb : b < 256) (hc : c < 256) (hd : d < 256) (he : e < 256) (hf : f < 256) (hg : g < 256) (hh : h < 256) :
    s3 8 (s2 8 (s1 8 (b8 a b c d e f g h))) = b8 (pcR 8 a) (pcR 8 b) (pcR 8 c) (pcR 8 d) (pcR 8 e) (pcR 8 f) (pcR 8 g) (pcR 8 h) := by
  have z1 : s1 0 0 = 0 := rfl
  have z2 : s2 0 0 = 0 := rfl
  have z3 : s3 0 0 = 0 := rfl
  have ta := t3 a ha
  have tb := t3 b hb
  have tc := t3 c hc
  have td := t3 d hd
  have te := t3 e he
  have tf := t3 f hf
  have tg := t3 g hg
  have th := t3 h hh
  unfold b8
  rw [s1_step ha, s1_step hb, s1_step hc, s1_step hd, s1_step he, s1_step hf, s1_step hg, s1_step hh, z1]
  rw [s2_step ta.1, s2_step tb.1, s2_step tc.1, s2_step td.1, s2_step te.1, s2_step tf.1, s2_step tg.1, s2_step th.1, z2]
  rw [s3_step ta.2.1 (low_f tb.2.2.1), s3_step tb.2.1 (low_f tc.2.2.1), s3_step tc.2.1 (low_f td.2.2.1), s3_step td.2.1 (low_f te.2.2.1), s3_step te.2.1 (low_f tf.2.2.1), s3_step tf.2.1 (low_f tg.2.2.1), s3_step tg.2.1 (low_f th.2.2.1), s3_step th.2.1 (by omega), z3]
  rw [ta.2.2.2.1, tb.2.2.2.1, tc.2.2.2.1, td.2.2.2.1, te.2.2.2.1, tf.2.2.2.1, tg.2.2.2.1, th.2.2.2.1]
theorem tail8 {a b c d e f g h : Nat} (ha : a ≤ 8) (hb : b ≤ 8) (hc : c ≤ 8) (hd : d ≤ 8) (he : e ≤ 8) (hf : f ≤ 8) (hg : g ≤ 8) (hh : h ≤ 8) {x4 x5 x6 : Nat} (h4 : x4 = b8 a b c d e f g h + b8 a b c d e f g h / 256) (h5 : x5 = x4 + x4 / 65536) (h6 : x6 = x5 + x5 / 4294967296) :
    x6 % 128 = a + b + c + d + e + f + g + h := by
  unfold b8 at h4
  have e4 : x4 = (a + b) + 256 * ((b + c) + 256 * ((c + d) + 256 * ((d + e) + 256 * ((e + f) + 256 * ((f + g) + 256 * ((g + h) + 256 * h)))))) := by omega
  clear h4
  have e5 : x5 = (a + b + c + d) + 256 * ((b + c + d + e) + 256 * ((c + d + e + f) + 256 * ((d + e + f + g) + 256 * ((e + f + g + h) + 256 * ((f + g + h) + 256 * ((g + h) + 256 * h)))))) := by omega
  clear h5 e4
  have e6 : x5 / 4294967296 = (e + f + g + h) + 256 * ((f + g + h) + 256 * ((g + h) + 256 * h)) := by omega
  omega
theorem of_b8 {x : Nat} (hx : x < 18446744073709551616) : ∃ a b c d e f g h, a < 256 ∧ b < 256 ∧ c < 256 ∧ d < 256 ∧ e < 256 ∧ f < 256 ∧ g < 256 ∧ h < 256 ∧ x = b8 a b c d e f g h :=
  ⟨x % 256, x / 256 % 256, x / 65536 % 256, x / 16777216 % 256, x / 4294967296 % 256, x / 1099511627776 % 256, x / 281474976710656 % 256, x / 72057594037927936 % 256, by omega, by omega, by omega, by omega, by omega, by omega, by omega, by omega, by unfold b8; omega⟩
theorem pc_b8 {a b c d e f g h : Nat} (ha : a < 256) (hb : b < 256) (hc : c < 256) (hd : d < 256) (he : e < 256) (hf : f < 256) (hg : g < 256) (hh : h < 256) : pcR 64 (b8 a b c d e f g h) = pcR 8 a + pcR 8 b + pcR 8 c + pcR 8 d + pcR 8 e + pcR 8 f + pcR 8 g + pcR 8 h := by
  unfold b8
  have k := fun n b y h => pcR_split 8 n b y h
  have e1 := k 56 a (b + 256 * (c + 256 * (d + 256 * (e + 256 * (f + 256 * (g + 256 * (h + 256 * 0))))))) ha
  have e2 := k 48 b (c + 256 * (d + 256 * (e + 256 * (f + 256 * (g + 256 * (h + 256 * 0)))))) hb
  have e3 := k 40 c (d + 256 * (e + 256 * (f + 256 * (g + 256 * (h + 256 * 0))))) hc
  have e4 := k 32 d (e + 256 * (f + 256 * (g + 256 * (h + 256 * 0)))) hd
  have e5 := k 24 e (f + 256 * (g + 256 * (h + 256 * 0))) he
  have e6 := k 16 f (g + 256 * (h + 256 * 0)) hf
  have e7 := k 8 g (h + 256 * 0) hg
  have e8 := k 0 h 0 hh
  simp only [Nat.reduceAdd, Nat.reducePow] at e1 e2 e3 e4 e5 e6 e7 e8
  have z : pcR 0 0 = 0 := rfl
  rw [e1, e2, e3, e4, e5, e6, e7]
  simp only [Nat.mul_zero, Nat.add_zero] at *
  omega
theorem s_le {n y : Nat} : s1 n y ≤ 2 * M0 n ∧ s2 n y ≤ 2 * M1 n ∧ s3 n y ≤ M2 n := by
  unfold s1 s2 s3
  have h1 : y / 2 &&& M0 n ≤ M0 n := Nat.and_le_right
  have h2 : y &&& M0 n ≤ M0 n := Nat.and_le_right
  have h3 : y / 4 &&& M1 n ≤ M1 n := Nat.and_le_right
  have h4 : y &&& M1 n ≤ M1 n := Nat.and_le_right
  exact ⟨by omega, by omega, Nat.and_le_right⟩
theorem ones_ok {x x1 x2 x3 x4 x5 x6 : Nat} (hx : x < 18446744073709551616) (h1 : x1 = (x / 2 &&& 6148914691236517205) + (x &&& 6148914691236517205)) (h2 : x2 = (x1 / 4 &&& 3689348814741910323) + (x1 &&& 3689348814741910323)) (h3 : x3 = (x2 / 16 + x2) &&& 1085102592571150095) (h4 : x4 = x3 + x3 / 256) (h5 : x5 = x4 + x4 / 65536) (h6 : x6 = x5 + x5 / 4294967296) : x6 % 128 = pcR 64 x := by
  obtain ⟨a, b, c, d, e, f, g, h, ha, hb, hc, hd, he, hf, hg, hh, rfl⟩ := of_b8 hx
  rw [← m0_8] at h1
  rw [← m1_8] at h2
  rw [← m2_8] at h3
  have e1 : x1 = s1 8 (b8 a b c d e f g h) := h1
  have e2 : x2 = s2 8 x1 := h2
  have e3 : x3 = s3 8 x2 := h3
  rw [e2, e1, steps ha hb hc hd he hf hg hh] at e3
  rw [pc_b8 ha hb hc hd he hf hg hh]
  rw [e3] at h4
  exact tail8 (t3 a ha).2.2.2.2 (t3 b hb).2.2.2.2 (t3 c hc).2.2.2.2 (t3 d hd).2.2.2.2 (t3 e he).2.2.2.2 (t3 f hf).2.2.2.2 (t3 g hg).2.2.2.2 (t3 h hh).2.2.2.2 h4 h5 h6
/-- The bits of rows of words, counted one by one. -/
def cu (ws : List Nat) : Nat → Nat
  | 0 => 0
  | r + 1 => cu ws r + bitN (bitW ws r)
def su (ws : List Nat) : Nat → Nat
  | 0 => 0
  | i + 1 => su ws i + pcR 64 (ws.getD i 0)
theorem cu_part {ws : List Nat} {i : Nat} : ∀ k, k ≤ 64 → cu ws (64 * i + k) = cu ws (64 * i) + pcR k (ws.getD i 0)
  | 0, _ => by simp [pcR]
  | k + 1, h => by
    show cu ws (64 * i + k) + bitN (bitW ws (64 * i + k)) = _
    rw [cu_part k (by omega), pcR_succ]
    have e1 : (64 * i + k) / 64 = i := by omega
    have e2 : (64 * i + k) % 64 = k := by omega
    unfold bitW
    rw [e1, e2]; omega
theorem cu_su {ws : List Nat} : ∀ i, cu ws (64 * i) = su ws i
  | 0 => rfl
  | i + 1 => by
    rw [show 64 * (i + 1) = 64 * i + 64 by omega, cu_part 64 (Nat.le_refl _), cu_su i]; rfl
theorem pcR_le : ∀ n x, pcR n x ≤ n
  | 0, _ => Nat.le_refl _
  | n + 1, x => by
    have := pcR_le n (x / 2)
    show x % 2 + pcR n (x / 2) ≤ _
    omega
theorem su_le {ws : List Nat} : ∀ i, su ws i ≤ 64 * i
  | 0 => Nat.le_refl _
  | i + 1 => by
    have := su_le (ws := ws) i
    have := pcR_le 64 (ws.getD i 0)
    show su ws i + _ ≤ _
    omega
theorem cu_le {ws : List Nat} : ∀ r, cu ws r ≤ r
  | 0 => Nat.le_refl _
  | r + 1 => by
    have := cu_le (ws := ws) r
    show cu ws r + bitN _ ≤ _
    unfold bitN; split <;> omega
end Can
end Go.Proofs.Ytapcoeecjlkdgaa
