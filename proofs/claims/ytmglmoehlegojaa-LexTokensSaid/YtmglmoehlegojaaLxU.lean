/- Lex, the document: what is open and what is out. -/
import Derived.Test.YtmglmoehlegojaaLxJ
namespace Go.Proofs.Ytmglmoehlegojaa
namespace Can
open Go Go.RowKit
set_option linter.unusedSimpArgs false
set_option linter.unusedVariables false
def DcAt (A K : CH) (vo vt : Value) (opn : List Nat) (out : List Tok) : Prop := OpnAt A K vo opn ∧ Grw A 33 3 tokC K vt out ∧ HExt A K
theorem OpnAt.mv {A K K' : CH} {v : Value} {ns : List Nat} (h : OpnAt A K v ns) (hn : K.nx ≤ K'.nx) (hk : ∀ b o n c, v = .slice (some ⟨b, o, none⟩) n c → K'.ob b = K.ob b) : OpnAt A K' v ns := by
  obtain ⟨b, kd, c, os, h1, h2, h3, h4, h5⟩ := h
  exact ⟨b, kd, c, os, h1, h2, Nat.lt_of_lt_of_le h3 hn, (hk _ _ _ _ h1).trans h4, h5⟩
theorem DcAt.mv {A K K' : CH} {vo vt : Value} {opn : List Nat} {out : List Tok} (h : DcAt A K vo vt opn out) (hx : HExt K K') : DcAt A K' vo vt opn out := by
  obtain ⟨h1, h2, h3⟩ := h
  refine ⟨h1.mv hx.nx fun b o n c e => ?_, h2.ext hx, h3.trans hx⟩
  obtain ⟨b', kd, c', os, e', g1, g2, _⟩ := h1
  rw [e] at e'
  cases e'
  exact hx.ob b g2
/-- A token more. -/
theorem DcAt.put {A K : CH} {vo vt : Value} {opn : List Nat} {out : List Tok} (h : DcAt A K vo vt opn out) (t : Tok) (hb : out.length < 1000000) {us : List Value} (hu : us = tokC t) {Q : Value → CH → Prop} (k : ∀ vt' K', DcAt A K' vo vt' opn (out ++ [t]) → K.nx ≤ K'.nx → (∀ l e kd cs, l < K.nx → K.ob l = .cells cs e kd → e ≠ 33 → K'.ob l = K.ob l) → Q vt' K') : optW (appV 33 3 32 vt us 1 K) Q := by
  obtain ⟨h1, h2, h3⟩ := h
  have hne : ∀ l cs e kd, K.ob l = .cells cs e kd → e ≠ 33 → ∀ o n c, vt ≠ .slice (some ⟨l, o, none⟩) n c := fun l cs e kd hl he o n c hv => by
    rcases h2 with ⟨_, g⟩ | ⟨b, kd', e', g1, g2, g3, g4⟩
    · rw [g] at hv; cases hv
    · rw [e'] at hv; cases hv
      rw [hl] at g3
      exact he (CObj.cells.inj g3).2.1
  refine optW_app tokC_ok (ys := [t]) h2 h3 (by simp; omega) (by simp; omega) (by rw [hu]; simp) rfl fun vt' K' j1 j2 j3 j4 => ?_
  refine k vt' K' ⟨h1.mv j3 fun b o n c e => ?_, j1, j2⟩ j3 fun l e kd cs hl hc he => j4 l hl (hne l cs e kd hc he)
  obtain ⟨b', kd, c', os, e', g1, g2, g3, _⟩ := h1
  rw [e] at e'
  cases e'
  exact j4 b g2 (hne b os _ kd g3 (by decide))
/-- Something more is open. -/
theorem DcAt.push {A K : CH} {vo vt : Value} {opn : List Nat} {out : List Tok} (h : DcAt A K vo vt opn out) (n : Nat) (hb : opn.length < 1000000) {Q : Value → CH → Prop} (k : ∀ vo' K', DcAt A K' vo' vt (opn ++ [n]) out → K.nx ≤ K'.nx → (∀ l e kd cs, l < K.nx → K.ob l = .cells cs e kd → e ≠ 3 → K'.ob l = K.ob l) → Q vo' K') : optW (appV 3 1 8 vo [.int .i64 n] 1 K) Q := by
  obtain ⟨h1, h2, h3⟩ := h
  have hne : ∀ l cs e kd, K.ob l = .cells cs e kd → e ≠ 3 → ∀ o n c, vo ≠ .slice (some ⟨l, o, none⟩) n c := fun l cs e kd hl he o n c hv => by
    obtain ⟨b', kd', c', os, e', g1, g2, g3, _⟩ := h1
    rw [e'] at hv; cases hv
    rw [hl] at g3
    exact he (CObj.cells.inj g3).2.1
  refine opn_app h1 h3 hb fun vo' K' j1 j2 j3 j4 => ?_
  refine k vo' K' ⟨j1, ?_, j2⟩ j3 fun l e kd cs hl hc he => j4 l hl (hne l cs e kd hc he)
  rcases h2 with g | ⟨b, kd, e, g1, g2, g3, g4⟩
  · exact .inl g
  · exact .inr ⟨b, kd, e, g1, Nat.lt_of_lt_of_le g2 j3, (j4 b g2 (hne b _ _ kd g3 (by decide))).trans g3, g4⟩
/-- The last that is open, and one less. -/
theorem DcAt.last {A K : CH} {vo vt : Value} {opn : List Nat} {out : List Tok} (h : DcAt A K vo vt opn out) : ∃ b kd c os, vo = .slice (some ⟨b, 0, none⟩) opn.length c ∧ K.ob b = .cells os 3 kd ∧ opn.length ≤ c ∧ opn.length ≤ os.length ∧ ∀ i, i < opn.length → os[i]? = some (.int .i64 (opn.getD i 0 : Nat)) := by
  obtain ⟨⟨b, kd, c, os, h1, h2, h3, h4, h5, h6, h7, h8, h9⟩, _⟩ := h
  exact ⟨b, kd, c, os, h1, h4, h6, h8, h9⟩
theorem DcAt.pop {A K : CH} {vt : Value} {b c m : Nat} {opn : List Nat} {out : List Tok} (h : DcAt A K (.slice (some ⟨b, 0, none⟩) opn.length c) vt opn out) (hm : m ≤ opn.length) : DcAt A K (.slice (some ⟨b, 0, none⟩) m c) vt (opn.take m) out := by
  obtain ⟨⟨b', kd, c', os, h1, h2, h3, h4, h5, h6, h7, h8, h9⟩, g⟩ := h
  cases h1
  have hl : (opn.take m).length = m := by simp; omega
  refine ⟨⟨b, kd, c, os, by rw [hl], h2, h3, h4, h5, by omega, h7, by omega, fun i hi => ?_⟩, g⟩
  rw [hl] at hi
  rw [h9 i (by omega)]
  congr 3
  simp only [List.getD_eq_getElem?_getD]
  rw [List.getElem?_take_of_lt hi]
theorem lines_iff {A : CH} {src : List UInt8} (hl : src.length ≤ 20000) : ∃ v K, HExt A K ∧ Grw A 9 1 strC K v (splitN src) ∧ ∀ Q : Value → CH → Prop, WpF (tblG Try.prog LG GG) 21 [.string ⟨⟨src⟩⟩] A Q ↔ Q v K := by
  obtain ⟨n, v, K, h1, h2, h3⟩ := lines_r (A := A) hl
  exact ⟨v, K, h2, h3, fun Q => wpF_iff ⟨n, v, K, h1, rfl, rfl⟩⟩
/-- What is known ahead of a row. -/
structure RwK (R : List (List UInt8)) (B i d : Nat) (st : List Nat) (out : List Tok) : Prop where
  z : st.getLast? = some 0
  il : i ≤ R.length
  rows : rowsT 1 R 0 [0] = mp2 out (rowsT (i + 1) (R.drop i) d st)
  bo : out.length + st.length + ((R.drop i).map List.length).sum + 3 * (R.length - i) ≤ B
  bd : d + ((R.drop i).map List.length).sum ≤ B
theorem RwK.init {R : List (List UInt8)} {B : Nat} (hB : 1 + (R.map List.length).sum + 3 * R.length ≤ B) : RwK R B 0 0 [0] [] := by
  refine ⟨rfl, Nat.zero_le _, ?_, by simp only [List.drop_zero, List.length_nil, List.length_singleton]; omega, by simp only [List.drop_zero]; omega⟩
  simp only [List.drop_zero]
  cases rowsT 1 R 0 [0] <;> rfl
theorem RwK.step {R : List (List UInt8)} {B i d : Nat} {st : List Nat} {out : List Tok} (h : RwK R B i d st out) (hi : i < R.length) {x : List Tok} {d' : Nat} {st' : List Nat} (hr : rowT (i + 1) R[i] d st = .ok (x, d', st')) : RwK R B (i + 1) d' st' (out ++ x) := by
  obtain ⟨g1, g2, g3⟩ := rowT_ok hr h.z
  have hbo := h.bo
  have hbd := h.bd
  have e : R.drop i = R[i] :: R.drop (i + 1) := List.drop_eq_getElem_cons hi
  rw [e] at hbo hbd
  simp only [List.map_cons, List.sum_cons] at hbo hbd
  refine ⟨g3, hi, ?_, by simp only [List.length_append]; omega, by omega⟩
  rw [h.rows, e, rowsT_cons, hr, ← mp2_mp2]
theorem RwK.err {R : List (List UInt8)} {B i d : Nat} {st : List Nat} {out : List Tok} (h : RwK R B i d st out) (hi : i < R.length) {e : Nat} (hr : rowT (i + 1) R[i] d st = .error e) : rowsT 1 R 0 [0] = .error (i + 1, e) := by
  rw [h.rows, List.drop_eq_getElem_cons hi, rowsT_cons, hr]; rfl
theorem RwK.fin {R : List (List UInt8)} {B d : Nat} {st : List Nat} {out : List Tok} (h : RwK R B R.length d st out) : rowsT 1 R 0 [0] = .ok (out, st) := by
  rw [h.rows, List.drop_eq_nil_of_le (Nat.le_refl _)]
  simp [rowsT, mp2]
end Can
end Go.Proofs.Ytmglmoehlegojaa
