/- Lex: bytes that lie. -/
import Derived.Test.YtmglmoehlegojaaLxSh
namespace Go.Proofs.Ytmglmoehlegojaa
namespace Can
open Go Go.RowKit
set_option linter.unusedSimpArgs false
set_option linter.unusedVariables false
set_option maxRecDepth 4000
def byC (src : List UInt8) : List Value := src.map fun c => Value.int .u8 (c.toNat : Int)
theorem byC_ints {src : List UInt8} : byC src = (u8i src).flatMap (ints .u8) := by rw [flat_ints]; simp [u8i, byC]
theorem by_src {H : CH} {q : Option Addr} {c : Nat} {src : List UInt8} (h : SlAt 1 (CInt .u8) H q c (u8i src)) : srcCells H 1 (.slice q src.length c) = some (byC src, src.length) := by
  have hs := src_ints h
  rw [show (u8i src).length = src.length by simp [u8i], ← byC_ints] at hs
  exact hs
theorem by_grw {A H : CH} {v : Value} {src : List UInt8} (h : Grw A 5 1 (ints .u8) H v (u8i src)) : srcCells H 1 v = some (byC src, src.length) := by
  rcases h with ⟨e, rfl⟩ | ⟨b, kd, rfl, h1, h2, h3, h4⟩
  · have : src = [] := by simpa [u8i] using e
    subst this; rfl
  · rw [u8i_len, src_r]
    by_cases h0 : src.length = 0
    · rw [if_pos h0]
      have : src = [] := List.length_eq_zero_iff.1 h0
      subst this; rfl
    · rw [if_neg h0, h3, srcR_c, ← byC_ints, if_pos (by simp [byC])]
      rw [List.drop_zero, Nat.mul_one, List.take_of_length_le (by simp [byC])]
theorem grw_emp {A K : CH} (h : HExt A K) : Grw A 5 1 (ints .u8) (K.new (.cells (zeros [.int .u8 0] 0) 5 .ex)) (.slice (some ⟨K.nx, 0, none⟩) 0 0) (u8i []) :=
  .inr ⟨K.nx, .ex, rfl, h.nx, Nat.lt_succ_self _, new_get.trans (if_pos rfl), rfl⟩
theorem grw_sl {A K : CH} {v : Value} {src : List UInt8} (hm : src.length ≤ 140737488355328) (h : Grw A 5 1 (ints .u8) K v (u8i src)) : ∃ q, v = .slice q src.length src.length ∧ SlAt 1 (CInt .u8) K q src.length (u8i src) := by
  rcases h with ⟨e, rfl⟩ | ⟨b, kd, rfl, h1, h2, h3, h4⟩
  · have : src = [] := by simpa [u8i] using e
    subst this
    exact ⟨_, rfl, .inl ⟨rfl, rfl, .inl rfl⟩⟩
  · refine ⟨_, by rw [u8i_len], .inr ⟨b, 0, _, _, _, rfl, h2, by simp [u8i], by rw [maxLen_eq]; omega, h3, by rw [← byC_ints]; simp [u8i, byC], fun i hi => ?_⟩⟩
    simp only [u8i, List.length_map] at hi
    rw [← byC_ints]
    refine ⟨?_, ?_⟩
    · simp only [Nat.zero_add, Nat.mul_one, u8i, List.getElem_map]
      rw [List.drop_eq_getElem_cons (by simp [byC]; omega)]
      simp only [List.take_succ_cons, List.take_zero]
      simp [byC]
    · simp only [u8i, List.getElem_map]
      have := src[i].toNat_lt
      have := src[i].toNat_lt
      simp [Lit.wf, IntKind.min, IntKind.max, IntKind.signed, IntKind.bits]; omega
/-- Bytes put behind bytes. -/
theorem by_app {A K : CH} {v w : Value} {xs ys : List UInt8} (hg : Grw A 5 1 (ints .u8) K v (u8i xs)) (hA : HExt A K) (hw : srcCells K 1 w = some (byC ys, ys.length)) (hb : xs.length + ys.length ≤ 140737488355328) {Q : Value → CH → Prop} (k : ∀ v' K', Grw A 5 1 (ints .u8) K' v' (u8i (xs ++ ys)) → HExt A K' → Q v' K') : optW (appS (srcCells K 1 w) 5 1 1 v K) Q := by
  rw [hw, appS_some]
  refine optW_app (ys := u8i ys) (ints_ok .u8) hg hA (by rw [u8i_len, u8i_len]; omega) (by rw [u8i_len, u8i_len]; omega) byC_ints (u8i_len).symm fun v' K' j1 j2 _ _ => k v' K' ?_ j2
  simpa [u8i] using j1
end Can
end Go.Proofs.Ytmglmoehlegojaa
