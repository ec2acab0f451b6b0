/- Lex: the law of blocks. -/
import Derived.Test.YtmglmoehlegojaaLxC
namespace Go.Proofs.Ytmglmoehlegojaa
namespace Can
open Go Go.RowKit
set_option linter.unusedSimpArgs false
set_option linter.unusedVariables false
theorem u8_wf {x : Int} (h : (Lit.int .u8 x).wf = true) : ((x.toNat.toUInt8).toNat : Int) = x := by
  have := bounds_u8 h
  have h1 : x.toNat.toUInt8.toNat = x.toNat % 256 := by simp
  omega
theorem u8_of {H : CH} {q : Option Addr} {c : Nat} {xs : List Int} (h : SlAt 1 (CInt .u8) H q c xs) : ∃ src, xs = u8i src := by
  refine ⟨xs.map fun x => x.toNat.toUInt8, ?_⟩
  have hw : ∀ x ∈ xs, (Lit.int .u8 x).wf = true := by
    rcases h with ⟨rfl, _⟩ | ⟨l, o, os, e, kd, _, _, _, _, _, _, hR⟩
    · intro x hx; cases hx
    · intro x hx
      obtain ⟨i, hi, rfl⟩ := List.getElem_of_mem hx
      exact (hR i hi).2
  clear h
  induction xs with
  | nil => rfl
  | cons x xs ih =>
    simp only [u8i, List.map_cons]
    rw [u8_wf (hw x (by simp))]
    congr 1
    exact ih fun y hy => hw y (by simp [hy])
theorem u8i_len {src : List UInt8} : (u8i src).length = src.length := by simp [u8i]
theorem blocks_law {H : CH} {q : Option Addr} {c : Nat} {xs : List Int} (h : SlAt 1 (CInt .u8) H q c xs) (hm : xs.length ≤ 4611686018427387904) :
    WpF (tblG Try.prog LG GG) 4 [.slice q xs.length c] H fun v _ => v = .bool true := by
  obtain ⟨src, rfl⟩ := u8_of h
  rw [u8i_len] at hm ⊢
  exact blocks_wp H h hm
end Can
end Go.Proofs.Ytmglmoehlegojaa
