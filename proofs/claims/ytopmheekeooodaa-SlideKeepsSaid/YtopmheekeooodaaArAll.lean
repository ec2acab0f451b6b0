/- Arena: the reference's All says the same as walk. -/
import Derived.Test.YtopmheekeooodaaArWalk
namespace Go.Proofs.Ytopmheekeooodaa
namespace Can
open Go Go.RowKit
set_option linter.unusedSimpArgs false
set_option linter.unusedVariables false
set_option maxRecDepth 4000
def A0 (H : CH) (ws : List Int) (tn : Nat) (p : Option Addr) (c : Nat) (m : Nat) (fr : Fr) (K : CH) : Prop :=
  ∃ j, m = ws.length - (tn + j) ∧ tn + j ≤ ws.length ∧ fr 1 = .pointer (some ⟨H.nx, 0, none⟩) ∧ fr 4 = .int .i64 ((tn + j : Nat) : Int) ∧ HExt H K ∧ H.nx + 1 ≤ K.nx ∧ K.ob H.nx = .cells [.slice p ws.length c, .int .i64 tn] 24 .ex ∧ ∀ i, i < j → wd ws (tn + i) = 0
def A1 (H G : CH) (ws : List Int) (tn : Nat) (m : Nat) (fr : Fr) (K : CH) : Prop :=
  ∃ (a : Nat) (l : List Int) (bs : List Bool), m = tn - a ∧ fr 1 = .pointer (some ⟨H.nx, 0, none⟩) ∧ fr 6 = .slice (some ⟨G.nx, 0, none⟩) tn tn ∧ fr 7 = .int .i64 a ∧ OwnL K (G.nx + 1) (fr 5) l ∧
    HExt G K ∧ G.nx + 1 ≤ K.nx ∧ K.ob G.nx = .cells (bs.map .bool) 4 .ex ∧ bs.length = tn ∧
    (∀ i, i < tn → bs.getD i false = decide ((i : Int) ∈ l)) ∧ chainG ws tn 1 = (chainG ws tn a).map (l ++ ·) ∧ 1 ≤ a ∧ a ≤ tn ∧ l.length < a ∧ ∀ x ∈ l, 1 ≤ x ∧ x < tn ∧ isObj ws tn x.toNat = true
def A2 (H G K : CH) (ws : List Int) (tn : Nat) (ls : List Int) (pl : Option Addr) (m : Nat) (fr : Fr) (K2 : CH) : Prop :=
  ∃ n, m = ls.length - n ∧ n ≤ ls.length ∧ fr 1 = .pointer (some ⟨H.nx, 0, none⟩) ∧ fr 6 = .slice (some ⟨G.nx, 0, none⟩) tn tn ∧ fr 5 = .slice pl ls.length ls.length ∧
    fr 10 = .int .i64 n ∧ HExt K K2 ∧ refsOk ws tn ls (ls.take n) = true
theorem chain_none {ws : List Int} {tn : Nat} (h : chainG ws tn 1 = none) : formF ws tn = none := by
  unfold formF
  split
  · rfl
  · rw [Int.toNat_natCast, h]; rfl
theorem zer_bad {ws : List Int} {tn : Nat} (h : zerosOk ws tn = false) : formF ws tn = none := by
  unfold formF
  split
  · rfl
  · rw [Int.toNat_natCast]
    cases chainG ws tn 1 with
    | none => rfl
    | some l => simp [finF, h]
end Can
end Go.Proofs.Ytopmheekeooodaa
