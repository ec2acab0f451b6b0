/- A memory in form, as a function of its words. Plain. -/
import Derived.Test.YtopmheekeooodaaArLook
namespace Go.Proofs.Ytopmheekeooodaa
namespace Can
set_option linter.unusedSimpArgs false
set_option linter.unusedVariables false

/-- Does an object of size s begin at a? -/
def isObj (ws : List Int) (top a : Nat) : Bool := decide (3 ≤ top ∧ 1 ≤ a ∧ a + 1 < top) && okH (wd ws a) top a && decide (wd ws a / 72057594037927936 = 0 ∧ wd ws (a + 1) = 0)
def chainF (ws : List Int) (top : Nat) : Nat → Nat → Option (List Int)
  | 0, a => if top ≤ a then some [] else none
  | n + 1, a => if top ≤ a then some [] else if isObj ws top a then (chainF ws top n (a + (hdS (wd ws a)).toNat)).map ((a : Int) :: ·) else none
def chainG (ws : List Int) (top a : Nat) : Option (List Int) := chainF ws top (top - a) a
theorem isObj_parts {ws : List Int} {top a : Nat} (h : isObj ws top a = true) : 3 ≤ top ∧ 1 ≤ a ∧ a + 1 < top ∧ okH (wd ws a) top a = true ∧ wd ws a / 72057594037927936 = 0 ∧ wd ws (a + 1) = 0 := by
  unfold isObj at h
  simp only [Bool.and_eq_true, decide_eq_true_eq] at h
  exact ⟨h.1.1.1, h.1.1.2.1, h.1.1.2.2, h.1.2, h.2.1, h.2.2⟩
theorem okH_parts {h top a : Int} (g : okH h top a = true) : 0 < hdK h ∧ 2 + hdT h ≤ hdS h ∧ hdS h ≤ top - a ∧ 0 ≤ hdT h := by
  unfold okH at g
  have := of_decide_eq_true g
  refine ⟨this.1, this.2.1, this.2.2, ?_⟩
  unfold hdT; omega
theorem chainF_fuel (ws : List Int) (top : Nat) : ∀ (n m a : Nat), top - a ≤ n → top - a ≤ m → chainF ws top n a = chainF ws top m a
  | 0, 0, a, _, _ => rfl
  | 0, m + 1, a, h, _ => by
    have : top ≤ a := by omega
    simp [chainF, this]
  | n + 1, 0, a, _, h => by
    have : top ≤ a := by omega
    simp [chainF, this]
  | n + 1, m + 1, a, h, h' => by
    by_cases ht : top ≤ a
    · simp [chainF, ht]
    · by_cases ho : isObj ws top a = true
      · have h4 := (okH_parts (isObj_parts ho).2.2.2.1)
        simp only [chainF, if_neg ht, ho, if_true]
        rw [chainF_fuel ws top n m _ (by omega) (by omega)]
      · simp [chainF, ht, ho]
theorem chainG_end {ws : List Int} {top a : Nat} (h : top ≤ a) : chainG ws top a = some [] := by
  unfold chainG; cases top - a <;> simp [chainF, h]
theorem chainG_bad {ws : List Int} {top a : Nat} (h : a < top) (ho : isObj ws top a = false) : chainG ws top a = none := by
  unfold chainG
  obtain ⟨n, hn⟩ : ∃ n, top - a = n + 1 := ⟨top - a - 1, by omega⟩
  rw [hn]; simp [chainF, ho]; omega
theorem chainG_step {ws : List Int} {top a : Nat} (h : a < top) (ho : isObj ws top a = true) : chainG ws top a = (chainG ws top (a + (hdS (wd ws a)).toNat)).map ((a : Int) :: ·) := by
  have h4 := (okH_parts (isObj_parts ho).2.2.2.1)
  unfold chainG
  obtain ⟨n, hn⟩ : ∃ n, top - a = n + 1 := ⟨top - a - 1, by omega⟩
  rw [hn]
  simp only [chainF, if_neg (show ¬ top ≤ a by omega), ho, if_true]
  rw [chainF_fuel ws top n (top - (a + (hdS (wd ws a)).toNat)) _ (by omega) (Nat.le_refl _)]
/-- The reference of one word is sound. -/
def refOk (top : Nat) (l : List Int) (w : Int) : Bool := if kindF w = 3 then false else if kindF w = 0 then decide (w / 4 < top ∧ w / 4 ∈ l) else true
/-- The tagged words of the object at a, from the i-th on, are sound. -/
def objOk (ws : List Int) (top : Nat) (l : List Int) (a : Nat) : Bool := ((List.range (hdT (wd ws a)).toNat).map fun i => wd ws (a + 2 + i)).all (refOk top l)
def refsOk (ws : List Int) (top : Nat) (l : List Int) (k : List Int) : Bool := k.all fun a => objOk ws top l a.toNat
def zerosOk (ws : List Int) (top : Nat) : Bool := (ws.drop top).all (· == 0)
def finF (ws : List Int) (top : Nat) : Option (List Int) → Option (List Int)
  | none => none
  | some l => if refsOk ws top l l && zerosOk ws top then some l else none
def formF (ws : List Int) (top : Int) : Option (List Int) :=
  if ws.length < 2 ∨ 1048576 < ws.length ∨ top < 1 ∨ (ws.length : Int) < top ∨ wd ws 0 ≠ 0 then none else
  finF ws top.toNat (chainG ws top.toNat 1)
end Can
end Go.Proofs.Ytopmheekeooodaa
