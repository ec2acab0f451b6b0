/- From the form's own reading of an argument to the readings of Base. -/
import Derived.Test.YtmpojphjongdcaaBase
import Derived.Deep.Slices
namespace Go.Proofs.Ytmpojphjongdcaa
open Go.ChangeShapes Go.WideShapes Go.ChangeAt Go.RowKit Go.Deep
set_option linter.unusedSimpArgs false
set_option linter.unusedVariables false
theorem list_of {α : Type} {n : Nat} {p : Nat → α → Prop} (each : ∀ i, i < n → ∃ y, p i y) : ∃ ys : List α, ys.length = n ∧ ∀ i (h : i < ys.length), p i ys[i] := by
  induction n with
  | zero => exact ⟨[], rfl, fun i h => absurd h (Nat.not_lt_zero _)⟩
  | succ n ih =>
    obtain ⟨ys, hy1, hy2⟩ := ih (fun i hi => each i (by omega))
    obtain ⟨y, h1⟩ := each n (by omega)
    refine ⟨ys ++ [y], by simp [hy1], fun i hi => ?_⟩
    by_cases hin : i < ys.length
    · rw [List.getElem_append_left hin]; exact hy2 i hin
    · have e : i = n := by simp at hi; omega
      subst e
      rw [List.getElem_append_right (by omega)]
      simpa [hy1] using h1
section
variable {H : Type} {enc : TypeId × Value → H} {P : Program} {w : World} {base : Nat} {spare : Nat → Bool} {held : Bool}
/-- Whatever reads at this type is read by R. -/
def Opens {α : Type} (enc : TypeId × Value → H) (P : Program) (w : World) (base : Nat) (spare : Nat → Bool) (held : Bool) (t : TypeId) (R : Rep α) : Prop :=
  ∀ fuel cs x, DataW.trod enc P w base spare held fuel t cs = some x → ∃ y, R (fun b => b < w.heap.size) w cs y
theorem opens_int {t : TypeId} {k : IntKind} (ht : P.underlying t = some (.int k)) : Opens enc P w base spare held t (RInt k) := by
  intro fuel cs x h
  obtain ⟨n, h1, h2, h3⟩ := DataW.trod_int ht h
  exact ⟨n, h1, h3⟩
theorem opens_slice {α : Type} {R : Rep α} {t e : TypeId} {sz : Nat} (ht : P.underlying t = some (.slice e)) (hc : P.cellsOf e = sz) (hp : 0 < sz) (he : Opens enc P w base spare held e R) :
    Opens enc P w base spare held t (RSl sz R) := by
  intro fuel cs x h
  rcases open_slice ht h with ⟨rfl, _⟩ | ⟨a, len, cap, m, n, D, Pl, rfl, hb, hl, hm, hmm, _, hx⟩
  · exact ⟨[], RSl.nil _ _⟩
  · have hlm : len ≤ m := by rw [hmm]; split <;> omega
    have each : ∀ i, i < len → ∃ y : α, ∃ es : List Value, es.length = sz ∧ R (fun b => b < w.heap.size) w es y ∧ ∀ j (hj : j < es.length), w.cell? ((a.add (i * sz)).add j) = some es[j] := by
      intro i hi
      obtain ⟨cs', h1, h2⟩ := hx i (by omega)
      obtain ⟨y, hy⟩ := he _ _ _ h2
      rw [hc] at h1
      obtain ⟨_, hl', hcell⟩ := World.cells?_some h1
      exact ⟨y, cs', hl', hy, fun j hj => by rw [hcell j (by omega), List.getElem?_eq_getElem hj]⟩
    have hall : ∃ ys : List α, ys.length = len ∧ ∀ i (h : i < ys.length), ∃ es : List Value, es.length = sz ∧ R (fun b => b < w.heap.size) w es ys[i] ∧ ∀ j (hj : j < es.length), w.cell? ((a.add (i * sz)).add j) = some es[j] := by
      exact list_of each
    obtain ⟨ys, hy1, hy2⟩ := hall
    subst hy1
    refine ⟨ys, some a, cap, rfl, hl, hm, fun i hi => ?_⟩
    have hsp : a.spot = none := by
      obtain ⟨es, h1, _, h3⟩ := hy2 0 (by omega)
      have := h3 0 (by omega)
      simp only [Nat.zero_mul, Addr.add, if_true] at this
      unfold World.cell? at this
      cases hs : a.spot with
      | none => rfl
      | some k =>
        split at this
        · simp [hs] at this
        · cases this
    obtain ⟨ab, ao, asp⟩ := a
    simp only at hsp
    subst hsp
    obtain ⟨es, h1, h2, h3⟩ := hy2 i hi
    have hc0 := h3 0 (by omega)
    have hadd : ∀ k j, (((⟨ab, ao, none⟩ : Addr).add k).add j) = ⟨ab, ao + k + j, none⟩ := by
      intro k j
      unfold Addr.add
      (repeat' split) <;> simp_all
    rw [hadd] at hc0
    refine ⟨ab, ao, World.block_lt_of_cell? _ _ hc0, rfl, es, h1, h2, fun j hj => ?_⟩
    rw [← hadd]; exact h3 j hj
theorem opens_trod {α : Type} {R : Rep α} {t : TypeId} {v : Value} {d : DataW H} {p : List MemPlace} (he : Opens enc P w base spare held t R) (h : DataW.Trod enc P w base spare held t v d p) : ∃ y, R (fun b => b < w.heap.size) w v.cells.toList y := by
  obtain ⟨fuel, hf⟩ := h
  exact he fuel _ _ hf
end
end Go.Proofs.Ytmpojphjongdcaa
