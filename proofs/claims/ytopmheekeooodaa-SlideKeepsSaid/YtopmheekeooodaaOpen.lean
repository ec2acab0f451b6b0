/- What a value in memory reads as: slices, integers; what keeps a reading; append and make in these words. Plain lemmas over any program. -/
import Derived.Test.YtopmheekeooodaaRows
import Derived.WalkKit
import Derived.ProofKit
import Derived.OpenShut
import Derived.Lib.Hide
import Derived.Deep.Slices
namespace Go.Proofs.Ytopmheekeooodaa
open Go.ChangeShapes Go.WideShapes Go.ChangeAt Go.RowKit
set_option linter.unusedSimpArgs false
set_option linter.unusedVariables false
set_option linter.unusedSectionVars false

theorem ret_int {k : IntKind} {a b : Int} (h : a = b) : Ending.returned (.int k a) = .returned (.int k b) := by rw [h]
theorem ret_bool {a b : Bool} (h : a = b) : Ending.returned (.bool a) = .returned (.bool b) := by rw [h]

/-- The blocks of S hold in w' what they held in w. -/
def Agree (S : Nat → Prop) (w w' : World) : Prop := ∀ b, S b → w'.heap[b]? = w.heap[b]?
theorem Agree.refl (S : Nat → Prop) (w : World) : Agree S w w := fun _ _ => rfl
theorem Agree.trans {S : Nat → Prop} {a b c : World} (h : Agree S a b) (k : Agree S b c) : Agree S a c := fun i hi => (k i hi).trans (h i hi)
theorem Agree.sub {S T : Nat → Prop} {w w' : World} (h : Agree T w w') (hs : ∀ b, S b → T b) : Agree S w w' := fun b hb => h b (hs b hb)
theorem Agree.cell {S : Nat → Prop} {w w' : World} (h : Agree S w w') {a : Addr} (ha : S a.block) : w'.cell? a = w.cell? a := World.cell?_of_block (w := w) (h _ ha)
theorem Agree.of_below {B : Nat} {w w' : World} (h : Below B w w') : Agree (· < B) w w' := fun b hb => h.block b hb

/-- A way of reading a row of cells xa data. -/
abbrev Rep (α : Type) := (Nat → Prop) → World → List Value → α → Prop
structure Rep.Good {α : Type} (R : Rep α) : Prop where
  keep : ∀ {S w w' cs x}, Agree S w w' → R S w cs x → R S w' cs x
  wider : ∀ {S T : Nat → Prop} {w cs x}, (∀ b, S b → T b) → R S w cs x → R T w cs x

def RInt (k : IntKind) : Rep Int := fun _ _ cs x => cs = [.int k x] ∧ (Lit.int k x).wf = true
theorem RInt.good (k : IntKind) : (RInt k).Good := ⟨fun _ h => h, fun _ h => h⟩
def RBool : Rep Bool := fun _ _ cs x => cs = [.bool x]
theorem RBool.good : RBool.Good := ⟨fun _ h => h, fun _ h => h⟩

/-- A slice whose elements take sz cells each. -/
def RSl {α : Type} (sz : Nat) (R : Rep α) : Rep (List α) := fun S w cs xs =>
  ∃ a cap, cs = [.slice a xs.length cap] ∧ xs.length ≤ cap ∧ cap ≤ maxLen ∧
    ∀ i (h : i < xs.length), ∃ b o, S b ∧ a = some ⟨b, o, none⟩ ∧ ∃ es : List Value, es.length = sz ∧ R S w es xs[i] ∧
      ∀ j (hj : j < es.length), w.cell? ⟨b, o + i * sz + j, none⟩ = some es[j]
theorem RSl.good {α : Type} {sz : Nat} {R : Rep α} (g : R.Good) : (RSl sz R).Good := by
  refine ⟨?_, ?_⟩
  · rintro S w w' cs xs hA ⟨a, cap, hcs, h1, h2, h⟩
    refine ⟨a, cap, hcs, h1, h2, fun i hi => ?_⟩
    obtain ⟨b, o, hb, ha, es, he, hr, hc⟩ := h i hi
    exact ⟨b, o, hb, ha, es, he, g.keep hA hr, fun j hj => (hA.cell (a := ⟨b, _, none⟩) hb).trans (hc j hj)⟩
  · rintro S T w cs xs hA ⟨a, cap, hcs, h1, h2, h⟩
    refine ⟨a, cap, hcs, h1, h2, fun i hi => ?_⟩
    obtain ⟨b, o, hb, ha, es, he, hr, hc⟩ := h i hi
    exact ⟨b, o, hA b hb, ha, es, he, g.wider hA hr, hc⟩

abbrev RInts : Rep (List Int) := RSl 1 (RInt .i64)
abbrev RRows : Rep (List (List Int)) := RSl 1 RInts
theorem RInts.good : RInts.Good := RSl.good (RInt.good _)
theorem RRows.good : RRows.Good := RSl.good RInts.good

theorem RSl.nil {α : Type} {sz : Nat} {R : Rep α} (S : Nat → Prop) (w : World) : RSl sz R S w [.slice none 0 0] [] :=
  ⟨none, 0, rfl, Nat.le_refl _, Nat.zero_le _, fun i h => absurd h (Nat.not_lt_zero _)⟩

/-- Element i of a slice of one-cell elements. -/
theorem RSl.get1 {α : Type} {R : Rep α} {S : Nat → Prop} {w : World} {a : Option Addr} {n cap : Nat} {xs : List α} (h : RSl 1 R S w [.slice a n cap] xs) (i : Nat) (hi : i < n) :
    ∃ b o, S b ∧ a = some ⟨b, o, none⟩ ∧ ∃ (hx : i < xs.length) (v : Value), R S w [v] xs[i] ∧ w.cell? ⟨b, o + i, none⟩ = some v := by
  obtain ⟨a', cap', hcs, h1, h2, h⟩ := h
  simp only [List.cons.injEq, and_true, Value.slice.injEq] at hcs
  obtain ⟨rfl, rfl, rfl⟩ := hcs
  obtain ⟨b, o, hb, ha, es, he, hr, hc⟩ := h i hi
  obtain ⟨v, rfl⟩ : ∃ v, es = [v] := by
    match es, he with
    | [v], _ => exact ⟨v, rfl⟩
  exact ⟨b, o, hb, ha, hi, v, hr, by simpa using hc 0 (by simp)⟩
theorem RSl.form {α : Type} {sz : Nat} {R : Rep α} {S : Nat → Prop} {w : World} {v : Value} {xs : List α} (h : RSl sz R S w [v] xs) :
    ∃ a cap, v = .slice a xs.length cap ∧ xs.length ≤ cap ∧ cap ≤ maxLen := by
  obtain ⟨a, cap, hcs, h1, h2, _⟩ := h
  exact ⟨a, cap, by simpa using hcs, h1, h2⟩
theorem RInts.get {S : Nat → Prop} {w : World} {a : Option Addr} {n cap : Nat} {xs : List Int} (h : RInts S w [.slice a n cap] xs) (i : Nat) (hi : i < n) :
    ∃ b o, S b ∧ a = some ⟨b, o, none⟩ ∧ ∃ hx : i < xs.length, w.cell? ⟨b, o + i, none⟩ = some (.int .i64 xs[i]) ∧ -9223372036854775808 ≤ xs[i] ∧ xs[i] ≤ 9223372036854775807 := by
  obtain ⟨b, o, hb, ha, hx, v, ⟨hv, hw⟩, hc⟩ := RSl.get1 h i hi
  have hbd := bounds_i64 hw
  refine ⟨b, o, hb, ha, hx, by rw [hc]; simp at hv; rw [hv], hbd.1, hbd.2⟩

/-- The elements behind the first k. -/
theorem RSl.drop {α : Type} {sz : Nat} {R : Rep α} {S : Nat → Prop} {w : World} {a : Option Addr} {n cap : Nat} {xs : List α} (h : RSl sz R S w [.slice a n cap] xs) (k : Nat) (hk : k ≤ n) :
    RSl sz R S w [sliced a k n cap sz] (xs.drop k) := by
  obtain ⟨a', cap', hcs, h1, h2, h⟩ := h
  simp only [List.cons.injEq, and_true, Value.slice.injEq] at hcs
  obtain ⟨rfl, rfl, rfl⟩ := hcs
  refine ⟨if cap = k then a else a.map (·.add (k * sz)), cap - k, by simp [sliced], by simp; omega, by omega, fun i hi => ?_⟩
  have hi' : i < xs.length - k := by simpa using hi
  obtain ⟨b, o, hb, rfl, es, he, hr, hc⟩ := h (k + i) (by omega)
  refine ⟨b, o + k * sz, hb, ?_, es, he, by simpa using hr, fun j hj => ?_⟩
  · rw [if_neg (by omega)]
    simp only [Option.map_some, Addr.add]
    split
    · rename_i e; rw [e]; rfl
    · rfl
  · rw [← hc j hj]
    congr 2
    rw [Nat.add_mul]; omega
/-- The first k elements. -/
theorem RSl.take {α : Type} {sz : Nat} {R : Rep α} {S : Nat → Prop} {w : World} {a : Option Addr} {n cap : Nat} {xs : List α} (h : RSl sz R S w [.slice a n cap] xs) (k : Nat) (hk : k ≤ n) :
    RSl sz R S w [sliced a 0 k cap sz] (xs.take k) := by
  obtain ⟨a', cap', hcs, h1, h2, h⟩ := h
  simp only [List.cons.injEq, and_true, Value.slice.injEq] at hcs
  obtain ⟨rfl, rfl, rfl⟩ := hcs
  have hl : (xs.take k).length = k := by simp; omega
  refine ⟨if cap = 0 then a else a.map (·.add (0 * sz)), cap - 0, by simp [sliced, hl], by rw [hl]; omega, by omega, fun i hi => ?_⟩
  rw [hl] at hi
  obtain ⟨b, o, hb, rfl, es, he, hr, hc⟩ := h i (by omega)
  refine ⟨b, o, hb, ?_, es, he, by simpa using hr, fun j hj => hc j hj⟩
  split
  · rfl
  · simp [Addr.add]
theorem RSl.len {α : Type} {sz : Nat} {R : Rep α} {S : Nat → Prop} {w : World} {a : Option Addr} {n cap : Nat} {xs : List α} (h : RSl sz R S w [.slice a n cap] xs) : n = xs.length ∧ n ≤ cap ∧ cap ≤ maxLen := by
  obtain ⟨a', cap', hcs, h1, h2, h⟩ := h
  simp only [List.cons.injEq, and_true, Value.slice.injEq] at hcs
  obtain ⟨rfl, rfl, rfl⟩ := hcs
  exact ⟨rfl, h1, h2⟩
section
variable {P : Program} {T E sz : Nat} (hT : P.underlying T = some (.slice E)) (hE : (P.info? E).map (·.size) = some sz)
include hT hE
theorem run_sizeOf_of (w : World) : (sizeOf E).run P w = .ok sz w := by
  cases hi : P.info? E with
  | none => simp [hi] at hE
  | some i => simp [hi] at hE; simp [sizeOf, typeInfo, hi, hE]
theorem slice_low (a : Option Addr) (n cap k : Nat) (hk : k ≤ n) (w : World) :
    (Instr.slice T (.slice a n cap) (some (.int .i64 (k : Int))) none none).run P w = .ok (sliced a k n cap sz) w := by
  have hel : P.elem T = E := by simp [Program.elem, hT]
  rw [run_slice_l w T a n cap (by rw [hel]; exact hT) .i64 k (by omega) (by omega), hel, run_sizeOf_of hT hE]; simp
theorem slice_high (a : Option Addr) (n cap k : Nat) (hk : k ≤ cap) (w : World) :
    (Instr.slice T (.slice a n cap) none (some (.int .i64 (k : Int))) none).run P w = .ok (sliced a 0 k cap sz) w := by
  have hel : P.elem T = E := by simp [Program.elem, hT]
  rw [run_slice_h w T a n cap (by rw [hel]; exact hT) .i64 k (by omega) (by omega), hel, run_sizeOf_of hT hE]; simp
end
/-- 'x[k:]': its value under one name. -/
theorem RSl.low {P : Program} {T E sz : Nat} (hT : P.underlying T = some (.slice E)) (hE : (P.info? E).map (·.size) = some sz) {α : Type} {R : Rep α} {S : Nat → Prop} {w : World} {v : Value} {xs : List α} (h : RSl sz R S w [v] xs) (k : Nat) (hk : k ≤ xs.length) :
    ∃ v', (∀ w', (Instr.slice T v (some (.int .i64 (k : Int))) none none).run P w' = .ok v' w') ∧ RSl sz R S w [v'] (xs.drop k) := by
  obtain ⟨a, cap, rfl, _, _⟩ := h.form
  exact ⟨_, slice_low hT hE a _ cap k hk, h.drop k hk⟩
theorem RSl.high {P : Program} {T E sz : Nat} (hT : P.underlying T = some (.slice E)) (hE : (P.info? E).map (·.size) = some sz) {α : Type} {R : Rep α} {S : Nat → Prop} {w : World} {v : Value} {xs : List α} (h : RSl sz R S w [v] xs) (k : Nat) (hk : k ≤ xs.length) :
    ∃ v', (∀ w', (Instr.slice T v none (some (.int .i64 (k : Int))) none).run P w' = .ok v' w') ∧ RSl sz R S w [v'] (xs.take k) := by
  obtain ⟨a, cap, rfl, _, _⟩ := h.form
  exact ⟨_, slice_high hT hE a _ cap k (by omega), h.take k hk⟩
end Go.Proofs.Ytopmheekeooodaa
/- From the form's own reading of an argument to the readings of Base. -/
namespace Go.Proofs.Ytopmheekeooodaa
open Go.ChangeShapes Go.WideShapes Go.ChangeAt Go.RowKit Go.Deep
set_option linter.unusedSimpArgs false
set_option linter.unusedVariables false
theorem list_of {α : Type} {n : Nat} {p : Nat → α → Prop} (each : ∀ i, i < n → ∃ y, p i y) : ∃ ys : List α, ys.length = n ∧ ∀ i (h : i < ys.length), p i ys[i] := by
  induction n with
  | zero => exact ⟨[], rfl, fun i h => absurd h (Nat.not_lt_zero _)⟩
  | succ n ih =>
    obtain ⟨ys, hy1, hy2⟩ := ih (fun i hi => each i (by omega))
    obtain ⟨y, h1⟩ := each n (by omega)
    refine ⟨ys ++ [y], by simp [hy1], fun i hi => ?_⟩
    by_cases hin : i < ys.length
    · rw [List.getElem_append_left hin]; exact hy2 i hin
    · have e : i = n := by simp at hi; omega
      subst e
      rw [List.getElem_append_right (by omega)]
      simpa [hy1] using h1
section
variable {H : Type} {enc : TypeId × Value → H} {P : Program} {w : World} {base : Nat} {spare : Nat → Bool} {held : Bool}
/-- Whatever reads at this type is read by R. -/
def Opens {α : Type} (enc : TypeId × Value → H) (P : Program) (w : World) (base : Nat) (spare : Nat → Bool) (held : Bool) (t : TypeId) (R : Rep α) : Prop :=
  ∀ fuel cs x, DataW.trod enc P w base spare held fuel t cs = some x → ∃ y, R (fun b => b < w.heap.size) w cs y
theorem opens_int {t : TypeId} {k : IntKind} (ht : P.underlying t = some (.int k)) : Opens enc P w base spare held t (RInt k) := by
  intro fuel cs x h
  obtain ⟨n, h1, h2, h3⟩ := DataW.trod_int ht h
  exact ⟨n, h1, h3⟩
theorem opens_slice {α : Type} {R : Rep α} {t e : TypeId} {sz : Nat} (ht : P.underlying t = some (.slice e)) (hc : P.cellsOf e = sz) (hp : 0 < sz) (he : Opens enc P w base spare held e R) :
    Opens enc P w base spare held t (RSl sz R) := by
  intro fuel cs x h
  rcases open_slice ht h with ⟨rfl, _⟩ | ⟨a, len, cap, m, n, D, Pl, rfl, hb, hl, hm, hmm, _, hx⟩
  · exact ⟨[], RSl.nil _ _⟩
  · have hlm : len ≤ m := by rw [hmm]; split <;> omega
    have each : ∀ i, i < len → ∃ y : α, ∃ es : List Value, es.length = sz ∧ R (fun b => b < w.heap.size) w es y ∧ ∀ j (hj : j < es.length), w.cell? ((a.add (i * sz)).add j) = some es[j] := by
      intro i hi
      obtain ⟨cs', h1, h2⟩ := hx i (by omega)
      obtain ⟨y, hy⟩ := he _ _ _ h2
      rw [hc] at h1
      obtain ⟨_, hl', hcell⟩ := World.cells?_some h1
      exact ⟨y, cs', hl', hy, fun j hj => by rw [hcell j (by omega), List.getElem?_eq_getElem hj]⟩
    have hall : ∃ ys : List α, ys.length = len ∧ ∀ i (h : i < ys.length), ∃ es : List Value, es.length = sz ∧ R (fun b => b < w.heap.size) w es ys[i] ∧ ∀ j (hj : j < es.length), w.cell? ((a.add (i * sz)).add j) = some es[j] := by
      exact list_of each
    obtain ⟨ys, hy1, hy2⟩ := hall
    subst hy1
    refine ⟨ys, some a, cap, rfl, hl, hm, fun i hi => ?_⟩
    have hsp : a.spot = none := by
      obtain ⟨es, h1, _, h3⟩ := hy2 0 (by omega)
      have := h3 0 (by omega)
      simp only [Nat.zero_mul, Addr.add, if_true] at this
      unfold World.cell? at this
      cases hs : a.spot with
      | none => rfl
      | some k =>
        split at this
        · simp [hs] at this
        · cases this
    obtain ⟨ab, ao, asp⟩ := a
    simp only at hsp
    subst hsp
    obtain ⟨es, h1, h2, h3⟩ := hy2 i hi
    have hc0 := h3 0 (by omega)
    have hadd : ∀ k j, (((⟨ab, ao, none⟩ : Addr).add k).add j) = ⟨ab, ao + k + j, none⟩ := by
      intro k j
      unfold Addr.add
      (repeat' split) <;> simp_all
    rw [hadd] at hc0
    refine ⟨ab, ao, World.block_lt_of_cell? _ _ hc0, rfl, es, h1, h2, fun j hj => ?_⟩
    rw [← hadd]; exact h3 j hj
theorem opens_trod {α : Type} {R : Rep α} {t : TypeId} {v : Value} {d : DataW H} {p : List MemPlace} (he : Opens enc P w base spare held t R) (h : DataW.Trod enc P w base spare held t v d p) : ∃ y, R (fun b => b < w.heap.size) w v.cells.toList y := by
  obtain ⟨fuel, hf⟩ := h
  exact he fuel _ _ hf
end
end Go.Proofs.Ytopmheekeooodaa
